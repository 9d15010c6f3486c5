/- The types and functions of this translation, as the abstract machine asks for them. Conditions: none. Printed by a program (wip/tools/gentab.py). -/
import Derived.Test.YtphmekpaalfliaaAm
import Derived.Test.YtphmekpaalfliaaProg
namespace Go.Proofs.Ytphmekpaalfliaa
open Go Go.Am

noncomputable def t3 : TI := ⟨false, 1, 8, [.int .i64 0], .int .i64⟩
noncomputable def t4 : TI := ⟨false, 1, 1, [.bool false], .bool⟩
noncomputable def t5 : TI := ⟨false, 1, 1, [.int .u8 0], .int .u8⟩
noncomputable def t22 : TI := ⟨false, 1, 24, [.slice none 0 0], .slice 28 4⟩
noncomputable def t23 : TI := ⟨false, 1, 24, [.slice none 0 0], .slice 128 3⟩
noncomputable def t25 : TI := ⟨true, 3, 56, [.int .i64 0, .slice none 0 0, .slice none 0 0], .struct [⟨0, 1, 3⟩, ⟨1, 1, 22⟩, ⟨2, 1, 23⟩]⟩
noncomputable def t26 : TI := ⟨false, 1, 24, [.slice none 0 0], .slice 3 1⟩
noncomputable def t28 : TI := ⟨true, 4, 48, [.int .i64 0, .int .i64 0, .int .i64 0, .slice none 0 0], .struct [⟨0, 1, 3⟩, ⟨1, 1, 3⟩, ⟨2, 1, 3⟩, ⟨3, 1, 26⟩]⟩
noncomputable def t31 : TI := ⟨false, 1, 8, [.int .i64 0], .int .i64⟩
noncomputable def t36 : TI := ⟨false, 1, 24, [.slice none 0 0], .slice 41 4⟩
noncomputable def t38 : TI := ⟨true, 2, 16, [.int .i64 0, .int .i64 0], .struct [⟨0, 1, 3⟩, ⟨1, 1, 3⟩]⟩
noncomputable def t41 : TI := ⟨true, 4, 32, [.int .i64 0, .int .i64 0, .int .i64 0, .int .i64 0], .struct [⟨0, 1, 3⟩, ⟨1, 1, 3⟩, ⟨2, 2, 38⟩]⟩
noncomputable def t44 : TI := ⟨false, 1, 24, [.slice none 0 0], .slice 38 2⟩
noncomputable def t56 : TI := ⟨true, 3, 24, [.int .i64 0, .int .i64 0, .int .i64 0], .struct [⟨0, 1, 3⟩, ⟨1, 1, 3⟩, ⟨2, 1, 31⟩]⟩
noncomputable def t58 : TI := ⟨false, 1, 24, [.slice none 0 0], .slice 67 3⟩
noncomputable def t62 : TI := ⟨true, 2, 32, [.slice none 0 0, .int .i64 0], .struct [⟨0, 1, 58⟩, ⟨1, 1, 31⟩]⟩
noncomputable def t67 : TI := ⟨true, 3, 24, [.int .i64 0, .int .i64 0, .int .i64 0], .struct [⟨0, 2, 38⟩, ⟨2, 1, 3⟩]⟩
noncomputable def t69 : TI := ⟨false, 1, 2, [.int .u16 0], .int .u16⟩
noncomputable def t77 : TI := ⟨true, 2, 32, [.slice none 0 0, .int .i64 0], .struct [⟨0, 1, 44⟩, ⟨1, 1, 31⟩]⟩
noncomputable def t86 : TI := ⟨true, 2, 32, [.slice none 0 0, .int .i64 0], .struct [⟨0, 1, 26⟩, ⟨1, 1, 31⟩]⟩
noncomputable def t98 : TI := ⟨true, 5, 56, [.int .i64 0, .int .i64 0, .int .i64 0, .slice none 0 0, .int .i64 0], .struct [⟨0, 4, 28⟩, ⟨4, 1, 31⟩]⟩
noncomputable def t101 : TI := ⟨false, 1, 24, [.slice none 0 0], .slice 105 2⟩
noncomputable def t105 : TI := ⟨true, 2, 16, [.int .i64 0, .int .i64 0], .arr 2 3 1⟩
noncomputable def t108 : TI := ⟨false, 1, 8, [.nilFunc], .func⟩
noncomputable def t109 : TI := ⟨false, 1, 8, [.nilFunc], .func⟩
noncomputable def t111 : TI := ⟨false, 1, 8, [.nilFunc], .func⟩
noncomputable def t113 : TI := ⟨false, 1, 24, [.slice none 0 0], .slice 123 6⟩
noncomputable def t119 : TI := ⟨false, 1, 8, [.nilFunc], .func⟩
noncomputable def t123 : TI := ⟨true, 6, 48, [.int .i64 0, .int .i64 0, .int .i64 0, .int .i64 0, .int .i64 0, .int .i64 0], .struct [⟨0, 4, 41⟩, ⟨4, 2, 38⟩]⟩
noncomputable def t128 : TI := ⟨true, 3, 24, [.int .i64 0, .int .i64 0, .int .i64 0], .struct [⟨0, 1, 3⟩, ⟨1, 1, 3⟩, ⟨2, 1, 3⟩]⟩
noncomputable def t133 : TI := ⟨false, 1, 24, [.slice none 0 0], .slice 25 3⟩
noncomputable def t135 : TI := ⟨false, 1, 8, [.map none], .map 3 111⟩
noncomputable def t137 : TI := ⟨false, 1, 8, [.map none], .map 3 3⟩
noncomputable def t139 : TI := ⟨true, 5, 72, [.int .i64 0, .slice none 0 0, .slice none 0 0, .map none, .map none], .struct [⟨0, 3, 25⟩, ⟨3, 1, 135⟩, ⟨4, 1, 137⟩]⟩
noncomputable def t143 : TI := ⟨true, 7, 56, [.int .i64 0, .int .i64 0, .int .i64 0, .int .i64 0, .int .i64 0, .int .i64 0, .int .i64 0], .arr 7 3 1⟩
noncomputable def t145 : TI := ⟨true, 7, 56, [.int .i64 0, .int .i64 0, .int .i64 0, .int .i64 0, .int .i64 0, .int .i64 0, .int .i64 0], .struct [⟨0, 7, 143⟩]⟩
noncomputable def t153 : TI := ⟨false, 1, 8, [.nilFunc], .func⟩
noncomputable def t160 : TI := ⟨false, 1, 8, [.nilFunc], .func⟩
noncomputable def t168 : TI := ⟨false, 1, 8, [.int .u64 0], .int .u64⟩
noncomputable def t173 : TI := ⟨false, 1, 8, [.int .i64 0], .int .i64⟩
noncomputable def t180 : TI := ⟨false, 1, 4, [.int .u32 0], .int .u32⟩
noncomputable def t182 : TI := ⟨false, 1, 8, [.int .u64 0], .int .u64⟩
noncomputable def t189 : TI := ⟨false, 1, 8, [.int .u64 0], .int .u64⟩
noncomputable def t193 : TI := ⟨false, 1, 8, [.pointer none], .ptr⟩
noncomputable def tyT : BT TI := (.node 105 t105 (.node 41 t41 (.node 25 t25 (.node 5 t5 (.node 4 t4 (.node 3 t3 .nil .nil) .nil) (.node 23 t23 (.node 22 t22 .nil .nil) .nil)) (.node 31 t31 (.node 28 t28 (.node 26 t26 .nil .nil) .nil) (.node 38 t38 (.node 36 t36 .nil .nil) .nil))) (.node 69 t69 (.node 58 t58 (.node 56 t56 (.node 44 t44 .nil .nil) .nil) (.node 67 t67 (.node 62 t62 .nil .nil) .nil)) (.node 98 t98 (.node 86 t86 (.node 77 t77 .nil .nil) .nil) (.node 101 t101 .nil .nil)))) (.node 139 t139 (.node 123 t123 (.node 111 t111 (.node 109 t109 (.node 108 t108 .nil .nil) .nil) (.node 119 t119 (.node 113 t113 .nil .nil) .nil)) (.node 135 t135 (.node 133 t133 (.node 128 t128 .nil .nil) .nil) (.node 137 t137 .nil .nil))) (.node 173 t173 (.node 153 t153 (.node 145 t145 (.node 143 t143 .nil .nil) .nil) (.node 168 t168 (.node 160 t160 .nil .nil) .nil)) (.node 189 t189 (.node 182 t182 (.node 180 t180 .nil .nil) .nil) (.node 193 t193 .nil .nil)))))
noncomputable def fnT : BT Func := (.node 79 Try.f79 (.node 41 Try.f41 (.node 22 Try.f22 (.node 12 Try.f12 (.node 7 Try.f7 (.node 5 Try.f5 (.node 4 Try.f4 (.node 3 Try.f3 .nil .nil) .nil) (.node 6 Try.f6 .nil .nil)) (.node 10 Try.f10 (.node 9 Try.f9 (.node 8 Try.f8 .nil .nil) .nil) (.node 11 Try.f11 .nil .nil))) (.node 17 Try.f17 (.node 15 Try.f15 (.node 14 Try.f14 (.node 13 Try.f13 .nil .nil) .nil) (.node 16 Try.f16 .nil .nil)) (.node 20 Try.f20 (.node 19 Try.f19 (.node 18 Try.f18 .nil .nil) .nil) (.node 21 Try.f21 .nil .nil)))) (.node 32 Try.f32 (.node 27 Try.f27 (.node 25 Try.f25 (.node 24 Try.f24 (.node 23 Try.f23 .nil .nil) .nil) (.node 26 Try.f26 .nil .nil)) (.node 30 Try.f30 (.node 29 Try.f29 (.node 28 Try.f28 .nil .nil) .nil) (.node 31 Try.f31 .nil .nil))) (.node 37 Try.f37 (.node 35 Try.f35 (.node 34 Try.f34 (.node 33 Try.f33 .nil .nil) .nil) (.node 36 Try.f36 .nil .nil)) (.node 39 Try.f39 (.node 38 Try.f38 .nil .nil) (.node 40 Try.f40 .nil .nil))))) (.node 60 Try.f60 (.node 51 Try.f51 (.node 46 Try.f46 (.node 44 Try.f44 (.node 43 Try.f43 (.node 42 Try.f42 .nil .nil) .nil) (.node 45 Try.f45 .nil .nil)) (.node 49 Try.f49 (.node 48 Try.f48 (.node 47 Try.f47 .nil .nil) .nil) (.node 50 Try.f50 .nil .nil))) (.node 56 Try.f56 (.node 54 Try.f54 (.node 53 Try.f53 (.node 52 Try.f52 .nil .nil) .nil) (.node 55 Try.f55 .nil .nil)) (.node 58 Try.f58 (.node 57 Try.f57 .nil .nil) (.node 59 Try.f59 .nil .nil)))) (.node 70 Try.f70 (.node 65 Try.f65 (.node 63 Try.f63 (.node 62 Try.f62 (.node 61 Try.f61 .nil .nil) .nil) (.node 64 Try.f64 .nil .nil)) (.node 68 Try.f68 (.node 67 Try.f67 (.node 66 Try.f66 .nil .nil) .nil) (.node 69 Try.f69 .nil .nil))) (.node 75 Try.f75 (.node 73 Try.f73 (.node 72 Try.f72 (.node 71 Try.f71 .nil .nil) .nil) (.node 74 Try.f74 .nil .nil)) (.node 77 Try.f77 (.node 76 Try.f76 .nil .nil) (.node 78 Try.f78 .nil .nil)))))) (.node 117 Try.f117 (.node 98 Try.f98 (.node 89 Try.f89 (.node 84 Try.f84 (.node 82 Try.f82 (.node 81 Try.f81 (.node 80 Try.f80 .nil .nil) .nil) (.node 83 Try.f83 .nil .nil)) (.node 87 Try.f87 (.node 86 Try.f86 (.node 85 Try.f85 .nil .nil) .nil) (.node 88 Try.f88 .nil .nil))) (.node 94 Try.f94 (.node 92 Try.f92 (.node 91 Try.f91 (.node 90 Try.f90 .nil .nil) .nil) (.node 93 Try.f93 .nil .nil)) (.node 96 Try.f96 (.node 95 Try.f95 .nil .nil) (.node 97 Try.f97 .nil .nil)))) (.node 108 Try.f108 (.node 103 Try.f103 (.node 101 Try.f101 (.node 100 Try.f100 (.node 99 Try.f99 .nil .nil) .nil) (.node 102 Try.f102 .nil .nil)) (.node 106 Try.f106 (.node 105 Try.f105 (.node 104 Try.f104 .nil .nil) .nil) (.node 107 Try.f107 .nil .nil))) (.node 113 Try.f113 (.node 111 Try.f111 (.node 110 Try.f110 (.node 109 Try.f109 .nil .nil) .nil) (.node 112 Try.f112 .nil .nil)) (.node 115 Try.f115 (.node 114 Try.f114 .nil .nil) (.node 116 Try.f116 .nil .nil))))) (.node 136 Try.f136 (.node 127 Try.f127 (.node 122 Try.f122 (.node 120 Try.f120 (.node 119 Try.f119 (.node 118 Try.f118 .nil .nil) .nil) (.node 121 Try.f121 .nil .nil)) (.node 125 Try.f125 (.node 124 Try.f124 (.node 123 Try.f123 .nil .nil) .nil) (.node 126 Try.f126 .nil .nil))) (.node 132 Try.f132 (.node 130 Try.f130 (.node 129 Try.f129 (.node 128 Try.f128 .nil .nil) .nil) (.node 131 Try.f131 .nil .nil)) (.node 134 Try.f134 (.node 133 Try.f133 .nil .nil) (.node 135 Try.f135 .nil .nil)))) (.node 146 Try.f146 (.node 141 Try.f141 (.node 139 Try.f139 (.node 138 Try.f138 (.node 137 Try.f137 .nil .nil) .nil) (.node 140 Try.f140 .nil .nil)) (.node 144 Try.f144 (.node 143 Try.f143 (.node 142 Try.f142 .nil .nil) .nil) (.node 145 Try.f145 .nil .nil))) (.node 151 Try.f151 (.node 149 Try.f149 (.node 148 Try.f148 (.node 147 Try.f147 .nil .nil) .nil) (.node 150 Try.f150 .nil .nil)) (.node 153 Try.f153 (.node 152 Try.f152 .nil .nil) (.node 154 Try.f154 .nil .nil)))))))
noncomputable def cfg (X : Nat → List V → V → Prop) : Cfg := ⟨Try.prog, tyT.get, fnT.get, X⟩
end Go.Proofs.Ytphmekpaalfliaa
