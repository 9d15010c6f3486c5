/- The types and functions of this translation, as the abstract machine asks for them. Conditions: none. Printed by a program (wip/tools/gentab.py). -/
import Derived.Test.YtphmekpaalfliaaGreatAm
import Derived.Test.YtphmekpaalfliaaGreatProg
namespace Go.Proofs.YtphmekpaalfliaaGreat
open Go Go.Am

noncomputable def t3 : TI := ⟨false, 1, 8, [.int .i64 0], .int .i64⟩
noncomputable def t4 : TI := ⟨false, 1, 1, [.bool false], .bool⟩
noncomputable def t5 : TI := ⟨false, 1, 1, [.int .u8 0], .int .u8⟩
noncomputable def t22 : TI := ⟨false, 1, 24, [.slice none 0 0], .slice 55 4⟩
noncomputable def t23 : TI := ⟨false, 1, 24, [.slice none 0 0], .slice 103 3⟩
noncomputable def t25 : TI := ⟨true, 3, 56, [.int .i64 0, .slice none 0 0, .slice none 0 0], .struct [⟨0, 1, 3⟩, ⟨1, 1, 22⟩, ⟨2, 1, 23⟩]⟩
noncomputable def t26 : TI := ⟨false, 1, 24, [.slice none 0 0], .slice 75 4⟩
noncomputable def t29 : TI := ⟨false, 1, 24, [.slice none 0 0], .slice 3 1⟩
noncomputable def t30 : TI := ⟨false, 1, 8, [.int .i64 0], .int .i64⟩
noncomputable def t34 : TI := ⟨true, 2, 32, [.slice none 0 0, .int .i64 0], .struct [⟨0, 1, 29⟩, ⟨1, 1, 30⟩]⟩
noncomputable def t39 : TI := ⟨true, 2, 16, [.int .i64 0, .int .i64 0], .struct [⟨0, 1, 3⟩, ⟨1, 1, 3⟩]⟩
noncomputable def t43 : TI := ⟨true, 3, 24, [.int .i64 0, .int .i64 0, .int .i64 0], .struct [⟨0, 2, 39⟩, ⟨2, 1, 30⟩]⟩
noncomputable def t47 : TI := ⟨false, 1, 24, [.slice none 0 0], .slice 97 2⟩
noncomputable def t51 : TI := ⟨true, 2, 32, [.slice none 0 0, .int .i64 0], .struct [⟨0, 1, 47⟩, ⟨1, 1, 30⟩]⟩
noncomputable def t55 : TI := ⟨true, 4, 48, [.int .i64 0, .int .i64 0, .int .i64 0, .slice none 0 0], .struct [⟨0, 1, 3⟩, ⟨1, 1, 3⟩, ⟨2, 1, 3⟩, ⟨3, 1, 29⟩]⟩
noncomputable def t61 : TI := ⟨false, 1, 24, [.slice none 0 0], .slice 70 3⟩
noncomputable def t64 : TI := ⟨false, 1, 24, [.slice none 0 0], .slice 39 2⟩
noncomputable def t70 : TI := ⟨true, 3, 24, [.int .i64 0, .int .i64 0, .int .i64 0], .struct [⟨0, 2, 39⟩, ⟨2, 1, 3⟩]⟩
noncomputable def t75 : TI := ⟨true, 4, 32, [.int .i64 0, .int .i64 0, .int .i64 0, .int .i64 0], .struct [⟨0, 1, 3⟩, ⟨1, 1, 3⟩, ⟨2, 2, 39⟩]⟩
noncomputable def t80 : TI := ⟨false, 1, 24, [.slice none 0 0], .slice 89 6⟩
noncomputable def t89 : TI := ⟨true, 6, 48, [.int .i64 0, .int .i64 0, .int .i64 0, .int .i64 0, .int .i64 0, .int .i64 0], .struct [⟨0, 4, 75⟩, ⟨4, 2, 39⟩]⟩
noncomputable def t90 : TI := ⟨false, 1, 8, [.nilFunc], .func⟩
noncomputable def t92 : TI := ⟨false, 1, 8, [.nilFunc], .func⟩
noncomputable def t96 : TI := ⟨false, 1, 8, [.nilFunc], .func⟩
noncomputable def t97 : TI := ⟨true, 2, 16, [.int .i64 0, .int .i64 0], .arr 2 3 1⟩
noncomputable def t103 : TI := ⟨true, 3, 24, [.int .i64 0, .int .i64 0, .int .i64 0], .struct [⟨0, 1, 3⟩, ⟨1, 1, 3⟩, ⟨2, 1, 3⟩]⟩
noncomputable def t104 : TI := ⟨false, 1, 8, [.nilFunc], .func⟩
noncomputable def t112 : TI := ⟨false, 1, 8, [.nilFunc], .func⟩
noncomputable def t115 : TI := ⟨false, 1, 8, [.map none], .map 3 92⟩
noncomputable def t117 : TI := ⟨false, 1, 8, [.map none], .map 3 3⟩
noncomputable def t119 : TI := ⟨true, 5, 72, [.int .i64 0, .slice none 0 0, .slice none 0 0, .map none, .map none], .struct [⟨0, 3, 25⟩, ⟨3, 1, 115⟩, ⟨4, 1, 117⟩]⟩
noncomputable def t126 : TI := ⟨false, 1, 8, [.nilFunc], .func⟩
noncomputable def t130 : TI := ⟨false, 1, 8, [.int .u64 0], .int .u64⟩
noncomputable def t145 : TI := ⟨false, 1, 8, [.int .i64 0], .int .i64⟩
noncomputable def t152 : TI := ⟨false, 1, 4, [.int .u32 0], .int .u32⟩
noncomputable def t154 : TI := ⟨false, 1, 8, [.int .u64 0], .int .u64⟩
noncomputable def t163 : TI := ⟨false, 1, 8, [.int .u64 0], .int .u64⟩
noncomputable def t167 : TI := ⟨false, 1, 8, [.pointer none], .ptr⟩
noncomputable def tyT : BT TI := (.node 80 t80 (.node 34 t34 (.node 23 t23 (.node 5 t5 (.node 4 t4 (.node 3 t3 .nil .nil) .nil) (.node 22 t22 .nil .nil)) (.node 29 t29 (.node 26 t26 (.node 25 t25 .nil .nil) .nil) (.node 30 t30 .nil .nil))) (.node 55 t55 (.node 47 t47 (.node 43 t43 (.node 39 t39 .nil .nil) .nil) (.node 51 t51 .nil .nil)) (.node 70 t70 (.node 64 t64 (.node 61 t61 .nil .nil) .nil) (.node 75 t75 .nil .nil)))) (.node 117 t117 (.node 97 t97 (.node 92 t92 (.node 90 t90 (.node 89 t89 .nil .nil) .nil) (.node 96 t96 .nil .nil)) (.node 112 t112 (.node 104 t104 (.node 103 t103 .nil .nil) .nil) (.node 115 t115 .nil .nil))) (.node 152 t152 (.node 130 t130 (.node 126 t126 (.node 119 t119 .nil .nil) .nil) (.node 145 t145 .nil .nil)) (.node 163 t163 (.node 154 t154 .nil .nil) (.node 167 t167 .nil .nil)))))
noncomputable def fnT : BT Func := (.node 66 Tryz.f66 (.node 34 Tryz.f34 (.node 18 Tryz.f18 (.node 10 Tryz.f10 (.node 6 Tryz.f6 (.node 4 Tryz.f4 (.node 3 Tryz.f3 .nil .nil) (.node 5 Tryz.f5 .nil .nil)) (.node 8 Tryz.f8 (.node 7 Tryz.f7 .nil .nil) (.node 9 Tryz.f9 .nil .nil))) (.node 14 Tryz.f14 (.node 12 Tryz.f12 (.node 11 Tryz.f11 .nil .nil) (.node 13 Tryz.f13 .nil .nil)) (.node 16 Tryz.f16 (.node 15 Tryz.f15 .nil .nil) (.node 17 Tryz.f17 .nil .nil)))) (.node 26 Tryz.f26 (.node 22 Tryz.f22 (.node 20 Tryz.f20 (.node 19 Tryz.f19 .nil .nil) (.node 21 Tryz.f21 .nil .nil)) (.node 24 Tryz.f24 (.node 23 Tryz.f23 .nil .nil) (.node 25 Tryz.f25 .nil .nil))) (.node 30 Tryz.f30 (.node 28 Tryz.f28 (.node 27 Tryz.f27 .nil .nil) (.node 29 Tryz.f29 .nil .nil)) (.node 32 Tryz.f32 (.node 31 Tryz.f31 .nil .nil) (.node 33 Tryz.f33 .nil .nil))))) (.node 50 Tryz.f50 (.node 42 Tryz.f42 (.node 38 Tryz.f38 (.node 36 Tryz.f36 (.node 35 Tryz.f35 .nil .nil) (.node 37 Tryz.f37 .nil .nil)) (.node 40 Tryz.f40 (.node 39 Tryz.f39 .nil .nil) (.node 41 Tryz.f41 .nil .nil))) (.node 46 Tryz.f46 (.node 44 Tryz.f44 (.node 43 Tryz.f43 .nil .nil) (.node 45 Tryz.f45 .nil .nil)) (.node 48 Tryz.f48 (.node 47 Tryz.f47 .nil .nil) (.node 49 Tryz.f49 .nil .nil)))) (.node 58 Tryz.f58 (.node 54 Tryz.f54 (.node 52 Tryz.f52 (.node 51 Tryz.f51 .nil .nil) (.node 53 Tryz.f53 .nil .nil)) (.node 56 Tryz.f56 (.node 55 Tryz.f55 .nil .nil) (.node 57 Tryz.f57 .nil .nil))) (.node 62 Tryz.f62 (.node 60 Tryz.f60 (.node 59 Tryz.f59 .nil .nil) (.node 61 Tryz.f61 .nil .nil)) (.node 64 Tryz.f64 (.node 63 Tryz.f63 .nil .nil) (.node 65 Tryz.f65 .nil .nil)))))) (.node 98 Tryz.f98 (.node 82 Tryz.f82 (.node 74 Tryz.f74 (.node 70 Tryz.f70 (.node 68 Tryz.f68 (.node 67 Tryz.f67 .nil .nil) (.node 69 Tryz.f69 .nil .nil)) (.node 72 Tryz.f72 (.node 71 Tryz.f71 .nil .nil) (.node 73 Tryz.f73 .nil .nil))) (.node 78 Tryz.f78 (.node 76 Tryz.f76 (.node 75 Tryz.f75 .nil .nil) (.node 77 Tryz.f77 .nil .nil)) (.node 80 Tryz.f80 (.node 79 Tryz.f79 .nil .nil) (.node 81 Tryz.f81 .nil .nil)))) (.node 90 Tryz.f90 (.node 86 Tryz.f86 (.node 84 Tryz.f84 (.node 83 Tryz.f83 .nil .nil) (.node 85 Tryz.f85 .nil .nil)) (.node 88 Tryz.f88 (.node 87 Tryz.f87 .nil .nil) (.node 89 Tryz.f89 .nil .nil))) (.node 94 Tryz.f94 (.node 92 Tryz.f92 (.node 91 Tryz.f91 .nil .nil) (.node 93 Tryz.f93 .nil .nil)) (.node 96 Tryz.f96 (.node 95 Tryz.f95 .nil .nil) (.node 97 Tryz.f97 .nil .nil))))) (.node 114 Tryz.f114 (.node 106 Tryz.f106 (.node 102 Tryz.f102 (.node 100 Tryz.f100 (.node 99 Tryz.f99 .nil .nil) (.node 101 Tryz.f101 .nil .nil)) (.node 104 Tryz.f104 (.node 103 Tryz.f103 .nil .nil) (.node 105 Tryz.f105 .nil .nil))) (.node 110 Tryz.f110 (.node 108 Tryz.f108 (.node 107 Tryz.f107 .nil .nil) (.node 109 Tryz.f109 .nil .nil)) (.node 112 Tryz.f112 (.node 111 Tryz.f111 .nil .nil) (.node 113 Tryz.f113 .nil .nil)))) (.node 122 Tryz.f122 (.node 118 Tryz.f118 (.node 116 Tryz.f116 (.node 115 Tryz.f115 .nil .nil) (.node 117 Tryz.f117 .nil .nil)) (.node 120 Tryz.f120 (.node 119 Tryz.f119 .nil .nil) (.node 121 Tryz.f121 .nil .nil))) (.node 126 Tryz.f126 (.node 124 Tryz.f124 (.node 123 Tryz.f123 .nil .nil) (.node 125 Tryz.f125 .nil .nil)) (.node 128 Tryz.f128 (.node 127 Tryz.f127 .nil .nil) (.node 129 Tryz.f129 .nil .nil)))))))
noncomputable def cfg (X : Nat → List V → V → Prop) : Cfg := ⟨Tryz.prog, tyT.get, fnT.get, X⟩
end Go.Proofs.YtphmekpaalfliaaGreat
