/- The types and functions of this translation, as the abstract machine asks for them. Conditions: none. Printed by a program (wip/tools/gentab.py). -/
import Derived.Test.YtggkidlcohickaaGreatAm
import Derived.Test.YtggkidlcohickaaGreatProg
namespace Go.Proofs.YtggkidlcohickaaGreat
open Go Go.Am

noncomputable def t3 : TI := ⟨false, 1, 8, [.int .i64 0], .int .i64⟩
noncomputable def t4 : TI := ⟨false, 1, 1, [.bool false], .bool⟩
noncomputable def t5 : TI := ⟨false, 1, 1, [.int .u8 0], .int .u8⟩
noncomputable def t23 : TI := ⟨true, 1, 8, [.int .i64 0], .struct [⟨0, 1, 3⟩]⟩
noncomputable def t24 : TI := ⟨false, 1, 24, [.slice none 0 0], .slice 32 5⟩
noncomputable def t25 : TI := ⟨false, 1, 2, [.int .u16 0], .int .u16⟩
noncomputable def t27 : TI := ⟨false, 1, 8, [.pointer none], .ptr⟩
noncomputable def t28 : TI := ⟨false, 1, 8, [.int .i64 0], .int .i64⟩
noncomputable def t32 : TI := ⟨true, 5, 40, [.int .i64 0, .int .i64 0, .int .i64 0, .int .i64 0, .int .i64 0], .struct [⟨0, 1, 3⟩, ⟨1, 1, 3⟩, ⟨2, 1, 3⟩, ⟨3, 1, 3⟩, ⟨4, 1, 3⟩]⟩
noncomputable def t33 : TI := ⟨false, 1, 8, [.nilFunc], .func⟩
noncomputable def t34 : TI := ⟨false, 1, 24, [.slice none 0 0], .slice 3 1⟩
noncomputable def t36 : TI := ⟨false, 1, 24, [.slice none 0 0], .slice 59 8⟩
noncomputable def t38 : TI := ⟨false, 1, 24, [.slice none 0 0], .slice 62 7⟩
noncomputable def t44 : TI := ⟨false, 1, 24, [.slice none 0 0], .slice 48 4⟩
noncomputable def t48 : TI := ⟨true, 4, 32, [.int .i64 0, .int .i64 0, .int .i64 0, .int .i64 0], .struct [⟨0, 1, 3⟩, ⟨1, 1, 3⟩, ⟨2, 1, 3⟩, ⟨3, 1, 3⟩]⟩
noncomputable def t53 : TI := ⟨false, 1, 8, [.map none], .map 111 92⟩
noncomputable def t55 : TI := ⟨true, 6, 96, [.int .i64 0, .int .i64 0, .slice none 0 0, .slice none 0 0, .map none, .slice none 0 0], .struct [⟨0, 1, 23⟩, ⟨1, 1, 3⟩, ⟨2, 1, 36⟩, ⟨3, 1, 36⟩, ⟨4, 1, 53⟩, ⟨5, 1, 34⟩]⟩
noncomputable def t59 : TI := ⟨true, 8, 64, [.int .i64 0, .int .i64 0, .int .i64 0, .int .i64 0, .int .i64 0, .int .i64 0, .int .i64 0, .int .i64 0], .struct [⟨0, 1, 3⟩, ⟨1, 1, 3⟩, ⟨2, 1, 3⟩, ⟨3, 1, 3⟩, ⟨4, 1, 3⟩, ⟨5, 1, 3⟩, ⟨6, 1, 3⟩, ⟨7, 1, 3⟩]⟩
noncomputable def t62 : TI := ⟨true, 7, 56, [.int .i64 0, .int .i64 0, .int .i64 0, .int .i64 0, .int .i64 0, .int .i64 0, .int .i64 0], .struct [⟨0, 1, 3⟩, ⟨1, 1, 3⟩, ⟨2, 1, 3⟩, ⟨3, 1, 3⟩, ⟨4, 1, 3⟩, ⟨5, 1, 3⟩, ⟨6, 1, 3⟩]⟩
noncomputable def t63 : TI := ⟨false, 1, 24, [.slice none 0 0], .slice 38 1⟩
noncomputable def t66 : TI := ⟨false, 1, 24, [.slice none 0 0], .slice 69 3⟩
noncomputable def t69 : TI := ⟨true, 3, 24, [.int .i64 0, .int .i64 0, .int .i64 0], .struct [⟨0, 1, 3⟩, ⟨1, 1, 3⟩, ⟨2, 1, 3⟩]⟩
noncomputable def t70 : TI := ⟨false, 1, 24, [.slice none 0 0], .slice 150 2⟩
noncomputable def t80 : TI := ⟨false, 1, 8, [.map none], .map 3 87⟩
noncomputable def t81 : TI := ⟨false, 1, 8, [.map none], .map 3 3⟩
noncomputable def t83 : TI := ⟨true, 7, 104, [.int .i64 0, .slice none 0 0, .slice none 0 0, .slice none 0 0, .map none, .map none, .map none], .struct [⟨0, 1, 3⟩, ⟨1, 1, 44⟩, ⟨2, 1, 38⟩, ⟨3, 1, 34⟩, ⟨4, 1, 80⟩, ⟨5, 1, 81⟩, ⟨6, 1, 81⟩]⟩
noncomputable def t84 : TI := ⟨false, 1, 8, [.pointer none], .ptr⟩
noncomputable def t86 : TI := ⟨false, 1, 8, [.nilFunc], .func⟩
noncomputable def t87 : TI := ⟨false, 1, 8, [.pointer none], .ptr⟩
noncomputable def t89 : TI := ⟨true, 9, 88, [.int .i64 0, .int .i64 0, .int .i64 0, .int .i64 0, .int .i64 0, .int .i64 0, .int .i64 0, .int .i64 0, .slice none 0 0], .struct [⟨0, 7, 62⟩, ⟨7, 1, 3⟩, ⟨8, 1, 70⟩]⟩
noncomputable def t92 : TI := ⟨false, 1, 8, [.pointer none], .ptr⟩
noncomputable def t95 : TI := ⟨true, 4, 32, [.int .i64 0, .int .i64 0, .int .i64 0, .int .i64 0], .struct [⟨0, 1, 3⟩, ⟨1, 1, 3⟩, ⟨2, 1, 3⟩, ⟨3, 1, 3⟩]⟩
noncomputable def t96 : TI := ⟨false, 1, 8, [.pointer none], .ptr⟩
noncomputable def t98 : TI := ⟨true, 8, 80, [.int .i64 0, .int .i64 0, .int .i64 0, .int .i64 0, .int .i64 0, .bool false, .pointer none, .slice none 0 0], .struct [⟨0, 4, 95⟩, ⟨4, 1, 3⟩, ⟨5, 1, 4⟩, ⟨6, 1, 96⟩, ⟨7, 1, 36⟩]⟩
noncomputable def t103 : TI := ⟨true, 3, 40, [.int .i64 0, .slice none 0 0, .bool false], .struct [⟨0, 1, 3⟩, ⟨1, 1, 36⟩, ⟨2, 1, 4⟩]⟩
noncomputable def t107 : TI := ⟨false, 1, 8, [.nilFunc], .func⟩
noncomputable def t108 : TI := ⟨false, 1, 8, [.map none], .map 3 107⟩
noncomputable def t111 : TI := ⟨true, 2, 16, [.int .i64 0, .int .i64 0], .struct [⟨0, 1, 3⟩, ⟨1, 1, 3⟩]⟩
noncomputable def t113 : TI := ⟨false, 1, 8, [.nilFunc], .func⟩
noncomputable def t118 : TI := ⟨false, 1, 8, [.nilFunc], .func⟩
noncomputable def t123 : TI := ⟨false, 1, 8, [.nilFunc], .func⟩
noncomputable def t124 : TI := ⟨false, 1, 8, [.map none], .map 3 4⟩
noncomputable def t128 : TI := ⟨false, 1, 8, [.map none], .map 3 113⟩
noncomputable def t134 : TI := ⟨false, 1, 8, [.nilFunc], .func⟩
noncomputable def t139 : TI := ⟨false, 1, 8, [.int .u64 0], .int .u64⟩
noncomputable def t140 : TI := ⟨false, 1, 8, [.map none], .map 69 124⟩
noncomputable def t142 : TI := ⟨false, 1, 8, [.nilFunc], .func⟩
noncomputable def t147 : TI := ⟨false, 1, 24, [.slice none 0 0], .slice 172 2⟩
noncomputable def t150 : TI := ⟨true, 2, 16, [.int .i64 0, .int .i64 0], .struct [⟨0, 1, 3⟩, ⟨1, 1, 3⟩]⟩
noncomputable def t153 : TI := ⟨false, 1, 8, [.int .i64 0], .int .i64⟩
noncomputable def t160 : TI := ⟨false, 1, 4, [.int .u32 0], .int .u32⟩
noncomputable def t162 : TI := ⟨false, 1, 8, [.int .u64 0], .int .u64⟩
noncomputable def t172 : TI := ⟨true, 2, 16, [.int .i64 0, .int .i64 0], .struct [⟨0, 1, 3⟩, ⟨1, 1, 3⟩]⟩
noncomputable def t173 : TI := ⟨false, 1, 8, [.int .u64 0], .int .u64⟩
noncomputable def t177 : TI := ⟨false, 1, 8, [.pointer none], .ptr⟩
noncomputable def tyT : BT TI := (.node 86 t86 (.node 44 t44 (.node 27 t27 (.node 23 t23 (.node 4 t4 (.node 3 t3 .nil .nil) (.node 5 t5 .nil .nil)) (.node 25 t25 (.node 24 t24 .nil .nil) .nil)) (.node 34 t34 (.node 32 t32 (.node 28 t28 .nil .nil) (.node 33 t33 .nil .nil)) (.node 38 t38 (.node 36 t36 .nil .nil) .nil))) (.node 66 t66 (.node 59 t59 (.node 53 t53 (.node 48 t48 .nil .nil) (.node 55 t55 .nil .nil)) (.node 63 t63 (.node 62 t62 .nil .nil) .nil)) (.node 81 t81 (.node 70 t70 (.node 69 t69 .nil .nil) (.node 80 t80 .nil .nil)) (.node 84 t84 (.node 83 t83 .nil .nil) .nil)))) (.node 124 t124 (.node 103 t103 (.node 95 t95 (.node 89 t89 (.node 87 t87 .nil .nil) (.node 92 t92 .nil .nil)) (.node 98 t98 (.node 96 t96 .nil .nil) .nil)) (.node 113 t113 (.node 108 t108 (.node 107 t107 .nil .nil) (.node 111 t111 .nil .nil)) (.node 123 t123 (.node 118 t118 .nil .nil) .nil))) (.node 150 t150 (.node 140 t140 (.node 134 t134 (.node 128 t128 .nil .nil) (.node 139 t139 .nil .nil)) (.node 147 t147 (.node 142 t142 .nil .nil) .nil)) (.node 172 t172 (.node 160 t160 (.node 153 t153 .nil .nil) (.node 162 t162 .nil .nil)) (.node 177 t177 (.node 173 t173 .nil .nil) .nil)))))
noncomputable def fnT : BT Func := (.node 74 Tryz.f74 (.node 38 Tryz.f38 (.node 20 Tryz.f20 (.node 11 Tryz.f11 (.node 7 Tryz.f7 (.node 5 Tryz.f5 (.node 4 Tryz.f4 (.node 3 Tryz.f3 .nil .nil) .nil) (.node 6 Tryz.f6 .nil .nil)) (.node 9 Tryz.f9 (.node 8 Tryz.f8 .nil .nil) (.node 10 Tryz.f10 .nil .nil))) (.node 16 Tryz.f16 (.node 14 Tryz.f14 (.node 13 Tryz.f13 (.node 12 Tryz.f12 .nil .nil) .nil) (.node 15 Tryz.f15 .nil .nil)) (.node 18 Tryz.f18 (.node 17 Tryz.f17 .nil .nil) (.node 19 Tryz.f19 .nil .nil)))) (.node 29 Tryz.f29 (.node 25 Tryz.f25 (.node 23 Tryz.f23 (.node 22 Tryz.f22 (.node 21 Tryz.f21 .nil .nil) .nil) (.node 24 Tryz.f24 .nil .nil)) (.node 27 Tryz.f27 (.node 26 Tryz.f26 .nil .nil) (.node 28 Tryz.f28 .nil .nil))) (.node 34 Tryz.f34 (.node 32 Tryz.f32 (.node 31 Tryz.f31 (.node 30 Tryz.f30 .nil .nil) .nil) (.node 33 Tryz.f33 .nil .nil)) (.node 36 Tryz.f36 (.node 35 Tryz.f35 .nil .nil) (.node 37 Tryz.f37 .nil .nil))))) (.node 56 Tryz.f56 (.node 47 Tryz.f47 (.node 43 Tryz.f43 (.node 41 Tryz.f41 (.node 40 Tryz.f40 (.node 39 Tryz.f39 .nil .nil) .nil) (.node 42 Tryz.f42 .nil .nil)) (.node 45 Tryz.f45 (.node 44 Tryz.f44 .nil .nil) (.node 46 Tryz.f46 .nil .nil))) (.node 52 Tryz.f52 (.node 50 Tryz.f50 (.node 49 Tryz.f49 (.node 48 Tryz.f48 .nil .nil) .nil) (.node 51 Tryz.f51 .nil .nil)) (.node 54 Tryz.f54 (.node 53 Tryz.f53 .nil .nil) (.node 55 Tryz.f55 .nil .nil)))) (.node 65 Tryz.f65 (.node 61 Tryz.f61 (.node 59 Tryz.f59 (.node 58 Tryz.f58 (.node 57 Tryz.f57 .nil .nil) .nil) (.node 60 Tryz.f60 .nil .nil)) (.node 63 Tryz.f63 (.node 62 Tryz.f62 .nil .nil) (.node 64 Tryz.f64 .nil .nil))) (.node 70 Tryz.f70 (.node 68 Tryz.f68 (.node 67 Tryz.f67 (.node 66 Tryz.f66 .nil .nil) .nil) (.node 69 Tryz.f69 .nil .nil)) (.node 72 Tryz.f72 (.node 71 Tryz.f71 .nil .nil) (.node 73 Tryz.f73 .nil .nil)))))) (.node 110 Tryz.f110 (.node 92 Tryz.f92 (.node 83 Tryz.f83 (.node 79 Tryz.f79 (.node 77 Tryz.f77 (.node 76 Tryz.f76 (.node 75 Tryz.f75 .nil .nil) .nil) (.node 78 Tryz.f78 .nil .nil)) (.node 81 Tryz.f81 (.node 80 Tryz.f80 .nil .nil) (.node 82 Tryz.f82 .nil .nil))) (.node 88 Tryz.f88 (.node 86 Tryz.f86 (.node 85 Tryz.f85 (.node 84 Tryz.f84 .nil .nil) .nil) (.node 87 Tryz.f87 .nil .nil)) (.node 90 Tryz.f90 (.node 89 Tryz.f89 .nil .nil) (.node 91 Tryz.f91 .nil .nil)))) (.node 101 Tryz.f101 (.node 97 Tryz.f97 (.node 95 Tryz.f95 (.node 94 Tryz.f94 (.node 93 Tryz.f93 .nil .nil) .nil) (.node 96 Tryz.f96 .nil .nil)) (.node 99 Tryz.f99 (.node 98 Tryz.f98 .nil .nil) (.node 100 Tryz.f100 .nil .nil))) (.node 106 Tryz.f106 (.node 104 Tryz.f104 (.node 103 Tryz.f103 (.node 102 Tryz.f102 .nil .nil) .nil) (.node 105 Tryz.f105 .nil .nil)) (.node 108 Tryz.f108 (.node 107 Tryz.f107 .nil .nil) (.node 109 Tryz.f109 .nil .nil))))) (.node 128 Tryz.f128 (.node 119 Tryz.f119 (.node 115 Tryz.f115 (.node 113 Tryz.f113 (.node 112 Tryz.f112 (.node 111 Tryz.f111 .nil .nil) .nil) (.node 114 Tryz.f114 .nil .nil)) (.node 117 Tryz.f117 (.node 116 Tryz.f116 .nil .nil) (.node 118 Tryz.f118 .nil .nil))) (.node 124 Tryz.f124 (.node 122 Tryz.f122 (.node 121 Tryz.f121 (.node 120 Tryz.f120 .nil .nil) .nil) (.node 123 Tryz.f123 .nil .nil)) (.node 126 Tryz.f126 (.node 125 Tryz.f125 .nil .nil) (.node 127 Tryz.f127 .nil .nil)))) (.node 137 Tryz.f137 (.node 133 Tryz.f133 (.node 131 Tryz.f131 (.node 130 Tryz.f130 (.node 129 Tryz.f129 .nil .nil) .nil) (.node 132 Tryz.f132 .nil .nil)) (.node 135 Tryz.f135 (.node 134 Tryz.f134 .nil .nil) (.node 136 Tryz.f136 .nil .nil))) (.node 142 Tryz.f142 (.node 140 Tryz.f140 (.node 139 Tryz.f139 (.node 138 Tryz.f138 .nil .nil) .nil) (.node 141 Tryz.f141 .nil .nil)) (.node 144 Tryz.f144 (.node 143 Tryz.f143 .nil .nil) (.node 145 Tryz.f145 .nil .nil)))))))
noncomputable def cfg (X : Nat → List V → V → Prop) : Cfg := ⟨Tryz.prog, tyT.get, fnT.get, X⟩
end Go.Proofs.YtggkidlcohickaaGreat
