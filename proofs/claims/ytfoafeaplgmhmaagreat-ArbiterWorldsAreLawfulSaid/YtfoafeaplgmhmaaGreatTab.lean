/- The types and functions of this translation, as the abstract machine asks for them. Conditions: none. Printed by a program (wip/tools/gentab.py). -/
import Derived.Test.YtfoafeaplgmhmaaGreatAm
import Derived.Test.YtfoafeaplgmhmaaGreatProg
namespace Go.Proofs.YtfoafeaplgmhmaaGreat
open Go Go.Am

noncomputable def t3 : TI := ⟨false, 1, 8, [.int .i64 0], .int .i64⟩
noncomputable def t4 : TI := ⟨false, 1, 1, [.bool false], .bool⟩
noncomputable def t5 : TI := ⟨false, 1, 1, [.int .u8 0], .int .u8⟩
noncomputable def t23 : TI := ⟨true, 1, 8, [.int .i64 0], .struct [⟨0, 1, 3⟩]⟩
noncomputable def t24 : TI := ⟨false, 1, 24, [.slice none 0 0], .slice 39 5⟩
noncomputable def t26 : TI := ⟨false, 1, 8, [.pointer none], .ptr⟩
noncomputable def t27 : TI := ⟨false, 1, 8, [.int .i64 0], .int .i64⟩
noncomputable def t30 : TI := ⟨false, 1, 24, [.slice none 0 0], .slice 3 1⟩
noncomputable def t31 : TI := ⟨false, 1, 24, [.slice none 0 0], .slice 74 11⟩
noncomputable def t32 : TI := ⟨false, 1, 24, [.slice none 0 0], .slice 70 8⟩
noncomputable def t34 : TI := ⟨true, 7, 136, [.int .i64 0, .slice none 0 0, .slice none 0 0, .slice none 0 0, .slice none 0 0, .slice none 0 0, .int .i64 0], .struct [⟨0, 1, 23⟩, ⟨1, 1, 30⟩, ⟨2, 1, 31⟩, ⟨3, 1, 32⟩, ⟨4, 1, 32⟩, ⟨5, 1, 32⟩, ⟨6, 1, 3⟩]⟩
noncomputable def t36 : TI := ⟨true, 8, 144, [.int .i64 0, .slice none 0 0, .slice none 0 0, .slice none 0 0, .slice none 0 0, .slice none 0 0, .int .i64 0, .int .i64 0], .struct [⟨0, 7, 34⟩, ⟨7, 1, 27⟩]⟩
noncomputable def t39 : TI := ⟨true, 5, 40, [.int .i64 0, .int .i64 0, .int .i64 0, .int .i64 0, .int .i64 0], .struct [⟨0, 1, 3⟩, ⟨1, 1, 3⟩, ⟨2, 1, 3⟩, ⟨3, 1, 3⟩, ⟨4, 1, 3⟩]⟩
noncomputable def t40 : TI := ⟨false, 1, 8, [.nilFunc], .func⟩
noncomputable def t51 : TI := ⟨false, 1, 24, [.slice none 0 0], .slice 57 3⟩
noncomputable def t54 : TI := ⟨false, 1, 8, [.map none], .map 3 3⟩
noncomputable def t57 : TI := ⟨true, 3, 24, [.int .i64 0, .int .i64 0, .int .i64 0], .struct [⟨0, 1, 3⟩, ⟨1, 1, 3⟩, ⟨2, 1, 3⟩]⟩
noncomputable def t62 : TI := ⟨true, 4, 32, [.int .i64 0, .int .i64 0, .int .i64 0, .int .i64 0], .struct [⟨0, 1, 3⟩, ⟨1, 1, 3⟩, ⟨2, 1, 3⟩, ⟨3, 1, 3⟩]⟩
noncomputable def t66 : TI := ⟨false, 1, 8, [.map none], .map 86 87⟩
noncomputable def t68 : TI := ⟨true, 6, 96, [.int .i64 0, .int .i64 0, .slice none 0 0, .slice none 0 0, .map none, .slice none 0 0], .struct [⟨0, 1, 23⟩, ⟨1, 1, 3⟩, ⟨2, 1, 32⟩, ⟨3, 1, 32⟩, ⟨4, 1, 66⟩, ⟨5, 1, 30⟩]⟩
noncomputable def t70 : TI := ⟨true, 8, 64, [.int .i64 0, .int .i64 0, .int .i64 0, .int .i64 0, .int .i64 0, .int .i64 0, .int .i64 0, .int .i64 0], .struct [⟨0, 1, 3⟩, ⟨1, 1, 3⟩, ⟨2, 1, 3⟩, ⟨3, 1, 3⟩, ⟨4, 1, 3⟩, ⟨5, 1, 3⟩, ⟨6, 1, 3⟩, ⟨7, 1, 3⟩]⟩
noncomputable def t74 : TI := ⟨true, 11, 104, [.int .i64 0, .int .i64 0, .int .i64 0, .int .i64 0, .int .i64 0, .int .i64 0, .int .i64 0, .bool false, .int .i64 0, .slice none 0 0, .bool false], .struct [⟨0, 1, 3⟩, ⟨1, 1, 3⟩, ⟨2, 4, 62⟩, ⟨6, 1, 3⟩, ⟨7, 1, 4⟩, ⟨8, 1, 3⟩, ⟨9, 1, 32⟩, ⟨10, 1, 4⟩]⟩
noncomputable def t80 : TI := ⟨false, 1, 8, [.map none], .map 70 4⟩
noncomputable def t81 : TI := ⟨false, 1, 8, [.map none], .map 3 32⟩
noncomputable def t86 : TI := ⟨true, 2, 16, [.int .i64 0, .int .i64 0], .struct [⟨0, 1, 3⟩, ⟨1, 1, 3⟩]⟩
noncomputable def t87 : TI := ⟨false, 1, 8, [.pointer none], .ptr⟩
noncomputable def t88 : TI := ⟨false, 1, 8, [.pointer none], .ptr⟩
noncomputable def t90 : TI := ⟨true, 8, 80, [.int .i64 0, .int .i64 0, .int .i64 0, .int .i64 0, .int .i64 0, .bool false, .pointer none, .slice none 0 0], .struct [⟨0, 4, 62⟩, ⟨4, 1, 3⟩, ⟨5, 1, 4⟩, ⟨6, 1, 88⟩, ⟨7, 1, 32⟩]⟩
noncomputable def t95 : TI := ⟨false, 1, 8, [.nilFunc], .func⟩
noncomputable def t103 : TI := ⟨true, 3, 40, [.int .i64 0, .slice none 0 0, .bool false], .struct [⟨0, 1, 3⟩, ⟨1, 1, 32⟩, ⟨2, 1, 4⟩]⟩
noncomputable def t107 : TI := ⟨false, 1, 8, [.nilFunc], .func⟩
noncomputable def t108 : TI := ⟨false, 1, 8, [.map none], .map 3 107⟩
noncomputable def t122 : TI := ⟨false, 1, 8, [.map none], .map 57 123⟩
noncomputable def t123 : TI := ⟨false, 1, 8, [.map none], .map 3 4⟩
noncomputable def t126 : TI := ⟨false, 1, 8, [.nilFunc], .func⟩
noncomputable def t140 : TI := ⟨false, 1, 8, [.int .u64 0], .int .u64⟩
noncomputable def t147 : TI := ⟨false, 1, 8, [.int .i64 0], .int .i64⟩
noncomputable def t154 : TI := ⟨false, 1, 4, [.int .u32 0], .int .u32⟩
noncomputable def t156 : TI := ⟨false, 1, 8, [.int .u64 0], .int .u64⟩
noncomputable def t163 : TI := ⟨false, 1, 8, [.int .u64 0], .int .u64⟩
noncomputable def t167 : TI := ⟨false, 1, 8, [.pointer none], .ptr⟩
noncomputable def tyT : BT TI := (.node 70 t70 (.node 34 t34 (.node 26 t26 (.node 5 t5 (.node 4 t4 (.node 3 t3 .nil .nil) .nil) (.node 24 t24 (.node 23 t23 .nil .nil) .nil)) (.node 31 t31 (.node 30 t30 (.node 27 t27 .nil .nil) .nil) (.node 32 t32 .nil .nil))) (.node 54 t54 (.node 40 t40 (.node 39 t39 (.node 36 t36 .nil .nil) .nil) (.node 51 t51 .nil .nil)) (.node 66 t66 (.node 62 t62 (.node 57 t57 .nil .nil) .nil) (.node 68 t68 .nil .nil)))) (.node 108 t108 (.node 88 t88 (.node 81 t81 (.node 80 t80 (.node 74 t74 .nil .nil) .nil) (.node 87 t87 (.node 86 t86 .nil .nil) .nil)) (.node 103 t103 (.node 95 t95 (.node 90 t90 .nil .nil) .nil) (.node 107 t107 .nil .nil))) (.node 147 t147 (.node 126 t126 (.node 123 t123 (.node 122 t122 .nil .nil) .nil) (.node 140 t140 .nil .nil)) (.node 163 t163 (.node 156 t156 (.node 154 t154 .nil .nil) .nil) (.node 167 t167 .nil .nil)))))
noncomputable def fnT : BT Func := (.node 73 Tryz.f73 (.node 38 Tryz.f38 (.node 20 Tryz.f20 (.node 11 Tryz.f11 (.node 7 Tryz.f7 (.node 5 Tryz.f5 (.node 4 Tryz.f4 (.node 3 Tryz.f3 .nil .nil) .nil) (.node 6 Tryz.f6 .nil .nil)) (.node 9 Tryz.f9 (.node 8 Tryz.f8 .nil .nil) (.node 10 Tryz.f10 .nil .nil))) (.node 16 Tryz.f16 (.node 14 Tryz.f14 (.node 13 Tryz.f13 (.node 12 Tryz.f12 .nil .nil) .nil) (.node 15 Tryz.f15 .nil .nil)) (.node 18 Tryz.f18 (.node 17 Tryz.f17 .nil .nil) (.node 19 Tryz.f19 .nil .nil)))) (.node 29 Tryz.f29 (.node 25 Tryz.f25 (.node 23 Tryz.f23 (.node 22 Tryz.f22 (.node 21 Tryz.f21 .nil .nil) .nil) (.node 24 Tryz.f24 .nil .nil)) (.node 27 Tryz.f27 (.node 26 Tryz.f26 .nil .nil) (.node 28 Tryz.f28 .nil .nil))) (.node 34 Tryz.f34 (.node 32 Tryz.f32 (.node 31 Tryz.f31 (.node 30 Tryz.f30 .nil .nil) .nil) (.node 33 Tryz.f33 .nil .nil)) (.node 36 Tryz.f36 (.node 35 Tryz.f35 .nil .nil) (.node 37 Tryz.f37 .nil .nil))))) (.node 56 Tryz.f56 (.node 47 Tryz.f47 (.node 43 Tryz.f43 (.node 41 Tryz.f41 (.node 40 Tryz.f40 (.node 39 Tryz.f39 .nil .nil) .nil) (.node 42 Tryz.f42 .nil .nil)) (.node 45 Tryz.f45 (.node 44 Tryz.f44 .nil .nil) (.node 46 Tryz.f46 .nil .nil))) (.node 52 Tryz.f52 (.node 50 Tryz.f50 (.node 49 Tryz.f49 (.node 48 Tryz.f48 .nil .nil) .nil) (.node 51 Tryz.f51 .nil .nil)) (.node 54 Tryz.f54 (.node 53 Tryz.f53 .nil .nil) (.node 55 Tryz.f55 .nil .nil)))) (.node 65 Tryz.f65 (.node 61 Tryz.f61 (.node 59 Tryz.f59 (.node 58 Tryz.f58 (.node 57 Tryz.f57 .nil .nil) .nil) (.node 60 Tryz.f60 .nil .nil)) (.node 63 Tryz.f63 (.node 62 Tryz.f62 .nil .nil) (.node 64 Tryz.f64 .nil .nil))) (.node 69 Tryz.f69 (.node 67 Tryz.f67 (.node 66 Tryz.f66 .nil .nil) (.node 68 Tryz.f68 .nil .nil)) (.node 71 Tryz.f71 (.node 70 Tryz.f70 .nil .nil) (.node 72 Tryz.f72 .nil .nil)))))) (.node 109 Tryz.f109 (.node 91 Tryz.f91 (.node 82 Tryz.f82 (.node 78 Tryz.f78 (.node 76 Tryz.f76 (.node 75 Tryz.f75 (.node 74 Tryz.f74 .nil .nil) .nil) (.node 77 Tryz.f77 .nil .nil)) (.node 80 Tryz.f80 (.node 79 Tryz.f79 .nil .nil) (.node 81 Tryz.f81 .nil .nil))) (.node 87 Tryz.f87 (.node 85 Tryz.f85 (.node 84 Tryz.f84 (.node 83 Tryz.f83 .nil .nil) .nil) (.node 86 Tryz.f86 .nil .nil)) (.node 89 Tryz.f89 (.node 88 Tryz.f88 .nil .nil) (.node 90 Tryz.f90 .nil .nil)))) (.node 100 Tryz.f100 (.node 96 Tryz.f96 (.node 94 Tryz.f94 (.node 93 Tryz.f93 (.node 92 Tryz.f92 .nil .nil) .nil) (.node 95 Tryz.f95 .nil .nil)) (.node 98 Tryz.f98 (.node 97 Tryz.f97 .nil .nil) (.node 99 Tryz.f99 .nil .nil))) (.node 105 Tryz.f105 (.node 103 Tryz.f103 (.node 102 Tryz.f102 (.node 101 Tryz.f101 .nil .nil) .nil) (.node 104 Tryz.f104 .nil .nil)) (.node 107 Tryz.f107 (.node 106 Tryz.f106 .nil .nil) (.node 108 Tryz.f108 .nil .nil))))) (.node 127 Tryz.f127 (.node 118 Tryz.f118 (.node 114 Tryz.f114 (.node 112 Tryz.f112 (.node 111 Tryz.f111 (.node 110 Tryz.f110 .nil .nil) .nil) (.node 113 Tryz.f113 .nil .nil)) (.node 116 Tryz.f116 (.node 115 Tryz.f115 .nil .nil) (.node 117 Tryz.f117 .nil .nil))) (.node 123 Tryz.f123 (.node 121 Tryz.f121 (.node 120 Tryz.f120 (.node 119 Tryz.f119 .nil .nil) .nil) (.node 122 Tryz.f122 .nil .nil)) (.node 125 Tryz.f125 (.node 124 Tryz.f124 .nil .nil) (.node 126 Tryz.f126 .nil .nil)))) (.node 136 Tryz.f136 (.node 132 Tryz.f132 (.node 130 Tryz.f130 (.node 129 Tryz.f129 (.node 128 Tryz.f128 .nil .nil) .nil) (.node 131 Tryz.f131 .nil .nil)) (.node 134 Tryz.f134 (.node 133 Tryz.f133 .nil .nil) (.node 135 Tryz.f135 .nil .nil))) (.node 140 Tryz.f140 (.node 138 Tryz.f138 (.node 137 Tryz.f137 .nil .nil) (.node 139 Tryz.f139 .nil .nil)) (.node 142 Tryz.f142 (.node 141 Tryz.f141 .nil .nil) (.node 143 Tryz.f143 .nil .nil)))))))
noncomputable def cfg (X : Nat → List V → V → Prop) : Cfg := ⟨Tryz.prog, tyT.get, fnT.get, X⟩
end Go.Proofs.YtfoafeaplgmhmaaGreat
