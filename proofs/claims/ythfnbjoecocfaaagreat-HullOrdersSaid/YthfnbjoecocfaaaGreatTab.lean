/- The types and functions of this translation, as the abstract machine asks for them. Conditions: none. Printed by a program (wip/tools/gentab.py). -/
import Derived.Test.YthfnbjoecocfaaaGreatAm
import Derived.Test.YthfnbjoecocfaaaGreatProg
namespace Go.Proofs.YthfnbjoecocfaaaGreat
open Go Go.Am

noncomputable def t3 : TI := ⟨false, 1, 8, [.int .i64 0], .int .i64⟩
noncomputable def t4 : TI := ⟨false, 1, 1, [.bool false], .bool⟩
noncomputable def t22 : TI := ⟨false, 1, 24, [.slice none 0 0], .slice 143 4⟩
noncomputable def t23 : TI := ⟨false, 1, 24, [.slice none 0 0], .slice 145 2⟩
noncomputable def t25 : TI := ⟨true, 2, 32, [.slice none 0 0, .int .i64 0], .struct [⟨0, 1, 23⟩, ⟨1, 1, 3⟩]⟩
noncomputable def t27 : TI := ⟨true, 11, 136, [.int .i64 0, .int .i64 0, .int .i64 0, .int .i64 0, .slice none 0 0, .slice none 0 0, .int .i64 0, .slice none 0 0, .int .i64 0, .int .i64 0, .int .i64 0], .struct [⟨0, 1, 3⟩, ⟨1, 1, 3⟩, ⟨2, 1, 3⟩, ⟨3, 1, 3⟩, ⟨4, 1, 22⟩, ⟨5, 2, 25⟩, ⟨7, 2, 25⟩, ⟨9, 1, 3⟩, ⟨10, 1, 3⟩]⟩
noncomputable def t28 : TI := ⟨false, 1, 24, [.slice none 0 0], .slice 3 1⟩
noncomputable def t30 : TI := ⟨false, 1, 24, [.slice none 0 0], .slice 32 2⟩
noncomputable def t32 : TI := ⟨true, 2, 16, [.int .i64 0, .int .i64 0], .struct [⟨0, 1, 3⟩, ⟨1, 1, 3⟩]⟩
noncomputable def t34 : TI := ⟨true, 3, 40, [.slice none 0 0, .int .i64 0, .int .i64 0], .struct [⟨0, 1, 30⟩, ⟨1, 2, 32⟩]⟩
noncomputable def t36 : TI := ⟨false, 1, 8, [.int .i64 0], .int .i64⟩
noncomputable def t40 : TI := ⟨true, 2, 16, [.int .i64 0, .int .i64 0], .struct [⟨0, 1, 3⟩, ⟨1, 1, 36⟩]⟩
noncomputable def t43 : TI := ⟨true, 2, 16, [.int .i64 0, .int .i64 0], .struct [⟨0, 1, 3⟩, ⟨1, 1, 3⟩]⟩
noncomputable def t47 : TI := ⟨true, 3, 24, [.int .i64 0, .int .i64 0, .int .i64 0], .struct [⟨0, 2, 43⟩, ⟨2, 1, 36⟩]⟩
noncomputable def t52 : TI := ⟨true, 4, 32, [.int .i64 0, .int .i64 0, .int .i64 0, .int .i64 0], .struct [⟨0, 2, 32⟩, ⟨2, 2, 32⟩]⟩
noncomputable def t56 : TI := ⟨true, 5, 40, [.int .i64 0, .int .i64 0, .int .i64 0, .int .i64 0, .int .i64 0], .struct [⟨0, 4, 52⟩, ⟨4, 1, 36⟩]⟩
noncomputable def t59 : TI := ⟨false, 1, 24, [.slice none 0 0], .slice 71 2⟩
noncomputable def t63 : TI := ⟨true, 3, 40, [.slice none 0 0, .int .i64 0, .int .i64 0], .struct [⟨0, 1, 28⟩, ⟨1, 1, 3⟩, ⟨2, 1, 36⟩]⟩
noncomputable def t67 : TI := ⟨true, 2, 16, [.int .i64 0, .int .i64 0], .struct [⟨0, 1, 3⟩, ⟨1, 1, 36⟩]⟩
noncomputable def t71 : TI := ⟨true, 2, 16, [.int .i64 0, .int .i64 0], .struct [⟨0, 1, 3⟩, ⟨1, 1, 3⟩]⟩
noncomputable def t83 : TI := ⟨true, 4, 32, [.bool false, .int .i64 0, .int .i64 0, .int .i64 0], .struct [⟨0, 1, 4⟩, ⟨1, 1, 3⟩, ⟨2, 1, 3⟩, ⟨3, 1, 36⟩]⟩
noncomputable def t85 : TI := ⟨false, 1, 24, [.slice none 0 0], .slice 141 3⟩
noncomputable def t92 : TI := ⟨true, 3, 40, [.int .i64 0, .slice none 0 0, .int .i64 0], .struct [⟨0, 1, 3⟩, ⟨1, 1, 28⟩, ⟨2, 1, 3⟩]⟩
noncomputable def t110 : TI := ⟨true, 2, 32, [.slice none 0 0, .int .i64 0], .struct [⟨0, 2, 25⟩]⟩
noncomputable def t118 : TI := ⟨true, 14, 192, [.int .i64 0, .int .i64 0, .int .i64 0, .int .i64 0, .slice none 0 0, .slice none 0 0, .int .i64 0, .slice none 0 0, .int .i64 0, .int .i64 0, .int .i64 0, .slice none 0 0, .slice none 0 0, .int .i64 0], .struct [⟨0, 11, 27⟩, ⟨11, 1, 28⟩, ⟨12, 1, 28⟩, ⟨13, 1, 3⟩]⟩
noncomputable def t120 : TI := ⟨true, 8, 64, [.int .i64 0, .int .i64 0, .int .i64 0, .int .i64 0, .int .i64 0, .int .i64 0, .int .i64 0, .int .i64 0], .arr 8 3 1⟩
noncomputable def t124 : TI := ⟨false, 1, 8, [.nilFunc], .func⟩
noncomputable def t125 : TI := ⟨false, 1, 24, [.slice none 0 0], .slice 28 1⟩
noncomputable def t141 : TI := ⟨true, 3, 24, [.int .i64 0, .int .i64 0, .int .i64 0], .struct [⟨0, 2, 32⟩, ⟨2, 1, 3⟩]⟩
noncomputable def t143 : TI := ⟨true, 4, 32, [.int .i64 0, .int .i64 0, .int .i64 0, .int .i64 0], .struct [⟨0, 1, 3⟩, ⟨1, 1, 3⟩, ⟨2, 1, 3⟩, ⟨3, 1, 3⟩]⟩
noncomputable def t145 : TI := ⟨true, 2, 16, [.int .i64 0, .int .i64 0], .struct [⟨0, 1, 3⟩, ⟨1, 1, 3⟩]⟩
noncomputable def t151 : TI := ⟨false, 1, 8, [.nilFunc], .func⟩
noncomputable def t152 : TI := ⟨false, 1, 24, [.slice none 0 0], .slice 25 2⟩
noncomputable def t158 : TI := ⟨false, 1, 8, [.nilFunc], .func⟩
noncomputable def t163 : TI := ⟨false, 1, 8, [.map none], .map 120 3⟩
noncomputable def t164 : TI := ⟨false, 1, 24, [.slice none 0 0], .slice 120 8⟩
noncomputable def t170 : TI := ⟨false, 1, 8, [.nilFunc], .func⟩
noncomputable def t177 : TI := ⟨false, 1, 24, [.slice none 0 0], .slice 36 1⟩
noncomputable def t187 : TI := ⟨true, 4, 32, [.int .i64 0, .int .i64 0, .int .i64 0, .int .i64 0], .struct [⟨0, 2, 145⟩, ⟨2, 2, 145⟩]⟩
noncomputable def t192 : TI := ⟨false, 1, 8, [.int .u64 0], .int .u64⟩
noncomputable def tyT : BT TI := (.node 83 t83 (.node 36 t36 (.node 27 t27 (.node 22 t22 (.node 4 t4 (.node 3 t3 .nil .nil) .nil) (.node 25 t25 (.node 23 t23 .nil .nil) .nil)) (.node 32 t32 (.node 30 t30 (.node 28 t28 .nil .nil) .nil) (.node 34 t34 .nil .nil))) (.node 56 t56 (.node 47 t47 (.node 43 t43 (.node 40 t40 .nil .nil) .nil) (.node 52 t52 .nil .nil)) (.node 67 t67 (.node 63 t63 (.node 59 t59 .nil .nil) .nil) (.node 71 t71 .nil .nil)))) (.node 145 t145 (.node 120 t120 (.node 110 t110 (.node 92 t92 (.node 85 t85 .nil .nil) .nil) (.node 118 t118 .nil .nil)) (.node 141 t141 (.node 125 t125 (.node 124 t124 .nil .nil) .nil) (.node 143 t143 .nil .nil))) (.node 164 t164 (.node 158 t158 (.node 152 t152 (.node 151 t151 .nil .nil) .nil) (.node 163 t163 .nil .nil)) (.node 187 t187 (.node 177 t177 (.node 170 t170 .nil .nil) .nil) (.node 192 t192 .nil .nil)))))
noncomputable def fnT : BT Func := (.node 74 Tryz.f74 (.node 38 Tryz.f38 (.node 20 Tryz.f20 (.node 11 Tryz.f11 (.node 7 Tryz.f7 (.node 5 Tryz.f5 (.node 4 Tryz.f4 (.node 3 Tryz.f3 .nil .nil) .nil) (.node 6 Tryz.f6 .nil .nil)) (.node 9 Tryz.f9 (.node 8 Tryz.f8 .nil .nil) (.node 10 Tryz.f10 .nil .nil))) (.node 16 Tryz.f16 (.node 14 Tryz.f14 (.node 13 Tryz.f13 (.node 12 Tryz.f12 .nil .nil) .nil) (.node 15 Tryz.f15 .nil .nil)) (.node 18 Tryz.f18 (.node 17 Tryz.f17 .nil .nil) (.node 19 Tryz.f19 .nil .nil)))) (.node 29 Tryz.f29 (.node 25 Tryz.f25 (.node 23 Tryz.f23 (.node 22 Tryz.f22 (.node 21 Tryz.f21 .nil .nil) .nil) (.node 24 Tryz.f24 .nil .nil)) (.node 27 Tryz.f27 (.node 26 Tryz.f26 .nil .nil) (.node 28 Tryz.f28 .nil .nil))) (.node 34 Tryz.f34 (.node 32 Tryz.f32 (.node 31 Tryz.f31 (.node 30 Tryz.f30 .nil .nil) .nil) (.node 33 Tryz.f33 .nil .nil)) (.node 36 Tryz.f36 (.node 35 Tryz.f35 .nil .nil) (.node 37 Tryz.f37 .nil .nil))))) (.node 56 Tryz.f56 (.node 47 Tryz.f47 (.node 43 Tryz.f43 (.node 41 Tryz.f41 (.node 40 Tryz.f40 (.node 39 Tryz.f39 .nil .nil) .nil) (.node 42 Tryz.f42 .nil .nil)) (.node 45 Tryz.f45 (.node 44 Tryz.f44 .nil .nil) (.node 46 Tryz.f46 .nil .nil))) (.node 52 Tryz.f52 (.node 50 Tryz.f50 (.node 49 Tryz.f49 (.node 48 Tryz.f48 .nil .nil) .nil) (.node 51 Tryz.f51 .nil .nil)) (.node 54 Tryz.f54 (.node 53 Tryz.f53 .nil .nil) (.node 55 Tryz.f55 .nil .nil)))) (.node 65 Tryz.f65 (.node 61 Tryz.f61 (.node 59 Tryz.f59 (.node 58 Tryz.f58 (.node 57 Tryz.f57 .nil .nil) .nil) (.node 60 Tryz.f60 .nil .nil)) (.node 63 Tryz.f63 (.node 62 Tryz.f62 .nil .nil) (.node 64 Tryz.f64 .nil .nil))) (.node 70 Tryz.f70 (.node 68 Tryz.f68 (.node 67 Tryz.f67 (.node 66 Tryz.f66 .nil .nil) .nil) (.node 69 Tryz.f69 .nil .nil)) (.node 72 Tryz.f72 (.node 71 Tryz.f71 .nil .nil) (.node 73 Tryz.f73 .nil .nil)))))) (.node 110 Tryz.f110 (.node 92 Tryz.f92 (.node 83 Tryz.f83 (.node 79 Tryz.f79 (.node 77 Tryz.f77 (.node 76 Tryz.f76 (.node 75 Tryz.f75 .nil .nil) .nil) (.node 78 Tryz.f78 .nil .nil)) (.node 81 Tryz.f81 (.node 80 Tryz.f80 .nil .nil) (.node 82 Tryz.f82 .nil .nil))) (.node 88 Tryz.f88 (.node 86 Tryz.f86 (.node 85 Tryz.f85 (.node 84 Tryz.f84 .nil .nil) .nil) (.node 87 Tryz.f87 .nil .nil)) (.node 90 Tryz.f90 (.node 89 Tryz.f89 .nil .nil) (.node 91 Tryz.f91 .nil .nil)))) (.node 101 Tryz.f101 (.node 97 Tryz.f97 (.node 95 Tryz.f95 (.node 94 Tryz.f94 (.node 93 Tryz.f93 .nil .nil) .nil) (.node 96 Tryz.f96 .nil .nil)) (.node 99 Tryz.f99 (.node 98 Tryz.f98 .nil .nil) (.node 100 Tryz.f100 .nil .nil))) (.node 106 Tryz.f106 (.node 104 Tryz.f104 (.node 103 Tryz.f103 (.node 102 Tryz.f102 .nil .nil) .nil) (.node 105 Tryz.f105 .nil .nil)) (.node 108 Tryz.f108 (.node 107 Tryz.f107 .nil .nil) (.node 109 Tryz.f109 .nil .nil))))) (.node 128 Tryz.f128 (.node 119 Tryz.f119 (.node 115 Tryz.f115 (.node 113 Tryz.f113 (.node 112 Tryz.f112 (.node 111 Tryz.f111 .nil .nil) .nil) (.node 114 Tryz.f114 .nil .nil)) (.node 117 Tryz.f117 (.node 116 Tryz.f116 .nil .nil) (.node 118 Tryz.f118 .nil .nil))) (.node 124 Tryz.f124 (.node 122 Tryz.f122 (.node 121 Tryz.f121 (.node 120 Tryz.f120 .nil .nil) .nil) (.node 123 Tryz.f123 .nil .nil)) (.node 126 Tryz.f126 (.node 125 Tryz.f125 .nil .nil) (.node 127 Tryz.f127 .nil .nil)))) (.node 137 Tryz.f137 (.node 133 Tryz.f133 (.node 131 Tryz.f131 (.node 130 Tryz.f130 (.node 129 Tryz.f129 .nil .nil) .nil) (.node 132 Tryz.f132 .nil .nil)) (.node 135 Tryz.f135 (.node 134 Tryz.f134 .nil .nil) (.node 136 Tryz.f136 .nil .nil))) (.node 141 Tryz.f141 (.node 139 Tryz.f139 (.node 138 Tryz.f138 .nil .nil) (.node 140 Tryz.f140 .nil .nil)) (.node 143 Tryz.f143 (.node 142 Tryz.f142 .nil .nil) (.node 144 Tryz.f144 .nil .nil)))))))
noncomputable def cfg (X : Nat → List V → V → Prop) : Cfg := ⟨Tryz.prog, tyT.get, fnT.get, X⟩
end Go.Proofs.YthfnbjoecocfaaaGreat
