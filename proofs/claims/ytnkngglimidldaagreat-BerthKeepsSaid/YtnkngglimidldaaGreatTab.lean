/- The types and functions of this translation, as the abstract machine asks for them. Conditions: none. Printed by a program (wip/tools/gentab.py). -/
import Derived.Test.YtnkngglimidldaaGreatAm
import Derived.Test.YtnkngglimidldaaGreatProg
namespace Go.Proofs.YtnkngglimidldaaGreat
open Go Go.Am

noncomputable def t3 : TI := ⟨false, 1, 8, [.int .i64 0], .int .i64⟩
noncomputable def t4 : TI := ⟨false, 1, 1, [.bool false], .bool⟩
noncomputable def t5 : TI := ⟨false, 1, 1, [.int .u8 0], .int .u8⟩
noncomputable def t22 : TI := ⟨false, 1, 24, [.slice none 0 0], .slice 144 4⟩
noncomputable def t23 : TI := ⟨false, 1, 24, [.slice none 0 0], .slice 159 3⟩
noncomputable def t25 : TI := ⟨true, 3, 56, [.int .i64 0, .slice none 0 0, .slice none 0 0], .struct [⟨0, 1, 3⟩, ⟨1, 1, 22⟩, ⟨2, 1, 23⟩]⟩
noncomputable def t26 : TI := ⟨false, 1, 24, [.slice none 0 0], .slice 90 2⟩
noncomputable def t27 : TI := ⟨false, 1, 24, [.slice none 0 0], .slice 32 2⟩
noncomputable def t29 : TI := ⟨true, 6, 112, [.int .i64 0, .slice none 0 0, .slice none 0 0, .slice none 0 0, .slice none 0 0, .int .i64 0], .struct [⟨0, 3, 25⟩, ⟨3, 1, 26⟩, ⟨4, 1, 27⟩, ⟨5, 1, 3⟩]⟩
noncomputable def t30 : TI := ⟨false, 1, 24, [.slice none 0 0], .slice 44 5⟩
noncomputable def t32 : TI := ⟨true, 2, 16, [.int .i64 0, .int .i64 0], .struct [⟨0, 1, 3⟩, ⟨1, 1, 3⟩]⟩
noncomputable def t35 : TI := ⟨false, 1, 8, [.int .i64 0], .int .i64⟩
noncomputable def t44 : TI := ⟨true, 5, 40, [.int .i64 0, .int .i64 0, .int .i64 0, .int .i64 0, .int .i64 0], .struct [⟨0, 1, 3⟩, ⟨1, 1, 3⟩, ⟨2, 1, 3⟩, ⟨3, 1, 3⟩, ⟨4, 1, 3⟩]⟩
noncomputable def t46 : TI := ⟨true, 2, 16, [.int .i64 0, .int .i64 0], .struct [⟨0, 1, 3⟩, ⟨1, 1, 3⟩]⟩
noncomputable def t50 : TI := ⟨false, 1, 24, [.slice none 0 0], .slice 46 2⟩
noncomputable def t54 : TI := ⟨true, 2, 32, [.slice none 0 0, .int .i64 0], .struct [⟨0, 1, 50⟩, ⟨1, 1, 35⟩]⟩
noncomputable def t58 : TI := ⟨false, 1, 24, [.slice none 0 0], .slice 3 1⟩
noncomputable def t60 : TI := ⟨true, 2, 48, [.slice none 0 0, .slice none 0 0], .struct [⟨0, 1, 58⟩, ⟨1, 1, 50⟩]⟩
noncomputable def t65 : TI := ⟨true, 2, 16, [.int .i64 0, .int .i64 0], .struct [⟨0, 1, 3⟩, ⟨1, 1, 35⟩]⟩
noncomputable def t71 : TI := ⟨true, 2, 32, [.slice none 0 0, .int .i64 0], .struct [⟨0, 1, 58⟩, ⟨1, 1, 35⟩]⟩
noncomputable def t75 : TI := ⟨false, 1, 24, [.slice none 0 0], .slice 87 5⟩
noncomputable def t87 : TI := ⟨true, 5, 40, [.int .i64 0, .int .i64 0, .int .i64 0, .int .i64 0, .int .i64 0], .struct [⟨0, 1, 3⟩, ⟨1, 2, 46⟩, ⟨3, 2, 32⟩]⟩
noncomputable def t90 : TI := ⟨true, 2, 16, [.int .i64 0, .int .i64 0], .struct [⟨0, 1, 3⟩, ⟨1, 1, 3⟩]⟩
noncomputable def t91 : TI := ⟨false, 1, 8, [.nilFunc], .func⟩
noncomputable def t101 : TI := ⟨false, 1, 8, [.nilFunc], .func⟩
noncomputable def t103 : TI := ⟨false, 1, 8, [.nilFunc], .func⟩
noncomputable def t110 : TI := ⟨false, 1, 8, [.nilFunc], .func⟩
noncomputable def t111 : TI := ⟨false, 1, 8, [.map none], .map 46 32⟩
noncomputable def t115 : TI := ⟨false, 1, 8, [.pointer none], .ptr⟩
noncomputable def t119 : TI := ⟨false, 1, 8, [.map none], .map 3 4⟩
noncomputable def t120 : TI := ⟨false, 1, 8, [.map none], .map 3 3⟩
noncomputable def t121 : TI := ⟨false, 1, 24, [.slice none 0 0], .slice 111 1⟩
noncomputable def t123 : TI := ⟨true, 4, 96, [.slice none 0 0, .slice none 0 0, .slice none 0 0, .slice none 0 0], .struct [⟨0, 1, 30⟩, ⟨1, 1, 50⟩, ⟨2, 1, 121⟩, ⟨3, 1, 58⟩]⟩
noncomputable def t127 : TI := ⟨false, 1, 24, [.slice none 0 0], .slice 50 1⟩
noncomputable def t129 : TI := ⟨true, 1, 24, [.slice none 0 0], .struct [⟨0, 1, 127⟩]⟩
noncomputable def t141 : TI := ⟨false, 1, 8, [.map none], .map 46 4⟩
noncomputable def t144 : TI := ⟨true, 4, 48, [.int .i64 0, .int .i64 0, .int .i64 0, .slice none 0 0], .struct [⟨0, 1, 3⟩, ⟨1, 1, 3⟩, ⟨2, 1, 3⟩, ⟨3, 1, 58⟩]⟩
noncomputable def t146 : TI := ⟨false, 1, 8, [.nilFunc], .func⟩
noncomputable def t147 : TI := ⟨false, 1, 8, [.nilFunc], .func⟩
noncomputable def t155 : TI := ⟨true, 3, 24, [.int .i64 0, .int .i64 0, .int .i64 0], .struct [⟨0, 2, 32⟩, ⟨2, 1, 3⟩]⟩
noncomputable def t156 : TI := ⟨false, 1, 8, [.nilFunc], .func⟩
noncomputable def t159 : TI := ⟨true, 3, 24, [.int .i64 0, .int .i64 0, .int .i64 0], .struct [⟨0, 1, 3⟩, ⟨1, 1, 3⟩, ⟨2, 1, 3⟩]⟩
noncomputable def t167 : TI := ⟨false, 1, 24, [.slice none 0 0], .slice 58 1⟩
noncomputable def t172 : TI := ⟨true, 2, 48, [.slice none 0 0, .slice none 0 0], .struct [⟨0, 1, 50⟩, ⟨1, 1, 58⟩]⟩
noncomputable def t174 : TI := ⟨true, 4, 80, [.slice none 0 0, .slice none 0 0, .slice none 0 0, .bool false], .struct [⟨0, 2, 172⟩, ⟨2, 1, 50⟩, ⟨3, 1, 4⟩]⟩
noncomputable def t179 : TI := ⟨false, 1, 8, [.int .u64 0], .int .u64⟩
noncomputable def t181 : TI := ⟨false, 1, 8, [.nilFunc], .func⟩
noncomputable def t183 : TI := ⟨false, 1, 8, [.map none], .map 3 147⟩
noncomputable def t190 : TI := ⟨false, 1, 24, [.slice none 0 0], .slice 4 1⟩
noncomputable def t193 : TI := ⟨false, 1, 8, [.int .i64 0], .int .i64⟩
noncomputable def t201 : TI := ⟨false, 1, 4, [.int .u32 0], .int .u32⟩
noncomputable def t203 : TI := ⟨false, 1, 8, [.int .u64 0], .int .u64⟩
noncomputable def t205 : TI := ⟨false, 1, 8, [.nilFunc], .func⟩
noncomputable def t208 : TI := ⟨false, 1, 8, [.int .u64 0], .int .u64⟩
noncomputable def t212 : TI := ⟨false, 1, 8, [.pointer none], .ptr⟩
noncomputable def tyT : BT TI := (.node 111 t111 (.node 46 t46 (.node 26 t26 (.node 22 t22 (.node 4 t4 (.node 3 t3 .nil .nil) (.node 5 t5 .nil .nil)) (.node 25 t25 (.node 23 t23 .nil .nil) .nil)) (.node 32 t32 (.node 29 t29 (.node 27 t27 .nil .nil) (.node 30 t30 .nil .nil)) (.node 44 t44 (.node 35 t35 .nil .nil) .nil))) (.node 75 t75 (.node 60 t60 (.node 54 t54 (.node 50 t50 .nil .nil) (.node 58 t58 .nil .nil)) (.node 71 t71 (.node 65 t65 .nil .nil) .nil)) (.node 101 t101 (.node 90 t90 (.node 87 t87 .nil .nil) (.node 91 t91 .nil .nil)) (.node 110 t110 (.node 103 t103 .nil .nil) .nil)))) (.node 159 t159 (.node 129 t129 (.node 121 t121 (.node 119 t119 (.node 115 t115 .nil .nil) (.node 120 t120 .nil .nil)) (.node 127 t127 (.node 123 t123 .nil .nil) .nil)) (.node 147 t147 (.node 144 t144 (.node 141 t141 .nil .nil) (.node 146 t146 .nil .nil)) (.node 156 t156 (.node 155 t155 .nil .nil) .nil))) (.node 190 t190 (.node 179 t179 (.node 172 t172 (.node 167 t167 .nil .nil) (.node 174 t174 .nil .nil)) (.node 183 t183 (.node 181 t181 .nil .nil) .nil)) (.node 205 t205 (.node 201 t201 (.node 193 t193 .nil .nil) (.node 203 t203 .nil .nil)) (.node 212 t212 (.node 208 t208 .nil .nil) .nil)))))
noncomputable def fnT : BT Func := (.node 77 Tryz.f77 (.node 40 Tryz.f40 (.node 21 Tryz.f21 (.node 12 Tryz.f12 (.node 7 Tryz.f7 (.node 5 Tryz.f5 (.node 4 Tryz.f4 (.node 3 Tryz.f3 .nil .nil) .nil) (.node 6 Tryz.f6 .nil .nil)) (.node 10 Tryz.f10 (.node 9 Tryz.f9 (.node 8 Tryz.f8 .nil .nil) .nil) (.node 11 Tryz.f11 .nil .nil))) (.node 17 Tryz.f17 (.node 15 Tryz.f15 (.node 14 Tryz.f14 (.node 13 Tryz.f13 .nil .nil) .nil) (.node 16 Tryz.f16 .nil .nil)) (.node 19 Tryz.f19 (.node 18 Tryz.f18 .nil .nil) (.node 20 Tryz.f20 .nil .nil)))) (.node 31 Tryz.f31 (.node 26 Tryz.f26 (.node 24 Tryz.f24 (.node 23 Tryz.f23 (.node 22 Tryz.f22 .nil .nil) .nil) (.node 25 Tryz.f25 .nil .nil)) (.node 29 Tryz.f29 (.node 28 Tryz.f28 (.node 27 Tryz.f27 .nil .nil) .nil) (.node 30 Tryz.f30 .nil .nil))) (.node 36 Tryz.f36 (.node 34 Tryz.f34 (.node 33 Tryz.f33 (.node 32 Tryz.f32 .nil .nil) .nil) (.node 35 Tryz.f35 .nil .nil)) (.node 38 Tryz.f38 (.node 37 Tryz.f37 .nil .nil) (.node 39 Tryz.f39 .nil .nil))))) (.node 59 Tryz.f59 (.node 50 Tryz.f50 (.node 45 Tryz.f45 (.node 43 Tryz.f43 (.node 42 Tryz.f42 (.node 41 Tryz.f41 .nil .nil) .nil) (.node 44 Tryz.f44 .nil .nil)) (.node 48 Tryz.f48 (.node 47 Tryz.f47 (.node 46 Tryz.f46 .nil .nil) .nil) (.node 49 Tryz.f49 .nil .nil))) (.node 55 Tryz.f55 (.node 53 Tryz.f53 (.node 52 Tryz.f52 (.node 51 Tryz.f51 .nil .nil) .nil) (.node 54 Tryz.f54 .nil .nil)) (.node 57 Tryz.f57 (.node 56 Tryz.f56 .nil .nil) (.node 58 Tryz.f58 .nil .nil)))) (.node 68 Tryz.f68 (.node 64 Tryz.f64 (.node 62 Tryz.f62 (.node 61 Tryz.f61 (.node 60 Tryz.f60 .nil .nil) .nil) (.node 63 Tryz.f63 .nil .nil)) (.node 66 Tryz.f66 (.node 65 Tryz.f65 .nil .nil) (.node 67 Tryz.f67 .nil .nil))) (.node 73 Tryz.f73 (.node 71 Tryz.f71 (.node 70 Tryz.f70 (.node 69 Tryz.f69 .nil .nil) .nil) (.node 72 Tryz.f72 .nil .nil)) (.node 75 Tryz.f75 (.node 74 Tryz.f74 .nil .nil) (.node 76 Tryz.f76 .nil .nil)))))) (.node 114 Tryz.f114 (.node 96 Tryz.f96 (.node 87 Tryz.f87 (.node 82 Tryz.f82 (.node 80 Tryz.f80 (.node 79 Tryz.f79 (.node 78 Tryz.f78 .nil .nil) .nil) (.node 81 Tryz.f81 .nil .nil)) (.node 85 Tryz.f85 (.node 84 Tryz.f84 (.node 83 Tryz.f83 .nil .nil) .nil) (.node 86 Tryz.f86 .nil .nil))) (.node 92 Tryz.f92 (.node 90 Tryz.f90 (.node 89 Tryz.f89 (.node 88 Tryz.f88 .nil .nil) .nil) (.node 91 Tryz.f91 .nil .nil)) (.node 94 Tryz.f94 (.node 93 Tryz.f93 .nil .nil) (.node 95 Tryz.f95 .nil .nil)))) (.node 105 Tryz.f105 (.node 101 Tryz.f101 (.node 99 Tryz.f99 (.node 98 Tryz.f98 (.node 97 Tryz.f97 .nil .nil) .nil) (.node 100 Tryz.f100 .nil .nil)) (.node 103 Tryz.f103 (.node 102 Tryz.f102 .nil .nil) (.node 104 Tryz.f104 .nil .nil))) (.node 110 Tryz.f110 (.node 108 Tryz.f108 (.node 107 Tryz.f107 (.node 106 Tryz.f106 .nil .nil) .nil) (.node 109 Tryz.f109 .nil .nil)) (.node 112 Tryz.f112 (.node 111 Tryz.f111 .nil .nil) (.node 113 Tryz.f113 .nil .nil))))) (.node 133 Tryz.f133 (.node 124 Tryz.f124 (.node 119 Tryz.f119 (.node 117 Tryz.f117 (.node 116 Tryz.f116 (.node 115 Tryz.f115 .nil .nil) .nil) (.node 118 Tryz.f118 .nil .nil)) (.node 122 Tryz.f122 (.node 121 Tryz.f121 (.node 120 Tryz.f120 .nil .nil) .nil) (.node 123 Tryz.f123 .nil .nil))) (.node 129 Tryz.f129 (.node 127 Tryz.f127 (.node 126 Tryz.f126 (.node 125 Tryz.f125 .nil .nil) .nil) (.node 128 Tryz.f128 .nil .nil)) (.node 131 Tryz.f131 (.node 130 Tryz.f130 .nil .nil) (.node 132 Tryz.f132 .nil .nil)))) (.node 142 Tryz.f142 (.node 138 Tryz.f138 (.node 136 Tryz.f136 (.node 135 Tryz.f135 (.node 134 Tryz.f134 .nil .nil) .nil) (.node 137 Tryz.f137 .nil .nil)) (.node 140 Tryz.f140 (.node 139 Tryz.f139 .nil .nil) (.node 141 Tryz.f141 .nil .nil))) (.node 147 Tryz.f147 (.node 145 Tryz.f145 (.node 144 Tryz.f144 (.node 143 Tryz.f143 .nil .nil) .nil) (.node 146 Tryz.f146 .nil .nil)) (.node 149 Tryz.f149 (.node 148 Tryz.f148 .nil .nil) (.node 150 Tryz.f150 .nil .nil)))))))
noncomputable def cfg (X : Nat → List V → V → Prop) : Cfg := ⟨Tryz.prog, tyT.get, fnT.get, X⟩
end Go.Proofs.YtnkngglimidldaaGreat
