/- The types and functions of this translation, as the abstract machine asks for them. Conditions: none. Printed by a program (wip/tools/gentab.py). -/
import Derived.Test.YthfnbjoecocfaaaAm
import Derived.Test.YthfnbjoecocfaaaProg
namespace Go.Proofs.Ythfnbjoecocfaaa
open Go Go.Am

noncomputable def t3 : TI := ⟨false, 1, 8, [.int .i64 0], .int .i64⟩
noncomputable def t4 : TI := ⟨false, 1, 1, [.bool false], .bool⟩
noncomputable def t5 : TI := ⟨false, 1, 1, [.int .u8 0], .int .u8⟩
noncomputable def t22 : TI := ⟨false, 1, 24, [.slice none 0 0], .slice 126 4⟩
noncomputable def t23 : TI := ⟨false, 1, 24, [.slice none 0 0], .slice 142 2⟩
noncomputable def t25 : TI := ⟨true, 2, 32, [.slice none 0 0, .int .i64 0], .struct [⟨0, 1, 23⟩, ⟨1, 1, 3⟩]⟩
noncomputable def t27 : TI := ⟨true, 11, 136, [.int .i64 0, .int .i64 0, .int .i64 0, .int .i64 0, .slice none 0 0, .slice none 0 0, .int .i64 0, .slice none 0 0, .int .i64 0, .int .i64 0, .int .i64 0], .struct [⟨0, 1, 3⟩, ⟨1, 1, 3⟩, ⟨2, 1, 3⟩, ⟨3, 1, 3⟩, ⟨4, 1, 22⟩, ⟨5, 2, 25⟩, ⟨7, 2, 25⟩, ⟨9, 1, 3⟩, ⟨10, 1, 3⟩]⟩
noncomputable def t28 : TI := ⟨false, 1, 24, [.slice none 0 0], .slice 30 2⟩
noncomputable def t30 : TI := ⟨true, 2, 16, [.int .i64 0, .int .i64 0], .struct [⟨0, 1, 3⟩, ⟨1, 1, 3⟩]⟩
noncomputable def t32 : TI := ⟨true, 3, 40, [.slice none 0 0, .int .i64 0, .int .i64 0], .struct [⟨0, 1, 28⟩, ⟨1, 2, 30⟩]⟩
noncomputable def t35 : TI := ⟨false, 1, 8, [.int .i64 0], .int .i64⟩
noncomputable def t40 : TI := ⟨false, 1, 24, [.slice none 0 0], .slice 3 1⟩
noncomputable def t46 : TI := ⟨true, 3, 40, [.int .i64 0, .slice none 0 0, .int .i64 0], .struct [⟨0, 1, 3⟩, ⟨1, 1, 40⟩, ⟨2, 1, 3⟩]⟩
noncomputable def t50 : TI := ⟨false, 1, 24, [.slice none 0 0], .slice 53 1⟩
noncomputable def t53 : TI := ⟨false, 1, 2, [.int .u16 0], .int .u16⟩
noncomputable def t56 : TI := ⟨true, 2, 16, [.int .i64 0, .int .i64 0], .struct [⟨0, 1, 3⟩, ⟨1, 1, 35⟩]⟩
noncomputable def t62 : TI := ⟨false, 1, 24, [.slice none 0 0], .slice 88 4⟩
noncomputable def t66 : TI := ⟨true, 3, 40, [.slice none 0 0, .int .i64 0, .int .i64 0], .struct [⟨0, 1, 40⟩, ⟨1, 1, 3⟩, ⟨2, 1, 35⟩]⟩
noncomputable def t70 : TI := ⟨false, 1, 24, [.slice none 0 0], .slice 151 2⟩
noncomputable def t74 : TI := ⟨true, 2, 32, [.slice none 0 0, .int .i64 0], .struct [⟨0, 1, 70⟩, ⟨1, 1, 35⟩]⟩
noncomputable def t79 : TI := ⟨true, 2, 32, [.slice none 0 0, .int .i64 0], .struct [⟨0, 1, 62⟩, ⟨1, 1, 35⟩]⟩
noncomputable def t88 : TI := ⟨true, 4, 32, [.int .i64 0, .int .i64 0, .int .i64 0, .int .i64 0], .struct [⟨0, 1, 3⟩, ⟨1, 1, 3⟩, ⟨2, 2, 30⟩]⟩
noncomputable def t90 : TI := ⟨false, 1, 24, [.slice none 0 0], .slice 96 2⟩
noncomputable def t96 : TI := ⟨true, 2, 16, [.int .i64 0, .int .i64 0], .struct [⟨0, 1, 3⟩, ⟨1, 1, 3⟩]⟩
noncomputable def t101 : TI := ⟨true, 4, 32, [.int .i64 0, .int .i64 0, .int .i64 0, .int .i64 0], .struct [⟨0, 2, 30⟩, ⟨2, 2, 30⟩]⟩
noncomputable def t109 : TI := ⟨false, 1, 24, [.slice none 0 0], .slice 113 3⟩
noncomputable def t113 : TI := ⟨true, 3, 24, [.int .i64 0, .int .i64 0, .int .i64 0], .struct [⟨0, 2, 30⟩, ⟨2, 1, 3⟩]⟩
noncomputable def t121 : TI := ⟨true, 2, 16, [.int .i64 0, .int .i64 0], .struct [⟨0, 1, 3⟩, ⟨1, 1, 3⟩]⟩
noncomputable def t126 : TI := ⟨true, 4, 32, [.int .i64 0, .int .i64 0, .int .i64 0, .int .i64 0], .struct [⟨0, 1, 3⟩, ⟨1, 1, 3⟩, ⟨2, 1, 3⟩, ⟨3, 1, 3⟩]⟩
noncomputable def t127 : TI := ⟨false, 1, 8, [.nilFunc], .func⟩
noncomputable def t134 : TI := ⟨false, 1, 8, [.nilFunc], .func⟩
noncomputable def t136 : TI := ⟨false, 1, 24, [.slice none 0 0], .slice 25 2⟩
noncomputable def t142 : TI := ⟨true, 2, 16, [.int .i64 0, .int .i64 0], .struct [⟨0, 1, 3⟩, ⟨1, 1, 3⟩]⟩
noncomputable def t151 : TI := ⟨true, 2, 16, [.int .i64 0, .int .i64 0], .arr 2 3 1⟩
noncomputable def t152 : TI := ⟨false, 1, 24, [.slice none 0 0], .slice 155 5⟩
noncomputable def t155 : TI := ⟨true, 5, 40, [.int .i64 0, .int .i64 0, .int .i64 0, .int .i64 0, .int .i64 0], .struct [⟨0, 4, 88⟩, ⟨4, 1, 3⟩]⟩
noncomputable def t156 : TI := ⟨false, 1, 8, [.map none], .map 3 4⟩
noncomputable def t161 : TI := ⟨false, 1, 8, [.nilFunc], .func⟩
noncomputable def t163 : TI := ⟨false, 1, 8, [.map none], .map 3 3⟩
noncomputable def t165 : TI := ⟨false, 1, 8, [.nilFunc], .func⟩
noncomputable def t168 : TI := ⟨true, 14, 192, [.int .i64 0, .int .i64 0, .int .i64 0, .int .i64 0, .slice none 0 0, .slice none 0 0, .int .i64 0, .slice none 0 0, .int .i64 0, .int .i64 0, .int .i64 0, .slice none 0 0, .slice none 0 0, .int .i64 0], .struct [⟨0, 11, 27⟩, ⟨11, 1, 40⟩, ⟨12, 1, 40⟩, ⟨13, 1, 3⟩]⟩
noncomputable def t170 : TI := ⟨true, 8, 64, [.int .i64 0, .int .i64 0, .int .i64 0, .int .i64 0, .int .i64 0, .int .i64 0, .int .i64 0, .int .i64 0], .arr 8 3 1⟩
noncomputable def t178 : TI := ⟨false, 1, 24, [.slice none 0 0], .slice 40 1⟩
noncomputable def t186 : TI := ⟨true, 2, 32, [.slice none 0 0, .int .i64 0], .struct [⟨0, 2, 25⟩]⟩
noncomputable def t190 : TI := ⟨false, 1, 24, [.slice none 0 0], .slice 35 1⟩
noncomputable def t193 : TI := ⟨false, 1, 8, [.nilFunc], .func⟩
noncomputable def t195 : TI := ⟨false, 1, 8, [.nilFunc], .func⟩
noncomputable def t199 : TI := ⟨false, 1, 8, [.nilFunc], .func⟩
noncomputable def t202 : TI := ⟨false, 1, 8, [.int .u64 0], .int .u64⟩
noncomputable def t204 : TI := ⟨false, 1, 8, [.nilFunc], .func⟩
noncomputable def t206 : TI := ⟨false, 1, 8, [.map none], .map 170 3⟩
noncomputable def t207 : TI := ⟨false, 1, 24, [.slice none 0 0], .slice 170 8⟩
noncomputable def t218 : TI := ⟨true, 4, 32, [.int .i64 0, .int .i64 0, .int .i64 0, .int .i64 0], .struct [⟨0, 2, 142⟩, ⟨2, 2, 142⟩]⟩
noncomputable def t224 : TI := ⟨false, 1, 8, [.int .i64 0], .int .i64⟩
noncomputable def t231 : TI := ⟨false, 1, 4, [.int .u32 0], .int .u32⟩
noncomputable def t233 : TI := ⟨false, 1, 8, [.int .u64 0], .int .u64⟩
noncomputable def t239 : TI := ⟨false, 1, 8, [.int .u64 0], .int .u64⟩
noncomputable def t243 : TI := ⟨false, 1, 8, [.pointer none], .ptr⟩
noncomputable def tyT : BT TI := (.node 127 t127 (.node 53 t53 (.node 28 t28 (.node 22 t22 (.node 4 t4 (.node 3 t3 .nil .nil) (.node 5 t5 .nil .nil)) (.node 25 t25 (.node 23 t23 .nil .nil) (.node 27 t27 .nil .nil))) (.node 40 t40 (.node 32 t32 (.node 30 t30 .nil .nil) (.node 35 t35 .nil .nil)) (.node 50 t50 (.node 46 t46 .nil .nil) .nil))) (.node 90 t90 (.node 70 t70 (.node 62 t62 (.node 56 t56 .nil .nil) (.node 66 t66 .nil .nil)) (.node 79 t79 (.node 74 t74 .nil .nil) (.node 88 t88 .nil .nil))) (.node 113 t113 (.node 101 t101 (.node 96 t96 .nil .nil) (.node 109 t109 .nil .nil)) (.node 126 t126 (.node 121 t121 .nil .nil) .nil)))) (.node 190 t190 (.node 161 t161 (.node 151 t151 (.node 136 t136 (.node 134 t134 .nil .nil) (.node 142 t142 .nil .nil)) (.node 155 t155 (.node 152 t152 .nil .nil) (.node 156 t156 .nil .nil))) (.node 170 t170 (.node 165 t165 (.node 163 t163 .nil .nil) (.node 168 t168 .nil .nil)) (.node 186 t186 (.node 178 t178 .nil .nil) .nil))) (.node 207 t207 (.node 202 t202 (.node 195 t195 (.node 193 t193 .nil .nil) (.node 199 t199 .nil .nil)) (.node 206 t206 (.node 204 t204 .nil .nil) .nil)) (.node 233 t233 (.node 224 t224 (.node 218 t218 .nil .nil) (.node 231 t231 .nil .nil)) (.node 243 t243 (.node 239 t239 .nil .nil) .nil)))))
noncomputable def fnT : BT Func := (.node 96 Try.f96 (.node 49 Try.f49 (.node 26 Try.f26 (.node 14 Try.f14 (.node 8 Try.f8 (.node 5 Try.f5 (.node 4 Try.f4 (.node 3 Try.f3 .nil .nil) .nil) (.node 7 Try.f7 (.node 6 Try.f6 .nil .nil) .nil)) (.node 11 Try.f11 (.node 10 Try.f10 (.node 9 Try.f9 .nil .nil) .nil) (.node 13 Try.f13 (.node 12 Try.f12 .nil .nil) .nil))) (.node 20 Try.f20 (.node 17 Try.f17 (.node 16 Try.f16 (.node 15 Try.f15 .nil .nil) .nil) (.node 19 Try.f19 (.node 18 Try.f18 .nil .nil) .nil)) (.node 23 Try.f23 (.node 22 Try.f22 (.node 21 Try.f21 .nil .nil) .nil) (.node 25 Try.f25 (.node 24 Try.f24 .nil .nil) .nil)))) (.node 38 Try.f38 (.node 32 Try.f32 (.node 29 Try.f29 (.node 28 Try.f28 (.node 27 Try.f27 .nil .nil) .nil) (.node 31 Try.f31 (.node 30 Try.f30 .nil .nil) .nil)) (.node 35 Try.f35 (.node 34 Try.f34 (.node 33 Try.f33 .nil .nil) .nil) (.node 37 Try.f37 (.node 36 Try.f36 .nil .nil) .nil))) (.node 44 Try.f44 (.node 41 Try.f41 (.node 40 Try.f40 (.node 39 Try.f39 .nil .nil) .nil) (.node 43 Try.f43 (.node 42 Try.f42 .nil .nil) .nil)) (.node 47 Try.f47 (.node 46 Try.f46 (.node 45 Try.f45 .nil .nil) .nil) (.node 48 Try.f48 .nil .nil))))) (.node 73 Try.f73 (.node 61 Try.f61 (.node 55 Try.f55 (.node 52 Try.f52 (.node 51 Try.f51 (.node 50 Try.f50 .nil .nil) .nil) (.node 54 Try.f54 (.node 53 Try.f53 .nil .nil) .nil)) (.node 58 Try.f58 (.node 57 Try.f57 (.node 56 Try.f56 .nil .nil) .nil) (.node 60 Try.f60 (.node 59 Try.f59 .nil .nil) .nil))) (.node 67 Try.f67 (.node 64 Try.f64 (.node 63 Try.f63 (.node 62 Try.f62 .nil .nil) .nil) (.node 66 Try.f66 (.node 65 Try.f65 .nil .nil) .nil)) (.node 70 Try.f70 (.node 69 Try.f69 (.node 68 Try.f68 .nil .nil) .nil) (.node 72 Try.f72 (.node 71 Try.f71 .nil .nil) .nil)))) (.node 85 Try.f85 (.node 79 Try.f79 (.node 76 Try.f76 (.node 75 Try.f75 (.node 74 Try.f74 .nil .nil) .nil) (.node 78 Try.f78 (.node 77 Try.f77 .nil .nil) .nil)) (.node 82 Try.f82 (.node 81 Try.f81 (.node 80 Try.f80 .nil .nil) .nil) (.node 84 Try.f84 (.node 83 Try.f83 .nil .nil) .nil))) (.node 91 Try.f91 (.node 88 Try.f88 (.node 87 Try.f87 (.node 86 Try.f86 .nil .nil) .nil) (.node 90 Try.f90 (.node 89 Try.f89 .nil .nil) .nil)) (.node 94 Try.f94 (.node 93 Try.f93 (.node 92 Try.f92 .nil .nil) .nil) (.node 95 Try.f95 .nil .nil)))))) (.node 143 Try.f143 (.node 120 Try.f120 (.node 108 Try.f108 (.node 102 Try.f102 (.node 99 Try.f99 (.node 98 Try.f98 (.node 97 Try.f97 .nil .nil) .nil) (.node 101 Try.f101 (.node 100 Try.f100 .nil .nil) .nil)) (.node 105 Try.f105 (.node 104 Try.f104 (.node 103 Try.f103 .nil .nil) .nil) (.node 107 Try.f107 (.node 106 Try.f106 .nil .nil) .nil))) (.node 114 Try.f114 (.node 111 Try.f111 (.node 110 Try.f110 (.node 109 Try.f109 .nil .nil) .nil) (.node 113 Try.f113 (.node 112 Try.f112 .nil .nil) .nil)) (.node 117 Try.f117 (.node 116 Try.f116 (.node 115 Try.f115 .nil .nil) .nil) (.node 119 Try.f119 (.node 118 Try.f118 .nil .nil) .nil)))) (.node 132 Try.f132 (.node 126 Try.f126 (.node 123 Try.f123 (.node 122 Try.f122 (.node 121 Try.f121 .nil .nil) .nil) (.node 125 Try.f125 (.node 124 Try.f124 .nil .nil) .nil)) (.node 129 Try.f129 (.node 128 Try.f128 (.node 127 Try.f127 .nil .nil) .nil) (.node 131 Try.f131 (.node 130 Try.f130 .nil .nil) .nil))) (.node 138 Try.f138 (.node 135 Try.f135 (.node 134 Try.f134 (.node 133 Try.f133 .nil .nil) .nil) (.node 137 Try.f137 (.node 136 Try.f136 .nil .nil) .nil)) (.node 141 Try.f141 (.node 140 Try.f140 (.node 139 Try.f139 .nil .nil) .nil) (.node 142 Try.f142 .nil .nil))))) (.node 166 Try.f166 (.node 155 Try.f155 (.node 149 Try.f149 (.node 146 Try.f146 (.node 145 Try.f145 (.node 144 Try.f144 .nil .nil) .nil) (.node 148 Try.f148 (.node 147 Try.f147 .nil .nil) .nil)) (.node 152 Try.f152 (.node 151 Try.f151 (.node 150 Try.f150 .nil .nil) .nil) (.node 154 Try.f154 (.node 153 Try.f153 .nil .nil) .nil))) (.node 161 Try.f161 (.node 158 Try.f158 (.node 157 Try.f157 (.node 156 Try.f156 .nil .nil) .nil) (.node 160 Try.f160 (.node 159 Try.f159 .nil .nil) .nil)) (.node 164 Try.f164 (.node 163 Try.f163 (.node 162 Try.f162 .nil .nil) .nil) (.node 165 Try.f165 .nil .nil)))) (.node 178 Try.f178 (.node 172 Try.f172 (.node 169 Try.f169 (.node 168 Try.f168 (.node 167 Try.f167 .nil .nil) .nil) (.node 171 Try.f171 (.node 170 Try.f170 .nil .nil) .nil)) (.node 175 Try.f175 (.node 174 Try.f174 (.node 173 Try.f173 .nil .nil) .nil) (.node 177 Try.f177 (.node 176 Try.f176 .nil .nil) .nil))) (.node 184 Try.f184 (.node 181 Try.f181 (.node 180 Try.f180 (.node 179 Try.f179 .nil .nil) .nil) (.node 183 Try.f183 (.node 182 Try.f182 .nil .nil) .nil)) (.node 187 Try.f187 (.node 186 Try.f186 (.node 185 Try.f185 .nil .nil) .nil) (.node 188 Try.f188 .nil .nil)))))))
noncomputable def cfg (X : Nat → List V → V → Prop) : Cfg := ⟨Try.prog, tyT.get, fnT.get, X⟩
end Go.Proofs.Ythfnbjoecocfaaa
