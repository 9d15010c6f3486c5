/- The types and functions of this translation, as the abstract machine asks for them. Conditions: none. Printed by a program (wip/tools/gentab.py). -/
import Derived.Test.YtkomoedegnckhaaAm
import Derived.Test.YtkomoedegnckhaaProg
namespace Go.Proofs.Ytkomoedegnckhaa
open Go Go.Am

noncomputable def t3 : TI := ⟨false, 1, 8, [.int .i64 0], .int .i64⟩
noncomputable def t4 : TI := ⟨false, 1, 1, [.bool false], .bool⟩
noncomputable def t5 : TI := ⟨false, 1, 1, [.int .u8 0], .int .u8⟩
noncomputable def t23 : TI := ⟨true, 1, 8, [.int .i64 0], .struct [⟨0, 1, 3⟩]⟩
noncomputable def t24 : TI := ⟨false, 1, 24, [.slice none 0 0], .slice 37 8⟩
noncomputable def t27 : TI := ⟨false, 1, 8, [.int .i64 0], .int .i64⟩
noncomputable def t31 : TI := ⟨false, 1, 24, [.slice none 0 0], .slice 35 3⟩
noncomputable def t35 : TI := ⟨true, 3, 24, [.int .i64 0, .int .i64 0, .int .i64 0], .struct [⟨0, 1, 3⟩, ⟨1, 1, 3⟩, ⟨2, 1, 3⟩]⟩
noncomputable def t37 : TI := ⟨true, 8, 64, [.int .i64 0, .int .i64 0, .int .i64 0, .int .i64 0, .int .i64 0, .int .i64 0, .int .i64 0, .int .i64 0], .struct [⟨0, 1, 3⟩, ⟨1, 1, 3⟩, ⟨2, 1, 3⟩, ⟨3, 1, 3⟩, ⟨4, 1, 3⟩, ⟨5, 1, 3⟩, ⟨6, 1, 3⟩, ⟨7, 1, 3⟩]⟩
noncomputable def t55 : TI := ⟨false, 1, 24, [.slice none 0 0], .slice 5 1⟩
noncomputable def t58 : TI := ⟨true, 2, 32, [.slice none 0 0, .int .i64 0], .struct [⟨0, 1, 31⟩, ⟨1, 1, 27⟩]⟩
noncomputable def t63 : TI := ⟨true, 2, 32, [.slice none 0 0, .int .i64 0], .struct [⟨0, 1, 24⟩, ⟨1, 1, 27⟩]⟩
noncomputable def t67 : TI := ⟨false, 1, 24, [.slice none 0 0], .slice 72 5⟩
noncomputable def t68 : TI := ⟨false, 1, 8, [.pointer none], .ptr⟩
noncomputable def t72 : TI := ⟨true, 5, 40, [.int .i64 0, .int .i64 0, .int .i64 0, .int .i64 0, .int .i64 0], .struct [⟨0, 1, 3⟩, ⟨1, 1, 3⟩, ⟨2, 1, 3⟩, ⟨3, 1, 3⟩, ⟨4, 1, 3⟩]⟩
noncomputable def t73 : TI := ⟨false, 1, 8, [.nilFunc], .func⟩
noncomputable def t77 : TI := ⟨true, 4, 32, [.int .i64 0, .int .i64 0, .int .i64 0, .int .i64 0], .struct [⟨0, 1, 3⟩, ⟨1, 1, 3⟩, ⟨2, 1, 3⟩, ⟨3, 1, 3⟩]⟩
noncomputable def t84 : TI := ⟨false, 1, 8, [.map none], .map 37 4⟩
noncomputable def t85 : TI := ⟨false, 1, 8, [.map none], .map 3 24⟩
noncomputable def t93 : TI := ⟨false, 1, 8, [.nilFunc], .func⟩
noncomputable def t94 : TI := ⟨false, 1, 8, [.map none], .map 3 4⟩
noncomputable def t102 : TI := ⟨false, 1, 8, [.nilFunc], .func⟩
noncomputable def t108 : TI := ⟨false, 1, 24, [.slice none 0 0], .slice 3 1⟩
noncomputable def t109 : TI := ⟨false, 1, 8, [.map none], .map 117 118⟩
noncomputable def t111 : TI := ⟨true, 6, 96, [.int .i64 0, .int .i64 0, .slice none 0 0, .slice none 0 0, .map none, .slice none 0 0], .struct [⟨0, 1, 23⟩, ⟨1, 1, 3⟩, ⟨2, 1, 24⟩, ⟨3, 1, 24⟩, ⟨4, 1, 109⟩, ⟨5, 1, 108⟩]⟩
noncomputable def t112 : TI := ⟨false, 1, 8, [.pointer none], .ptr⟩
noncomputable def t114 : TI := ⟨true, 8, 80, [.int .i64 0, .int .i64 0, .int .i64 0, .int .i64 0, .int .i64 0, .bool false, .pointer none, .slice none 0 0], .struct [⟨0, 4, 77⟩, ⟨4, 1, 3⟩, ⟨5, 1, 4⟩, ⟨6, 1, 112⟩, ⟨7, 1, 24⟩]⟩
noncomputable def t117 : TI := ⟨true, 2, 16, [.int .i64 0, .int .i64 0], .struct [⟨0, 1, 3⟩, ⟨1, 1, 3⟩]⟩
noncomputable def t118 : TI := ⟨false, 1, 8, [.pointer none], .ptr⟩
noncomputable def t124 : TI := ⟨false, 1, 8, [.map none], .map 35 94⟩
noncomputable def t126 : TI := ⟨false, 1, 8, [.nilFunc], .func⟩
noncomputable def t134 : TI := ⟨true, 3, 40, [.int .i64 0, .slice none 0 0, .bool false], .struct [⟨0, 1, 3⟩, ⟨1, 1, 24⟩, ⟨2, 1, 4⟩]⟩
noncomputable def t139 : TI := ⟨false, 1, 8, [.nilFunc], .func⟩
noncomputable def t140 : TI := ⟨false, 1, 8, [.map none], .map 3 139⟩
noncomputable def t148 : TI := ⟨false, 1, 8, [.int .u64 0], .int .u64⟩
noncomputable def t155 : TI := ⟨false, 1, 8, [.int .i64 0], .int .i64⟩
noncomputable def t162 : TI := ⟨false, 1, 4, [.int .u32 0], .int .u32⟩
noncomputable def t164 : TI := ⟨false, 1, 8, [.int .u64 0], .int .u64⟩
noncomputable def t167 : TI := ⟨false, 1, 8, [.int .u64 0], .int .u64⟩
noncomputable def t171 : TI := ⟨false, 1, 8, [.pointer none], .ptr⟩
noncomputable def tyT : BT TI := (.node 94 t94 (.node 58 t58 (.node 27 t27 (.node 5 t5 (.node 4 t4 (.node 3 t3 .nil .nil) .nil) (.node 24 t24 (.node 23 t23 .nil .nil) .nil)) (.node 37 t37 (.node 35 t35 (.node 31 t31 .nil .nil) .nil) (.node 55 t55 .nil .nil))) (.node 73 t73 (.node 68 t68 (.node 67 t67 (.node 63 t63 .nil .nil) .nil) (.node 72 t72 .nil .nil)) (.node 85 t85 (.node 84 t84 (.node 77 t77 .nil .nil) .nil) (.node 93 t93 .nil .nil)))) (.node 126 t126 (.node 112 t112 (.node 109 t109 (.node 108 t108 (.node 102 t102 .nil .nil) .nil) (.node 111 t111 .nil .nil)) (.node 118 t118 (.node 117 t117 (.node 114 t114 .nil .nil) .nil) (.node 124 t124 .nil .nil))) (.node 155 t155 (.node 140 t140 (.node 139 t139 (.node 134 t134 .nil .nil) .nil) (.node 148 t148 .nil .nil)) (.node 167 t167 (.node 164 t164 (.node 162 t162 .nil .nil) .nil) (.node 171 t171 .nil .nil)))))
noncomputable def fnT : BT Func := (.node 85 Try.f85 (.node 44 Try.f44 (.node 23 Try.f23 (.node 13 Try.f13 (.node 8 Try.f8 (.node 5 Try.f5 (.node 4 Try.f4 (.node 3 Try.f3 .nil .nil) .nil) (.node 7 Try.f7 (.node 6 Try.f6 .nil .nil) .nil)) (.node 11 Try.f11 (.node 10 Try.f10 (.node 9 Try.f9 .nil .nil) .nil) (.node 12 Try.f12 .nil .nil))) (.node 18 Try.f18 (.node 16 Try.f16 (.node 15 Try.f15 (.node 14 Try.f14 .nil .nil) .nil) (.node 17 Try.f17 .nil .nil)) (.node 21 Try.f21 (.node 20 Try.f20 (.node 19 Try.f19 .nil .nil) .nil) (.node 22 Try.f22 .nil .nil)))) (.node 34 Try.f34 (.node 29 Try.f29 (.node 26 Try.f26 (.node 25 Try.f25 (.node 24 Try.f24 .nil .nil) .nil) (.node 28 Try.f28 (.node 27 Try.f27 .nil .nil) .nil)) (.node 32 Try.f32 (.node 31 Try.f31 (.node 30 Try.f30 .nil .nil) .nil) (.node 33 Try.f33 .nil .nil))) (.node 39 Try.f39 (.node 37 Try.f37 (.node 36 Try.f36 (.node 35 Try.f35 .nil .nil) .nil) (.node 38 Try.f38 .nil .nil)) (.node 42 Try.f42 (.node 41 Try.f41 (.node 40 Try.f40 .nil .nil) .nil) (.node 43 Try.f43 .nil .nil))))) (.node 65 Try.f65 (.node 55 Try.f55 (.node 50 Try.f50 (.node 47 Try.f47 (.node 46 Try.f46 (.node 45 Try.f45 .nil .nil) .nil) (.node 49 Try.f49 (.node 48 Try.f48 .nil .nil) .nil)) (.node 53 Try.f53 (.node 52 Try.f52 (.node 51 Try.f51 .nil .nil) .nil) (.node 54 Try.f54 .nil .nil))) (.node 60 Try.f60 (.node 58 Try.f58 (.node 57 Try.f57 (.node 56 Try.f56 .nil .nil) .nil) (.node 59 Try.f59 .nil .nil)) (.node 63 Try.f63 (.node 62 Try.f62 (.node 61 Try.f61 .nil .nil) .nil) (.node 64 Try.f64 .nil .nil)))) (.node 75 Try.f75 (.node 70 Try.f70 (.node 68 Try.f68 (.node 67 Try.f67 (.node 66 Try.f66 .nil .nil) .nil) (.node 69 Try.f69 .nil .nil)) (.node 73 Try.f73 (.node 72 Try.f72 (.node 71 Try.f71 .nil .nil) .nil) (.node 74 Try.f74 .nil .nil))) (.node 80 Try.f80 (.node 78 Try.f78 (.node 77 Try.f77 (.node 76 Try.f76 .nil .nil) .nil) (.node 79 Try.f79 .nil .nil)) (.node 83 Try.f83 (.node 82 Try.f82 (.node 81 Try.f81 .nil .nil) .nil) (.node 84 Try.f84 .nil .nil)))))) (.node 126 Try.f126 (.node 106 Try.f106 (.node 96 Try.f96 (.node 91 Try.f91 (.node 88 Try.f88 (.node 87 Try.f87 (.node 86 Try.f86 .nil .nil) .nil) (.node 90 Try.f90 (.node 89 Try.f89 .nil .nil) .nil)) (.node 94 Try.f94 (.node 93 Try.f93 (.node 92 Try.f92 .nil .nil) .nil) (.node 95 Try.f95 .nil .nil))) (.node 101 Try.f101 (.node 99 Try.f99 (.node 98 Try.f98 (.node 97 Try.f97 .nil .nil) .nil) (.node 100 Try.f100 .nil .nil)) (.node 104 Try.f104 (.node 103 Try.f103 (.node 102 Try.f102 .nil .nil) .nil) (.node 105 Try.f105 .nil .nil)))) (.node 116 Try.f116 (.node 111 Try.f111 (.node 109 Try.f109 (.node 108 Try.f108 (.node 107 Try.f107 .nil .nil) .nil) (.node 110 Try.f110 .nil .nil)) (.node 114 Try.f114 (.node 113 Try.f113 (.node 112 Try.f112 .nil .nil) .nil) (.node 115 Try.f115 .nil .nil))) (.node 121 Try.f121 (.node 119 Try.f119 (.node 118 Try.f118 (.node 117 Try.f117 .nil .nil) .nil) (.node 120 Try.f120 .nil .nil)) (.node 124 Try.f124 (.node 123 Try.f123 (.node 122 Try.f122 .nil .nil) .nil) (.node 125 Try.f125 .nil .nil))))) (.node 147 Try.f147 (.node 137 Try.f137 (.node 132 Try.f132 (.node 129 Try.f129 (.node 128 Try.f128 (.node 127 Try.f127 .nil .nil) .nil) (.node 131 Try.f131 (.node 130 Try.f130 .nil .nil) .nil)) (.node 135 Try.f135 (.node 134 Try.f134 (.node 133 Try.f133 .nil .nil) .nil) (.node 136 Try.f136 .nil .nil))) (.node 142 Try.f142 (.node 140 Try.f140 (.node 139 Try.f139 (.node 138 Try.f138 .nil .nil) .nil) (.node 141 Try.f141 .nil .nil)) (.node 145 Try.f145 (.node 144 Try.f144 (.node 143 Try.f143 .nil .nil) .nil) (.node 146 Try.f146 .nil .nil)))) (.node 157 Try.f157 (.node 152 Try.f152 (.node 150 Try.f150 (.node 149 Try.f149 (.node 148 Try.f148 .nil .nil) .nil) (.node 151 Try.f151 .nil .nil)) (.node 155 Try.f155 (.node 154 Try.f154 (.node 153 Try.f153 .nil .nil) .nil) (.node 156 Try.f156 .nil .nil))) (.node 162 Try.f162 (.node 160 Try.f160 (.node 159 Try.f159 (.node 158 Try.f158 .nil .nil) .nil) (.node 161 Try.f161 .nil .nil)) (.node 165 Try.f165 (.node 164 Try.f164 (.node 163 Try.f163 .nil .nil) .nil) (.node 166 Try.f166 .nil .nil)))))))
noncomputable def cfg (X : Nat → List V → V → Prop) : Cfg := ⟨Try.prog, tyT.get, fnT.get, X⟩
end Go.Proofs.Ytkomoedegnckhaa
