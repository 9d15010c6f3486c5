/- The types and functions of this translation, as the abstract machine asks for them. Conditions: none. Printed by a program (wip/tools/gentab.py). -/
import Derived.Test.YtmebbbblomlgdaaGreatAm
import Derived.Test.YtmebbbblomlgdaaGreatProg
namespace Go.Proofs.YtmebbbblomlgdaaGreat
open Go Go.Am

noncomputable def t3 : TI := ⟨false, 1, 8, [.int .i64 0], .int .i64⟩
noncomputable def t4 : TI := ⟨false, 1, 1, [.bool false], .bool⟩
noncomputable def t5 : TI := ⟨false, 1, 1, [.int .u8 0], .int .u8⟩
noncomputable def t22 : TI := ⟨false, 1, 24, [.slice none 0 0], .slice 101 4⟩
noncomputable def t23 : TI := ⟨false, 1, 24, [.slice none 0 0], .slice 172 3⟩
noncomputable def t25 : TI := ⟨true, 3, 56, [.int .i64 0, .slice none 0 0, .slice none 0 0], .struct [⟨0, 1, 3⟩, ⟨1, 1, 22⟩, ⟨2, 1, 23⟩]⟩
noncomputable def t26 : TI := ⟨false, 1, 24, [.slice none 0 0], .slice 103 2⟩
noncomputable def t27 : TI := ⟨false, 1, 24, [.slice none 0 0], .slice 54 2⟩
noncomputable def t29 : TI := ⟨true, 6, 112, [.int .i64 0, .slice none 0 0, .slice none 0 0, .slice none 0 0, .slice none 0 0, .int .i64 0], .struct [⟨0, 3, 25⟩, ⟨3, 1, 26⟩, ⟨4, 1, 27⟩, ⟨5, 1, 3⟩]⟩
noncomputable def t30 : TI := ⟨false, 1, 24, [.slice none 0 0], .slice 62 5⟩
noncomputable def t31 : TI := ⟨false, 1, 24, [.slice none 0 0], .slice 3 1⟩
noncomputable def t32 : TI := ⟨false, 1, 24, [.slice none 0 0], .slice 65 2⟩
noncomputable def t34 : TI := ⟨true, 2, 48, [.slice none 0 0, .slice none 0 0], .struct [⟨0, 1, 31⟩, ⟨1, 1, 32⟩]⟩
noncomputable def t38 : TI := ⟨false, 1, 8, [.int .i64 0], .int .i64⟩
noncomputable def t42 : TI := ⟨true, 2, 16, [.int .i64 0, .int .i64 0], .struct [⟨0, 1, 3⟩, ⟨1, 1, 38⟩]⟩
noncomputable def t49 : TI := ⟨true, 2, 32, [.slice none 0 0, .int .i64 0], .struct [⟨0, 1, 31⟩, ⟨1, 1, 38⟩]⟩
noncomputable def t54 : TI := ⟨true, 2, 16, [.int .i64 0, .int .i64 0], .struct [⟨0, 1, 3⟩, ⟨1, 1, 3⟩]⟩
noncomputable def t62 : TI := ⟨true, 5, 40, [.int .i64 0, .int .i64 0, .int .i64 0, .int .i64 0, .int .i64 0], .struct [⟨0, 1, 3⟩, ⟨1, 1, 3⟩, ⟨2, 1, 3⟩, ⟨3, 1, 3⟩, ⟨4, 1, 3⟩]⟩
noncomputable def t65 : TI := ⟨true, 2, 16, [.int .i64 0, .int .i64 0], .struct [⟨0, 1, 3⟩, ⟨1, 1, 3⟩]⟩
noncomputable def t67 : TI := ⟨false, 1, 24, [.slice none 0 0], .slice 71 5⟩
noncomputable def t71 : TI := ⟨true, 5, 40, [.int .i64 0, .int .i64 0, .int .i64 0, .int .i64 0, .int .i64 0], .struct [⟨0, 1, 3⟩, ⟨1, 2, 65⟩, ⟨3, 2, 54⟩]⟩
noncomputable def t73 : TI := ⟨false, 1, 8, [.pointer none], .ptr⟩
noncomputable def t77 : TI := ⟨false, 1, 8, [.map none], .map 3 4⟩
noncomputable def t78 : TI := ⟨false, 1, 8, [.map none], .map 3 3⟩
noncomputable def t79 : TI := ⟨false, 1, 24, [.slice none 0 0], .slice 84 1⟩
noncomputable def t81 : TI := ⟨true, 4, 96, [.slice none 0 0, .slice none 0 0, .slice none 0 0, .slice none 0 0], .struct [⟨0, 1, 30⟩, ⟨1, 1, 32⟩, ⟨2, 1, 79⟩, ⟨3, 1, 31⟩]⟩
noncomputable def t84 : TI := ⟨false, 1, 8, [.map none], .map 65 54⟩
noncomputable def t87 : TI := ⟨false, 1, 24, [.slice none 0 0], .slice 32 1⟩
noncomputable def t89 : TI := ⟨true, 1, 24, [.slice none 0 0], .struct [⟨0, 1, 87⟩]⟩
noncomputable def t95 : TI := ⟨false, 1, 8, [.nilFunc], .func⟩
noncomputable def t101 : TI := ⟨true, 4, 48, [.int .i64 0, .int .i64 0, .int .i64 0, .slice none 0 0], .struct [⟨0, 1, 3⟩, ⟨1, 1, 3⟩, ⟨2, 1, 3⟩, ⟨3, 1, 31⟩]⟩
noncomputable def t103 : TI := ⟨true, 2, 16, [.int .i64 0, .int .i64 0], .struct [⟨0, 1, 3⟩, ⟨1, 1, 3⟩]⟩
noncomputable def t106 : TI := ⟨false, 1, 8, [.nilFunc], .func⟩
noncomputable def t113 : TI := ⟨false, 1, 8, [.nilFunc], .func⟩
noncomputable def t117 : TI := ⟨false, 1, 8, [.nilFunc], .func⟩
noncomputable def t124 : TI := ⟨false, 1, 24, [.slice none 0 0], .slice 31 1⟩
noncomputable def t129 : TI := ⟨true, 2, 48, [.slice none 0 0, .slice none 0 0], .struct [⟨0, 1, 32⟩, ⟨1, 1, 31⟩]⟩
noncomputable def t131 : TI := ⟨true, 4, 80, [.slice none 0 0, .slice none 0 0, .slice none 0 0, .bool false], .struct [⟨0, 2, 129⟩, ⟨2, 1, 32⟩, ⟨3, 1, 4⟩]⟩
noncomputable def t138 : TI := ⟨false, 1, 8, [.int .u64 0], .int .u64⟩
noncomputable def t141 : TI := ⟨false, 1, 8, [.nilFunc], .func⟩
noncomputable def t142 : TI := ⟨false, 1, 8, [.nilFunc], .func⟩
noncomputable def t149 : TI := ⟨true, 3, 24, [.int .i64 0, .int .i64 0, .int .i64 0], .struct [⟨0, 2, 54⟩, ⟨2, 1, 3⟩]⟩
noncomputable def t154 : TI := ⟨false, 1, 24, [.slice none 0 0], .slice 4 1⟩
noncomputable def t158 : TI := ⟨false, 1, 8, [.int .i64 0], .int .i64⟩
noncomputable def t166 : TI := ⟨false, 1, 4, [.int .u32 0], .int .u32⟩
noncomputable def t168 : TI := ⟨false, 1, 8, [.int .u64 0], .int .u64⟩
noncomputable def t169 : TI := ⟨false, 1, 8, [.nilFunc], .func⟩
noncomputable def t172 : TI := ⟨true, 3, 24, [.int .i64 0, .int .i64 0, .int .i64 0], .struct [⟨0, 1, 3⟩, ⟨1, 1, 3⟩, ⟨2, 1, 3⟩]⟩
noncomputable def t173 : TI := ⟨false, 1, 8, [.map none], .map 3 142⟩
noncomputable def t180 : TI := ⟨false, 1, 8, [.int .u64 0], .int .u64⟩
noncomputable def t184 : TI := ⟨false, 1, 8, [.pointer none], .ptr⟩
noncomputable def tyT : BT TI := (.node 81 t81 (.node 34 t34 (.node 26 t26 (.node 22 t22 (.node 4 t4 (.node 3 t3 .nil .nil) (.node 5 t5 .nil .nil)) (.node 25 t25 (.node 23 t23 .nil .nil) .nil)) (.node 30 t30 (.node 29 t29 (.node 27 t27 .nil .nil) .nil) (.node 32 t32 (.node 31 t31 .nil .nil) .nil))) (.node 67 t67 (.node 54 t54 (.node 42 t42 (.node 38 t38 .nil .nil) (.node 49 t49 .nil .nil)) (.node 65 t65 (.node 62 t62 .nil .nil) .nil)) (.node 77 t77 (.node 73 t73 (.node 71 t71 .nil .nil) .nil) (.node 79 t79 (.node 78 t78 .nil .nil) .nil)))) (.node 138 t138 (.node 106 t106 (.node 95 t95 (.node 87 t87 (.node 84 t84 .nil .nil) (.node 89 t89 .nil .nil)) (.node 103 t103 (.node 101 t101 .nil .nil) .nil)) (.node 124 t124 (.node 117 t117 (.node 113 t113 .nil .nil) .nil) (.node 131 t131 (.node 129 t129 .nil .nil) .nil))) (.node 168 t168 (.node 154 t154 (.node 142 t142 (.node 141 t141 .nil .nil) (.node 149 t149 .nil .nil)) (.node 166 t166 (.node 158 t158 .nil .nil) .nil)) (.node 173 t173 (.node 172 t172 (.node 169 t169 .nil .nil) .nil) (.node 184 t184 (.node 180 t180 .nil .nil) .nil)))))
noncomputable def fnT : BT Func := (.node 65 Tryz.f65 (.node 34 Tryz.f34 (.node 18 Tryz.f18 (.node 10 Tryz.f10 (.node 6 Tryz.f6 (.node 4 Tryz.f4 (.node 3 Tryz.f3 .nil .nil) (.node 5 Tryz.f5 .nil .nil)) (.node 8 Tryz.f8 (.node 7 Tryz.f7 .nil .nil) (.node 9 Tryz.f9 .nil .nil))) (.node 14 Tryz.f14 (.node 12 Tryz.f12 (.node 11 Tryz.f11 .nil .nil) (.node 13 Tryz.f13 .nil .nil)) (.node 16 Tryz.f16 (.node 15 Tryz.f15 .nil .nil) (.node 17 Tryz.f17 .nil .nil)))) (.node 26 Tryz.f26 (.node 22 Tryz.f22 (.node 20 Tryz.f20 (.node 19 Tryz.f19 .nil .nil) (.node 21 Tryz.f21 .nil .nil)) (.node 24 Tryz.f24 (.node 23 Tryz.f23 .nil .nil) (.node 25 Tryz.f25 .nil .nil))) (.node 30 Tryz.f30 (.node 28 Tryz.f28 (.node 27 Tryz.f27 .nil .nil) (.node 29 Tryz.f29 .nil .nil)) (.node 32 Tryz.f32 (.node 31 Tryz.f31 .nil .nil) (.node 33 Tryz.f33 .nil .nil))))) (.node 50 Tryz.f50 (.node 42 Tryz.f42 (.node 38 Tryz.f38 (.node 36 Tryz.f36 (.node 35 Tryz.f35 .nil .nil) (.node 37 Tryz.f37 .nil .nil)) (.node 40 Tryz.f40 (.node 39 Tryz.f39 .nil .nil) (.node 41 Tryz.f41 .nil .nil))) (.node 46 Tryz.f46 (.node 44 Tryz.f44 (.node 43 Tryz.f43 .nil .nil) (.node 45 Tryz.f45 .nil .nil)) (.node 48 Tryz.f48 (.node 47 Tryz.f47 .nil .nil) (.node 49 Tryz.f49 .nil .nil)))) (.node 58 Tryz.f58 (.node 54 Tryz.f54 (.node 52 Tryz.f52 (.node 51 Tryz.f51 .nil .nil) (.node 53 Tryz.f53 .nil .nil)) (.node 56 Tryz.f56 (.node 55 Tryz.f55 .nil .nil) (.node 57 Tryz.f57 .nil .nil))) (.node 62 Tryz.f62 (.node 60 Tryz.f60 (.node 59 Tryz.f59 .nil .nil) (.node 61 Tryz.f61 .nil .nil)) (.node 64 Tryz.f64 (.node 63 Tryz.f63 .nil .nil) .nil))))) (.node 97 Tryz.f97 (.node 81 Tryz.f81 (.node 73 Tryz.f73 (.node 69 Tryz.f69 (.node 67 Tryz.f67 (.node 66 Tryz.f66 .nil .nil) (.node 68 Tryz.f68 .nil .nil)) (.node 71 Tryz.f71 (.node 70 Tryz.f70 .nil .nil) (.node 72 Tryz.f72 .nil .nil))) (.node 77 Tryz.f77 (.node 75 Tryz.f75 (.node 74 Tryz.f74 .nil .nil) (.node 76 Tryz.f76 .nil .nil)) (.node 79 Tryz.f79 (.node 78 Tryz.f78 .nil .nil) (.node 80 Tryz.f80 .nil .nil)))) (.node 89 Tryz.f89 (.node 85 Tryz.f85 (.node 83 Tryz.f83 (.node 82 Tryz.f82 .nil .nil) (.node 84 Tryz.f84 .nil .nil)) (.node 87 Tryz.f87 (.node 86 Tryz.f86 .nil .nil) (.node 88 Tryz.f88 .nil .nil))) (.node 93 Tryz.f93 (.node 91 Tryz.f91 (.node 90 Tryz.f90 .nil .nil) (.node 92 Tryz.f92 .nil .nil)) (.node 95 Tryz.f95 (.node 94 Tryz.f94 .nil .nil) (.node 96 Tryz.f96 .nil .nil))))) (.node 113 Tryz.f113 (.node 105 Tryz.f105 (.node 101 Tryz.f101 (.node 99 Tryz.f99 (.node 98 Tryz.f98 .nil .nil) (.node 100 Tryz.f100 .nil .nil)) (.node 103 Tryz.f103 (.node 102 Tryz.f102 .nil .nil) (.node 104 Tryz.f104 .nil .nil))) (.node 109 Tryz.f109 (.node 107 Tryz.f107 (.node 106 Tryz.f106 .nil .nil) (.node 108 Tryz.f108 .nil .nil)) (.node 111 Tryz.f111 (.node 110 Tryz.f110 .nil .nil) (.node 112 Tryz.f112 .nil .nil)))) (.node 121 Tryz.f121 (.node 117 Tryz.f117 (.node 115 Tryz.f115 (.node 114 Tryz.f114 .nil .nil) (.node 116 Tryz.f116 .nil .nil)) (.node 119 Tryz.f119 (.node 118 Tryz.f118 .nil .nil) (.node 120 Tryz.f120 .nil .nil))) (.node 125 Tryz.f125 (.node 123 Tryz.f123 (.node 122 Tryz.f122 .nil .nil) (.node 124 Tryz.f124 .nil .nil)) (.node 127 Tryz.f127 (.node 126 Tryz.f126 .nil .nil) .nil))))))
noncomputable def cfg (X : Nat → List V → V → Prop) : Cfg := ⟨Tryz.prog, tyT.get, fnT.get, X⟩
end Go.Proofs.YtmebbbblomlgdaaGreat
