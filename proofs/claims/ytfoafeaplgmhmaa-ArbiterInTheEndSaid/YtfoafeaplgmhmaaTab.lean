/- The types and functions of this translation, as the abstract machine asks for them. Conditions: none. Printed by a program (wip/tools/gentab.py). -/
import Derived.Test.YtfoafeaplgmhmaaAm
import Derived.Test.YtfoafeaplgmhmaaProg
namespace Go.Proofs.Ytfoafeaplgmhmaa
open Go Go.Am

noncomputable def t3 : TI := ⟨false, 1, 8, [.int .i64 0], .int .i64⟩
noncomputable def t4 : TI := ⟨false, 1, 1, [.bool false], .bool⟩
noncomputable def t5 : TI := ⟨false, 1, 1, [.int .u8 0], .int .u8⟩
noncomputable def t23 : TI := ⟨true, 1, 8, [.int .i64 0], .struct [⟨0, 1, 3⟩]⟩
noncomputable def t24 : TI := ⟨false, 1, 24, [.slice none 0 0], .slice 31 5⟩
noncomputable def t26 : TI := ⟨false, 1, 8, [.pointer none], .ptr⟩
noncomputable def t27 : TI := ⟨false, 1, 8, [.int .i64 0], .int .i64⟩
noncomputable def t31 : TI := ⟨true, 5, 40, [.int .i64 0, .int .i64 0, .int .i64 0, .int .i64 0, .int .i64 0], .struct [⟨0, 1, 3⟩, ⟨1, 1, 3⟩, ⟨2, 1, 3⟩, ⟨3, 1, 3⟩, ⟨4, 1, 3⟩]⟩
noncomputable def t32 : TI := ⟨false, 1, 8, [.nilFunc], .func⟩
noncomputable def t36 : TI := ⟨true, 4, 32, [.int .i64 0, .int .i64 0, .int .i64 0, .int .i64 0], .struct [⟨0, 1, 3⟩, ⟨1, 1, 3⟩, ⟨2, 1, 3⟩, ⟨3, 1, 3⟩]⟩
noncomputable def t38 : TI := ⟨false, 1, 24, [.slice none 0 0], .slice 41 8⟩
noncomputable def t41 : TI := ⟨true, 8, 64, [.int .i64 0, .int .i64 0, .int .i64 0, .int .i64 0, .int .i64 0, .int .i64 0, .int .i64 0, .int .i64 0], .struct [⟨0, 1, 3⟩, ⟨1, 1, 3⟩, ⟨2, 1, 3⟩, ⟨3, 1, 3⟩, ⟨4, 1, 3⟩, ⟨5, 1, 3⟩, ⟨6, 1, 3⟩, ⟨7, 1, 3⟩]⟩
noncomputable def t42 : TI := ⟨false, 1, 24, [.slice none 0 0], .slice 45 3⟩
noncomputable def t45 : TI := ⟨true, 3, 24, [.int .i64 0, .int .i64 0, .int .i64 0], .struct [⟨0, 1, 3⟩, ⟨1, 1, 3⟩, ⟨2, 1, 3⟩]⟩
noncomputable def t47 : TI := ⟨false, 1, 24, [.slice none 0 0], .slice 3 1⟩
noncomputable def t49 : TI := ⟨false, 1, 8, [.map none], .map 58 59⟩
noncomputable def t51 : TI := ⟨true, 6, 96, [.int .i64 0, .int .i64 0, .slice none 0 0, .slice none 0 0, .map none, .slice none 0 0], .struct [⟨0, 1, 23⟩, ⟨1, 1, 3⟩, ⟨2, 1, 38⟩, ⟨3, 1, 38⟩, ⟨4, 1, 49⟩, ⟨5, 1, 47⟩]⟩
noncomputable def t52 : TI := ⟨false, 1, 8, [.pointer none], .ptr⟩
noncomputable def t54 : TI := ⟨true, 8, 80, [.int .i64 0, .int .i64 0, .int .i64 0, .int .i64 0, .int .i64 0, .bool false, .pointer none, .slice none 0 0], .struct [⟨0, 4, 36⟩, ⟨4, 1, 3⟩, ⟨5, 1, 4⟩, ⟨6, 1, 52⟩, ⟨7, 1, 38⟩]⟩
noncomputable def t58 : TI := ⟨true, 2, 16, [.int .i64 0, .int .i64 0], .struct [⟨0, 1, 3⟩, ⟨1, 1, 3⟩]⟩
noncomputable def t59 : TI := ⟨false, 1, 8, [.pointer none], .ptr⟩
noncomputable def t69 : TI := ⟨true, 3, 40, [.int .i64 0, .slice none 0 0, .bool false], .struct [⟨0, 1, 3⟩, ⟨1, 1, 38⟩, ⟨2, 1, 4⟩]⟩
noncomputable def t74 : TI := ⟨false, 1, 8, [.nilFunc], .func⟩
noncomputable def t75 : TI := ⟨false, 1, 8, [.map none], .map 3 74⟩
noncomputable def t77 : TI := ⟨false, 1, 8, [.map none], .map 45 78⟩
noncomputable def t78 : TI := ⟨false, 1, 8, [.map none], .map 3 4⟩
noncomputable def t81 : TI := ⟨false, 1, 8, [.nilFunc], .func⟩
noncomputable def t87 : TI := ⟨false, 1, 8, [.nilFunc], .func⟩
noncomputable def t91 : TI := ⟨false, 1, 8, [.int .u64 0], .int .u64⟩
noncomputable def t97 : TI := ⟨false, 1, 8, [.int .i64 0], .int .i64⟩
noncomputable def t104 : TI := ⟨false, 1, 4, [.int .u32 0], .int .u32⟩
noncomputable def t106 : TI := ⟨false, 1, 8, [.int .u64 0], .int .u64⟩
noncomputable def t113 : TI := ⟨false, 1, 8, [.int .u64 0], .int .u64⟩
noncomputable def t117 : TI := ⟨false, 1, 8, [.pointer none], .ptr⟩
noncomputable def tyT : BT TI := (.node 52 t52 (.node 32 t32 (.node 24 t24 (.node 5 t5 (.node 4 t4 (.node 3 t3 .nil .nil) .nil) (.node 23 t23 .nil .nil)) (.node 27 t27 (.node 26 t26 .nil .nil) (.node 31 t31 .nil .nil))) (.node 45 t45 (.node 41 t41 (.node 38 t38 (.node 36 t36 .nil .nil) .nil) (.node 42 t42 .nil .nil)) (.node 49 t49 (.node 47 t47 .nil .nil) (.node 51 t51 .nil .nil)))) (.node 81 t81 (.node 74 t74 (.node 59 t59 (.node 58 t58 (.node 54 t54 .nil .nil) .nil) (.node 69 t69 .nil .nil)) (.node 77 t77 (.node 75 t75 .nil .nil) (.node 78 t78 .nil .nil))) (.node 104 t104 (.node 91 t91 (.node 87 t87 .nil .nil) (.node 97 t97 .nil .nil)) (.node 113 t113 (.node 106 t106 .nil .nil) (.node 117 t117 .nil .nil)))))
noncomputable def fnT : BT Func := (.node 45 Try.f45 (.node 24 Try.f24 (.node 13 Try.f13 (.node 8 Try.f8 (.node 5 Try.f5 (.node 4 Try.f4 (.node 3 Try.f3 .nil .nil) .nil) (.node 7 Try.f7 (.node 6 Try.f6 .nil .nil) .nil)) (.node 11 Try.f11 (.node 10 Try.f10 (.node 9 Try.f9 .nil .nil) .nil) (.node 12 Try.f12 .nil .nil))) (.node 19 Try.f19 (.node 16 Try.f16 (.node 15 Try.f15 (.node 14 Try.f14 .nil .nil) .nil) (.node 18 Try.f18 (.node 17 Try.f17 .nil .nil) .nil)) (.node 22 Try.f22 (.node 21 Try.f21 (.node 20 Try.f20 .nil .nil) .nil) (.node 23 Try.f23 .nil .nil)))) (.node 35 Try.f35 (.node 30 Try.f30 (.node 27 Try.f27 (.node 26 Try.f26 (.node 25 Try.f25 .nil .nil) .nil) (.node 29 Try.f29 (.node 28 Try.f28 .nil .nil) .nil)) (.node 33 Try.f33 (.node 32 Try.f32 (.node 31 Try.f31 .nil .nil) .nil) (.node 34 Try.f34 .nil .nil))) (.node 40 Try.f40 (.node 38 Try.f38 (.node 37 Try.f37 (.node 36 Try.f36 .nil .nil) .nil) (.node 39 Try.f39 .nil .nil)) (.node 43 Try.f43 (.node 42 Try.f42 (.node 41 Try.f41 .nil .nil) .nil) (.node 44 Try.f44 .nil .nil))))) (.node 67 Try.f67 (.node 56 Try.f56 (.node 51 Try.f51 (.node 48 Try.f48 (.node 47 Try.f47 (.node 46 Try.f46 .nil .nil) .nil) (.node 50 Try.f50 (.node 49 Try.f49 .nil .nil) .nil)) (.node 54 Try.f54 (.node 53 Try.f53 (.node 52 Try.f52 .nil .nil) .nil) (.node 55 Try.f55 .nil .nil))) (.node 62 Try.f62 (.node 59 Try.f59 (.node 58 Try.f58 (.node 57 Try.f57 .nil .nil) .nil) (.node 61 Try.f61 (.node 60 Try.f60 .nil .nil) .nil)) (.node 65 Try.f65 (.node 64 Try.f64 (.node 63 Try.f63 .nil .nil) .nil) (.node 66 Try.f66 .nil .nil)))) (.node 78 Try.f78 (.node 73 Try.f73 (.node 70 Try.f70 (.node 69 Try.f69 (.node 68 Try.f68 .nil .nil) .nil) (.node 72 Try.f72 (.node 71 Try.f71 .nil .nil) .nil)) (.node 76 Try.f76 (.node 75 Try.f75 (.node 74 Try.f74 .nil .nil) .nil) (.node 77 Try.f77 .nil .nil))) (.node 83 Try.f83 (.node 81 Try.f81 (.node 80 Try.f80 (.node 79 Try.f79 .nil .nil) .nil) (.node 82 Try.f82 .nil .nil)) (.node 86 Try.f86 (.node 85 Try.f85 (.node 84 Try.f84 .nil .nil) .nil) (.node 87 Try.f87 .nil .nil))))))
noncomputable def cfg (X : Nat → List V → V → Prop) : Cfg := ⟨Try.prog, tyT.get, fnT.get, X⟩
end Go.Proofs.Ytfoafeaplgmhmaa
