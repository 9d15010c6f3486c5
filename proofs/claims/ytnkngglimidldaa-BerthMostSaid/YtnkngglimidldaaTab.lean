/- The types and functions of this translation, as the abstract machine asks for them. Conditions: none. Printed by a program (wip/tools/gentab.py). -/
import Derived.Test.YtnkngglimidldaaAm
import Derived.Test.YtnkngglimidldaaProg
namespace Go.Proofs.Ytnkngglimidldaa
open Go Go.Am

noncomputable def t3 : TI := ⟨false, 1, 8, [.int .i64 0], .int .i64⟩
noncomputable def t4 : TI := ⟨false, 1, 1, [.bool false], .bool⟩
noncomputable def t5 : TI := ⟨false, 1, 1, [.int .u8 0], .int .u8⟩
noncomputable def t22 : TI := ⟨false, 1, 24, [.slice none 0 0], .slice 101 4⟩
noncomputable def t23 : TI := ⟨false, 1, 24, [.slice none 0 0], .slice 143 3⟩
noncomputable def t25 : TI := ⟨true, 3, 56, [.int .i64 0, .slice none 0 0, .slice none 0 0], .struct [⟨0, 1, 3⟩, ⟨1, 1, 22⟩, ⟨2, 1, 23⟩]⟩
noncomputable def t26 : TI := ⟨false, 1, 24, [.slice none 0 0], .slice 74 2⟩
noncomputable def t27 : TI := ⟨false, 1, 24, [.slice none 0 0], .slice 40 2⟩
noncomputable def t29 : TI := ⟨true, 6, 112, [.int .i64 0, .slice none 0 0, .slice none 0 0, .slice none 0 0, .slice none 0 0, .int .i64 0], .struct [⟨0, 3, 25⟩, ⟨3, 1, 26⟩, ⟨4, 1, 27⟩, ⟨5, 1, 3⟩]⟩
noncomputable def t30 : TI := ⟨false, 1, 24, [.slice none 0 0], .slice 44 5⟩
noncomputable def t33 : TI := ⟨false, 1, 24, [.slice none 0 0], .slice 42 5⟩
noncomputable def t34 : TI := ⟨false, 1, 8, [.int .i64 0], .int .i64⟩
noncomputable def t38 : TI := ⟨true, 2, 16, [.int .i64 0, .int .i64 0], .struct [⟨0, 1, 3⟩, ⟨1, 1, 3⟩]⟩
noncomputable def t40 : TI := ⟨true, 2, 16, [.int .i64 0, .int .i64 0], .struct [⟨0, 1, 3⟩, ⟨1, 1, 3⟩]⟩
noncomputable def t42 : TI := ⟨true, 5, 40, [.int .i64 0, .int .i64 0, .int .i64 0, .int .i64 0, .int .i64 0], .struct [⟨0, 1, 3⟩, ⟨1, 2, 38⟩, ⟨3, 2, 40⟩]⟩
noncomputable def t44 : TI := ⟨true, 5, 40, [.int .i64 0, .int .i64 0, .int .i64 0, .int .i64 0, .int .i64 0], .struct [⟨0, 1, 3⟩, ⟨1, 1, 3⟩, ⟨2, 1, 3⟩, ⟨3, 1, 3⟩, ⟨4, 1, 3⟩]⟩
noncomputable def t48 : TI := ⟨false, 1, 24, [.slice none 0 0], .slice 3 1⟩
noncomputable def t49 : TI := ⟨false, 1, 24, [.slice none 0 0], .slice 38 2⟩
noncomputable def t51 : TI := ⟨true, 2, 48, [.slice none 0 0, .slice none 0 0], .struct [⟨0, 1, 48⟩, ⟨1, 1, 49⟩]⟩
noncomputable def t70 : TI := ⟨false, 1, 8, [.pointer none], .ptr⟩
noncomputable def t74 : TI := ⟨true, 2, 16, [.int .i64 0, .int .i64 0], .struct [⟨0, 1, 3⟩, ⟨1, 1, 3⟩]⟩
noncomputable def t80 : TI := ⟨false, 1, 8, [.map none], .map 38 4⟩
noncomputable def t82 : TI := ⟨false, 1, 8, [.nilFunc], .func⟩
noncomputable def t87 : TI := ⟨false, 1, 8, [.map none], .map 3 4⟩
noncomputable def t93 : TI := ⟨false, 1, 8, [.map none], .map 3 3⟩
noncomputable def t94 : TI := ⟨false, 1, 24, [.slice none 0 0], .slice 98 1⟩
noncomputable def t96 : TI := ⟨true, 4, 96, [.slice none 0 0, .slice none 0 0, .slice none 0 0, .slice none 0 0], .struct [⟨0, 1, 30⟩, ⟨1, 1, 49⟩, ⟨2, 1, 94⟩, ⟨3, 1, 48⟩]⟩
noncomputable def t98 : TI := ⟨false, 1, 8, [.map none], .map 38 40⟩
noncomputable def t101 : TI := ⟨true, 4, 48, [.int .i64 0, .int .i64 0, .int .i64 0, .slice none 0 0], .struct [⟨0, 1, 3⟩, ⟨1, 1, 3⟩, ⟨2, 1, 3⟩, ⟨3, 1, 48⟩]⟩
noncomputable def t104 : TI := ⟨false, 1, 8, [.nilFunc], .func⟩
noncomputable def t110 : TI := ⟨false, 1, 8, [.nilFunc], .func⟩
noncomputable def t111 : TI := ⟨false, 1, 8, [.nilFunc], .func⟩
noncomputable def t119 : TI := ⟨false, 1, 8, [.nilFunc], .func⟩
noncomputable def t125 : TI := ⟨false, 1, 24, [.slice none 0 0], .slice 48 1⟩
noncomputable def t130 : TI := ⟨false, 1, 8, [.int .u64 0], .int .u64⟩
noncomputable def t132 : TI := ⟨false, 1, 8, [.nilFunc], .func⟩
noncomputable def t138 : TI := ⟨true, 3, 24, [.int .i64 0, .int .i64 0, .int .i64 0], .struct [⟨0, 2, 40⟩, ⟨2, 1, 3⟩]⟩
noncomputable def t140 : TI := ⟨false, 1, 8, [.nilFunc], .func⟩
noncomputable def t143 : TI := ⟨true, 3, 24, [.int .i64 0, .int .i64 0, .int .i64 0], .struct [⟨0, 1, 3⟩, ⟨1, 1, 3⟩, ⟨2, 1, 3⟩]⟩
noncomputable def t144 : TI := ⟨false, 1, 8, [.map none], .map 3 119⟩
noncomputable def t146 : TI := ⟨false, 1, 24, [.slice none 0 0], .slice 4 1⟩
noncomputable def t148 : TI := ⟨false, 1, 8, [.int .i64 0], .int .i64⟩
noncomputable def t156 : TI := ⟨false, 1, 4, [.int .u32 0], .int .u32⟩
noncomputable def t158 : TI := ⟨false, 1, 8, [.int .u64 0], .int .u64⟩
noncomputable def t165 : TI := ⟨false, 1, 8, [.int .u64 0], .int .u64⟩
noncomputable def t169 : TI := ⟨false, 1, 8, [.pointer none], .ptr⟩
noncomputable def tyT : BT TI := (.node 87 t87 (.node 34 t34 (.node 25 t25 (.node 5 t5 (.node 4 t4 (.node 3 t3 .nil .nil) .nil) (.node 23 t23 (.node 22 t22 .nil .nil) .nil)) (.node 29 t29 (.node 27 t27 (.node 26 t26 .nil .nil) .nil) (.node 33 t33 (.node 30 t30 .nil .nil) .nil))) (.node 49 t49 (.node 42 t42 (.node 40 t40 (.node 38 t38 .nil .nil) .nil) (.node 48 t48 (.node 44 t44 .nil .nil) .nil)) (.node 74 t74 (.node 70 t70 (.node 51 t51 .nil .nil) .nil) (.node 82 t82 (.node 80 t80 .nil .nil) .nil)))) (.node 132 t132 (.node 104 t104 (.node 96 t96 (.node 94 t94 (.node 93 t93 .nil .nil) .nil) (.node 101 t101 (.node 98 t98 .nil .nil) .nil)) (.node 119 t119 (.node 111 t111 (.node 110 t110 .nil .nil) .nil) (.node 130 t130 (.node 125 t125 .nil .nil) .nil))) (.node 148 t148 (.node 143 t143 (.node 140 t140 (.node 138 t138 .nil .nil) .nil) (.node 146 t146 (.node 144 t144 .nil .nil) .nil)) (.node 165 t165 (.node 158 t158 (.node 156 t156 .nil .nil) .nil) (.node 169 t169 .nil .nil)))))
noncomputable def fnT : BT Func := (.node 53 Try.f53 (.node 28 Try.f28 (.node 15 Try.f15 (.node 9 Try.f9 (.node 6 Try.f6 (.node 4 Try.f4 (.node 3 Try.f3 .nil .nil) (.node 5 Try.f5 .nil .nil)) (.node 8 Try.f8 (.node 7 Try.f7 .nil .nil) .nil)) (.node 12 Try.f12 (.node 11 Try.f11 (.node 10 Try.f10 .nil .nil) .nil) (.node 14 Try.f14 (.node 13 Try.f13 .nil .nil) .nil))) (.node 22 Try.f22 (.node 19 Try.f19 (.node 17 Try.f17 (.node 16 Try.f16 .nil .nil) (.node 18 Try.f18 .nil .nil)) (.node 21 Try.f21 (.node 20 Try.f20 .nil .nil) .nil)) (.node 25 Try.f25 (.node 24 Try.f24 (.node 23 Try.f23 .nil .nil) .nil) (.node 27 Try.f27 (.node 26 Try.f26 .nil .nil) .nil)))) (.node 41 Try.f41 (.node 35 Try.f35 (.node 32 Try.f32 (.node 30 Try.f30 (.node 29 Try.f29 .nil .nil) (.node 31 Try.f31 .nil .nil)) (.node 34 Try.f34 (.node 33 Try.f33 .nil .nil) .nil)) (.node 38 Try.f38 (.node 37 Try.f37 (.node 36 Try.f36 .nil .nil) .nil) (.node 40 Try.f40 (.node 39 Try.f39 .nil .nil) .nil))) (.node 47 Try.f47 (.node 44 Try.f44 (.node 43 Try.f43 (.node 42 Try.f42 .nil .nil) .nil) (.node 46 Try.f46 (.node 45 Try.f45 .nil .nil) .nil)) (.node 50 Try.f50 (.node 49 Try.f49 (.node 48 Try.f48 .nil .nil) .nil) (.node 52 Try.f52 (.node 51 Try.f51 .nil .nil) .nil))))) (.node 78 Try.f78 (.node 66 Try.f66 (.node 60 Try.f60 (.node 57 Try.f57 (.node 55 Try.f55 (.node 54 Try.f54 .nil .nil) (.node 56 Try.f56 .nil .nil)) (.node 59 Try.f59 (.node 58 Try.f58 .nil .nil) .nil)) (.node 63 Try.f63 (.node 62 Try.f62 (.node 61 Try.f61 .nil .nil) .nil) (.node 65 Try.f65 (.node 64 Try.f64 .nil .nil) .nil))) (.node 72 Try.f72 (.node 69 Try.f69 (.node 68 Try.f68 (.node 67 Try.f67 .nil .nil) .nil) (.node 71 Try.f71 (.node 70 Try.f70 .nil .nil) .nil)) (.node 75 Try.f75 (.node 74 Try.f74 (.node 73 Try.f73 .nil .nil) .nil) (.node 77 Try.f77 (.node 76 Try.f76 .nil .nil) .nil)))) (.node 91 Try.f91 (.node 85 Try.f85 (.node 82 Try.f82 (.node 80 Try.f80 (.node 79 Try.f79 .nil .nil) (.node 81 Try.f81 .nil .nil)) (.node 84 Try.f84 (.node 83 Try.f83 .nil .nil) .nil)) (.node 88 Try.f88 (.node 87 Try.f87 (.node 86 Try.f86 .nil .nil) .nil) (.node 90 Try.f90 (.node 89 Try.f89 .nil .nil) .nil))) (.node 97 Try.f97 (.node 94 Try.f94 (.node 93 Try.f93 (.node 92 Try.f92 .nil .nil) .nil) (.node 96 Try.f96 (.node 95 Try.f95 .nil .nil) .nil)) (.node 100 Try.f100 (.node 99 Try.f99 (.node 98 Try.f98 .nil .nil) .nil) (.node 102 Try.f102 (.node 101 Try.f101 .nil .nil) .nil))))))
noncomputable def cfg (X : Nat → List V → V → Prop) : Cfg := ⟨Try.prog, tyT.get, fnT.get, X⟩
end Go.Proofs.Ytnkngglimidldaa
