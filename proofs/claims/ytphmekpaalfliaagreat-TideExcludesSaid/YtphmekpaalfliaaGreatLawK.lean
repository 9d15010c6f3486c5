/- Plain laws of water: insertion one by one is the library's sort. Conditions: none. -/
import Derived.Test.YtphmekpaalfliaaGreatLawJ
set_option linter.unusedVariables false
namespace Go.Mx

theorem SameInts_same (l : List Int) (hl : Len l) : ref02_SameInts l l = some true := by
  unfold ref02_SameInts
  rw [if_neg (by simp)]
  refine lp_list l hl (fun (_ : Unit) i => i) (fun _ _ => true) (fun _ _ => True) (a := ()) rfl trivial (fun a i hi _ => ?_) (fun a _ => ?_)
  · unfold ref02_SameInts_b2
    rw [if_pos (by simpa using hi), ix_lt hi]
    simp only [Option.bind_some]
    left
    rw [if_neg (by simp), w64s' hi hl]
    exact ⟨(), rfl, trivial, trivial⟩
  · unfold ref02_SameInts_b2
    rw [if_neg (by simp)]; rfl
theorem add_sorted {l : List Int} (n : Int) (h : l.Pairwise (· ≤ ·)) : (insB (ltB n) l n).Pairwise (· ≤ ·) :=
  insB_sorted (fun a b c h1 h2 => by omega) (fun a h => by have := of_decide_eq_true h; omega) (fun a h => by have := of_decide_eq_false h; omega) h
def foldA (l : List Int) : List Int → List Int
  | [] => l
  | n :: r => foldA (insB (ltB n) l n) r
theorem foldA_perm : ∀ (r l : List Int), (foldA l r).Perm (l ++ r)
  | [], l => by simp [foldA]
  | n :: r, l => by
    unfold foldA
    refine (foldA_perm r _).trans ?_
    refine ((insB_perm (ltB n) l n).append_right r).trans ?_
    exact (List.perm_middle (a := n) (l₁ := l) (l₂ := r)).symm
theorem foldA_sorted : ∀ (r l : List Int), l.Pairwise (· ≤ ·) → (foldA l r).Pairwise (· ≤ ·)
  | [], l, h => h
  | n :: r, l, h => foldA_sorted r _ (add_sorted n h)
theorem foldA_srt (r : List Int) : foldA [] r = srtI r := by
  refine List.Perm.eq_of_pairwise (le := (· ≤ ·)) (fun a b _ _ h1 h2 => by omega) (foldA_sorted r [] List.Pairwise.nil) (srtI_spec r).2 ?_
  exact ((foldA_perm r []).trans (by simp)).trans (srtI_spec r).1.symm
end Go.Mx
