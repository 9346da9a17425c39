/- Plain laws of the oracle: what a question changes. -/
import Derived.Test.YtgfmjfkdogcnhaaGreatQs
set_option linter.unusedSimpArgs false
namespace Go.Proofs.YtgfmjfkdogcnhaaGreat
attribute [local irreducible] perm fAdd fMul fPow fSub fNeg fRed hashU drawOf nextState

theorem add_qs (M : Orc) (label : UInt64) (l : List UInt64) (a : UInt64) : (M.add label l a).qs = M.qs ++ [⟨label, l, a⟩] := rfl
theorem add_draws (M : Orc) (label : UInt64) (l : List UInt64) (a : UInt64) : (M.add label l a).draws = M.draws := rfl
theorem add_ideal (M : Orc) (label : UInt64) (l : List UInt64) (a : UInt64) : (M.add label l a).ideal = M.ideal := rfl
theorem hash_new (M : Orc) (label : UInt64) (l : List UInt64) (hE : allE l = true) (hf : findQ M.qs label l = none) :
    (M.hash label l).2.qs = M.qs ++ [⟨label, l, (M.hash label l).1⟩] ∧ (M.hash label l).2.draws ≤ M.draws + 1 ∧ (M.hash label l).2.ideal = M.ideal := by
  unfold Orc.hash
  rw [if_pos hE, hf]
  cases hI : M.ideal with
  | true =>
    simp only [if_true]
    refine ⟨?_, ?_, ?_⟩
    · rw [add_qs, step_qs]
    · rw [add_draws, step_draws]; exact Nat.le_refl _
    · rw [add_ideal, step_ideal, hI]
  | false =>
    simp only [Bool.false_eq_true, if_false]
    exact ⟨add_qs _ _ _ _, by rw [add_draws]; omega, by rw [add_ideal, hI]⟩
theorem hash_known (M : Orc) (label : UInt64) (l : List UInt64) (i : Nat) (hE : allE l = true) (hf : findQ M.qs label l = some i) : M.hash label l = (answerAt M.qs i, M) := by
  unfold Orc.hash
  rw [if_pos hE, hf]
end Go.Proofs.YtgfmjfkdogcnhaaGreat
