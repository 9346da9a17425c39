/- MerkleOpens returns true. -/
import Derived.Test.YtdpgfjnpcjpdpaaAwk12
import Derived.Test.YtdpgfjnpcjpdpaaWorld2
import Derived.Test.YtdpgfjnpcjpdpaaOpensLaw
set_option linter.unusedSimpArgs false
namespace Go.Proofs.Ytdpgfjnpcjpdpaa
open Go.RowKit
attribute [local irreducible] perm fAdd fMul fPow fSub fNeg fRed hashU drawOf nextState awT

theorem Good.progs : ∀ (l : List Qn) {M : Orc}, Good M → Good (M.progs l)
  | [], _, h => h
  | q :: r, M, h => by
    show Good ((M.prog q.label q.elems q.answer).2.progs r)
    refine Good.progs r ?_
    rcases prog_cases M q.label q.elems q.answer with h1 | ⟨h1, h2, _⟩
    · rw [h1]; exact h
    · rw [h1]
      intro x hx
      rw [add_qs] at hx
      rcases List.mem_append.1 hx with h3 | h3
      · exact h x h3
      · rw [List.mem_singleton] at h3; subst h3; exact h2
theorem good_begin (real : Bool) (seed : UInt64) (Q : List Qn) : Good (beginM real seed Q) := by
  unfold beginM
  split
  · intro q hq; cases hq
  · exact Good.progs Q (fun q hq => by cases hq)
theorem progs_draws : ∀ (l : List Qn) (M : Orc), (M.progs l).draws = M.draws
  | [], _ => rfl
  | q :: r, M => by
    show ((M.prog q.label q.elems q.answer).2.progs r).draws = _
    rw [progs_draws r]
    rcases prog_cases M q.label q.elems q.answer with h1 | ⟨h1, _⟩ <;> rw [h1]
    rw [add_draws]
theorem begin_small (real : Bool) (seed : UInt64) (Q : List Qn) (h : Q.length ≤ 40) : (beginM real seed Q).qs.length ≤ 40 ∧ (beginM real seed Q).draws = 0 := by
  unfold beginM
  split
  · exact ⟨Nat.zero_le _, rfl⟩
  · refine ⟨?_, progs_draws _ _⟩
    have := progs_qs_le Q (Orc.fresh true seed)
    have h0 : (Orc.fresh true seed).qs.length = 0 := rfl
    omega
theorem climb_small : ∀ (k : Nat) (M : Orc) (level : List UInt64), (M.climb k level).2.qs.length ≤ M.qs.length + level.length ∧ (M.climb k level).2.draws ≤ M.draws + level.length
  | 0, M, level => by rw [Orc.climb]; exact ⟨Nat.le_add_right _ _, Nat.le_add_right _ _⟩
  | k + 1, M, level => by
    by_cases h : level.length ≤ 1
    · rw [climb_stop M (k + 1) level h]; exact ⟨Nat.le_add_right _ _, Nat.le_add_right _ _⟩
    · rw [climb_go M k level h]
      have ih := climb_small k (M.asks (branchQ level)).2 (M.asks (branchQ level)).1
      have h1 := asks_qs_le (branchQ level) M
      have h2 := asks_draws_le (branchQ level) M
      rw [asks_length, branchQ_length] at ih
      rw [branchQ_length] at h1 h2
      simp only
      omega
theorem commit_small (M : Orc) (leaves : Lv) (salts : List UInt64) : (M.commitT leaves salts).2.qs.length ≤ M.qs.length + 2 * leaves.length ∧ (M.commitT leaves salts).2.draws ≤ M.draws + 2 * leaves.length := by
  unfold Orc.commitT
  split
  · unfold Orc.tree
    have ih := climb_small 10 (M.asks (leafQ leaves salts)).2 (M.asks (leafQ leaves salts)).1
    have h1 := asks_qs_le (leafQ leaves salts) M
    have h2 := asks_draws_le (leafQ leaves salts) M
    rw [asks_length] at ih
    have h3 : (leafQ leaves salts).length ≤ leaves.length := by unfold leafQ; simp; omega
    omega
  · exact ⟨Nat.le_add_right _ _, Nat.le_add_right _ _⟩
theorem commitT_lens {M : Orc} {leaves : Lv} {salts : List UInt64} (hg : Good M) (hok : commitOk leaves salts = true) : formed (M.commitT leaves salts).1 = true ∧ lnAt (M.commitT leaves salts).1 0 = leaves.length := by
  have hok' := hok
  unfold commitOk at hok'
  simp only [Bool.and_eq_true, beq_iff_eq] at hok'
  have hC : M.commitT leaves salts = M.tree leaves salts := by unfold Orc.commitT; rw [hok]; rfl
  have hA : (M.asks (leafQ leaves salts)).1.length = leaves.length := by rw [asks_length, leafQ_length hok'.2.1]
  have hn1 := isNum_pos hok'.1
  obtain ⟨-, -, ⟨r, hr⟩, hf⟩ := climb_ok 10 (M.asks (leafQ leaves salts)).2 (M.asks (leafQ leaves salts)).1 (Good.asks _ hg) (asks_lt _ hg) (by rw [hA]; exact hok'.1) (by rw [hA]; exact hn1.2)
  rw [hC]
  unfold Orc.tree
  refine ⟨hf, ?_⟩
  rw [hr]; exact hA
theorem formed_small {ls : Lv} (h : formed ls = true) : ls.length ≤ 11 ∧ ∀ l ∈ ls, l.length ≤ 1024 := by
  constructor
  · have hne := List.length_pos_iff.2 (formed_ne h)
    have h1 := formed_pow h (ls.length - 1) (by omega)
    rw [formed_last h] at h1
    have h2 := (isNum_pos (formed_first h)).2
    rcases Nat.lt_or_ge (ls.length - 1) 11 with h3 | h3
    · omega
    · have := Nat.pow_le_pow_right (show 0 < 2 by omega) h3
      omega
  · intro l hl
    obtain ⟨j, hj⟩ := List.mem_iff_getElem?.1 hl
    have h1 := formed_lens h j (List.getElem?_eq_some_iff.1 hj).1
    rw [lnAt_of hj] at h1
    exact (isNum_pos h1).2
end Go.Proofs.Ytdpgfjnpcjpdpaa
