/- Plain laws for NoteBinds and NoteMarks. -/
import Derived.Test.YtdkilbnocmnekaaPlainLaw
import Derived.Test.YtdkilbnocmnekaaNoteEq
set_option linter.unusedSimpArgs false
namespace Go.Proofs.Ytdkilbnocmnekaa
open Go.RowKit
attribute [local irreducible] perm fAdd fMul fPow fSub fNeg fRed hashU drawOf nextState

theorem ok_allE {n : Nt} (h : n.ok = true) : allE n.list = true := by
  simp only [Nt.ok, Bool.and_eq_true, decide_eq_true_eq] at h
  obtain ⟨⟨⟨h1, h2⟩, h3⟩, h4⟩ := h
  simp only [allE, Nt.list, List.all_cons, List.all_nil, Bool.and_true, Bool.and_eq_true, decide_eq_true_eq, lt_big_iff]
  exact ⟨by omega, h2, h3, h4⟩
theorem list_inj {a b : Nt} (h : a.list = b.list) : a = b := by
  obtain ⟨a1, a2, a3, a4⟩ := a
  obtain ⟨b1, b2, b3, b4⟩ := b
  simpa [Nt.list] using h
theorem commit_ok {M : Orc} {n : Nt} (h : n.ok = true) : M.commit n = M.hash 2 n.list := by unfold Orc.commit; rw [if_pos h]
theorem find_one_same (label : UInt64) (l : List UInt64) (x : UInt64) : findQ [⟨label, l, x⟩] label l = some 0 := by
  simp [findQ, List.findIdx?_cons]
theorem find_one_other {label : UInt64} {l m : List UInt64} (x : UInt64) (h : l ≠ m) : findQ [⟨label, l, x⟩] label m = none := by
  simp [findQ, List.findIdx?_cons, h]
/-- A question to an oracle that knows none, asked again, and another question. -/
theorem ask_fresh {M : Orc} {label : UInt64} {l : List UInt64} (hM : M.qs = []) (h : allE l = true) :
    (M.hash label l).2.qs = [⟨label, l, (M.hash label l).1⟩] ∧ (M.hash label l).2.draws ≤ M.draws + 1 := by
  have := hash_new M label l h (by rw [hM]; rfl)
  rw [hM] at this
  exact ⟨this.1, this.2.1⟩
theorem ask_again {M : Orc} {label : UInt64} {l : List UInt64} {x : UInt64} (hM : M.qs = [⟨label, l, x⟩]) (h : allE l = true) : M.hash label l = (x, M) := by
  rw [hash_known M label l 0 h (by rw [hM]; exact find_one_same _ _ _), hM]
  rfl
theorem ask_other {M : Orc} {label : UInt64} {l m : List UInt64} {x : UInt64} (hM : M.qs = [⟨label, l, x⟩]) (h : allE m = true) (hne : l ≠ m) :
    (M.hash label m).2.qs = [⟨label, l, x⟩, ⟨label, m, (M.hash label m).1⟩] := by
  have := hash_new M label m h (by rw [hM]; exact find_one_other x hne)
  rw [this.1, hM]; rfl
/-- What Collision hands back, by its shape; where two of two questions have the same answer, it finds them. -/
theorem CollO.shape {w w' : World} {qs : List Qn} {e : Ending} (h : CollO w qs e w') :
    ∃ l1 v1 a1 l2 v2 a2 f, e = .returned (.tuple #[.agg #[.int .u64 l1, v1, .int .u64 a1], .agg #[.int .u64 l2, v2, .int .u64 a2], .bool f]) ∧ (∃ a n c, v1 = .slice a n c) ∧ (∃ a n c, v2 = .slice a n c) ∧ Ext w w' ∧
      ∀ q1 q2, qs = [q1, q2] → q1.answer = q2.answer → f = true := by
  rcases h with ⟨i, j, a, b, va, vb, _, _, _, _, _, rfl, ⟨s1, c1, rfl, _⟩, ⟨s2, c2, rfl, _⟩, hx⟩ | ⟨hno, rfl, hx⟩
  · exact ⟨_, _, _, _, _, _, _, rfl, ⟨_, _, _, rfl⟩, ⟨_, _, _, rfl⟩, hx, fun _ _ _ _ => rfl⟩
  · refine ⟨_, _, _, _, _, _, _, rfl, ⟨_, _, _, rfl⟩, ⟨_, _, _, rfl⟩, hx, fun q1 q2 hq ha => ?_⟩
    subst hq
    exact absurd ha (hno 1 (by simp) 0 (by omega) q1 q2 rfl rfl)
end Go.Proofs.Ytdkilbnocmnekaa
