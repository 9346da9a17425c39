/- The plain law of NoteAsks: what was asked is known. -/
import Derived.Test.YtdkilbnocmnekaaHidLaw
import Derived.Test.YtdkilbnocmnekaaPeek2
set_option linter.unusedSimpArgs false
namespace Go.Proofs.Ytdkilbnocmnekaa
open Go.RowKit
attribute [local irreducible] perm fAdd fMul fPow fSub fNeg fRed hashU drawOf nextState

def Known (M : Orc) (label : UInt64) (l : List UInt64) (x : UInt64) : Prop := ∃ i, findQ M.qs label l = some i ∧ answerAt M.qs i = x
structure Small (M : Orc) (k : Nat) : Prop where
  qs : M.qs.length ≤ k
  draws : M.draws ≤ k
  elems : ∀ q ∈ M.qs, q.elems.length ≤ 4
theorem Known.peek {M : Orc} {label : UInt64} {l : List UInt64} {x : UInt64} (h : Known M label l x) (hE : allE l = true) : M.peek label l = (x, true) := by
  obtain ⟨i, h1, h2⟩ := h
  unfold Orc.peek
  rw [if_pos hE, h1]
  simp [h2]
theorem Known.append {M M' : Orc} {label : UInt64} {l : List UInt64} {x : UInt64} (h : Known M label l x) {r : List Qn} (hq : M'.qs = M.qs ++ r) : Known M' label l x := by
  obtain ⟨i, h1, h2⟩ := h
  refine ⟨i, ?_, ?_⟩
  · rw [hq]
    unfold findQ at h1 ⊢
    rw [List.findIdx?_append, h1]
    rfl
  · have hi : i < M.qs.length := by
      unfold findQ at h1
      rw [List.findIdx?_eq_some_iff_getElem] at h1
      exact h1.1
    rw [hq]
    unfold answerAt at h2 ⊢
    rw [List.getElem?_append_left hi]
    exact h2
theorem hash_all (M : Orc) (label : UInt64) (l : List UInt64) (hE : allE l = true) :
    ∃ x M', M.hash label l = (x, M') ∧ Known M' label l x ∧ (∃ r, M'.qs = M.qs ++ r ∧ r.length ≤ 1 ∧ ∀ q ∈ r, q.elems = l) ∧ M'.draws ≤ M.draws + 1 := by
  cases hf : findQ M.qs label l with
  | some i => exact ⟨_, _, hash_known M label l i hE hf, ⟨i, hf, rfl⟩, ⟨[], by simp, by simp, by simp⟩, by omega⟩
  | none =>
    have h := hash_new M label l hE hf
    rcases hh : M.hash label l with ⟨x, M'⟩
    rw [hh] at h
    obtain ⟨h1, h2, -⟩ := h
    simp only at h1 h2
    refine ⟨x, M', rfl, ⟨M.qs.length, ?_, ?_⟩, ⟨_, h1, by simp, by simp⟩, h2⟩
    · rw [h1]
      unfold findQ at hf ⊢
      rw [List.findIdx?_append, hf]
      simp [List.findIdx?_cons]
    · rw [h1]
      unfold answerAt
      rw [List.getElem?_append_right (Nat.le_refl _)]
      simp
theorem Small.more {M M' : Orc} {k : Nat} (h : Small M k) {l : List UInt64} (hl : l.length ≤ 4) (hr : ∃ r, M'.qs = M.qs ++ r ∧ r.length ≤ 1 ∧ ∀ q ∈ r, q.elems = l) (hd : M'.draws ≤ M.draws + 1) : Small M' (k + 1) := by
  obtain ⟨r, h1, h2, h3⟩ := hr
  refine ⟨by rw [h1, List.length_append]; have := h.qs; omega, by have := h.draws; omega, fun q hq => ?_⟩
  rw [h1] at hq
  rcases List.mem_append.1 hq with hq | hq
  · exact h.elems q hq
  · rw [h3 q hq]; exact hl
theorem Small.le {M : Orc} {k k' : Nat} (h : Small M k) (hk : k ≤ k') : Small M k' := ⟨Nat.le_trans h.qs hk, Nat.le_trans h.draws hk, h.elems⟩
theorem peek_no {M : Orc} {label : UInt64} {l : List UInt64} (h : (M.peek label l).2 = false) : (M.peek label l).1 = 0 := by
  unfold Orc.peek at h ⊢
  split at h
  · next hE =>
    rw [if_pos hE]
    cases hf : findQ M.qs label l with
    | some i => rw [hf] at h; simp at h
    | none =>
      rw [hf] at h
      cases hI : M.ideal with
      | true => simp
      | false => rw [hI] at h; simp at h
  · next hE => rw [if_neg hE]
theorem asks_step (M : Orc) (n : Nt) (key : UInt64) (k : Nat) (hM : Small M k) :
    ∃ a M1 b M2, M.commit n = (a, M1) ∧ M1.mark key n.rho = (b, M2) ∧ M2.commitment n = (a, n.ok) ∧ M2.marked key n.rho = (b, allE [key, n.rho]) ∧
      (n.ok = true → M.hash 2 n.list = (a, M1)) ∧ (n.ok = false → a = 0 ∧ M1 = M) ∧ (allE [key, n.rho] = true → M1.hash 3 [key, n.rho] = (b, M2)) ∧ (allE [key, n.rho] = false → b = 0 ∧ M2 = M1) ∧
      Small M1 (k + 1) ∧ Small M2 (k + 2) := by
  have hc : ∃ a M1, M.commit n = (a, M1) ∧ (n.ok = true → M.hash 2 n.list = (a, M1) ∧ Known M1 2 n.list a) ∧ (n.ok = false → a = 0 ∧ M1 = M) ∧ Small M1 (k + 1) := by
    cases hok : n.ok with
    | true =>
      obtain ⟨a, M1, h1, h2, h3, h4⟩ := hash_all M 2 n.list (ok_allE hok)
      exact ⟨a, M1, by rw [commit_ok hok, h1], fun _ => ⟨h1, h2⟩, (fun h => by cases h), hM.more (by simp [Nt.list]) h3 h4⟩
    | false => exact ⟨0, M, by unfold Orc.commit; rw [hok]; rfl, (fun h => by cases h), fun _ => ⟨rfl, rfl⟩, hM.le (by omega)⟩
  obtain ⟨a, M1, h1, h2, h3, h4⟩ := hc
  have hm : ∃ b M2, M1.mark key n.rho = (b, M2) ∧ (allE [key, n.rho] = true → M1.hash 3 [key, n.rho] = (b, M2) ∧ Known M2 3 [key, n.rho] b) ∧ (allE [key, n.rho] = false → b = 0 ∧ M2 = M1) ∧ Small M2 (k + 2) ∧ ∃ r, M2.qs = M1.qs ++ r := by
    cases hel : allE [key, n.rho] with
    | true =>
      obtain ⟨b, M2, g1, g2, g3, g4⟩ := hash_all M1 3 [key, n.rho] hel
      exact ⟨b, M2, by unfold Orc.mark; rw [if_pos hel, g1], fun _ => ⟨g1, g2⟩, (fun h => by cases h), h4.more (by simp) g3 g4, by obtain ⟨r, hr, _⟩ := g3; exact ⟨r, hr⟩⟩
    | false => exact ⟨0, M1, by unfold Orc.mark; rw [hel]; rfl, (fun h => by cases h), fun _ => ⟨rfl, rfl⟩, h4.le (by omega), [], by simp⟩
  obtain ⟨b, M2, g1, g2, g3, g4, r, g5⟩ := hm
  refine ⟨a, M1, b, M2, h1, g1, ?_, ?_, fun h => (h2 h).1, h3, fun h => (g2 h).1, g3, h4, g4⟩
  · unfold Orc.commitment
    cases hok : n.ok with
    | true => rw [if_pos rfl, ((h2 hok).2.append g5).peek (ok_allE hok)]
    | false => rw [(h3 hok).1]; rfl
  · unfold Orc.marked
    cases hel : allE [key, n.rho] with
    | true => rw [if_pos rfl, (g2 hel).2.peek hel]
    | false => rw [(g3 hel).1]; rfl
end Go.Proofs.Ytdkilbnocmnekaa
