/- Lists of notes in memory; the plain law of NoteHidden: what two ideal oracles answer to new questions. -/
import Derived.Test.YtdkilbnocmnekaaBindsLaw
set_option linter.unusedSimpArgs false
namespace Go.Proofs.Ytdkilbnocmnekaa
open Go.RowKit
attribute [local irreducible] perm fAdd fMul fPow fSub fNeg fRed hashU drawOf nextState

/-- A slice that reads as a list of notes. -/
def RdN (w : World) (v : Value) (l : List Nt) : Prop :=
  ∃ a c, v = .slice a l.length c ∧ l.length ≤ c ∧ c ≤ maxLen ∧ (a = none → c = 0) ∧
    ∀ ad, a = some ad → ad.spot = none ∧ ∀ i n, l[i]? = some n → w.cell? ⟨ad.block, ad.off + i * 4, none⟩ = some (uv n.value) ∧ w.cell? ⟨ad.block, ad.off + i * 4 + 1, none⟩ = some (uv n.owner) ∧
      w.cell? ⟨ad.block, ad.off + i * 4 + 2, none⟩ = some (uv n.rho) ∧ w.cell? ⟨ad.block, ad.off + i * 4 + 3, none⟩ = some (uv n.blind)
theorem RdN.ext {w w' : World} {v : Value} {l : List Nt} (h : RdN w v l) (k : Ext w w') : RdN w' v l := by
  obtain ⟨a, c, rfl, h2, h3, h4, h5⟩ := h
  refine ⟨a, c, rfl, h2, h3, h4, fun ad ha => ⟨(h5 ad ha).1, fun i n hn => ?_⟩⟩
  obtain ⟨e0, e1, e2, e3⟩ := (h5 ad ha).2 i n hn
  exact ⟨k.cell_some e0, k.cell_some e1, k.cell_some e2, k.cell_some e3⟩
theorem RdN.at {w : World} {a : Option Addr} {n c : Nat} {l : List Nt} (h : RdN w (.slice a n c) l) {i : Nat} {x : Nt} (hx : l[i]? = some x) : ∃ b o, a = some ⟨b, o, none⟩ ∧
    w.cell? ⟨b, o + i * 4, none⟩ = some (uv x.value) ∧ w.cell? ⟨b, o + i * 4 + 1, none⟩ = some (uv x.owner) ∧ w.cell? ⟨b, o + i * 4 + 2, none⟩ = some (uv x.rho) ∧ w.cell? ⟨b, o + i * 4 + 3, none⟩ = some (uv x.blind) := by
  obtain ⟨a', c', he, hlc, _, hnil, hcell⟩ := h
  injection he with h1 h2 h3
  subst h1
  have hi : i < l.length := (List.getElem?_eq_some_iff.1 hx).1
  cases a with
  | none => have := hnil rfl; omega
  | some ad =>
    obtain ⟨hs, hc⟩ := hcell ad rfl
    obtain ⟨b, o, s⟩ := ad
    simp only at hs
    subst hs
    exact ⟨b, o, rfl, hc i x hx⟩

/-! ## what is asked -/
def askedOf (t : UInt64) (l : List Nt) : List (UInt64 × List UInt64) := l.flatMap fun n => [(2, n.list), (3, [t, n.rho])]
structure HidP (t : UInt64) (M : Orc) (l : List Nt) : Prop where
  ideal : M.ideal = true
  qs : M.qs.map (fun q => (q.label, q.elems)) = askedOf t l
  draws : M.draws ≤ 2 * l.length
theorem askedOf_length (t : UInt64) (l : List Nt) : (askedOf t l).length = 2 * l.length := by
  induction l with
  | nil => rfl
  | cons n r ih => unfold askedOf at ih ⊢; rw [List.flatMap_cons, List.length_append, ih]; simp; omega
theorem askedOf_snoc (t : UInt64) (l : List Nt) (n : Nt) : askedOf t (l ++ [n]) = askedOf t l ++ [(2, n.list), (3, [t, n.rho])] := by
  simp [askedOf]
theorem HidP.length {t : UInt64} {M : Orc} {l : List Nt} (h : HidP t M l) : M.qs.length = 2 * l.length := by
  have := congrArg List.length h.qs
  rwa [List.length_map, askedOf_length] at this
theorem find_none_of {qs : List Qn} {label : UInt64} {e : List UInt64} (h : (label, e) ∉ qs.map fun q => (q.label, q.elems)) : findQ qs label e = none := by
  unfold findQ
  rw [List.findIdx?_eq_none_iff]
  intro q hq
  rcases hb : (q.label == label && q.elems == e) with _ | _
  · rfl
  · simp only [Bool.and_eq_true, beq_iff_eq] at hb
    exact absurd (List.mem_map.2 ⟨q, hq, by rw [hb.1, hb.2]⟩) h
/-- A new question to an ideal oracle. -/
theorem hash_ideal {M : Orc} {label : UInt64} {e : List UInt64} (hI : M.ideal = true) (hE : allE e = true) (hf : findQ M.qs label e = none) :
    ∃ M', M.hash label e = (drawOf M.state, M') ∧ M'.state = nextState M.state ∧ M'.ideal = true ∧ M'.qs = M.qs ++ [⟨label, e, drawOf M.state⟩] ∧ M'.draws = M.draws + 1 := by
  refine ⟨M.step.add label e (drawOf M.state), ?_, ?_, ?_, ?_, ?_⟩
  · unfold Orc.hash
    rw [if_pos hE, hf]
    simp only [hI, if_true]
  · show M.step.state = _
    rw [step_state]
  · rw [add_ideal, step_ideal, hI]
  · rw [add_qs, step_qs]
  · rw [add_draws, step_draws]
theorem HidP.step {t : UInt64} {M : Orc} {l : List Nt} {n : Nt} (h : HidP t M l) (hok : n.ok = true) (ht : t < big) (hd : ∀ k ∈ l, k ≠ n ∧ k.rho ≠ n.rho) :
    ∃ M1 M2, M.commit n = (drawOf M.state, M1) ∧ M1.mark t n.rho = (drawOf (nextState M.state), M2) ∧ M2.state = nextState (nextState M.state) ∧ M1.draws ≤ 2 * l.length + 1 ∧ M1.qs.length ≤ 2 * l.length + 1 ∧ HidP t M2 (l ++ [n]) := by
  have hf1 : findQ M.qs 2 n.list = none := find_none_of (by
    rw [h.qs]
    intro hm
    obtain ⟨k, hk, hm⟩ := List.mem_flatMap.1 hm
    simp only [List.mem_cons, Prod.mk.injEq, List.not_mem_nil, or_false] at hm
    rcases hm with ⟨_, hm⟩ | ⟨hm, _⟩
    · exact (hd k hk).1 (list_inj hm).symm
    · exact absurd hm (by decide))
  obtain ⟨M1, h1, hs1, hi1, hq1, hd1⟩ := hash_ideal h.ideal (ok_allE hok) hf1
  have hmap1 : M1.qs.map (fun q => (q.label, q.elems)) = askedOf t l ++ [(2, n.list)] := by rw [hq1, List.map_append, h.qs]; rfl
  have hE : allE [t, n.rho] = true := by
    have := ok_allE hok
    simp only [allE, Nt.list, List.all_cons, List.all_nil, Bool.and_true, Bool.and_eq_true, decide_eq_true_eq] at this ⊢
    exact ⟨ht, this.2.2.1⟩
  have hf2 : findQ M1.qs 3 [t, n.rho] = none := find_none_of (by
    rw [hmap1]
    intro hm
    rcases List.mem_append.1 hm with hm | hm
    · obtain ⟨k, hk, hm⟩ := List.mem_flatMap.1 hm
      simp only [List.mem_cons, Prod.mk.injEq, List.not_mem_nil, or_false] at hm
      rcases hm with ⟨hm, _⟩ | ⟨_, hm⟩
      · exact absurd hm (by decide)
      · injection hm with _ hm; injection hm with hm _; exact (hd k hk).2 hm.symm
    · simp only [List.mem_cons, Prod.mk.injEq, List.not_mem_nil, or_false] at hm
      exact absurd hm.1 (by decide))
  obtain ⟨M2, h2, hs2, hi2, hq2, hd2⟩ := hash_ideal hi1 hE hf2
  have hl1 := h.length
  refine ⟨M1, M2, by rw [commit_ok hok, h1], by unfold Orc.mark; rw [if_pos hE, h2, hs1], by rw [hs2, hs1], by have := h.draws; omega, by rw [hq1, List.length_append, hl1]; simp, hi2, ?_, ?_⟩
  · rw [hq2, List.map_append, hmap1, askedOf_snoc, List.append_assoc]; rfl
  · have := h.draws; rw [List.length_append, List.length_singleton]; omega
theorem HidP.fresh (t seed : UInt64) : HidP t (Orc.fresh true seed) [] := ⟨rfl, rfl, Nat.le_refl _⟩
end Go.Proofs.Ytdkilbnocmnekaa
