/- A slice that reads as a list of questions. -/
import Derived.Test.YtgfmjfkdogcnhaaGreatSame
import Derived.Test.YtgfmjfkdogcnhaaGreatQs
set_option linter.unusedSimpArgs false
namespace Go.Proofs.YtgfmjfkdogcnhaaGreat
open Go.RowKit
attribute [local irreducible] perm fAdd fMul fPow fSub fNeg fRed
theorem u_eqB (x y : UInt64) : ((x.toNat : Int) == (y.toNat : Int)) = (x == y) := by
  rw [Bool.eq_iff_iff]
  simp only [beq_iff_eq]
  constructor
  · intro h; exact UInt64.toNat_inj.1 (by omega)
  · rintro rfl; rfl
/-- A slice that reads as a list of questions. -/
def RdQ (w : World) (v : Value) (l : List Qn) : Prop :=
  ∃ a c, v = .slice a l.length c ∧ l.length ≤ c ∧ c ≤ maxLen ∧ (a = none → c = 0) ∧
    ∀ ad, a = some ad → ad.spot = none ∧ ∀ i q, l[i]? = some q → ∃ u, w.cell? ⟨ad.block, ad.off + i * 3, none⟩ = some (uv q.label) ∧ w.cell? ⟨ad.block, ad.off + i * 3 + 1, none⟩ = some u ∧
      w.cell? ⟨ad.block, ad.off + i * 3 + 2, none⟩ = some (uv q.answer) ∧ RdU w u q.elems
theorem RdQ.ext {w w' : World} {v : Value} {l : List Qn} (h : RdQ w v l) (k : Ext w w') : RdQ w' v l := by
  obtain ⟨a, c, rfl, h2, h3, h4, h5⟩ := h
  refine ⟨a, c, rfl, h2, h3, h4, fun ad ha => ⟨(h5 ad ha).1, fun i n hn => ?_⟩⟩
  obtain ⟨u, e0, e1, e2, e3⟩ := (h5 ad ha).2 i n hn
  exact ⟨u, k.cell_some e0, k.cell_some e1, k.cell_some e2, e3.ext k⟩
theorem RdQ.at {w : World} {a : Option Addr} {n c : Nat} {l : List Qn} (h : RdQ w (.slice a n c) l) {i : Nat} {x : Qn} (hx : l[i]? = some x) : ∃ b o u, a = some ⟨b, o, none⟩ ∧
    w.cell? ⟨b, o + i * 3, none⟩ = some (uv x.label) ∧ w.cell? ⟨b, o + i * 3 + 1, none⟩ = some u ∧ w.cell? ⟨b, o + i * 3 + 2, none⟩ = some (uv x.answer) ∧ RdU w u x.elems := by
  obtain ⟨a', c', he, hlc, _, hnil, hcell⟩ := h
  injection he with h1 h2 h3
  subst h1
  have hi : i < l.length := (List.getElem?_eq_some_iff.1 hx).1
  cases a with
  | none => have := hnil rfl; omega
  | some ad =>
    obtain ⟨hs, hc⟩ := hcell ad rfl
    obtain ⟨b, o, s⟩ := ad
    simp only at hs
    subst hs
    obtain ⟨u, hu⟩ := hc i x hx
    exact ⟨b, o, u, rfl, hu⟩
theorem rdQ_of {w : World} {v : Value} {Q : List (Qn × Value)} {qs : List Qn} (hQ : Q.map (·.1) = qs) (ho : w.ownsRow 0 111 3 v Q.length (qCells Q)) (he : ∀ x ∈ Q, OwnU w x.2 x.1.elems) : RdQ w v qs := by
  obtain ⟨a, c, rfl, h1, h2, h3, h4⟩ := ownsRow_rd ho
  have hl : Q.length = qs.length := by rw [← hQ, List.length_map]
  rw [hl] at h1 ⊢
  refine ⟨a, c, rfl, h1, h2, h3, fun ad ha => ⟨(h4 ad ha).1, fun i q hq => ?_⟩⟩
  rw [← hQ, List.getElem?_map] at hq
  obtain ⟨⟨q', u⟩, hx, rfl⟩ := Option.map_eq_some_iff.1 hq
  obtain ⟨e0, e1, e2⟩ := qCells_at Q i q' u hx
  have hh := (h4 ad ha).2
  exact ⟨u, hh _ _ e0, by have := hh _ _ e1; rwa [← Nat.add_assoc] at this, by have := hh _ _ e2; rwa [← Nat.add_assoc] at this, (he _ (List.mem_of_getElem? hx)).rdu⟩

end Go.Proofs.YtgfmjfkdogcnhaaGreat
