/- A list of parcels, an argument, opened; a list of numbers. -/
import Derived.Test.YtdpgfjnpcjpdpaaOpen35
namespace Go.Proofs.Ytdpgfjnpcjpdpaa
open Go.ChangeShapes Go.WideShapes Go.ChangeAt Go.RowKit Go.Joins
section
variable {H : Type} {enc : TypeId × Value → H} {W : World} {base : Nat} {sp : Nat → Bool} {held : Bool}
set_option maxRecDepth 100000 in
theorem open_parcels {r : Reach} {v : Value} {d : DataW H} {p : List MemPlace} (hv : Value.okWide Try.prog W r base 90 v) {b' : Nat} (h : DataW.Trod enc Try.prog W b' sp held 90 v d p) : ∃ l : List Pc, RdP W v l := by
  have ht : Try.prog.underlying 90 = some (.slice 76) := Try.underlying90
  obtain ⟨a, len, cap, rfl⟩ := okWide_slice ht hv
  obtain ⟨fuel, hf⟩ := h
  rcases Go.Deep.open_slice ht hf with ⟨hc, -⟩ | ⟨a', len', cap', m, n', D, Pl, hc, hb, hl, hm, hmm, -, hx⟩
  · simp only [Value.cells, List.cons.injEq, and_true] at hc
    injection hc with h1 h2 h3
    subst h1 h2 h3
    exact ⟨[], none, 0, rfl, Nat.le_refl _, Nat.zero_le _, fun _ => rfl, fun ad h => by cases h⟩
  · simp only [Value.cells, List.cons.injEq, and_true] at hc
    injection hc with h1 h2 h3
    subst h1 h2 h3
    have hs := okWide_spot ht hv
    obtain ⟨b, o, s⟩ := a'
    simp only at hs
    subst hs
    have hlm : len ≤ m := by rw [hmm]; split <;> omega
    obtain ⟨l, hll, hp⟩ := choose_list (α := Pc) (p := fun i x => ∀ (j : Nat) (u : Value), x.cells[j]? = some u → W.cell? ⟨b, o + i * 9 + j, none⟩ = some u) len (fun i hi => by
      obtain ⟨cs', hcs, htr⟩ := hx i (by omega)
      rw [parcel_cells] at hcs
      obtain ⟨_, hlen, hcell⟩ := World.cells?_some hcs
      obtain ⟨x, rfl⟩ := parcel_of_cells hlen htr
      refine ⟨x, fun j u hu => ?_⟩
      have hj : j < 9 := (List.getElem?_eq_some_iff.1 hu).1
      have h0 := hcell j hj
      rw [hu] at h0
      simpa [add_off] using h0)
    subst hll
    refine ⟨l, some ⟨b, o, none⟩, cap, rfl, hl, hm, (fun h => by cases h), fun ad ha => ?_⟩
    injection ha with ha
    subst ha
    exact ⟨rfl, hp⟩
end
end Go.Proofs.Ytdpgfjnpcjpdpaa
