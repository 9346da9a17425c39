/- Arguments of the laws opened: openings, claims. -/
import Derived.Test.YtdpgfjnpcjpdpaaOpenL
import Derived.Test.YtdpgfjnpcjpdpaaFolLaw
import Derived.Deep.Strs
namespace Go.Proofs.Ytdpgfjnpcjpdpaa
open Go.ChangeShapes Go.WideShapes Go.ChangeAt Go.RowKit Go.Joins
theorem opn_cells : Try.prog.cellsOf 53 = 3 := by kernel_rfl
theorem claim_cells : Try.prog.cellsOf 55 = 6 := by kernel_rfl
theorem int_cell1 : Try.prog.cellsOf 3 = 1 := by kernel_rfl
section
variable {H : Type} {enc : TypeId × Value → H} {W : World} {base : Nat} {sp : Nat → Bool} {held : Bool}
set_option maxRecDepth 100000 in
theorem opn_of_cells {n : Nat} {cs : List Value} {x : DataW H × List MemPlace} (h : DataW.trod enc Try.prog W base sp held n 53 cs = some x) :
    ∃ (o : Opn) (lf pv : Value), cs = [lf, uv o.salt, pv] ∧ RdU' W lf o.leaf ∧ RdU' W pv o.path := by
  obtain ⟨y0, y1, y2, m, -, hl, h0, h1, h2⟩ := Go.Deep.trod_struct3 Try.underlying53 h
  rw [opn_cells] at hl
  match cs, hl with
  | [c0, c1, c2], _ =>
    simp only [u64_cell1, u64s_cell1] at h0 h1 h2
    obtain ⟨l, hl⟩ := open_u64s (v := c0) h0
    obtain ⟨s, rfl⟩ := open_u64 (v := c1) h1
    obtain ⟨p, hp⟩ := open_u64s (v := c2) h2
    exact ⟨⟨l, s, p⟩, c0, c2, rfl, hl, hp⟩
set_option maxRecDepth 100000 in
theorem open_claim {r : Reach} {v : Value} {d : DataW H} {p : List MemPlace} {b0 : Nat} (hv : Value.okWide Try.prog W r b0 55 v) {b' : Nat} (h : DataW.Trod enc Try.prog W b' sp held 55 v d p) :
    ∃ (root : UInt64) (n i : Int) (o : Opn) (lf pv : Value), v = .agg #[uv root, .int .i64 n, .int .i64 i, lf, uv o.salt, pv] ∧ RdU' W lf o.leaf ∧ RdU' W pv o.path := by
  obtain ⟨cs, rfl, hsz⟩ := okWide_struct Try.underlying55 hv
  rw [claim_cells] at hsz
  obtain ⟨fuel, hf⟩ := h
  obtain ⟨y0, y1, y2, y3, m, -, -, h0, h1, h2, h3⟩ := trod_struct4 Try.underlying55 hf
  obtain ⟨cl⟩ := cs
  match cl, hsz with
  | [c0, c1, c2, c3, c4, c5], _ =>
    simp only [u64_cell1, int_cell1, opn_cells] at h0 h1 h2 h3
    obtain ⟨root, rfl⟩ := open_u64 (v := c0) h0
    obtain ⟨n, rfl⟩ := open_int (v := c1) h1
    obtain ⟨i, rfl⟩ := open_int (v := c2) h2
    obtain ⟨o, lf, pv, hc, hl, hp⟩ := opn_of_cells (cs := [c3, c4, c5]) h3
    simp only [List.cons.injEq, and_true] at hc
    obtain ⟨rfl, rfl, rfl⟩ := hc
    exact ⟨root, n, i, o, c3, c5, rfl, hl, hp⟩
end
end Go.Proofs.Ytdpgfjnpcjpdpaa
