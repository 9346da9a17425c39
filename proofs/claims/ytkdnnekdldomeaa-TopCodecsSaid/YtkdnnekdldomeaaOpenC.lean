/- An argument opened: a change of a byte. -/
import Derived.Test.YtkdnnekdldomeaaOpenB
namespace Go.Proofs.Ytkdnnekdldomeaa
open Go.ChangeShapes Go.WideShapes Go.ChangeAt Go.RowKit Go.Joins
theorem u16_cell1 : Try.prog.cellsOf 41 = 1 := by kernel_rfl
theorem bool_cell1 : Try.prog.cellsOf 4 = 1 := by kernel_rfl
theorem chg_cells3 : Try.prog.cellsOf 43 = 3 := by kernel_rfl
section
variable {H : Type} {enc : TypeId × Value → H} {W : World} {sp : Nat → Bool} {held : Bool}
set_option maxRecDepth 100000 in
theorem open_change {r : Reach} {v : Value} {d : DataW H} {p : List MemPlace} {b0 : Nat} (hv : Value.okWide Try.prog W r b0 43 v) {b' : Nat} (h : DataW.Trod enc Try.prog W b' sp held 43 v d p) :
    ∃ (a y : Nat) (c : Bool), v = .agg #[.int .u16 (a : Int), .int .u8 (y : Int), .bool c] ∧ a < 65536 ∧ y < 256 := by
  obtain ⟨cs, rfl, hsz⟩ := okWide_struct Try.underlying43 hv
  rw [chg_cells3] at hsz
  obtain ⟨fuel, hf⟩ := h
  obtain ⟨cl⟩ := cs
  obtain ⟨xs, m, -, -, -, hxs, hf⟩ := DataW.trod_struct Try.underlying43 hf
  have hxl : xs.length = 3 := hxs
  match cl, hsz with
  | [c0, c1, c2], _ =>
    have h0 := fld hf 0 rfl (by omega) 41 0 1 rfl rfl u16_cell1
    have h1 := fld hf 1 rfl (by omega) 5 1 1 rfl rfl u8_cell1
    have h2 := fld hf 2 rfl (by omega) 4 2 1 rfl rfl bool_cell1
    obtain ⟨a, e0, -, wa⟩ := DataW.trod_int (cs := [c0]) Try.underlying41 h0
    obtain ⟨b, e1, -, wb⟩ := DataW.trod_int (cs := [c1]) Try.underlying5 h1
    obtain ⟨c, e2, -⟩ := DataW.trod_bool (cs := [c2]) Try.underlying4 h2
    simp only [List.cons.injEq, and_true] at e0 e1 e2
    subst e0 e1 e2
    simp [Lit.wf, IntKind.min, IntKind.max, IntKind.signed, IntKind.bits] at wa wb
    refine ⟨a.toNat, b.toNat, c, ?_, by omega, by omega⟩
    rw [show ((a.toNat : Nat) : Int) = a by omega, show ((b.toNat : Nat) : Int) = b by omega]
end
end Go.Proofs.Ytkdnnekdldomeaa
