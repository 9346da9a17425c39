/- Arguments of the laws opened: numbers, truth values, notes, places. -/
import Derived.Test.YtdkilbnocmnekaaNote
import Derived.ProofKit
import Derived.Lib.SmallJoins
namespace Go.Proofs.Ytdkilbnocmnekaa
open Go.ChangeShapes Go.WideShapes Go.ChangeAt Go.RowKit Go.Joins
theorem own : ownKnob Try.prog.godebug = none := by kernel_rfl
theorem laidOut : laidOutB Try.prog = true := by kernel_rfl
theorem note_cells : Try.prog.cellsOf 45 = 4 := by kernel_rfl
theorem u64_back {a : Int} (h : (Lit.int .u64 a).wf = true) : ∃ x : UInt64, a = (x.toNat : Int) := by
  simp [Lit.wf, IntKind.min, IntKind.max, IntKind.signed, IntKind.bits] at h
  exact ⟨UInt64.ofNat a.toNat, by rw [toNat_ofNat_lt (by omega)]; omega⟩
section
variable {H : Type} {enc : TypeId × Value → H} {W : World} {base : Nat} {sp : Nat → Bool} {held : Bool}
theorem open_u64 {n : Nat} {v : Value} {x : DataW H × List MemPlace} (h : DataW.trod enc Try.prog W base sp held n 22 [v] = some x) : ∃ a : UInt64, v = uv a := by
  obtain ⟨a, e0, hd0, wa⟩ := DataW.trod_int Try.underlying22 h
  simp only [List.cons.injEq, and_true] at e0
  subst e0
  obtain ⟨a, rfl⟩ := u64_back wa
  exact ⟨a, rfl⟩
set_option maxRecDepth 100000 in
theorem open_note {r : Reach} {v : Value} {d : DataW H} {p : List MemPlace} (hv : Value.okWide Try.prog W r base 45 v) {b' : Nat} (h : DataW.Trod enc Try.prog W b' sp held 45 v d p) : ∃ n : Nt, v = nv n := by
  obtain ⟨c0, c1, c2, c3, y0, y1, y2, y3, m, rfl, -, -, hy0, hy1, hy2, hy3⟩ := open_agg4 Try.underlying45 (by kernel_rfl) note_cells hv h
  obtain ⟨a, rfl⟩ := open_u64 hy0
  obtain ⟨b, rfl⟩ := open_u64 hy1
  obtain ⟨c, rfl⟩ := open_u64 hy2
  obtain ⟨d, rfl⟩ := open_u64 hy3
  exact ⟨⟨a, b, c, d⟩, rfl⟩
set_option maxRecDepth 100000 in
theorem open_place {r : Reach} {v : Value} {d : DataW H} {p : List MemPlace} (hv : Value.okWide Try.prog W r base 54 v) {b' : Nat} (h : DataW.Trod enc Try.prog W b' sp held 54 v d p) : ∃ (s : UInt64) (i : Bool), v = .agg #[uv s, .bool i] := by
  obtain ⟨c0, c1, y0, y1, m, rfl, -, -, hy0, hy1⟩ := open_agg2 Try.underlying54 (by kernel_rfl) (by kernel_rfl) hv h
  obtain ⟨a, rfl⟩ := open_u64 hy0
  obtain ⟨b, e1, hd1⟩ := DataW.trod_bool Try.underlying4 hy1
  simp only [List.cons.injEq, and_true] at e1
  subst e1
  exact ⟨a, b, rfl⟩
theorem arr2_cells : Try.prog.cellsOf 57 = 2 := by kernel_rfl
set_option maxRecDepth 100000 in
theorem open_pair {r : Reach} {v : Value} {d : DataW H} {p : List MemPlace} (hv : Value.okWide Try.prog W r base 57 v) {b' : Nat} (h : DataW.Trod enc Try.prog W b' sp held 57 v d p) : ∃ a b : UInt64, v = .agg #[uv a, uv b] := by
  have ht : Try.prog.underlying 57 = some (.array 2 22) := by kernel_rfl
  have hc : Try.prog.cellsOf 22 = 1 := by kernel_rfl
  unfold Value.okWide at hv
  rw [ht] at hv
  obtain ⟨cs, rfl, hsz, -⟩ := hv
  rw [arr2_cells] at hsz
  obtain ⟨c0, c1, rfl⟩ := array2 hsz
  obtain ⟨fuel, hf⟩ := h
  obtain ⟨xs, m, -, -, -, hl, hx⟩ := DataW.trod_array ht hf
  have h0 := hx 0 (by omega)
  have h1 := hx 1 (by omega)
  rw [hc, List.getElem?_eq_getElem (by omega)] at h0 h1
  obtain ⟨a, rfl⟩ := open_u64 (v := c0) (by simpa [Value.cells] using h0)
  obtain ⟨b, rfl⟩ := open_u64 (v := c1) (by simpa [Value.cells] using h1)
  exact ⟨a, b, rfl⟩
end
end Go.Proofs.Ytdkilbnocmnekaa
