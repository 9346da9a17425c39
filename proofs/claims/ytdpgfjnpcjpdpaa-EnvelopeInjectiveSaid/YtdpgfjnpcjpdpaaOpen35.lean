/- Arguments of the envelope's laws opened: parcels, lists of parcels, places, outputs, three numbers. -/
import Derived.Test.YtdpgfjnpcjpdpaaEnv
import Derived.Test.YtdpgfjnpcjpdpaaWeak
import Derived.Deep.Slices
import Derived.ProofKit
import Derived.Lib.SmallJoins
import Derived.Deep.Strs
namespace Go.Proofs.Ytdpgfjnpcjpdpaa
open Go.ChangeShapes Go.WideShapes Go.ChangeAt Go.RowKit Go.Joins
theorem own : ownKnob Try.prog.godebug = none := by kernel_rfl
theorem laidOut : laidOutB Try.prog = true := by kernel_rfl
theorem u64_back {a : Int} (h : (Lit.int .u64 a).wf = true) : ∃ x : UInt64, a = (x.toNat : Int) := by
  simp [Lit.wf, IntKind.min, IntKind.max, IntKind.signed, IntKind.bits] at h
  exact ⟨UInt64.ofNat a.toNat, by rw [toNat_ofNat_lt (by omega)]; omega⟩
theorem u64_cell1 : Try.prog.cellsOf 28 = 1 := by kernel_rfl
theorem int_cell1 : Try.prog.cellsOf 3 = 1 := by kernel_rfl
theorem u64s_cell1 : Try.prog.cellsOf 24 = 1 := by kernel_rfl
theorem arr2_cells : Try.prog.cellsOf 70 = 2 := by kernel_rfl
theorem arr3_cells : Try.prog.cellsOf 77 = 3 := by kernel_rfl
theorem note_cells4 : Try.prog.cellsOf 74 = 4 := by kernel_rfl
theorem addr_cells4 : Try.prog.cellsOf 72 = 4 := by kernel_rfl
theorem parcel_cells : Try.prog.cellsOf 76 = 9 := by kernel_rfl
section
variable {H : Type} {enc : TypeId × Value → H} {W : World} {base : Nat} {sp : Nat → Bool} {held : Bool}
theorem open_u64 {n : Nat} {v : Value} {x : DataW H × List MemPlace} (h : DataW.trod enc Try.prog W base sp held n 28 [v] = some x) : ∃ a : UInt64, v = uv a := by
  obtain ⟨a, e0, hd0, wa⟩ := DataW.trod_int Try.underlying28 h
  simp only [List.cons.injEq, and_true] at e0
  subst e0
  obtain ⟨a, rfl⟩ := u64_back wa
  exact ⟨a, rfl⟩
theorem open_int {n : Nat} {v : Value} {x : DataW H × List MemPlace} (h : DataW.trod enc Try.prog W base sp held n 3 [v] = some x) : ∃ a : Int, v = .int .i64 a := by
  obtain ⟨a, e0, hd0, wa⟩ := DataW.trod_int Try.underlying3 h
  simp only [List.cons.injEq, and_true] at e0
  exact ⟨a, e0⟩
set_option maxRecDepth 100000 in
theorem e2_of_cells {n : Nat} {c0 c1 : Value} {x : DataW H × List MemPlace} (h : DataW.trod enc Try.prog W base sp held n 70 [c0, c1] = some x) : ∃ y : E2, c0 = uv y.a ∧ c1 = uv y.b := by
  have ht : Try.prog.underlying 70 = some (.array 2 28) := by kernel_rfl
  obtain ⟨xs, m, -, -, -, hl, hx⟩ := DataW.trod_array ht h
  have h0 := hx 0 (by omega)
  have h1 := hx 1 (by omega)
  rw [u64_cell1, List.getElem?_eq_getElem (by omega)] at h0 h1
  obtain ⟨a, rfl⟩ := open_u64 (v := c0) (by simpa [Value.cells] using h0)
  obtain ⟨b, rfl⟩ := open_u64 (v := c1) (by simpa [Value.cells] using h1)
  exact ⟨⟨a, b⟩, rfl, rfl⟩
set_option maxRecDepth 100000 in
theorem note_of_cells4 {n : Nat} {c0 c1 c2 c3 : Value} {x : DataW H × List MemPlace} (h : DataW.trod enc Try.prog W base sp held n 74 [c0, c1, c2, c3] = some x) : ∃ m : Nt, c0 = uv m.value ∧ c1 = uv m.owner ∧ c2 = uv m.rho ∧ c3 = uv m.blind := by
  obtain ⟨y0, y1, y2, y3, m, -, -, h0, h1, h2, h3⟩ := trod_struct4 Try.underlying74 h
  simp only [u64_cell1] at h0 h1 h2 h3
  obtain ⟨a, rfl⟩ := open_u64 (v := c0) h0
  obtain ⟨b', rfl⟩ := open_u64 (v := c1) h1
  obtain ⟨c, rfl⟩ := open_u64 (v := c2) h2
  obtain ⟨d, rfl⟩ := open_u64 (v := c3) h3
  exact ⟨⟨a, b', c, d⟩, rfl, rfl, rfl, rfl⟩
set_option maxRecDepth 100000 in
theorem addr_of_cells4 {n : Nat} {c0 c1 c2 c3 : Value} {x : DataW H × List MemPlace} (h : DataW.trod enc Try.prog W base sp held n 72 [c0, c1, c2, c3] = some x) : ∃ (num : Int) (owner : UInt64) (y : E2), c0 = .int .i64 num ∧ c1 = uv owner ∧ c2 = uv y.a ∧ c3 = uv y.b := by
  obtain ⟨y0, y1, y2, m, -, -, h0, h1, h2⟩ := Go.Deep.trod_struct3 Try.underlying72 h
  simp only [u64_cell1, int_cell1, arr2_cells] at h0 h1 h2
  obtain ⟨num, rfl⟩ := open_int (v := c0) h0
  obtain ⟨o, rfl⟩ := open_u64 (v := c1) h1
  obtain ⟨y, rfl, rfl⟩ := e2_of_cells (c0 := c2) (c1 := c3) h2
  exact ⟨num, o, y, rfl, rfl, rfl, rfl⟩
structure Pc where
  num : Int
  owner : UInt64
  a : E2
  n : Nt
  e : UInt64
abbrev Pc.cells (x : Pc) : List Value := [.int .i64 x.num, uv x.owner, uv x.a.a, uv x.a.b, uv x.n.value, uv x.n.owner, uv x.n.rho, uv x.n.blind, uv x.e]
set_option maxRecDepth 100000 in
theorem parcel_of_cells {n : Nat} {cs : List Value} {x : DataW H × List MemPlace} (hl : cs.length = 9) (h : DataW.trod enc Try.prog W base sp held n 76 cs = some x) : ∃ y : Pc, cs = y.cells := by
  obtain ⟨y0, y1, y2, m, -, -, h0, h1, h2⟩ := Go.Deep.trod_struct3 Try.underlying76 h
  match cs, hl with
  | [c0, c1, c2, c3, c4, c5, c6, c7, c8], _ =>
    simp only [u64_cell1, note_cells4, addr_cells4] at h0 h1 h2
    obtain ⟨num, o, y, rfl, rfl, rfl, rfl⟩ := addr_of_cells4 (c0 := c0) (c1 := c1) (c2 := c2) (c3 := c3) h0
    obtain ⟨nt, rfl, rfl, rfl, rfl⟩ := note_of_cells4 (c0 := c4) (c1 := c5) (c2 := c6) (c3 := c7) h1
    obtain ⟨e, rfl⟩ := open_u64 (v := c8) h2
    exact ⟨⟨num, o, y, nt, e⟩, rfl⟩
set_option maxRecDepth 100000 in
theorem open_parcel {r : Reach} {v : Value} {d : DataW H} {p : List MemPlace} {b0 : Nat} (hv : Value.okWide Try.prog W r b0 76 v) {b' : Nat} (h : DataW.Trod enc Try.prog W b' sp held 76 v d p) : ∃ x : Pc, v = .agg x.cells.toArray := by
  obtain ⟨cs, rfl, hsz⟩ := okWide_struct Try.underlying76 hv
  rw [parcel_cells] at hsz
  obtain ⟨fuel, hf⟩ := h
  obtain ⟨cl⟩ := cs
  obtain ⟨x, hx⟩ := parcel_of_cells (cs := cl) hsz hf
  exact ⟨x, by rw [hx]⟩
set_option maxRecDepth 100000 in
theorem open_three {r : Reach} {v : Value} {d : DataW H} {p : List MemPlace} {b0 : Nat} (hv : Value.okWide Try.prog W r b0 77 v) {b' : Nat} (h : DataW.Trod enc Try.prog W b' sp held 77 v d p) : ∃ a b c : UInt64, v = .agg #[uv a, uv b, uv c] := by
  have ht : Try.prog.underlying 77 = some (.array 3 28) := by kernel_rfl
  unfold Value.okWide at hv
  rw [ht] at hv
  obtain ⟨cs, rfl, hsz, -⟩ := hv
  rw [arr3_cells] at hsz
  obtain ⟨cl⟩ := cs
  match cl, hsz with
  | [c0, c1, c2], _ =>
    obtain ⟨fuel, hf⟩ := h
    obtain ⟨xs, m, -, -, -, hl, hx⟩ := DataW.trod_array ht hf
    have h0 := hx 0 (by omega)
    have h1 := hx 1 (by omega)
    have h2 := hx 2 (by omega)
    rw [u64_cell1, List.getElem?_eq_getElem (by omega)] at h0 h1 h2
    obtain ⟨a, rfl⟩ := open_u64 (v := c0) (by simpa [Value.cells] using h0)
    obtain ⟨b, rfl⟩ := open_u64 (v := c1) (by simpa [Value.cells] using h1)
    obtain ⟨c, rfl⟩ := open_u64 (v := c2) (by simpa [Value.cells] using h2)
    exact ⟨a, b, c, rfl⟩
set_option maxRecDepth 100000 in
theorem open_uv {r : Reach} {v : Value} {d : DataW H} {p : List MemPlace} {b0 : Nat} (hv : Value.okWide Try.prog W r b0 28 v) {b' : Nat} (h : DataW.Trod enc Try.prog W b' sp held 28 v d p) : ∃ a : UInt64, v = uv a := by
  obtain ⟨n0, hf0⟩ := h
  obtain ⟨c0, rfl⟩ := okWide_int Try.underlying28 hv
  exact open_u64 hf0
end
end Go.Proofs.Ytdpgfjnpcjpdpaa
