/- Arguments of the envelope's laws opened: parcels, lists of parcels, places, outputs, three numbers. -/
import Derived.Test.YtgfmjfkdogcnhaaGreatParcel
import Derived.Test.YtgfmjfkdogcnhaaGreatWeak
import Derived.Deep.Slices
import Derived.ProofKit
import Derived.Lib.SmallJoins
import Derived.Deep.Strs
namespace Go.Proofs.YtgfmjfkdogcnhaaGreat
open Go.ChangeShapes Go.WideShapes Go.ChangeAt Go.RowKit Go.Joins
theorem own : ownKnob Tryz.prog.godebug = none := by kernel_rfl
theorem laidOut : laidOutB Tryz.prog = true := by kernel_rfl
theorem u64_back {a : Int} (h : (Lit.int .u64 a).wf = true) : ∃ x : UInt64, a = (x.toNat : Int) := by
  simp [Lit.wf, IntKind.min, IntKind.max, IntKind.signed, IntKind.bits] at h
  exact ⟨UInt64.ofNat a.toNat, by rw [toNat_ofNat_lt (by omega)]; omega⟩
theorem add_off (b o k : Nat) : (⟨b, o, none⟩ : Addr).add k = ⟨b, o + k, none⟩ := by
  unfold Addr.add
  split
  · next h => subst h; rfl
  · rfl
theorem choose_list {α : Type} {p : Nat → α → Prop} : ∀ (n : Nat), (∀ i, i < n → ∃ x, p i x) → ∃ l : List α, l.length = n ∧ ∀ i x, l[i]? = some x → p i x
  | 0, _ => ⟨[], rfl, by simp⟩
  | n + 1, h => by
    obtain ⟨l, hl, hp⟩ := choose_list n fun i hi => h i (by omega)
    obtain ⟨x, hx⟩ := h n (by omega)
    refine ⟨l ++ [x], by simp [hl], fun i y hy => ?_⟩
    rcases Nat.lt_or_ge i n with hi | hi
    · rw [List.getElem?_append_left (by omega)] at hy; exact hp i y hy
    · have hlt := (List.getElem?_eq_some_iff.1 hy).1
      have : i = n := by simp at hlt; omega
      subst this
      rw [List.getElem?_append_right (by omega), hl] at hy
      simp at hy
      subst hy
      exact hx
theorem u64_cell1 : Tryz.prog.cellsOf 22 = 1 := by kernel_rfl
theorem int_cell1 : Tryz.prog.cellsOf 3 = 1 := by kernel_rfl
theorem u64s_cell1 : Tryz.prog.cellsOf 26 = 1 := by kernel_rfl
theorem arr2_cells : Tryz.prog.cellsOf 25 = 2 := by kernel_rfl
theorem arr3_cells : Tryz.prog.cellsOf 29 = 3 := by kernel_rfl
theorem note_cells4 : Tryz.prog.cellsOf 42 = 4 := by kernel_rfl
theorem addr_cells4 : Tryz.prog.cellsOf 51 = 4 := by kernel_rfl
theorem out_cells4 : Tryz.prog.cellsOf 28 = 4 := by kernel_rfl
theorem place_cells2 : Tryz.prog.cellsOf 24 = 2 := by kernel_rfl
theorem bool_cell1 : Tryz.prog.cellsOf 4 = 1 := by kernel_rfl
theorem parcel_cells : Tryz.prog.cellsOf 66 = 9 := by kernel_rfl
section
variable {H : Type} {enc : TypeId × Value → H} {W : World} {base : Nat} {sp : Nat → Bool} {held : Bool}
theorem open_u64 {n : Nat} {v : Value} {x : DataW H × List MemPlace} (h : DataW.trod enc Tryz.prog W base sp held n 22 [v] = some x) : ∃ a : UInt64, v = uv a := by
  obtain ⟨a, e0, hd0, wa⟩ := DataW.trod_int Tryz.underlying22 h
  simp only [List.cons.injEq, and_true] at e0
  subst e0
  obtain ⟨a, rfl⟩ := u64_back wa
  exact ⟨a, rfl⟩
theorem open_int {n : Nat} {v : Value} {x : DataW H × List MemPlace} (h : DataW.trod enc Tryz.prog W base sp held n 3 [v] = some x) : ∃ a : Int, v = .int .i64 a := by
  obtain ⟨a, e0, hd0, wa⟩ := DataW.trod_int Tryz.underlying3 h
  simp only [List.cons.injEq, and_true] at e0
  exact ⟨a, e0⟩
set_option maxRecDepth 100000 in
theorem e2_of_cells {n : Nat} {c0 c1 : Value} {x : DataW H × List MemPlace} (h : DataW.trod enc Tryz.prog W base sp held n 25 [c0, c1] = some x) : ∃ y : E2, c0 = uv y.a ∧ c1 = uv y.b := by
  have ht : Tryz.prog.underlying 25 = some (.array 2 22) := by kernel_rfl
  obtain ⟨xs, m, -, -, -, hl, hx⟩ := DataW.trod_array ht h
  have h0 := hx 0 (by omega)
  have h1 := hx 1 (by omega)
  rw [u64_cell1, List.getElem?_eq_getElem (by omega)] at h0 h1
  obtain ⟨a, rfl⟩ := open_u64 (v := c0) (by simpa [Value.cells] using h0)
  obtain ⟨b, rfl⟩ := open_u64 (v := c1) (by simpa [Value.cells] using h1)
  exact ⟨⟨a, b⟩, rfl, rfl⟩
set_option maxRecDepth 100000 in
theorem note_of_cells4 {n : Nat} {c0 c1 c2 c3 : Value} {x : DataW H × List MemPlace} (h : DataW.trod enc Tryz.prog W base sp held n 42 [c0, c1, c2, c3] = some x) : ∃ m : Nt, c0 = uv m.value ∧ c1 = uv m.owner ∧ c2 = uv m.rho ∧ c3 = uv m.blind := by
  obtain ⟨y0, y1, y2, y3, m, -, -, h0, h1, h2, h3⟩ := trod_struct4 Tryz.underlying42 h
  simp only [u64_cell1] at h0 h1 h2 h3
  obtain ⟨a, rfl⟩ := open_u64 (v := c0) h0
  obtain ⟨b', rfl⟩ := open_u64 (v := c1) h1
  obtain ⟨c, rfl⟩ := open_u64 (v := c2) h2
  obtain ⟨d, rfl⟩ := open_u64 (v := c3) h3
  exact ⟨⟨a, b', c, d⟩, rfl, rfl, rfl, rfl⟩
set_option maxRecDepth 100000 in
theorem addr_of_cells4 {n : Nat} {c0 c1 c2 c3 : Value} {x : DataW H × List MemPlace} (h : DataW.trod enc Tryz.prog W base sp held n 51 [c0, c1, c2, c3] = some x) : ∃ (num : Int) (owner : UInt64) (y : E2), c0 = .int .i64 num ∧ c1 = uv owner ∧ c2 = uv y.a ∧ c3 = uv y.b := by
  obtain ⟨y0, y1, y2, m, -, -, h0, h1, h2⟩ := Go.Deep.trod_struct3 Tryz.underlying51 h
  simp only [u64_cell1, int_cell1, arr2_cells] at h0 h1 h2
  obtain ⟨num, rfl⟩ := open_int (v := c0) h0
  obtain ⟨o, rfl⟩ := open_u64 (v := c1) h1
  obtain ⟨y, rfl, rfl⟩ := e2_of_cells (c0 := c2) (c1 := c3) h2
  exact ⟨num, o, y, rfl, rfl, rfl, rfl⟩
set_option maxRecDepth 100000 in
theorem parcel_of_cells {n : Nat} {cs : List Value} {x : DataW H × List MemPlace} (hl : cs.length = 9) (h : DataW.trod enc Tryz.prog W base sp held n 66 cs = some x) : ∃ y : Pc, cs = y.cells := by
  obtain ⟨y0, y1, y2, m, -, -, h0, h1, h2⟩ := Go.Deep.trod_struct3 Tryz.underlying66 h
  match cs, hl with
  | [c0, c1, c2, c3, c4, c5, c6, c7, c8], _ =>
    simp only [u64_cell1, note_cells4, addr_cells4] at h0 h1 h2
    obtain ⟨num, o, y, rfl, rfl, rfl, rfl⟩ := addr_of_cells4 (c0 := c0) (c1 := c1) (c2 := c2) (c3 := c3) h0
    obtain ⟨nt, rfl, rfl, rfl, rfl⟩ := note_of_cells4 (c0 := c4) (c1 := c5) (c2 := c6) (c3 := c7) h1
    obtain ⟨e, rfl⟩ := open_u64 (v := c8) h2
    exact ⟨⟨num, o, y, nt, e⟩, rfl⟩
set_option maxRecDepth 100000 in
theorem open_parcel {r : Reach} {v : Value} {d : DataW H} {p : List MemPlace} {b0 : Nat} (hv : Value.okWide Tryz.prog W r b0 66 v) {b' : Nat} (h : DataW.Trod enc Tryz.prog W b' sp held 66 v d p) : ∃ x : Pc, v = .agg x.cells.toArray := by
  obtain ⟨cs, rfl, hsz⟩ := okWide_struct Tryz.underlying66 hv
  rw [parcel_cells] at hsz
  obtain ⟨fuel, hf⟩ := h
  obtain ⟨cl⟩ := cs
  obtain ⟨x, hx⟩ := parcel_of_cells (cs := cl) hsz hf
  exact ⟨x, by rw [hx]⟩
set_option maxRecDepth 100000 in
theorem open_three {r : Reach} {v : Value} {d : DataW H} {p : List MemPlace} {b0 : Nat} (hv : Value.okWide Tryz.prog W r b0 29 v) {b' : Nat} (h : DataW.Trod enc Tryz.prog W b' sp held 29 v d p) : ∃ a b c : UInt64, v = .agg #[uv a, uv b, uv c] := by
  have ht : Tryz.prog.underlying 29 = some (.array 3 22) := by kernel_rfl
  unfold Value.okWide at hv
  rw [ht] at hv
  obtain ⟨cs, rfl, hsz, -⟩ := hv
  rw [arr3_cells] at hsz
  obtain ⟨cl⟩ := cs
  match cl, hsz with
  | [c0, c1, c2], _ =>
    obtain ⟨fuel, hf⟩ := h
    obtain ⟨xs, m, -, -, -, hl, hx⟩ := DataW.trod_array ht hf
    have h0 := hx 0 (by omega)
    have h1 := hx 1 (by omega)
    have h2 := hx 2 (by omega)
    rw [u64_cell1, List.getElem?_eq_getElem (by omega)] at h0 h1 h2
    obtain ⟨a, rfl⟩ := open_u64 (v := c0) (by simpa [Value.cells] using h0)
    obtain ⟨b, rfl⟩ := open_u64 (v := c1) (by simpa [Value.cells] using h1)
    obtain ⟨c, rfl⟩ := open_u64 (v := c2) (by simpa [Value.cells] using h2)
    exact ⟨a, b, c, rfl⟩
set_option maxRecDepth 100000 in
theorem open_uv {r : Reach} {v : Value} {d : DataW H} {p : List MemPlace} {b0 : Nat} (hv : Value.okWide Tryz.prog W r b0 22 v) {b' : Nat} (h : DataW.Trod enc Tryz.prog W b' sp held 22 v d p) : ∃ a : UInt64, v = uv a := by
  obtain ⟨n0, hf0⟩ := h
  obtain ⟨c0, rfl⟩ := okWide_int Tryz.underlying22 hv
  exact open_u64 hf0
set_option maxRecDepth 100000 in
theorem okWide_spot {r : Reach} {t e : TypeId} {a : Addr} {len cap : Nat} (ht : Tryz.prog.underlying t = some (.slice e)) (hv : Value.okWide Tryz.prog W r base t (.slice (some a) len cap)) : a.spot = none := by
  unfold Value.okWide at hv
  rw [ht] at hv
  simp only [Cell.okWide, ht, Cell.ok] at hv
  exact hv.2.2.2.1
set_option maxRecDepth 100000 in
theorem open_u64s {n : Nat} {v : Value} {x : DataW H × List MemPlace} (h : DataW.trod enc Tryz.prog W base sp held n 26 [v] = some x) : ∃ l : List UInt64, RdU' W v l := by
  have ht : Tryz.prog.underlying 26 = some (.slice 22) := Tryz.underlying26
  rcases Go.Deep.open_slice ht h with ⟨hc, -⟩ | ⟨a, len, cap, m, n', D, Pl, hc, hb, hl, hm, hmm, -, hx⟩
  · simp only [List.cons.injEq, and_true] at hc
    subst hc
    exact ⟨[], (RdC.nil W).weak⟩
  · simp only [List.cons.injEq, and_true] at hc
    subst hc
    have hlm : len ≤ m := by rw [hmm]; split <;> omega
    obtain ⟨l, hll, hp⟩ := choose_list (α := UInt64) (p := fun i x => W.cell? (a.add i) = some (uv x)) len (fun i hi => by
      obtain ⟨cs', hcs, htr⟩ := hx i (by omega)
      rw [u64_cell1, Nat.mul_one] at hcs
      obtain ⟨_, hlen, hcell⟩ := World.cells?_some hcs
      match cs', hlen with
      | [c], _ =>
        obtain ⟨y, rfl⟩ := open_u64 htr
        have h0 := hcell 0 (by omega)
        rw [show (a.add i).add 0 = a.add i from by simp [Addr.add]] at h0
        exact ⟨y, h0⟩)
    subst hll
    refine ⟨l, some a, cap, rfl, hl, hm, (fun h => by cases h), fun ad ha j u hu => ?_⟩
    injection ha with ha
    subst ha
    obtain ⟨y, hy, rfl⟩ : ∃ y, l[j]? = some y ∧ uv y = u := by
      rw [List.getElem?_map] at hu
      exact Option.map_eq_some_iff.1 hu
    exact hp j y hy
set_option maxRecDepth 100000 in
theorem open_place35 {r : Reach} {v : Value} {d : DataW H} {p : List MemPlace} {b0 : Nat} (hv : Value.okWide Tryz.prog W r b0 24 v) {b' : Nat} (h : DataW.Trod enc Tryz.prog W b' sp held 24 v d p) : ∃ (seed : UInt64) (ideal : Bool), v = .agg #[uv seed, .bool ideal] := by
  obtain ⟨c0, c1, y0, y1, m, rfl, -, -, hy0, hy1⟩ := open_agg2 Tryz.underlying24 (by kernel_rfl) (by kernel_rfl) hv h
  obtain ⟨a, rfl⟩ := open_u64 hy0
  obtain ⟨b, e1, hd1⟩ := DataW.trod_bool Tryz.underlying4 hy1
  simp only [List.cons.injEq, and_true] at e1
  subst e1
  exact ⟨a, b, rfl⟩
theorem RdC'.strong {w : World} {a : Option Addr} {len cap : Nat} {l : List UInt64} (h : RdU' w (.slice a len cap) l) (hs : ∀ ad, a = some ad → ad.spot = none) : RdU w (.slice a len cap) l := by
  obtain ⟨a', c, he, h2, h3, h4, h5⟩ := h
  injection he with e1 e2 e3
  subst e1 e2 e3
  refine ⟨a, cap, rfl, h2, h3, h4, fun ad ha => ⟨hs ad ha, fun i x hx => ?_⟩⟩
  have h6 := h5 ad ha i (uv x) (by simp [us, hx])
  rw [add_spot h6] at h6
  exact h6
set_option maxRecDepth 100000 in
theorem open_out {r : Reach} {v : Value} {d : DataW H} {p : List MemPlace} {b0 : Nat} (hv : Value.okWide Tryz.prog W r b0 28 v) {b' : Nat} (h : DataW.Trod enc Tryz.prog W b' sp held 28 v d p) :
    ∃ (commit : UInt64) (pt : E2) (cv : Value) (c : List UInt64), v = .agg #[uv commit, uv pt.a, uv pt.b, cv] ∧ RdU W cv c := by
  have hv' := hv
  unfold Value.okWide at hv'
  rw [Tryz.underlying28] at hv'
  obtain ⟨cs0, he0, -, ts, hts, -, hrow⟩ := hv'
  have hct : Tryz.prog.cellTypes Tryz.prog.depth 28 = some [22, 22, 22, 26] := by kernel_rfl
  rw [hct] at hts
  obtain rfl := Option.some.inj hts
  obtain ⟨cs, rfl, hsz⟩ := okWide_struct Tryz.underlying28 hv
  rw [out_cells4] at hsz
  injection he0 with he0
  subst he0
  obtain ⟨fuel, hf⟩ := h
  obtain ⟨y0, y1, y2, m, -, hl, h0, h1, h2⟩ := Go.Deep.trod_struct3 Tryz.underlying28 hf
  obtain ⟨cl⟩ := cs
  match cl, hsz with
  | [c0, c1, c2, c3], _ =>
    simp only [u64_cell1, arr2_cells, u64s_cell1] at h0 h1 h2
    obtain ⟨cm, rfl⟩ := open_u64 (v := c0) h0
    obtain ⟨y, rfl, rfl⟩ := e2_of_cells (c0 := c1) (c1 := c2) h1
    obtain ⟨t2, ht2, hok⟩ := hrow 3 c3 rfl
    have ht2' : t2 = 26 := (Option.some.inj ht2).symm
    subst ht2'
    obtain ⟨c, hc⟩ := open_u64s (v := c3) h2
    obtain ⟨a, cap, rfl, -⟩ := id hc
    refine ⟨cm, y, _, c, rfl, hc.strong fun ad ha => ?_⟩
    subst ha
    exact okWide_spot (r := r) (base := b0) (t := 26) Tryz.underlying26 (by
      unfold Value.okWide
      rw [Tryz.underlying26]
      exact hok)
end
end Go.Proofs.YtgfmjfkdogcnhaaGreat
