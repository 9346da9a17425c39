/- Arguments of the laws of the oracle opened: operations. -/
import Derived.Test.YtdkilbnocmnekaaOpen
import Derived.Test.YtdkilbnocmnekaaOps
namespace Go.Proofs.Ytdkilbnocmnekaa
open Go.ChangeShapes Go.WideShapes Go.ChangeAt Go.RowKit Go.Joins
section
variable {H : Type} {enc : TypeId × Value → H} {W : World} {base : Nat} {sp : Nat → Bool} {held : Bool}
theorem u8_back {a : Int} (h : (Lit.int .u8 a).wf = true) : ∃ x : UInt8, a = (x.toNat : Int) := by
  simp [Lit.wf, IntKind.min, IntKind.max, IntKind.signed, IntKind.bits] at h
  exact ⟨UInt8.ofNat a.toNat, by rw [UInt8.toNat_ofNat_of_lt' (by simp [UInt8.size]; omega)]; omega⟩
theorem u64_cell1 : Try.prog.cellsOf 22 = 1 := by kernel_rfl
theorem op_cells : Try.prog.cellsOf 30 = 5 := by kernel_rfl
theorem choose_nat {α : Type} {p : Nat → α → Prop} (n : Nat) (h : ∀ i, i < n → ∃ x, p i x) : ∃ l : List α, l.length = n ∧ ∀ i x, l[i]? = some x → p i x := choose_list n h
set_option maxRecDepth 100000 in
theorem open_u64s {n : Nat} {v : Value} {x : DataW H × List MemPlace} (h : DataW.trod enc Try.prog W base sp held n 28 [v] = some x) : ∃ l : List UInt64, RdU' W v l := by
  have ht : Try.prog.underlying 28 = some (.slice 22) := Try.underlying28
  rcases Go.Deep.open_slice ht h with ⟨hc, -⟩ | ⟨a, len, cap, m, n', D, Pl, hc, hb, hl, hm, hmm, -, hx⟩
  · simp only [List.cons.injEq, and_true] at hc
    subst hc
    exact ⟨[], (RdC.nil W).weak⟩
  · simp only [List.cons.injEq, and_true] at hc
    subst hc
    have hlm : len ≤ m := by rw [hmm]; split <;> omega
    obtain ⟨l, hll, hp⟩ := choose_nat (α := UInt64) (p := fun i x => W.cell? (a.add i) = some (uv x)) len (fun i hi => by
      obtain ⟨cs', hcs, htr⟩ := hx i (by omega)
      rw [u64_cell1, Nat.mul_one] at hcs
      obtain ⟨_, hlen, hcell⟩ := World.cells?_some hcs
      match cs', hlen with
      | [c], _ =>
        obtain ⟨y, rfl⟩ := open_u64 htr
        have h0 := hcell 0 (by omega)
        rw [show (a.add i).add 0 = a.add i from by simp [Addr.add]] at h0
        exact ⟨y, h0⟩)
    subst hll
    refine ⟨l, some a, cap, rfl, hl, hm, (fun h => by cases h), fun ad ha j u hu => ?_⟩
    injection ha with ha
    subst ha
    obtain ⟨y, hy, rfl⟩ : ∃ y, l[j]? = some y ∧ uv y = u := by
      rw [List.getElem?_map] at hu
      exact Option.map_eq_some_iff.1 hu
    exact hp j y hy
theorem struct_five {P : Program} {n : Nat} {t : TypeId} {f0 f1 f2 f3 f4 : Field} {cs : List Value} {x : DataW H × List MemPlace} (hs : P.underlying t = some (.struct #[f0, f1, f2, f3, f4]))
    (ho : Go.Deep.oneCellFields P #[f0, f1, f2, f3, f4] = true) (hC : P.cellsOf t = 5) (h : DataW.trod enc P W base sp held n t cs = some x) :
    ∃ c0 c1 c2 c3 c4 y0 y1 y2 y3 y4 m, cs = [c0, c1, c2, c3, c4] ∧ DataW.trod enc P W base sp held m f0.type [c0] = some y0 ∧ DataW.trod enc P W base sp held m f1.type [c1] = some y1 ∧ DataW.trod enc P W base sp held m f2.type [c2] = some y2 ∧
      DataW.trod enc P W base sp held m f3.type [c3] = some y3 ∧ DataW.trod enc P W base sp held m f4.type [c4] = some y4 := by
  have hone := Go.Deep.hone_of ho
  obtain ⟨xs, m, -, -, hlen, hxs, hf⟩ := DataW.trod_struct hs h
  rw [hC] at hlen
  match cs, hlen with
  | [k0, k1, k2, k3, k4], _ =>
    match xs, hxs with
    | [y0, y1, y2, y3, y4], _ =>
      obtain ⟨o0, p0⟩ := hone 0 f0 rfl
      obtain ⟨o1, p1⟩ := hone 1 f1 rfl
      obtain ⟨o2, p2⟩ := hone 2 f2 rfl
      obtain ⟨o3, p3⟩ := hone 3 f3 rfl
      obtain ⟨o4, p4⟩ := hone 4 f4 rfl
      exact ⟨k0, k1, k2, k3, k4, y0, y1, y2, y3, y4, m, rfl, by simpa [o0, p0] using hf 0 f0 rfl, by simpa [o1, p1] using hf 1 f1 rfl, by simpa [o2, p2] using hf 2 f2 rfl, by simpa [o3, p3] using hf 3 f3 rfl, by simpa [o4, p4] using hf 4 f4 rfl⟩
set_option maxRecDepth 100000 in
theorem op_of_cells {n : Nat} {cs : List Value} {x : DataW H × List MemPlace} (h : DataW.trod enc Try.prog W base sp held n 30 cs = some x) :
    ∃ (o : OpV) (u : Value), cs = [.int .u8 (o.kind.toNat : Int), uv o.label, u, uv o.n, .bool o.odd] ∧ RdU' W u o.l := by
  obtain ⟨k0, k1, k2, k3, k4, y0, y1, y2, y3, y4, m, rfl, g0, g1, g2, g3, g4⟩ := struct_five Try.underlying30 (by kernel_rfl) op_cells h
  obtain ⟨a, e0, -, wa⟩ := DataW.trod_int (t := 5) (k := .u8) Try.underlying5 g0
  obtain ⟨kd, rfl⟩ := u8_back wa
  obtain ⟨lb, rfl⟩ := open_u64 (v := k1) g1
  obtain ⟨l, hl⟩ := open_u64s (v := k2) g2
  obtain ⟨nn, rfl⟩ := open_u64 (v := k3) g3
  obtain ⟨b, e4, -⟩ := DataW.trod_bool (t := 4) Try.underlying4 g4
  have e0' : k0 = .int .u8 (kd.toNat : Int) := by simpa using e0
  have e4' : k4 = .bool b := by simpa using e4
  subst e0' e4'
  exact ⟨⟨kd, lb, l, nn, b⟩, k2, rfl, hl⟩
set_option maxRecDepth 100000 in
theorem open_ops {r : Reach} {v : Value} {d : DataW H} {p : List MemPlace} {b0 : Nat} (hv : Value.okWide Try.prog W r b0 23 v) {b' : Nat} (h : DataW.Trod enc Try.prog W b' sp held 23 v d p) : ∃ l : List OpV, RdOps W v l := by
  have ht : Try.prog.underlying 23 = some (.slice 30) := Try.underlying23
  obtain ⟨a, len, cap, rfl⟩ := okWide_slice ht hv
  obtain ⟨fuel, hf⟩ := h
  rcases Go.Deep.open_slice ht hf with ⟨hc, -⟩ | ⟨a', len', cap', m, n, D, Pl, hc, hb, hl, hm, hmm, -, hx⟩
  · simp only [Value.cells, List.cons.injEq, and_true] at hc
    injection hc with h1 h2 h3
    subst h1 h2 h3
    exact ⟨[], none, 0, rfl, Nat.le_refl _, Nat.zero_le _, fun _ => rfl, fun ad h => by cases h⟩
  · simp only [Value.cells, List.cons.injEq, and_true] at hc
    injection hc with h1 h2 h3
    subst h1 h2 h3
    have hsp := okWide_spot ht hv
    obtain ⟨b, o, s⟩ := a'
    simp only at hsp
    subst hsp
    have hlm : len ≤ m := by rw [hmm]; split <;> omega
    obtain ⟨l, hll, hp⟩ := choose_nat (α := OpV) (p := fun i x => ∃ u, W.cell? ⟨b, o + i * 5, none⟩ = some (.int .u8 (x.kind.toNat : Int)) ∧ W.cell? ⟨b, o + i * 5 + 1, none⟩ = some (uv x.label) ∧ W.cell? ⟨b, o + i * 5 + 2, none⟩ = some u ∧ W.cell? ⟨b, o + i * 5 + 3, none⟩ = some (uv x.n) ∧ W.cell? ⟨b, o + i * 5 + 4, none⟩ = some (.bool x.odd) ∧ RdU' W u x.l) len (fun i hi => by
      obtain ⟨cs', hcs, htr⟩ := hx i (by omega)
      rw [op_cells] at hcs
      obtain ⟨_, hlen, hcell⟩ := World.cells?_some hcs
      obtain ⟨x, u, rfl, hu⟩ := op_of_cells htr
      exact ⟨x, u, by simpa [add_off] using hcell 0 (by omega), by simpa [add_off] using hcell 1 (by omega), by simpa [add_off] using hcell 2 (by omega), by simpa [add_off] using hcell 3 (by omega), by simpa [add_off] using hcell 4 (by omega), hu⟩)
    subst hll
    refine ⟨l, some ⟨b, o, none⟩, cap, rfl, hl, hm, (fun h => by cases h), fun ad ha => ?_⟩
    injection ha with ha
    subst ha
    exact ⟨rfl, hp⟩
set_option maxRecDepth 100000 in
theorem open_op {r : Reach} {v : Value} {d : DataW H} {p : List MemPlace} {b0 : Nat} (hv : Value.okWide Try.prog W r b0 30 v) {b' : Nat} (h : DataW.Trod enc Try.prog W b' sp held 30 v d p) :
    ∃ (o : OpV) (u : Value), v = .agg #[.int .u8 (o.kind.toNat : Int), uv o.label, u, uv o.n, .bool o.odd] ∧ RdU W u o.l := by
  have hv' := hv
  unfold Value.okWide at hv'
  rw [Try.underlying30] at hv'
  obtain ⟨cs0, he0, -, ts, hts, -, hrow⟩ := hv'
  have hct : Try.prog.cellTypes Try.prog.depth 30 = some [5, 22, 28, 22, 4] := by kernel_rfl
  rw [hct] at hts
  obtain rfl := Option.some.inj hts
  obtain ⟨cs, rfl, -⟩ := okWide_struct Try.underlying30 hv
  obtain ⟨fuel, hf⟩ := h
  obtain ⟨o, u, hcs, hu⟩ := op_of_cells hf
  have this : cs = #[.int .u8 (o.kind.toNat : Int), uv o.label, u, uv o.n, .bool o.odd] := by
    apply Array.toList_inj.1
    simpa [Value.cells] using hcs
  subst this
  injection he0 with he0
  subst he0
  obtain ⟨t2, ht2, hok⟩ := hrow 2 u rfl
  have ht2' : t2 = 28 := (Option.some.inj ht2).symm
  subst ht2'
  refine ⟨o, u, rfl, ?_⟩
  obtain ⟨a, c, rfl, g1, g2, g3, g4⟩ := hu
  refine ⟨a, c, rfl, g1, g2, g3, fun ad ha => ?_⟩
  subst ha
  have hsp : ad.spot = none := okWide_spot (r := r) (base := b0) (t := 28) Try.underlying28 (by
    unfold Value.okWide
    rw [Try.underlying28]
    exact hok)
  refine ⟨hsp, fun i x hx => ?_⟩
  have h1 := g4 ad rfl i (uv x) (by rw [List.getElem?_map, hx]; rfl)
  obtain ⟨ab, ao, sp'⟩ := ad
  simp only at hsp
  subst hsp
  rw [add_off] at h1
  exact h1
end
end Go.Proofs.Ytdkilbnocmnekaa
