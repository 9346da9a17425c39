/- Arguments of the laws opened: questions, worlds. -/
import Derived.Test.YtdpgfjnpcjpdpaaOpenL
import Derived.Test.YtdpgfjnpcjpdpaaWorld
namespace Go.Proofs.Ytdpgfjnpcjpdpaa
open Go.ChangeShapes Go.WideShapes Go.ChangeAt Go.RowKit Go.Joins
theorem qn_cells : Try.prog.cellsOf 49 = 3 := by kernel_rfl
theorem world_cells : Try.prog.cellsOf 66 = 3 := by kernel_rfl
theorem bool_cell1 : Try.prog.cellsOf 4 = 1 := by kernel_rfl
theorem qs_cell1 : Try.prog.cellsOf 62 = 1 := by kernel_rfl
section
variable {H : Type} {enc : TypeId × Value → H} {W : World} {base : Nat} {sp : Nat → Bool} {held : Bool}
set_option maxRecDepth 100000 in
theorem qn_of_cells {n : Nat} {cs : List Value} {x : DataW H × List MemPlace} (h : DataW.trod enc Try.prog W base sp held n 49 cs = some x) :
    ∃ (q : Qn) (u : Value), cs = [uv q.label, u, uv q.answer] ∧ RdU' W u q.elems := by
  obtain ⟨y0, y1, y2, m, -, hl, h0, h1, h2⟩ := Go.Deep.trod_struct3 Try.underlying49 h
  rw [qn_cells] at hl
  match cs, hl with
  | [c0, c1, c2], _ =>
    simp only [u64_cell1, u64s_cell1] at h0 h1 h2
    obtain ⟨a, rfl⟩ := open_u64 (v := c0) h0
    obtain ⟨l, hl⟩ := open_u64s (v := c1) h1
    obtain ⟨b, rfl⟩ := open_u64 (v := c2) h2
    exact ⟨⟨a, l, b⟩, c1, rfl, hl⟩
set_option maxRecDepth 100000 in
theorem open_qs {n : Nat} {v : Value} {x : DataW H × List MemPlace} (h : DataW.trod enc Try.prog W base sp held n 62 [v] = some x) (hsp : ∀ a len cap, v = .slice (some a) len cap → a.spot = none) : ∃ Q : List Qn, RdQ' W v Q := by
  have ht : Try.prog.underlying 62 = some (.slice 49) := Try.underlying62
  rcases Go.Deep.open_slice ht h with ⟨hc, -⟩ | ⟨a, len, cap, m, n', D, Pl, hc, hb, hl, hm, hmm, -, hx⟩
  · simp only [List.cons.injEq, and_true] at hc
    subst hc
    exact ⟨[], none, 0, rfl, Nat.le_refl _, Nat.zero_le _, fun _ => rfl, fun ad h => by cases h⟩
  · simp only [List.cons.injEq, and_true] at hc
    subst hc
    have hs := hsp a len cap rfl
    obtain ⟨b, o, s⟩ := a
    simp only at hs
    subst hs
    have hlm : len ≤ m := by rw [hmm]; split <;> omega
    obtain ⟨l, hll, hp⟩ := choose_list (α := Qn) (p := fun i q => ∃ u, W.cell? ⟨b, o + i * 3, none⟩ = some (uv q.label) ∧ W.cell? ⟨b, o + i * 3 + 1, none⟩ = some u ∧ W.cell? ⟨b, o + i * 3 + 2, none⟩ = some (uv q.answer) ∧ RdU' W u q.elems) len (fun i hi => by
      obtain ⟨cs', hcs, htr⟩ := hx i (by omega)
      rw [qn_cells] at hcs
      obtain ⟨_, hlen, hcell⟩ := World.cells?_some hcs
      obtain ⟨q, u, rfl, hu⟩ := qn_of_cells htr
      exact ⟨q, u, by simpa [add_off] using hcell 0 (by omega), by simpa [add_off] using hcell 1 (by omega), by simpa [add_off] using hcell 2 (by omega), hu⟩)
    subst hll
    refine ⟨l, some ⟨b, o, none⟩, cap, rfl, hl, hm, (fun h => by cases h), fun ad ha => ?_⟩
    injection ha with ha
    subst ha
    exact ⟨rfl, hp⟩
set_option maxRecDepth 100000 in
theorem open_world {r : Reach} {v : Value} {d : DataW H} {p : List MemPlace} {b0 : Nat} (hv : Value.okWide Try.prog W r b0 66 v) {b' : Nat} (h : DataW.Trod enc Try.prog W b' sp held 66 v d p) :
    ∃ (real : Bool) (seed : UInt64) (qv : Value) (Q : List Qn), v = .agg #[.bool real, uv seed, qv] ∧ RdQ' W qv Q := by
  have hv' := hv
  unfold Value.okWide at hv'
  rw [Try.underlying66] at hv'
  obtain ⟨cs0, he0, -, ts, hts, -, hrow⟩ := hv'
  have hct : Try.prog.cellTypes Try.prog.depth 66 = some [4, 28, 62] := by kernel_rfl
  rw [hct] at hts
  obtain rfl := Option.some.inj hts
  obtain ⟨cs, rfl, hsz⟩ := okWide_struct Try.underlying66 hv
  rw [world_cells] at hsz
  injection he0 with he0
  subst he0
  obtain ⟨fuel, hf⟩ := h
  obtain ⟨y0, y1, y2, m, -, hl, h0, h1, h2⟩ := Go.Deep.trod_struct3 Try.underlying66 hf
  obtain ⟨cl⟩ := cs
  match cl, hsz with
  | [c0, c1, c2], _ =>
    simp only [u64_cell1, bool_cell1, qs_cell1] at h0 h1 h2
    obtain ⟨rb, e0, -⟩ := DataW.trod_bool (t := 4) Try.underlying4 h0
    have e0' : c0 = .bool rb := by simpa [Value.cells] using e0
    subst e0'
    obtain ⟨s, rfl⟩ := open_u64 (v := c1) h1
    obtain ⟨t2, ht2, hok⟩ := hrow 2 c2 rfl
    have ht2' : t2 = 62 := (Option.some.inj ht2).symm
    subst ht2'
    obtain ⟨Q, hQ⟩ := open_qs (v := c2) h2 (fun a len cap he => by
      subst he
      exact okWide_spot (r := r) (base := b0) (t := 62) Try.underlying62 (by
        unfold Value.okWide
        rw [Try.underlying62]
        exact hok))
    exact ⟨rb, s, c2, Q, rfl, hQ⟩
theorem listing_cells : Try.prog.cellsOf 116 = 6 := by kernel_rfl
theorem lists_cell1 : Try.prog.cellsOf 22 = 1 := by kernel_rfl
set_option maxRecDepth 100000 in
theorem open_listing {r : Reach} {v : Value} {d : DataW H} {p : List MemPlace} {b0 : Nat} (hv : Value.okWide Try.prog W r b0 116 v) {b' : Nat} (h : DataW.Trod enc Try.prog W b' sp held 116 v d p) :
    ∃ (lv sv : Value) (leaves : Lv) (salts : List UInt64) (i : Int) (o : Opn) (lf pv : Value), v = .agg #[lv, sv, .int .i64 i, lf, uv o.salt, pv] ∧ RdL W lv leaves ∧ RdU W sv salts ∧ RdU' W lf o.leaf ∧ RdU' W pv o.path := by
  have hv' := hv
  unfold Value.okWide at hv'
  rw [Try.underlying116] at hv'
  obtain ⟨cs0, he0, -, ts, hts, -, hrow⟩ := hv'
  have hct : Try.prog.cellTypes Try.prog.depth 116 = some [22, 24, 3, 24, 28, 24] := by kernel_rfl
  rw [hct] at hts
  obtain rfl := Option.some.inj hts
  obtain ⟨cs, rfl, hsz⟩ := okWide_struct Try.underlying116 hv
  rw [listing_cells] at hsz
  injection he0 with he0
  subst he0
  obtain ⟨fuel, hf⟩ := h
  obtain ⟨y0, y1, y2, y3, m, -, -, h0, h1, h2, h3⟩ := trod_struct4 Try.underlying116 hf
  obtain ⟨cl⟩ := cs
  match cl, hsz with
  | [c0, c1, c2, c3, c4, c5], _ =>
    simp only [lists_cell1, u64s_cell1, int_cell1, opn_cells] at h0 h1 h2 h3
    have k0 : Value.okWide Try.prog W r b0 22 c0 := by
      obtain ⟨t, ht, hok⟩ := hrow 0 c0 rfl
      obtain rfl : t = 22 := (Option.some.inj ht).symm
      unfold Value.okWide
      rw [Try.underlying22]
      exact hok
    have k1 : Value.okWide Try.prog W r b0 24 c1 := by
      obtain ⟨t, ht, hok⟩ := hrow 1 c1 rfl
      obtain rfl : t = 24 := (Option.some.inj ht).symm
      unfold Value.okWide
      rw [Try.underlying24]
      exact hok
    obtain ⟨a0, l0, e0, rfl⟩ := okWide_slice Try.underlying22 k0
    obtain ⟨a1, l1, e1, rfl⟩ := okWide_slice Try.underlying24 k1
    obtain ⟨leaves, hl⟩ := open_lists k0 ⟨_, h0⟩
    obtain ⟨salts, hs⟩ := open_nums k1 ⟨_, h1⟩
    obtain ⟨i, rfl⟩ := open_int (v := c2) h2
    obtain ⟨o, lf, pv, hc, hlf, hpv⟩ := opn_of_cells (cs := [c3, c4, c5]) h3
    simp only [List.cons.injEq, and_true] at hc
    obtain ⟨rfl, rfl, rfl⟩ := hc
    exact ⟨_, _, leaves, salts, i, o, c3, c5, rfl, hl, hs, hlf, hpv⟩
end
end Go.Proofs.Ytdpgfjnpcjpdpaa
