/- Arguments of the laws opened: numbers, truth values, notes, places. -/
import Derived.Test.YtdkilbnocmnekaaHidLaw
import Derived.Deep.Slices
import Derived.ProofKit
import Derived.Lib.SmallJoins
namespace Go.Proofs.Ytdkilbnocmnekaa
open Go.ChangeShapes Go.WideShapes Go.ChangeAt Go.RowKit Go.Joins
theorem own : ownKnob Try.prog.godebug = none := by kernel_rfl
theorem laidOut : laidOutB Try.prog = true := by kernel_rfl
theorem note_cells : Try.prog.cellsOf 45 = 4 := by kernel_rfl
theorem u64_back {a : Int} (h : (Lit.int .u64 a).wf = true) : ∃ x : UInt64, a = (x.toNat : Int) := by
  simp [Lit.wf, IntKind.min, IntKind.max, IntKind.signed, IntKind.bits] at h
  exact ⟨UInt64.ofNat a.toNat, by rw [toNat_ofNat_lt (by omega)]; omega⟩
section
variable {H : Type} {enc : TypeId × Value → H} {W : World} {base : Nat} {sp : Nat → Bool} {held : Bool}
theorem open_u64 {n : Nat} {v : Value} {x : DataW H × List MemPlace} (h : DataW.trod enc Try.prog W base sp held n 22 [v] = some x) : ∃ a : UInt64, v = uv a := by
  obtain ⟨a, e0, hd0, wa⟩ := DataW.trod_int Try.underlying22 h
  simp only [List.cons.injEq, and_true] at e0
  subst e0
  obtain ⟨a, rfl⟩ := u64_back wa
  exact ⟨a, rfl⟩
set_option maxRecDepth 100000 in
theorem open_note {r : Reach} {v : Value} {d : DataW H} {p : List MemPlace} (hv : Value.okWide Try.prog W r base 45 v) {b' : Nat} (h : DataW.Trod enc Try.prog W b' sp held 45 v d p) : ∃ n : Nt, v = nv n := by
  obtain ⟨c0, c1, c2, c3, y0, y1, y2, y3, m, rfl, -, -, hy0, hy1, hy2, hy3⟩ := open_agg4 Try.underlying45 (by kernel_rfl) note_cells hv h
  obtain ⟨a, rfl⟩ := open_u64 hy0
  obtain ⟨b, rfl⟩ := open_u64 hy1
  obtain ⟨c, rfl⟩ := open_u64 hy2
  obtain ⟨d, rfl⟩ := open_u64 hy3
  exact ⟨⟨a, b, c, d⟩, rfl⟩
set_option maxRecDepth 100000 in
theorem open_place {r : Reach} {v : Value} {d : DataW H} {p : List MemPlace} (hv : Value.okWide Try.prog W r base 54 v) {b' : Nat} (h : DataW.Trod enc Try.prog W b' sp held 54 v d p) : ∃ (s : UInt64) (i : Bool), v = .agg #[uv s, .bool i] := by
  obtain ⟨c0, c1, y0, y1, m, rfl, -, -, hy0, hy1⟩ := open_agg2 Try.underlying54 (by kernel_rfl) (by kernel_rfl) hv h
  obtain ⟨a, rfl⟩ := open_u64 hy0
  obtain ⟨b, e1, hd1⟩ := DataW.trod_bool Try.underlying4 hy1
  simp only [List.cons.injEq, and_true] at e1
  subst e1
  exact ⟨a, b, rfl⟩
set_option maxRecDepth 100000 in
theorem okWide_spot {r : Reach} {t e : TypeId} {a : Addr} {len cap : Nat} (ht : Try.prog.underlying t = some (.slice e)) (hv : Value.okWide Try.prog W r base t (.slice (some a) len cap)) : a.spot = none := by
  unfold Value.okWide at hv
  rw [ht] at hv
  simp only [Cell.okWide, ht, Cell.ok] at hv
  exact hv.2.2.2.1
set_option maxRecDepth 100000 in
theorem note_of_cells {b n : Nat} {cs : List Value} {x : DataW H × List MemPlace} (hl : cs.length = 4) (h : DataW.trod enc Try.prog W b sp held n 45 cs = some x) : ∃ m : Nt, cs = [uv m.value, uv m.owner, uv m.rho, uv m.blind] := by
  obtain ⟨y0, y1, y2, y3, m, -, -, h0, h1, h2, h3⟩ := trod_struct4 Try.underlying45 h
  match cs, hl with
  | [c0, c1, c2, c3], _ =>
    have hc : Try.prog.cellsOf 22 = 1 := by kernel_rfl
    simp only [hc] at h0 h1 h2 h3
    obtain ⟨a, rfl⟩ := open_u64 (v := c0) h0
    obtain ⟨b', rfl⟩ := open_u64 (v := c1) h1
    obtain ⟨c, rfl⟩ := open_u64 (v := c2) h2
    obtain ⟨d, rfl⟩ := open_u64 (v := c3) h3
    exact ⟨⟨a, b', c, d⟩, rfl⟩
theorem add_off (b o k : Nat) : (⟨b, o, none⟩ : Addr).add k = ⟨b, o + k, none⟩ := by
  unfold Addr.add
  split
  · next h => subst h; rfl
  · rfl
theorem choose_list {α : Type} {p : Nat → α → Prop} : ∀ (n : Nat), (∀ i, i < n → ∃ x, p i x) → ∃ l : List α, l.length = n ∧ ∀ i x, l[i]? = some x → p i x
  | 0, _ => ⟨[], rfl, by simp⟩
  | n + 1, h => by
    obtain ⟨l, hl, hp⟩ := choose_list n fun i hi => h i (by omega)
    obtain ⟨x, hx⟩ := h n (by omega)
    refine ⟨l ++ [x], by simp [hl], fun i y hy => ?_⟩
    rcases Nat.lt_or_ge i n with hi | hi
    · rw [List.getElem?_append_left (by omega)] at hy; exact hp i y hy
    · have hlt := (List.getElem?_eq_some_iff.1 hy).1
      have : i = n := by simp at hlt; omega
      subst this
      rw [List.getElem?_append_right (by omega), hl] at hy
      simp at hy
      subst hy
      exact hx
set_option maxRecDepth 100000 in
theorem open_notes {r : Reach} {v : Value} {d : DataW H} {p : List MemPlace} (hv : Value.okWide Try.prog W r base 49 v) {b' : Nat} (h : DataW.Trod enc Try.prog W b' sp held 49 v d p) : ∃ l : List Nt, RdN W v l := by
  have ht : Try.prog.underlying 49 = some (.slice 45) := Try.underlying49
  obtain ⟨a, len, cap, rfl⟩ := okWide_slice ht hv
  obtain ⟨fuel, hf⟩ := h
  rcases Go.Deep.open_slice ht hf with ⟨hc, -⟩ | ⟨a', len', cap', m, n, D, Pl, hc, hb, hl, hm, hmm, -, hx⟩
  · simp only [Value.cells, List.cons.injEq, and_true] at hc
    injection hc with h1 h2 h3
    subst h1 h2 h3
    exact ⟨[], none, 0, rfl, Nat.le_refl _, Nat.zero_le _, fun _ => rfl, fun ad h => by cases h⟩
  · simp only [Value.cells, List.cons.injEq, and_true] at hc
    injection hc with h1 h2 h3
    subst h1 h2 h3
    have hsp := okWide_spot ht hv
    obtain ⟨b, o, s⟩ := a'
    simp only at hsp
    subst hsp
    have hlm : len ≤ m := by rw [hmm]; split <;> omega
    obtain ⟨l, hll, hp⟩ := choose_list (α := Nt) (p := fun i x => W.cell? ⟨b, o + i * 4, none⟩ = some (uv x.value) ∧ W.cell? ⟨b, o + i * 4 + 1, none⟩ = some (uv x.owner) ∧ W.cell? ⟨b, o + i * 4 + 2, none⟩ = some (uv x.rho) ∧ W.cell? ⟨b, o + i * 4 + 3, none⟩ = some (uv x.blind)) len (fun i hi => by
      obtain ⟨cs', hcs, htr⟩ := hx i (by omega)
      rw [note_cells] at hcs
      obtain ⟨_, hlen, hcell⟩ := World.cells?_some hcs
      obtain ⟨x, rfl⟩ := note_of_cells hlen htr
      exact ⟨x, by simpa [add_off] using hcell 0 (by omega), by simpa [add_off] using hcell 1 (by omega), by simpa [add_off] using hcell 2 (by omega), by simpa [add_off] using hcell 3 (by omega)⟩)
    subst hll
    refine ⟨l, some ⟨b, o, none⟩, cap, rfl, hl, hm, (fun h => by cases h), fun ad ha => ?_⟩
    injection ha with ha
    subst ha
    exact ⟨rfl, hp⟩
theorem arr2_cells : Try.prog.cellsOf 57 = 2 := by kernel_rfl
set_option maxRecDepth 100000 in
theorem open_pair {r : Reach} {v : Value} {d : DataW H} {p : List MemPlace} (hv : Value.okWide Try.prog W r base 57 v) {b' : Nat} (h : DataW.Trod enc Try.prog W b' sp held 57 v d p) : ∃ a b : UInt64, v = .agg #[uv a, uv b] := by
  have ht : Try.prog.underlying 57 = some (.array 2 22) := by kernel_rfl
  have hc : Try.prog.cellsOf 22 = 1 := by kernel_rfl
  unfold Value.okWide at hv
  rw [ht] at hv
  obtain ⟨cs, rfl, hsz, -⟩ := hv
  rw [arr2_cells] at hsz
  obtain ⟨c0, c1, rfl⟩ := array2 hsz
  obtain ⟨fuel, hf⟩ := h
  obtain ⟨xs, m, -, -, -, hl, hx⟩ := DataW.trod_array ht hf
  have h0 := hx 0 (by omega)
  have h1 := hx 1 (by omega)
  rw [hc, List.getElem?_eq_getElem (by omega)] at h0 h1
  obtain ⟨a, rfl⟩ := open_u64 (v := c0) (by simpa [Value.cells] using h0)
  obtain ⟨b, rfl⟩ := open_u64 (v := c1) (by simpa [Value.cells] using h1)
  exact ⟨a, b, rfl⟩
end
end Go.Proofs.Ytdkilbnocmnekaa
