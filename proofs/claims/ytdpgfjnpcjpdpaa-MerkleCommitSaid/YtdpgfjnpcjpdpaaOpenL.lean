/- Arguments of the laws opened: numbers, lists of numbers, lists of lists. Arguments of the laws opened: openings, claims. -/
import Derived.Test.YtdpgfjnpcjpdpaaTree
import Derived.Deep.Slices
import Derived.ProofKit
import Derived.Lib.SmallJoins
import Derived.Test.YtdpgfjnpcjpdpaaCommitLaw
import Derived.Deep.Strs
namespace Go.Proofs.Ytdpgfjnpcjpdpaa
open Go.ChangeShapes Go.WideShapes Go.ChangeAt Go.RowKit Go.Joins
theorem own : ownKnob Try.prog.godebug = none := by kernel_rfl
theorem laidOut : laidOutB Try.prog = true := by kernel_rfl
theorem u64_back {a : Int} (h : (Lit.int .u64 a).wf = true) : ∃ x : UInt64, a = (x.toNat : Int) := by
  simp [Lit.wf, IntKind.min, IntKind.max, IntKind.signed, IntKind.bits] at h
  exact ⟨UInt64.ofNat a.toNat, by rw [toNat_ofNat_lt (by omega)]; omega⟩
theorem add_off (b o k : Nat) : (⟨b, o, none⟩ : Addr).add k = ⟨b, o + k, none⟩ := by
  unfold Addr.add
  split
  · next h => subst h; rfl
  · rfl
theorem choose_list {α : Type} {p : Nat → α → Prop} : ∀ (n : Nat), (∀ i, i < n → ∃ x, p i x) → ∃ l : List α, l.length = n ∧ ∀ i x, l[i]? = some x → p i x
  | 0, _ => ⟨[], rfl, by simp⟩
  | n + 1, h => by
    obtain ⟨l, hl, hp⟩ := choose_list n fun i hi => h i (by omega)
    obtain ⟨x, hx⟩ := h n (by omega)
    refine ⟨l ++ [x], by simp [hl], fun i y hy => ?_⟩
    rcases Nat.lt_or_ge i n with hi | hi
    · rw [List.getElem?_append_left (by omega)] at hy; exact hp i y hy
    · have hlt := (List.getElem?_eq_some_iff.1 hy).1
      have : i = n := by simp at hlt; omega
      subst this
      rw [List.getElem?_append_right (by omega), hl] at hy
      simp at hy
      subst hy
      exact hx
theorem u64_cell1 : Try.prog.cellsOf 28 = 1 := by kernel_rfl
theorem u64s_cell1 : Try.prog.cellsOf 24 = 1 := by kernel_rfl
section
variable {H : Type} {enc : TypeId × Value → H} {W : World} {base : Nat} {sp : Nat → Bool} {held : Bool}
theorem open_u64 {n : Nat} {v : Value} {x : DataW H × List MemPlace} (h : DataW.trod enc Try.prog W base sp held n 28 [v] = some x) : ∃ a : UInt64, v = uv a := by
  obtain ⟨a, e0, hd0, wa⟩ := DataW.trod_int Try.underlying28 h
  simp only [List.cons.injEq, and_true] at e0
  subst e0
  obtain ⟨a, rfl⟩ := u64_back wa
  exact ⟨a, rfl⟩
theorem open_int {n : Nat} {v : Value} {x : DataW H × List MemPlace} (h : DataW.trod enc Try.prog W base sp held n 3 [v] = some x) : ∃ a : Int, v = .int .i64 a := by
  obtain ⟨a, e0, hd0, wa⟩ := DataW.trod_int Try.underlying3 h
  simp only [List.cons.injEq, and_true] at e0
  exact ⟨a, e0⟩
set_option maxRecDepth 100000 in
theorem okWide_spot {r : Reach} {t e : TypeId} {a : Addr} {len cap : Nat} (ht : Try.prog.underlying t = some (.slice e)) (hv : Value.okWide Try.prog W r base t (.slice (some a) len cap)) : a.spot = none := by
  unfold Value.okWide at hv
  rw [ht] at hv
  simp only [Cell.okWide, ht, Cell.ok] at hv
  exact hv.2.2.2.1
set_option maxRecDepth 100000 in
theorem open_u64s {n : Nat} {v : Value} {x : DataW H × List MemPlace} (h : DataW.trod enc Try.prog W base sp held n 24 [v] = some x) : ∃ l : List UInt64, RdU' W v l := by
  have ht : Try.prog.underlying 24 = some (.slice 28) := Try.underlying24
  rcases Go.Deep.open_slice ht h with ⟨hc, -⟩ | ⟨a, len, cap, m, n', D, Pl, hc, hb, hl, hm, hmm, -, hx⟩
  · simp only [List.cons.injEq, and_true] at hc
    subst hc
    exact ⟨[], (RdC.nil W).weak⟩
  · simp only [List.cons.injEq, and_true] at hc
    subst hc
    have hlm : len ≤ m := by rw [hmm]; split <;> omega
    obtain ⟨l, hll, hp⟩ := choose_list (α := UInt64) (p := fun i x => W.cell? (a.add i) = some (uv x)) len (fun i hi => by
      obtain ⟨cs', hcs, htr⟩ := hx i (by omega)
      rw [u64_cell1, Nat.mul_one] at hcs
      obtain ⟨_, hlen, hcell⟩ := World.cells?_some hcs
      match cs', hlen with
      | [c], _ =>
        obtain ⟨y, rfl⟩ := open_u64 htr
        have h0 := hcell 0 (by omega)
        rw [show (a.add i).add 0 = a.add i from by simp [Addr.add]] at h0
        exact ⟨y, h0⟩)
    subst hll
    refine ⟨l, some a, cap, rfl, hl, hm, (fun h => by cases h), fun ad ha j u hu => ?_⟩
    injection ha with ha
    subst ha
    obtain ⟨y, hy, rfl⟩ : ∃ y, l[j]? = some y ∧ uv y = u := by
      rw [List.getElem?_map] at hu
      exact Option.map_eq_some_iff.1 hu
    exact hp j y hy
set_option maxRecDepth 100000 in
theorem open_nums {r : Reach} {v : Value} {d : DataW H} {p : List MemPlace} (hv : Value.okWide Try.prog W r base 24 v) {b' : Nat} (h : DataW.Trod enc Try.prog W b' sp held 24 v d p) : ∃ l : List UInt64, RdU W v l := by
  have ht : Try.prog.underlying 24 = some (.slice 28) := Try.underlying24
  obtain ⟨a, len, cap, rfl⟩ := okWide_slice ht hv
  obtain ⟨fuel, hf⟩ := h
  obtain ⟨l, hl⟩ := open_u64s (v := .slice a len cap) hf
  refine ⟨l, ?_⟩
  obtain ⟨a', c, he, h2, h3, h4, h5⟩ := hl
  injection he with e1 e2 e3
  subst e1 e2 e3
  refine ⟨a, cap, rfl, h2, h3, h4, fun ad ha => ?_⟩
  subst ha
  have hsp := okWide_spot ht hv
  refine ⟨hsp, fun i x hx => ?_⟩
  have h6 := h5 ad rfl i (uv x) (by simp [us, hx])
  rw [add_spot h6] at h6
  exact h6
set_option maxRecDepth 100000 in
theorem open_lists {r : Reach} {v : Value} {d : DataW H} {p : List MemPlace} (hv : Value.okWide Try.prog W r base 22 v) {b' : Nat} (h : DataW.Trod enc Try.prog W b' sp held 22 v d p) : ∃ l : Lv, RdL W v l := by
  have ht : Try.prog.underlying 22 = some (.slice 24) := Try.underlying22
  obtain ⟨a, len, cap, rfl⟩ := okWide_slice ht hv
  obtain ⟨fuel, hf⟩ := h
  rcases Go.Deep.open_slice ht hf with ⟨hc, -⟩ | ⟨a', len', cap', m, n, D, Pl, hc, hb, hl, hm, hmm, -, hx⟩
  · simp only [Value.cells, List.cons.injEq, and_true] at hc
    injection hc with h1 h2 h3
    subst h1 h2 h3
    exact ⟨[], [], rfl, RdC.nil W, fun i x l h => by simp at h⟩
  · simp only [Value.cells, List.cons.injEq, and_true] at hc
    injection hc with h1 h2 h3
    subst h1 h2 h3
    have hsp := okWide_spot ht hv
    obtain ⟨b, o, s⟩ := a'
    simp only at hsp
    subst hsp
    have hlm : len ≤ m := by rw [hmm]; split <;> omega
    obtain ⟨l, hll, hp⟩ := choose_list (α := List UInt64 × Value) (p := fun i x => W.cell? ⟨b, o + i, none⟩ = some x.2 ∧ RdU' W x.2 x.1) len (fun i hi => by
      obtain ⟨cs', hcs, htr⟩ := hx i (by omega)
      rw [u64s_cell1, Nat.mul_one] at hcs
      obtain ⟨_, hlen, hcell⟩ := World.cells?_some hcs
      match cs', hlen with
      | [c], _ =>
        obtain ⟨y, hy⟩ := open_u64s htr
        exact ⟨(y, c), by simpa [add_off] using hcell 0 (by omega), hy⟩)
    subst hll
    refine ⟨l.map (·.1), l.map (·.2), by simp, ⟨some ⟨b, o, none⟩, cap, by simp, by simpa using hl, hm, (fun h => by cases h), fun ad ha => ?_⟩, fun i x y hxx hyy => ?_⟩
    · injection ha with ha
      subst ha
      refine ⟨rfl, fun j u hu => ?_⟩
      rw [List.getElem?_map, Option.map_eq_some_iff] at hu
      obtain ⟨z, hz, rfl⟩ := hu
      exact (hp j z hz).1
    · rw [List.getElem?_map, Option.map_eq_some_iff] at hxx hyy
      obtain ⟨z, hz, rfl⟩ := hxx
      obtain ⟨z', hz', rfl⟩ := hyy
      rw [hz] at hz'
      cases hz'
      exact (hp i z hz).2
end
end Go.Proofs.Ytdpgfjnpcjpdpaa
namespace Go.Proofs.Ytdpgfjnpcjpdpaa
open Go.ChangeShapes Go.WideShapes Go.ChangeAt Go.RowKit Go.Joins
theorem opn_cells : Try.prog.cellsOf 53 = 3 := by kernel_rfl
theorem claim_cells : Try.prog.cellsOf 55 = 6 := by kernel_rfl
theorem int_cell1 : Try.prog.cellsOf 3 = 1 := by kernel_rfl
section
variable {H : Type} {enc : TypeId × Value → H} {W : World} {base : Nat} {sp : Nat → Bool} {held : Bool}
set_option maxRecDepth 100000 in
theorem opn_of_cells {n : Nat} {cs : List Value} {x : DataW H × List MemPlace} (h : DataW.trod enc Try.prog W base sp held n 53 cs = some x) :
    ∃ (o : Opn) (lf pv : Value), cs = [lf, uv o.salt, pv] ∧ RdU' W lf o.leaf ∧ RdU' W pv o.path := by
  obtain ⟨y0, y1, y2, m, -, hl, h0, h1, h2⟩ := Go.Deep.trod_struct3 Try.underlying53 h
  rw [opn_cells] at hl
  match cs, hl with
  | [c0, c1, c2], _ =>
    simp only [u64_cell1, u64s_cell1] at h0 h1 h2
    obtain ⟨l, hl⟩ := open_u64s (v := c0) h0
    obtain ⟨s, rfl⟩ := open_u64 (v := c1) h1
    obtain ⟨p, hp⟩ := open_u64s (v := c2) h2
    exact ⟨⟨l, s, p⟩, c0, c2, rfl, hl, hp⟩
set_option maxRecDepth 100000 in
theorem open_claim {r : Reach} {v : Value} {d : DataW H} {p : List MemPlace} {b0 : Nat} (hv : Value.okWide Try.prog W r b0 55 v) {b' : Nat} (h : DataW.Trod enc Try.prog W b' sp held 55 v d p) :
    ∃ (root : UInt64) (n i : Int) (o : Opn) (lf pv : Value), v = .agg #[uv root, .int .i64 n, .int .i64 i, lf, uv o.salt, pv] ∧ RdU' W lf o.leaf ∧ RdU' W pv o.path := by
  obtain ⟨cs, rfl, hsz⟩ := okWide_struct Try.underlying55 hv
  rw [claim_cells] at hsz
  obtain ⟨fuel, hf⟩ := h
  obtain ⟨y0, y1, y2, y3, m, -, -, h0, h1, h2, h3⟩ := trod_struct4 Try.underlying55 hf
  obtain ⟨cl⟩ := cs
  match cl, hsz with
  | [c0, c1, c2, c3, c4, c5], _ =>
    simp only [u64_cell1, int_cell1, opn_cells] at h0 h1 h2 h3
    obtain ⟨root, rfl⟩ := open_u64 (v := c0) h0
    obtain ⟨n, rfl⟩ := open_int (v := c1) h1
    obtain ⟨i, rfl⟩ := open_int (v := c2) h2
    obtain ⟨o, lf, pv, hc, hl, hp⟩ := opn_of_cells (cs := [c3, c4, c5]) h3
    simp only [List.cons.injEq, and_true] at hc
    obtain ⟨rfl, rfl, rfl⟩ := hc
    exact ⟨root, n, i, o, c3, c5, rfl, hl, hp⟩
set_option maxRecDepth 100000 in
theorem open_opening {r : Reach} {v : Value} {d : DataW H} {p : List MemPlace} {b0 : Nat} (hv : Value.okWide Try.prog W r b0 53 v) {b' : Nat} (h : DataW.Trod enc Try.prog W b' sp held 53 v d p) :
    ∃ (o : Opn) (lf pv : Value), v = .agg #[lf, uv o.salt, pv] ∧ RdU' W lf o.leaf ∧ RdU' W pv o.path := by
  obtain ⟨cs, rfl, hsz⟩ := okWide_struct Try.underlying53 hv
  rw [opn_cells] at hsz
  obtain ⟨fuel, hf⟩ := h
  obtain ⟨cl⟩ := cs
  match cl, hsz with
  | [c0, c1, c2], _ =>
    obtain ⟨o, lf, pv, hc, hl, hp⟩ := opn_of_cells (cs := [c0, c1, c2]) hf
    simp only [List.cons.injEq, and_true] at hc
    obtain ⟨rfl, rfl, rfl⟩ := hc
    exact ⟨o, c0, c2, rfl, hl, hp⟩
end
end Go.Proofs.Ytdpgfjnpcjpdpaa
