/- EnvelopeTry: the given statement, proved. -/
import Derived.Test.YtgfmjfkdogcnhaaGreatFindAny
import Derived.Test.YtgfmjfkdogcnhaaGreatOpen35
namespace Go.Proofs.YtgfmjfkdogcnhaaGreat.envelopeTry
open Go.ChangeShapes Go.WideShapes Go.ChangeAt Go.RowKit Go.Joins
section
variable {H : Type} {enc : TypeId × Value → H} {W : World} {base : Nat} {sp : Nat → Bool} {held : Bool}
theorem trod_struct5 {P : Program} {w : World} {t : TypeId} {f0 f1 f2 f3 f4 : Field} {fuel : Nat} {cs : List Value} {x : DataW H × List MemPlace} (ht : P.underlying t = some (.struct #[f0, f1, f2, f3, f4])) (h : DataW.trod enc P w base sp held fuel t cs = some x) :
    ∃ y0 y1 y2 y3 y4 n, DataW.trod enc P w base sp held n f0.type ((cs.drop f0.offset).take (P.cellsOf f0.type)) = some y0 ∧
      DataW.trod enc P w base sp held n f1.type ((cs.drop f1.offset).take (P.cellsOf f1.type)) = some y1 ∧ DataW.trod enc P w base sp held n f2.type ((cs.drop f2.offset).take (P.cellsOf f2.type)) = some y2 ∧
      DataW.trod enc P w base sp held n f3.type ((cs.drop f3.offset).take (P.cellsOf f3.type)) = some y3 ∧ DataW.trod enc P w base sp held n f4.type ((cs.drop f4.offset).take (P.cellsOf f4.type)) = some y4 := by
  obtain ⟨xs, n, _, rfl, hl, hlen, hf⟩ := DataW.trod_struct ht h
  match xs, hlen with
  | [y0, y1, y2, y3, y4], _ => exact ⟨y0, y1, y2, y3, y4, n, by simpa using hf 0 f0 rfl, by simpa using hf 1 f1 rfl, by simpa using hf 2 f2 rfl, by simpa using hf 3 f3 rfl, by simpa using hf 4 f4 rfl⟩
theorem find_cells : Tryz.prog.cellsOf 49 = 8 := by kernel_rfl
theorem array8 {α : Type} {cs : Array α} (h : cs.size = 8) : ∃ c0 c1 c2 c3 c4 c5 c6 c7, cs = #[c0, c1, c2, c3, c4, c5, c6, c7] := by
  obtain ⟨l⟩ := cs
  match l, h with
  | [c0, c1, c2, c3, c4, c5, c6, c7], _ => exact ⟨c0, c1, c2, c3, c4, c5, c6, c7, rfl⟩
set_option maxRecDepth 100000 in
theorem open_find {r : Reach} {v : Value} {d : DataW H} {p : List MemPlace} {b0 : Nat} (hv : Value.okWide Tryz.prog W r b0 49 v) {b' : Nat} (h : DataW.Trod enc Tryz.prog W b' sp held 49 v d p) :
    ∃ (sd : UInt64) (num : Int) (nva nown nrh nbl ex : UInt64) (ask : Bool), v = .agg #[uv sd, .int .i64 num, uv nva, uv nown, uv nrh, uv nbl, uv ex, .bool ask] := by
  obtain ⟨cs, rfl, hsz⟩ := okWide_struct Tryz.underlying49 hv
  rw [find_cells] at hsz
  obtain ⟨fuel, hf⟩ := h
  obtain ⟨c0, c1, c2, c3, c4, c5, c6, c7, rfl⟩ := array8 hsz
  obtain ⟨y0, y1, y2, y3, y4, m, h0, h1, h2, h3, h4⟩ := trod_struct5 Tryz.underlying49 hf
  simp only [u64_cell1, int_cell1, note_cells4, bool_cell1] at h0 h1 h2 h3 h4
  obtain ⟨sd, rfl⟩ := open_u64 (v := c0) h0
  obtain ⟨num, rfl⟩ := open_int (v := c1) h1
  obtain ⟨nt, rfl, rfl, rfl, rfl⟩ := note_of_cells4 (c0 := c2) (c1 := c3) (c2 := c4) (c3 := c5) h2
  obtain ⟨ex, rfl⟩ := open_u64 (v := c6) h3
  obtain ⟨b, e1, hd1⟩ := DataW.trod_bool (cs := [c7]) Tryz.underlying4 h4
  simp only [List.cons.injEq, and_true] at e1
  subst e1
  exact ⟨sd, num, nt.value, nt.owner, nt.rho, nt.blind, ex, b, rfl⟩
end
set_option maxRecDepth 100000 in
theorem contract (H : Type) (enc : TypeId × Value → H) (W : World) (base : Nat) (args : Array Value) (ds gs : List (DataW H)) (before : List MemPlace)
    (hval : ∀ (j : Nat) t v, Tryz.f4.params[j]? = some t → args[j]? = some v → Value.okWide Tryz.prog W .any base t v)
    (hW : DataW.Whole enc Tryz.prog Tryz.f4.params.toList Rows.envelopeTrySpec.vars false W args.toList ds gs before) :
    Calls Tryz.prog 4 args W fun e W' => ∃ v, e = .returned v ∧ Rows.envelopeTrySpec.post enc Tryz.prog Tryz.f4 false true false false W args v W' := by
  have hW' := hW
  obtain ⟨p, q, hA0, hV, rfl, hfz, hnd⟩ := hW
  have hA : DataW.TrodAll enc Tryz.prog W 0 (fun _ => true) true Tryz.f4.params.toList args.toList ds p := hA0
  rw [Tryz.params4] at hA hval
  obtain ⟨v0, vs0, d0, ds0, p0, q0, hargs, rfl, rfl, h0, r0⟩ := trodAll_cons hA
  obtain ⟨v1, vs1, d1, ds1, p1, q1, rfl, rfl, rfl, h1, r1⟩ := trodAll_cons r0
  obtain ⟨v2, vs2, d2, ds2, p2, q2, rfl, rfl, rfl, h2, r2⟩ := trodAll_cons r1
  obtain ⟨rfl, rfl, rfl⟩ := trodAll_nil r2
  obtain rfl : args = #[v0, v1, v2] := by cases args; simp_all
  obtain ⟨rfl, rfl⟩ := trodVars_none hV
  clear hA0
  simp only [List.append_nil] at hW'
  have hlt0 : ∀ x ∈ p0, x.block < W.heap.size := fun x hx => by simpa using hW'.lt x (by simp [hx])
  have hlt1 : ∀ x ∈ p1, x.block < W.heap.size := fun x hx => by simpa using hW'.lt x (by simp [hx])
  have hlt2 : ∀ x ∈ p2, x.block < W.heap.size := fun x hx => by simpa using hW'.lt x (by simp [hx])
  have fin : ∀ (e : Ending) (W' : World), (e = .returned (.bool true) ∧ Ext W W') → ∃ v, e = .returned v ∧ Rows.envelopeTrySpec.post enc Tryz.prog Tryz.f4 false true false false W #[v0, v1, v2] v W' := by
    rintro e W' ⟨rfl, hb⟩
    refine ⟨_, rfl, _, _, _, [], p0 ++ (p1 ++ (p2)), [], hW', ?_, ?_, rfl, hb.frame _, fun h => by cases h⟩
    · exact trodAll_cons_mk (shut_bool Tryz.underlying4 _) trodAll_mk0
    · exact trodAll_cons_mk (Below.trod laidOut (by kernel_rfl) (of_decide_eq_true (by kernel_rfl)) h0 hb hlt0) (trodAll_cons_mk (Below.trod laidOut (by kernel_rfl) (of_decide_eq_true (by kernel_rfl)) h1 hb hlt1) (trodAll_mk1 (Below.trod laidOut (by kernel_rfl) (of_decide_eq_true (by kernel_rfl)) h2 hb hlt2)))
  have hv0 := hval 0 24 v0 rfl rfl
  have hv1 := hval 1 49 v1 rfl rfl
  have hv2 := hval 2 29 v2 rfl rfl
  have hv0 := hval 0 24 v0 rfl rfl
  have hv1 := hval 1 49 v1 rfl rfl
  have hv2 := hval 2 29 v2 rfl rfl
  obtain ⟨seed, ideal, hp⟩ := open_place35 hv0 h0
  obtain ⟨sd, num, nva, nown, nrh, nbl, ex, ask, ho⟩ := open_find hv1 h1
  obtain ⟨g0, g1, g2, hw⟩ := open_three hv2 h2
  rw [hp, ho, hw] at fin ⊢
  exact EnvelopeTry_any.mono fun e W' h => fin e W' h

set_option maxRecDepth 100000 in
theorem lifted (os : Os) (started : os.Started) (H : Type) (enc : TypeId × Value → H) :
    ReturnsInHanded {} Tryz.checked os 4 .any (Rows.envelopeTrySpec.pre6 enc Tryz.prog Tryz.f4 Rows.envelopeTryRow.domain false) (Rows.envelopeTrySpec.post enc Tryz.prog Tryz.f4 false true false false) := by
  refine returnsInHanded_of_change (C := Tryz.checked) own started (by kernel_rfl) Tryz.func4
    (ChangeSpec.witness6 (enc := enc) (C := Tryz.checked) false ⟨#[], #[.agg #[.int .u64 0, .bool false], .agg #[.int .u64 0, .int .i64 0, .int .u64 0, .int .u64 0, .int .u64 0, .int .u64 0, .int .u64 0, .bool false], .agg #[.int .u64 0, .int .u64 0, .int .u64 0]], []⟩ 8 (by kernel_rfl) (by kernel_rfl) (by kernel_rfl) (by kernel_rfl)) ?_
  intro W base args ds gs before hval hW _ _
  exact contract H enc W base args ds gs before hval hW

theorem proved : Rows.EnvelopeTrySaid :=
  OpenClaim.holds_of_wide 4 Tryz.f4 rfl rfl rfl rfl rfl rfl rfl ⟨rfl, rfl, rfl, rfl, rfl⟩ rfl rfl rfl rfl rfl (by kernel_rfl) Tryz.func4 (by kernel_rfl)
    (of_decide_eq_true (by kernel_rfl)) (by unfold Func.isWrapper; first | (rw [if_pos (by decide +kernel)]; kernel_rfl) | (rw [if_neg (by decide +kernel)]; exact ⟨rfl, rfl⟩))
    (fun os started H enc _ => lifted os started H enc)
end Go.Proofs.YtgfmjfkdogcnhaaGreat.envelopeTry
