/- EnvelopeTryAny returns true: the walk. -/
import Derived.Test.YtgfmjfkdogcnhaaGreatTry
import Derived.Test.YtgfmjfkdogcnhaaGreatRefTry
import Derived.Test.YtgfmjfkdogcnhaaGreatOracles
import Derived.Test.YtgfmjfkdogcnhaaGreatAsked
import Derived.Test.YtgfmjfkdogcnhaaGreatNoteEq
set_option linter.unusedSimpArgs false
namespace Go.Proofs.YtgfmjfkdogcnhaaGreat
open Go.RowKit
attribute [local irreducible] perm fAdd fMul fPow fSub fNeg fRed hashU drawOf nextState cipSeal
theorem noteEqIn (a b : Nt) (w : World) : (Op.equalIn 10000 42 (nv a) (nv b)).run Tryz.prog w = .ok (a.same b) w := by
  unfold nv
  rw [show (10000 : Nat) = 9999 + 1 from rfl, run_equalIn_struct w 9999 42 _ _ Tryz.note_struct Tryz.note_held]
  have hf := Tryz.note_fields
  generalize (Tryz.prog.fieldsOf 42).toList = fs at hf
  obtain ⟨f0, f1, f2, f3, rfl⟩ : ∃ f0 f1 f2 f3, fs = [f0, f1, f2, f3] := by
    have hl : fs.length = 4 := by have := congrArg List.length hf; rwa [List.length_map] at this
    match fs, hl with
    | [a, b, c, d], _ => exact ⟨a, b, c, d, rfl⟩
  simp only [List.map_cons, List.map_nil, List.cons.injEq, Prod.mk.injEq, and_true, decide_eq_true_eq] at hf
  obtain ⟨⟨n0, t0, o0⟩, ⟨n1, t1, o1⟩, ⟨n2, t2, o2⟩, n3, t3, o3⟩ := hf
  have hu : Tryz.prog.underlying 22 = some (.int .u64) := Tryz.underlying22
  simp [Op.eqFields, n0, n1, n2, n3, t0, t1, t2, t3, o0, o1, o2, o3, go_sem, hu, u_beq, Nt.same]
  by_cases h0 : a.value = b.value <;> by_cases h1 : a.owner = b.owner <;> by_cases h2 : a.rho = b.rho <;> by_cases h3 : a.blind = b.blind <;> simp [h0, h1, h2, h3]
theorem Nt.same_refl (a : Nt) : a.same a = true := Nt.same_iff.2 rfl
theorem Nt.ok_all {n : Nt} (h : n.ok = true) : allE n.list = true := by
  unfold Nt.ok at h
  simp only [Bool.and_eq_true, decide_eq_true_eq] at h
  obtain ⟨⟨⟨h1, h2⟩, h3⟩, h4⟩ := h
  unfold allE Nt.list
  simp [big, UInt64.lt_iff_toNat_lt]
  refine ⟨?_, ?_, ?_, ?_⟩ <;> omega
theorem commitK_eq {M : Orc} {ideal : Bool} {qs : List Qn} (hi : M.ideal = ideal) (hq : ideal = true → M.qs = qs) (hr : ideal = false → ∀ q ∈ M.qs, q.answer = hashU q.label q.elems) : commitK M = commitP ideal qs := by
  funext n
  unfold commitK commitP
  cases hok : n.ok with
  | false => simp only [Bool.false_eq_true, if_false]
  | true =>
    simp only [if_true]
    unfold Orc.peek
    rw [Nt.ok_all hok, if_pos rfl, hi]
    cases ideal with
    | true =>
      simp only [if_true]
      rw [hq rfl]
      unfold peekI
      generalize findQ qs 2 n.list = o
      cases o <;> simp only
    | false =>
      simp only [Bool.false_eq_true, if_false]
      cases hf : findQ M.qs 2 n.list with
      | none => simp only
      | some i =>
        simp only
        unfold findQ at hf
        rw [List.findIdx?_eq_some_iff_getElem] at hf
        obtain ⟨hl, h1, -⟩ := hf
        simp only [Bool.and_eq_true, beq_iff_eq] at h1
        unfold answerAt
        rw [List.getElem?_eq_getElem hl]
        simp only [Option.map_some, Option.getD_some]
        rw [hr rfl _ (List.getElem_mem hl), h1.1, h1.2]
set_option maxRecDepth 100000 in
set_option maxHeartbeats 12800000 in
theorem EnvelopeTryAny_any {w : World} {ideal : Bool} {seed commit l0 l1 l2 : UInt64} {pt : E2} {cv : Value} {c : List UInt64} (hc : RdU w cv c) :
    Calls Tryz.prog 3 #[.agg #[uv seed, .bool ideal], .agg #[uv commit, uv pt.a, uv pt.b, cv], .agg #[uv l0, uv l1, uv l2]] w fun e w' => e = .returned (.bool true) ∧ Ext w w' := by
  obtain ⟨ca, cc, rfl, -⟩ := id hc
  obtain ⟨N, hN⟩ : ∃ N, N = w.heap.size := ⟨_, rfl⟩
  obtain ⟨w0, hw0⟩ : ∃ w0, w0 = ((w.alloc (.cells #[uv seed, .bool ideal] 24)).alloc (.cells #[uv commit, uv pt.a, uv pt.b, .slice ca c.length cc] 28)).alloc (.cells #[uv l0, uv l1, uv l2] 29) := ⟨_, rfl⟩
  have hx0 : Ext w w0 := by rw [hw0]; exact (((Ext.refl w).alloc _).alloc _).alloc _
  have hb0 : w0.heap[N]? = some (.cells #[uv seed, .bool ideal] 24 (0, 0)) := by rw [hw0, hN]; exact heap_alloc_some (heap_alloc_some (heap_new _ _))
  have hb1 : w0.heap[N + 1]? = some (.cells #[uv commit, uv pt.a, uv pt.b, .slice ca c.length cc] 28 (0, 0)) := by
    rw [hw0, hN]
    refine heap_alloc_some ?_
    have := heap_new (w.alloc (.cells #[uv seed, .bool ideal] 24)) (.cells #[uv commit, uv pt.a, uv pt.b, .slice ca c.length cc] 28)
    simpa using this
  have hb2 : w0.heap[N + 2]? = some (.cells #[uv l0, uv l1, uv l2] 29 (0, 0)) := by
    rw [hw0, hN]
    have := heap_new ((w.alloc (.cells #[uv seed, .bool ideal] 24)).alloc (.cells #[uv commit, uv pt.a, uv pt.b, .slice ca c.length cc] 28)) (.cells #[uv l0, uv l1, uv l2] 29)
    simpa using this
  have HW := hid hw0
  have HX0 := hid hx0
  have HB0 := hid hb0
  have HB1 := hid hb1
  have HB2 := hid hb2
  have HC := hid hc
  have HA := hid awake35_any
  clear hw0 hx0 hb0 hb1 hb2 hc
  go_enter Tryz.func3, Tryz.ntmps3
  go_upto_region 1 with fail
  rw [← HW.out, ← hN]
  clear hN
  go_wp2_with fail
  refine (HA.out _).mono ?_
  rintro e w1 ⟨rfl, hx⟩
  have HX1 := hid hx
  obtain ⟨c0, c1, c2, c3⟩ := four_cells (hx.heap_some HB1.out)
  clear hx
  go_wp2_with fail
  refine (small35_any commit pt.a pt.b c.length ca cc _).mono ?_
  rintro e w2 ⟨rfl, hx⟩
  have HX2 := hid (HX1.out.trans hx)
  clear hx c0 c1 c2 c3
  by_cases hs : c.length ≤ 20
  case neg =>
    rw [show decide (c.length ≤ 20) = false by simp; omega]
    clear hs
    go_wp2_with fail
    refine (HA.out _).mono ?_
    rintro e w3 ⟨rfl, hx⟩
    have HX3 := hid ((HX0.out.trans HX2.out).trans hx)
    clear hx
    go_wp2_with fail
    go_ret
    exact ⟨rfl, HX3.out⟩
  rw [show decide (c.length ≤ 20) = true by simp; omega]
  have HSM := hid hs
  obtain ⟨d0, d1⟩ := two_cells (HX2.out.heap_some HB0.out)
  clear hs HA
  go_wp2_with fail
  refine (oracles_any ideal seed _).mono ?_
  rintro e w3 ⟨b, F, rfl, hat, hx, hF⟩
  have HX3 := hid (HX2.out.trans hx)
  have HAT := hid hat
  clear hx hat hF d0 d1
  generalize stP ideal seed = st at *
  go_upto_region 4 with fail
  obtain ⟨R, hR⟩ : ∃ R, R = w3.heap.size := ⟨_, rfl⟩
  obtain ⟨w4, hw4⟩ : ∃ w4, w4 = w3.alloc (.cells #[.bool ideal, uv st, .int .i64 0, .slice none 0 0, .slice none 0 0, .slice none 0 0] 38) := ⟨_, rfl⟩
  have hx4 : Ext w3 w4 := by rw [hw4]; exact (Ext.refl w3).alloc _
  have hb4 : w4.heap[R]? = some (.cells #[.bool ideal, uv st, .int .i64 0, .slice none 0 0, .slice none 0 0, .slice none 0 0] 38 (0, 0)) := by rw [hw4, hR]; exact heap_new _ _
  rw [← hw4, ← hR]
  have HX4 := hid (HX3.out.trans hx4)
  have HB4 := hid hb4
  have HAT4 := hid (HAT.out.ext hx4)
  clear hw4 hx4 hb4 hR
  -- the number
  obtain ⟨m, hm⟩ : ∃ m : Nat, m = l1.toNat % 6 := ⟨_, rfl⟩
  have hm6 : m < 6 := by omega
  have htm : ((l1.toNat : Int)).tmod 6 = (m : Int) := by rw [Int.tmod_eq_emod_of_nonneg (by omega)]; omega
  have hw1 : IntKind.i64.wrap (m : Int) = (m : Int) := by rw [IntKind.wrap_i64]; omega
  have hw2 : IntKind.i64.wrap ((m : Int) - 1) = (m : Int) - 1 := by rw [IntKind.wrap_i64]; omega
  have HM := hid (And.intro hm6 (And.intro htm (And.intro hw1 hw2)))
  clear hm hm6 htm hw1 hw2
  obtain ⟨res, hres⟩ : ∃ res, res = tryR l0 ((m : Int) - 1) commit l2 (openP ideal [] (kView l0 ((m : Int) - 1)) pt c) (commitP ideal []) := ⟨_, rfl⟩
  have hfr : (Orc.fresh ideal st).ideal = ideal ∧ (Orc.fresh ideal st).seals = [] ∧ (Orc.fresh ideal st).qs = [] := ⟨rfl, rfl, rfl⟩
  have HO1 : Hid (Calls Tryz.prog 8 #[.pointer (some ⟨b, 0, none⟩), uv l0, .int .i64 ((m : Int) - 1), .agg #[uv commit, uv pt.a, uv pt.b, .slice ca c.length cc], uv l2] w4 fun e w' => e = .returned (nb res) ∧ Ext w4 w') := hid (by
    have h := envTry_any (seed := l0) (commit := commit) (rho := l2) (number := (m : Int) - 1) (pt := pt) HAT4.out (HC.out.ext (HX0.out.trans HX4.out)) (by have := HSM.out; omega) (by intro s hs; rw [hfr.2.1] at hs; cases hs) (by rw [hfr.2.2]; simp)
    rw [openP_eq, hfr.1, hfr.2.1, commitK_eq (ideal := ideal) (qs := []) hfr.1 (fun _ => hfr.2.2) (fun _ q hq => by rw [hfr.2.2] at hq; cases hq), ← hres] at h
    exact h)
  have HO2 : Hid (∀ v, Ext w4 v → Calls Tryz.prog 9 #[.agg #[.bool ideal, uv st, .int .i64 0, .slice none 0 0, .slice none 0 0, .slice none 0 0], uv l0, .int .i64 ((m : Int) - 1), .agg #[uv commit, uv pt.a, uv pt.b, .slice ca c.length cc], uv l2] v fun e w' => e = .returned (nb res) ∧ Ext v w') := hid fun v k => by
    have h := rTry_any (w := v) (ideal := ideal) (st := st) (nn := 0) (qv := .slice none 0 0) (sv := .slice none 0 0) (pv := .slice none 0 0) (qs := []) (ss := []) (seed := l0) (commit := commit) (rho := l2) (number := (m : Int) - 1) (pt := pt) ⟨_, _, _, rfl⟩ (RdQc.nil v) (RdSc.nil v) (HC.out.ext ((HX0.out.trans HX4.out).trans k)) (by have := HSM.out; omega) (by simp) (by intro s hs; cases hs) (by intro s hs; cases hs) (by simp)
    rw [← hres] at h
    exact h
  clear hres hfr
  obtain ⟨rn, rk⟩ := res
  unfold nb nv at HO1 HO2
  simp only at HO1 HO2
  obtain ⟨c0, c1, c2, c3⟩ := four_cells (HX4.out.heap_some HB1.out)
  obtain ⟨e0, e1, e2⟩ : w4.cell? ⟨N + 2, 0, none⟩ = some (uv l0) ∧ w4.cell? ⟨N + 2, 1, none⟩ = some (uv l1) ∧ w4.cell? ⟨N + 2, 2, none⟩ = some (uv l2) := by
    have := HX4.out.heap_some HB2.out
    exact ⟨cell_of this 0, cell_of this 1, cell_of this 2⟩
  obtain ⟨hm6, htm, hw1, hw2⟩ := HM.out
  go_wp2_with fail
  refine (HO1.out).mono ?_
  rintro e w5 ⟨rfl, hx⟩
  have HX5 := hid hx
  clear hx c0 c1 c2 c3 e0 e1 e2 HO1
  go_upto_region 7 with fail
  obtain ⟨P, hP⟩ : ∃ P, P = w5.heap.size := ⟨_, rfl⟩
  obtain ⟨w6, hw6⟩ : ∃ w6, w6 = w5.alloc (.cells #[uv rn.value, uv rn.owner, uv rn.rho, uv rn.blind] 42) := ⟨_, rfl⟩
  have hx6 : Ext w5 w6 := by rw [hw6]; exact (Ext.refl w5).alloc _
  have hb6 : w6.heap[P]? = some (.cells #[uv rn.value, uv rn.owner, uv rn.rho, uv rn.blind] 42 (0, 0)) := by rw [hw6, hP]; exact heap_new _ _
  rw [← hw6, ← hP]
  have HX6 := hid (HX5.out.trans hx6)
  have HB6 := hid hb6
  clear hw6 hx6 hb6 hP
  obtain ⟨c0, c1, c2, c3⟩ := four_cells ((HX4.out.trans HX6.out).heap_some HB1.out)
  obtain ⟨d0, d1, d2, d3, d4, d5⟩ := six_cellsP (HX6.out.heap_some HB4.out)
  obtain ⟨e0, e1, e2⟩ : w6.cell? ⟨N + 2, 0, none⟩ = some (uv l0) ∧ w6.cell? ⟨N + 2, 1, none⟩ = some (uv l1) ∧ w6.cell? ⟨N + 2, 2, none⟩ = some (uv l2) := by
    have := (HX4.out.trans HX6.out).heap_some HB2.out
    exact ⟨cell_of this 0, cell_of this 1, cell_of this 2⟩
  go_wp2_with fail
  refine (HO2.out _ HX6.out).mono ?_
  rintro e w7 ⟨rfl, hx⟩
  have HX7 := hid (HX6.out.trans hx)
  have HB7 := hid (hx.heap_some HB6.out)
  clear hx c0 c1 c2 c3 d0 d1 d2 d3 d4 d5 e0 e1 e2 HO2 hm6 htm hw1 hw2
  go_upto_region 8 with fail
  obtain ⟨T, hT⟩ : ∃ T, T = w7.heap.size := ⟨_, rfl⟩
  obtain ⟨w8, hw8⟩ : ∃ w8, w8 = w7.alloc (.cells #[uv rn.value, uv rn.owner, uv rn.rho, uv rn.blind] 42) := ⟨_, rfl⟩
  have hx8 : Ext w7 w8 := by rw [hw8]; exact (Ext.refl w7).alloc _
  have hb8 : w8.heap[T]? = some (.cells #[uv rn.value, uv rn.owner, uv rn.rho, uv rn.blind] 42 (0, 0)) := by rw [hw8, hT]; exact heap_new _ _
  rw [← hw8, ← hT]
  have HX8 := hid (HX7.out.trans hx8)
  obtain ⟨p0, p1, p2, p3⟩ := four_cells (hx8.heap_some HB7.out)
  obtain ⟨q0, q1, q2, q3⟩ := four_cells hb8
  obtain ⟨d0, d1, d2, d3, d4, d5⟩ := six_cellsP (HX8.out.heap_some HB4.out)
  have HEQ : (Op.equalIn 10000 42 (.agg #[uv rn.value, uv rn.owner, uv rn.rho, uv rn.blind]) (.agg #[uv rn.value, uv rn.owner, uv rn.rho, uv rn.blind])).run Tryz.prog w8 = .ok true w8 := by
    have h := noteEqIn rn rn w8
    rw [Nt.same_refl] at h
    exact h
  have hk : (rk == rk) = true := by simp
  have HASK := hid (asked_any (ideal := ideal) (st := st) (qa := none) (qc := 0) (sa := none) (sn := 0) (sc := 0) (pa := none) (pn := 0) (pc := 0) (HAT4.out.ext HX8.out) (by simp [Orc.fresh]) (by intro q hq; simp [Orc.fresh] at hq))
  rw [show (Orc.fresh ideal st).qs.length = 0 from rfl, show (((Orc.fresh ideal st).draws : Nat) : Int) = 0 from rfl] at HASK
  clear hw8 hx8 hb8 hT
  go_wp2_with fail
  refine (HASK.out).mono ?_
  rintro e w9 ⟨rfl, hx⟩
  have HX9 := hid ((HX0.out.trans (HX4.out.trans HX8.out)).trans hx)
  clear hx p0 p1 p2 p3 q0 q1 q2 q3 d0 d1 d2 d3 d4 d5 HEQ
  go_wp2_with fail
  go_ret
  exact ⟨rfl, HX9.out⟩
end Go.Proofs.YtgfmjfkdogcnhaaGreat
