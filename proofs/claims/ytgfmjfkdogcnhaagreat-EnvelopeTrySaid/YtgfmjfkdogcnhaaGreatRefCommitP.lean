/- A note's commitment by the reference: moidoreref34.Commit. A note's commitment without asking, by the reference: moidoreref35.Commitment. -/
import Derived.Test.YtgfmjfkdogcnhaaGreatCommitK
import Derived.Test.YtgfmjfkdogcnhaaGreatRefHash
import Derived.Test.YtgfmjfkdogcnhaaGreatRefEnv
set_option linter.unusedSimpArgs false
namespace Go.Proofs.YtgfmjfkdogcnhaaGreat
open Go.RowKit
attribute [local irreducible] perm fAdd fMul fPow fSub fNeg fRed hashU drawOf nextState
set_option maxRecDepth 100000 in
theorem refNoteE_any (n : Nt) (w : World) : Calls Tryz.prog 16 #[nv n] w (NewL w n.list) := by
  obtain ⟨a, b, c, d⟩ := n
  unfold nv
  simp only
  go_enter Tryz.func16, Tryz.ntmps16
  go_wp2
  go_ret
  have h := (Ext.refl w).alloc (.cells #[uv a, uv b, uv c, uv d] 42)
  have := newL_of (T := 22) (cs := #[uv a, uv b, uv c, uv d]) h (l := [a, b, c, d]) rfl (by simp)
  rw [World.size_alloc] at this
  exact this

set_option maxRecDepth 100000 in
set_option maxHeartbeats 1600000 in
theorem refCommit_any (n : Nt) (w : World) : Calls Tryz.prog 17 #[nv n] w fun e w' => e = .returned (uv (if n.ok then hashU 2 n.list else 0)) ∧ Ext w w' := by
  obtain ⟨ok, hok⟩ : ∃ ok, ok = n.ok := ⟨_, rfl⟩
  have hv := refValid_any n
  have CN := hid (refNoteE_any n)
  have CH : Hid (∀ v nv', RdU v nv' n.list → Calls Tryz.prog 46 #[.int .u64 18446744069414584321, .int .u64 2, nv'] v fun e w' => e = .returned (uv (hashU 2 n.list)) ∧ Ext v w') := hid fun v nv' hr => rHash_any _ isBig 2 nv' n.list v hr (by simp [Nt.list])
  rw [← hok] at hv ⊢
  clear hok
  generalize hashU 2 n.list = k at *
  generalize hnl : n.list = nl at *
  clear hnl
  obtain ⟨a, b', c, d⟩ := n
  unfold nv at hv CN ⊢
  simp only at hv CN CH ⊢
  have HV := hid hv
  clear hv
  cases ok with
  | false =>
    simp only [Bool.false_eq_true, if_false]
    go_enter Tryz.func17, Tryz.ntmps17
    go_wp2_with fail
    refine (HV.out _).mono ?_
    rintro e w1 ⟨rfl, hx⟩
    have HX := hid (((Ext.refl w).alloc (.cells #[uv a, uv b', uv c, uv d] 42)).trans hx)
    clear hx
    go_wp2_with fail
    go_ret
    exact ⟨rfl, HX.out⟩
  | true =>
    simp only [if_true]
    go_enter Tryz.func17, Tryz.ntmps17
    go_wp2_with fail
    refine (HV.out _).mono ?_
    rintro e w1 ⟨rfl, hx⟩
    have HX := hid (((Ext.refl w).alloc (.cells #[uv a, uv b', uv c, uv d] 42)).trans hx)
    obtain ⟨c0, c1, c2, c3⟩ : w1.cell? ⟨w.heap.size, 0, none⟩ = some (uv a) ∧ w1.cell? ⟨w.heap.size, 1, none⟩ = some (uv b') ∧ w1.cell? ⟨w.heap.size, 2, none⟩ = some (uv c) ∧ w1.cell? ⟨w.heap.size, 3, none⟩ = some (uv d) := by
      have hb1 := hx.heap_some (heap_new w (.cells #[uv a, uv b', uv c, uv d] 42))
      exact ⟨cell_of hb1 0, cell_of hb1 1, cell_of hb1 2, cell_of hb1 3⟩
    clear hx
    go_wp2_with fail
    refine (CN.out _).mono ?_
    rintro e w2 ⟨lv, rfl, hr, hx, -⟩
    have HX2 := hid (HX.out.trans hx)
    have HR := hid hr
    clear hx hr c0 c1 c2 c3
    go_wp2_with fail
    refine (CH.out _ _ HR.out).mono ?_
    rintro e w3 ⟨rfl, hx⟩
    have HX3 := hid (HX2.out.trans hx)
    clear hx
    go_wp2_with fail
    go_ret
    exact ⟨rfl, HX3.out⟩
end Go.Proofs.YtgfmjfkdogcnhaaGreat
namespace Go.Proofs.YtgfmjfkdogcnhaaGreat
open Go.RowKit
attribute [local irreducible] perm fAdd fMul fPow fSub fNeg fRed hashU drawOf nextState cipSeal
def commitP (ideal : Bool) (qs : List Qn) (n : Nt) : UInt64 × Bool := if n.ok then (if ideal then peekI qs 2 n.list else (hashU 2 n.list, true)) else (0, false)
def v2 (r : UInt64 × Bool) : Value := .tuple #[uv r.1, .bool r.2]
set_option maxRecDepth 100000 in
set_option maxHeartbeats 3200000 in
theorem rCommitment_any {w : World} {ideal : Bool} {st : UInt64} {nn : Int} {qv sv pv : Value} {qs : List Qn} (n : Nt) (hs : isSl sv) (hp : isSl pv) (hq : RdQc w qv qs) (hE : ∀ q ∈ qs, q.elems.length ≤ 100000000) (hQ : qs.length ≤ 100000000) :
    Calls Tryz.prog 34 #[plVal ideal st nn qv sv pv, nv n] w fun e w' => e = .returned (v2 (commitP ideal qs n)) ∧ Ext w w' := by
  obtain ⟨sa, sn, sc, rfl⟩ := hs
  obtain ⟨pa, pn, pc, rfl⟩ := hp
  obtain ⟨qa, qc, rfl⟩ : ∃ a c, qv = .slice a qs.length c := by
    obtain ⟨Q, h1, ⟨a, c, h2, -⟩, -⟩ := hq
    exact ⟨a, c, by rw [h2, ← h1, List.length_map]⟩
  obtain ⟨N, hN⟩ : ∃ N, N = w.heap.size := ⟨_, rfl⟩
  obtain ⟨ok, hok⟩ : ∃ ok, ok = n.ok := ⟨_, rfl⟩
  have hv := refValid_any n
  have CN := hid (refNoteE_any n)
  have CC := hid (refCommit_any n)
  unfold commitP
  rw [← hok] at hv CC ⊢
  have HL := hid (show n.list.length ≤ 1000000000 by simp [Nt.list])
  have CP : Hid (∀ v lv, Ext w v → RdU v lv n.list → Calls Tryz.prog 43 #[.agg #[uv st, .int .i64 nn, .slice qa qs.length qc, .slice sa sn sc, .slice pa pn pc], .int .u64 2, lv] v fun e w' => e = .returned (.tuple #[uv (peekI qs 2 n.list).1, .bool (peekI qs 2 n.list).2]) ∧ Ext v w') := hid fun v lv k hr => rPeek_any (label := 2) (hq.ext k) hr.weak hE HL.out hQ
  clear hq hE hQ HL hok
  generalize peekI qs 2 n.list = pk at *
  generalize hashU 2 n.list = hs at *
  generalize hnl : n.list = nl at *
  clear hnl
  generalize hql : qs.length = ql at *
  clear hql
  obtain ⟨a, b', c, d⟩ := n
  obtain ⟨p0, p1⟩ := pk
  unfold nv at hv CN CC ⊢
  simp only at hv CN CC CP ⊢
  obtain ⟨w0, hw0⟩ : ∃ w0, w0 = (w.alloc (.cells #[.bool ideal, uv st, .int .i64 nn, .slice qa ql qc, .slice sa sn sc, .slice pa pn pc] 38)).alloc (.cells #[uv a, uv b', uv c, uv d] 42) := ⟨_, rfl⟩
  have hx0 : Ext w w0 := by rw [hw0]; exact ((Ext.refl w).alloc _).alloc _
  have hbp : w0.heap[N]? = some (.cells #[.bool ideal, uv st, .int .i64 nn, .slice qa ql qc, .slice sa sn sc, .slice pa pn pc] 38 (0, 0)) := by rw [hw0, hN]; exact heap_alloc_some (heap_new _ _)
  have hb0 : w0.heap[N + 1]? = some (.cells #[uv a, uv b', uv c, uv d] 42 (0, 0)) := by
    rw [hw0, hN]
    have := heap_new (w.alloc (.cells #[.bool ideal, uv st, .int .i64 nn, .slice qa ql qc, .slice sa sn sc, .slice pa pn pc] 38)) (.cells #[uv a, uv b', uv c, uv d] 42)
    simpa using this
  have HC6 : Hid (∀ v, Ext w0 v → (v.cell? ⟨N, 0, none⟩ = some (.bool ideal) ∧ v.cell? ⟨N, 1, none⟩ = some (uv st) ∧ v.cell? ⟨N, 2, none⟩ = some (.int .i64 nn) ∧ v.cell? ⟨N, 3, none⟩ = some (.slice qa ql qc) ∧ v.cell? ⟨N, 4, none⟩ = some (.slice sa sn sc) ∧ v.cell? ⟨N, 5, none⟩ = some (.slice pa pn pc)) ∧ (v.cell? ⟨N + 1, 0, none⟩ = some (uv a) ∧ v.cell? ⟨N + 1, 1, none⟩ = some (uv b') ∧ v.cell? ⟨N + 1, 2, none⟩ = some (uv c) ∧ v.cell? ⟨N + 1, 3, none⟩ = some (uv d))) := hid fun v k => ⟨six_cellsP (k.heap_some hbp), four_cells (k.heap_some hb0)⟩
  have HW := hid hw0
  have HX0 := hid hx0
  have HV := hid hv
  obtain ⟨-, c0, c1, c2, c3⟩ := HC6.out w0 (Ext.refl _)
  clear hw0 hx0 hbp hb0 hv
  go_enter Tryz.func34, Tryz.ntmps34
  go_upto_region 1 with fail
  rw [← HW.out, ← hN]
  clear hN
  go_wp2_with fail
  refine (HV.out _).mono ?_
  rintro e w1 ⟨rfl, hx⟩
  have HX1 := hid hx
  clear hx c0 c1 c2 c3
  cases ok with
  | false =>
    simp only [Bool.false_eq_true, if_false]
    go_wp2_with fail
    exact bodyPost_ret (v := .tuple #[uv 0, .bool false]) (by simp [results, Tryz.results34, go_sem]) rfl ⟨rfl, HX0.out.trans HX1.out⟩
  | true =>
    simp only [if_true] at CC ⊢
    obtain ⟨⟨d0, d1, d2, d3, d4, d5⟩, c0, c1, c2, c3⟩ := HC6.out w1 HX1.out
    cases ideal with
    | false =>
      clear CP CN
      try simp only [Bool.false_eq_true, if_false]
      go_wp2_with fail
      refine (CC.out _).mono ?_
      rintro e w2 ⟨rfl, hx⟩
      have HX2 := hid ((HX0.out.trans HX1.out).trans hx)
      clear hx c0 c1 c2 c3 d0 d1 d2 d3 d4 d5
      go_wp2_with fail
      exact bodyPost_ret (v := .tuple #[uv hs, .bool true]) (by simp [results, Tryz.results34, go_sem]) rfl ⟨rfl, HX2.out⟩
    | true =>
      clear CC
      try simp only [if_true]
      clear c0 c1 c2 c3 d1 d2 d3 d4 d5
      go_upto_region 5 with fail
      clear d0
      refine wp_region_T (fun v => ((v.cell? ⟨N, 0, none⟩ = some (.bool true) ∧ v.cell? ⟨N, 1, none⟩ = some (uv st) ∧ v.cell? ⟨N, 2, none⟩ = some (.int .i64 nn) ∧ v.cell? ⟨N, 3, none⟩ = some (.slice qa ql qc) ∧ v.cell? ⟨N, 4, none⟩ = some (.slice sa sn sc) ∧ v.cell? ⟨N, 5, none⟩ = some (.slice pa pn pc)) ∧ (v.cell? ⟨N + 1, 0, none⟩ = some (uv a) ∧ v.cell? ⟨N + 1, 1, none⟩ = some (uv b') ∧ v.cell? ⟨N + 1, 2, none⟩ = some (uv c) ∧ v.cell? ⟨N + 1, 3, none⟩ = some (uv d))) ∧ Ext w1 v) 7 [(0, true), (1, true), (2, true), (3, false), (4, false), (5, true), (6, true), (7, false), (8, false)] (by kernel_rfl) (by kernel_rfl) (by intro c a d v w h; cases d <;> exact h) ?_
      intro ops hops
      have HS := keep0 (fun v k => HC6.out v (HX1.out.trans k))
      iterate 3
        refine wpT_take (v := ?_) (by rw [hops, List.getElem?_toArray]; rfl) (by first | rfl | (rw [hops]; rfl)) ?_ HS ?_
        rotate_left
        · intro v h; go_simp; with_reducible rfl
        simp only [Act.put, List.getElem_toArray, List.getElem_cons_zero, List.getElem_cons_succ, List.setIfInBounds_toArray, List.set_cons_zero, List.set_cons_succ]
      refine wpT_step (by rw [hops, List.getElem?_toArray]; rfl) (by first | rfl | (rw [hops]; rfl)) ?_
      intro K hK
      go_wp2_with fail
      refine (CN.out _).mono ?_
      rintro e w2 ⟨lv, rfl, hr, hx, -⟩
      have HS1 := keepE (fun v k => HC6.out v (HX1.out.trans k)) HS hx
      have HR := hid hr
      clear HS hx hr
      refine hK _ _ ⟨fun _ => HS1, ?_⟩
      clear hK K
      refine wpT_step (by rw [hops, List.getElem?_toArray]; rfl) (by first | rfl | (rw [hops]; rfl)) ?_
      intro K hK
      go_wp2_with fail
      refine (CP.out _ _ (HX0.out.trans (HX1.out.trans HS1.2)) HR.out).mono ?_
      rintro e w3 ⟨rfl, hx⟩
      have HS2 := keepE (fun v k => HC6.out v (HX1.out.trans k)) HS1 hx
      have HX3 := hid ((HX0.out.trans HX1.out).trans HS2.2)
      clear HS1 hx
      refine hK _ _ ⟨fun _ => HS2, ?_⟩
      clear hK K
      iterate 2
        refine wpT_take (v := ?_) (by rw [hops, List.getElem?_toArray]; rfl) (by first | rfl | (rw [hops]; rfl)) ?_ HS2 ?_
        rotate_left
        · intro v h; go_simp; with_reducible rfl
        simp only [Act.put, List.getElem_toArray, List.getElem_cons_zero, List.getElem_cons_succ, List.setIfInBounds_toArray, List.set_cons_zero, List.set_cons_succ]
      clear HS2
      refine wpT_step (by rw [hops, List.getElem?_toArray]; rfl) (by first | rfl | (rw [hops]; rfl)) ?_
      intro K hK
      go_wp2_with fail
      try (with_reducible refine ⟨fun h => absurd h (by decide), ?_⟩)
      try rw [← hops]
      refine wpT_step (by rw [hops, List.getElem?_toArray]; rfl) (by first | rfl | (rw [hops]; rfl)) ?_
      intro K hK
      go_wp2_with fail
      try (with_reducible refine ⟨fun h => absurd h (by decide), ?_⟩)
      try rw [wpT_nil]
      try clear hops ops
      go_wp2_with fail
      exact bodyPost_ret (v := .tuple #[uv p0, .bool p1]) (by simp [results, Tryz.results34, go_sem]) rfl ⟨rfl, HX3.out⟩
end Go.Proofs.YtgfmjfkdogcnhaaGreat
