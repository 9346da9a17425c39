/- The law's asked: as many draws and questions. -/
import Derived.Test.YtgfmjfkdogcnhaaGreatSealRel
set_option linter.unusedSimpArgs false
namespace Go.Proofs.YtgfmjfkdogcnhaaGreat
open Go.RowKit
attribute [local irreducible] perm fAdd fMul fPow fSub fNeg fRed hashU drawOf nextState cipSeal
theorem OrcAt.draws35 {w : World} {b : Nat} {M : Orc} {F : Nat → Prop} (h : OrcAt w b M F) : Calls Tryz.prog 35 #[.pointer (some ⟨b, 0, none⟩)] w (fun e w' => e = .returned (.int .i64 (M.draws : Int)) ∧ w' = w) := by
  obtain ⟨qv, mk, ms, mp, Q, S, hin⟩ := h
  exact Draws_any hin.self
set_option maxRecDepth 100000 in
set_option maxHeartbeats 3200000 in
theorem asked_any {w : World} {b : Nat} {M : Orc} {F : Nat → Prop} {ideal : Bool} {st : UInt64} {qa sa pa : Option Addr} {qc sn sc pn pc : Nat} (h : OrcAt w b M F) (hq : M.qs.length ≤ 1000000000) (hE : ∀ q ∈ M.qs, q.elems.length ≤ 1000000000000) :
    Calls Tryz.prog 10 #[.pointer (some ⟨b, 0, none⟩), .agg #[.bool ideal, uv st, .int .i64 (M.draws : Int), .slice qa M.qs.length qc, .slice sa sn sc, .slice pa pn pc]] w fun e w' => e = .returned (.bool true) ∧ Ext w w' := by
  obtain ⟨N, hN⟩ : ∃ N, N = w.heap.size := ⟨_, rfl⟩
  obtain ⟨w0, hw0⟩ : ∃ w0, w0 = w.alloc (.cells #[.bool ideal, uv st, .int .i64 (M.draws : Int), .slice qa M.qs.length qc, .slice sa sn sc, .slice pa pn pc] 38) := ⟨_, rfl⟩
  have hx0 : Ext w w0 := by rw [hw0]; exact (Ext.refl w).alloc _
  have hb0 : w0.heap[N]? = some (.cells #[.bool ideal, uv st, .int .i64 (M.draws : Int), .slice qa M.qs.length qc, .slice sa sn sc, .slice pa pn pc] 38 (0, 0)) := by rw [hw0, hN]; exact heap_new _ _
  have HC : Hid (∀ v, Ext w0 v → (v.cell? ⟨N, 0, none⟩ = some (.bool ideal) ∧ v.cell? ⟨N, 2, none⟩ = some (.int .i64 (M.draws : Int)) ∧ v.cell? ⟨N, 3, none⟩ = some (.slice qa M.qs.length qc))) := hid fun v k => by
    obtain ⟨c0, -, c2, c3, -⟩ := six_cellsP (k.heap_some hb0)
    exact ⟨c0, c2, c3⟩
  have HW := hid hw0
  have HX0 := hid hx0
  have HDR := hid ((h.ext hx0).ext (Ext.refl w0).drew).draws35
  have HQS := hid (Questions_any ((h.ext hx0).ext (Ext.refl w0).drew) hq hE)
  have hbd : ((M.draws : Int) == (M.draws : Int)) = true := by simp
  have hbq : ((M.qs.length : Int) == (M.qs.length : Int)) = true := by simp
  clear hw0 hx0 hb0 h hq hE
  go_enter Tryz.func10, Tryz.ntmps10
  go_upto_region 1 with fail
  rw [← HW.out, ← hN]
  clear hN
  cases ideal with
  | true =>
    refine wp_region_T (fun v => (v.cell? ⟨N, 0, none⟩ = some (.bool true) ∧ v.cell? ⟨N, 2, none⟩ = some (.int .i64 (M.draws : Int)) ∧ v.cell? ⟨N, 3, none⟩ = some (.slice qa M.qs.length qc)) ∧ Ext w0 v) 18 [(0, true), (2, true), (3, true), (4, true), (1, false), (5, true), (6, true), (7, true), (8, true), (9, true), (10, true), (11, true), (14, true), (15, true), (16, true), (17, true), (12, false), (13, true), (18, false), (19, false), (20, false), (21, false)] (by kernel_rfl) (by kernel_rfl) (by intro c a d v w h; cases d <;> exact h) ?_
    intro ops hops
    have HS := keep0 HC.out
    iterate 4
      refine wpT_take (v := ?_) (by rw [hops, List.getElem?_toArray]; rfl) (by first | rfl | (rw [hops]; rfl)) ?_ HS ?_
      rotate_left
      · intro v h; go_simp; with_reducible rfl
      simp only [Act.put, List.getElem_toArray, List.getElem_cons_zero, List.getElem_cons_succ, List.setIfInBounds_toArray, List.set_cons_zero, List.set_cons_succ]
    refine wpT_step (by rw [hops, List.getElem?_toArray]; rfl) (by first | rfl | (rw [hops]; rfl)) ?_
    intro K hK
    go_wp2_with fail
    refine HDR.out.mono ?_
    rintro e w1 ⟨rfl, rfl⟩
    refine hK _ _ ⟨fun _ => HS, ?_⟩
    clear hK K
    iterate 11
      first
        | (refine wpT_take (v := ?_) (by rw [hops, List.getElem?_toArray]; rfl) (by first | rfl | (rw [hops]; rfl)) ?_ HS ?_
           rotate_left
           · intro v h; go_simp; with_reducible rfl
           simp only [Act.put, List.getElem_toArray, List.getElem_cons_zero, List.getElem_cons_succ, List.setIfInBounds_toArray, List.set_cons_zero, List.set_cons_succ])
        | (refine wpT_pass (by rw [hops, List.getElem?_toArray]; rfl) (by first | rfl | (rw [hops]; rfl)) HS ?_
           simp only [Act.put, List.getElem_toArray, List.getElem_cons_zero, List.getElem_cons_succ, List.setIfInBounds_toArray, List.set_cons_zero, List.set_cons_succ])
    refine wpT_step (by rw [hops, List.getElem?_toArray]; rfl) (by first | rfl | (rw [hops]; rfl)) ?_
    intro K hK
    go_wp2_with fail
    refine HQS.out.mono ?_
    rintro e w1 ⟨v, Q, rfl, hQ, hown, -, hx, -⟩
    obtain ⟨va, vc, rfl, -⟩ := ownsRow_rd hown
    have hQl : Q.length = M.qs.length := by rw [← hQ, List.length_map]
    rw [hQl]
    have HS1 := keepE HC.out HS hx
    have HX1 := hid (HX0.out.trans HS1.2)
    clear hown hx hQ hQl
    refine hK _ _ ⟨fun _ => HS1, ?_⟩
    clear hK K
    iterate 1
      refine wpT_take (v := ?_) (by rw [hops, List.getElem?_toArray]; rfl) (by first | rfl | (rw [hops]; rfl)) ?_ HS1 ?_
      rotate_left
      · intro v h; go_simp; with_reducible rfl
      simp only [Act.put, List.getElem_toArray, List.getElem_cons_zero, List.getElem_cons_succ, List.setIfInBounds_toArray, List.set_cons_zero, List.set_cons_succ]
    clear HS HS1
    refine wpT_step (by rw [hops, List.getElem?_toArray]; rfl) (by first | rfl | (rw [hops]; rfl)) ?_
    intro K hK
    go_wp2_with fail
    try (with_reducible refine ⟨fun h => absurd h (by decide), ?_⟩)
    try rw [← hops]
    refine wpT_step (by rw [hops, List.getElem?_toArray]; rfl) (by first | rfl | (rw [hops]; rfl)) ?_
    intro K hK
    go_wp2_with fail
    try (with_reducible refine ⟨fun h => absurd h (by decide), ?_⟩)
    try rw [← hops]
    refine wpT_step (by rw [hops, List.getElem?_toArray]; rfl) (by first | rfl | (rw [hops]; rfl)) ?_
    intro K hK
    go_wp2_with fail
    try (with_reducible refine ⟨fun h => absurd h (by decide), ?_⟩)
    try rw [← hops]
    refine wpT_step (by rw [hops, List.getElem?_toArray]; rfl) (by first | rfl | (rw [hops]; rfl)) ?_
    intro K hK
    go_wp2_with fail
    try (with_reducible refine ⟨fun h => absurd h (by decide), ?_⟩)
    try rw [wpT_nil]
    try clear hops ops
    go_wp2_with fail
    go_ret
    exact ⟨rfl, HX1.out⟩
  | false =>
    clear HQS
    refine wp_region_T (fun v => (v.cell? ⟨N, 0, none⟩ = some (.bool false) ∧ v.cell? ⟨N, 2, none⟩ = some (.int .i64 (M.draws : Int)) ∧ v.cell? ⟨N, 3, none⟩ = some (.slice qa M.qs.length qc)) ∧ Ext w0 v) 18 [(0, true), (2, true), (3, true), (4, true), (1, false), (5, true), (6, true), (7, true), (8, true), (9, true), (10, true), (11, true), (14, true), (15, true), (16, true), (17, true), (12, false), (13, true), (18, false), (19, false), (20, false), (21, false)] (by kernel_rfl) (by kernel_rfl) (by intro c a d v w h; cases d <;> exact h) ?_
    intro ops hops
    have HS := keep0 HC.out
    iterate 4
      refine wpT_take (v := ?_) (by rw [hops, List.getElem?_toArray]; rfl) (by first | rfl | (rw [hops]; rfl)) ?_ HS ?_
      rotate_left
      · intro v h; go_simp; with_reducible rfl
      simp only [Act.put, List.getElem_toArray, List.getElem_cons_zero, List.getElem_cons_succ, List.setIfInBounds_toArray, List.set_cons_zero, List.set_cons_succ]
    refine wpT_step (by rw [hops, List.getElem?_toArray]; rfl) (by first | rfl | (rw [hops]; rfl)) ?_
    intro K hK
    go_wp2_with fail
    refine HDR.out.mono ?_
    rintro e w1 ⟨rfl, rfl⟩
    refine hK _ _ ⟨fun _ => HS, ?_⟩
    clear hK K
    iterate 11
      first
        | (refine wpT_take (v := ?_) (by rw [hops, List.getElem?_toArray]; rfl) (by first | rfl | (rw [hops]; rfl)) ?_ HS ?_
           rotate_left
           · intro v h; go_simp; with_reducible rfl
           simp only [Act.put, List.getElem_toArray, List.getElem_cons_zero, List.getElem_cons_succ, List.setIfInBounds_toArray, List.set_cons_zero, List.set_cons_succ])
        | (refine wpT_pass (by rw [hops, List.getElem?_toArray]; rfl) (by first | rfl | (rw [hops]; rfl)) HS ?_
           simp only [Act.put, List.getElem_toArray, List.getElem_cons_zero, List.getElem_cons_succ, List.setIfInBounds_toArray, List.set_cons_zero, List.set_cons_succ])
    refine wpT_none (by rw [hops, List.getElem?_toArray]; rfl) (by first | rfl | (rw [hops]; rfl)) ⟨fun _ => HS, ?_⟩
    simp only [Act.put, List.getElem_toArray, List.getElem_cons_zero, List.getElem_cons_succ, List.setIfInBounds_toArray, List.set_cons_zero, List.set_cons_succ]
    iterate 1
      first
        | (refine wpT_take (v := ?_) (by rw [hops, List.getElem?_toArray]; rfl) (by first | rfl | (rw [hops]; rfl)) ?_ HS ?_
           rotate_left
           · intro v h; go_simp; with_reducible rfl
           simp only [Act.put, List.getElem_toArray, List.getElem_cons_zero, List.getElem_cons_succ, List.setIfInBounds_toArray, List.set_cons_zero, List.set_cons_succ])
        | (refine wpT_pass (by rw [hops, List.getElem?_toArray]; rfl) (by first | rfl | (rw [hops]; rfl)) HS ?_
           simp only [Act.put, List.getElem_toArray, List.getElem_cons_zero, List.getElem_cons_succ, List.setIfInBounds_toArray, List.set_cons_zero, List.set_cons_succ])
    clear HS
    refine wpT_none (by rw [hops, List.getElem?_toArray]; rfl) (by first | rfl | (rw [hops]; rfl)) ⟨fun h => absurd h (by decide), ?_⟩
    simp only [Act.put, List.getElem_toArray, List.getElem_cons_zero, List.getElem_cons_succ, List.setIfInBounds_toArray, List.set_cons_zero, List.set_cons_succ]
    refine wpT_step (by rw [hops, List.getElem?_toArray]; rfl) (by first | rfl | (rw [hops]; rfl)) ?_
    intro K hK
    go_wp2_with fail
    try (with_reducible refine ⟨fun h => absurd h (by decide), ?_⟩)
    try rw [← hops]
    refine wpT_step (by rw [hops, List.getElem?_toArray]; rfl) (by first | rfl | (rw [hops]; rfl)) ?_
    intro K hK
    go_wp2_with fail
    try (with_reducible refine ⟨fun h => absurd h (by decide), ?_⟩)
    try rw [← hops]
    refine wpT_step (by rw [hops, List.getElem?_toArray]; rfl) (by first | rfl | (rw [hops]; rfl)) ?_
    intro K hK
    go_wp2_with fail
    try (with_reducible refine ⟨fun h => absurd h (by decide), ?_⟩)
    try rw [wpT_nil]
    try clear hops ops
    go_wp2_with fail
    go_ret
    exact ⟨rfl, HX0.out.drew⟩
end Go.Proofs.YtgfmjfkdogcnhaaGreat
