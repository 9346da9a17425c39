/- awake47: a block is encoded, decoded and the same; another nonce gives another identifier. -/
import Derived.Test.YtkdnnekdldomeaaDec0
import Derived.Test.YtkdnnekdldomeaaAwkB
import Derived.Test.YtkdnnekdldomeaaBlkR
set_option linter.unusedSimpArgs false
namespace Go.Proofs.Ytkdnnekdldomeaa
open Go.RowKit
attribute [local irreducible] perm fAdd fMul fPow fSub fNeg fRed hashU
theorem awA_same : sameBlk awA awA = true := by decide +kernel
theorem nilTs (w : World) : RdTs w (.slice none 0 0) [] := ⟨[], rfl, (RdC.nil w).weak, by simp⟩
theorem awA_sm : BSm awA := ⟨by decide, by intro t ht; cases ht⟩
theorem awB_sm : BSm awB := ⟨by decide, by intro t ht; cases ht⟩
set_option maxRecDepth 100000 in
set_option maxHeartbeats 3200000 in
theorem awake_any (w : World) : Calls Try.prog 5 #[] w fun e w' => e = .returned (.bool true) ∧ Ext w w' := by
  have ENC : Hid (∀ u, Calls Try.prog 14 #[.agg #[.int .u64 0, .int .i64 1, .int .u64 5, .int .u64 1, .int .u64 0, .slice none 0 0]] u fun e u' => ∃ a c, e = .returned (.tuple #[.slice a (blkB awA).length c, .int .i64 0]) ∧ RdB' u' (.slice a (blkB awA).length c) (blkB awA) ∧ Ext u u') := hid fun u => by
    refine Calls.mono (blkEncode_any awA (.slice none 0 0) u (nilTs u) awA_sm) ?_
    rintro e u' ⟨v, rfl, hf⟩
    rw [awA_ok, if_pos rfl] at *
    obtain ⟨a, c, rfl⟩ := hf.sl
    exact ⟨a, c, rfl, hf.1.weak, hf.2.1⟩
  have DEC : Hid (∀ u v, RdB' u v (blkB awA) → Calls Try.prog 15 #[v] u fun e u' => e = .returned (.tuple #[.agg #[.int .u64 0, .int .i64 1, .int .u64 5, .int .u64 1, .int .u64 0, .slice none 0 0], .int .i64 0]) ∧ Ext u u') := hid fun u v h => blkDecode0_any v awA u h rfl awA_ok
  have SAME : Hid (∀ u, Calls Try.prog 9 #[.agg #[.int .u64 0, .int .i64 1, .int .u64 5, .int .u64 1, .int .u64 0, .slice none 0 0], .agg #[.int .u64 0, .int .i64 1, .int .u64 5, .int .u64 1, .int .u64 0, .slice none 0 0]] u fun e u' => e = .returned (.bool true) ∧ Ext u u') := hid fun u => by
    have := sameBlk_any awA awA (.slice none 0 0) (.slice none 0 0) u (nilTs u) (nilTs u) awA_sm awA_sm
    rw [awA_same] at this
    exact this
  have IDA : Hid (∀ u, Calls Try.prog 8 #[.agg #[.int .u64 0, .int .i64 1, .int .u64 5, .int .u64 1, .int .u64 0, .slice none 0 0]] u fun e u' => e = .returned (uv (blkId awA)) ∧ Ext u u') := hid fun u => blkID_any awA (.slice none 0 0) u (nilTs u) awA_sm
  have IDB : Hid (∀ u, Calls Try.prog 8 #[.agg #[.int .u64 0, .int .i64 1, .int .u64 5, .int .u64 1, .int .u64 1, .slice none 0 0]] u fun e u' => e = .returned (uv (blkId awB)) ∧ Ext u u') := hid fun u => blkID_any awB (.slice none 0 0) u (nilTs u) awB_sm
  have HNE : Hid ((((blkId awA).toNat : Int) != ((blkId awB).toNat : Int)) = true) := hid (by rw [bne_iff_ne]; exact fun h => awAB_ids (UInt64.toNat_inj.1 (by omega)))
  generalize blkId awA = ia at *
  generalize blkId awB = ib at *
  generalize blkB awA = L at *
  go_enter Try.func5, Try.ntmps5
  go_upto_region 4 with fail
  obtain ⟨w3, hw3⟩ : ∃ w3, w3 = (w.alloc (.cells #[.int .u64 0, .int .i64 1, .int .u64 5, .int .u64 1, .int .u64 0, .slice none 0 0] 25)).alloc (.cells #[.int .u64 0, .int .i64 1, .int .u64 5, .int .u64 1, .int .u64 1, .slice none 0 0] 25) := ⟨_, rfl⟩
  obtain ⟨N, hN⟩ : ∃ N, N = w.heap.size := ⟨_, rfl⟩
  have hx3 : Ext w w3 := by rw [hw3]; exact ((Ext.refl w).alloc _).alloc _
  have hb0 : w3.heap[N]? = some (.cells #[.int .u64 0, .int .i64 1, .int .u64 5, .int .u64 1, .int .u64 0, .slice none 0 0] 25 (0, 0)) := by rw [hw3, hN]; exact heap_alloc_some (heap_new _ _)
  have hb1 : w3.heap[N + 1]? = some (.cells #[.int .u64 0, .int .i64 1, .int .u64 5, .int .u64 1, .int .u64 1, .slice none 0 0] 25 (0, 0)) := by
    have h0 := heap_new (w.alloc (.cells #[.int .u64 0, .int .i64 1, .int .u64 5, .int .u64 1, .int .u64 0, .slice none 0 0] 25)) (.cells #[.int .u64 0, .int .i64 1, .int .u64 5, .int .u64 1, .int .u64 1, .slice none 0 0] 25)
    rw [show (w.alloc (.cells #[.int .u64 0, .int .i64 1, .int .u64 5, .int .u64 1, .int .u64 0, .slice none 0 0] 25)).heap.size = w.heap.size + 1 by simp] at h0
    rw [hw3, hN]; exact h0
  rw [← hw3, ← hN]
  have HB0 := hid hb0
  have HB1 := hid hb1
  have HX3 := hid hx3
  obtain ⟨c0, c1, c2, c3, c4, c5⟩ := six_cellsB hb0
  clear hw3 hN hx3 hb0 hb1
  go_wp2_with fail
  refine (ENC.out _).mono ?_
  rintro e w4 ⟨a, c, rfl, hr, hx⟩
  have HX4 := hid hx
  have HR := hid hr
  clear hr hx c0 c1 c2 c3 c4 c5 ENC
  go_wp2_with fail
  refine (DEC.out _ _ HR.out).mono ?_
  rintro e w5 ⟨rfl, hx⟩
  have HX5 := hid (HX4.out.trans hx)
  clear hx DEC HR
  go_upto_region 6 with fail
  obtain ⟨P, hP⟩ : ∃ P, P = w5.heap.size := ⟨_, rfl⟩
  obtain ⟨w6, hw6⟩ : ∃ w6, w6 = w5.alloc (.cells #[.int .u64 0, .int .i64 1, .int .u64 5, .int .u64 1, .int .u64 0, .slice none 0 0] 25) := ⟨_, rfl⟩
  have hx6 : Ext w3 w6 := by rw [hw6]; exact HX5.out.alloc _
  have hb6 : w6.heap[P]? = some (.cells #[.int .u64 0, .int .i64 1, .int .u64 5, .int .u64 1, .int .u64 0, .slice none 0 0] 25 (0, 0)) := by rw [hw6, hP]; exact heap_new _ _
  rw [← hw6, ← hP]
  have HX6 := hid (HX3.out.trans hx6)
  have HC : Hid (∀ u, Ext w6 u → (u.cell? ⟨N, 0, none⟩ = some (.int .u64 0) ∧ u.cell? ⟨N, 1, none⟩ = some (.int .i64 1) ∧ u.cell? ⟨N, 2, none⟩ = some (.int .u64 5) ∧ u.cell? ⟨N, 3, none⟩ = some (.int .u64 1) ∧ u.cell? ⟨N, 4, none⟩ = some (.int .u64 0) ∧ u.cell? ⟨N, 5, none⟩ = some (.slice none 0 0)) ∧ (u.cell? ⟨N + 1, 0, none⟩ = some (.int .u64 0) ∧ u.cell? ⟨N + 1, 1, none⟩ = some (.int .i64 1) ∧ u.cell? ⟨N + 1, 2, none⟩ = some (.int .u64 5) ∧ u.cell? ⟨N + 1, 3, none⟩ = some (.int .u64 1) ∧ u.cell? ⟨N + 1, 4, none⟩ = some (.int .u64 1) ∧ u.cell? ⟨N + 1, 5, none⟩ = some (.slice none 0 0)) ∧ (u.cell? ⟨P, 0, none⟩ = some (.int .u64 0) ∧ u.cell? ⟨P, 1, none⟩ = some (.int .i64 1) ∧ u.cell? ⟨P, 2, none⟩ = some (.int .u64 5) ∧ u.cell? ⟨P, 3, none⟩ = some (.int .u64 1) ∧ u.cell? ⟨P, 4, none⟩ = some (.int .u64 0) ∧ u.cell? ⟨P, 5, none⟩ = some (.slice none 0 0))) := hid fun u k => ⟨six_cellsB ((hx6.trans k).heap_some HB0.out), six_cellsB ((hx6.trans k).heap_some HB1.out), six_cellsB (k.heap_some hb6)⟩
  clear hw6 hP hx6 hb6 HX4 HX5 HX3 HB0 HB1
  go_wp2_with fail
  refine wp_region_T (fun u => ((u.cell? ⟨N, 0, none⟩ = some (.int .u64 0) ∧ u.cell? ⟨N, 1, none⟩ = some (.int .i64 1) ∧ u.cell? ⟨N, 2, none⟩ = some (.int .u64 5) ∧ u.cell? ⟨N, 3, none⟩ = some (.int .u64 1) ∧ u.cell? ⟨N, 4, none⟩ = some (.int .u64 0) ∧ u.cell? ⟨N, 5, none⟩ = some (.slice none 0 0)) ∧ (u.cell? ⟨N + 1, 0, none⟩ = some (.int .u64 0) ∧ u.cell? ⟨N + 1, 1, none⟩ = some (.int .i64 1) ∧ u.cell? ⟨N + 1, 2, none⟩ = some (.int .u64 5) ∧ u.cell? ⟨N + 1, 3, none⟩ = some (.int .u64 1) ∧ u.cell? ⟨N + 1, 4, none⟩ = some (.int .u64 1) ∧ u.cell? ⟨N + 1, 5, none⟩ = some (.slice none 0 0)) ∧ (u.cell? ⟨P, 0, none⟩ = some (.int .u64 0) ∧ u.cell? ⟨P, 1, none⟩ = some (.int .i64 1) ∧ u.cell? ⟨P, 2, none⟩ = some (.int .u64 5) ∧ u.cell? ⟨P, 3, none⟩ = some (.int .u64 1) ∧ u.cell? ⟨P, 4, none⟩ = some (.int .u64 0) ∧ u.cell? ⟨P, 5, none⟩ = some (.slice none 0 0))) ∧ Ext w6 u) 15 [(0, true), (1, true), (2, true), (3, true), (4, true), (5, true), (6, true), (7, true), (8, true), (9, false), (10, true), (11, true), (12, true), (14, true), (13, false), (15, false), (16, false), (17, false), (18, false)] (by kernel_rfl) (by kernel_rfl) (by intro c a d v w h; cases d <;> exact h) ?_
  intro ops hops
  have HSS := keep0 HC.out
  iterate 9
    refine wpT_take (v := ?_) (by rw [hops, List.getElem?_toArray]; rfl) (by first | rfl | (rw [hops]; rfl)) ?_ HSS ?_
    rotate_left
    · intro v h; go_simp; with_reducible rfl
    simp only [Act.put, List.getElem_toArray, List.getElem_cons_zero, List.getElem_cons_succ, List.setIfInBounds_toArray, List.set_cons_zero, List.set_cons_succ]
  refine wpT_step (by rw [hops, List.getElem?_toArray]; rfl) (by first | rfl | (rw [hops]; rfl)) ?_
  intro K hK
  go_wp2_with fail
  refine (SAME.out _).mono ?_
  rintro e w7 ⟨rfl, hx⟩
  have HSS1 := keepE HC.out HSS hx
  clear HSS hx
  refine hK _ _ ⟨fun _ => HSS1, ?_⟩
  clear hK K
  iterate 4
    refine wpT_take (v := ?_) (by rw [hops, List.getElem?_toArray]; rfl) (by first | rfl | (rw [hops]; rfl)) ?_ HSS1 ?_
    rotate_left
    · intro v h; go_simp; with_reducible rfl
    simp only [Act.put, List.getElem_toArray, List.getElem_cons_zero, List.getElem_cons_succ, List.setIfInBounds_toArray, List.set_cons_zero, List.set_cons_succ]
  refine wpT_step (by rw [hops, List.getElem?_toArray]; rfl) (by first | rfl | (rw [hops]; rfl)) ?_
  intro K hK
  go_wp2_with fail
  refine (IDA.out _).mono ?_
  rintro e w8 ⟨rfl, hx⟩
  have HSS2 := keepE HC.out HSS1 hx
  clear HSS1 hx
  refine hK _ _ ⟨fun _ => HSS2, ?_⟩
  clear hK K
  refine wpT_step (by rw [hops, List.getElem?_toArray]; rfl) (by first | rfl | (rw [hops]; rfl)) ?_
  intro K hK
  go_wp2_with fail
  refine (IDB.out _).mono ?_
  rintro e w9 ⟨rfl, hx⟩
  have HX9 := hid (HX6.out.trans (HSS2.2.trans hx))
  clear HSS2 hx
  refine hK _ _ ⟨fun h => absurd h (by decide), ?_⟩
  clear hK K
  refine wpT_step (by rw [hops, List.getElem?_toArray]; rfl) (by first | rfl | (rw [hops]; rfl)) ?_
  intro K hK
  go_wp2_with fail
  try (with_reducible refine ⟨fun h => absurd h (by decide), ?_⟩)
  try rw [← hops]
  refine wpT_step (by rw [hops, List.getElem?_toArray]; rfl) (by first | rfl | (rw [hops]; rfl)) ?_
  intro K hK
  go_wp2_with fail
  try (with_reducible refine ⟨fun h => absurd h (by decide), ?_⟩)
  try rw [← hops]
  refine wpT_step (by rw [hops, List.getElem?_toArray]; rfl) (by first | rfl | (rw [hops]; rfl)) ?_
  intro K hK
  go_wp2_with fail
  try (with_reducible refine ⟨fun h => absurd h (by decide), ?_⟩)
  try rw [wpT_nil]
  try clear hops ops
  go_wp2_with fail
  go_ret
  exact ⟨ret_bool HNE.out, HX9.out⟩
end Go.Proofs.Ytkdnnekdldomeaa
