/- Texts of this claim, joined: L51Fol. -/
import Derived.Test.YtcikjcjfcanloaaGreatJr24
import Derived.Test.YtcikjcjfcanloaaGreatJr25
import Derived.Test.YtcikjcjfcanloaaGreatJr27
set_option linter.unusedSimpArgs false
namespace Go.Proofs.YtcikjcjfcanloaaGreat
open Go.RowKit
attribute [local irreducible] perm fAdd fMul fPow fSub fNeg fRed hashU drawOf nextState
set_option maxRecDepth 100000 in
set_option maxHeartbeats 25600000 in
theorem recoveryFollow_any (d : Int) (seed : UInt64) (lv : Value) (ls : List (List BlkT)) (w : World) (h : RdBL w lv ls) :
    Calls Tryz.prog 13 #[.agg #[.int .i64 d, uv seed, lv]] w fun e w' => e = .returned (.bool true) ∧ Ext w w' := by
  have HH := hid h
  have AW := hid awake51_any
  have RG : Hid (∀ u, Ext w u → Calls Tryz.prog 45 #[.agg #[.int .i64 d, uv seed, lv]] u fun e w' => e = .returned (.bool (rightW d ls)) ∧ Ext u w') := hid fun u k => right51_any d seed lv ls u (h.ext k)
  obtain ⟨oa, oc, rfl, -⟩ := h.shape
  obtain ⟨S, hS⟩ : ∃ S, S = rightW d ls := ⟨_, rfl⟩
  rw [← hS] at RG
  have HS := hid hS
  obtain ⟨N, hN⟩ : ∃ N, N = w.heap.size := ⟨_, rfl⟩
  obtain ⟨w0, hw0⟩ : ∃ w0, w0 = w.alloc (.cells #[.int .i64 d, uv seed, .slice oa ls.length oc] 83) := ⟨_, rfl⟩
  have hx0 : Ext w w0 := by rw [hw0]; exact (Ext.refl w).alloc _
  have hb0 : w0.heap[N]? = some (.cells #[.int .i64 d, uv seed, .slice oa ls.length oc] 83 (0, 0)) := by rw [hw0, hN]; exact heap_new _ _
  have HX0 := hid hx0
  have HW := hid hw0
  have HC : Hid (∀ u, Ext w0 u → (u.cell? ⟨N, 0, none⟩ = some (.int .i64 d) ∧ u.cell? ⟨N, 1, none⟩ = some (uv seed) ∧ u.cell? ⟨N, 2, none⟩ = some (.slice oa ls.length oc)) ∧ Ext w0 u) := hid fun u k => ⟨⟨cell_of (k.heap_some hb0) 0, cell_of (k.heap_some hb0) 1, cell_of (k.heap_some hb0) 2⟩, k⟩
  clear h hw0 hx0 hb0 hS
  go_enter Tryz.func13, Tryz.ntmps13
  go_upto_region 1 with fail
  rw [← HW.out, ← hN]
  clear hN HW
  go_wp2_with fail
  by_cases hL2 : ls.length < 2
  · have hLB : decide ((ls.length : Int) < 2) = true := decide_eq_true (by omega)
    have hLI : (ls.length : Int) < 2 := by omega
    refine wp_region_T (fun u => (u.cell? ⟨N, 0, none⟩ = some (.int .i64 d) ∧ u.cell? ⟨N, 1, none⟩ = some (uv seed) ∧ u.cell? ⟨N, 2, none⟩ = some (.slice oa ls.length oc)) ∧ Ext w0 u) 20 [(0, false), (1, true), (2, true), (3, true), (4, false), (5, true), (6, true), (7, true), (8, true), (9, true), (10, true), (11, true), (12, true), (13, true), (14, true), (15, true), (16, true), (17, true), (18, true), (19, true), (20, false), (21, false), (22, false)] (by kernel_rfl) (by kernel_rfl) (by intro c a d v w h; cases d <;> exact h) ?_
    intro ops hops
    have HS0 := HC.out _ (Ext.refl w0).drew
    refine wpT_step (by rw [hops, List.getElem?_toArray]; rfl) (by first | rfl | (rw [hops]; rfl)) ?_
    intro K hK
    go_wp2_with fail
    refine (AW.out _).mono ?_
    rintro e w1 ⟨rfl, hx⟩
    have HS1 := HC.out w1 (HS0.2.trans hx)
    clear hx HS0
    refine hK _ _ ⟨fun _ => HS1, ?_⟩
    clear hK K
    iterate 3
      refine wpT_take (v := ?_) (by rw [hops, List.getElem?_toArray]; rfl) (by first | rfl | (rw [hops]; rfl)) ?_ HS1 ?_
      rotate_left
      · intro v h; go_simp; with_reducible rfl
      simp only [Act.put, List.getElem_toArray, List.getElem_cons_zero, List.getElem_cons_succ, List.setIfInBounds_toArray, List.set_cons_zero, List.set_cons_succ]
    refine wpT_step (by rw [hops, List.getElem?_toArray]; rfl) (by first | rfl | (rw [hops]; rfl)) ?_
    intro K hK
    go_wp2_with fail
    refine (RG.out _ (HX0.out.trans HS1.2)).mono ?_
    rintro e w2 ⟨rfl, hx⟩
    have HS2 := HC.out w2 (HS1.2.trans hx)
    have X2 := hid HS2.2
    clear hx HS1 RG
    refine hK _ _ ⟨fun _ => HS2, ?_⟩
    clear hK K
    cases S with
    | false =>
      iterate 15
        first
          | (refine wpT_take (v := ?_) (by rw [hops, List.getElem?_toArray]; rfl) (by first | rfl | (rw [hops]; rfl)) ?_ HS2 ?_
             rotate_left
             · intro v h; go_simp; with_reducible rfl
             simp only [Act.put, List.getElem_toArray, List.getElem_cons_zero, List.getElem_cons_succ, List.setIfInBounds_toArray, List.set_cons_zero, List.set_cons_succ])
          | (refine wpT_pass (by rw [hops, List.getElem?_toArray]; rfl) (by first | rfl | (rw [hops]; rfl)) HS2 ?_
             simp only [Act.put, List.getElem_toArray, List.getElem_cons_zero, List.getElem_cons_succ, List.setIfInBounds_toArray, List.set_cons_zero, List.set_cons_succ])
      refine wpT_none (by rw [hops, List.getElem?_toArray]; rfl) (by first | rfl | (rw [hops]; rfl)) ⟨fun h => absurd h (by decide), ?_⟩
      simp only [Act.put, List.getElem_toArray, List.getElem_cons_zero, List.getElem_cons_succ, List.setIfInBounds_toArray, List.set_cons_zero, List.set_cons_succ]
      refine wpT_none (by rw [hops, List.getElem?_toArray]; rfl) (by first | rfl | (rw [hops]; rfl)) ⟨fun h => absurd h (by decide), ?_⟩
      simp only [Act.put, List.getElem_toArray, List.getElem_cons_zero, List.getElem_cons_succ, List.setIfInBounds_toArray, List.set_cons_zero, List.set_cons_succ]
      refine wpT_step (by rw [hops, List.getElem?_toArray]; rfl) (by first | rfl | (rw [hops]; rfl)) ?_
      intro K hK
      go_wp2_with fail
      try (with_reducible refine ⟨fun h => absurd h (by decide), ?_⟩)
      try rw [wpT_nil]
      try clear hops ops
      go_wp2_with fail
      refine (AW.out _).mono ?_
      rintro e w3 ⟨rfl, hx⟩
      have X3 := hid (X2.out.trans hx)
      clear hx
      go_wp2_with fail
      go_ret
      exact ⟨rfl, HX0.out.trans X3.out⟩
    | true =>
      iterate 15
        first
          | (refine wpT_take (v := ?_) (by rw [hops, List.getElem?_toArray]; rfl) (by first | rfl | (rw [hops]; rfl)) ?_ HS2 ?_
             rotate_left
             · intro v h; go_simp; with_reducible rfl
             simp only [Act.put, List.getElem_toArray, List.getElem_cons_zero, List.getElem_cons_succ, List.setIfInBounds_toArray, List.set_cons_zero, List.set_cons_succ])
          | (refine wpT_pass (by rw [hops, List.getElem?_toArray]; rfl) (by first | rfl | (rw [hops]; rfl)) HS2 ?_
             simp only [Act.put, List.getElem_toArray, List.getElem_cons_zero, List.getElem_cons_succ, List.setIfInBounds_toArray, List.set_cons_zero, List.set_cons_succ])
      refine wpT_none (by rw [hops, List.getElem?_toArray]; rfl) (by first | rfl | (rw [hops]; rfl)) ⟨fun h => absurd h (by decide), ?_⟩
      simp only [Act.put, List.getElem_toArray, List.getElem_cons_zero, List.getElem_cons_succ, List.setIfInBounds_toArray, List.set_cons_zero, List.set_cons_succ]
      refine wpT_none (by rw [hops, List.getElem?_toArray]; rfl) (by first | rfl | (rw [hops]; rfl)) ⟨fun h => absurd h (by decide), ?_⟩
      simp only [Act.put, List.getElem_toArray, List.getElem_cons_zero, List.getElem_cons_succ, List.setIfInBounds_toArray, List.set_cons_zero, List.set_cons_succ]
      refine wpT_step (by rw [hops, List.getElem?_toArray]; rfl) (by first | rfl | (rw [hops]; rfl)) ?_
      intro K hK
      go_wp2_with fail
      try (with_reducible refine ⟨fun h => absurd h (by decide), ?_⟩)
      try rw [wpT_nil]
      try clear hops ops
      go_wp2_with fail
      refine (AW.out _).mono ?_
      rintro e w3 ⟨rfl, hx⟩
      have X3 := hid (X2.out.trans hx)
      clear hx
      go_wp2_with fail
      go_ret
      exact ⟨rfl, HX0.out.trans X3.out⟩
  have hLB : decide ((ls.length : Int) < 2) = false := decide_eq_false (by omega)
  have hLI : (2 : Int) ≤ (ls.length : Int) := by omega
  have hL0 : 0 < ls.length := by omega
  have hL1 : 1 < ls.length := by omega
  have hL1I : (1 : Int) < (ls.length : Int) := by omega
  obtain ⟨l0, hl0⟩ : ∃ l, ls[0]? = some l := ⟨_, List.getElem?_eq_getElem (by omega)⟩
  obtain ⟨l1, hl1⟩ : ∃ l, ls[1]? = some l := ⟨_, List.getElem?_eq_getElem (by omega)⟩
  have HM := hid (And.intro (List.mem_of_getElem? hl0) (List.mem_of_getElem? hl1))
  obtain ⟨gg, q, fa, fc, rfl, hr0, e0⟩ := HH.out.at hl0
  obtain ⟨gg', q', ta, tc, hgg, hr1, e1⟩ := HH.out.at hl1
  obtain ⟨rfl, rfl⟩ : gg = gg' ∧ q = q' := by simpa using hgg
  have HE0 : Hid (∀ u, Ext w0 u → RdBs u u (.slice fa l0.length fc) l0) := hid fun u k => (hr0.ext (HX0.out.trans k)).old (HX0.out.trans k)
  have HE1 : Hid (∀ u, Ext w0 u → RdBs u u (.slice ta l1.length tc) l1) := hid fun u k => (hr1.ext (HX0.out.trans k)).old (HX0.out.trans k)
  have HCE : Hid (∀ u, Ext w0 u → u.cell? ⟨gg, q, none⟩ = some (.slice fa l0.length fc) ∧ u.cell? ⟨gg, q + 1, none⟩ = some (.slice ta l1.length tc)) := hid fun u k => ⟨(HX0.out.trans k).cell_some e0, (HX0.out.trans k).cell_some e1⟩
  have HC5 : Hid (∀ u, Ext w0 u → ((u.cell? ⟨gg, q, none⟩ = some (.slice fa l0.length fc) ∧ u.cell? ⟨gg, q + 1, none⟩ = some (.slice ta l1.length tc)) ∧ (u.cell? ⟨N, 0, none⟩ = some (.int .i64 d) ∧ u.cell? ⟨N, 1, none⟩ = some (uv seed) ∧ u.cell? ⟨N, 2, none⟩ = some (.slice (some ⟨gg, q, none⟩) ls.length oc))) ∧ Ext w0 u) := hid fun u k => ⟨⟨HCE.out u k, (HC.out u k).1⟩, k⟩
  clear HC HCE hl0 hl1 hr0 hr1 e0 e1 hgg hL2
  have HC := HC5
  clear HC5
  refine wp_region_T (fun u => ((u.cell? ⟨gg, q, none⟩ = some (.slice fa l0.length fc) ∧ u.cell? ⟨gg, q + 1, none⟩ = some (.slice ta l1.length tc)) ∧ (u.cell? ⟨N, 0, none⟩ = some (.int .i64 d) ∧ u.cell? ⟨N, 1, none⟩ = some (uv seed) ∧ u.cell? ⟨N, 2, none⟩ = some (.slice (some ⟨gg, q, none⟩) ls.length oc))) ∧ Ext w0 u) 20 [(0, false), (1, true), (2, true), (3, true), (4, false), (5, true), (6, true), (7, true), (8, true), (9, true), (10, true), (11, true), (12, true), (13, true), (14, true), (15, true), (16, true), (17, true), (18, true), (19, true), (20, false), (21, false), (22, false)] (by kernel_rfl) (by kernel_rfl) (by intro c a d v w h; cases d <;> exact h) ?_
  intro ops hops
  have HS0 := HC.out _ (Ext.refl w0).drew
  refine wpT_step (by rw [hops, List.getElem?_toArray]; rfl) (by first | rfl | (rw [hops]; rfl)) ?_
  intro K hK
  go_wp2_with fail
  refine (AW.out _).mono ?_
  rintro e w1 ⟨rfl, hx⟩
  have HS1 := HC.out w1 (HS0.2.trans hx)
  clear hx HS0
  refine hK _ _ ⟨fun _ => HS1, ?_⟩
  clear hK K
  iterate 3
    refine wpT_take (v := ?_) (by rw [hops, List.getElem?_toArray]; rfl) (by first | rfl | (rw [hops]; rfl)) ?_ HS1 ?_
    rotate_left
    · intro v h; go_simp; with_reducible rfl
    simp only [Act.put, List.getElem_toArray, List.getElem_cons_zero, List.getElem_cons_succ, List.setIfInBounds_toArray, List.set_cons_zero, List.set_cons_succ]
  refine wpT_step (by rw [hops, List.getElem?_toArray]; rfl) (by first | rfl | (rw [hops]; rfl)) ?_
  intro K hK
  go_wp2_with fail
  refine (RG.out _ (HX0.out.trans HS1.2)).mono ?_
  rintro e w2 ⟨rfl, hx⟩
  have HS2 := HC.out w2 (HS1.2.trans hx)
  have X2 := hid HS2.2
  clear hx HS1 RG
  refine hK _ _ ⟨fun _ => HS2, ?_⟩
  clear hK K
  cases S with
  | false =>
    iterate 15
      first
        | (refine wpT_take (v := ?_) (by rw [hops, List.getElem?_toArray]; rfl) (by first | rfl | (rw [hops]; rfl)) ?_ HS2 ?_
           rotate_left
           · intro v h; go_simp; with_reducible rfl
           simp only [Act.put, List.getElem_toArray, List.getElem_cons_zero, List.getElem_cons_succ, List.setIfInBounds_toArray, List.set_cons_zero, List.set_cons_succ])
        | (refine wpT_pass (by rw [hops, List.getElem?_toArray]; rfl) (by first | rfl | (rw [hops]; rfl)) HS2 ?_
           simp only [Act.put, List.getElem_toArray, List.getElem_cons_zero, List.getElem_cons_succ, List.setIfInBounds_toArray, List.set_cons_zero, List.set_cons_succ])
    refine wpT_none (by rw [hops, List.getElem?_toArray]; rfl) (by first | rfl | (rw [hops]; rfl)) ⟨fun h => absurd h (by decide), ?_⟩
    simp only [Act.put, List.getElem_toArray, List.getElem_cons_zero, List.getElem_cons_succ, List.setIfInBounds_toArray, List.set_cons_zero, List.set_cons_succ]
    refine wpT_none (by rw [hops, List.getElem?_toArray]; rfl) (by first | rfl | (rw [hops]; rfl)) ⟨fun h => absurd h (by decide), ?_⟩
    simp only [Act.put, List.getElem_toArray, List.getElem_cons_zero, List.getElem_cons_succ, List.setIfInBounds_toArray, List.set_cons_zero, List.set_cons_succ]
    refine wpT_step (by rw [hops, List.getElem?_toArray]; rfl) (by first | rfl | (rw [hops]; rfl)) ?_
    intro K hK
    go_wp2_with fail
    try (with_reducible refine ⟨fun h => absurd h (by decide), ?_⟩)
    try rw [wpT_nil]
    try clear hops ops
    go_wp2_with fail
    refine (AW.out _).mono ?_
    rintro e w3 ⟨rfl, hx⟩
    have X3 := hid (X2.out.trans hx)
    clear hx
    go_wp2_with fail
    go_ret
    exact ⟨rfl, HX0.out.trans X3.out⟩
  | true =>
    obtain ⟨n, rfl, h1, h6, hl6, hbs⟩ := right_facts HS.out.symm
    have HD := hid (And.intro h1 h6)
    have HB0 := hid (hbs l0 HM.out.1)
    have HB1 := hid (hbs l1 HM.out.2)
    have hlI : (ls.length : Int) ≤ 6 := by omega
    have HRL := hid (rules51_any (n : Int))
    clear h1 h6 hl6 hbs
    have ER0 : Hid (∀ u, Ext w0 u → Calls Tryz.prog 47 #[.int .i64 (n : Int), .slice fa l0.length fc] u fun e w' => e = .returned (.int .i64 (errW n l0)) ∧ Ext u w') := hid fun u k => rErr51_any n (by have := HD.out.2; omega) _ l0 u (HE0.out u k) (by have := HB0.out.1; omega) HB0.out.2
    have ER1 : Hid (∀ u, Ext w0 u → Calls Tryz.prog 47 #[.int .i64 (n : Int), .slice ta l1.length tc] u fun e w' => e = .returned (.int .i64 (errW n l1)) ∧ Ext u w') := hid fun u k => rErr51_any n (by have := HD.out.2; omega) _ l1 u (HE1.out u k) (by have := HB1.out.1; omega) HB1.out.2
    have RS : Hid (∀ u ob FO, Ext w0 u → OrcAt u ob realM FO → Calls Tryz.prog 44 #[.pointer (some ⟨ob, 0, none⟩), rlVal (rl49 (n : Int)), uv seed, .slice fa l0.length fc] u (RestP u n seed l0)) := hid fun u ob FO k ho => restore_any ho n HD.out.1 (by have := HD.out.2; omega) seed _ l0 (HE0.out u k) (by have := HB0.out.1; omega) HB0.out.2
    have hf6 : (l0.length : Int) ≤ 6 := by have := HB0.out.1; omega
    have ht6 : (l1.length : Int) ≤ 6 := by have := HB1.out.1; omega
    obtain ⟨E0, hE0⟩ : ∃ E, E = errW n l0 := ⟨_, rfl⟩
    rw [← hE0] at ER0
    iterate 15
      refine wpT_take (v := ?_) (by rw [hops, List.getElem?_toArray]; rfl) (by first | rfl | (rw [hops]; rfl)) ?_ HS2 ?_
      rotate_left
      · intro v h; go_simp; with_reducible rfl
      simp only [Act.put, List.getElem_toArray, List.getElem_cons_zero, List.getElem_cons_succ, List.setIfInBounds_toArray, List.set_cons_zero, List.set_cons_succ]
    refine wpT_step (by rw [hops, List.getElem?_toArray]; rfl) (by first | rfl | (rw [hops]; rfl)) ?_
    intro K hK
    go_wp2_with fail
    refine (ER0.out _ X2.out).mono ?_
    rintro e w4 ⟨rfl, hx⟩
    have X4 := hid (X2.out.trans hx)
    clear hx HS2 ER0
    by_cases hz : E0 = 0
    case neg =>
      have hzB : decide (E0 = 0) = false := decide_eq_false hz
      have hzB2 : (E0 == 0) = false := by rw [beq_eq_false_iff_ne]; exact hz
      have hzB3 : (E0 != 0) = true := by rw [bne_iff_ne]; exact hz
      clear hz
      refine hK _ _ ⟨fun h => absurd h (by decide), ?_⟩
      clear hK K
      refine wpT_step (by rw [hops, List.getElem?_toArray]; rfl) (by first | rfl | (rw [hops]; rfl)) ?_
      intro K hK
      go_wp2_with fail
      try (with_reducible refine ⟨fun h => absurd h (by decide), ?_⟩)
      try rw [← hops]
      refine wpT_step (by rw [hops, List.getElem?_toArray]; rfl) (by first | rfl | (rw [hops]; rfl)) ?_
      intro K hK
      go_wp2_with fail
      try (with_reducible refine ⟨fun h => absurd h (by decide), ?_⟩)
      try rw [wpT_nil]
      try clear hops ops
      go_wp2_with fail
      refine (AW.out _).mono ?_
      rintro e w5 ⟨rfl, hx⟩
      have X5 := hid (X4.out.trans hx)
      clear hx
      go_wp2_with fail
      go_ret
      exact ⟨rfl, HX0.out.trans X5.out⟩
    subst hz
    have HZ := hid hE0.symm
    clear hE0
    refine hK _ _ ⟨fun h => absurd h (by decide), ?_⟩
    clear hK K
    refine wpT_step (by rw [hops, List.getElem?_toArray]; rfl) (by first | rfl | (rw [hops]; rfl)) ?_
    intro K hK
    go_wp2_with fail
    try (with_reducible refine ⟨fun h => absurd h (by decide), ?_⟩)
    try rw [← hops]
    refine wpT_step (by rw [hops, List.getElem?_toArray]; rfl) (by first | rfl | (rw [hops]; rfl)) ?_
    intro K hK
    go_wp2_with fail
    try (with_reducible refine ⟨fun h => absurd h (by decide), ?_⟩)
    try rw [wpT_nil]
    try clear hops ops
    go_wp2_with fail
    refine wp_region_T (fun u => ((u.cell? ⟨gg, q, none⟩ = some (.slice fa l0.length fc) ∧ u.cell? ⟨gg, q + 1, none⟩ = some (.slice ta l1.length tc)) ∧ (u.cell? ⟨N, 0, none⟩ = some (.int .i64 (n : Int)) ∧ u.cell? ⟨N, 1, none⟩ = some (uv seed) ∧ u.cell? ⟨N, 2, none⟩ = some (.slice (some ⟨gg, q, none⟩) ls.length oc))) ∧ Ext w0 u) 9 [(0, true), (1, true), (2, true), (3, true), (4, true), (5, true), (6, true), (7, true), (8, true), (9, false)] (by kernel_rfl) (by kernel_rfl) (by intro c a d v w h; cases d <;> exact h) ?_
    intro ops hops
    have HS3 := HC.out _ (X4.out.trans (Ext.refl _).drew)
    iterate 9
      refine wpT_take (v := ?_) (by rw [hops, List.getElem?_toArray]; rfl) (by first | rfl | (rw [hops]; rfl)) ?_ HS3 ?_
      rotate_left
      · intro v h; go_simp; with_reducible rfl
      simp only [Act.put, List.getElem_toArray, List.getElem_cons_zero, List.getElem_cons_succ, List.setIfInBounds_toArray, List.set_cons_zero, List.set_cons_succ]
    refine wpT_step (by rw [hops, List.getElem?_toArray]; rfl) (by first | rfl | (rw [hops]; rfl)) ?_
    intro K hK
    go_wp2_with fail
    try (with_reducible refine ⟨fun h => absurd h (by decide), ?_⟩)
    try rw [wpT_nil]
    try clear hops ops
    have X4d := hid HS3.2
    clear HS3
    go_wp2_with fail
    refine wp_region_T (fun u => ((u.cell? ⟨gg, q, none⟩ = some (.slice fa l0.length fc) ∧ u.cell? ⟨gg, q + 1, none⟩ = some (.slice ta l1.length tc)) ∧ (u.cell? ⟨N, 0, none⟩ = some (.int .i64 (n : Int)) ∧ u.cell? ⟨N, 1, none⟩ = some (uv seed) ∧ u.cell? ⟨N, 2, none⟩ = some (.slice (some ⟨gg, q, none⟩) ls.length oc))) ∧ Ext w0 u) 12 [(1, true), (2, true), (4, true), (5, true), (6, true), (0, false), (3, false), (7, false), (8, true), (9, true), (10, true), (11, true), (12, false)] (by kernel_rfl) (by kernel_rfl) (by intro c a d v w h; cases d <;> exact h) ?_
    intro ops hops
    have HS0 := HC.out _ (X4d.out.trans (Ext.refl _).drew)
    iterate 5
      refine wpT_take (v := ?_) (by rw [hops, List.getElem?_toArray]; rfl) (by first | rfl | (rw [hops]; rfl)) ?_ HS0 ?_
      rotate_left
      · intro v h; go_simp; with_reducible rfl
      simp only [Act.put, List.getElem_toArray, List.getElem_cons_zero, List.getElem_cons_succ, List.setIfInBounds_toArray, List.set_cons_zero, List.set_cons_succ]
    refine wpT_step (by rw [hops, List.getElem?_toArray]; rfl) (by first | rfl | (rw [hops]; rfl)) ?_
    intro K hK
    go_wp2_with fail
    refine (Real_any _).mono ?_
    rintro e w5 ⟨ob, FO, rfl, ho, hx, -⟩
    have HO := hid ho
    have HS1 := HC.out w5 (HS0.2.trans hx)
    clear ho hx HS0
    refine hK _ _ ⟨fun _ => HS1, ?_⟩
    clear hK K
    refine wpT_step (by rw [hops, List.getElem?_toArray]; rfl) (by first | rfl | (rw [hops]; rfl)) ?_
    intro K hK
    go_wp2_with fail
    refine (HRL.out _).mono ?_
    rintro e w6 ⟨rfl, hx⟩
    have HO2 := hid (HO.out.ext hx)
    have HS2 := HC.out w6 (HS1.2.trans hx)
    clear hx HS1 HO
    refine hK _ _ ⟨fun _ => HS2, ?_⟩
    clear hK K
    refine wpT_step (by rw [hops, List.getElem?_toArray]; rfl) (by first | rfl | (rw [hops]; rfl)) ?_
    intro K hK
    go_wp2_with fail
    refine (RS.out _ ob FO HS2.2 HO2.out).mono ?_
    rintro e w7 hrp
    rcases hrp with ⟨hez, W, G, rfl, hwa, hgn, hx⟩ | ⟨hez, rfl, hx⟩
    case inr => exact absurd HZ.out hez
    have HWA := hid (And.intro hwa (fun i (hi : G i) => Nat.le_trans HS2.2.size (hgn i hi)))
    have HS3 := HC.out w7 (HS2.2.trans hx)
    clear hez hwa hgn hx HS2 RS HO2
    refine hK _ _ ⟨fun _ => HS3, ?_⟩
    clear hK K
    iterate 4
      refine wpT_take (v := ?_) (by rw [hops, List.getElem?_toArray]; rfl) (by first | rfl | (rw [hops]; rfl)) ?_ HS3 ?_
      rotate_left
      · intro v h; go_simp; with_reducible rfl
      simp only [Act.put, List.getElem_toArray, List.getElem_cons_zero, List.getElem_cons_succ, List.setIfInBounds_toArray, List.set_cons_zero, List.set_cons_succ]
    refine wpT_step (by rw [hops, List.getElem?_toArray]; rfl) (by first | rfl | (rw [hops]; rfl)) ?_
    intro K hK
    go_wp2_with fail
    try (with_reducible refine ⟨fun h => absurd h (by decide), ?_⟩)
    try rw [wpT_nil]
    try clear hops ops
    have X7 := hid HS3.2
    clear HRL
    have HOK := hid (errW_okAll.1 HZ.out)
    have HFL := hid (follow_any HWA.out.1 HOK.out _ _ (StD.of_ext (HE0.out _ (Ext.refl _)) X7.out HWA.out.2) (StD.of_ext (HE1.out _ (Ext.refl _)) X7.out HWA.out.2) HB0.out.2 HB1.out.2 (by have := HB0.out.1; omega) (by have := HB1.out.1; omega))
    go_wp2_with fail
    refine HFL.out.mono ?_
    rintro e w8 hfp
    rcases hfp with ⟨hez, rfl, G2, hwa, hk2, -⟩ | ⟨hez, rfl, G2, hwa, hk2, -⟩
    case inl =>
      have X8 := hid (X7.out.kp hk2 HWA.out.2)
      have HW8 := hid hwa
      rw [hez] at ER1
      have HOK1 := hid (errW_okAll.1 hez)
      have CM : Hid (∀ u, Ext w0 u → Calls Tryz.prog 50 #[.slice fa l0.length fc, .slice ta l1.length tc] u fun e w' => e = .returned (.int .i64 (commonW l0 l1 : Int)) ∧ Ext u w') := hid fun u k => rCommon51_any _ _ l0 l1 u (HE0.out u k) (HE1.out u k) HB0.out.2 HB1.out.2 (okAll_valid HOK.out) (okAll_valid HOK1.out) (by have := HB0.out.1; omega) (by have := HB1.out.1; omega)
      obtain ⟨hk1, hk2'⟩ := commonW_le l0 l1
      obtain ⟨k, hk⟩ : ∃ k, k = commonW l0 l1 := ⟨_, rfl⟩
      rw [← hk] at CM hk1 hk2'
      rw [← hk]
      have hk0I : (0 : Int) ≤ (k : Int) := Int.natCast_nonneg _
      have hk1I : (k : Int) ≤ (l0.length : Int) := by omega
      have hk2I : (k : Int) ≤ (l1.length : Int) := by omega
      clear hez hwa hk2 hk1 hk2' hk HFL HWA HZ
      obtain ⟨c0, c1, c2⟩ := (HC.out _ X8.out).1.2
      go_wp2_with fail
      refine (ER1.out _ X8.out).mono ?_
      rintro e w9 ⟨rfl, hx⟩
      have X9 := hid (X8.out.trans hx)
      have HW9 := hid (HW8.out.ext hx)
      clear hx ER1 c0 c1 c2 HW8
      go_wp2_with fail
      refine (CM.out _ X9.out).mono ?_
      rintro e wa ⟨rfl, hx⟩
      have XA := hid (X9.out.trans hx)
      have IS := hid (is51_any (HW9.out.ext hx) HOK1.out _ (HE1.out _ XA.out) (by have := HB1.out.1; omega) HB1.out.2)
      clear hx CM HW9
      obtain ⟨c0, c1, c2⟩ := (HC.out _ XA.out).1.2
      go_wp2_with fail
      refine (IS.out).mono ?_
      rintro e wb ⟨rfl, hx⟩
      have XB := hid (XA.out.trans hx)
      clear hx IS c0 c1 c2
      go_wp2_with fail
      go_ret
      exact ⟨rfl, HX0.out.trans XB.out⟩
    case inr =>
      have X8 := hid (X7.out.kp hk2 HWA.out.2)
      have HW8 := hid hwa
      obtain ⟨C, hC⟩ : ∃ C, C = errW n l1 := ⟨_, rfl⟩
      rw [← hC] at ER1 hez
      rw [← hC]
      have hCB : decide (C = 0) = false := decide_eq_false hez
      have hCB2 : (C == 0) = false := by rw [beq_eq_false_iff_ne]; exact hez
      have hCB3 : (C != 0) = true := by rw [bne_iff_ne]; exact hez
      clear hez hwa hk2 HFL HWA HZ hC
      obtain ⟨c0, c1, c2⟩ := (HC.out _ X8.out).1.2
      go_wp2_with fail
      refine (ER1.out _ X8.out).mono ?_
      rintro e w9 ⟨rfl, hx⟩
      have X9 := hid (X8.out.trans hx)
      have IS := hid (is51_any (HW8.out.ext hx) HOK.out _ (HE0.out _ X9.out) (by have := HB0.out.1; omega) HB0.out.2)
      clear hx ER1 c0 c1 c2 HW8
      obtain ⟨c0, c1, c2⟩ := (HC.out _ X9.out).1.2
      go_wp2_with fail
      refine (IS.out).mono ?_
      rintro e wb ⟨rfl, hx⟩
      have XB := hid (X9.out.trans hx)
      clear hx IS c0 c1 c2
      go_wp2_with fail
      go_ret
      exact ⟨rfl, HX0.out.trans XB.out⟩
end Go.Proofs.YtcikjcjfcanloaaGreat
