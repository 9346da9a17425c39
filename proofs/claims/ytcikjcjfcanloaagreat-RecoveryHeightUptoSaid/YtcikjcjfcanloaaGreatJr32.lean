/- Texts of this claim, joined: L51Hei. -/
import Derived.Test.YtcikjcjfcanloaaGreatJr24
import Derived.Test.YtcikjcjfcanloaaGreatJr26
set_option linter.unusedSimpArgs false
namespace Go.Proofs.YtcikjcjfcanloaaGreat
open Go.RowKit
attribute [local irreducible] perm fAdd fMul fPow fSub fNeg fRed hashU drawOf nextState
set_option maxRecDepth 100000 in
set_option maxHeartbeats 51200000 in
theorem recoveryHeight_any (d : Int) (seed : UInt64) (lv : Value) (ls : List (List BlkT)) (w : World) (h : RdBL w lv ls) (hk : ls.length ≤ 10000000 ∧ ∀ l ∈ ls, LWd l) :
    Calls Tryz.prog 15 #[.agg #[.int .i64 d, uv seed, lv]] w fun e w' => e = .returned (.bool true) ∧ Ext w w' := by
  have HH := hid h
  have AW := hid awake51_any
  have RG : Hid (∀ u, Ext w u → Calls Tryz.prog 45 #[.agg #[.int .i64 d, uv seed, lv]] u fun e w' => e = .returned (.bool (rightW d ls)) ∧ Ext u w') := hid fun u k => right51_any d seed lv ls u (h.ext k)
  have SCN : Hid (∀ u, Ext w u → Calls Tryz.prog 51 #[.agg #[.int .i64 d, uv seed, lv]] u fun e w' => ∃ v, e = .returned v ∧ FrL w u w' v (scanB (checkT (shl1 d)) ls)) := hid fun u k => rScan51_any d seed lv ls w u h k hk.1 hk.2
  obtain ⟨oa, oc, rfl, -⟩ := h.shape
  obtain ⟨S, hS⟩ : ∃ S, S = rightW d ls := ⟨_, rfl⟩
  rw [← hS] at RG
  have HS := hid hS
  obtain ⟨fs, hfs⟩ : ∃ fs, fs = scanB (checkT (shl1 d)) ls := ⟨_, rfl⟩
  rw [← hfs] at SCN
  have HFS := hid hfs
  have HFL : Hid (fs.length ≤ 10000000) := hid (by rw [hfs]; unfold scanB; exact Nat.le_trans (List.length_filter_le _ _) hk.1)
  obtain ⟨N, hN⟩ : ∃ N, N = w.heap.size := ⟨_, rfl⟩
  obtain ⟨w0, hw0⟩ : ∃ w0, w0 = w.alloc (.cells #[.int .i64 d, uv seed, .slice oa ls.length oc] 83) := ⟨_, rfl⟩
  have hx0 : Ext w w0 := by rw [hw0]; exact (Ext.refl w).alloc _
  have hb0 : w0.heap[N]? = some (.cells #[.int .i64 d, uv seed, .slice oa ls.length oc] 83 (0, 0)) := by rw [hw0, hN]; exact heap_new _ _
  have HX0 := hid hx0
  have HW := hid hw0
  have HC : Hid (∀ u, Ext w0 u → u.cell? ⟨N, 0, none⟩ = some (.int .i64 d) ∧ u.cell? ⟨N, 1, none⟩ = some (uv seed) ∧ u.cell? ⟨N, 2, none⟩ = some (.slice oa ls.length oc)) := hid fun u k => ⟨cell_of (k.heap_some hb0) 0, cell_of (k.heap_some hb0) 1, cell_of (k.heap_some hb0) 2⟩
  clear h hw0 hx0 hb0 hS hfs hk
  go_enter Tryz.func15, Tryz.ntmps15
  go_upto_region 1 with fail
  rw [← HW.out, ← hN]
  clear hN HW
  obtain ⟨c0, c1, c2⟩ := HC.out _ (Ext.refl w0)
  go_wp2_with fail
  refine (SCN.out _ HX0.out).mono ?_
  rintro e w1 ⟨v, rfl, hfr⟩
  have X01 := hid hfr.wext
  have HF := hid (hfr.rd HX0.out)
  obtain ⟨fsa, fsc, rfl⟩ := hfr.shape
  have HC1 : Hid (∀ u, Ext w1 u → (u.cell? ⟨N, 0, none⟩ = some (.int .i64 d) ∧ u.cell? ⟨N, 1, none⟩ = some (uv seed) ∧ u.cell? ⟨N, 2, none⟩ = some (.slice oa ls.length oc)) ∧ Ext w1 u) := hid fun u k => ⟨HC.out u (X01.out.trans k), k⟩
  have HXW := hid (HX0.out.trans X01.out)
  have hfI : (fs.length : Int) ≤ 10000000 := by have := HFL.out; omega
  clear hfr c0 c1 c2 SCN HC HX0 X01
  go_wp2_with fail
  by_cases hL2 : fs.length < 2
  · have hLB : decide ((fs.length : Int) < 2) = true := decide_eq_true (by omega)
    have hLI : (fs.length : Int) < 2 := by omega
    refine wp_region_T (fun u => (u.cell? ⟨N, 0, none⟩ = some (.int .i64 d) ∧ u.cell? ⟨N, 1, none⟩ = some (uv seed) ∧ u.cell? ⟨N, 2, none⟩ = some (.slice oa ls.length oc)) ∧ Ext w1 u) 21 [(0, false), (1, true), (2, true), (3, true), (4, false), (5, true), (6, true), (7, true), (8, true), (9, true), (10, true), (11, true), (12, true), (13, true), (14, true), (15, true), (16, true), (17, true), (18, true), (19, true), (20, true), (21, false), (22, false)] (by kernel_rfl) (by kernel_rfl) (by intro c a d v w h; cases d <;> exact h) ?_
    intro ops hops
    have HS0 := HC1.out _ (Ext.refl w1).drew
    refine wpT_step (by rw [hops, List.getElem?_toArray]; rfl) (by first | rfl | (rw [hops]; rfl)) ?_
    intro K hK
    go_wp2_with fail
    refine (AW.out _).mono ?_
    rintro e w2 ⟨rfl, hx⟩
    have HS1 := HC1.out w2 (HS0.2.trans hx)
    clear hx HS0
    refine hK _ _ ⟨fun _ => HS1, ?_⟩
    clear hK K
    iterate 3
      refine wpT_take (v := ?_) (by rw [hops, List.getElem?_toArray]; rfl) (by first | rfl | (rw [hops]; rfl)) ?_ HS1 ?_
      rotate_left
      · intro v h; go_simp; with_reducible rfl
      simp only [Act.put, List.getElem_toArray, List.getElem_cons_zero, List.getElem_cons_succ, List.setIfInBounds_toArray, List.set_cons_zero, List.set_cons_succ]
    refine wpT_step (by rw [hops, List.getElem?_toArray]; rfl) (by first | rfl | (rw [hops]; rfl)) ?_
    intro K hK
    go_wp2_with fail
    refine (RG.out _ (HXW.out.trans HS1.2)).mono ?_
    rintro e w3 ⟨rfl, hx⟩
    have HS2 := HC1.out w3 (HS1.2.trans hx)
    have X3 := hid HS2.2
    clear hx HS1 RG
    refine hK _ _ ⟨fun _ => HS2, ?_⟩
    clear hK K
    cases S with
    | false =>
      iterate 16
        first
          | (refine wpT_take (v := ?_) (by rw [hops, List.getElem?_toArray]; rfl) (by first | rfl | (rw [hops]; rfl)) ?_ HS2 ?_
             rotate_left
             · intro v h; go_simp; with_reducible rfl
             simp only [Act.put, List.getElem_toArray, List.getElem_cons_zero, List.getElem_cons_succ, List.setIfInBounds_toArray, List.set_cons_zero, List.set_cons_succ])
          | (refine wpT_pass (by rw [hops, List.getElem?_toArray]; rfl) (by first | rfl | (rw [hops]; rfl)) HS2 ?_
             simp only [Act.put, List.getElem_toArray, List.getElem_cons_zero, List.getElem_cons_succ, List.setIfInBounds_toArray, List.set_cons_zero, List.set_cons_succ])
      refine wpT_none (by rw [hops, List.getElem?_toArray]; rfl) (by first | rfl | (rw [hops]; rfl)) ⟨fun h => absurd h (by decide), ?_⟩
      simp only [Act.put, List.getElem_toArray, List.getElem_cons_zero, List.getElem_cons_succ, List.setIfInBounds_toArray, List.set_cons_zero, List.set_cons_succ]
      refine wpT_step (by rw [hops, List.getElem?_toArray]; rfl) (by first | rfl | (rw [hops]; rfl)) ?_
      intro K hK
      go_wp2_with fail
      try (with_reducible refine ⟨fun h => absurd h (by decide), ?_⟩)
      try rw [wpT_nil]
      try clear hops ops
      go_wp2_with fail
      refine (AW.out _).mono ?_
      rintro e w4 ⟨rfl, hx⟩
      have X4 := hid (X3.out.trans hx)
      clear hx
      go_wp2_with fail
      go_ret
      exact ⟨rfl, HXW.out.trans X4.out⟩
    | true =>
      iterate 16
        first
          | (refine wpT_take (v := ?_) (by rw [hops, List.getElem?_toArray]; rfl) (by first | rfl | (rw [hops]; rfl)) ?_ HS2 ?_
             rotate_left
             · intro v h; go_simp; with_reducible rfl
             simp only [Act.put, List.getElem_toArray, List.getElem_cons_zero, List.getElem_cons_succ, List.setIfInBounds_toArray, List.set_cons_zero, List.set_cons_succ])
          | (refine wpT_pass (by rw [hops, List.getElem?_toArray]; rfl) (by first | rfl | (rw [hops]; rfl)) HS2 ?_
             simp only [Act.put, List.getElem_toArray, List.getElem_cons_zero, List.getElem_cons_succ, List.setIfInBounds_toArray, List.set_cons_zero, List.set_cons_succ])
      refine wpT_none (by rw [hops, List.getElem?_toArray]; rfl) (by first | rfl | (rw [hops]; rfl)) ⟨fun h => absurd h (by decide), ?_⟩
      simp only [Act.put, List.getElem_toArray, List.getElem_cons_zero, List.getElem_cons_succ, List.setIfInBounds_toArray, List.set_cons_zero, List.set_cons_succ]
      refine wpT_step (by rw [hops, List.getElem?_toArray]; rfl) (by first | rfl | (rw [hops]; rfl)) ?_
      intro K hK
      go_wp2_with fail
      try (with_reducible refine ⟨fun h => absurd h (by decide), ?_⟩)
      try rw [wpT_nil]
      try clear hops ops
      go_wp2_with fail
      refine (AW.out _).mono ?_
      rintro e w4 ⟨rfl, hx⟩
      have X4 := hid (X3.out.trans hx)
      clear hx
      go_wp2_with fail
      go_ret
      exact ⟨rfl, HXW.out.trans X4.out⟩
  have hLB : decide ((fs.length : Int) < 2) = false := decide_eq_false (by omega)
  have hLI : (2 : Int) ≤ (fs.length : Int) := by omega
  have hL0 : 0 < fs.length := by omega
  have hL1 : 1 < fs.length := by omega
  have hL1I : (1 : Int) < (fs.length : Int) := by omega
  obtain ⟨l0, hl0⟩ : ∃ l, fs[0]? = some l := ⟨_, List.getElem?_eq_getElem (by omega)⟩
  obtain ⟨l1, hl1⟩ : ∃ l, fs[1]? = some l := ⟨_, List.getElem?_eq_getElem (by omega)⟩
  have HM := hid (And.intro (List.mem_of_getElem? hl0) (List.mem_of_getElem? hl1))
  obtain ⟨gg, q, fa, fc, rfl, hr0, e0⟩ := HF.out.at hl0
  obtain ⟨gg', q', ta, tc, hgg, hr1, e1⟩ := HF.out.at hl1
  obtain ⟨rfl, rfl⟩ : gg = gg' ∧ q = q' := by simpa using hgg
  have HE0 : Hid (∀ u, Ext w1 u → RdBs u u (.slice fa l0.length fc) l0) := hid fun u k => (hr0.ext k).old k
  have HE1 : Hid (∀ u, Ext w1 u → RdBs u u (.slice ta l1.length tc) l1) := hid fun u k => (hr1.ext k).old k
  have HC5 : Hid (∀ u, Ext w1 u → ((u.cell? ⟨gg, q, none⟩ = some (.slice fa l0.length fc) ∧ u.cell? ⟨gg, q + 1, none⟩ = some (.slice ta l1.length tc)) ∧ (u.cell? ⟨N, 0, none⟩ = some (.int .i64 d) ∧ u.cell? ⟨N, 1, none⟩ = some (uv seed) ∧ u.cell? ⟨N, 2, none⟩ = some (.slice oa ls.length oc))) ∧ Ext w1 u) := hid fun u k => ⟨⟨⟨k.cell_some e0, k.cell_some e1⟩, (HC1.out u k).1⟩, k⟩
  clear HC1 hl0 hl1 hr0 hr1 e0 e1 hgg hL2
  have HC := HC5
  clear HC5
  have hNN : (l0.length = l1.length) = (((l0.length : Int) = (l1.length : Int))) := by simp [Int.ofNat_inj]
  have HNN := hid hNN
  clear hNN
  refine wp_region_T (fun u => ((u.cell? ⟨gg, q, none⟩ = some (.slice fa l0.length fc) ∧ u.cell? ⟨gg, q + 1, none⟩ = some (.slice ta l1.length tc)) ∧ (u.cell? ⟨N, 0, none⟩ = some (.int .i64 d) ∧ u.cell? ⟨N, 1, none⟩ = some (uv seed) ∧ u.cell? ⟨N, 2, none⟩ = some (.slice oa ls.length oc))) ∧ Ext w1 u) 21 [(0, false), (1, true), (2, true), (3, true), (4, false), (5, true), (6, true), (7, true), (8, true), (9, true), (10, true), (11, true), (12, true), (13, true), (14, true), (15, true), (16, true), (17, true), (18, true), (19, true), (20, true), (21, false), (22, false)] (by kernel_rfl) (by kernel_rfl) (by intro c a d v w h; cases d <;> exact h) ?_
  intro ops hops
  have HS0 := HC.out _ (Ext.refl w1).drew
  refine wpT_step (by rw [hops, List.getElem?_toArray]; rfl) (by first | rfl | (rw [hops]; rfl)) ?_
  intro K hK
  go_wp2_with fail
  refine (AW.out _).mono ?_
  rintro e w2 ⟨rfl, hx⟩
  have HS1 := HC.out w2 (HS0.2.trans hx)
  clear hx HS0
  refine hK _ _ ⟨fun _ => HS1, ?_⟩
  clear hK K
  iterate 3
    refine wpT_take (v := ?_) (by rw [hops, List.getElem?_toArray]; rfl) (by first | rfl | (rw [hops]; rfl)) ?_ HS1 ?_
    rotate_left
    · intro v h; go_simp; with_reducible rfl
    simp only [Act.put, List.getElem_toArray, List.getElem_cons_zero, List.getElem_cons_succ, List.setIfInBounds_toArray, List.set_cons_zero, List.set_cons_succ]
  refine wpT_step (by rw [hops, List.getElem?_toArray]; rfl) (by first | rfl | (rw [hops]; rfl)) ?_
  intro K hK
  go_wp2_with fail
  refine (RG.out _ (HXW.out.trans HS1.2)).mono ?_
  rintro e w3 ⟨rfl, hx⟩
  have HS2 := HC.out w3 (HS1.2.trans hx)
  have X3 := hid HS2.2
  clear hx HS1 RG
  refine hK _ _ ⟨fun _ => HS2, ?_⟩
  clear hK K
  cases S with
  | false =>
    iterate 16
      first
        | (refine wpT_take (v := ?_) (by rw [hops, List.getElem?_toArray]; rfl) (by first | rfl | (rw [hops]; rfl)) ?_ HS2 ?_
           rotate_left
           · intro v h; go_simp; with_reducible rfl
           simp only [Act.put, List.getElem_toArray, List.getElem_cons_zero, List.getElem_cons_succ, List.setIfInBounds_toArray, List.set_cons_zero, List.set_cons_succ])
        | (refine wpT_pass (by rw [hops, List.getElem?_toArray]; rfl) (by first | rfl | (rw [hops]; rfl)) HS2 ?_
           simp only [Act.put, List.getElem_toArray, List.getElem_cons_zero, List.getElem_cons_succ, List.setIfInBounds_toArray, List.set_cons_zero, List.set_cons_succ])
    refine wpT_none (by rw [hops, List.getElem?_toArray]; rfl) (by first | rfl | (rw [hops]; rfl)) ⟨fun h => absurd h (by decide), ?_⟩
    simp only [Act.put, List.getElem_toArray, List.getElem_cons_zero, List.getElem_cons_succ, List.setIfInBounds_toArray, List.set_cons_zero, List.set_cons_succ]
    refine wpT_step (by rw [hops, List.getElem?_toArray]; rfl) (by first | rfl | (rw [hops]; rfl)) ?_
    intro K hK
    go_wp2_with fail
    try (with_reducible refine ⟨fun h => absurd h (by decide), ?_⟩)
    try rw [wpT_nil]
    try clear hops ops
    go_wp2_with fail
    refine (AW.out _).mono ?_
    rintro e w4 ⟨rfl, hx⟩
    have X4 := hid (X3.out.trans hx)
    clear hx
    go_wp2_with fail
    go_ret
    exact ⟨rfl, HXW.out.trans X4.out⟩
  | true =>
  obtain ⟨n, rfl, h1, h6, hl6, hbs⟩ := right_facts HS.out.symm
  have HD := hid (And.intro h1 h6)
  have HFS2 : Hid (∀ l ∈ fs, l ∈ ls ∧ errW n l = 0) := hid fun l hl => by
    rw [HFS.out, scanB_W (by omega)] at hl
    have := List.mem_filter.1 hl
    exact ⟨this.1, of_decide_eq_true this.2⟩
  have HZ0 := hid (HFS2.out l0 HM.out.1).2
  have HZ1 := hid (HFS2.out l1 HM.out.2).2
  have HB0 := hid (hbs l0 (HFS2.out l0 HM.out.1).1)
  have HB1 := hid (hbs l1 (HFS2.out l1 HM.out.2).1)
  have HOK0 := hid (errW_okAll.1 HZ0.out)
  have HOK1 := hid (errW_okAll.1 HZ1.out)
  have hlI : (ls.length : Int) ≤ 6 := by omega
  have HRL := hid (rules51_any (n : Int))
  have hf6 : (l0.length : Int) ≤ 6 := by have := HB0.out.1; omega
  have ht6 : (l1.length : Int) ≤ 6 := by have := HB1.out.1; omega
  clear h1 h6 hl6 hbs HFS HFS2
  have RS : Hid (∀ u ob FO, Ext w1 u → OrcAt u ob realM FO → Calls Tryz.prog 44 #[.pointer (some ⟨ob, 0, none⟩), rlVal (rl49 (n : Int)), uv seed, .slice fa l0.length fc] u (RestP u n seed l0)) := hid fun u ob FO k ho => restore_any ho n HD.out.1 (by have := HD.out.2; omega) seed _ l0 (HE0.out u k) (by have := HB0.out.1; omega) HB0.out.2
  by_cases hne : l0.length = l1.length
  · have hneB : ((l0.length : Int) == (l1.length : Int)) = true := by rw [beq_iff_eq]; omega
    have hneD : decide ((l0.length : Int) = (l1.length : Int)) = true := decide_eq_true (by omega)
    have hneE : decide (l0.length = l1.length) = true := decide_eq_true hne
    clear hne
    iterate 16
      refine wpT_take (v := ?_) (by rw [hops, List.getElem?_toArray]; rfl) (by first | rfl | (rw [hops]; rfl)) ?_ HS2 ?_
      rotate_left
      · intro v h; go_simp; with_reducible rfl
      simp only [Act.put, List.getElem_toArray, List.getElem_cons_zero, List.getElem_cons_succ, List.setIfInBounds_toArray, List.set_cons_zero, List.set_cons_succ]
    refine wpT_step (by rw [hops, List.getElem?_toArray]; rfl) (by first | rfl | (rw [hops]; rfl)) ?_
    intro K hK
    go_wp2_with fail
    try (with_reducible refine ⟨fun h => absurd h (by decide), ?_⟩)
    try rw [← hops]
    refine wpT_step (by rw [hops, List.getElem?_toArray]; rfl) (by first | rfl | (rw [hops]; rfl)) ?_
    intro K hK
    go_wp2_with fail
    try (with_reducible refine ⟨fun h => absurd h (by decide), ?_⟩)
    try rw [wpT_nil]
    try clear hops ops
    go_wp2_with fail
    refine (AW.out _).mono ?_
    rintro e w4 ⟨rfl, hx⟩
    have X4 := hid (X3.out.trans hx)
    clear hx
    go_wp2_with fail
    go_ret
    exact ⟨rfl, HXW.out.trans X4.out⟩
  have hneB : ((l0.length : Int) == (l1.length : Int)) = false := by rw [beq_eq_false_iff_ne]; omega
  have hneD : decide ((l0.length : Int) = (l1.length : Int)) = false := decide_eq_false (by omega)
  have hneE : decide (l0.length = l1.length) = false := decide_eq_false hne
  have HNE := hid hne
  clear hne
  iterate 16
    refine wpT_take (v := ?_) (by rw [hops, List.getElem?_toArray]; rfl) (by first | rfl | (rw [hops]; rfl)) ?_ HS2 ?_
    rotate_left
    · intro v h; go_simp; with_reducible rfl
    simp only [Act.put, List.getElem_toArray, List.getElem_cons_zero, List.getElem_cons_succ, List.setIfInBounds_toArray, List.set_cons_zero, List.set_cons_succ]
  refine wpT_step (by rw [hops, List.getElem?_toArray]; rfl) (by first | rfl | (rw [hops]; rfl)) ?_
  intro K hK
  go_wp2_with fail
  try (with_reducible refine ⟨fun h => absurd h (by decide), ?_⟩)
  try rw [← hops]
  refine wpT_step (by rw [hops, List.getElem?_toArray]; rfl) (by first | rfl | (rw [hops]; rfl)) ?_
  intro K hK
  go_wp2_with fail
  try (with_reducible refine ⟨fun h => absurd h (by decide), ?_⟩)
  try rw [wpT_nil]
  try clear hops ops
  clear HS2
  go_wp2_with fail
  refine wp_region_T (fun u => ((u.cell? ⟨gg, q, none⟩ = some (.slice fa l0.length fc) ∧ u.cell? ⟨gg, q + 1, none⟩ = some (.slice ta l1.length tc)) ∧ (u.cell? ⟨N, 0, none⟩ = some (.int .i64 (n : Int)) ∧ u.cell? ⟨N, 1, none⟩ = some (uv seed) ∧ u.cell? ⟨N, 2, none⟩ = some (.slice oa ls.length oc))) ∧ Ext w1 u) 14 [(1, true), (2, true), (4, true), (5, true), (6, true), (7, true), (8, true), (0, false), (3, false), (9, false), (10, true), (11, true), (12, true), (13, true), (14, false)] (by kernel_rfl) (by kernel_rfl) (by intro c a d v w h; cases d <;> exact h) ?_
  intro ops hops
  have HS0 := HC.out _ (X3.out.trans (Ext.refl _).drew)
  iterate 7
    refine wpT_take (v := ?_) (by rw [hops, List.getElem?_toArray]; rfl) (by first | rfl | (rw [hops]; rfl)) ?_ HS0 ?_
    rotate_left
    · intro v h; go_simp; with_reducible rfl
    simp only [Act.put, List.getElem_toArray, List.getElem_cons_zero, List.getElem_cons_succ, List.setIfInBounds_toArray, List.set_cons_zero, List.set_cons_succ]
  refine wpT_step (by rw [hops, List.getElem?_toArray]; rfl) (by first | rfl | (rw [hops]; rfl)) ?_
  intro K hK
  go_wp2_with fail
  refine (Real_any _).mono ?_
  rintro e y0 ⟨ob, FO, rfl, ho, hx, -⟩
  have HO := hid ho
  have HS1 := HC.out y0 (HS0.2.trans hx)
  clear ho hx HS0
  refine hK _ _ ⟨fun _ => HS1, ?_⟩
  clear hK K
  refine wpT_step (by rw [hops, List.getElem?_toArray]; rfl) (by first | rfl | (rw [hops]; rfl)) ?_
  intro K hK
  go_wp2_with fail
  refine (HRL.out _).mono ?_
  rintro e y1 ⟨rfl, hx⟩
  have HO2 := hid (HO.out.ext hx)
  have HS2 := HC.out y1 (HS1.2.trans hx)
  clear hx HS1 HO
  refine hK _ _ ⟨fun _ => HS2, ?_⟩
  clear hK K
  refine wpT_step (by rw [hops, List.getElem?_toArray]; rfl) (by first | rfl | (rw [hops]; rfl)) ?_
  intro K hK
  go_wp2_with fail
  refine (RS.out _ ob FO HS2.2 HO2.out).mono ?_
  rintro e y2 hrp
  rcases hrp with ⟨hez, W, G, rfl, hwa, hgn, hx⟩ | ⟨hez, rfl, hx⟩
  case inr => exact absurd HZ0.out hez
  have HWA := hid (And.intro hwa (fun i (hi : G i) => Nat.le_trans HS2.2.size (hgn i hi)))
  have HS3 := HC.out y2 (HS2.2.trans hx)
  clear hez hwa hgn hx HS2 RS HO2
  refine hK _ _ ⟨fun _ => HS3, ?_⟩
  clear hK K
  iterate 4
    refine wpT_take (v := ?_) (by rw [hops, List.getElem?_toArray]; rfl) (by first | rfl | (rw [hops]; rfl)) ?_ HS3 ?_
    rotate_left
    · intro v h; go_simp; with_reducible rfl
    simp only [Act.put, List.getElem_toArray, List.getElem_cons_zero, List.getElem_cons_succ, List.setIfInBounds_toArray, List.set_cons_zero, List.set_cons_succ]
  refine wpT_step (by rw [hops, List.getElem?_toArray]; rfl) (by first | rfl | (rw [hops]; rfl)) ?_
  intro K hK
  go_wp2_with fail
  try (with_reducible refine ⟨fun h => absurd h (by decide), ?_⟩)
  try rw [wpT_nil]
  try clear hops ops
  have X7 := hid HS3.2
  clear HS3
  go_wp2_with fail
  refine wp_region_T (fun u => ((u.cell? ⟨gg, q, none⟩ = some (.slice fa l0.length fc) ∧ u.cell? ⟨gg, q + 1, none⟩ = some (.slice ta l1.length tc)) ∧ (u.cell? ⟨N, 0, none⟩ = some (.int .i64 (n : Int)) ∧ u.cell? ⟨N, 1, none⟩ = some (uv seed) ∧ u.cell? ⟨N, 2, none⟩ = some (.slice oa ls.length oc))) ∧ Ext w1 u) 14 [(0, true), (1, true), (2, true), (3, true), (4, true), (5, true), (6, true), (7, false), (8, true), (9, true), (10, true), (11, true), (12, true), (13, true), (14, false)] (by kernel_rfl) (by kernel_rfl) (by intro c a d v w h; cases d <;> exact h) ?_
  intro ops hops
  have HS0 := HC.out _ (X7.out.trans (Ext.refl _).drew)
  have HFO := hid (follow_len (HWA.out.1.ext (Ext.refl _).drew) (.slice ta l1.length tc) (.slice fa l0.length fc) l1 l0 (HE1.out _ HS0.2) (HE0.out _ HS0.2) (fun e => HNE.out e.symm))
  iterate 7
    refine wpT_take (v := ?_) (by rw [hops, List.getElem?_toArray]; rfl) (by first | rfl | (rw [hops]; rfl)) ?_ HS0 ?_
    rotate_left
    · intro v h; go_simp; with_reducible rfl
    simp only [Act.put, List.getElem_toArray, List.getElem_cons_zero, List.getElem_cons_succ, List.setIfInBounds_toArray, List.set_cons_zero, List.set_cons_succ]
  refine wpT_step (by rw [hops, List.getElem?_toArray]; rfl) (by first | rfl | (rw [hops]; rfl)) ?_
  intro K hK
  go_wp2_with fail
  refine HFO.out.mono ?_
  rintro e w8 ⟨rfl, hx⟩
  have HS1 := HC.out w8 (HS0.2.trans hx)
  have HW8 := hid (HWA.out.1.ext ((Ext.refl _).drew.trans hx))
  clear hx HFO HS0 HWA
  refine hK _ _ ⟨fun _ => HS1, ?_⟩
  clear hK K
  iterate 6
    refine wpT_take (v := ?_) (by rw [hops, List.getElem?_toArray]; rfl) (by first | rfl | (rw [hops]; rfl)) ?_ HS1 ?_
    rotate_left
    · intro v h; go_simp; with_reducible rfl
    simp only [Act.put, List.getElem_toArray, List.getElem_cons_zero, List.getElem_cons_succ, List.setIfInBounds_toArray, List.set_cons_zero, List.set_cons_succ]
  refine wpT_step (by rw [hops, List.getElem?_toArray]; rfl) (by first | rfl | (rw [hops]; rfl)) ?_
  intro K hK
  go_wp2_with fail
  try (with_reducible refine ⟨fun h => absurd h (by decide), ?_⟩)
  try rw [wpT_nil]
  try clear hops ops
  have X8 := hid HS1.2
  clear HS1
  go_wp2_with fail
  refine wp_region_T (fun u => ((u.cell? ⟨gg, q, none⟩ = some (.slice fa l0.length fc) ∧ u.cell? ⟨gg, q + 1, none⟩ = some (.slice ta l1.length tc)) ∧ (u.cell? ⟨N, 0, none⟩ = some (.int .i64 (n : Int)) ∧ u.cell? ⟨N, 1, none⟩ = some (uv seed) ∧ u.cell? ⟨N, 2, none⟩ = some (.slice oa ls.length oc))) ∧ Ext w1 u) 17 [(0, true), (1, true), (2, true), (3, true), (4, true), (5, true), (6, true), (7, true), (8, true), (9, true), (10, true), (11, true), (12, true), (13, true), (14, true), (15, true), (16, true), (17, false), (18, false), (19, false)] (by kernel_rfl) (by kernel_rfl) (by intro c a d v w h; cases d <;> exact h) ?_
  intro ops hops
  have HS0 := HC.out _ (X8.out.trans (Ext.refl _).drew)
  have IS := hid (is51_any (HW8.out.ext (Ext.refl _).drew) HOK0.out _ (HE0.out _ HS0.2) (by have := HB0.out.1; omega) HB0.out.2)
  iterate 17
    refine wpT_take (v := ?_) (by rw [hops, List.getElem?_toArray]; rfl) (by first | rfl | (rw [hops]; rfl)) ?_ HS0 ?_
    rotate_left
    · intro v h; go_simp; with_reducible rfl
    simp only [Act.put, List.getElem_toArray, List.getElem_cons_zero, List.getElem_cons_succ, List.setIfInBounds_toArray, List.set_cons_zero, List.set_cons_succ]
  refine wpT_step (by rw [hops, List.getElem?_toArray]; rfl) (by first | rfl | (rw [hops]; rfl)) ?_
  intro K hK
  go_wp2_with fail
  refine (IS.out).mono ?_
  rintro e wa ⟨rfl, hx⟩
  have XA := hid (HS0.2.trans hx)
  clear hx IS HS0
  refine hK _ _ ⟨fun h => absurd h (by decide), ?_⟩
  clear hK K
  refine wpT_step (by rw [hops, List.getElem?_toArray]; rfl) (by first | rfl | (rw [hops]; rfl)) ?_
  intro K hK
  go_wp2_with fail
  try (with_reducible refine ⟨fun h => absurd h (by decide), ?_⟩)
  try rw [← hops]
  refine wpT_step (by rw [hops, List.getElem?_toArray]; rfl) (by first | rfl | (rw [hops]; rfl)) ?_
  intro K hK
  go_wp2_with fail
  try (with_reducible refine ⟨fun h => absurd h (by decide), ?_⟩)
  try rw [wpT_nil]
  try clear hops ops
  go_wp2_with fail
  go_ret
  exact ⟨rfl, HXW.out.trans XA.out⟩
end Go.Proofs.YtcikjcjfcanloaaGreat
