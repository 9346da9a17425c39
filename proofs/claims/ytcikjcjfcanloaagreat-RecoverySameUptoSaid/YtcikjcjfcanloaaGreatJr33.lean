/- Texts of this claim, joined: L51Sam. -/
import Derived.Test.YtcikjcjfcanloaaGreatJr24
import Derived.Test.YtcikjcjfcanloaaGreatJr26
import Derived.Test.YtcikjcjfcanloaaGreatJr28
set_option linter.unusedSimpArgs false
namespace Go.Proofs.YtcikjcjfcanloaaGreat
open Go.RowKit
attribute [local irreducible] perm fAdd fMul fPow fSub fNeg fRed hashU drawOf nextState
set_option maxRecDepth 100000 in
set_option maxHeartbeats 51200000 in
theorem recoverySame_any (d : Int) (seed : UInt64) (lv : Value) (ls : List (List BlkT)) (seed2 : UInt64) (w : World) (h : RdBL w lv ls) (hk : ls.length ≤ 10000000 ∧ ∀ l ∈ ls, LWd l) :
    Calls Tryz.prog 17 #[.agg #[.int .i64 d, uv seed, lv], uv seed2] w fun e w' => e = .returned (.bool true) ∧ Ext w w' := by
  have HH := hid h
  have AW := hid awake51_any
  have RG : Hid (∀ u, Ext w u → Calls Tryz.prog 45 #[.agg #[.int .i64 d, uv seed, lv]] u fun e w' => e = .returned (.bool (rightW d ls)) ∧ Ext u w') := hid fun u k => right51_any d seed lv ls u (h.ext k)
  have SCN : Hid (∀ u, Ext w u → Calls Tryz.prog 51 #[.agg #[.int .i64 d, uv seed, lv]] u fun e w' => ∃ v, e = .returned v ∧ FrL w u w' v (scanB (checkT (shl1 d)) ls)) := hid fun u k => rScan51_any d seed lv ls w u h k hk.1 hk.2
  obtain ⟨oa, oc, rfl, -⟩ := h.shape
  obtain ⟨S, hS⟩ : ∃ S, S = rightW d ls := ⟨_, rfl⟩
  rw [← hS] at RG
  have HS := hid hS
  obtain ⟨fs, hfs⟩ : ∃ fs, fs = scanB (checkT (shl1 d)) ls := ⟨_, rfl⟩
  rw [← hfs] at SCN
  have HFS := hid hfs
  have HFL : Hid (fs.length ≤ 10000000) := hid (by rw [hfs]; unfold scanB; exact Nat.le_trans (List.length_filter_le _ _) hk.1)
  obtain ⟨N, hN⟩ : ∃ N, N = w.heap.size := ⟨_, rfl⟩
  obtain ⟨w0, hw0⟩ : ∃ w0, w0 = w.alloc (.cells #[.int .i64 d, uv seed, .slice oa ls.length oc] 83) := ⟨_, rfl⟩
  have hx0 : Ext w w0 := by rw [hw0]; exact (Ext.refl w).alloc _
  have hb0 : w0.heap[N]? = some (.cells #[.int .i64 d, uv seed, .slice oa ls.length oc] 83 (0, 0)) := by rw [hw0, hN]; exact heap_new _ _
  have HX0 := hid hx0
  have HW := hid hw0
  have HC : Hid (∀ u, Ext w0 u → u.cell? ⟨N, 0, none⟩ = some (.int .i64 d) ∧ u.cell? ⟨N, 1, none⟩ = some (uv seed) ∧ u.cell? ⟨N, 2, none⟩ = some (.slice oa ls.length oc)) := hid fun u k => ⟨cell_of (k.heap_some hb0) 0, cell_of (k.heap_some hb0) 1, cell_of (k.heap_some hb0) 2⟩
  clear h hw0 hx0 hb0 hS hfs hk
  go_enter Tryz.func17, Tryz.ntmps17
  go_upto_region 1 with fail
  rw [← HW.out, ← hN]
  clear hN HW
  obtain ⟨c0, c1, c2⟩ := HC.out _ (Ext.refl w0)
  go_wp2_with fail
  refine (SCN.out _ HX0.out).mono ?_
  rintro e w1 ⟨v, rfl, hfr⟩
  have X01 := hid hfr.wext
  have HF := hid (hfr.rd HX0.out)
  obtain ⟨fsa, fsc, rfl⟩ := hfr.shape
  have HC1 : Hid (∀ u, Ext w1 u → (u.cell? ⟨N, 0, none⟩ = some (.int .i64 d) ∧ u.cell? ⟨N, 1, none⟩ = some (uv seed) ∧ u.cell? ⟨N, 2, none⟩ = some (.slice oa ls.length oc)) ∧ Ext w1 u) := hid fun u k => ⟨HC.out u (X01.out.trans k), k⟩
  have HXW := hid (HX0.out.trans X01.out)
  have hfI : (fs.length : Int) ≤ 10000000 := by have := HFL.out; omega
  clear hfr c0 c1 c2 SCN HC HX0 X01
  go_wp2_with fail
  refine (AW.out _).mono ?_
  rintro e w2 ⟨rfl, hx⟩
  have X2 := hid hx
  clear hx
  obtain ⟨⟨c0, c1, c2⟩, -⟩ := HC1.out w2 X2.out
  go_wp2_with fail
  refine (RG.out _ (HXW.out.trans X2.out)).mono ?_
  rintro e w3 ⟨rfl, hx⟩
  have X3 := hid (X2.out.trans hx)
  clear hx RG c0 c1 c2
  cases S with
  | false =>
    go_wp2_with fail
    refine (AW.out _).mono ?_
    rintro e w4 ⟨rfl, hx⟩
    have X4 := hid (X3.out.trans hx)
    clear hx
    go_wp2_with fail
    go_ret
    exact ⟨rfl, HXW.out.trans X4.out⟩
  | true =>
  by_cases hL2 : fs.length < 2
  · have hLB : decide ((fs.length : Int) < 2) = true := decide_eq_true (by omega)
    have hLI : (fs.length : Int) < 2 := by omega
    go_wp2_with fail
    refine (AW.out _).mono ?_
    rintro e w4 ⟨rfl, hx⟩
    have X4 := hid (X3.out.trans hx)
    clear hx
    go_wp2_with fail
    go_ret
    exact ⟨rfl, HXW.out.trans X4.out⟩
  have hLB : decide ((fs.length : Int) < 2) = false := decide_eq_false (by omega)
  have hLI : (2 : Int) ≤ (fs.length : Int) := by omega
  have hL0 : 0 < fs.length := by omega
  have hL1 : 1 < fs.length := by omega
  have hL1I : (1 : Int) < (fs.length : Int) := by omega
  obtain ⟨l0, hl0⟩ : ∃ l, fs[0]? = some l := ⟨_, List.getElem?_eq_getElem (by omega)⟩
  obtain ⟨l1, hl1⟩ : ∃ l, fs[1]? = some l := ⟨_, List.getElem?_eq_getElem (by omega)⟩
  have HM := hid (And.intro (List.mem_of_getElem? hl0) (List.mem_of_getElem? hl1))
  obtain ⟨gg, q, fa, fc, rfl, hr0, e0⟩ := HF.out.at hl0
  obtain ⟨gg', q', ta, tc, hgg, hr1, e1⟩ := HF.out.at hl1
  obtain ⟨rfl, rfl⟩ : gg = gg' ∧ q = q' := by simpa using hgg
  have HE0 : Hid (∀ u, Ext w1 u → RdBs u u (.slice fa l0.length fc) l0) := hid fun u k => (hr0.ext k).old k
  have HE1 : Hid (∀ u, Ext w1 u → RdBs u u (.slice ta l1.length tc) l1) := hid fun u k => (hr1.ext k).old k
  have HC5 : Hid (∀ u, Ext w1 u → ((u.cell? ⟨gg, q, none⟩ = some (.slice fa l0.length fc) ∧ u.cell? ⟨gg, q + 1, none⟩ = some (.slice ta l1.length tc)) ∧ (u.cell? ⟨N, 0, none⟩ = some (.int .i64 d) ∧ u.cell? ⟨N, 1, none⟩ = some (uv seed) ∧ u.cell? ⟨N, 2, none⟩ = some (.slice oa ls.length oc))) ∧ Ext w1 u) := hid fun u k => ⟨⟨⟨k.cell_some e0, k.cell_some e1⟩, (HC1.out u k).1⟩, k⟩
  clear HC1 hl0 hl1 hr0 hr1 e0 e1 hgg hL2
  have HC := HC5
  clear HC5
  obtain ⟨n, rfl, h1, h6, hl6, hbs⟩ := right_facts HS.out.symm
  have HD := hid (And.intro h1 h6)
  have HFS2 : Hid (∀ l ∈ fs, l ∈ ls ∧ errW n l = 0) := hid fun l hl => by
    rw [HFS.out, scanB_W (by omega)] at hl
    have := List.mem_filter.1 hl
    exact ⟨this.1, of_decide_eq_true this.2⟩
  have HZ0 := hid (HFS2.out l0 HM.out.1).2
  have HZ1 := hid (HFS2.out l1 HM.out.2).2
  have HB0 := hid (hbs l0 (HFS2.out l0 HM.out.1).1)
  have HB1 := hid (hbs l1 (HFS2.out l1 HM.out.2).1)
  have HOK0 := hid (errW_okAll.1 HZ0.out)
  have HOK1 := hid (errW_okAll.1 HZ1.out)
  have hlI : (ls.length : Int) ≤ 6 := by omega
  have HRL := hid (rules51_any (n : Int))
  have hf6 : (l0.length : Int) ≤ 6 := by have := HB0.out.1; omega
  have ht6 : (l1.length : Int) ≤ 6 := by have := HB1.out.1; omega
  clear h1 h6 hl6 hbs HFS HFS2
  have RS : Hid (∀ u ob FO, Ext w1 u → OrcAt u ob realM FO → Calls Tryz.prog 44 #[.pointer (some ⟨ob, 0, none⟩), rlVal (rl49 (n : Int)), uv seed, .slice fa l0.length fc] u (RestP u n seed l0)) := hid fun u ob FO k ho => restore_any ho n HD.out.1 (by have := HD.out.2; omega) seed _ l0 (HE0.out u k) (by have := HB0.out.1; omega) HB0.out.2
  have RS1 : Hid (∀ u ob FO, Ext w1 u → OrcAt u ob realM FO → Calls Tryz.prog 44 #[.pointer (some ⟨ob, 0, none⟩), rlVal (rl49 (n : Int)), uv seed2, .slice ta l1.length tc] u (RestP u n seed2 l1)) := hid fun u ob FO k ho => restore_any ho n HD.out.1 (by have := HD.out.2; omega) seed2 _ l1 (HE1.out u k) (by have := HB1.out.1; omega) HB1.out.2
  have RE0 : Hid (∀ u, Ext w1 u → Calls Tryz.prog 40 #[uv seed, .slice fa l0.length fc] u (NewB u (encW seed l0))) := hid fun u k => rEncodeW_any seed _ l0 u (HE0.out u k) (by have := HB0.out.1; omega) HB0.out.2 (okAll_valid HOK0.out) (by
    have h2 := fitsAll_stW ((okAll_fits (seed := seed)).2 HOK0.out)
    have h3 := pow12 (d := n) (by have := HD.out.2; omega)
    omega)
  have RE1 : Hid (∀ u, Ext w1 u → Calls Tryz.prog 40 #[uv seed2, .slice ta l1.length tc] u (NewB u (encW seed2 l1))) := hid fun u k => rEncodeW_any seed2 _ l1 u (HE1.out u k) (by have := HB1.out.1; omega) HB1.out.2 (okAll_valid HOK1.out) (by
    have h2 := fitsAll_stW ((okAll_fits (seed := seed2)).2 HOK1.out)
    have h3 := pow12 (d := n) (by have := HD.out.2; omega)
    omega)
  have HBL : Hid ((encW seed l0).length ≤ 1000000) := hid (encW_len (d := n) (by have := HD.out.2; omega) HOK0.out)
  go_wp2_with fail
  refine wp_region_T (fun u => ((u.cell? ⟨gg, q, none⟩ = some (.slice fa l0.length fc) ∧ u.cell? ⟨gg, q + 1, none⟩ = some (.slice ta l1.length tc)) ∧ (u.cell? ⟨N, 0, none⟩ = some (.int .i64 (n : Int)) ∧ u.cell? ⟨N, 1, none⟩ = some (uv seed) ∧ u.cell? ⟨N, 2, none⟩ = some (.slice oa ls.length oc))) ∧ Ext w1 u) 14 [(1, true), (2, true), (4, true), (5, true), (6, true), (7, true), (8, true), (0, false), (3, false), (9, false), (10, true), (11, true), (12, true), (13, true), (14, false)] (by kernel_rfl) (by kernel_rfl) (by intro c a d v w h; cases d <;> exact h) ?_
  intro ops hops
  have HS0 := HC.out _ (X3.out.trans (Ext.refl _).drew)
  iterate 7
    refine wpT_take (v := ?_) (by rw [hops, List.getElem?_toArray]; rfl) (by first | rfl | (rw [hops]; rfl)) ?_ HS0 ?_
    rotate_left
    · intro v h; go_simp; with_reducible rfl
    simp only [Act.put, List.getElem_toArray, List.getElem_cons_zero, List.getElem_cons_succ, List.setIfInBounds_toArray, List.set_cons_zero, List.set_cons_succ]
  refine wpT_step (by rw [hops, List.getElem?_toArray]; rfl) (by first | rfl | (rw [hops]; rfl)) ?_
  intro K hK
  go_wp2_with fail
  refine (Real_any _).mono ?_
  rintro e y0 ⟨ob, FO, rfl, ho, hx, -⟩
  have HO := hid ho
  have HS1 := HC.out y0 (HS0.2.trans hx)
  clear ho hx HS0
  refine hK _ _ ⟨fun _ => HS1, ?_⟩
  clear hK K
  refine wpT_step (by rw [hops, List.getElem?_toArray]; rfl) (by first | rfl | (rw [hops]; rfl)) ?_
  intro K hK
  go_wp2_with fail
  refine (HRL.out _).mono ?_
  rintro e y1 ⟨rfl, hx⟩
  have HO2 := hid (HO.out.ext hx)
  have HS2 := HC.out y1 (HS1.2.trans hx)
  clear hx HS1 HO
  refine hK _ _ ⟨fun _ => HS2, ?_⟩
  clear hK K
  refine wpT_step (by rw [hops, List.getElem?_toArray]; rfl) (by first | rfl | (rw [hops]; rfl)) ?_
  intro K hK
  go_wp2_with fail
  refine (RS.out _ ob FO HS2.2 HO2.out).mono ?_
  rintro e y2 hrp
  rcases hrp with ⟨hez, W, G, rfl, hwa, hgn, hx⟩ | ⟨hez, rfl, hx⟩
  case inr => exact absurd HZ0.out hez
  have HWA := hid (And.intro hwa (fun i (hi : G i) => Nat.le_trans HS2.2.size (hgn i hi)))
  have HS3 := HC.out y2 (HS2.2.trans hx)
  clear hez hwa hgn hx HS2 RS HO2
  refine hK _ _ ⟨fun _ => HS3, ?_⟩
  clear hK K
  iterate 4
    refine wpT_take (v := ?_) (by rw [hops, List.getElem?_toArray]; rfl) (by first | rfl | (rw [hops]; rfl)) ?_ HS3 ?_
    rotate_left
    · intro v h; go_simp; with_reducible rfl
    simp only [Act.put, List.getElem_toArray, List.getElem_cons_zero, List.getElem_cons_succ, List.setIfInBounds_toArray, List.set_cons_zero, List.set_cons_succ]
  refine wpT_step (by rw [hops, List.getElem?_toArray]; rfl) (by first | rfl | (rw [hops]; rfl)) ?_
  intro K hK
  go_wp2_with fail
  try (with_reducible refine ⟨fun h => absurd h (by decide), ?_⟩)
  try rw [wpT_nil]
  try clear hops ops
  have X7 := hid HS3.2
  clear HS3
  have XR := hid (Ext.refl y2)
  have HC2 : Hid (∀ u, Ext y2 u → ((u.cell? ⟨gg, q, none⟩ = some (.slice fa l0.length fc) ∧ u.cell? ⟨gg, q + 1, none⟩ = some (.slice ta l1.length tc)) ∧ (u.cell? ⟨N, 0, none⟩ = some (.int .i64 (n : Int)) ∧ u.cell? ⟨N, 1, none⟩ = some (uv seed) ∧ u.cell? ⟨N, 2, none⟩ = some (.slice oa ls.length oc))) ∧ Ext y2 u) := hid fun u k => ⟨(HC.out u (X7.out.trans k)).1, k⟩
  go_wp2_with fail
  refine wp_region_T (fun u => ((u.cell? ⟨gg, q, none⟩ = some (.slice fa l0.length fc) ∧ u.cell? ⟨gg, q + 1, none⟩ = some (.slice ta l1.length tc)) ∧ (u.cell? ⟨N, 0, none⟩ = some (.int .i64 (n : Int)) ∧ u.cell? ⟨N, 1, none⟩ = some (uv seed) ∧ u.cell? ⟨N, 2, none⟩ = some (.slice oa ls.length oc))) ∧ Ext y2 u) 13 [(1, true), (2, true), (4, true), (5, true), (6, true), (7, true), (0, false), (3, false), (8, false), (9, true), (10, true), (11, true), (12, true), (13, false)] (by kernel_rfl) (by kernel_rfl) (by intro c a d v w h; cases d <;> exact h) ?_
  intro ops hops
  have HS0 := HC2.out _ (XR.out.trans (Ext.refl _).drew)
  iterate 6
    refine wpT_take (v := ?_) (by rw [hops, List.getElem?_toArray]; rfl) (by first | rfl | (rw [hops]; rfl)) ?_ HS0 ?_
    rotate_left
    · intro v h; go_simp; with_reducible rfl
    simp only [Act.put, List.getElem_toArray, List.getElem_cons_zero, List.getElem_cons_succ, List.setIfInBounds_toArray, List.set_cons_zero, List.set_cons_succ]
  refine wpT_step (by rw [hops, List.getElem?_toArray]; rfl) (by first | rfl | (rw [hops]; rfl)) ?_
  intro K hK
  go_wp2_with fail
  refine (Real_any _).mono ?_
  rintro e z0 ⟨ob, FO, rfl, ho, hx, -⟩
  have HO := hid ho
  have HS1 := HC2.out z0 (HS0.2.trans hx)
  clear ho hx HS0
  refine hK _ _ ⟨fun _ => HS1, ?_⟩
  clear hK K
  refine wpT_step (by rw [hops, List.getElem?_toArray]; rfl) (by first | rfl | (rw [hops]; rfl)) ?_
  intro K hK
  go_wp2_with fail
  refine (HRL.out _).mono ?_
  rintro e z1 ⟨rfl, hx⟩
  have HO2 := hid (HO.out.ext hx)
  have HS2 := HC2.out z1 (HS1.2.trans hx)
  clear hx HS1 HO
  refine hK _ _ ⟨fun _ => HS2, ?_⟩
  clear hK K
  refine wpT_step (by rw [hops, List.getElem?_toArray]; rfl) (by first | rfl | (rw [hops]; rfl)) ?_
  intro K hK
  go_wp2_with fail
  refine (RS1.out _ ob FO (X7.out.trans HS2.2) HO2.out).mono ?_
  rintro e z2 hrp
  rcases hrp with ⟨hez, V, GV, rfl, hwa, hgn, hx⟩ | ⟨hez, rfl, hx⟩
  case inr => exact absurd HZ1.out hez
  have HVA := hid (And.intro hwa (fun i (hi : GV i) => Nat.le_trans (X7.out.trans HS2.2).size (hgn i hi)))
  have HS3 := HC2.out z2 (HS2.2.trans hx)
  clear hez hwa hgn hx HS2 RS1 HO2
  refine hK _ _ ⟨fun _ => HS3, ?_⟩
  clear hK K
  iterate 4
    refine wpT_take (v := ?_) (by rw [hops, List.getElem?_toArray]; rfl) (by first | rfl | (rw [hops]; rfl)) ?_ HS3 ?_
    rotate_left
    · intro v h; go_simp; with_reducible rfl
    simp only [Act.put, List.getElem_toArray, List.getElem_cons_zero, List.getElem_cons_succ, List.setIfInBounds_toArray, List.set_cons_zero, List.set_cons_succ]
  refine wpT_step (by rw [hops, List.getElem?_toArray]; rfl) (by first | rfl | (rw [hops]; rfl)) ?_
  intro K hK
  go_wp2_with fail
  try (with_reducible refine ⟨fun h => absurd h (by decide), ?_⟩)
  try rw [wpT_nil]
  try clear hops ops
  have X8 := hid HS3.2
  clear HS3
  have XW := hid (X7.out.trans X8.out)
  have SA : Hid (∀ u, Ext z2 u → Calls Tryz.prog 52 #[.pointer (some ⟨W, 0, none⟩), .pointer (some ⟨V, 0, none⟩)] u fun e w' => e = .returned (.bool (decide (encW seed l0 = encW seed2 l1))) ∧ Ext u w') := hid fun u k => by
    have := recSame_any (HWA.out.1.ext (X8.out.trans k)) (HVA.out.1.ext k) HOK0.out HOK1.out
    rwa [encW_red, encW_red] at this
  have SB : Hid (∀ u, Ext z2 u → Calls Tryz.prog 52 #[.pointer (some ⟨V, 0, none⟩), .pointer (some ⟨W, 0, none⟩)] u fun e w' => e = .returned (.bool (decide (encW seed l0 = encW seed2 l1))) ∧ Ext u w') := hid fun u k => by
    have := recSame_any (HVA.out.1.ext k) (HWA.out.1.ext (X8.out.trans k)) HOK1.out HOK0.out
    rwa [encW_red, encW_red, show decide (encW seed2 l1 = encW seed l0) = decide (encW seed l0 = encW seed2 l1) from decide_eq_decide.2 eq_comm] at this
  have SW : Hid (∀ u, Ext z2 u → Calls Tryz.prog 52 #[.pointer (some ⟨W, 0, none⟩), .pointer (some ⟨W, 0, none⟩)] u fun e w' => e = .returned (.bool true) ∧ Ext u w') := hid fun u k => by
    have := recSame_any (HWA.out.1.ext (X8.out.trans k)) (HWA.out.1.ext (X8.out.trans k)) HOK0.out HOK0.out
    rwa [show decide (encW (fRed seed) l0 = encW (fRed seed) l0) = true from decide_eq_true rfl] at this
  obtain ⟨B0, hB0⟩ : ∃ B, B = encW seed l0 := ⟨_, rfl⟩
  obtain ⟨B1, hB1⟩ : ∃ B, B = encW seed2 l1 := ⟨_, rfl⟩
  rw [← hB0] at SA SB RE0 HBL
  rw [← hB1] at SA SB RE1
  obtain ⟨D, hD⟩ : ∃ D, D = decide (B0 = B1) := ⟨_, rfl⟩
  rw [← hD] at SA SB
  have HDE := hid hD
  have HC3 : Hid (∀ u, Ext z2 u → ((u.cell? ⟨gg, q, none⟩ = some (.slice fa l0.length fc) ∧ u.cell? ⟨gg, q + 1, none⟩ = some (.slice ta l1.length tc)) ∧ (u.cell? ⟨N, 0, none⟩ = some (.int .i64 (n : Int)) ∧ u.cell? ⟨N, 1, none⟩ = some (uv seed) ∧ u.cell? ⟨N, 2, none⟩ = some (.slice oa ls.length oc))) ∧ Ext z2 u) := hid fun u k => ⟨(HC.out u (XW.out.trans k)).1, k⟩
  clear hB0 hB1 hD HC2 HWA HVA
  go_wp2_with fail
  refine wp_region_T (fun u => ((u.cell? ⟨gg, q, none⟩ = some (.slice fa l0.length fc) ∧ u.cell? ⟨gg, q + 1, none⟩ = some (.slice ta l1.length tc)) ∧ (u.cell? ⟨N, 0, none⟩ = some (.int .i64 (n : Int)) ∧ u.cell? ⟨N, 1, none⟩ = some (uv seed) ∧ u.cell? ⟨N, 2, none⟩ = some (.slice oa ls.length oc))) ∧ Ext z2 u) 10 [(0, true), (1, true), (2, true), (3, true), (4, true), (6, true), (7, true), (8, true), (9, true), (5, false), (10, false), (11, false), (12, false)] (by kernel_rfl) (by kernel_rfl) (by intro c a d v w h; cases d <;> exact h) ?_
  intro ops hops
  have HS0 := HC3.out _ (Ext.refl _).drew
  iterate 9
    refine wpT_take (v := ?_) (by rw [hops, List.getElem?_toArray]; rfl) (by first | rfl | (rw [hops]; rfl)) ?_ HS0 ?_
    rotate_left
    · intro v h; go_simp; with_reducible rfl
    simp only [Act.put, List.getElem_toArray, List.getElem_cons_zero, List.getElem_cons_succ, List.setIfInBounds_toArray, List.set_cons_zero, List.set_cons_succ]
  refine wpT_step (by rw [hops, List.getElem?_toArray]; rfl) (by first | rfl | (rw [hops]; rfl)) ?_
  intro K hK
  go_wp2_with fail
  refine (RE0.out _ (XW.out.trans HS0.2)).mono ?_
  rintro e wa ⟨v1, rfl, ho1, hx1, -⟩
  obtain ⟨va, vc, rfl, -⟩ := ownsRow_rd ho1
  have O1 := hid ho1
  have HS1 := HC3.out wa (HS0.2.trans hx1)
  clear ho1 hx1 HS0 RE0
  refine hK _ _ ⟨fun _ => HS1, ?_⟩
  clear hK K
  refine wpT_step (by rw [hops, List.getElem?_toArray]; rfl) (by first | rfl | (rw [hops]; rfl)) ?_
  intro K hK
  go_wp2_with fail
  refine (RE1.out _ (XW.out.trans HS1.2)).mono ?_
  rintro e wb ⟨v2, rfl, ho2, hx2, -⟩
  obtain ⟨ua, uc, rfl, -⟩ := ownsRow_rd ho2
  have XB := hid (HS1.2.trans hx2)
  have SM := hid (SameB_any (.slice va B0.length vc) (.slice ua B1.length uc) B0 B1 wb (ownsRow_rd (ownsRow_ext O1.out hx2)).weak (ownsRow_rd ho2).weak (by have := HBL.out; omega))
  rw [← HDE.out] at SM
  clear ho2 hx2 RE1 O1 HS1
  refine hK _ _ ⟨fun h => absurd h (by decide), ?_⟩
  clear hK K
  refine wpT_step (by rw [hops, List.getElem?_toArray]; rfl) (by first | rfl | (rw [hops]; rfl)) ?_
  intro K hK
  go_wp2_with fail
  refine (SM.out).mono ?_
  rintro e wc ⟨rfl, hx⟩
  have XC := hid (XB.out.trans hx)
  clear hx SM
  refine hK _ _ ⟨fun h => absurd h (by decide), ?_⟩
  clear hK K
  refine wpT_step (by rw [hops, List.getElem?_toArray]; rfl) (by first | rfl | (rw [hops]; rfl)) ?_
  intro K hK
  go_wp2_with fail
  try (with_reducible refine ⟨fun h => absurd h (by decide), ?_⟩)
  try rw [wpT_nil]
  try clear hops ops
  clear HDE
  go_wp2_with fail
  refine (SA.out _ XC.out).mono ?_
  rintro e wd ⟨rfl, hx⟩
  have XD := hid (XC.out.trans hx)
  clear hx SA
  cases D with
  | false =>
    go_wp2_with fail
    refine (SB.out _ XD.out).mono ?_
    rintro e we ⟨rfl, hx⟩
    have XE := hid (XD.out.trans hx)
    clear hx SB
    go_wp2_with fail
    refine (SW.out _ XE.out).mono ?_
    rintro e wf ⟨rfl, hx⟩
    have XF := hid (XE.out.trans hx)
    clear hx SW
    go_wp2_with fail
    go_ret
    exact ⟨rfl, HXW.out.trans (XW.out.trans XF.out)⟩
  | true =>
    go_wp2_with fail
    refine (SB.out _ XD.out).mono ?_
    rintro e we ⟨rfl, hx⟩
    have XE := hid (XD.out.trans hx)
    clear hx SB
    go_wp2_with fail
    refine (SW.out _ XE.out).mono ?_
    rintro e wf ⟨rfl, hx⟩
    have XF := hid (XE.out.trans hx)
    clear hx SW
    go_wp2_with fail
    go_ret
    exact ⟨rfl, HXW.out.trans (XW.out.trans XF.out)⟩
end Go.Proofs.YtcikjcjfcanloaaGreat
