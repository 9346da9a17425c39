/- Texts of this claim, joined: L51Roa. -/
import Derived.Test.YtcikjcjfcanloaaGreatJr24
import Derived.Test.YtcikjcjfcanloaaGreatJr26
import Derived.Test.YtcikjcjfcanloaaGreatJr28
set_option linter.unusedSimpArgs false
namespace Go.Proofs.YtcikjcjfcanloaaGreat
open Go.RowKit
attribute [local irreducible] perm fAdd fMul fPow fSub fNeg fRed hashU drawOf nextState
theorem rdbs_nil (w : World) : RdBs w w (.slice none 0 0) [] := ⟨[], rfl, (RdC.nil w).weak, fun x h => by cases h⟩
/-- Where the wallet at W stands on its road: it has scanned l, whose blocks f reads. -/
def RoadI (w0 w2 : World) (W n : Nat) (s : UInt64) (G : Nat → Prop) (fa : Option Addr) (fc : Nat) (l : List BlkT) (u : World) : Prop :=
  WalTo w2 W n s l G u ∧ okAll n l ∧ l.length ≤ 6 ∧ (∀ b ∈ l, BSm b) ∧ RdBs w0 w0 (.slice fa l.length fc) l
set_option maxRecDepth 100000 in
set_option maxHeartbeats 25600000 in
theorem recoveryRoad_any (d : Int) (seed : UInt64) (lv : Value) (ls : List (List BlkT)) (w : World) (h : RdBL w lv ls) :
    Calls Tryz.prog 16 #[.agg #[.int .i64 d, uv seed, lv]] w fun e w' => e = .returned (.bool true) ∧ Ext w w' := by
  have HH := hid h
  have HHW := hid h
  have AW := hid awake51_any
  have RG : Hid (∀ u, Ext w u → Calls Tryz.prog 45 #[.agg #[.int .i64 d, uv seed, lv]] u fun e w' => e = .returned (.bool (rightW d ls)) ∧ Ext u w') := hid fun u k => right51_any d seed lv ls u (h.ext k)
  obtain ⟨oa, oc, rfl, -⟩ := h.shape
  obtain ⟨S, hS⟩ : ∃ S, S = rightW d ls := ⟨_, rfl⟩
  rw [← hS] at RG
  have HS := hid hS
  obtain ⟨N, hN⟩ : ∃ N, N = w.heap.size := ⟨_, rfl⟩
  obtain ⟨w0, hw0⟩ : ∃ w0, w0 = w.alloc (.cells #[.int .i64 d, uv seed, .slice oa ls.length oc] 83) := ⟨_, rfl⟩
  have hx0 : Ext w w0 := by rw [hw0]; exact (Ext.refl w).alloc _
  have hb0 : w0.heap[N]? = some (.cells #[.int .i64 d, uv seed, .slice oa ls.length oc] 83 (0, 0)) := by rw [hw0, hN]; exact heap_new _ _
  have HX0 := hid hx0
  have HW := hid hw0
  have HC : Hid (∀ u, Ext w0 u → (u.cell? ⟨N, 0, none⟩ = some (.int .i64 d) ∧ u.cell? ⟨N, 1, none⟩ = some (uv seed) ∧ u.cell? ⟨N, 2, none⟩ = some (.slice oa ls.length oc)) ∧ Ext w0 u) := hid fun u k => ⟨⟨cell_of (k.heap_some hb0) 0, cell_of (k.heap_some hb0) 1, cell_of (k.heap_some hb0) 2⟩, k⟩
  clear h hw0 hx0 hb0 hS
  go_enter Tryz.func16, Tryz.ntmps16
  go_upto_region 1 with fail
  rw [← HW.out, ← hN]
  clear hN HW
  go_wp2_with fail
  refine (AW.out _).mono ?_
  rintro e w1 ⟨rfl, hx⟩
  have X1 := hid hx
  clear hx
  obtain ⟨⟨c0, c1, c2⟩, -⟩ := HC.out w1 X1.out
  go_wp2_with fail
  refine (RG.out _ (HX0.out.trans X1.out)).mono ?_
  rintro e w2 ⟨rfl, hx⟩
  have X2 := hid (X1.out.trans hx)
  clear hx RG c0 c1 c2
  cases S with
  | false =>
    go_wp2_with fail
    refine (AW.out _).mono ?_
    rintro e w3 ⟨rfl, hx⟩
    have X3 := hid (X2.out.trans hx)
    clear hx
    go_wp2_with fail
    go_ret
    exact ⟨rfl, HX0.out.trans X3.out⟩
  | true =>
  obtain ⟨n, rfl, h1, h6, hl6, hbs⟩ := right_facts HS.out.symm
  have HD := hid (And.intro h1 h6)
  have HRL := hid (rules51_any (n : Int))
  have RS : Hid (∀ u ob FO, Ext w0 u → OrcAt u ob realM FO → Calls Tryz.prog 44 #[.pointer (some ⟨ob, 0, none⟩), rlVal (rl49 (n : Int)), uv seed, .slice none 0 0] u (RestP u n seed [])) := hid fun u ob FO k ho => restore_any ho n HD.out.1 (by have := HD.out.2; omega) seed _ [] (rdbs_nil u) (by simp) (fun b hb => by cases hb)
  have HZ0 : Hid (errW n [] = 0) := hid rfl
  have HW0 : Hid (∀ l ∈ ls, LWd l) := hid fun l hl => by
    have h1 := hbs l hl
    have h2 := leavesW_len h1.2
    refine ⟨by have := h1.1; omega, fun b hb => (h1.2 b hb).wide, ?_⟩
    have := h1.1
    omega
  have SCN : Hid (∀ u, Ext w0 u → Calls Tryz.prog 51 #[.agg #[.int .i64 (n : Int), uv seed, .slice oa ls.length oc]] u fun e w' => ∃ v, e = .returned v ∧ FrL w0 u w' v (scanB (checkT (shl1 (n : Int))) ls)) := hid fun u k => rScan51_any (n : Int) seed _ ls w0 u (HHW.out.ext HX0.out) k (by omega) HW0.out
  obtain ⟨fs, hfs⟩ : ∃ fs, fs = scanB (checkT (shl1 (n : Int))) ls := ⟨_, rfl⟩
  rw [← hfs] at SCN
  have HFS2 : Hid (∀ l ∈ fs, l.length ≤ 6 ∧ (∀ b ∈ l, BSm b) ∧ errW n l = 0) := hid fun l hl => by
    rw [hfs, scanB_W (by omega)] at hl
    have h1 := List.mem_filter.1 hl
    exact ⟨(hbs l h1.1).1, (hbs l h1.1).2, of_decide_eq_true h1.2⟩
  have hf6 : fs.length ≤ 6 := by
    rw [hfs]
    unfold scanB
    exact Nat.le_trans (List.length_filter_le _ _) hl6
  have hfI : (fs.length : Int) ≤ 6 := by omega
  have hlI : (ls.length : Int) ≤ 6 := by omega
  clear h1 h6 hl6 hbs hfs hf6 HW0 AW
  go_wp2_with fail
  refine wp_region_T (fun u => (u.cell? ⟨N, 0, none⟩ = some (.int .i64 (n : Int)) ∧ u.cell? ⟨N, 1, none⟩ = some (uv seed) ∧ u.cell? ⟨N, 2, none⟩ = some (.slice oa ls.length oc)) ∧ Ext w0 u) 11 [(1, true), (2, true), (4, true), (5, true), (0, false), (3, false), (6, false), (7, true), (8, true), (9, true), (10, true), (11, false)] (by kernel_rfl) (by kernel_rfl) (by intro c a d v w h; cases d <;> exact h) ?_
  intro ops hops
  have HS0 := HC.out _ (X2.out.trans (Ext.refl _).drew)
  iterate 4
    refine wpT_take (v := ?_) (by rw [hops, List.getElem?_toArray]; rfl) (by first | rfl | (rw [hops]; rfl)) ?_ HS0 ?_
    rotate_left
    · intro v h; go_simp; with_reducible rfl
    simp only [Act.put, List.getElem_toArray, List.getElem_cons_zero, List.getElem_cons_succ, List.setIfInBounds_toArray, List.set_cons_zero, List.set_cons_succ]
  refine wpT_step (by rw [hops, List.getElem?_toArray]; rfl) (by first | rfl | (rw [hops]; rfl)) ?_
  intro K hK
  go_wp2_with fail
  refine (Real_any _).mono ?_
  rintro e y0 ⟨ob, FO, rfl, ho, hx, -⟩
  have HO := hid ho
  have HS1 := HC.out y0 (HS0.2.trans hx)
  clear ho hx HS0
  refine hK _ _ ⟨fun _ => HS1, ?_⟩
  clear hK K
  refine wpT_step (by rw [hops, List.getElem?_toArray]; rfl) (by first | rfl | (rw [hops]; rfl)) ?_
  intro K hK
  go_wp2_with fail
  refine (HRL.out _).mono ?_
  rintro e y1 ⟨rfl, hx⟩
  have HO2 := hid (HO.out.ext hx)
  have HS2 := HC.out y1 (HS1.2.trans hx)
  clear hx HS1 HO
  refine hK _ _ ⟨fun _ => HS2, ?_⟩
  clear hK K
  refine wpT_step (by rw [hops, List.getElem?_toArray]; rfl) (by first | rfl | (rw [hops]; rfl)) ?_
  intro K hK
  go_wp2_with fail
  refine (RS.out _ ob FO HS2.2 HO2.out).mono ?_
  rintro e y2 hrp
  rcases hrp with ⟨hez, W, G, rfl, hwa, hgn, hx⟩ | ⟨hez, rfl, hx⟩
  case inr => exact absurd HZ0.out hez
  have HWA := hid (And.intro hwa (fun i (hi : G i) => Nat.le_trans HS2.2.size (hgn i hi)))
  have HS3 := HC.out y2 (HS2.2.trans hx)
  clear hez hwa hgn hx HS2 RS HO2
  refine hK _ _ ⟨fun _ => HS3, ?_⟩
  clear hK K
  iterate 4
    refine wpT_take (v := ?_) (by rw [hops, List.getElem?_toArray]; rfl) (by first | rfl | (rw [hops]; rfl)) ?_ HS3 ?_
    rotate_left
    · intro v h; go_simp; with_reducible rfl
    simp only [Act.put, List.getElem_toArray, List.getElem_cons_zero, List.getElem_cons_succ, List.setIfInBounds_toArray, List.set_cons_zero, List.set_cons_succ]
  refine wpT_step (by rw [hops, List.getElem?_toArray]; rfl) (by first | rfl | (rw [hops]; rfl)) ?_
  intro K hK
  go_wp2_with fail
  try (with_reducible refine ⟨fun h => absurd h (by decide), ?_⟩)
  try rw [wpT_nil]
  try clear hops ops
  have X7 := hid HS3.2
  clear HS3
  obtain ⟨⟨c0, c1, c2⟩, -⟩ := HC.out _ X7.out
  go_wp2_with fail
  refine (SCN.out _ X7.out).mono ?_
  rintro e w5 ⟨v, rfl, hfr⟩
  have HFR := hid hfr
  have X5 := hid (X7.out.trans hfr.wext)
  have HW5 := hid (HWA.out.1.ext hfr.wext)
  obtain ⟨fsa, fsc, rfl⟩ := hfr.shape
  have HGN : Hid (∀ i, G i → w0.heap.size ≤ i) := hid HWA.out.2
  have HGL : Hid (∀ i, G i → i < y2.heap.size) := hid (HWA.out.1.lt)
  have HI0 : Hid (RoadI w0 w5 W n (fRed seed) G none 0 [] w5) := hid ⟨.refl HW5.out (Ext.refl _), okAll_nil n, by simp, (fun b hb => by cases hb), rdbs_nil w0⟩
  clear hfr c0 c1 c2 SCN HWA HW5
  go_wp2_with fail
  go_loopw [5, 40] (fun fv iv wr => ∃ (i : Nat) (fa : Option Addr) (fc : Nat) (l : List BlkT), i ≤ fs.length ∧ iv = .int .i64 i ∧ fv = .slice fa l.length fc ∧ Hid (RoadI w0 w5 W n (fRed seed) G fa fc l wr)) (fun _ iv _ => fs.length - (intOf iv).toNat)
  case atStart => exact ⟨0, none, 0, [], by omega, rfl, rfl, HI0⟩
  case round =>
    clear HI0
    obtain ⟨i, fa, fc, l, hi, rfl, rfl, HI⟩ := hrel
    have hi0 : (0 : Int) ≤ (i : Int) := Int.natCast_nonneg _
    have hl6 : (l.length : Int) ≤ 6 := by have := HI.out.2.2.1; omega
    obtain ⟨G1, hw1, hk1, hn1⟩ := HI.out.1
    have XR := hid (X5.out.kp hk1 HGN.out)
    have HWR := hid (And.intro hw1 (fun i (hi : G1 i) => show w0.heap.size ≤ i from by
      rcases hn1 i hi with e | e
      · exact HGN.out i e
      · exact Nat.le_trans X5.out.size e))
    have HK1 := hid (And.intro hk1 hn1)
    clear hw1 hk1 hn1
    by_cases hlt : i < fs.length
    · have hltB : decide ((i : Int) < (fs.length : Int)) = true := decide_eq_true (by omega)
      have hil : (i : Int) < (fs.length : Int) := by omega
      obtain ⟨t, hti⟩ : ∃ t, fs[i]? = some t := ⟨_, List.getElem?_eq_getElem hlt⟩
      have HT := hid (HFS2.out t (List.mem_of_getElem? hti))
      have HOKT := hid (errW_okAll.1 HT.out.2.2)
      obtain ⟨b, q, ta, tc, rfl, hrt, e0, hbn⟩ := HFR.out.at hti
      replace e0 := HK1.out.1.cell_some (fun hg => by have := HGL.out b hg; omega) e0
      have HRT := hid hrt
      have ht6 : (t.length : Int) ≤ 6 := by have := HT.out.1; omega
      have HFO := hid (follow_any HWR.out.1 HI.out.2.1 (.slice fa l.length fc) (.slice ta t.length tc) (StD.of_ext HI.out.2.2.2.2 XR.out HWR.out.2) (StD.of_ext HRT.out XR.out HWR.out.2) HI.out.2.2.2.1 HT.out.2.1 (by have := HI.out.2.2.1; omega) (by have := HT.out.1; omega))
      clear hti hrt hbn
      go_wp2_with fail
      refine HFO.out.mono ?_
      rintro e w6 hfp
      rcases hfp with ⟨hez, rfl, hto⟩ | ⟨hez, rfl, hto⟩
      case inr => exact absurd HT.out.2.2 hez
      have HN : Hid (RoadI w0 w5 W n (fRed seed) G ta tc t w6) := hid ⟨hto.trans HK1.out.1 HK1.out.2, HOKT.out, HT.out.1, HT.out.2.1, HRT.out⟩
      clear hez hto HFO e0
      go_wp2_with fail
      go_roundw
      case rel => exact ⟨i + 1, ta, tc, t, by omega, by go_num, rfl, HN⟩
      case measure => simp [intOf]; omega
    have hltB : decide ((i : Int) < (fs.length : Int)) = false := decide_eq_false (by omega)
    obtain rfl : i = fs.length := by omega
    have HOKL := hid HI.out.2.1
    have HE : Hid (∀ u, Ext w0 u → RdBs u u (.slice fa l.length fc) l) := hid fun u k => (HI.out.2.2.2.2.ext k).old k
    have HBL := hid (And.intro HI.out.2.2.1 HI.out.2.2.2.1)
    have HZ := hid (errW_okAll.2 HOKL.out)
    have RS : Hid (∀ u ob FO, Ext w0 u → OrcAt u ob realM FO → Calls Tryz.prog 44 #[.pointer (some ⟨ob, 0, none⟩), rlVal (rl49 (n : Int)), uv seed, .slice fa l.length fc] u (RestP u n seed l)) := hid fun u ob FO k ho => restore_any ho n HD.out.1 (by have := HD.out.2; omega) seed _ l (HE.out u k) (by have := HBL.out.1; omega) HBL.out.2
    have XRR := hid (Ext.refl wr)
    have HC2 : Hid (∀ u, Ext wr u → (u.cell? ⟨N, 0, none⟩ = some (.int .i64 (n : Int)) ∧ u.cell? ⟨N, 1, none⟩ = some (uv seed) ∧ u.cell? ⟨N, 2, none⟩ = some (.slice oa ls.length oc)) ∧ Ext wr u) := hid fun u k => ⟨(HC.out u (XR.out.trans k)).1, k⟩
    clear HI HK1 hlt
    go_wp2_with fail
    refine wp_region_T (fun u => (u.cell? ⟨N, 0, none⟩ = some (.int .i64 (n : Int)) ∧ u.cell? ⟨N, 1, none⟩ = some (uv seed) ∧ u.cell? ⟨N, 2, none⟩ = some (.slice oa ls.length oc)) ∧ Ext wr u) 12 [(1, true), (2, true), (4, true), (5, true), (6, true), (0, false), (3, false), (7, false), (8, true), (9, true), (10, true), (11, true), (12, false)] (by kernel_rfl) (by kernel_rfl) (by intro c a d v w h; cases d <;> exact h) ?_
    intro ops hops
    have HS0 := HC2.out _ (XRR.out.trans (Ext.refl _).drew)
    iterate 5
      refine wpT_take (v := ?_) (by rw [hops, List.getElem?_toArray]; rfl) (by first | rfl | (rw [hops]; rfl)) ?_ HS0 ?_
      rotate_left
      · intro v h; go_simp; with_reducible rfl
      simp only [Act.put, List.getElem_toArray, List.getElem_cons_zero, List.getElem_cons_succ, List.setIfInBounds_toArray, List.set_cons_zero, List.set_cons_succ]
    refine wpT_step (by rw [hops, List.getElem?_toArray]; rfl) (by first | rfl | (rw [hops]; rfl)) ?_
    intro K hK
    go_wp2_with fail
    refine (Real_any _).mono ?_
    rintro e z0 ⟨ob, FO, rfl, ho, hx, -⟩
    have HO := hid ho
    have HS1 := HC2.out z0 (HS0.2.trans hx)
    clear ho hx HS0
    refine hK _ _ ⟨fun _ => HS1, ?_⟩
    clear hK K
    refine wpT_step (by rw [hops, List.getElem?_toArray]; rfl) (by first | rfl | (rw [hops]; rfl)) ?_
    intro K hK
    go_wp2_with fail
    refine (HRL.out _).mono ?_
    rintro e z1 ⟨rfl, hx⟩
    have HO2 := hid (HO.out.ext hx)
    have HS2 := HC2.out z1 (HS1.2.trans hx)
    clear hx HS1 HO
    refine hK _ _ ⟨fun _ => HS2, ?_⟩
    clear hK K
    refine wpT_step (by rw [hops, List.getElem?_toArray]; rfl) (by first | rfl | (rw [hops]; rfl)) ?_
    intro K hK
    go_wp2_with fail
    refine (RS.out _ ob FO (XR.out.trans HS2.2) HO2.out).mono ?_
    rintro e z2 hrp
    rcases hrp with ⟨hez, V, GV, rfl, hwa, hgn, hx⟩ | ⟨hez, rfl, hx⟩
    case inr => exact absurd HZ.out hez
    have HVA := hid (And.intro hwa (fun i (hi : GV i) => Nat.le_trans (XR.out.trans HS2.2).size (hgn i hi)))
    have HS3 := HC2.out z2 (HS2.2.trans hx)
    clear hez hwa hgn hx HS2 RS HO2
    refine hK _ _ ⟨fun _ => HS3, ?_⟩
    clear hK K
    iterate 4
      refine wpT_take (v := ?_) (by rw [hops, List.getElem?_toArray]; rfl) (by first | rfl | (rw [hops]; rfl)) ?_ HS3 ?_
      rotate_left
      · intro v h; go_simp; with_reducible rfl
      simp only [Act.put, List.getElem_toArray, List.getElem_cons_zero, List.getElem_cons_succ, List.setIfInBounds_toArray, List.set_cons_zero, List.set_cons_succ]
    refine wpT_step (by rw [hops, List.getElem?_toArray]; rfl) (by first | rfl | (rw [hops]; rfl)) ?_
    intro K hK
    go_wp2_with fail
    try (with_reducible refine ⟨fun h => absurd h (by decide), ?_⟩)
    try rw [wpT_nil]
    try clear hops ops
    have X8 := hid HS3.2
    clear HS3
    have XW := hid (XR.out.trans X8.out)
    have SA : Hid (∀ u, Ext z2 u → Calls Tryz.prog 52 #[.pointer (some ⟨W, 0, none⟩), .pointer (some ⟨V, 0, none⟩)] u fun e w' => e = .returned (.bool true) ∧ Ext u w') := hid fun u k => by
      have := recSame_any (HWR.out.1.ext (X8.out.trans k)) (HVA.out.1.ext k) HOKL.out HOKL.out
      rwa [show decide (encW (fRed seed) l = encW (fRed seed) l) = true from decide_eq_true rfl] at this
    have IS : Hid (∀ u, Ext z2 u → Calls Tryz.prog 48 #[.pointer (some ⟨W, 0, none⟩), uv seed, .slice fa l.length fc] u fun e w' => e = .returned (.bool true) ∧ Ext u w') := hid fun u k => is51_any (HWR.out.1.ext (X8.out.trans k)) HOKL.out _ (HE.out _ (XW.out.trans k)) (by have := HBL.out.1; omega) HBL.out.2
    clear HVA HC2
    go_wp2_with fail
    refine (SA.out _ (Ext.refl z2)).mono ?_
    rintro e wa ⟨rfl, hx⟩
    have XA := hid hx
    clear hx SA
    obtain ⟨⟨c0, c1, c2⟩, -⟩ := HC.out _ (XW.out.trans XA.out)
    go_wp2_with fail
    refine (IS.out _ XA.out).mono ?_
    rintro e wb ⟨rfl, hx⟩
    have XB := hid (XA.out.trans hx)
    clear hx IS c0 c1 c2
    go_wp2_with fail
    go_ret
    exact ⟨rfl, HX0.out.trans (XW.out.trans XB.out)⟩
end Go.Proofs.YtcikjcjfcanloaaGreat
