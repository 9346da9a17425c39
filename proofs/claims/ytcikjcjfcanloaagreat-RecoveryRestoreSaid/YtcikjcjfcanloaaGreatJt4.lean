/- Texts of this claim, joined: L51Res. -/
import Derived.Test.YtcikjcjfcanloaaGreatJr1
import Derived.Test.YtcikjcjfcanloaaGreatJr10
import Derived.Test.YtcikjcjfcanloaaGreatJr11
import Derived.Test.YtcikjcjfcanloaaGreatJr12
import Derived.Test.YtcikjcjfcanloaaGreatJr13
import Derived.Test.YtcikjcjfcanloaaGreatJr14
import Derived.Test.YtcikjcjfcanloaaGreatJr15
import Derived.Test.YtcikjcjfcanloaaGreatJr16
import Derived.Test.YtcikjcjfcanloaaGreatJr17
import Derived.Test.YtcikjcjfcanloaaGreatJr18
import Derived.Test.YtcikjcjfcanloaaGreatJr19
import Derived.Test.YtcikjcjfcanloaaGreatJr2
import Derived.Test.YtcikjcjfcanloaaGreatJr20
import Derived.Test.YtcikjcjfcanloaaGreatJr21
import Derived.Test.YtcikjcjfcanloaaGreatJr22
import Derived.Test.YtcikjcjfcanloaaGreatJr23
import Derived.Test.YtcikjcjfcanloaaGreatJr24
import Derived.Test.YtcikjcjfcanloaaGreatJr25
import Derived.Test.YtcikjcjfcanloaaGreatJr3
import Derived.Test.YtcikjcjfcanloaaGreatJr4
import Derived.Test.YtcikjcjfcanloaaGreatJr5
import Derived.Test.YtcikjcjfcanloaaGreatJr6
import Derived.Test.YtcikjcjfcanloaaGreatJr7
import Derived.Test.YtcikjcjfcanloaaGreatJr8
import Derived.Test.YtcikjcjfcanloaaGreatJr9
import Derived.Test.YtcikjcjfcanloaaGreatJt1
set_option linter.unusedSimpArgs false
namespace Go.Proofs.YtcikjcjfcanloaaGreat
open Go.RowKit
attribute [local irreducible] perm fAdd fMul fPow fSub fNeg fRed hashU drawOf nextState
set_option maxRecDepth 100000 in
set_option maxHeartbeats 25600000 in
theorem recoveryRestore_any (d : Int) (seed : UInt64) (lv : Value) (ls : List (List BlkT)) (w : World) (h : RdBL w lv ls) :
    Calls Tryz.prog 12 #[.agg #[.int .i64 d, uv seed, lv]] w fun e w' => e = .returned (.bool true) ∧ Ext w w' := by
  have HH := hid h
  have AW := hid awake51_any
  have RG : Hid (∀ u, Ext w u → Calls Tryz.prog 45 #[.agg #[.int .i64 d, uv seed, lv]] u fun e w' => e = .returned (.bool (rightW d ls)) ∧ Ext u w') := hid fun u k => right51_any d seed lv ls u (h.ext k)
  obtain ⟨oa, oc, rfl, -⟩ := h.shape
  obtain ⟨S, hS⟩ : ∃ S, S = rightW d ls := ⟨_, rfl⟩
  rw [← hS] at RG
  have HS := hid hS
  obtain ⟨N, hN⟩ : ∃ N, N = w.heap.size := ⟨_, rfl⟩
  obtain ⟨w0, hw0⟩ : ∃ w0, w0 = w.alloc (.cells #[.int .i64 d, uv seed, .slice oa ls.length oc] 83) := ⟨_, rfl⟩
  have hx0 : Ext w w0 := by rw [hw0]; exact (Ext.refl w).alloc _
  have hb0 : w0.heap[N]? = some (.cells #[.int .i64 d, uv seed, .slice oa ls.length oc] 83 (0, 0)) := by rw [hw0, hN]; exact heap_new _ _
  have HX0 := hid hx0
  have HW := hid hw0
  have HC : Hid (∀ u, Ext w0 u → (u.cell? ⟨N, 0, none⟩ = some (.int .i64 d) ∧ u.cell? ⟨N, 1, none⟩ = some (uv seed) ∧ u.cell? ⟨N, 2, none⟩ = some (.slice oa ls.length oc)) ∧ Ext w0 u) := hid fun u k => ⟨⟨cell_of (k.heap_some hb0) 0, cell_of (k.heap_some hb0) 1, cell_of (k.heap_some hb0) 2⟩, k⟩
  clear h hw0 hx0 hb0 hS
  go_enter Tryz.func12, Tryz.ntmps12
  go_upto_region 1 with fail
  rw [← HW.out, ← hN]
  clear hN HW
  go_wp2_with fail
  refine (AW.out _).mono ?_
  rintro e w1 ⟨rfl, hx⟩
  have X1 := hid hx
  clear hx
  obtain ⟨⟨c0, c1, c2⟩, -⟩ := HC.out w1 X1.out
  go_wp2_with fail
  refine (RG.out _ (HX0.out.trans X1.out)).mono ?_
  rintro e w2 ⟨rfl, hx⟩
  have X2 := hid (X1.out.trans hx)
  clear hx RG c0 c1 c2
  cases S with
  | false =>
    go_wp2_with fail
    refine (AW.out _).mono ?_
    rintro e w3 ⟨rfl, hx⟩
    have X3 := hid (X2.out.trans hx)
    clear hx AW
    go_wp2_with fail
    go_ret
    exact ⟨rfl, HX0.out.trans X3.out⟩
  | true =>
    obtain ⟨n, rfl, h1, h6, hl6, hbs⟩ := right_facts HS.out.symm
    have HD := hid (And.intro h1 h6)
    have HBS := hid hbs
    have hlI : (ls.length : Int) ≤ 6 := by omega
    have HRL := hid (rules51_any (n : Int))
    obtain ⟨⟨c0, c1, c2⟩, -⟩ := HC.out w2 X2.out
    clear AW h1 h6 hl6 hbs
    go_wp2_with fail
    clear c0 c1 c2
    go_loopw [19] (fun iv wr => ∃ i : Nat, i ≤ ls.length ∧ iv = .int .i64 i ∧ Hid (Ext w0 wr)) (fun iv _ => ls.length - (intOf iv).toNat)
    case atStart => exact ⟨0, by omega, rfl, X2⟩
    case round =>
      obtain ⟨i, hi, rfl, HX⟩ := hrel
      have hi0 : (0 : Int) ≤ (i : Int) := Int.natCast_nonneg _
      by_cases hlt : i < ls.length
      case neg =>
        have hltB : decide ((i : Int) < (ls.length : Int)) = false := decide_eq_false (by omega)
        obtain rfl : i = ls.length := by omega
        go_wp2_with fail
        go_ret
        exact ⟨rfl, HX0.out.trans HX.out⟩
      have hltB : decide ((i : Int) < (ls.length : Int)) = true := decide_eq_true (by omega)
      have hil : (i : Int) < (ls.length : Int) := by omega
      obtain ⟨l, hli⟩ : ∃ l, ls[i]? = some l := ⟨_, List.getElem?_eq_getElem hlt⟩
      have HBL := hid (HBS.out l (List.mem_of_getElem? hli))
      obtain ⟨gg, q, la, lc, rfl, hrl, e0⟩ := HH.out.at hli
      have HE : Hid (∀ u, Ext w0 u → RdBs u u (.slice la l.length lc) l) := hid fun u k => (hrl.ext (HX0.out.trans k)).old (HX0.out.trans k)
      replace e0 := (HX0.out.trans HX.out).cell_some e0
      clear hli hrl
      have RS : Hid (∀ u ob FO, Ext w0 u → OrcAt u ob realM FO → Calls Tryz.prog 44 #[.pointer (some ⟨ob, 0, none⟩), rlVal (rl49 (n : Int)), uv seed, .slice la l.length lc] u (RestP u n seed l)) := hid fun u ob FO k ho => restore_any ho n HD.out.1 (by have := HD.out.2; omega) seed _ l (HE.out u k) (by have := HBL.out.1; omega) HBL.out.2
      have ER : Hid (∀ u, Ext w0 u → Calls Tryz.prog 47 #[.int .i64 (n : Int), .slice la l.length lc] u fun e w' => e = .returned (.int .i64 (errW n l)) ∧ Ext u w') := hid fun u k => rErr51_any n (by have := HD.out.2; omega) _ l u (HE.out u k) (by have := HBL.out.1; omega) HBL.out.2
      go_wp2_with fail
      clear e0
      refine wp_region_T (fun u => (u.cell? ⟨N, 0, none⟩ = some (.int .i64 (n : Int)) ∧ u.cell? ⟨N, 1, none⟩ = some (uv seed) ∧ u.cell? ⟨N, 2, none⟩ = some (.slice (some ⟨gg, q, none⟩) ls.length oc)) ∧ Ext w0 u) 12 [(1, true), (2, true), (4, true), (5, true), (6, true), (0, false), (3, false), (7, false), (8, true), (9, true), (10, true), (11, true), (12, false)] (by kernel_rfl) (by kernel_rfl) (by intro c a d v w h; cases d <;> exact h) ?_
      intro ops hops
      have HS0 := HC.out _ (HX.out.trans (Ext.refl wr).drew)
      iterate 5
        refine wpT_take (v := ?_) (by rw [hops, List.getElem?_toArray]; rfl) (by first | rfl | (rw [hops]; rfl)) ?_ HS0 ?_
        rotate_left
        · intro v h; go_simp; with_reducible rfl
        simp only [Act.put, List.getElem_toArray, List.getElem_cons_zero, List.getElem_cons_succ, List.setIfInBounds_toArray, List.set_cons_zero, List.set_cons_succ]
      refine wpT_step (by rw [hops, List.getElem?_toArray]; rfl) (by first | rfl | (rw [hops]; rfl)) ?_
      intro K hK
      go_wp2_with fail
      refine (Real_any _).mono ?_
      rintro e w4 ⟨ob, FO, rfl, ho, hx, -⟩
      have HO := hid ho
      have HS1 := HC.out w4 (HS0.2.trans hx)
      clear ho hx HS0
      refine hK _ _ ⟨fun _ => HS1, ?_⟩
      clear hK K
      refine wpT_step (by rw [hops, List.getElem?_toArray]; rfl) (by first | rfl | (rw [hops]; rfl)) ?_
      intro K hK
      go_wp2_with fail
      refine (HRL.out _).mono ?_
      rintro e w5 ⟨rfl, hx⟩
      have HO2 := hid (HO.out.ext hx)
      have HS2 := HC.out w5 (HS1.2.trans hx)
      clear hx HS1 HO
      refine hK _ _ ⟨fun _ => HS2, ?_⟩
      clear hK K
      refine wpT_step (by rw [hops, List.getElem?_toArray]; rfl) (by first | rfl | (rw [hops]; rfl)) ?_
      intro K hK
      go_wp2_with fail
      refine (RS.out _ ob FO HS2.2 HO2.out).mono ?_
      rintro e w6 hrp
      rcases hrp with ⟨hez, W, G, rfl, hwa, -, hx⟩ | ⟨hez, rfl, hx⟩
      · have HWA := hid (And.intro hez hwa)
        have HS3 := HC.out w6 (HS2.2.trans hx)
        rw [hez] at ER
        clear hez hwa hx HS2 RS HO2
        refine hK _ _ ⟨fun _ => HS3, ?_⟩
        clear hK K
        iterate 4
          refine wpT_take (v := ?_) (by rw [hops, List.getElem?_toArray]; rfl) (by first | rfl | (rw [hops]; rfl)) ?_ HS3 ?_
          rotate_left
          · intro v h; go_simp; with_reducible rfl
          simp only [Act.put, List.getElem_toArray, List.getElem_cons_zero, List.getElem_cons_succ, List.setIfInBounds_toArray, List.set_cons_zero, List.set_cons_succ]
        refine wpT_step (by rw [hops, List.getElem?_toArray]; rfl) (by first | rfl | (rw [hops]; rfl)) ?_
        intro K hK
        go_wp2_with fail
        try (with_reducible refine ⟨fun h => absurd h (by decide), ?_⟩)
        try rw [wpT_nil]
        try clear hops ops
        have X6 := hid HS3.2
        obtain ⟨⟨c0, c1, c2⟩, -⟩ := HS3
        go_wp2_with fail
        refine (ER.out _ X6.out).mono ?_
        rintro e w7 ⟨rfl, hx⟩
        have X7 := hid (X6.out.trans hx)
        have IS := hid (is51_any (HWA.out.2.ext hx) (errW_okAll.1 HWA.out.1) _ (HE.out _ X7.out) (by have := HBL.out.1; omega) HBL.out.2)
        clear hx ER c0 c1 c2
        obtain ⟨⟨c0, c1, c2⟩, -⟩ := HC.out w7 X7.out
        go_wp2_with fail
        refine (IS.out).mono ?_
        rintro e w8 ⟨rfl, hx⟩
        have X8 := hid (X7.out.trans hx)
        clear hx IS c0 c1 c2
        go_wp2_with fail
        go_roundw
        case rel => exact ⟨i + 1, by omega, by go_num, X8⟩
        case measure => simp [intOf]; omega
      · have HS3 := HC.out w6 (HS2.2.trans hx)
        obtain ⟨C, hC⟩ : ∃ C, C = errW n l := ⟨_, rfl⟩
        rw [← hC] at ER hez
        have hCB : decide (C = 0) = false := decide_eq_false hez
        have hCB2 : (C == 0) = false := by rw [beq_eq_false_iff_ne]; exact hez
        have hCB3 : (C != 0) = true := by rw [bne_iff_ne]; exact hez
        try rw [← hC]
        clear hez hx HS2 RS HO2 hC
        refine hK _ _ ⟨fun _ => HS3, ?_⟩
        clear hK K
        iterate 4
          refine wpT_take (v := ?_) (by rw [hops, List.getElem?_toArray]; rfl) (by first | rfl | (rw [hops]; rfl)) ?_ HS3 ?_
          rotate_left
          · intro v h; go_simp; with_reducible rfl
          simp only [Act.put, List.getElem_toArray, List.getElem_cons_zero, List.getElem_cons_succ, List.setIfInBounds_toArray, List.set_cons_zero, List.set_cons_succ]
        refine wpT_step (by rw [hops, List.getElem?_toArray]; rfl) (by first | rfl | (rw [hops]; rfl)) ?_
        intro K hK
        go_wp2_with fail
        try (with_reducible refine ⟨fun h => absurd h (by decide), ?_⟩)
        try rw [wpT_nil]
        try clear hops ops
        have X6 := hid HS3.2
        obtain ⟨⟨c0, c1, c2⟩, -⟩ := HS3
        go_wp2_with fail
        refine (ER.out _ X6.out).mono ?_
        rintro e w7 ⟨rfl, hx⟩
        have X7 := hid (X6.out.trans hx)
        clear hx ER c0 c1 c2
        go_wp2_with fail
        go_roundw
        case rel => exact ⟨i + 1, by omega, by go_num, X7⟩
        case measure => simp [intOf]; omega
end Go.Proofs.YtcikjcjfcanloaaGreat
