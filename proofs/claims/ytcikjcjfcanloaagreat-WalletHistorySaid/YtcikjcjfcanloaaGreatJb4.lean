/- Texts of this claim, joined: L49His. -/
import Derived.Test.YtcikjcjfcanloaaGreatJa24
import Derived.Test.YtcikjcjfcanloaaGreatJb1
set_option linter.unusedSimpArgs false
namespace Go.Proofs.YtcikjcjfcanloaaGreat
open Go.RowKit
attribute [local irreducible] perm fAdd fMul fPow fSub fNeg fRed hashU drawOf nextState cipSeal
theorem fRed_tmod (seed : UInt64) : ((seed.toNat : Int)).tmod 18446744069414584321 = ((fRed seed).toNat : Int) := by rw [Int.tmod_eq_emod_of_nonneg (Int.natCast_nonneg _), fRed_toNat]; rfl
set_option maxRecDepth 100000 in
set_option maxHeartbeats 25600000 in
theorem walletHistory_any (seed : UInt64) (d : Int) (ov : Value) (ops : List OpT) (w : World) (h : RdWops w ov ops) :
    Calls Tryz.prog 9 #[uv seed, .agg #[.int .i64 d, ov]] w fun e w' => e = .returned (.bool true) ∧ Ext w w' := by
  have HH := hid h
  have AW := hid awake49_any
  have SM : Hid (∀ u, Ext w u → Calls Tryz.prog 19 #[.int .i64 d, ov] u fun e w' => e = .returned (.bool (smallW d ops)) ∧ Ext u w') := hid fun u k => small49_any d ov ops u (h.ext k)
  obtain ⟨oa, oc, rfl, -⟩ := h.shape
  obtain ⟨N, hN⟩ : ∃ N, N = w.heap.size := ⟨_, rfl⟩
  obtain ⟨w0, hw0⟩ : ∃ w0, w0 = w.alloc (.cells #[.int .i64 d, .slice oa ops.length oc] 25) := ⟨_, rfl⟩
  have hx0 : Ext w w0 := by rw [hw0]; exact (Ext.refl w).alloc _
  have hb0 : w0.heap[N]? = some (.cells #[.int .i64 d, .slice oa ops.length oc] 25 (0, 0)) := by rw [hw0, hN]; exact heap_new _ _
  have HB := hid hb0
  have HX0 := hid hx0
  have HW := hid hw0
  obtain ⟨S, hS⟩ : ∃ S, S = smallW d ops := ⟨_, rfl⟩
  rw [← hS] at SM
  have HS := hid hS
  have HC : Hid (∀ u, Ext w0 u → u.cell? ⟨N, 0, none⟩ = some (.int .i64 d) ∧ u.cell? ⟨N, 1, none⟩ = some (.slice oa ops.length oc)) := hid fun u k => ⟨cell_of (k.heap_some HB.out) 0, cell_of (k.heap_some HB.out) 1⟩
  clear h hw0 hx0 hb0 hS
  go_enter Tryz.func9, Tryz.ntmps9
  go_upto_region 1 with fail
  rw [← HW.out, ← hN]
  clear hN HW
  go_wp2_with fail
  refine (AW.out _).mono ?_
  rintro e w1 ⟨rfl, hx⟩
  have X1 := hid hx
  clear hx
  obtain ⟨c0, c1⟩ := HC.out w1 X1.out
  go_wp2_with fail
  refine (SM.out _ (HX0.out.trans X1.out)).mono ?_
  rintro e w2 ⟨rfl, hx⟩
  have X2 := hid (X1.out.trans hx)
  clear hx SM c0 c1
  cases S with
  | false =>
    go_wp2_with fail
    refine (AW.out _).mono ?_
    rintro e w3 ⟨rfl, hx⟩
    have X3 := hid (X2.out.trans hx)
    clear hx AW
    go_wp2_with fail
    go_ret
    exact ⟨rfl, HX0.out.trans X3.out⟩
  | true =>
    clear AW
    obtain ⟨n, rfl, h1, h6, h8, hbs⟩ := small_facts HS.out.symm
    have HD := hid (And.intro h1 h6)
    have PL := hid (play49_any n h1 (by omega) seed (.slice oa ops.length oc) ops w2 (HH.out.ext (HX0.out.trans X2.out)) hbs (by omega))
    have HOK := hid (playW_ok n ops)
    have HLE : Hid ((playW n ops).length ≤ 8) := hid (Nat.le_trans playW_len h8)
    have HMB : Hid (∀ b ∈ playW n ops, BSm b) := hid fun b hb => by
      obtain ⟨o, ho, rfl⟩ := playW_mem hb
      exact hbs o ho
    have HVL := hid (okAll_valid (playW_ok n ops))
    have HLN : Hid ((stW seed (playW n ops)).leaves.length ≤ 10000) := hid (by
      have h2 := fitsAll_stW ((okAll_fits (seed := seed)).2 (playW_ok n ops))
      have h3 := pow12 (d := n) (by omega)
      omega)
    obtain ⟨l, hl⟩ : ∃ l, l = playW n ops := ⟨_, rfl⟩
    rw [← hl] at PL HOK HLE HMB HVL HLN
    obtain ⟨c0, c1⟩ := HC.out w2 X2.out
    clear hl h1 h6 h8 hbs HH
    go_wp2_with fail
    refine (PL.out).mono ?_
    rintro e w3 ⟨W, lv, rfl, G, hwal, hgn, hrd, hng, hx⟩
    have HWAL := hid (And.intro hwal (hrd.old hx))
    have HXW := hid (HX0.out.trans (X2.out.trans hx))
    have X3B := hid (X2.out.trans hx)
    have HGN := hid hgn
    obtain ⟨la, lc, rfl, -⟩ := hrd.shape
    clear hwal hgn hrd hng hx c0 c1 PL
    have HSV : Hid (∀ u, Ext w3 u → (u.cell? ⟨N, 0, none⟩ = some (.int .i64 (n : Int)) ∧ u.cell? ⟨N, 1, none⟩ = some (.slice oa ops.length oc)) ∧ Ext w3 u) := hid fun u k => ⟨HC.out u (X3B.out.trans k), k⟩
    have HRL := hid (rules49_any (n : Int))
    have hsm := fRed_tmod seed
    obtain ⟨s, hs⟩ : ∃ s, s = fRed seed := ⟨_, rfl⟩
    rw [← hs] at hsm HWAL
    have HSD := hid hs
    have HNW : Hid (∀ u ob FO, OrcAt u ob realM FO → Calls Tryz.prog 27 #[.pointer (some ⟨ob, 0, none⟩), rlVal (rl49 (n : Int)), uv s] u fun e w' => ∃ W G, e = .returned (.tuple #[.pointer (some ⟨W, 0, none⟩), .int .i64 0]) ∧ Ext u w' ∧ WalAt w' W n s [] G ∧ ∀ i, G i → u.heap.size ≤ i) := hid fun u ob FO ho => by
      have h := walNew_any ho (rl49 (n : Int)) n rfl HD.out.1 (by have := HD.out.2; omega) (by show (2 : Int) ≠ 3; omega) s (txRules49_any n HD.out.1 (by have := HD.out.2; omega))
      rw [show fRed s = s by rw [HSD.out, fRed_fRed]] at h
      exact h
    clear hs
    go_wp2_with fail
    refine wp_region_T (fun u => (u.cell? ⟨N, 0, none⟩ = some (.int .i64 (n : Int)) ∧ u.cell? ⟨N, 1, none⟩ = some (.slice oa ops.length oc)) ∧ Ext w3 u) 11 [(1, true), (2, true), (4, true), (5, true), (0, false), (3, false), (6, false), (7, true), (8, true), (9, true), (10, true), (11, false)] (by kernel_rfl) (by kernel_rfl) (by intro c a d v w h; cases d <;> exact h) ?_
    intro ops hops
    have HS0 := HSV.out _ (Ext.refl w3).drew
    iterate 4
      refine wpT_take (v := ?_) (by rw [hops, List.getElem?_toArray]; rfl) (by first | rfl | (rw [hops]; rfl)) ?_ HS0 ?_
      rotate_left
      · intro v h; go_simp; with_reducible rfl
      simp only [Act.put, List.getElem_toArray, List.getElem_cons_zero, List.getElem_cons_succ, List.setIfInBounds_toArray, List.set_cons_zero, List.set_cons_succ]
    clear hsm
    refine wpT_step (by rw [hops, List.getElem?_toArray]; rfl) (by first | rfl | (rw [hops]; rfl)) ?_
    intro K hK
    go_wp2_with fail
    refine (Real_any _).mono ?_
    rintro e w4 ⟨ob, FO, rfl, ho, hx, -⟩
    have HO := hid ho
    have HS1 := HSV.out w4 (HS0.2.trans hx)
    clear ho hx HS0
    refine hK _ _ ⟨fun _ => HS1, ?_⟩
    clear hK K
    refine wpT_step (by rw [hops, List.getElem?_toArray]; rfl) (by first | rfl | (rw [hops]; rfl)) ?_
    intro K hK
    go_wp2_with fail
    refine (HRL.out _).mono ?_
    rintro e w5 ⟨rfl, hx⟩
    have HO2 := hid (HO.out.ext hx)
    have HS2 := HSV.out w5 (HS1.2.trans hx)
    clear hx HS1 HRL HO
    refine hK _ _ ⟨fun _ => HS2, ?_⟩
    clear hK K
    refine wpT_step (by rw [hops, List.getElem?_toArray]; rfl) (by first | rfl | (rw [hops]; rfl)) ?_
    intro K hK
    go_wp2_with fail
    refine (HNW.out _ _ _ HO2.out).mono ?_
    rintro e w6 ⟨W2, G2, rfl, hx, hw, hg⟩
    have HS3 := HSV.out w6 (HS2.2.trans hx)
    have HW2 : Hid (WalAt w6 W2 n s [] G2 ∧ (∀ j, G2 j → w3.heap.size ≤ j)) := hid ⟨hw, fun j hj => Nat.le_trans HS2.2.size (hg j hj)⟩
    clear hx hw hg HS2 HNW HO2
    refine hK _ _ ⟨fun _ => HS3, ?_⟩
    clear hK K
    iterate 4
      refine wpT_take (v := ?_) (by rw [hops, List.getElem?_toArray]; rfl) (by first | rfl | (rw [hops]; rfl)) ?_ HS3 ?_
      rotate_left
      · intro v h; go_simp; with_reducible rfl
      simp only [Act.put, List.getElem_toArray, List.getElem_cons_zero, List.getElem_cons_succ, List.setIfInBounds_toArray, List.set_cons_zero, List.set_cons_succ]
    refine wpT_step (by rw [hops, List.getElem?_toArray]; rfl) (by first | rfl | (rw [hops]; rfl)) ?_
    intro K hK
    go_wp2_with fail
    try (with_reducible refine ⟨fun h => absurd h (by decide), ?_⟩)
    try rw [wpT_nil]
    try clear hops ops
    have X6 := hid HS3.2
    clear HS3
    go_wp2_with fail
    have hlI : (l.length : Int) ≤ 8 := by have := HLE.out; omega
    go_loopw [55] (fun iv wr => ∃ i : Nat, i ≤ l.length ∧ iv = .int .i64 i ∧ Hid (∃ G, WalAt wr W2 n s (l.take i) G ∧ (∀ j, G j → w3.heap.size ≤ j) ∧ Ext w3 wr)) (fun iv _ => l.length - (intOf iv).toNat)
    case atStart => exact ⟨0, by omega, rfl, hid ⟨G2, HW2.out.1, HW2.out.2, X6.out⟩⟩
    case round =>
      obtain ⟨i, hi, rfl, HI⟩ := hrel
      have hi0 : (0 : Int) ≤ (i : Int) := Int.natCast_nonneg _
      obtain ⟨G, hwa, hgn, hxr⟩ := HI.out
      by_cases hlt : i < l.length
      · have hltB : decide ((i : Int) < (l.length : Int)) = true := by simp; omega
        have hil : (i : Int) < (l.length : Int) := by omega
        obtain ⟨x, hxi⟩ : ∃ x, l[i]? = some x := ⟨_, List.getElem?_eq_getElem hlt⟩
        obtain ⟨b, q, ta, tc, rfl, htx, e0, e1, e2, e3, e4, e5⟩ := HWAL.out.2.at hxi
        replace e0 := hxr.cell_some e0
        replace e1 := hxr.cell_some e1
        replace e2 := hxr.cell_some e2
        replace e3 := hxr.cell_some e3
        replace e4 := hxr.cell_some e4
        replace e5 := hxr.cell_some e5
        have HTX := hid htx
        have HBX := hid (HMB.out x (List.mem_of_getElem? hxi))
        have HCK := hid (HOK.out i x hxi)
        have HTK : Hid (l.take (i + 1) = l.take i ++ [x]) := hid (by rw [List.take_add_one, hxi]; rfl)
        have HWA := hid (And.intro hwa (And.intro hgn hxr))
        have HTL : Hid ((l.take i).length ≤ 1000) := hid (by rw [List.length_take]; have := HLE.out; omega)
        clear hxi htx hwa hgn hxr
        go_upto_region 10 with fail
        obtain ⟨Q, hQ⟩ : ∃ Q, Q = wr.heap.size := ⟨_, rfl⟩
        obtain ⟨u1, hu1⟩ : ∃ u1, u1 = wr.alloc (.cells #[uv x.parent, .int .i64 x.height, uv x.miner, uv x.work, uv x.nonce, .slice ta x.txs.length tc] 75) := ⟨_, rfl⟩
        rw [← hu1, ← hQ]
        have G1 : Hid (Ext wr u1) := hid (by rw [hu1]; exact (Ext.refl wr).alloc _)
        have hqb : u1.heap[Q]? = some (.cells #[uv x.parent, .int .i64 x.height, uv x.miner, uv x.work, uv x.nonce, .slice ta x.txs.length tc] 75 (0, 0)) := by rw [hu1, hQ]; exact heap_new _ _
        have APP : Hid (Calls Tryz.prog 42 #[.pointer (some ⟨W2, 0, none⟩), blkVal x (.slice ta x.txs.length tc)] u1 fun e w' => e = .returned (.int .i64 0) ∧ WalTo u1 W2 n s (l.take (i + 1)) G w') := hid (by
          have := wApply_any (HWA.out.1.ext G1.out) HTL.out (okAll_take HOK.out i) (HWA.out.2.2.trans G1.out) HWA.out.2.1 x (.slice ta x.txs.length tc) HTX.out HBX.out.n HBX.out.t
          rw [HCK.out, if_pos rfl, ← HTK.out] at this
          exact this)
        clear hu1 hQ e0 e1 e2 e3 e4 e5
        obtain ⟨c0, c1, c2, c3, c4, c5⟩ := six_cellsB hqb
        clear hqb
        go_wp2_with fail
        refine (APP.out).mono ?_
        rintro e u2 ⟨rfl, hto⟩
        have HN : Hid (∃ G, WalAt u2 W2 n s (l.take (i + 1)) G ∧ (∀ j, G j → w3.heap.size ≤ j) ∧ Ext w3 u2) := hid (by
          obtain ⟨G', g1, g2, g3⟩ := hto
          have h1 := (HWA.out.2.2.trans G1.out).size
          refine ⟨G', g1, fun j hj => ?_, (HWA.out.2.2.trans G1.out).kp g2 HWA.out.2.1⟩
          rcases g3 j hj with e | e
          · exact HWA.out.2.1 j e
          · omega)
        clear hto APP c0 c1 c2 c3 c4 c5
        go_wp2_with fail
        go_roundw
        case rel => exact ⟨i + 1, by omega, by go_num, HN⟩
        case measure => simp [intOf]; omega
      · have hltB : decide ((i : Int) < (l.length : Int)) = false := by simp; omega
        obtain rfl : i = l.length := by omega
        rw [List.take_length] at hwa
        have ENC1 : Hid (∀ u, Ext wr u → Calls Tryz.prog 39 #[.pointer (some ⟨W, 0, none⟩)] u (NewB u (walB l.length (stW s l).leaves (stW s l).notes))) := hid fun u k => wEncode_any (HWAL.out.1.ext (hxr.trans k)) HOK.out
        have ENC2 : Hid (∀ u, Ext wr u → Calls Tryz.prog 39 #[.pointer (some ⟨W2, 0, none⟩)] u (NewB u (walB l.length (stW s l).leaves (stW s l).notes))) := hid fun u k => wEncode_any (hwa.ext k) HOK.out
        have HXF := hid (HXW.out.trans hxr)
        generalize walB l.length (stW s l).leaves (stW s l).notes = BB at *
        clear hwa hgn hxr HI
        go_wp2_with fail
        refine wp_region_N (fun u => Ext wr u) 6 8 (by kernel_rfl) (by kernel_rfl) ?_
        intro ops hops
        have HS0 : Ext wr wr.drew := (Ext.refl wr).drew
        refine N_take (i := 0) (v := ?_) (by rw [hops, List.getElem?_toArray]; rfl) (by rw [hops]; kernel_rfl) (by intro c a d v w h; cases d <;> exact h) (by first | rfl | (rw [hops]; rfl)) ?_ HS0 ?_
        rotate_left
        · intro v h; go_simp; with_reducible rfl
        simp only [Act.put, List.getElem_toArray, List.getElem_cons_zero, List.getElem_cons_succ, List.setIfInBounds_toArray, List.set_cons_zero, List.set_cons_succ]
        refine N_take (i := 3) (v := ?_) (by rw [hops, List.getElem?_toArray]; rfl) (by rw [hops]; kernel_rfl) (by intro c a d v w h; cases d <;> exact h) (by first | rfl | (rw [hops]; rfl)) ?_ HS0 ?_
        rotate_left
        · intro v h; go_simp; with_reducible rfl
        simp only [Act.put, List.getElem_toArray, List.getElem_cons_zero, List.getElem_cons_succ, List.setIfInBounds_toArray, List.set_cons_zero, List.set_cons_succ]
        refine N_one (i := 1) (by rw [hops, List.getElem?_toArray]; rfl) (by rw [hops]; kernel_rfl) (by first | rfl | (rw [hops]; rfl)) ?_
        intro K hK
        go_wp2_with fail
        refine (ENC1.out _ HS0).mono ?_
        rintro e y1 ⟨v1, rfl, ho1, hx1, -⟩
        have HS1 : Ext wr y1 := HS0.trans hx1
        have O1 := hid ho1
        clear ho1 hx1 HS0 ENC1
        refine hK _ _ ⟨fun _ => HS1, ?_⟩
        clear hK K
        refine N_two (i := 2) (k := 4) (by rw [hops]; rfl) (by rw [hops, List.getElem?_toArray]; rfl) (by rw [hops]; kernel_rfl) (by first | rfl | (rw [hops]; rfl)) (by first | rfl | (rw [hops]; rfl)) ?_ ?_
        · have hcv := run_str y1 _ _ O1.out
          intro K hK
          go_wp2_with fail
          clear hcv
          refine ⟨fun _ => HS1, ?_⟩
          try rw [← hops]
          refine N_one (i := 4) (by rw [hops, List.getElem?_toArray]; rfl) (by rw [hops]; kernel_rfl) (by first | rfl | (rw [hops]; rfl)) ?_
          intro K hK
          go_wp2_with fail
          refine (ENC2.out _ HS1).mono ?_
          rintro e y2 ⟨v2, rfl, ho2, hx2, -⟩
          have HS2 : Ext wr y2 := HS1.trans hx2
          have hcv := run_str y2 _ _ ho2
          have HXE := hid HS2
          clear ho2 hx2 HS1 ENC2
          refine hK _ _ ⟨fun _ => HS2, ?_⟩
          clear hK K
          refine N_one (i := 5) (by rw [hops, List.getElem?_toArray]; rfl) (by rw [hops]; kernel_rfl) (by first | rfl | (rw [hops]; rfl)) ?_
          intro K hK
          go_wp2_with fail
          refine ⟨fun _ => HS2, ?_⟩
          try rw [← hops]
          clear hcv HS2
          refine N_one (i := 6) (by rw [hops, List.getElem?_toArray]; rfl) (by rw [hops]; kernel_rfl) (by first | rfl | (rw [hops]; rfl)) ?_
          intro K hK
          go_wp2_with fail
          refine ⟨fun h => absurd h (by decide), ?_⟩
          try rw [← hops]
          refine N_one (i := 7) (by rw [hops, List.getElem?_toArray]; rfl) (by rw [hops]; kernel_rfl) (by first | rfl | (rw [hops]; rfl)) ?_
          intro K hK
          go_wp2_with fail
          refine ⟨fun h => absurd h (by decide), ?_⟩
          try rw [← hops]
          refine N_done (by rw [hops]; kernel_rfl) ?_
          clear hops ops
          go_wp2_with fail
          go_ret
          exact ⟨rfl, HXF.out.trans HXE.out⟩
        · intro K hK
          go_wp2_with fail
          refine (ENC2.out _ HS1).mono ?_
          rintro e y2 ⟨v2, rfl, ho2, hx2, -⟩
          have HS2 : Ext wr y2 := HS1.trans hx2
          have HXE := hid HS2
          have hcv := run_str y2 _ _ (ownsRow_ext O1.out hx2)
          have hcv2 := run_str y2 _ _ ho2
          clear ho2 hx2 HS1 ENC2
          refine hK _ _ ⟨fun _ => HS2, ?_⟩
          clear hK K
          refine N_two (i := 2) (k := 5) (by rw [hops]; rfl) (by rw [hops, List.getElem?_toArray]; rfl) (by rw [hops]; kernel_rfl) (by first | rfl | (rw [hops]; rfl)) (by first | rfl | (rw [hops]; rfl)) ?_ ?_
          · intro K hK
            go_wp2_with fail
            refine ⟨fun _ => HS2, ?_⟩
            try rw [← hops]
            refine N_one (i := 5) (by rw [hops, List.getElem?_toArray]; rfl) (by rw [hops]; kernel_rfl) (by first | rfl | (rw [hops]; rfl)) ?_
            intro K hK
            go_wp2_with fail
            refine ⟨fun _ => HS2, ?_⟩
            try rw [← hops]
            clear hcv hcv2 HS2
            refine N_one (i := 6) (by rw [hops, List.getElem?_toArray]; rfl) (by rw [hops]; kernel_rfl) (by first | rfl | (rw [hops]; rfl)) ?_
            intro K hK
            go_wp2_with fail
            refine ⟨fun h => absurd h (by decide), ?_⟩
            try rw [← hops]
            refine N_one (i := 7) (by rw [hops, List.getElem?_toArray]; rfl) (by rw [hops]; kernel_rfl) (by first | rfl | (rw [hops]; rfl)) ?_
            intro K hK
            go_wp2_with fail
            refine ⟨fun h => absurd h (by decide), ?_⟩
            try rw [← hops]
            refine N_done (by rw [hops]; kernel_rfl) ?_
            clear hops ops
            go_wp2_with fail
            go_ret
            exact ⟨rfl, HXF.out.trans HXE.out⟩
          · intro K hK
            go_wp2_with fail
            refine ⟨fun _ => HS2, ?_⟩
            try rw [← hops]
            refine N_one (i := 2) (by rw [hops, List.getElem?_toArray]; rfl) (by rw [hops]; kernel_rfl) (by first | rfl | (rw [hops]; rfl)) ?_
            intro K hK
            go_wp2_with fail
            refine ⟨fun _ => HS2, ?_⟩
            try rw [← hops]
            clear hcv hcv2 HS2
            refine N_one (i := 6) (by rw [hops, List.getElem?_toArray]; rfl) (by rw [hops]; kernel_rfl) (by first | rfl | (rw [hops]; rfl)) ?_
            intro K hK
            go_wp2_with fail
            refine ⟨fun h => absurd h (by decide), ?_⟩
            try rw [← hops]
            refine N_one (i := 7) (by rw [hops, List.getElem?_toArray]; rfl) (by rw [hops]; kernel_rfl) (by first | rfl | (rw [hops]; rfl)) ?_
            intro K hK
            go_wp2_with fail
            refine ⟨fun h => absurd h (by decide), ?_⟩
            try rw [← hops]
            refine N_done (by rw [hops]; kernel_rfl) ?_
            clear hops ops
            go_wp2_with fail
            go_ret
            exact ⟨rfl, HXF.out.trans HXE.out⟩
end Go.Proofs.YtcikjcjfcanloaaGreat
