/- Texts of this claim, joined: L51a, Open51, L51b, L51Res. -/
import Derived.Test.YtcikjcjfcanloaaGreatJa1
import Derived.Test.YtcikjcjfcanloaaGreatJa10
import Derived.Test.YtcikjcjfcanloaaGreatJa11
import Derived.Test.YtcikjcjfcanloaaGreatJa12
import Derived.Test.YtcikjcjfcanloaaGreatJa13
import Derived.Test.YtcikjcjfcanloaaGreatJa14
import Derived.Test.YtcikjcjfcanloaaGreatJa15
import Derived.Test.YtcikjcjfcanloaaGreatJa16
import Derived.Test.YtcikjcjfcanloaaGreatJa17
import Derived.Test.YtcikjcjfcanloaaGreatJa18
import Derived.Test.YtcikjcjfcanloaaGreatJa19
import Derived.Test.YtcikjcjfcanloaaGreatJa2
import Derived.Test.YtcikjcjfcanloaaGreatJa20
import Derived.Test.YtcikjcjfcanloaaGreatJa21
import Derived.Test.YtcikjcjfcanloaaGreatJa22
import Derived.Test.YtcikjcjfcanloaaGreatJa23
import Derived.Test.YtcikjcjfcanloaaGreatJa3
import Derived.Test.YtcikjcjfcanloaaGreatJa4
import Derived.Test.YtcikjcjfcanloaaGreatJa5
import Derived.Test.YtcikjcjfcanloaaGreatJa6
import Derived.Test.YtcikjcjfcanloaaGreatJa7
import Derived.Test.YtcikjcjfcanloaaGreatJa8
import Derived.Test.YtcikjcjfcanloaaGreatJa9
import Derived.Test.YtcikjcjfcanloaaGreatJr1
import Derived.Test.YtcikjcjfcanloaaGreatJr2
import Derived.Test.YtcikjcjfcanloaaGreatJr3
import Derived.Test.YtcikjcjfcanloaaGreatJa24
import Derived.Test.YtcikjcjfcanloaaGreatJr4
set_option linter.unusedSimpArgs false
namespace Go.Proofs.YtcikjcjfcanloaaGreat
open Go.RowKit
attribute [local irreducible] perm fAdd fMul fPow fSub fNeg fRed hashU drawOf nextState
set_option maxRecDepth 100000 in
set_option maxHeartbeats 12800000 in
theorem rErr51_any (d : Nat) (h12 : d ≤ 12) (v : Value) (l : List BlkT) (w : World) (hr : RdBs w w v l) (hl : l.length ≤ 1000) (hs : ∀ b ∈ l, BSm b) :
    Calls Tryz.prog 47 #[.int .i64 (d : Int), v] w fun e w' => e = .returned (.int .i64 (errW d l)) ∧ Ext w w' := by
  obtain ⟨la, lc, rfl, hlc, hlc2⟩ := hr.shape
  have HRD := hid hr
  have HS := hid hs
  have HLL := hid hl
  have HD := hid h12
  obtain ⟨R, hR⟩ : ∃ R, R = errW d l := ⟨_, rfl⟩
  rw [← hR]
  have HR := hid hR
  have hlI : (l.length : Int) ≤ 1000 := by omega
  have hlcI : (l.length : Int) ≤ (lc : Int) := by omega
  have HLC := hid hlc2
  clear hr hs hR hlc2 h12
  go_enter Tryz.func47, Tryz.ntmps47
  go_wp2_with fail
  go_loopw [5] (fun iv wr => ∃ i : Nat, i ≤ l.length ∧ iv = .int .i64 i ∧ Hid (okAll d (l.take i) ∧ Ext w wr)) (fun iv _ => l.length - (intOf iv).toNat)
  case atStart => exact ⟨0, by omega, rfl, hid ⟨okAll_nil d, Ext.refl w⟩⟩
  case round =>
    obtain ⟨i, hi, rfl, HI⟩ := hrel
    have hi0 : (0 : Int) ≤ (i : Int) := Int.natCast_nonneg _
    by_cases hlt : i < l.length
    case neg =>
      have hltB : decide ((i : Int) < (l.length : Int)) = false := decide_eq_false (by omega)
      obtain rfl : i = l.length := by omega
      rw [List.take_length] at HI
      obtain rfl : R = 0 := by rw [HR.out]; exact errW_okAll.2 HI.out.1
      go_wp2_with fail
      go_ret
      exact ⟨rfl, HI.out.2⟩
    have hltB : decide ((i : Int) < (l.length : Int)) = true := decide_eq_true (by omega)
    have hil : (i : Int) < (l.length : Int) := by omega
    obtain ⟨x, hxi⟩ : ∃ x, l[i]? = some x := ⟨_, List.getElem?_eq_getElem hlt⟩
    obtain ⟨q, o, ta, tc, rfl, htx, e0, e1, e2, e3, e4, e5⟩ := HRD.out.at hxi
    have HXI := hid hxi
    have HBX := hid (HS.out x (List.mem_of_getElem? hxi))
    have HSV : Hid (∀ u, Ext w u → (u.cell? ⟨q, o + i * 6, none⟩ = some (uv x.parent) ∧ u.cell? ⟨q, o + i * 6 + 1, none⟩ = some (.int .i64 x.height) ∧ u.cell? ⟨q, o + i * 6 + 2, none⟩ = some (uv x.miner) ∧ u.cell? ⟨q, o + i * 6 + 3, none⟩ = some (uv x.work) ∧ u.cell? ⟨q, o + i * 6 + 4, none⟩ = some (uv x.nonce) ∧ u.cell? ⟨q, o + i * 6 + 5, none⟩ = some (.slice ta x.txs.length tc)) ∧ Ext w u) := hid fun u k => ⟨⟨k.cell_some e0, k.cell_some e1, k.cell_some e2, k.cell_some e3, k.cell_some e4, k.cell_some e5⟩, k⟩
    have hilc : i ≤ lc := by omega
    have CK : Hid (∀ u, Ext w u → Calls Tryz.prog 62 #[.int .i64 (d : Int), .slice (some ⟨q, o, none⟩) i lc, blkVal x (.slice ta x.txs.length tc)] u fun e w' => e = .returned (.int .i64 (checkW d (l.take i) x)) ∧ Ext u w') := hid fun u k => rCheck_any d _ (l.take i) x _ u (((HRD.out.ext k).old k).take (by omega) hilc HLC.out (fun e => by cases e)) (by rw [List.length_take]; omega) (fun b hb => HS.out b (List.mem_of_mem_take hb)) (htx.ext k) HBX.out HD.out
    obtain ⟨C, hC⟩ : ∃ C, C = checkW d (l.take i) x := ⟨_, rfl⟩
    rw [← hC] at CK
    have HCK := hid hC
    have HS0 := HSV.out _ (HI.out.2.trans (Ext.refl wr).drew)
    have hilcI : (i : Int) ≤ (lc : Int) := by omega
    clear hxi htx e0 e1 e2 e3 e4 e5 hC hilc
    go_wp2_with fail
    refine wp_region_T (fun u => (u.cell? ⟨q, o + i * 6, none⟩ = some (uv x.parent) ∧ u.cell? ⟨q, o + i * 6 + 1, none⟩ = some (.int .i64 x.height) ∧ u.cell? ⟨q, o + i * 6 + 2, none⟩ = some (uv x.miner) ∧ u.cell? ⟨q, o + i * 6 + 3, none⟩ = some (uv x.work) ∧ u.cell? ⟨q, o + i * 6 + 4, none⟩ = some (uv x.nonce) ∧ u.cell? ⟨q, o + i * 6 + 5, none⟩ = some (.slice ta x.txs.length tc)) ∧ Ext w u) 8 [(0, true), (1, true), (2, true), (4, true), (5, true), (6, true), (7, true), (3, false), (8, false), (9, false)] (by kernel_rfl) (by kernel_rfl) (by intro c a d v w h; cases d <;> exact h) ?_
    intro ops hops
    iterate 7
      refine wpT_take (v := ?_) (by rw [hops, List.getElem?_toArray]; rfl) (by first | rfl | (rw [hops]; rfl)) ?_ HS0 ?_
      rotate_left
      · intro v h; go_simp; with_reducible rfl
      simp only [Act.put, List.getElem_toArray, List.getElem_cons_zero, List.getElem_cons_succ, List.setIfInBounds_toArray, List.set_cons_zero, List.set_cons_succ]
    refine wpT_step (by rw [hops, List.getElem?_toArray]; rfl) (by first | rfl | (rw [hops]; rfl)) ?_
    intro K hK
    go_wp2_with fail
    refine ⟨fun _ => HS0, ?_⟩
    try rw [← hops]
    refine wpT_step (by rw [hops, List.getElem?_toArray]; rfl) (by first | rfl | (rw [hops]; rfl)) ?_
    intro K hK
    go_wp2_with fail
    refine (CK.out _ HS0.2).mono ?_
    rintro e w3 ⟨rfl, hx⟩
    have X3 := hid (HS0.2.trans hx)
    clear hx HS0 CK
    refine hK _ _ ⟨fun h => absurd h (by decide), ?_⟩
    clear hK K
    refine wpT_step (by rw [hops, List.getElem?_toArray]; rfl) (by first | rfl | (rw [hops]; rfl)) ?_
    intro K hK
    go_wp2_with fail
    try (with_reducible refine ⟨fun h => absurd h (by decide), ?_⟩)
    try rw [wpT_nil]
    try clear hops ops
    by_cases hz : C = 0
    · subst hz
      have HN := hid (And.intro (okAll_snocT HI.out.1 HXI.out HCK.out.symm) X3.out)
      go_wp2_with fail
      go_roundw
      case rel => exact ⟨i + 1, by omega, by go_num, HN⟩
      case measure => simp [intOf]; omega
    · have hzB : decide (C = 0) = false := decide_eq_false hz
      have hzB2 : (C == 0) = false := by rw [beq_eq_false_iff_ne]; exact hz
      obtain rfl : R = C := by rw [HR.out]; exact (errW_bad HI.out.1 HXI.out (by rw [← HCK.out]; exact hz)).trans HCK.out.symm
      clear hz
      go_wp2_with fail
      go_ret
      exact ⟨rfl, X3.out⟩
set_option maxRecDepth 100000 in
set_option maxHeartbeats 12800000 in
theorem is51_any {w : World} {W d : Nat} {seed : UInt64} {l : List BlkT} {G : Nat → Prop} (h : WalAt w W d (fRed seed) l G) (hok : okAll d l) (lv : Value) (hr : RdBs w w lv l) (hl : l.length ≤ 1000) (hs : ∀ b ∈ l, BSm b) :
    Calls Tryz.prog 48 #[.pointer (some ⟨W, 0, none⟩), uv seed, lv] w fun e w' => e = .returned (.bool true) ∧ Ext w w' := by
  obtain ⟨la, lc, rfl, -⟩ := hr.shape
  have hd := depth_le h
  have hLn : (stW seed l).leaves.length ≤ 10000 := by
    have h2 := fitsAll_stW ((okAll_fits (seed := seed)).2 hok)
    have h3 := pow12 hd
    omega
  have hv := okAll_valid hok
  have HT : Hid (∀ u, Ext w u → Calls Tryz.prog 29 #[.pointer (some ⟨W, 0, none⟩)] u fun e w' => e = .returned (.int .i64 (l.length : Int)) ∧ Ext u w') := hid fun u k => wHeight_any (h.ext k)
  have ENC : Hid (∀ u, Ext w u → Calls Tryz.prog 39 #[.pointer (some ⟨W, 0, none⟩)] u (NewB u (walB l.length (stW seed l).leaves (stW seed l).notes))) := hid fun u k => by
    have := wEncode_any (h.ext k) hok
    rw [stW_red] at this
    exact this
  have REF : Hid (∀ u, Ext w u → Calls Tryz.prog 40 #[uv seed, .slice la l.length lc] u (NewB u (walB l.length (stW seed l).leaves (stW seed l).notes))) := hid fun u k => rEncodeW_any seed _ l u ((hr.ext k).old k) hl hs hv hLn
  generalize walB l.length (stW seed l).leaves (stW seed l).notes = BY at *
  have hlI : (l.length : Int) ≤ 1000 := by omega
  clear h hok hr hs hd hLn hv hl
  go_enter Tryz.func48, Tryz.ntmps48
  go_wp2_with fail
  refine wp_region_N (fun u => Ext w u) 13 16 (by kernel_rfl) (by kernel_rfl) ?_
  intro ops hops
  have HS9 : Ext w w.drew := (Ext.refl w).drew
  refine N_take (i := 0) (v := ?_) (by rw [hops, List.getElem?_toArray]; rfl) (by rw [hops]; kernel_rfl) (by intro c a d v w h; cases d <;> exact h) (by first | rfl | (rw [hops]; rfl)) ?_ HS9 ?_
  rotate_left
  · intro v h; go_simp; with_reducible rfl
  simp only [Act.put, List.getElem_toArray, List.getElem_cons_zero, List.getElem_cons_succ, List.setIfInBounds_toArray, List.set_cons_zero, List.set_cons_succ]
  refine N_take (i := 2) (v := ?_) (by rw [hops, List.getElem?_toArray]; rfl) (by rw [hops]; kernel_rfl) (by intro c a d v w h; cases d <;> exact h) (by first | rfl | (rw [hops]; rfl)) ?_ HS9 ?_
  rotate_left
  · intro v h; go_simp; with_reducible rfl
  simp only [Act.put, List.getElem_toArray, List.getElem_cons_zero, List.getElem_cons_succ, List.setIfInBounds_toArray, List.set_cons_zero, List.set_cons_succ]
  refine N_take (i := 3) (v := ?_) (by rw [hops, List.getElem?_toArray]; rfl) (by rw [hops]; kernel_rfl) (by intro c a d v w h; cases d <;> exact h) (by first | rfl | (rw [hops]; rfl)) ?_ HS9 ?_
  rotate_left
  · intro v h; go_simp; with_reducible rfl
  simp only [Act.put, List.getElem_toArray, List.getElem_cons_zero, List.getElem_cons_succ, List.setIfInBounds_toArray, List.set_cons_zero, List.set_cons_succ]
  refine N_one (i := 1) (by rw [hops, List.getElem?_toArray]; rfl) (by rw [hops]; kernel_rfl) (by first | rfl | (rw [hops]; rfl)) ?_
  intro K hK
  go_wp2_with fail
  refine (HT.out _ HS9).mono ?_
  rintro e y0 ⟨rfl, hx⟩
  have HS0 : Ext w y0 := HS9.trans hx
  clear hx HS9 HT
  refine hK _ _ ⟨fun _ => HS0, ?_⟩
  clear hK K
  refine N_take (i := 4) (v := ?_) (by rw [hops, List.getElem?_toArray]; rfl) (by rw [hops]; kernel_rfl) (by intro c a d v w h; cases d <;> exact h) (by first | rfl | (rw [hops]; rfl)) ?_ HS0 ?_
  rotate_left
  · intro v h; go_simp; with_reducible rfl
  simp only [Act.put, List.getElem_toArray, List.getElem_cons_zero, List.getElem_cons_succ, List.setIfInBounds_toArray, List.set_cons_zero, List.set_cons_succ]
  refine N_take (i := 5) (v := ?_) (by rw [hops, List.getElem?_toArray]; rfl) (by rw [hops]; kernel_rfl) (by intro c a d v w h; cases d <;> exact h) (by first | rfl | (rw [hops]; rfl)) ?_ HS0 ?_
  rotate_left
  · intro v h; go_simp; with_reducible rfl
  simp only [Act.put, List.getElem_toArray, List.getElem_cons_zero, List.getElem_cons_succ, List.setIfInBounds_toArray, List.set_cons_zero, List.set_cons_succ]
  refine N_take (i := 6) (v := ?_) (by rw [hops, List.getElem?_toArray]; rfl) (by rw [hops]; kernel_rfl) (by intro c a d v w h; cases d <;> exact h) (by first | rfl | (rw [hops]; rfl)) ?_ HS0 ?_
  rotate_left
  · intro v h; go_simp; with_reducible rfl
  simp only [Act.put, List.getElem_toArray, List.getElem_cons_zero, List.getElem_cons_succ, List.setIfInBounds_toArray, List.set_cons_zero, List.set_cons_succ]
  refine N_take (i := 9) (v := ?_) (by rw [hops, List.getElem?_toArray]; rfl) (by rw [hops]; kernel_rfl) (by intro c a d v w h; cases d <;> exact h) (by first | rfl | (rw [hops]; rfl)) ?_ HS0 ?_
  rotate_left
  · intro v h; go_simp; with_reducible rfl
  simp only [Act.put, List.getElem_toArray, List.getElem_cons_zero, List.getElem_cons_succ, List.setIfInBounds_toArray, List.set_cons_zero, List.set_cons_succ]
  refine N_take (i := 10) (v := ?_) (by rw [hops, List.getElem?_toArray]; rfl) (by rw [hops]; kernel_rfl) (by intro c a d v w h; cases d <;> exact h) (by first | rfl | (rw [hops]; rfl)) ?_ HS0 ?_
  rotate_left
  · intro v h; go_simp; with_reducible rfl
  simp only [Act.put, List.getElem_toArray, List.getElem_cons_zero, List.getElem_cons_succ, List.setIfInBounds_toArray, List.set_cons_zero, List.set_cons_succ]
  refine N_one (i := 7) (by rw [hops, List.getElem?_toArray]; rfl) (by rw [hops]; kernel_rfl) (by first | rfl | (rw [hops]; rfl)) ?_
  intro K hK
  go_wp2_with fail
  refine (ENC.out _ HS0).mono ?_
  rintro e y1 ⟨v1, rfl, ho1, hx1, -⟩
  have HS1 : Ext w y1 := HS0.trans hx1
  have O1 := hid ho1
  clear ho1 hx1 HS0 ENC
  refine hK _ _ ⟨fun _ => HS1, ?_⟩
  clear hK K
  refine N_two (i := 8) (k := 11) (by rw [hops]; rfl) (by rw [hops, List.getElem?_toArray]; rfl) (by rw [hops]; kernel_rfl) (by first | rfl | (rw [hops]; rfl)) (by first | rfl | (rw [hops]; rfl)) ?_ ?_
  · have hcv := run_str y1 _ _ O1.out
    intro K hK
    go_wp2_with fail
    clear hcv
    refine ⟨fun _ => HS1, ?_⟩
    try rw [← hops]
    refine N_one (i := 11) (by rw [hops, List.getElem?_toArray]; rfl) (by rw [hops]; kernel_rfl) (by first | rfl | (rw [hops]; rfl)) ?_
    intro K hK
    go_wp2_with fail
    refine (REF.out _ HS1).mono ?_
    rintro e y2 ⟨v2, rfl, ho2, hx2, -⟩
    have HS2 : Ext w y2 := HS1.trans hx2
    have hcv := run_str y2 _ _ ho2
    have HXE := hid HS2
    clear ho2 hx2 HS1 REF
    refine hK _ _ ⟨fun _ => HS2, ?_⟩
    clear hK K
    refine N_one (i := 12) (by rw [hops, List.getElem?_toArray]; rfl) (by rw [hops]; kernel_rfl) (by first | rfl | (rw [hops]; rfl)) ?_
    intro K hK
    go_wp2_with fail
    refine ⟨fun _ => HS2, ?_⟩
    try rw [← hops]
    clear hcv HS2
    refine N_one (i := 13) (by rw [hops, List.getElem?_toArray]; rfl) (by rw [hops]; kernel_rfl) (by first | rfl | (rw [hops]; rfl)) ?_
    intro K hK
    go_wp2_with fail
    refine ⟨fun h => absurd h (by decide), ?_⟩
    try rw [← hops]
    refine N_one (i := 14) (by rw [hops, List.getElem?_toArray]; rfl) (by rw [hops]; kernel_rfl) (by first | rfl | (rw [hops]; rfl)) ?_
    intro K hK
    go_wp2_with fail
    refine ⟨fun h => absurd h (by decide), ?_⟩
    try rw [← hops]
    refine N_one (i := 15) (by rw [hops, List.getElem?_toArray]; rfl) (by rw [hops]; kernel_rfl) (by first | rfl | (rw [hops]; rfl)) ?_
    intro K hK
    go_wp2_with fail
    refine ⟨fun h => absurd h (by decide), ?_⟩
    try rw [← hops]
    refine N_done (by rw [hops]; kernel_rfl) ?_
    clear hops ops
    go_wp2_with fail
    go_ret
    exact ⟨rfl, HXE.out⟩
  · intro K hK
    go_wp2_with fail
    refine (REF.out _ HS1).mono ?_
    rintro e y2 ⟨v2, rfl, ho2, hx2, -⟩
    have HS2 : Ext w y2 := HS1.trans hx2
    have HXE := hid HS2
    have hcv := run_str y2 _ _ (ownsRow_ext O1.out hx2)
    have hcv2 := run_str y2 _ _ ho2
    clear ho2 hx2 HS1 REF
    refine hK _ _ ⟨fun _ => HS2, ?_⟩
    clear hK K
    refine N_two (i := 8) (k := 12) (by rw [hops]; rfl) (by rw [hops, List.getElem?_toArray]; rfl) (by rw [hops]; kernel_rfl) (by first | rfl | (rw [hops]; rfl)) (by first | rfl | (rw [hops]; rfl)) ?_ ?_
    · intro K hK
      go_wp2_with fail
      refine ⟨fun _ => HS2, ?_⟩
      try rw [← hops]
      refine N_one (i := 12) (by rw [hops, List.getElem?_toArray]; rfl) (by rw [hops]; kernel_rfl) (by first | rfl | (rw [hops]; rfl)) ?_
      intro K hK
      go_wp2_with fail
      refine ⟨fun _ => HS2, ?_⟩
      try rw [← hops]
      clear hcv hcv2 HS2
      refine N_one (i := 13) (by rw [hops, List.getElem?_toArray]; rfl) (by rw [hops]; kernel_rfl) (by first | rfl | (rw [hops]; rfl)) ?_
      intro K hK
      go_wp2_with fail
      refine ⟨fun h => absurd h (by decide), ?_⟩
      try rw [← hops]
      refine N_one (i := 14) (by rw [hops, List.getElem?_toArray]; rfl) (by rw [hops]; kernel_rfl) (by first | rfl | (rw [hops]; rfl)) ?_
      intro K hK
      go_wp2_with fail
      refine ⟨fun h => absurd h (by decide), ?_⟩
      try rw [← hops]
      refine N_one (i := 15) (by rw [hops, List.getElem?_toArray]; rfl) (by rw [hops]; kernel_rfl) (by first | rfl | (rw [hops]; rfl)) ?_
      intro K hK
      go_wp2_with fail
      refine ⟨fun h => absurd h (by decide), ?_⟩
      try rw [← hops]
      refine N_done (by rw [hops]; kernel_rfl) ?_
      clear hops ops
      go_wp2_with fail
      go_ret
      exact ⟨rfl, HXE.out⟩
    · intro K hK
      go_wp2_with fail
      refine ⟨fun _ => HS2, ?_⟩
      try rw [← hops]
      refine N_one (i := 8) (by rw [hops, List.getElem?_toArray]; rfl) (by rw [hops]; kernel_rfl) (by first | rfl | (rw [hops]; rfl)) ?_
      intro K hK
      go_wp2_with fail
      refine ⟨fun _ => HS2, ?_⟩
      try rw [← hops]
      clear hcv hcv2 HS2
      refine N_one (i := 13) (by rw [hops, List.getElem?_toArray]; rfl) (by rw [hops]; kernel_rfl) (by first | rfl | (rw [hops]; rfl)) ?_
      intro K hK
      go_wp2_with fail
      refine ⟨fun h => absurd h (by decide), ?_⟩
      try rw [← hops]
      refine N_one (i := 14) (by rw [hops, List.getElem?_toArray]; rfl) (by rw [hops]; kernel_rfl) (by first | rfl | (rw [hops]; rfl)) ?_
      intro K hK
      go_wp2_with fail
      refine ⟨fun h => absurd h (by decide), ?_⟩
      try rw [← hops]
      refine N_one (i := 15) (by rw [hops, List.getElem?_toArray]; rfl) (by rw [hops]; kernel_rfl) (by first | rfl | (rw [hops]; rfl)) ?_
      intro K hK
      go_wp2_with fail
      refine ⟨fun h => absurd h (by decide), ?_⟩
      try rw [← hops]
      refine N_done (by rw [hops]; kernel_rfl) ?_
      clear hops ops
      go_wp2_with fail
      go_ret
      exact ⟨rfl, HXE.out⟩
end Go.Proofs.YtcikjcjfcanloaaGreat
namespace Go.Proofs.YtcikjcjfcanloaaGreat
open Go.ChangeShapes Go.WideShapes Go.ChangeAt Go.RowKit Go.Joins
/-- v reads as lists of blocks. -/
def RdBL (w : World) (v : Value) (ls : List (List BlkT)) : Prop := ∃ X : List (List BlkT × Value), X.map (·.1) = ls ∧ RdC' w v ls.length (X.map (·.2)) ∧ ∀ x ∈ X, RdBs w w x.2 x.1
theorem RdBL.ext {w w' : World} {v : Value} {ls : List (List BlkT)} (h : RdBL w v ls) (k : Ext w w') : RdBL w' v ls := by
  obtain ⟨X, h1, h2, h3⟩ := h
  exact ⟨X, h1, h2.ext k, fun x hx => ((h3 x hx).ext k).old k⟩
theorem RdBL.shape {w : World} {v : Value} {ls : List (List BlkT)} (h : RdBL w v ls) : ∃ a c, v = .slice a ls.length c ∧ ls.length ≤ c ∧ c ≤ maxLen := by
  obtain ⟨X, h1, h2, h3⟩ := h
  exact h2.shape
theorem RdBL.nil (w : World) : RdBL w (.slice none 0 0) [] := ⟨[], rfl, (RdC.nil w).weak, fun x h => by cases h⟩
theorem flat_one {α : Type} (X : List (α × Value)) : X.flatMap (fun y => [y.2]) = X.map (·.2) := by
  induction X with
  | nil => rfl
  | cons a r ih => rw [List.flatMap_cons, ih]; rfl
theorem RdBL.at {w : World} {a : Option Addr} {n c : Nat} {ls : List (List BlkT)} (h : RdBL w (.slice a n c) ls) {i : Nat} {l : List BlkT} (hx : ls[i]? = some l) :
    ∃ b q la lc, a = some ⟨b, q, none⟩ ∧ RdBs w w (.slice la l.length lc) l ∧ w.cell? ⟨b, q + i, none⟩ = some (.slice la l.length lc) := by
  obtain ⟨X, h1, h2, h3⟩ := h
  have hn : n = ls.length := by obtain ⟨a', c', he, -⟩ := h2; injection he
  have hXl : X.length = ls.length := by rw [← h1, List.length_map]
  have hi : i < X.length := by rw [hXl]; exact (List.getElem?_eq_some_iff.1 hx).1
  have hy : X[i]? = some X[i] := List.getElem?_eq_getElem hi
  have hr := h3 _ (List.getElem_mem hi)
  obtain ⟨⟨x', tv⟩, hX⟩ : ∃ y, y = X[i] := ⟨_, rfl⟩
  rw [← hX] at hy hr
  have hxo : x' = l := by
    have : ls[i]? = some x' := by rw [← h1, List.getElem?_map, hy]; rfl
    rw [hx] at this
    exact (Option.some.inj this).symm
  subst hn hxo
  rw [← flat_one] at h2
  obtain ⟨b, q, rfl, hc⟩ := rows_at (f := fun y : List BlkT × Value => [y.2]) (k := 1) (fun _ => rfl) (by omega) hXl.symm h2 hy
  simp only at hr
  obtain ⟨ta, tc, rfl, -⟩ := hr.shape
  have := hc 0 _ (by omega) rfl
  rw [Nat.mul_one, Nat.add_zero] at this
  exact ⟨b, q, ta, tc, rfl, hr, this⟩
theorem blks_cell1 : Tryz.prog.cellsOf 31 = 1 := by kernel_rfl
theorem blkss_cell1 : Tryz.prog.cellsOf 81 = 1 := by kernel_rfl
theorem case51_cells3 : Tryz.prog.cellsOf 83 = 3 := by kernel_rfl
section
variable {H : Type} {enc : TypeId × Value → H} {W : World} {base : Nat} {sp : Nat → Bool} {held : Bool}
set_option maxRecDepth 100000 in
theorem open_blks {n : Nat} {v : Value} {x : DataW H × List MemPlace} (h : DataW.trod enc Tryz.prog W base sp held n 31 [v] = some x) : ∃ l : List BlkT, RdBs W W v l := by
  obtain ⟨X, h1, h2⟩ := open_rows (f := blkCells) (R := fun y => RdTs W y.2 y.1.txs) Tryz.underlying31 blk_cells6 (by omega) blkCells_len (fun n cs x hl hx => blk_of_cells hl hx) h
  exact ⟨X.map (·.1), X, rfl, by rw [List.length_map]; exact h1, h2⟩
set_option maxRecDepth 100000 in
theorem open_blkss {n : Nat} {v : Value} {x : DataW H × List MemPlace} (h : DataW.trod enc Tryz.prog W base sp held n 81 [v] = some x) : ∃ l : List (List BlkT), RdBL W v l := by
  obtain ⟨X, h1, h2⟩ := open_rows (f := fun y : List BlkT × Value => [y.2]) (R := fun y => RdBs W W y.2 y.1) (k := 1) Tryz.underlying81 blks_cell1 (by omega) (fun _ => rfl) (fun n cs x hl hx => by
    match cs, hl with
    | [c0], _ =>
      obtain ⟨l, hl⟩ := open_blks hx
      exact ⟨(l, c0), rfl, hl⟩) h
  rw [flat_one] at h1
  exact ⟨X.map (·.1), X, rfl, by rw [List.length_map]; exact h1, h2⟩
set_option maxRecDepth 100000 in
theorem open_case51 {r : Reach} {v : Value} {d : DataW H} {p : List MemPlace} {b0 : Nat} (hv : Value.okWide Tryz.prog W r b0 83 v) {b' : Nat} (h : DataW.Trod enc Tryz.prog W b' sp held 83 v d p) :
    ∃ (d : Int) (s : UInt64) (lv : Value) (ls : List (List BlkT)), v = .agg #[.int .i64 d, uv s, lv] ∧ RdBL W lv ls := by
  obtain ⟨cs, rfl, hsz⟩ := okWide_struct Tryz.underlying83 hv
  rw [case51_cells3] at hsz
  obtain ⟨fuel, hf⟩ := h
  obtain ⟨cl⟩ := cs
  obtain ⟨xs, m, -, -, -, hxs, hf⟩ := DataW.trod_struct Tryz.underlying83 hf
  have hxl : xs.length = 3 := hxs
  match cl, hsz with
  | [c0, c1, c2], _ =>
    have h0 := fld hf 0 rfl (by omega) 3 0 1 rfl rfl int_cell1
    have h1 := fld hf 1 rfl (by omega) 22 1 1 rfl rfl u64_cell1
    have h2 := fld hf 2 rfl (by omega) 81 2 1 rfl rfl blkss_cell1
    obtain ⟨a0, rfl⟩ := open_int (v := c0) h0
    obtain ⟨a1, rfl⟩ := open_u64 (v := c1) h1
    obtain ⟨a2, m2⟩ := open_blkss (v := c2) h2
    exact ⟨a0, a1, c2, a2, rfl, m2⟩
end
end Go.Proofs.YtcikjcjfcanloaaGreat
namespace Go.Proofs.YtcikjcjfcanloaaGreat
open Go.RowKit
attribute [local irreducible] perm fAdd fMul fPow fSub fNeg fRed hashU drawOf nextState
def smBk (b : BlkT) : Bool := decide (b.txs.length ≤ 4) && b.txs.all smT
def smL (l : List BlkT) : Bool := decide (l.length ≤ 6) && l.all smBk
def smLs (ls : List (List BlkT)) : Bool := ls.all smL && decide (ls.length ≤ 6)
def rightW (d : Int) (ls : List (List BlkT)) : Bool := decide (1 ≤ d) && (decide (d ≤ 6) && smLs ls)
set_option maxRecDepth 100000 in
set_option maxHeartbeats 12800000 in
theorem small51_any (lv : Value) (ls : List (List BlkT)) (w : World) (h : RdBL w lv ls) :
    Calls Tryz.prog 92 #[lv] w fun e w' => e = .returned (.bool (smLs ls)) ∧ Ext w w' := by
  obtain ⟨oa, oc, rfl, hc1, hc2⟩ := h.shape
  have HOL : Hid (bigN ls.length) := hid (by unfold bigN; unfold maxLen at hc2; omega)
  have HH := hid h
  obtain ⟨R, hR⟩ : ∃ R, R = smLs ls := ⟨_, rfl⟩
  have HR := hid hR
  rw [← hR]
  clear h hc1 hc2 hR
  go_enter Tryz.func92, Tryz.ntmps92
  go_wp2_with fail
  go_loopw [3] (fun iv wr => ∃ i : Nat, i ≤ ls.length ∧ iv = .int .i64 i ∧ Hid ((ls.take i).all smL = true ∧ Ext w wr)) (fun iv _ => ls.length - (intOf iv).toNat)
  case atStart => exact ⟨0, by omega, rfl, hid ⟨rfl, Ext.refl w⟩⟩
  case round =>
    obtain ⟨i, hi, rfl, HI⟩ := hrel
    have hi0 : (0 : Int) ≤ (i : Int) := Int.natCast_nonneg _
    by_cases hlt : i < ls.length
    case neg =>
      have hltB : decide ((i : Int) < (ls.length : Int)) = false := decide_eq_false (by omega)
      obtain rfl : i = ls.length := by omega
      rw [List.take_length] at HI
      have HR2 : Hid (R = decide (ls.length ≤ 6)) := hid (by rw [HR.out]; unfold smLs; rw [HI.out.1, Bool.true_and])
      by_cases h6 : ls.length ≤ 6
      · have h6a : decide ((ls.length : Int) ≤ 6) = true := decide_eq_true (by omega)
        obtain rfl : R = true := by rw [HR2.out]; exact decide_eq_true h6
        clear h6
        go_wp2_with fail
        go_ret
        exact ⟨rfl, HI.out.2⟩
      · have h6a : decide ((ls.length : Int) ≤ 6) = false := decide_eq_false (by omega)
        obtain rfl : R = false := by rw [HR2.out]; exact decide_eq_false h6
        clear h6
        go_wp2_with fail
        go_ret
        exact ⟨rfl, HI.out.2⟩
    have hltB : decide ((i : Int) < (ls.length : Int)) = true := decide_eq_true (by omega)
    have hil : (i : Int) < (ls.length : Int) := by omega
    obtain ⟨l, hli⟩ : ∃ l, ls[i]? = some l := ⟨_, List.getElem?_eq_getElem hlt⟩
    have HWR := hid (wrap_next HOL.out hlt)
    obtain ⟨g, q, la, lc, rfl, hrl, e0⟩ := HH.out.at hli
    have HE : Hid (∀ u, Ext w u → u.cell? ⟨g, q + i, none⟩ = some (.slice la l.length lc) ∧ RdBs u u (.slice la l.length lc) l) := hid fun u k => ⟨k.cell_some e0, (hrl.ext k).old k⟩
    have HLI := hid hli
    clear hli hrl e0
    obtain ⟨f0, -⟩ := HE.out wr HI.out.2
    by_cases h6 : l.length ≤ 6
    case neg =>
      have h6a : decide ((6 : Int) < (l.length : Int)) = true := decide_eq_true (by omega)
      have h6b : decide (6 < l.length) = true := decide_eq_true (by omega)
      obtain rfl : R = false := by
        rw [HR.out]
        unfold smLs
        rw [all_bad HLI.out (by unfold smL; rw [decide_eq_false h6]; rfl)]
        rfl
      clear h6
      go_wp2_with fail
      go_ret
      exact ⟨rfl, HI.out.2⟩
    have h6a : decide ((6 : Int) < (l.length : Int)) = false := decide_eq_false (by omega)
    have h6b : decide (6 < l.length) = false := decide_eq_false (by omega)
    have H6 := hid h6
    have hlI : (l.length : Int) ≤ 6 := by omega
    clear h6
    go_wp2_with fail
    clear f0 h6a h6b
    go_loopw [4] (fun kv wr => ∃ k : Nat, k ≤ l.length ∧ kv = .int .i64 k ∧ Hid ((l.take k).all smBk = true ∧ Ext w wr)) (fun kv _ => l.length - (intOf kv).toNat)
    case atStart => exact ⟨0, by omega, rfl, hid ⟨rfl, HI.out.2⟩⟩
    case round =>
      obtain ⟨k, hk, rfl, HK⟩ := hrel
      have hk0 : (0 : Int) ≤ (k : Int) := Int.natCast_nonneg _
      obtain ⟨f0, hrl⟩ := HE.out wr HK.out.2
      by_cases hkt : k < l.length
      case neg =>
        have hkB : decide ((k : Int) < (l.length : Int)) = false := decide_eq_false (by omega)
        obtain rfl : k = l.length := by omega
        rw [List.take_length] at HK
        have HN := hid (And.intro (all_snoc HLI.out HI.out.1 (by unfold smL; rw [HK.out.1, decide_eq_true H6.out]; rfl)) HK.out.2)
        clear hrl
        go_wp2_with fail
        go_roundw
        case rel => exact ⟨i + 1, by omega, by rw [HWR.out], HN⟩
        case measure => rw [HWR.out]; simp [intOf]; omega
      have hkB : decide ((k : Int) < (l.length : Int)) = true := decide_eq_true (by omega)
      have hkl : (k : Int) < (l.length : Int) := by omega
      obtain ⟨b, hbk⟩ : ∃ b, l[k]? = some b := ⟨_, List.getElem?_eq_getElem hkt⟩
      obtain ⟨g2, q2, ta, tc, rfl, htx, -, -, -, -, -, e5⟩ := hrl.at hbk
      have HTX : Hid (∀ u, Ext wr u → RdTs u (.slice ta b.txs.length tc) b.txs) := hid fun u k => htx.ext k
      have HBK := hid hbk
      clear hbk htx hrl
      by_cases h4 : b.txs.length ≤ 4
      case neg =>
        have h4a : decide ((4 : Int) < (b.txs.length : Int)) = true := decide_eq_true (by omega)
        have h4b : decide (4 < b.txs.length) = true := decide_eq_true (by omega)
        obtain rfl : R = false := by
          rw [HR.out]
          unfold smLs
          rw [all_bad HLI.out (by unfold smL; rw [all_bad HBK.out (by unfold smBk; rw [decide_eq_false h4]; rfl), Bool.and_false])]
          rfl
        clear h4
        go_wp2_with fail
        go_ret
        exact ⟨rfl, HK.out.2⟩
      have h4a : decide ((4 : Int) < (b.txs.length : Int)) = false := decide_eq_false (by omega)
      have h4b : decide (4 < b.txs.length) = false := decide_eq_false (by omega)
      have H4 := hid h4
      have htI : (b.txs.length : Int) ≤ 4 := by omega
      clear h4
      go_wp2_with fail
      clear f0 e5 h4a h4b
      go_loopw [6] (fun jv wz => ∃ j : Nat, j ≤ b.txs.length ∧ jv = .int .i64 j ∧ Hid ((b.txs.take j).all smT = true ∧ Ext w wz ∧ Ext wr wz)) (fun jv _ => b.txs.length - (intOf jv).toNat)
      case atStart => exact ⟨0, by omega, rfl, hid ⟨rfl, HK.out.2, Ext.refl _⟩⟩
      case round =>
        obtain ⟨j, hj, rfl, HJ⟩ := hrel
        have hj0 : (0 : Int) ≤ (j : Int) := Int.natCast_nonneg _
        by_cases hjt : j < b.txs.length
        case neg =>
          have hjB : decide ((j : Int) < (b.txs.length : Int)) = false := decide_eq_false (by omega)
          obtain rfl : j = b.txs.length := by omega
          rw [List.take_length] at HJ
          have HN := hid (And.intro (all_snoc HBK.out HK.out.1 (by unfold smBk; rw [HJ.out.1, decide_eq_true H4.out]; rfl)) HJ.out.2.1)
          go_wp2_with fail
          go_roundw
          case rel => exact ⟨k + 1, by omega, by go_num, HN⟩
          case measure => simp [intOf]; omega
        have hjB : decide ((j : Int) < (b.txs.length : Int)) = true := decide_eq_true (by omega)
        have hjl : (j : Int) < (b.txs.length : Int) := by omega
        obtain ⟨t, htj⟩ : ∃ t, b.txs[j]? = some t := ⟨_, List.getElem?_eq_getElem hjt⟩
        obtain ⟨g3, q3, ma, mc, xa, xc, pa, pc, rfl, hrt, e0, e1, e2, e3, e4, e5, e6, e7, e8, e9⟩ := (HTX.out _ HJ.out.2.2).at htj
        have SMC := hid (smTx_any t _ _ _ 100 wr hrt)
        obtain ⟨S, hS⟩ : ∃ S, S = smT t := ⟨_, rfl⟩
        change Hid (Calls Tryz.prog 59 #[txVal t (.slice ma t.marks.length mc) (.slice xa t.outs.length xc) (.slice pa t.proof.length pc), .int .i64 100] wr fun e w' => e = .returned (.bool (smT t)) ∧ Ext wr w') at SMC
        rw [← hS] at SMC
        have HS := hid hS
        have HTJ := hid htj
        clear hS htj hrt
        go_wp2_with fail
        refine (SMC.out).mono ?_
        rintro e u3 ⟨rfl, hx⟩
        have G3 := hid (And.intro (HJ.out.2.1.trans hx) (HJ.out.2.2.trans hx))
        clear hx SMC e0 e1 e2 e3 e4 e5 e6 e7 e8 e9
        cases S with
        | true =>
          have HN := hid (And.intro (all_snoc HTJ.out HJ.out.1 HS.out.symm) G3.out)
          go_wp2_with fail
          go_roundw
          case rel => exact ⟨j + 1, by omega, by go_num, HN⟩
          case measure => simp [intOf]; omega
        | false =>
          obtain rfl : R = false := by
            rw [HR.out]
            unfold smLs
            rw [all_bad HLI.out (by unfold smL; rw [all_bad HBK.out (by unfold smBk; rw [all_bad HTJ.out HS.out.symm, Bool.and_false]), Bool.and_false])]
            rfl
          go_wp2_with fail
          go_ret
          exact ⟨rfl, G3.out.1⟩
set_option maxRecDepth 100000 in
set_option maxHeartbeats 3200000 in
theorem right51_any (d : Int) (seed : UInt64) (lv : Value) (ls : List (List BlkT)) (w : World) (h : RdBL w lv ls) :
    Calls Tryz.prog 45 #[.agg #[.int .i64 d, uv seed, lv]] w fun e w' => e = .returned (.bool (rightW d ls)) ∧ Ext w w' := by
  have SM : Hid (∀ u, Ext w u → Calls Tryz.prog 92 #[lv] u fun e w' => e = .returned (.bool (smLs ls)) ∧ Ext u w') := hid fun u k => small51_any lv ls u (h.ext k)
  obtain ⟨oa, oc, rfl, -⟩ := h.shape
  obtain ⟨S, hS⟩ : ∃ S, S = smLs ls := ⟨_, rfl⟩
  obtain ⟨R, hR⟩ : ∃ R, R = rightW d ls := ⟨_, rfl⟩
  have HR : Hid (R = (decide (1 ≤ d) && (decide (d ≤ 6) && S))) := hid (by rw [hR, hS]; rfl)
  rw [← hS] at SM
  rw [← hR]
  obtain ⟨N, hN⟩ : ∃ N, N = w.heap.size := ⟨_, rfl⟩
  obtain ⟨w0, hw0⟩ : ∃ w0, w0 = w.alloc (.cells #[.int .i64 d, uv seed, .slice oa ls.length oc] 83) := ⟨_, rfl⟩
  have hx0 : Ext w w0 := by rw [hw0]; exact (Ext.refl w).alloc _
  have hb0 : w0.heap[N]? = some (.cells #[.int .i64 d, uv seed, .slice oa ls.length oc] 83 (0, 0)) := by rw [hw0, hN]; exact heap_new _ _
  have HX0 := hid hx0
  have HW := hid hw0
  obtain ⟨c0, c2⟩ : w0.cell? ⟨N, 0, none⟩ = some (.int .i64 d) ∧ w0.cell? ⟨N, 2, none⟩ = some (.slice oa ls.length oc) := ⟨cell_of hb0 0, cell_of hb0 2⟩
  clear hw0 hx0 hb0 h hS hR
  go_enter Tryz.func45, Tryz.ntmps45
  go_upto_region 1 with fail
  rw [← HW.out, ← hN]
  clear hN HW
  by_cases h1 : 1 ≤ d
  case neg =>
    have h1a : decide (1 ≤ d) = false := decide_eq_false h1
    obtain rfl : R = false := by rw [HR.out, h1a]; rfl
    clear h1
    go_wp2_with fail
    go_ret
    exact ⟨rfl, HX0.out⟩
  have h1a : decide (1 ≤ d) = true := decide_eq_true h1
  by_cases h6 : d ≤ 6
  case neg =>
    have h6a : decide (d ≤ 6) = false := decide_eq_false h6
    obtain rfl : R = false := by rw [HR.out, h1a, h6a]; rfl
    clear h1 h6
    go_wp2_with fail
    go_ret
    exact ⟨rfl, HX0.out⟩
  have h6a : decide (d ≤ 6) = true := decide_eq_true h6
  obtain rfl : R = S := by rw [HR.out, h1a, h6a]; rfl
  clear h1 h6 HR
  go_wp2_with fail
  refine (SM.out _ HX0.out).mono ?_
  rintro e w1 ⟨rfl, hx⟩
  have X1 := hid (HX0.out.trans hx)
  clear hx SM
  go_wp2_with fail
  go_ret
  exact ⟨rfl, X1.out⟩
theorem right_facts {d : Int} {ls : List (List BlkT)} (h : rightW d ls = true) : ∃ n : Nat, d = (n : Int) ∧ 1 ≤ n ∧ n ≤ 6 ∧ ls.length ≤ 6 ∧ ∀ l ∈ ls, l.length ≤ 6 ∧ ∀ b ∈ l, BSm b := by
  unfold rightW smLs at h
  simp only [Bool.and_eq_true, decide_eq_true_eq] at h
  obtain ⟨h1, h2, h3, h4⟩ := h
  refine ⟨d.toNat, by omega, by omega, by omega, h4, fun l hl => ?_⟩
  have h5 := List.all_eq_true.1 h3 l hl
  unfold smL at h5
  simp only [Bool.and_eq_true, decide_eq_true_eq] at h5
  refine ⟨h5.1, fun b hb => ?_⟩
  have h6 := List.all_eq_true.1 h5.2 b hb
  unfold smBk at h6
  simp only [Bool.and_eq_true, decide_eq_true_eq] at h6
  exact ⟨by omega, fun t ht => (smTx_sm (by omega) (List.all_eq_true.1 h6.2 t ht)).1⟩
end Go.Proofs.YtcikjcjfcanloaaGreat
namespace Go.Proofs.YtcikjcjfcanloaaGreat
open Go.RowKit
attribute [local irreducible] perm fAdd fMul fPow fSub fNeg fRed hashU drawOf nextState
set_option maxRecDepth 100000 in
set_option maxHeartbeats 25600000 in
theorem recoveryRestore_any (d : Int) (seed : UInt64) (lv : Value) (ls : List (List BlkT)) (w : World) (h : RdBL w lv ls) :
    Calls Tryz.prog 12 #[.agg #[.int .i64 d, uv seed, lv]] w fun e w' => e = .returned (.bool true) ∧ Ext w w' := by
  have HH := hid h
  have AW := hid awake51_any
  have RG : Hid (∀ u, Ext w u → Calls Tryz.prog 45 #[.agg #[.int .i64 d, uv seed, lv]] u fun e w' => e = .returned (.bool (rightW d ls)) ∧ Ext u w') := hid fun u k => right51_any d seed lv ls u (h.ext k)
  obtain ⟨oa, oc, rfl, -⟩ := h.shape
  obtain ⟨S, hS⟩ : ∃ S, S = rightW d ls := ⟨_, rfl⟩
  rw [← hS] at RG
  have HS := hid hS
  obtain ⟨N, hN⟩ : ∃ N, N = w.heap.size := ⟨_, rfl⟩
  obtain ⟨w0, hw0⟩ : ∃ w0, w0 = w.alloc (.cells #[.int .i64 d, uv seed, .slice oa ls.length oc] 83) := ⟨_, rfl⟩
  have hx0 : Ext w w0 := by rw [hw0]; exact (Ext.refl w).alloc _
  have hb0 : w0.heap[N]? = some (.cells #[.int .i64 d, uv seed, .slice oa ls.length oc] 83 (0, 0)) := by rw [hw0, hN]; exact heap_new _ _
  have HX0 := hid hx0
  have HW := hid hw0
  have HC : Hid (∀ u, Ext w0 u → (u.cell? ⟨N, 0, none⟩ = some (.int .i64 d) ∧ u.cell? ⟨N, 1, none⟩ = some (uv seed) ∧ u.cell? ⟨N, 2, none⟩ = some (.slice oa ls.length oc)) ∧ Ext w0 u) := hid fun u k => ⟨⟨cell_of (k.heap_some hb0) 0, cell_of (k.heap_some hb0) 1, cell_of (k.heap_some hb0) 2⟩, k⟩
  clear h hw0 hx0 hb0 hS
  go_enter Tryz.func12, Tryz.ntmps12
  go_upto_region 1 with fail
  rw [← HW.out, ← hN]
  clear hN HW
  go_wp2_with fail
  refine (AW.out _).mono ?_
  rintro e w1 ⟨rfl, hx⟩
  have X1 := hid hx
  clear hx
  obtain ⟨⟨c0, c1, c2⟩, -⟩ := HC.out w1 X1.out
  go_wp2_with fail
  refine (RG.out _ (HX0.out.trans X1.out)).mono ?_
  rintro e w2 ⟨rfl, hx⟩
  have X2 := hid (X1.out.trans hx)
  clear hx RG c0 c1 c2
  cases S with
  | false =>
    go_wp2_with fail
    refine (AW.out _).mono ?_
    rintro e w3 ⟨rfl, hx⟩
    have X3 := hid (X2.out.trans hx)
    clear hx AW
    go_wp2_with fail
    go_ret
    exact ⟨rfl, HX0.out.trans X3.out⟩
  | true =>
    obtain ⟨n, rfl, h1, h6, hl6, hbs⟩ := right_facts HS.out.symm
    have HD := hid (And.intro h1 h6)
    have HBS := hid hbs
    have hlI : (ls.length : Int) ≤ 6 := by omega
    have HRL := hid (rules51_any (n : Int))
    obtain ⟨⟨c0, c1, c2⟩, -⟩ := HC.out w2 X2.out
    clear AW h1 h6 hl6 hbs
    go_wp2_with fail
    clear c0 c1 c2
    go_loopw [19] (fun iv wr => ∃ i : Nat, i ≤ ls.length ∧ iv = .int .i64 i ∧ Hid (Ext w0 wr)) (fun iv _ => ls.length - (intOf iv).toNat)
    case atStart => exact ⟨0, by omega, rfl, X2⟩
    case round =>
      obtain ⟨i, hi, rfl, HX⟩ := hrel
      have hi0 : (0 : Int) ≤ (i : Int) := Int.natCast_nonneg _
      by_cases hlt : i < ls.length
      case neg =>
        have hltB : decide ((i : Int) < (ls.length : Int)) = false := decide_eq_false (by omega)
        obtain rfl : i = ls.length := by omega
        go_wp2_with fail
        go_ret
        exact ⟨rfl, HX0.out.trans HX.out⟩
      have hltB : decide ((i : Int) < (ls.length : Int)) = true := decide_eq_true (by omega)
      have hil : (i : Int) < (ls.length : Int) := by omega
      obtain ⟨l, hli⟩ : ∃ l, ls[i]? = some l := ⟨_, List.getElem?_eq_getElem hlt⟩
      have HBL := hid (HBS.out l (List.mem_of_getElem? hli))
      obtain ⟨gg, q, la, lc, rfl, hrl, e0⟩ := HH.out.at hli
      have HE : Hid (∀ u, Ext w0 u → RdBs u u (.slice la l.length lc) l) := hid fun u k => (hrl.ext (HX0.out.trans k)).old (HX0.out.trans k)
      replace e0 := (HX0.out.trans HX.out).cell_some e0
      clear hli hrl
      have RS : Hid (∀ u ob FO, Ext w0 u → OrcAt u ob realM FO → Calls Tryz.prog 44 #[.pointer (some ⟨ob, 0, none⟩), rlVal (rl49 (n : Int)), uv seed, .slice la l.length lc] u (RestP u n seed l)) := hid fun u ob FO k ho => restore_any ho n HD.out.1 (by have := HD.out.2; omega) seed _ l (HE.out u k) (by have := HBL.out.1; omega) HBL.out.2
      have ER : Hid (∀ u, Ext w0 u → Calls Tryz.prog 47 #[.int .i64 (n : Int), .slice la l.length lc] u fun e w' => e = .returned (.int .i64 (errW n l)) ∧ Ext u w') := hid fun u k => rErr51_any n (by have := HD.out.2; omega) _ l u (HE.out u k) (by have := HBL.out.1; omega) HBL.out.2
      go_wp2_with fail
      clear e0
      refine wp_region_T (fun u => (u.cell? ⟨N, 0, none⟩ = some (.int .i64 (n : Int)) ∧ u.cell? ⟨N, 1, none⟩ = some (uv seed) ∧ u.cell? ⟨N, 2, none⟩ = some (.slice (some ⟨gg, q, none⟩) ls.length oc)) ∧ Ext w0 u) 12 [(1, true), (2, true), (4, true), (5, true), (6, true), (0, false), (3, false), (7, false), (8, true), (9, true), (10, true), (11, true), (12, false)] (by kernel_rfl) (by kernel_rfl) (by intro c a d v w h; cases d <;> exact h) ?_
      intro ops hops
      have HS0 := HC.out _ (HX.out.trans (Ext.refl wr).drew)
      iterate 5
        refine wpT_take (v := ?_) (by rw [hops, List.getElem?_toArray]; rfl) (by first | rfl | (rw [hops]; rfl)) ?_ HS0 ?_
        rotate_left
        · intro v h; go_simp; with_reducible rfl
        simp only [Act.put, List.getElem_toArray, List.getElem_cons_zero, List.getElem_cons_succ, List.setIfInBounds_toArray, List.set_cons_zero, List.set_cons_succ]
      refine wpT_step (by rw [hops, List.getElem?_toArray]; rfl) (by first | rfl | (rw [hops]; rfl)) ?_
      intro K hK
      go_wp2_with fail
      refine (Real_any _).mono ?_
      rintro e w4 ⟨ob, FO, rfl, ho, hx, -⟩
      have HO := hid ho
      have HS1 := HC.out w4 (HS0.2.trans hx)
      clear ho hx HS0
      refine hK _ _ ⟨fun _ => HS1, ?_⟩
      clear hK K
      refine wpT_step (by rw [hops, List.getElem?_toArray]; rfl) (by first | rfl | (rw [hops]; rfl)) ?_
      intro K hK
      go_wp2_with fail
      refine (HRL.out _).mono ?_
      rintro e w5 ⟨rfl, hx⟩
      have HO2 := hid (HO.out.ext hx)
      have HS2 := HC.out w5 (HS1.2.trans hx)
      clear hx HS1 HO
      refine hK _ _ ⟨fun _ => HS2, ?_⟩
      clear hK K
      refine wpT_step (by rw [hops, List.getElem?_toArray]; rfl) (by first | rfl | (rw [hops]; rfl)) ?_
      intro K hK
      go_wp2_with fail
      refine (RS.out _ ob FO HS2.2 HO2.out).mono ?_
      rintro e w6 hrp
      rcases hrp with ⟨hez, W, G, rfl, hwa, -, hx⟩ | ⟨hez, rfl, hx⟩
      · have HWA := hid (And.intro hez hwa)
        have HS3 := HC.out w6 (HS2.2.trans hx)
        rw [hez] at ER
        clear hez hwa hx HS2 RS HO2
        refine hK _ _ ⟨fun _ => HS3, ?_⟩
        clear hK K
        iterate 4
          refine wpT_take (v := ?_) (by rw [hops, List.getElem?_toArray]; rfl) (by first | rfl | (rw [hops]; rfl)) ?_ HS3 ?_
          rotate_left
          · intro v h; go_simp; with_reducible rfl
          simp only [Act.put, List.getElem_toArray, List.getElem_cons_zero, List.getElem_cons_succ, List.setIfInBounds_toArray, List.set_cons_zero, List.set_cons_succ]
        refine wpT_step (by rw [hops, List.getElem?_toArray]; rfl) (by first | rfl | (rw [hops]; rfl)) ?_
        intro K hK
        go_wp2_with fail
        try (with_reducible refine ⟨fun h => absurd h (by decide), ?_⟩)
        try rw [wpT_nil]
        try clear hops ops
        have X6 := hid HS3.2
        obtain ⟨⟨c0, c1, c2⟩, -⟩ := HS3
        go_wp2_with fail
        refine (ER.out _ X6.out).mono ?_
        rintro e w7 ⟨rfl, hx⟩
        have X7 := hid (X6.out.trans hx)
        have IS := hid (is51_any (HWA.out.2.ext hx) (errW_okAll.1 HWA.out.1) _ (HE.out _ X7.out) (by have := HBL.out.1; omega) HBL.out.2)
        clear hx ER c0 c1 c2
        obtain ⟨⟨c0, c1, c2⟩, -⟩ := HC.out w7 X7.out
        go_wp2_with fail
        refine (IS.out).mono ?_
        rintro e w8 ⟨rfl, hx⟩
        have X8 := hid (X7.out.trans hx)
        clear hx IS c0 c1 c2
        go_wp2_with fail
        go_roundw
        case rel => exact ⟨i + 1, by omega, by go_num, X8⟩
        case measure => simp [intOf]; omega
      · have HS3 := HC.out w6 (HS2.2.trans hx)
        obtain ⟨C, hC⟩ : ∃ C, C = errW n l := ⟨_, rfl⟩
        rw [← hC] at ER hez
        have hCB : decide (C = 0) = false := decide_eq_false hez
        have hCB2 : (C == 0) = false := by rw [beq_eq_false_iff_ne]; exact hez
        have hCB3 : (C != 0) = true := by rw [bne_iff_ne]; exact hez
        try rw [← hC]
        clear hez hx HS2 RS HO2 hC
        refine hK _ _ ⟨fun _ => HS3, ?_⟩
        clear hK K
        iterate 4
          refine wpT_take (v := ?_) (by rw [hops, List.getElem?_toArray]; rfl) (by first | rfl | (rw [hops]; rfl)) ?_ HS3 ?_
          rotate_left
          · intro v h; go_simp; with_reducible rfl
          simp only [Act.put, List.getElem_toArray, List.getElem_cons_zero, List.getElem_cons_succ, List.setIfInBounds_toArray, List.set_cons_zero, List.set_cons_succ]
        refine wpT_step (by rw [hops, List.getElem?_toArray]; rfl) (by first | rfl | (rw [hops]; rfl)) ?_
        intro K hK
        go_wp2_with fail
        try (with_reducible refine ⟨fun h => absurd h (by decide), ?_⟩)
        try rw [wpT_nil]
        try clear hops ops
        have X6 := hid HS3.2
        obtain ⟨⟨c0, c1, c2⟩, -⟩ := HS3
        go_wp2_with fail
        refine (ER.out _ X6.out).mono ?_
        rintro e w7 ⟨rfl, hx⟩
        have X7 := hid (X6.out.trans hx)
        clear hx ER c0 c1 c2
        go_wp2_with fail
        go_roundw
        case rel => exact ⟨i + 1, by omega, by go_num, X7⟩
        case measure => simp [intOf]; omega
end Go.Proofs.YtcikjcjfcanloaaGreat
