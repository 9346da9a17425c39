/- Identifiers and bytes of blocks: block.ID, Encode; moidoreref47.Named, Same, Small. (Written by wip/tools/gen_blki.py.) -/
import Derived.Test.YtkdnnekdldomeaaBlkV
set_option linter.unusedSimpArgs false
namespace Go.Proofs.Ytkdnnekdldomeaa
open Go.RowKit
attribute [local irreducible] perm fAdd fMul fPow fSub fNeg fRed hashU
theorem cat_map {α : Type} (f : α → UInt64) (l : List α) : cat (l.map f) = l.flatMap fun x => leB 8 (f x) := by
  unfold cat
  induction l with
  | nil => rfl
  | cons x r ih => rw [List.map_cons, List.flatMap_cons, List.flatMap_cons, ih]
theorem blkV_ne {b : BlkT} (h : blkV b ≠ 0) : blkV b = 1 ∨ blkV b = 3 := by
  unfold blkV at h ⊢
  split
  · split
    · next h1 h2 => rw [if_pos h1, if_pos h2] at h; exact absurd rfl h
    · exact .inr rfl
  · exact .inl rfl
set_option maxRecDepth 100000 in
set_option maxHeartbeats 6400000 in
theorem blkID_any (b : BlkT) (tv : Value) (w : World) (h : RdTs w tv b.txs) (hs : BSm b) :
    Calls Try.prog 8 #[blkVal b tv] w fun e w' => e = .returned (uv (blkId b)) ∧ Ext w w' := by
  have HV : Hid (∀ v, Ext w v → Calls Try.prog 22 #[blkVal b tv] v fun e w' => e = .returned (.int .i64 (blkV b)) ∧ Ext v w') := hid fun v k => blkValid_any b tv v (h.ext k) hs
  have HI : Hid (∀ v, Ext w v → Calls Try.prog 24 #[blkVal b tv] v (NewU v (b.txs.map txId))) := hid fun v k => ids_any b tv v (h.ext k) hs
  have hn := hs.n
  obtain ⟨ta, tc, rfl, -⟩ := h.shape
  have HD : Hid (∀ v iv, RdU' v iv (b.txs.map txId) → Calls Try.prog 23 #[blkVal b (.slice ta b.txs.length tc), iv] v fun e w' => e = .returned (uv (hashB 15 (named b))) ∧ Ext v w') := hid fun v iv hi => by
    have := identifier_any b ta tc iv _ v hi (by rw [List.length_map]; omega)
    rw [cat_map] at this
    exact this
  unfold blkId
  obtain ⟨R, hR⟩ : ∃ R, R = blkV b := ⟨_, rfl⟩
  rw [← hR] at HV ⊢
  generalize hashB 15 (named b) = hb at *
  generalize b.txs.map txId = ids at *
  clear h hs hR hn
  obtain ⟨N, hN⟩ : ∃ N, N = w.heap.size := ⟨_, rfl⟩
  obtain ⟨w0, hw0⟩ : ∃ w0, w0 = w.alloc (.cells #[uv b.parent, .int .i64 b.height, uv b.miner, uv b.work, uv b.nonce, .slice ta b.txs.length tc] 25) := ⟨_, rfl⟩
  have hx0 : Ext w w0 := by rw [hw0]; exact (Ext.refl w).alloc _
  have hb0 : w0.heap[N]? = some (.cells #[uv b.parent, .int .i64 b.height, uv b.miner, uv b.work, uv b.nonce, .slice ta b.txs.length tc] 25 (0, 0)) := by rw [hw0, hN]; exact heap_new _ _
  have HB := hid hb0
  have HW := hid hw0
  have HX0 := hid hx0
  clear hw0 hx0 hb0
  obtain ⟨c0, c1, c2, c3, c4, c5⟩ := six_cellsB HB.out
  have HSX : Hid (∀ v, Ext w0 v → (v.cell? ⟨N, 0, none⟩ = some (uv b.parent) ∧ v.cell? ⟨N, 1, none⟩ = some (.int .i64 b.height) ∧ v.cell? ⟨N, 2, none⟩ = some (uv b.miner) ∧ v.cell? ⟨N, 3, none⟩ = some (uv b.work) ∧ v.cell? ⟨N, 4, none⟩ = some (uv b.nonce) ∧ v.cell? ⟨N, 5, none⟩ = some (.slice ta b.txs.length tc))) := hid fun v k => six_cellsB (k.heap_some HB.out)
  go_enter Try.func8, Try.ntmps8
  go_upto_region 1 with fail
  rw [← HW.out, ← hN]
  clear hN
  go_wp2_with fail
  refine (HV.out _ HX0.out).mono ?_
  rintro e w1 ⟨rfl, hx⟩
  have HX1 := hid hx
  clear hx c0 c1 c2 c3 c4 c5
  by_cases h0 : R = 0
  · subst h0
    try simp only [if_true]
    go_wp2_with fail
    refine wp_region_T (fun v => (v.cell? ⟨N, 0, none⟩ = some (uv b.parent) ∧ v.cell? ⟨N, 1, none⟩ = some (.int .i64 b.height) ∧ v.cell? ⟨N, 2, none⟩ = some (uv b.miner) ∧ v.cell? ⟨N, 3, none⟩ = some (uv b.work) ∧ v.cell? ⟨N, 4, none⟩ = some (uv b.nonce) ∧ v.cell? ⟨N, 5, none⟩ = some (.slice ta b.txs.length tc)) ∧ Ext w1 v) 3 [(0, true), (1, true), (2, false), (3, false), (4, false)] (by kernel_rfl) (by kernel_rfl) (by intro c a d v w h; cases d <;> exact h) ?_
    intro ops hops
    have HSS := keep0 (fun v k => HSX.out v (HX1.out.trans k))
    iterate 2
      refine wpT_take (v := ?_) (by rw [hops, List.getElem?_toArray]; rfl) (by first | rfl | (rw [hops]; rfl)) ?_ HSS ?_
      rotate_left
      · intro v h; go_simp; with_reducible rfl
      simp only [Act.put, List.getElem_toArray, List.getElem_cons_zero, List.getElem_cons_succ, List.setIfInBounds_toArray, List.set_cons_zero, List.set_cons_succ]
    refine wpT_step (by rw [hops, List.getElem?_toArray]; rfl) (by first | rfl | (rw [hops]; rfl)) ?_
    intro K hK
    go_wp2_with fail
    refine (HI.out _ ((HX0.out.trans HX1.out).drew)).mono ?_
    rintro e w2 ⟨v2, rfl, h1, h2, -⟩
    have HSS1 := keepE (fun v k => HSX.out v (HX1.out.trans k)) HSS h2
    have HR2 := hid h1.rdu.weak
    obtain ⟨sa, sc, hv2, -⟩ := h1.rdu
    subst hv2
    clear h1 h2 HSS
    refine hK _ _ ⟨fun _ => HSS1, ?_⟩
    clear hK K
    refine wpT_step (by rw [hops, List.getElem?_toArray]; rfl) (by first | rfl | (rw [hops]; rfl)) ?_
    intro K hK
    go_wp2_with fail
    refine (HD.out _ _ HR2.out).mono ?_
    rintro e w3 ⟨rfl, hx⟩
    have HX3 := hid ((HX0.out.trans HX1.out).trans (HSS1.2.trans hx))
    clear hx HSS1
    refine hK _ _ ⟨fun h => absurd h (by decide), ?_⟩
    clear hK K
    refine wpT_step (by rw [hops, List.getElem?_toArray]; rfl) (by first | rfl | (rw [hops]; rfl)) ?_
    intro K hK
    go_wp2_with fail
    try (with_reducible refine ⟨fun h => absurd h (by decide), ?_⟩)
    try rw [wpT_nil]
    try clear hops ops
    go_wp2_with fail
    go_ret
    exact ⟨rfl, HX3.out⟩
  · have hne : (R != 0) = true := by simpa using h0
    have HN0 := hid h0
    try simp only [if_neg HN0.out]
    clear h0
    go_wp2_with fail
    go_ret
    exact ⟨rfl, HX0.out.trans HX1.out⟩
/-! ## Encode -/
def EncBO (w : World) (b : BlkT) (e : Ending) (w' : World) : Prop := ∃ v, e = .returned (.tuple #[v, .int .i64 (blkV b)]) ∧ FrB w w' v (if blkV b = 0 then blkB b else [])
theorem blkBody_le {l : List TxT} (h : ∀ t ∈ l, TSm t ∧ t.proof.length ≤ 10000) : (l.flatMap fun t => bytesB (txB t)).length ≤ 200000000 * l.length := by
  induction l with
  | nil => simp
  | cons t r ih =>
    have h1 := ih (fun t ht => h t (by simp [ht]))
    have h2 := h t (by simp)
    have h3 : (txB t).length ≤ 100000000 := by
      unfold txB txTail bytesB
      have h4 := outsB_le h2.1.c
      have h5 := h2.1.m
      have h6 := h2.1.o
      simp only [List.length_append, leB_length, lenB_length, listB_length]
      omega
    rw [List.flatMap_cons, List.length_append, List.length_cons]
    unfold bytesB at h1 ⊢
    rw [List.length_append, lenB_length]
    omega
theorem txB_valid_le {t : TxT} (h : txV t = 0) : (txB t).length ≤ 400 + t.proof.length := by
  have hp := txV_parts h
  unfold txB txTail bytesB
  have h1 := outsB_length hp.oo
  have h2 := hp.ml
  have h3 := hp.ol
  simp only [List.length_append, leB_length, lenB_length, listB_length]
  omega
theorem blkBody_le2 {l : List TxT} (h : ∀ t ∈ l, txV t = 0 ∧ t.proof.length ≤ 10000) : (l.flatMap fun t => bytesB (txB t)).length ≤ 20000 * l.length := by
  induction l with
  | nil => simp
  | cons t r ih =>
    have h1 := ih (fun t ht => h t (by simp [ht]))
    have h2 := h t (by simp)
    have h3 := txB_valid_le h2.1
    rw [List.flatMap_cons, List.length_append, List.length_cons]
    unfold bytesB at h1 ⊢
    rw [List.length_append, lenB_length]
    omega
theorem body_snoc {l : List TxT} {i : Nat} {t : TxT} (h : l[i]? = some t) : ((l.take (i + 1)).flatMap fun t => bytesB (txB t)) = ((l.take i).flatMap fun t => bytesB (txB t)) ++ bytesB (txB t) := by
  rw [List.take_add_one, h]; simp
set_option maxRecDepth 100000 in
set_option maxHeartbeats 6400000 in
theorem blkEncode_any (b : BlkT) (tv : Value) (w : World) (h : RdTs w tv b.txs) (hs : BSm b) :
    Calls Try.prog 14 #[blkVal b tv] w (EncBO w b) := by
  have HV : Hid (∀ v, Ext w v → Calls Try.prog 22 #[blkVal b tv] v fun e w' => e = .returned (.int .i64 (blkV b)) ∧ Ext v w') := hid fun v k => blkValid_any b tv v (h.ext k) hs
  have HH := hid h
  have HS := hid hs
  obtain ⟨ta, tc, rfl, -⟩ := h.shape
  unfold EncBO
  have HVT : Hid (blkV b = 0 → ∀ t ∈ b.txs, txV t = 0) := hid fun h => (blkV_parts h).2
  obtain ⟨R, hR⟩ : ∃ R, R = blkV b := ⟨_, rfl⟩
  rw [← hR] at HV HVT ⊢
  have hn1 : (b.txs.length : Int) ≤ 100 := by have := hs.n; omega
  clear h hs hR
  obtain ⟨N, hN⟩ : ∃ N, N = w.heap.size := ⟨_, rfl⟩
  obtain ⟨w0, hw0⟩ : ∃ w0, w0 = w.alloc (.cells #[uv b.parent, .int .i64 b.height, uv b.miner, uv b.work, uv b.nonce, .slice ta b.txs.length tc] 25) := ⟨_, rfl⟩
  have hx0 : Ext w w0 := by rw [hw0]; exact (Ext.refl w).alloc _
  have hb0 : w0.heap[N]? = some (.cells #[uv b.parent, .int .i64 b.height, uv b.miner, uv b.work, uv b.nonce, .slice ta b.txs.length tc] 25 (0, 0)) := by rw [hw0, hN]; exact heap_new _ _
  have HB := hid hb0
  have HW := hid hw0
  have HX0 := hid hx0
  clear hw0 hx0 hb0
  obtain ⟨c0, c1, c2, c3, c4, c5⟩ := six_cellsB HB.out
  go_enter Try.func14, Try.ntmps14
  go_upto_region 1 with fail
  rw [← HW.out, ← hN]
  clear hN
  go_wp2_with fail
  refine (HV.out _ HX0.out).mono ?_
  rintro e w1 ⟨rfl, hx⟩
  have HX1 := hid hx
  clear hx c0 c1 c2 c3 c4 c5
  by_cases h0 : R = 0
  case neg =>
    have hne : (R != 0) = true := by simpa using h0
    have HN0 := hid h0
    clear h0
    go_wp2_with fail
    refine bodyPost_ret (v := .tuple #[.slice none 0 0, .int .i64 R]) (by simp [results, Try.results14, go_sem]) rfl ⟨_, rfl, ?_⟩
    try rw [if_neg HN0.out]
    exact ⟨World.ownsRow_nil _ _ _ _, HX0.out.trans HX1.out, fun k hk => by cases hk⟩
  subst h0
  have HVT0 := hid (HVT.out rfl)
  clear HVT
  obtain ⟨c0, c1, c2, c3, c4, c5⟩ := six_cellsB (HX1.out.heap_some HB.out)
  go_wp2_with fail
  refine (hdr_any b ta tc _).mono ?_
  rintro e w2 ⟨v2, rfl, g1, g2, g3⟩
  have F2 : Hid (FrB w0 w2 v2 (hdrB b)) := hid ⟨g1, HX1.out.trans g2, fun k hk => Nat.le_trans HX1.out.size (g3 k hk)⟩
  obtain ⟨sa2, sc2, rfl⟩ := F2.out.sl
  clear g1 g2 g3 c0 c1 c2 c3 c4 c5
  obtain ⟨c0, c1, c2, c3, c4, c5⟩ := six_cellsB (F2.out.2.1.heap_some HB.out)
  go_wp2_with fail
  clear c0 c1 c2 c3 c4 c5
  go_loopw [5, 20] (fun bv iv wr => ∃ i : Nat, i ≤ b.txs.length ∧ iv = .int .i64 i ∧ Hid (FrB w0 wr bv (hdrB b ++ (b.txs.take i).flatMap fun t => bytesB (txB t)))) (fun _ iv _ => b.txs.length - (intOf iv).toNat)
  case atStart => exact ⟨0, by omega, rfl, hid (by simpa using F2.out)⟩
  case round =>
    clear F2
    obtain ⟨i, hi, rfl, HI⟩ := hrel
    by_cases hlt : i < b.txs.length
    · have hltB : decide ((i : Int) < (b.txs.length : Int)) = true := by simp; omega
      have hi0 : (0 : Int) ≤ (i : Int) := Int.natCast_nonneg _
      have hil : (i : Int) < (b.txs.length : Int) := by omega
      obtain ⟨t, hti⟩ : ∃ t, b.txs[i]? = some t := ⟨_, List.getElem?_eq_getElem hlt⟩
      obtain ⟨q, o, ma, mc, oa, oc, pa, pc, rfl, hrt, e0, e1, e2, e3, e4, e5, e6, e7, e8, e9⟩ := (HH.out.ext (HX0.out.trans HI.out.2.1)).at hti
      have HTS := hid (HS.out.t t (List.mem_of_getElem? hti))
      have HTV := hid (HVT0.out t (List.mem_of_getElem? hti))
      obtain ⟨D, hD⟩ : ∃ D, D = hdrB b ++ (b.txs.take i).flatMap fun t => bytesB (txB t) := ⟨_, rfl⟩
      have HD : Hid (hdrB b ++ ((b.txs.take (i + 1)).flatMap fun t => bytesB (txB t)) = D ++ bytesB (txB t)) := hid (by rw [body_snoc hti, ← List.append_assoc, hD])
      have BD : Hid (D.length ≤ 1000000000) := hid (by
        rw [hD, List.length_append, hdrB_length]
        have h1 := blkBody_le2 (l := b.txs.take i) (fun t ht => ⟨HVT0.out t (List.mem_of_mem_take ht), (HS.out.t t (List.mem_of_mem_take ht)).2⟩)
        rw [List.length_take] at h1
        have h2 := HS.out.n
        have h3 : min i b.txs.length ≤ 100 := by omega
        omega)
      rw [← hD] at HI
      obtain ⟨ka, kc, rfl⟩ := HI.out.sl
      clear hti hD
      go_upto_region 8 with fail
      clear e0 e1 e2 e3 e4 e5 e6 e7 e8 e9
      obtain ⟨P, hP⟩ : ∃ P, P = wr.heap.size := ⟨_, rfl⟩
      obtain ⟨x1, hx1⟩ : ∃ x1, x1 = wr.alloc (.cells #[uv t.anchor, .slice ma t.marks.length mc, .slice oa t.outs.length oc, uv t.deposit, uv t.withdraw, uv t.fee, uv t.account, uv t.nonce, .int .i64 t.expiry, .slice pa t.proof.length pc] 39) := ⟨_, rfl⟩
      have hy1 : Ext wr x1 := by rw [hx1]; exact (Ext.refl wr).alloc _
      have hb1 : x1.heap[P]? = some (.cells #[uv t.anchor, .slice ma t.marks.length mc, .slice oa t.outs.length oc, uv t.deposit, uv t.withdraw, uv t.fee, uv t.account, uv t.nonce, .int .i64 t.expiry, .slice pa t.proof.length pc] 39 (0, 0)) := by rw [hx1, hP]; exact heap_new _ _
      rw [← hx1, ← hP]
      obtain ⟨t0, t1, t2, t3, t4, t5, t6, t7, t8, t9⟩ := ten_cells hb1
      have HEN : Hid (Calls Try.prog 16 #[txVal t (.slice ma t.marks.length mc) (.slice oa t.outs.length oc) (.slice pa t.proof.length pc)] x1 fun e w' => ∃ v, e = .returned (.tuple #[v, .int .i64 0]) ∧ FrB x1 w' v (txB t)) := hid (by
        have := txEncode_any t _ _ _ x1 (hrt.ext hy1) HTS.out.1
        unfold EncO at this
        rw [HTV.out] at this
        exact this)
      have G0 := hid (HI.out.ext hy1)
      clear hx1 hy1 hb1 hP hrt
      go_wp2_with fail
      refine (HEN.out).mono ?_
      rintro e x2 ⟨v3, rfl, hf⟩
      have G1 := hid (G0.out.ext hf.2.1)
      have HF := hid hf
      obtain ⟨za, zc, rfl⟩ := hf.sl
      have HTL : Hid ((txB t).length ≤ 100000000) := hid (by
        have h1 := blkBody_le (l := [t]) (fun t' ht => by rw [List.mem_singleton] at ht; subst ht; exact HTS.out)
        have h2 := HTS.out.2
        unfold txB txTail bytesB
        have h4 := outsB_le HTS.out.1.c
        have h5 := HTS.out.1.m
        have h6 := HTS.out.1.o
        simp only [List.length_append, leB_length, lenB_length, listB_length]
        omega)
      generalize txB t = B at *
      clear hf t0 t1 t2 t3 t4 t5 t6 t7 t8 t9 HEN
      have hBl : B.length ≤ 100000000 := HTL.out
      go_wp2_with fail
      refine (wBytes_fr G1.out HF.out.1.weak (by have := BD.out; omega) hBl).mono ?_
      rintro e x3 ⟨v4, rfl, hf, -⟩
      have G2 := hid hf
      clear hf
      go_wp2_with fail
      go_roundw
      case rel => exact ⟨i + 1, by omega, by go_num, hid (by rw [HD.out]; exact G2.out)⟩
      case measure => simp [intOf]; omega
    · have hie : i = b.txs.length := by omega
      subst hie
      have hltB : decide ((b.txs.length : Int) < (b.txs.length : Int)) = false := by simp
      have hf := HI.out
      rw [List.take_length] at hf
      have HF := hid hf
      have HBB : Hid (hdrB b ++ (b.txs.flatMap fun t => bytesB (txB t)) = blkB b) := hid rfl
      rw [HBB.out] at HF
      obtain ⟨BB, hBB⟩ : ∃ BB, BB = blkB b := ⟨_, rfl⟩
      rw [← hBB] at HF
      have HBE := hid hBB
      obtain ⟨ka, kc, rfl⟩ := HF.out.sl
      clear hf HI hBB
      go_wp2_with fail
      refine bodyPost_ret (v := .tuple #[.slice ka BB.length kc, .int .i64 0]) (by simp [results, Try.results14, go_sem]) rfl ⟨_, rfl, ?_⟩
      try rw [if_pos rfl]
      rw [← HBE.out]
      exact ⟨HF.out.1, HX0.out.trans HF.out.2.1, fun k hk => Nat.le_trans HX0.out.size (HF.out.2.2 k hk)⟩
end Go.Proofs.Ytkdnnekdldomeaa
