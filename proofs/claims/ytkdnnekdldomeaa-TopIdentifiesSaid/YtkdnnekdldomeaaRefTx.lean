/- Transactions by the reference: moidoreref41.reduced, Valid, ID. -/
import Derived.Test.YtkdnnekdldomeaaRefTxB
set_option linter.unusedSimpArgs false
namespace Go.Proofs.Ytkdnnekdldomeaa
open Go.RowKit
attribute [local irreducible] perm fAdd fMul fPow fSub fNeg fRed hashU
set_option maxRecDepth 100000 in
set_option maxHeartbeats 800000 in
theorem reduced41_any (v : Value) (l : List UInt64) (w : World) (h : RdU' w v l) (hL : l.length ≤ 10000000000) :
    Calls Try.prog 44 #[v] w fun e w' => e = .returned (.bool (allE l)) ∧ Ext w w' := by
  obtain ⟨a, c, rfl, -⟩ := id h
  have HX := hid h
  have hL1 : (l.length : Int) ≤ 10000000000 := by omega
  obtain ⟨R, hR⟩ : ∃ R, R = allE l := ⟨_, rfl⟩
  rw [← hR]
  have HR := hid hR
  clear h hR
  go_enter Try.func44, Try.ntmps44
  go_wp2_with fail
  go_loop [3] (fun iv => ∃ i : Nat, i ≤ l.length ∧ iv = .int .i64 i ∧ Hid ((l.take i).all (fun x => decide (x < big)) = true)) (fun iv => l.length - (intOf iv).toNat)
  case atStart => exact ⟨0, by omega, rfl, hid rfl⟩
  case round =>
    obtain ⟨i, hi, rfl, HI⟩ := hrel
    by_cases hlt : i < l.length
    · have hltB : decide ((i : Int) < (l.length : Int)) = true := by simp; omega
      obtain ⟨y, hy⟩ : ∃ y, l[i]? = some y := ⟨_, List.getElem?_eq_getElem hlt⟩
      obtain ⟨b, o, rfl, hc⟩ := HX.out.uat hy
      have hi0 : (0 : Int) ≤ (i : Int) := Int.natCast_nonneg _
      have hil : (i : Int) < (l.length : Int) := by omega
      have HY := hid hy
      have hd := ge_big y
      clear hy
      by_cases hb : y < big
      · rw [show decide (y < big) = true by simpa using hb] at hd
        have HA := hid (allE_snoc HY.out HI.out hb)
        clear hb
        go_wp2_with fail
        go_round
        case rel => exact ⟨i + 1, by omega, by go_num, HA⟩
        case measure => simp [intOf]; omega
      · rw [show decide (y < big) = false by simpa using hb] at hd
        have hr : R = false := by rw [HR.out]; exact allE_bad HY.out hb
        subst hr
        clear hb
        go_wp2_with fail
        go_ret
        exact ⟨rfl, Ext.refl _⟩
    · have hie : i = l.length := by omega
      subst hie
      have hltB : decide ((l.length : Int) < (l.length : Int)) = false := by simp
      have hr : R = true := by
        have h1 := HI.out
        rw [List.take_length] at h1
        rw [HR.out]
        exact h1
      subst hr
      go_wp2_with fail
      go_ret
      exact ⟨rfl, Ext.refl _⟩
theorem txV_bad {t : TxT} (h : txOk t = false) : txV t = 1 := by unfold txV; rw [h]; rfl
theorem three_rdu (w : World) (a b c : UInt64) : RdU' (w.alloc (.cells #[uv a, uv b, uv c] 22)) (.slice (some ⟨w.heap.size, 0, none⟩) 3 3) [a, b, c] := by
  refine ⟨_, 3, rfl, by simp, by unfold maxLen; omega, (fun h => by cases h), fun ad ha j u hu => ?_⟩
  injection ha with ha
  subst ha
  rw [Addr.add_lit, Nat.zero_add, cell_of (heap_new _ _)]
  match j, hu with
  | 0, hu => simpa [us] using hu
  | 1, hu => simpa [us] using hu
  | 2, hu => simpa [us] using hu
  | j + 3, hu => simp [us] at hu
set_option maxRecDepth 100000 in
set_option maxHeartbeats 12800000 in
theorem rTxValid_any (t : TxT) (mv ov pv : Value) (w : World) (h : RdT w t mv ov pv) (hs : TSm t) :
    Calls Try.prog 21 #[txVal t mv ov pv] w fun e w' => e = .returned (.int .i64 (txV t)) ∧ Ext w w' := by
  obtain ⟨ma, mc, oa, oc, pa, pc, rfl, rfl, rfl⟩ := h.shape
  obtain ⟨R, hR⟩ : ∃ R, R = txV t := ⟨_, rfl⟩
  rw [← hR]
  have HR := hid hR
  have HBAD : Hid (txOk t = false → R = 1) := hid fun h => by rw [hR]; exact txV_bad h
  obtain ⟨N, hN⟩ : ∃ N, N = w.heap.size := ⟨_, rfl⟩
  obtain ⟨w0, hw0⟩ : ∃ w0, w0 = w.alloc (.cells #[uv t.anchor, .slice ma t.marks.length mc, .slice oa t.outs.length oc, uv t.deposit, uv t.withdraw, uv t.fee, uv t.account, uv t.nonce, .int .i64 t.expiry, .slice pa t.proof.length pc] 39) := ⟨_, rfl⟩
  have hx0 : Ext w w0 := by rw [hw0]; exact (Ext.refl w).alloc _
  have hb0 : w0.heap[N]? = some (.cells #[uv t.anchor, .slice ma t.marks.length mc, .slice oa t.outs.length oc, uv t.deposit, uv t.withdraw, uv t.fee, uv t.account, uv t.nonce, .int .i64 t.expiry, .slice pa t.proof.length pc] 39 (0, 0)) := by rw [hw0, hN]; exact heap_new _ _
  have HB := hid hb0
  have HW := hid hw0
  have HX0 := hid hx0
  have HH := hid h
  have HS := hid hs
  have hml : (t.marks.length : Int) ≤ 1000 := by have := hs.m; omega
  have hol : (t.outs.length : Int) ≤ 1000 := by have := hs.o; omega
  clear hw0 hx0 hb0 h hs hR
  obtain ⟨c0, c1, c2, c3, c4, c5, c6, c7, c8, c9⟩ := ten_cells HB.out
  go_enter Try.func21, Try.ntmps21
  go_upto_region 1 with fail
  rw [← HW.out, ← hN]
  clear hN
  by_cases h4 : t.marks.length ≤ 4
  case neg =>
    have h4B : decide ((4 : Int) < (t.marks.length : Int)) = true := by simp; omega
    have hr := HBAD.out (by unfold txOk; rw [show decide (t.marks.length ≤ 4) = false by simpa using h4]; rfl)
    subst hr
    clear h4
    go_wp2_with fail
    go_ret
    exact ⟨rfl, HX0.out⟩
  have h4B : decide ((4 : Int) < (t.marks.length : Int)) = false := by simp; omega
  have H4 : Hid (decide (t.marks.length ≤ 4) = true) := hid (by simpa using h4)
  clear h4
  by_cases h5 : t.outs.length ≤ 4
  case neg =>
    have h5B : decide ((4 : Int) < (t.outs.length : Int)) = true := by simp; omega
    have hr := HBAD.out (by unfold txOk; rw [show decide (t.outs.length ≤ 4) = false by simpa using h5]; simp)
    subst hr
    clear h5
    go_wp2_with fail
    go_ret
    exact ⟨rfl, HX0.out⟩
  have h5B : decide ((4 : Int) < (t.outs.length : Int)) = false := by simp; omega
  have H5 : Hid (decide (t.outs.length ≤ 4) = true) := hid (by simpa using h5)
  clear h5
  go_wp2_with fail
  refine (reduced41_any _ t.marks _ (HH.out.m.ext HX0.out) (by have := HS.out.m; omega)).mono ?_
  rintro e w1 ⟨rfl, hx⟩
  have HX1 := hid hx
  clear hx c0 c1 c2 c3 c4 c5 c6 c7 c8 c9
  cases ham : allE t.marks with
  | false =>
    have hr := HBAD.out (by unfold txOk; rw [ham]; simp)
    subst hr
    clear ham
    go_wp2_with fail
    go_ret
    exact ⟨rfl, HX0.out.trans HX1.out⟩
  | true =>
  have HAM := hid ham
  clear ham
  obtain ⟨c0, c1, c2, c3, c4, c5, c6, c7, c8, c9⟩ := ten_cells (HX1.out.heap_some HB.out)
  go_wp2_with fail
  refine (reduced41_any _ [t.anchor, t.account, t.nonce] _ (three_rdu w1 t.anchor t.account t.nonce) (by simp)).mono ?_
  rintro e w2 ⟨rfl, hx⟩
  have HX2 := hid (HX1.out.trans (((Ext.refl w1).alloc _).trans hx))
  clear hx c0 c1 c2 c3 c4 c5 c6 c7 c8 c9
  cases hab : allE [t.anchor, t.account, t.nonce] with
  | false =>
    have hr := HBAD.out (by
      unfold txOk amtOk
      simp [allE] at hab
      by_cases q1 : t.anchor < big
      · by_cases q2 : t.account < big
        · have q3 := hab q1 q2
          rw [show decide (t.nonce < big) = false by simpa using q3]; simp
        · rw [show decide (t.account < big) = false by simpa using q2]; simp
      · rw [show decide (t.anchor < big) = false by simpa using q1]; simp)
    subst hr
    clear hab
    go_wp2_with fail
    go_ret
    exact ⟨rfl, HX0.out.trans HX2.out⟩
  | true =>
  have HAB : Hid (t.anchor < big ∧ t.account < big ∧ t.nonce < big) := hid (by simpa [allE] using hab)
  clear hab
  go_wp2_with fail
  go_loopw [3] (fun iv wr => ∃ i : Nat, i ≤ t.marks.length ∧ iv = .int .i64 i ∧ Hid ((t.marks.take i).Nodup) ∧ Hid (Ext w0 wr)) (fun iv _ => t.marks.length - (intOf iv).toNat)
  case atStart => exact ⟨0, by omega, rfl, hid (by simp), HX2⟩
  case round =>
    obtain ⟨i, hi, rfl, HI, HXR⟩ := hrel
    obtain ⟨c0, c1, c2, c3, c4, c5, c6, c7, c8, c9⟩ := ten_cells (HXR.out.heap_some HB.out)
    by_cases hlt : i < t.marks.length
    · have hltB : decide ((i : Int) < (t.marks.length : Int)) = true := by simp; omega
      have hi0 : (0 : Int) ≤ (i : Int) := Int.natCast_nonneg _
      have hil : (i : Int) < (t.marks.length : Int) := by omega
      obtain ⟨x, hx⟩ : ∃ x, t.marks[i]? = some x := ⟨_, List.getElem?_eq_getElem hlt⟩
      have HXI := hid hx
      clear hx
      go_wp2_with fail
      clear c0 c1 c2 c3 c4 c5 c6 c7 c8 c9
      go_loopw [4] (fun kv wr => ∃ k : Nat, k ≤ i ∧ kv = .int .i64 k ∧ Hid ((t.marks.take k).contains x = false) ∧ Hid (Ext w0 wr)) (fun kv _ => i - (intOf kv).toNat)
      case atStart => exact ⟨0, by omega, rfl, hid rfl, HXR⟩
      case round =>
        obtain ⟨k, hk, rfl, HK, HXK⟩ := hrel
        by_cases hlk : k < i
        · have hlkB : decide ((k : Int) < (i : Int)) = true := by simp; omega
          have hk0 : (0 : Int) ≤ (k : Int) := Int.natCast_nonneg _
          have hkl : (k : Int) < (t.marks.length : Int) := by omega
          have hki : (k : Int) < (i : Int) := by omega
          obtain ⟨y, hy⟩ : ∃ y, t.marks[k]? = some y := ⟨_, List.getElem?_eq_getElem (by omega)⟩
          obtain ⟨b, o, rfl, hcx⟩ := (HH.out.m.ext (HX0.out.trans HXK.out)).uat HXI.out
          obtain ⟨b', o', he, hcy⟩ := (HH.out.m.ext (HX0.out.trans HXK.out)).uat hy
          injection he with he
          injection he with he1 he2
          subst he1 he2
          obtain ⟨-, c1, -⟩ := ten_cells (HXK.out.heap_some HB.out)
          have HCC : Hid (∀ v, Ext wr v → (v.cell? ⟨N, 1, none⟩ = some (.slice (some ⟨b, o, none⟩) t.marks.length mc) ∧ v.cell? ⟨b, o + i, none⟩ = some (uv x) ∧ v.cell? ⟨b, o + k, none⟩ = some (uv y))) := hid fun v q => ⟨q.cell_some c1, q.cell_some hcx, q.cell_some hcy⟩
          have HTK : Hid (t.marks.take (k + 1) = t.marks.take k ++ [y]) := hid (by rw [List.take_add_one, hy]; rfl)
          have HYK := hid hy
          clear hy hcx hcy c1
          go_upto_region 9 with fail
          refine wp_region_T (fun v => (v.cell? ⟨N, 1, none⟩ = some (.slice (some ⟨b, o, none⟩) t.marks.length mc) ∧ v.cell? ⟨b, o + i, none⟩ = some (uv x) ∧ v.cell? ⟨b, o + k, none⟩ = some (uv y)) ∧ Ext wr v) 10 [(0, true), (1, true), (2, true), (3, true), (4, true), (5, true), (6, true), (7, true), (8, true), (9, true), (10, false)] (by kernel_rfl) (by kernel_rfl) (by intro c a d v w h; cases d <;> exact h) ?_
          intro ops hops
          have HSS := keep0 HCC.out
          iterate 10
            refine wpT_take (v := ?_) (by rw [hops, List.getElem?_toArray]; rfl) (by first | rfl | (rw [hops]; rfl)) ?_ HSS ?_
            rotate_left
            · intro v h; go_simp; with_reducible rfl
            simp only [Act.put, List.getElem_toArray, List.getElem_cons_zero, List.getElem_cons_succ, List.setIfInBounds_toArray, List.set_cons_zero, List.set_cons_succ]
          clear HSS
          by_cases hxy : x = y
          · have he : ((x.toNat : Int) == (y.toNat : Int)) = true := by rw [hxy]; simp
            have hr := HBAD.out (by
              have hn : decide t.marks.Nodup = false := by
                rw [decide_eq_false_iff_not]
                intro hn
                have h1 := ((nodup_snoc HXI.out).1 (nodup_take (i + 1) hn)).2
                rw [List.contains_eq_mem] at h1
                simp only [decide_eq_false_iff_not] at h1
                apply h1
                rw [hxy]
                exact List.mem_of_getElem? (i := k) (by rw [List.getElem?_take_of_lt (by omega)]; exact HYK.out)
              unfold txOk
              rw [hn]; simp)
            subst hr
            clear hxy
            refine wpT_step (by rw [hops, List.getElem?_toArray]; rfl) (by first | rfl | (rw [hops]; rfl)) ?_
            intro K hK
            go_wp2_with fail
            try (with_reducible refine ⟨fun h => absurd h (by decide), ?_⟩)
            try rw [wpT_nil]
            try clear hops ops
            go_wp2_with fail
            go_ret
            exact ⟨rfl, (HX0.out.trans HXK.out).drew⟩
          · have he : ((x.toNat : Int) == (y.toNat : Int)) = false := by
              have : x.toNat ≠ y.toNat := fun h => hxy (UInt64.toNat_inj.1 h)
              simp; omega
            have HN : Hid ((t.marks.take (k + 1)).contains x = false) := hid (by
              rw [HTK.out]
              have := HK.out
              rw [List.contains_eq_mem] at this ⊢
              simp at this ⊢
              exact ⟨this, hxy⟩)
            have HXD := hid HXK.out.drew
            clear hxy
            refine wpT_step (by rw [hops, List.getElem?_toArray]; rfl) (by first | rfl | (rw [hops]; rfl)) ?_
            intro K hK
            go_wp2_with fail
            try (with_reducible refine ⟨fun h => absurd h (by decide), ?_⟩)
            try rw [wpT_nil]
            try clear hops ops
            go_wp2_with fail
            go_roundw
            case rel => exact ⟨k + 1, by omega, by go_num, HN, HXD⟩
            case measure => simp [intOf]; omega
        · have hke : k = i := by omega
          subst hke
          have hlkB : decide ((k : Int) < (k : Int)) = false := by simp
          have HN : Hid ((t.marks.take (k + 1)).Nodup) := hid ((nodup_snoc HXI.out).2 ⟨HI.out, HK.out⟩)
          go_wp2_with fail
          go_roundw
          case rel => exact ⟨k + 1, by omega, by go_num, HN, HXK⟩
          case measure => simp [intOf]; omega
    · have hie : i = t.marks.length := by omega
      subst hie
      have hltB : decide ((t.marks.length : Int) < (t.marks.length : Int)) = false := by simp
      have HND : Hid (decide t.marks.Nodup = true) := hid (by have := HI.out; rw [List.take_length] at this; simpa using this)
      go_wp2_with fail
      clear c0 c1 c2 c3 c4 c5 c6 c7 c8 c9
      go_loopw [5] (fun iv wr => ∃ i : Nat, i ≤ t.outs.length ∧ iv = .int .i64 i ∧ Hid ((t.outs.take i).all outOk = true) ∧ Hid (Ext w0 wr)) (fun iv _ => t.outs.length - (intOf iv).toNat)
      case atStart => exact ⟨0, by omega, rfl, hid rfl, HXR⟩
      case round =>
        clear HI HXR
        obtain ⟨i, hi, rfl, HI, HXR⟩ := hrel
        obtain ⟨c0, c1, c2, c3, c4, c5, c6, c7, c8, c9⟩ := ten_cells (HXR.out.heap_some HB.out)
        by_cases hlt : i < t.outs.length
        · have hltB : decide ((i : Int) < (t.outs.length : Int)) = true := by simp; omega
          obtain ⟨x, hxi⟩ : ∃ x, t.outs[i]? = some x := ⟨_, List.getElem?_eq_getElem hlt⟩
          obtain ⟨b, q, ca, cc, rfl, e0, e1, e2, e3, hrc⟩ := (HH.out.o.ext (HX0.out.trans HXR.out)).at hxi
          have hi0 : (0 : Int) ≤ (i : Int) := Int.natCast_nonneg _
          have hil : (i : Int) < (t.outs.length : Int) := by omega
          have HXI := hid hxi
          have HCL : Hid (x.cipher.length ≤ 1000) := hid (HS.out.c x (List.mem_of_getElem? hxi))
          have HOB : Hid (outOk x = false → R = 1) := hid fun h => HBAD.out (by unfold txOk; rw [all_bad hxi h]; simp)
          clear hxi
          go_upto_region 15 with fail
          clear e0 e1 e2 e3 c0 c1 c2 c3 c4 c5 c6 c7 c8 c9
          obtain ⟨P, hP⟩ : ∃ P, P = wr.heap.size := ⟨_, rfl⟩
          obtain ⟨x1, hx1⟩ : ∃ x1, x1 = wr.alloc (.cells #[uv x.commit, uv x.p.a, uv x.p.b, .slice ca x.cipher.length cc] 64) := ⟨_, rfl⟩
          have hy1 : Ext wr x1 := by rw [hx1]; exact (Ext.refl wr).alloc _
          have hb1 : x1.heap[P]? = some (.cells #[uv x.commit, uv x.p.a, uv x.p.b, .slice ca x.cipher.length cc] 64 (0, 0)) := by rw [hx1, hP]; exact heap_new _ _
          rw [← hx1, ← hP]
          obtain ⟨o0, o1, o2, o3⟩ := four_cellsO hb1
          have HY1 := hid hy1
          have HB1 := hid hb1
          have HRC := hid hrc
          have HV := hid (rpValid_any x.p)
          have hd := ge_big x.commit
          clear hx1 hy1 hb1 hP hrc
          by_cases hb : x.commit < big
          case neg =>
            rw [show decide (x.commit < big) = false by simpa using hb] at hd
            have hr := HOB.out (by unfold outOk; rw [show decide (x.commit < big) = false by simpa using hb]; rfl)
            subst hr
            clear hb
            go_wp2_with fail
            go_ret
            exact ⟨rfl, (HX0.out.trans HXR.out).trans HY1.out⟩
          rw [show decide (x.commit < big) = true by simpa using hb] at hd
          have HO1 : Hid (outOk x = (validP x.p && decide (x.cipher.length = 3) && allE x.cipher)) := hid (by
            unfold outOk
            rw [show decide (x.commit < big) = true by simpa using hb, Bool.true_and])
          clear hb
          go_wp2_with fail
          refine (HV.out _).mono ?_
          rintro e x2 ⟨rfl, hx⟩
          have HY2 := hid (HY1.out.trans hx)
          obtain ⟨p0, p1, p2, p3⟩ := four_cellsO (hx.heap_some HB1.out)
          have HB2 := hid (hx.heap_some HB1.out)
          clear hx o0 o1 o2 o3 HV
          obtain ⟨vp, hvp⟩ : ∃ vp, vp = validP x.p := ⟨_, rfl⟩
          rw [← hvp] at HO1 ⊢
          clear hvp
          cases vp with
          | false =>
            have hr := HOB.out (by rw [HO1.out]; rfl)
            subst hr
            go_wp2_with fail
            go_ret
            exact ⟨rfl, (HX0.out.trans HXR.out).trans HY2.out⟩
          | true =>
            by_cases h3 : x.cipher.length = 3
            case neg =>
              have h3B : ((x.cipher.length : Int) != 3) = true := by simp; omega
              have hr := HOB.out (by rw [HO1.out, show decide (x.cipher.length = 3) = false by simpa using h3]; rfl)
              subst hr
              clear h3
              go_wp2_with fail
              go_ret
              exact ⟨rfl, (HX0.out.trans HXR.out).trans HY2.out⟩
            have h3B : ((x.cipher.length : Int) != 3) = false := by simp; omega
            have HO2 : Hid (outOk x = allE x.cipher) := hid (by rw [HO1.out, show decide (x.cipher.length = 3) = true by simpa using h3]; simp)
            have HRD := hid (reduced41_any _ x.cipher _ (HRC.out.ext HY2.out) (by have := HCL.out; omega))
            obtain ⟨L, hL3⟩ : ∃ L, L = x.cipher.length := ⟨_, rfl⟩
            rw [← hL3] at h3B p3 HRD
            clear h3 hL3
            go_wp2_with fail
            refine (HRD.out).mono ?_
            rintro e x3 ⟨rfl, hx⟩
            have HY3 := hid (HY2.out.trans hx)
            clear hx p0 p1 p2 p3 HRD
            cases hae : allE x.cipher with
            | false =>
              have hr := HOB.out (by rw [HO2.out]; exact hae)
              subst hr
              clear hae
              go_wp2_with fail
              go_ret
              exact ⟨rfl, (HX0.out.trans HXR.out).trans HY3.out⟩
            | true =>
              have HN : Hid ((t.outs.take (i + 1)).all outOk = true) := hid (all_snoc HXI.out HI.out (by rw [HO2.out]; exact hae))
              clear hae
              go_wp2_with fail
              go_roundw
              case rel => exact ⟨i + 1, by omega, by go_num, HN, hid (HXR.out.trans HY3.out)⟩
              case measure => simp [intOf]; omega
        · have hie : i = t.outs.length := by omega
          subst hie
          have hltB : decide ((t.outs.length : Int) < (t.outs.length : Int)) = false := by simp
          have HR2 : Hid (R = if (amtOk t && (decide (0 ≤ t.expiry) && decide (t.expiry ≤ 1048576))) then (if decide (t.proof.length ≤ 1048576) then 0 else 3) else 1) := hid (by
            rw [HR.out]
            unfold txV
            have h1 : txOk t = (amtOk t && (decide (0 ≤ t.expiry) && decide (t.expiry ≤ 1048576))) := by
              have h2 := HI.out
              rw [List.take_length] at h2
              unfold txOk
              rw [H4.out, H5.out, HAM.out, HND.out, h2, show decide (t.anchor < big) = true by simpa using HAB.out.1]
              simp [Bool.and_assoc]
            rw [h1]
            by_cases hp : t.proof.length ≤ 1048576
            · rw [if_pos hp, show decide (t.proof.length ≤ 1048576) = true by simpa using hp]; rfl
            · rw [if_neg hp, show decide (t.proof.length ≤ 1048576) = false by simpa using hp]; rfl)
          rw [amtOk_B, show decide (t.account < big) = true by simpa using HAB.out.2.1, show decide (t.nonce < big) = true by simpa using HAB.out.2.2] at HR2
          have a1 := gt_max t.deposit
          have a2 := gt_max t.withdraw
          have a3 := gt_max t.fee
          have a6 := gt_zero t.deposit
          have z6 : ((t.deposit.toNat : Int) == 0) = !decide (0 < t.deposit.toNat) := by
            rw [eq_zero]
            by_cases h : t.deposit.toNat = 0
            · simp [h]
            · rw [show decide (t.deposit.toNat = 0) = false by simpa using h, show decide (0 < t.deposit.toNat) = true by simp; omega]; rfl
          have z7 : ((t.withdraw.toNat : Int) == 0) = !decide (0 < t.withdraw.toNat) := by
            rw [eq_zero]
            by_cases h : t.withdraw.toNat = 0
            · simp [h]
            · rw [show decide (t.withdraw.toNat = 0) = false by simpa using h, show decide (0 < t.withdraw.toNat) = true by simp; omega]; rfl
          have z8 : decide (t.withdraw.toNat = 0) = !decide (0 < t.withdraw.toNat) := by rw [← eq_zero]; exact z7
          rw [z8] at HR2
          have a8 := len_zero t.marks
          have a9 := ne_zero' t.nonce
          have a10 := gt_zero t.withdraw
          have a11 := ne_zero' t.account
          have a12 : decide (t.expiry < 0) = !decide (0 ≤ t.expiry) := by
            by_cases h : 0 ≤ t.expiry
            · rw [show decide (0 ≤ t.expiry) = true by simpa using h]; simp; omega
            · rw [show decide (0 ≤ t.expiry) = false by simpa using h]; simp; omega
          have a13 : decide ((1048576 : Int) < t.expiry) = !decide (t.expiry ≤ 1048576) := by
            by_cases h : t.expiry ≤ 1048576
            · rw [show decide (t.expiry ≤ 1048576) = true by simpa using h]; simp; omega
            · rw [show decide (t.expiry ≤ 1048576) = false by simpa using h]; simp; omega
          have a14 : decide ((1048576 : Int) < (t.proof.length : Int)) = !decide (t.proof.length ≤ 1048576) := by
            by_cases h : t.proof.length ≤ 1048576
            · rw [show decide (t.proof.length ≤ 1048576) = true by simpa using h]; simp; omega
            · rw [show decide (t.proof.length ≤ 1048576) = false by simpa using h]; simp; omega
          obtain ⟨dp, hdp⟩ : ∃ dp, decide (0 < t.deposit.toNat) = dp := ⟨_, rfl⟩
          rw [hdp] at a6 z6 HR2
          obtain ⟨wp, hwp⟩ : ∃ wp, decide (0 < t.withdraw.toNat) = wp := ⟨_, rfl⟩
          rw [hwp] at a10 z7 HR2
          clear z8
          generalize decide (t.deposit.toNat ≤ 4294967295) = d1 at *
          generalize decide (t.withdraw.toNat ≤ 4294967295) = d2 at *
          generalize decide (t.fee.toNat ≤ 4294967295) = d3 at *
          generalize decide (t.marks.length ≠ 0) = mn at *
          generalize decide (t.nonce.toNat = 0) = nz at *
          generalize decide (t.account.toNat = 0) = az at *
          generalize decide (0 ≤ t.expiry) = f1 at *
          generalize decide (t.expiry ≤ 1048576) = f2 at *
          generalize decide (t.proof.length ≤ 1048576) = f3 at *
          have HXF := hid (HX0.out.trans HXR.out)
          clear HBAD HR HI HND HAM HAB
          cases d1 with
          | false =>
            have hr : R = 1 := HR2.out
            subst hr
            go_wp2_with fail
            go_ret
            exact ⟨rfl, HXF.out⟩
          | true =>
            cases d2 with
            | false =>
              have hr : R = 1 := HR2.out
              subst hr
              go_wp2_with fail
              go_ret
              exact ⟨rfl, HXF.out⟩
            | true =>
              cases d3 with
              | false =>
                have hr : R = 1 := HR2.out
                subst hr
                go_wp2_with fail
                go_ret
                exact ⟨rfl, HXF.out⟩
              | true =>
                cases dp with
                | false =>
                  cases nz with
                  | false =>
                    have hr : R = 1 := by rw [HR2.out]; cases mn <;> rfl
                    subst hr
                    go_wp2_with fail
                    go_ret
                    exact ⟨rfl, HXF.out⟩
                  | true =>
                    cases mn with
                    | false =>
                      have hr : R = 1 := HR2.out
                      subst hr
                      go_wp2_with fail
                      go_ret
                      exact ⟨rfl, HXF.out⟩
                    | true =>
                      cases wp with
                      | false =>
                        cases az with
                        | false =>
                          have hr : R = 1 := HR2.out
                          subst hr
                          go_wp2_with fail
                          go_ret
                          exact ⟨rfl, HXF.out⟩
                        | true =>
                          cases f1 with
                          | false =>
                            have hr : R = 1 := HR2.out
                            subst hr
                            go_wp2_with fail
                            go_ret
                            exact ⟨rfl, HXF.out⟩
                          | true =>
                            cases f2 with
                            | false =>
                              have hr : R = 1 := HR2.out
                              subst hr
                              go_wp2_with fail
                              go_ret
                              exact ⟨rfl, HXF.out⟩
                            | true =>
                              cases f3 with
                              | false =>
                                have hr : R = 3 := HR2.out
                                subst hr
                                go_wp2_with fail
                                go_ret
                                exact ⟨rfl, HXF.out⟩
                              | true =>
                                have hr : R = 0 := HR2.out
                                subst hr
                                go_wp2_with fail
                                go_ret
                                exact ⟨rfl, HXF.out⟩
                      | true =>
                        cases f1 with
                        | false =>
                          have hr : R = 1 := HR2.out
                          subst hr
                          go_wp2_with fail
                          go_ret
                          exact ⟨rfl, HXF.out⟩
                        | true =>
                          cases f2 with
                          | false =>
                            have hr : R = 1 := HR2.out
                            subst hr
                            go_wp2_with fail
                            go_ret
                            exact ⟨rfl, HXF.out⟩
                          | true =>
                            cases f3 with
                            | false =>
                              have hr : R = 3 := HR2.out
                              subst hr
                              go_wp2_with fail
                              go_ret
                              exact ⟨rfl, HXF.out⟩
                            | true =>
                              have hr : R = 0 := HR2.out
                              subst hr
                              go_wp2_with fail
                              go_ret
                              exact ⟨rfl, HXF.out⟩
                | true =>
                  cases wp with
                  | false =>
                    cases f1 with
                    | false =>
                      have hr : R = 1 := HR2.out
                      subst hr
                      go_wp2_with fail
                      go_ret
                      exact ⟨rfl, HXF.out⟩
                    | true =>
                      cases f2 with
                      | false =>
                        have hr : R = 1 := HR2.out
                        subst hr
                        go_wp2_with fail
                        go_ret
                        exact ⟨rfl, HXF.out⟩
                      | true =>
                        cases f3 with
                        | false =>
                          have hr : R = 3 := HR2.out
                          subst hr
                          go_wp2_with fail
                          go_ret
                          exact ⟨rfl, HXF.out⟩
                        | true =>
                          have hr : R = 0 := HR2.out
                          subst hr
                          go_wp2_with fail
                          go_ret
                          exact ⟨rfl, HXF.out⟩
                  | true =>
                    have hr : R = 1 := HR2.out
                    subst hr
                    go_wp2_with fail
                    go_ret
                    exact ⟨rfl, HXF.out⟩
set_option maxRecDepth 100000 in
set_option maxHeartbeats 1600000 in
theorem rTxID_any (t : TxT) (mv ov pv : Value) (w : World) (h : RdT w t mv ov pv) (hs : TSm t) (hq : t.proof.length ≤ 10000) :
    Calls Try.prog 28 #[txVal t mv ov pv] w fun e w' => e = .returned (uv (txId t)) ∧ Ext w w' := by
  have HV : Hid (∀ v, Ext w v → Calls Try.prog 21 #[txVal t mv ov pv] v fun e w' => e = .returned (.int .i64 (txV t)) ∧ Ext v w') := hid fun v k => rTxValid_any t mv ov pv v (h.ext k) hs
  have HE : Hid (∀ v, Ext w v → Calls Try.prog 13 #[txVal t mv ov pv] v (NewB v (txB t))) := hid fun v k => rTxB_any t mv ov pv v (h.ext k) hs
  have hle : (txB t).length ≤ 100000000 := by
    unfold txB txTail bytesB
    have h1 := outsB_le hs.c
    have h2 := hs.m
    have h3 := hs.o
    simp only [List.length_append, leB_length, lenB_length, listB_length]
    omega
  have HH : Hid (∀ v x, RdB' v x (txB t) → Calls Try.prog 49 #[.int .u64 14, x] v fun e w' => e = .returned (uv (hashB 14 (txB t))) ∧ Ext v w') := hid fun v x hx => rHashB_any 14 x (txB t) v hx hle
  obtain ⟨ma, mc, oa, oc, pa, pc, rfl, rfl, rfl⟩ := h.shape
  unfold txId
  obtain ⟨R, hR⟩ : ∃ R, R = txV t := ⟨_, rfl⟩
  rw [← hR] at HV ⊢
  generalize hashB 14 (txB t) = hb at *
  generalize txB t = B at *
  clear h hs hR hle hq
  obtain ⟨N, hN⟩ : ∃ N, N = w.heap.size := ⟨_, rfl⟩
  obtain ⟨w0, hw0⟩ : ∃ w0, w0 = w.alloc (.cells #[uv t.anchor, .slice ma t.marks.length mc, .slice oa t.outs.length oc, uv t.deposit, uv t.withdraw, uv t.fee, uv t.account, uv t.nonce, .int .i64 t.expiry, .slice pa t.proof.length pc] 39) := ⟨_, rfl⟩
  have hx0 : Ext w w0 := by rw [hw0]; exact (Ext.refl w).alloc _
  have hb0 : w0.heap[N]? = some (.cells #[uv t.anchor, .slice ma t.marks.length mc, .slice oa t.outs.length oc, uv t.deposit, uv t.withdraw, uv t.fee, uv t.account, uv t.nonce, .int .i64 t.expiry, .slice pa t.proof.length pc] 39 (0, 0)) := by rw [hw0, hN]; exact heap_new _ _
  have HB := hid hb0
  have HW := hid hw0
  have HX0 := hid hx0
  clear hw0 hx0 hb0
  obtain ⟨c0, c1, c2, c3, c4, c5, c6, c7, c8, c9⟩ := ten_cells HB.out
  go_enter Try.func28, Try.ntmps28
  go_upto_region 1 with fail
  rw [← HW.out, ← hN]
  clear hN
  go_wp2_with fail
  refine (HV.out _ HX0.out).mono ?_
  rintro e w1 ⟨rfl, hx⟩
  have HX1 := hid hx
  clear hx c0 c1 c2 c3 c4 c5 c6 c7 c8 c9
  by_cases h0 : R = 0
  · subst h0
    try simp only [if_true]
    obtain ⟨c0, c1, c2, c3, c4, c5, c6, c7, c8, c9⟩ := ten_cells (HX1.out.heap_some HB.out)
    go_wp2_with fail
    refine (HE.out _ (HX0.out.trans HX1.out)).mono ?_
    rintro e w2 ⟨v2, rfl, h1, h2, -⟩
    have HF := hid h1
    have HX2 := hid ((HX0.out.trans HX1.out).trans h2)
    obtain ⟨sa, sc, rfl, -⟩ := ownsRow_rd h1
    clear h1 h2 c0 c1 c2 c3 c4 c5 c6 c7 c8 c9
    go_wp2_with fail
    refine (HH.out _ _ HF.out.weak).mono ?_
    rintro e w3 ⟨rfl, hx⟩
    have HX3 := hid (HX2.out.trans hx)
    clear hx
    go_wp2_with fail
    go_ret
    exact ⟨rfl, HX3.out⟩
  · have hne : (R != 0) = true := by simpa using h0
    have HN0 := hid h0
    try simp only [if_neg HN0.out]
    clear h0
    go_wp2_with fail
    go_ret
    exact ⟨rfl, HX0.out.trans HX1.out⟩
end Go.Proofs.Ytkdnnekdldomeaa
