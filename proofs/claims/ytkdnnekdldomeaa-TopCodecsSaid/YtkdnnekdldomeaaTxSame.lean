/- Transactions compared by the reference: moidoreref41.SameBytes, Same, Small. (Written by wip/tools/gen_txsame.py.) -/
import Derived.Test.YtkdnnekdldomeaaRefTx
set_option linter.unusedSimpArgs false
namespace Go.Proofs.Ytkdnnekdldomeaa
open Go.RowKit
attribute [local irreducible] perm fAdd fMul fPow fSub fNeg fRed hashU
theorem b_beq (x y : UInt8) : ((x.toNat : Int) != (y.toNat : Int)) = !decide (x = y) := by
  by_cases h : x = y
  · subst h; simp
  · have : x.toNat ≠ y.toNat := fun h' => h (UInt8.toNat_inj.1 h')
    rw [show decide (x = y) = false by simpa using h]
    simp; omega
theorem RdB'.at {w : World} {a : Option Addr} {n c : Nat} {l : List UInt8} (h : RdC' w (.slice a n c) l.length (bs l)) {i : Nat} {x : UInt8} (hx : l[i]? = some x) : ∃ b o, a = some ⟨b, o, none⟩ ∧ w.cell? ⟨b, o + i, none⟩ = some (.int .u8 x.toNat) := by
  obtain ⟨a', c', he, hlc, -, hn', hc'⟩ := h
  injection he with e1 e2 e3
  subst e1
  have hi : i < l.length := (List.getElem?_eq_some_iff.1 hx).1
  cases a with
  | none => have := hn' rfl; omega
  | some ad =>
    have hsp : ad = ⟨ad.block, ad.off, none⟩ := by
      cases l with
      | nil => simp at hx
      | cons y r => exact spot_none (hc' ad rfl 0 (.int .u8 y.toNat) rfl)
    refine ⟨ad.block, ad.off, by rw [← hsp], ?_⟩
    have h5 := hc' ad rfl i (.int .u8 x.toNat) (by simp [hx])
    rw [hsp, Addr.add_lit] at h5
    exact h5
set_option maxRecDepth 100000 in
set_option maxHeartbeats 1600000 in
theorem SameB_any (av bv : Value) (a b : List UInt8) (w : World) (ha : RdB' w av a) (hb : RdB' w bv b) (hA : a.length ≤ 10000000000) :
    Calls Try.prog 43 #[av, bv] w fun e w' => e = .returned (.bool (decide (a = b))) ∧ Ext w w' := by
  obtain ⟨aa, ac, rfl, -⟩ := id ha
  obtain ⟨ba, bc, rfl, -⟩ := id hb
  have HA := hid ha
  have HB := hid hb
  obtain ⟨R, hR⟩ : ∃ R, R = decide (a = b) := ⟨_, rfl⟩
  rw [← hR]
  have HR := hid hR
  have hA1 : (a.length : Int) ≤ 10000000000 := by omega
  clear ha hb hR
  go_enter Try.func43, Try.ntmps43
  by_cases hl : a.length = b.length
  case neg =>
    have hlB : ((a.length : Int) != (b.length : Int)) = true := by simp; omega
    have hr : R = false := by rw [HR.out, decide_eq_false_iff_not]; intro h; exact hl (by rw [h])
    subst hr
    clear hl
    go_wp2_with fail
    go_ret
    exact ⟨rfl, Ext.refl _⟩
  obtain ⟨n, hn⟩ : ∃ n, n = a.length := ⟨_, rfl⟩
  have hnb : b.length = n := by omega
  rw [← hn] at hA1 ⊢
  rw [hnb]
  have HN := hid (And.intro hn hnb)
  have hlB : ((n : Int) != (n : Int)) = false := by simp
  clear hl hn hnb hA
  go_wp2_with fail
  go_loopw [5] (fun iv wr => ∃ i : Nat, i ≤ n ∧ iv = .int .i64 i ∧ Hid (a.take i = b.take i) ∧ Hid (Ext w wr)) (fun iv _ => n - (intOf iv).toNat)
  case atStart => exact ⟨0, by omega, rfl, hid rfl, hid (Ext.refl _)⟩
  case round =>
    obtain ⟨i, hi, rfl, HI, HXR⟩ := hrel
    by_cases hlt : i < n
    · have hltB : decide ((i : Int) < (n : Int)) = true := by simp; omega
      have hi0 : (0 : Int) ≤ (i : Int) := Int.natCast_nonneg _
      have hil : (i : Int) < (n : Int) := by omega
      obtain ⟨x, hx⟩ : ∃ x, a[i]? = some x := ⟨_, List.getElem?_eq_getElem (by have := HN.out.1; omega)⟩
      obtain ⟨y, hy⟩ : ∃ y, b[i]? = some y := ⟨_, List.getElem?_eq_getElem (by have := HN.out.2; omega)⟩
      obtain ⟨xb, xo, rfl, hcx⟩ := RdB'.at (HA.out.ext HXR.out) hx
      obtain ⟨yb, yo, rfl, hcy⟩ := RdB'.at (HB.out.ext HXR.out) hy
      have HCC : Hid (∀ v, Ext wr v → (v.cell? ⟨xb, xo + i, none⟩ = some (.int .u8 x.toNat) ∧ v.cell? ⟨yb, yo + i, none⟩ = some (.int .u8 y.toNat))) := hid fun v k => ⟨k.cell_some hcx, k.cell_some hcy⟩
      have HXY := hid (And.intro hx hy)
      have hxyB := b_beq x y
      clear hx hy hcx hcy
      go_upto_region 6 with fail
      refine wp_region_T (fun v => (v.cell? ⟨xb, xo + i, none⟩ = some (.int .u8 x.toNat) ∧ v.cell? ⟨yb, yo + i, none⟩ = some (.int .u8 y.toNat)) ∧ Ext wr v) 8 [(0, true), (1, true), (2, true), (3, true), (4, true), (5, true), (6, true), (7, true), (8, false)] (by kernel_rfl) (by kernel_rfl) (by intro c a d v w h; cases d <;> exact h) ?_
      intro ops hops
      have HSS := keep0 HCC.out
      iterate 8
        refine wpT_take (v := ?_) (by rw [hops, List.getElem?_toArray]; rfl) (by first | rfl | (rw [hops]; rfl)) ?_ HSS ?_
        rotate_left
        · intro v h; go_simp; with_reducible rfl
        simp only [Act.put, List.getElem_toArray, List.getElem_cons_zero, List.getElem_cons_succ, List.setIfInBounds_toArray, List.set_cons_zero, List.set_cons_succ]
      clear HSS
      by_cases hxy : x = y
      · rw [show decide (x = y) = true by simpa using hxy] at hxyB
        have HN2 : Hid (a.take (i + 1) = b.take (i + 1)) := hid (by rw [List.take_add_one, List.take_add_one, HXY.out.1, HXY.out.2, HI.out, hxy])
        have HXD := hid HXR.out.drew
        clear hxy
        refine wpT_step (by rw [hops, List.getElem?_toArray]; rfl) (by first | rfl | (rw [hops]; rfl)) ?_
        intro K hK
        go_wp2_with fail
        try (with_reducible refine ⟨fun h => absurd h (by decide), ?_⟩)
        try rw [wpT_nil]
        try clear hops ops
        go_wp2_with fail
        go_roundw
        case rel => exact ⟨i + 1, by omega, by go_num, HN2, HXD⟩
        case measure => simp [intOf]; omega
      · rw [show decide (x = y) = false by simpa using hxy] at hxyB
        have hr : R = false := by
          rw [HR.out, decide_eq_false_iff_not]
          intro h
          have h1 := HXY.out.1
          rw [h, HXY.out.2] at h1
          exact hxy (Option.some.inj h1).symm
        subst hr
        clear hxy
        refine wpT_step (by rw [hops, List.getElem?_toArray]; rfl) (by first | rfl | (rw [hops]; rfl)) ?_
        intro K hK
        go_wp2_with fail
        try (with_reducible refine ⟨fun h => absurd h (by decide), ?_⟩)
        try rw [wpT_nil]
        try clear hops ops
        go_wp2_with fail
        go_ret
        exact ⟨rfl, HXR.out.drew⟩
    · have hie : i = n := by omega
      subst hie
      have hltB : decide ((i : Int) < (i : Int)) = false := by simp
      have hr : R = true := by
        rw [HR.out, decide_eq_true_eq]
        have h1 := HI.out
        rwa [List.take_of_length_le (by have := HN.out.1; omega), List.take_of_length_le (by have := HN.out.2; omega)] at h1
      subst hr
      go_wp2_with fail
      go_ret
      exact ⟨rfl, HXR.out⟩
/-! ## Same -/
theorem sameCi_at : ∀ {a b : List OutT} {i : Nat} {x y : OutT}, a[i]? = some x → b[i]? = some y → x.cipher.length ≠ y.cipher.length → sameCi a b = false
  | [], _, _, _, _, h, _, _ => by simp at h
  | _ :: _, [], _, _, _, _, h, _ => by simp at h
  | u :: r, v :: s, 0, x, y, hx, hy, hn => by
    simp at hx hy
    subst hx hy
    unfold sameCi
    rw [show decide (u.cipher.length = v.cipher.length) = false by simpa using hn, Bool.false_and]
  | u :: r, v :: s, i + 1, x, y, hx, hy, hn => by
    unfold sameCi
    rw [sameCi_at (i := i) (by simpa using hx) (by simpa using hy) hn, Bool.and_false]
theorem sameCi_all : ∀ {a b : List OutT}, a.length = b.length → (∀ (i : Nat) (x y : OutT), a[i]? = some x → b[i]? = some y → x.cipher.length = y.cipher.length) → sameCi a b = true
  | [], _, _, _ => by unfold sameCi; rfl
  | _ :: _, [], h, _ => by simp at h
  | u :: r, v :: s, hl, h => by
    unfold sameCi
    rw [sameCi_all (by simpa using hl) (fun i x y hx hy => h (i + 1) x y (by simpa using hx) (by simpa using hy)), Bool.and_true, decide_eq_true_eq]
    exact h 0 u v rfl rfl
set_option maxRecDepth 100000 in
set_option maxHeartbeats 6400000 in
theorem sameTx_any (x y : TxT) (xm xo xp ym yo yp : Value) (w : World) (hx : RdT w x xm xo xp) (hy : RdT w y ym yo yp) (sx : TSm x) (sy : TSm y) :
    Calls Try.prog 18 #[txVal x xm xo xp, txVal y ym yo yp] w fun e w' => e = .returned (.bool (sameTx x y)) ∧ Ext w w' := by
  have HEX : Hid (∀ v, Ext w v → Calls Try.prog 13 #[txVal x xm xo xp] v (NewB v (txB x))) := hid fun v k => rTxB_any x xm xo xp v (hx.ext k) sx
  have HEY : Hid (∀ v, Ext w v → Calls Try.prog 13 #[txVal y ym yo yp] v (NewB v (txB y))) := hid fun v k => rTxB_any y ym yo yp v (hy.ext k) sy
  have HLX := hid (txB_le sx)
  obtain ⟨ma, mc, oa, oc, pa, pc, rfl, rfl, rfl⟩ := hx.shape
  obtain ⟨na, nc, qa, qc, ra, rc, rfl, rfl, rfl⟩ := hy.shape
  obtain ⟨R, hR⟩ : ∃ R, R = sameTx x y := ⟨_, rfl⟩
  rw [← hR]
  have HR := hid hR
  obtain ⟨N, hN⟩ : ∃ N, N = w.heap.size := ⟨_, rfl⟩
  obtain ⟨w0, hw0⟩ : ∃ w0, w0 = (w.alloc (.cells #[uv x.anchor, .slice ma x.marks.length mc, .slice oa x.outs.length oc, uv x.deposit, uv x.withdraw, uv x.fee, uv x.account, uv x.nonce, .int .i64 x.expiry, .slice pa x.proof.length pc] 39)).alloc (.cells #[uv y.anchor, .slice na y.marks.length nc, .slice qa y.outs.length qc, uv y.deposit, uv y.withdraw, uv y.fee, uv y.account, uv y.nonce, .int .i64 y.expiry, .slice ra y.proof.length rc] 39) := ⟨_, rfl⟩
  have hx0 : Ext w w0 := by rw [hw0]; exact ((Ext.refl w).alloc _).alloc _
  have hb0 : w0.heap[N]? = some (.cells #[uv x.anchor, .slice ma x.marks.length mc, .slice oa x.outs.length oc, uv x.deposit, uv x.withdraw, uv x.fee, uv x.account, uv x.nonce, .int .i64 x.expiry, .slice pa x.proof.length pc] 39 (0, 0)) := by rw [hw0, hN]; exact heap_alloc_some (heap_new _ _)
  have hb1 : w0.heap[N + 1]? = some (.cells #[uv y.anchor, .slice na y.marks.length nc, .slice qa y.outs.length qc, uv y.deposit, uv y.withdraw, uv y.fee, uv y.account, uv y.nonce, .int .i64 y.expiry, .slice ra y.proof.length rc] 39 (0, 0)) := by
    rw [hw0, hN]
    have := heap_new (w.alloc (.cells #[uv x.anchor, .slice ma x.marks.length mc, .slice oa x.outs.length oc, uv x.deposit, uv x.withdraw, uv x.fee, uv x.account, uv x.nonce, .int .i64 x.expiry, .slice pa x.proof.length pc] 39)) (.cells #[uv y.anchor, .slice na y.marks.length nc, .slice qa y.outs.length qc, uv y.deposit, uv y.withdraw, uv y.fee, uv y.account, uv y.nonce, .int .i64 y.expiry, .slice ra y.proof.length rc] 39)
    simpa using this
  have HB0 := hid hb0
  have HB1 := hid hb1
  have HW := hid hw0
  have HX0 := hid hx0
  have HX := hid hx
  have HY := hid hy
  have hol : (x.outs.length : Int) ≤ 1000 := by have := sx.o; omega
  clear hw0 hx0 hb0 hb1 hx hy sx sy hR
  obtain ⟨c0, c1, c2, c3, c4, c5, c6, c7, c8, c9⟩ := ten_cells HB0.out
  obtain ⟨d0, d1, d2, d3, d4, d5, d6, d7, d8, d9⟩ := ten_cells HB1.out
  go_enter Try.func18, Try.ntmps18
  go_upto_region 1 with fail
  rw [← HW.out, ← hN]
  clear hN
  by_cases hl : x.outs.length = y.outs.length
  case neg =>
    have hlB : ((x.outs.length : Int) != (y.outs.length : Int)) = true := by simp; omega
    have hr : R = false := by rw [HR.out]; unfold sameTx; rw [show decide (x.outs.length = y.outs.length) = false by simpa using hl]; rfl
    subst hr
    clear hl
    go_wp2_with fail
    go_ret
    exact ⟨rfl, HX0.out⟩
  have hlB : ((x.outs.length : Int) != (y.outs.length : Int)) = false := by simp; omega
  have HL := hid hl
  clear hl
  by_cases he : x.expiry = y.expiry
  case neg =>
    have heB : (x.expiry != y.expiry) = true := by simpa using he
    have hr : R = false := by rw [HR.out]; unfold sameTx; rw [show decide (x.expiry = y.expiry) = false by simpa using he]; simp
    subst hr
    clear he
    go_wp2_with fail
    go_ret
    exact ⟨rfl, HX0.out⟩
  have heB : (x.expiry != y.expiry) = false := by simpa using he
  have HE := hid he
  clear he
  go_wp2_with fail
  clear c0 c1 c2 c3 c4 c5 c6 c7 c8 c9 d0 d1 d2 d3 d4 d5 d6 d7 d8 d9
  go_loopw [5] (fun iv wr => ∃ i : Nat, i ≤ x.outs.length ∧ iv = .int .i64 i ∧ Hid (∀ (j : Nat) (u v : OutT), j < i → x.outs[j]? = some u → y.outs[j]? = some v → u.cipher.length = v.cipher.length) ∧ Hid (Ext w0 wr)) (fun iv _ => x.outs.length - (intOf iv).toNat)
  case atStart => exact ⟨0, by omega, rfl, hid (fun j u v h => by omega), hid (Ext.refl _)⟩
  case round =>
    obtain ⟨i, hi, rfl, HI, HXR⟩ := hrel
    obtain ⟨c0, c1, c2, c3, c4, c5, c6, c7, c8, c9⟩ := ten_cells (HXR.out.heap_some HB0.out)
    obtain ⟨d0, d1, d2, d3, d4, d5, d6, d7, d8, d9⟩ := ten_cells (HXR.out.heap_some HB1.out)
    by_cases hlt : i < x.outs.length
    · have hltB : decide ((i : Int) < (x.outs.length : Int)) = true := by simp; omega
      have hi0 : (0 : Int) ≤ (i : Int) := Int.natCast_nonneg _
      have hil : (i : Int) < (x.outs.length : Int) := by omega
      have hil2 : (i : Int) < (y.outs.length : Int) := by have := HL.out; omega
      obtain ⟨u, hu⟩ : ∃ u, x.outs[i]? = some u := ⟨_, List.getElem?_eq_getElem hlt⟩
      obtain ⟨v, hv⟩ : ∃ v, y.outs[i]? = some v := ⟨_, List.getElem?_eq_getElem (by have := HL.out; omega)⟩
      obtain ⟨b, q, ca, cc, rfl, -, -, -, e3, -⟩ := (HX.out.o.ext (HX0.out.trans HXR.out)).at hu
      obtain ⟨b', q', ca', cc', rfl, -, -, -, f3, -⟩ := (HY.out.o.ext (HX0.out.trans HXR.out)).at hv
      have HUV := hid (And.intro hu hv)
      have HCC : Hid (∀ z, Ext wr z → (z.cell? ⟨N, 2, none⟩ = some (.slice (some ⟨b, q, none⟩) x.outs.length oc) ∧ z.cell? ⟨N + 1, 2, none⟩ = some (.slice (some ⟨b', q', none⟩) y.outs.length qc) ∧ z.cell? ⟨b, q + i * 4 + 2, none⟩ = some (uv u.p.b) ∧ z.cell? ⟨b, q + i * 4 + 3, none⟩ = some (.slice ca u.cipher.length cc) ∧ z.cell? ⟨b', q' + i * 4 + 3, none⟩ = some (.slice ca' v.cipher.length cc'))) := hid fun z k => by
        obtain ⟨b2, q2, ca2, cc2, he2, -, -, g2, -, -⟩ := (HX.out.o.ext (HX0.out.trans HXR.out)).at hu
        injection he2 with he2
        injection he2 with h1 h2
        subst h1 h2
        exact ⟨k.cell_some c2, k.cell_some d2, k.cell_some g2, k.cell_some e3, k.cell_some f3⟩
      clear hu hv e3 f3
      go_wp2_with fail
      clear c0 c1 c2 c3 c4 c5 c6 c7 c8 c9 d0 d1 d2 d3 d4 d5 d6 d7 d8 d9
      refine wp_region_T (fun z => (z.cell? ⟨N, 2, none⟩ = some (.slice (some ⟨b, q, none⟩) x.outs.length oc) ∧ z.cell? ⟨N + 1, 2, none⟩ = some (.slice (some ⟨b', q', none⟩) y.outs.length qc) ∧ z.cell? ⟨b, q + i * 4 + 2, none⟩ = some (uv u.p.b) ∧ z.cell? ⟨b, q + i * 4 + 3, none⟩ = some (.slice ca u.cipher.length cc) ∧ z.cell? ⟨b', q' + i * 4 + 3, none⟩ = some (.slice ca' v.cipher.length cc')) ∧ Ext wr z) 14 [(0, true), (1, true), (2, true), (3, true), (4, true), (5, true), (6, true), (7, true), (8, true), (9, true), (10, true), (11, true), (12, true), (13, true), (14, false)] (by kernel_rfl) (by kernel_rfl) (by intro c a d v w h; cases d <;> exact h) ?_
      intro ops hops
      have HSS := keep0 HCC.out
      iterate 14
        refine wpT_take (v := ?_) (by rw [hops, List.getElem?_toArray]; rfl) (by first | rfl | (rw [hops]; rfl)) ?_ HSS ?_
        rotate_left
        · intro v h; go_simp; with_reducible rfl
        simp only [Act.put, List.getElem_toArray, List.getElem_cons_zero, List.getElem_cons_succ, List.setIfInBounds_toArray, List.set_cons_zero, List.set_cons_succ]
      clear HSS
      by_cases huv : u.cipher.length = v.cipher.length
      · have huB : ((u.cipher.length : Int) != (v.cipher.length : Int)) = false := by simp; omega
        have HN2 : Hid (∀ (j : Nat) (u v : OutT), j < i + 1 → x.outs[j]? = some u → y.outs[j]? = some v → u.cipher.length = v.cipher.length) := hid fun j u' v' hj hu' hv' => by
          by_cases hji : j = i
          · subst hji
            rw [HUV.out.1] at hu'
            rw [HUV.out.2] at hv'
            injection hu' with hu'
            injection hv' with hv'
            rw [← hu', ← hv']; exact huv
          · exact HI.out j u' v' (by omega) hu' hv'
        have HXD := hid HXR.out.drew
        clear huv
        refine wpT_step (by rw [hops, List.getElem?_toArray]; rfl) (by first | rfl | (rw [hops]; rfl)) ?_
        intro K hK
        go_wp2_with fail
        try (with_reducible refine ⟨fun h => absurd h (by decide), ?_⟩)
        try rw [wpT_nil]
        try clear hops ops
        go_wp2_with fail
        go_roundw
        case rel => exact ⟨i + 1, by omega, by go_num, HN2, HXD⟩
        case measure => simp [intOf]; omega
      · have huB : ((u.cipher.length : Int) != (v.cipher.length : Int)) = true := by simp; omega
        have hr : R = false := by
          rw [HR.out]; unfold sameTx
          rw [sameCi_at HUV.out.1 HUV.out.2 huv]; simp
        subst hr
        clear huv
        refine wpT_step (by rw [hops, List.getElem?_toArray]; rfl) (by first | rfl | (rw [hops]; rfl)) ?_
        intro K hK
        go_wp2_with fail
        try (with_reducible refine ⟨fun h => absurd h (by decide), ?_⟩)
        try rw [wpT_nil]
        try clear hops ops
        go_wp2_with fail
        go_ret
        exact ⟨rfl, (HX0.out.trans HXR.out).drew⟩
    · have hie : i = x.outs.length := by omega
      subst hie
      have hltB : decide ((x.outs.length : Int) < (x.outs.length : Int)) = false := by simp
      have HR2 : Hid (R = decide (txB x = txB y)) := hid (by
        rw [HR.out]; unfold sameTx
        rw [show decide (x.outs.length = y.outs.length) = true by simpa using HL.out, show decide (x.expiry = y.expiry) = true by simpa using HE.out, sameCi_all HL.out (fun j u v hu hv => HI.out j u v (List.getElem?_eq_some_iff.1 hu).1 hu hv)]
        simp)
      have HCC : Hid (∀ z, Ext wr z → (z.cell? ⟨N, 0, none⟩ = some (uv x.anchor) ∧ z.cell? ⟨N, 1, none⟩ = some (.slice ma x.marks.length mc) ∧ z.cell? ⟨N, 2, none⟩ = some (.slice oa x.outs.length oc) ∧ z.cell? ⟨N, 3, none⟩ = some (uv x.deposit) ∧ z.cell? ⟨N, 4, none⟩ = some (uv x.withdraw) ∧ z.cell? ⟨N, 5, none⟩ = some (uv x.fee) ∧ z.cell? ⟨N, 6, none⟩ = some (uv x.account) ∧ z.cell? ⟨N, 7, none⟩ = some (uv x.nonce) ∧ z.cell? ⟨N, 8, none⟩ = some (.int .i64 x.expiry) ∧ z.cell? ⟨N, 9, none⟩ = some (.slice pa x.proof.length pc)) ∧ (z.cell? ⟨N + 1, 0, none⟩ = some (uv y.anchor) ∧ z.cell? ⟨N + 1, 1, none⟩ = some (.slice na y.marks.length nc) ∧ z.cell? ⟨N + 1, 2, none⟩ = some (.slice qa y.outs.length qc) ∧ z.cell? ⟨N + 1, 3, none⟩ = some (uv y.deposit) ∧ z.cell? ⟨N + 1, 4, none⟩ = some (uv y.withdraw) ∧ z.cell? ⟨N + 1, 5, none⟩ = some (uv y.fee) ∧ z.cell? ⟨N + 1, 6, none⟩ = some (uv y.account) ∧ z.cell? ⟨N + 1, 7, none⟩ = some (uv y.nonce) ∧ z.cell? ⟨N + 1, 8, none⟩ = some (.int .i64 y.expiry) ∧ z.cell? ⟨N + 1, 9, none⟩ = some (.slice ra y.proof.length rc))) := hid fun z k => ⟨ten_cells ((HXR.out.trans k).heap_some HB0.out), ten_cells ((HXR.out.trans k).heap_some HB1.out)⟩
      go_wp2_with fail
      clear c0 c1 c2 c3 c4 c5 c6 c7 c8 c9 d0 d1 d2 d3 d4 d5 d6 d7 d8 d9
      refine wp_region_T (fun z => ((z.cell? ⟨N, 0, none⟩ = some (uv x.anchor) ∧ z.cell? ⟨N, 1, none⟩ = some (.slice ma x.marks.length mc) ∧ z.cell? ⟨N, 2, none⟩ = some (.slice oa x.outs.length oc) ∧ z.cell? ⟨N, 3, none⟩ = some (uv x.deposit) ∧ z.cell? ⟨N, 4, none⟩ = some (uv x.withdraw) ∧ z.cell? ⟨N, 5, none⟩ = some (uv x.fee) ∧ z.cell? ⟨N, 6, none⟩ = some (uv x.account) ∧ z.cell? ⟨N, 7, none⟩ = some (uv x.nonce) ∧ z.cell? ⟨N, 8, none⟩ = some (.int .i64 x.expiry) ∧ z.cell? ⟨N, 9, none⟩ = some (.slice pa x.proof.length pc)) ∧ (z.cell? ⟨N + 1, 0, none⟩ = some (uv y.anchor) ∧ z.cell? ⟨N + 1, 1, none⟩ = some (.slice na y.marks.length nc) ∧ z.cell? ⟨N + 1, 2, none⟩ = some (.slice qa y.outs.length qc) ∧ z.cell? ⟨N + 1, 3, none⟩ = some (uv y.deposit) ∧ z.cell? ⟨N + 1, 4, none⟩ = some (uv y.withdraw) ∧ z.cell? ⟨N + 1, 5, none⟩ = some (uv y.fee) ∧ z.cell? ⟨N + 1, 6, none⟩ = some (uv y.account) ∧ z.cell? ⟨N + 1, 7, none⟩ = some (uv y.nonce) ∧ z.cell? ⟨N + 1, 8, none⟩ = some (.int .i64 y.expiry) ∧ z.cell? ⟨N + 1, 9, none⟩ = some (.slice ra y.proof.length rc))) ∧ Ext wr z) 3 [(0, true), (2, true), (1, false), (3, false), (4, false), (5, false)] (by kernel_rfl) (by kernel_rfl) (by intro c a d v w h; cases d <;> exact h) ?_
      intro ops hops
      have HSS := keep0 HCC.out
      iterate 2
        refine wpT_take (v := ?_) (by rw [hops, List.getElem?_toArray]; rfl) (by first | rfl | (rw [hops]; rfl)) ?_ HSS ?_
        rotate_left
        · intro v h; go_simp; with_reducible rfl
        simp only [Act.put, List.getElem_toArray, List.getElem_cons_zero, List.getElem_cons_succ, List.setIfInBounds_toArray, List.set_cons_zero, List.set_cons_succ]
      refine wpT_step (by rw [hops, List.getElem?_toArray]; rfl) (by first | rfl | (rw [hops]; rfl)) ?_
      intro K hK
      go_wp2_with fail
      refine (HEX.out _ ((HX0.out.trans HXR.out).drew)).mono ?_
      rintro e u1 ⟨v1, rfl, h1, h2, -⟩
      have HSS1 := keepE HCC.out HSS h2
      have HF1 := hid h1
      obtain ⟨sa1, sc1, hv1, -⟩ := ownsRow_rd h1
      subst hv1
      clear h1 h2 HSS
      refine hK _ _ ⟨fun _ => HSS1, ?_⟩
      clear hK K
      refine wpT_step (by rw [hops, List.getElem?_toArray]; rfl) (by first | rfl | (rw [hops]; rfl)) ?_
      intro K hK
      go_wp2_with fail
      refine (HEY.out _ ((HX0.out.trans HXR.out).trans HSS1.2)).mono ?_
      rintro e u2 ⟨v2, rfl, h1, h2, -⟩
      have HF2 := hid h1
      have HF12 := hid (ownsRow_ext HF1.out h2)
      have HXU := hid ((HX0.out.trans HXR.out).trans (HSS1.2.trans h2))
      obtain ⟨sa2, sc2, hv2, -⟩ := ownsRow_rd h1
      subst hv2
      clear h1 h2 HSS1
      refine hK _ _ ⟨fun h => absurd h (by decide), ?_⟩
      clear hK K
      refine wpT_step (by rw [hops, List.getElem?_toArray]; rfl) (by first | rfl | (rw [hops]; rfl)) ?_
      intro K hK
      go_wp2_with fail
      refine (SameB_any _ _ (txB x) (txB y) _ (OwnB.weak HF12.out) (OwnB.weak HF2.out) (by have := HLX.out; omega)).mono ?_
      rintro e u3 ⟨rfl, hx⟩
      rw [← HR2.out]
      have HXV := hid (HXU.out.trans hx)
      clear hx
      refine hK _ _ ⟨fun h => absurd h (by decide), ?_⟩
      clear hK K
      refine wpT_step (by rw [hops, List.getElem?_toArray]; rfl) (by first | rfl | (rw [hops]; rfl)) ?_
      intro K hK
      go_wp2_with fail
      try (with_reducible refine ⟨fun h => absurd h (by decide), ?_⟩)
      try rw [wpT_nil]
      try clear hops ops
      go_wp2_with fail
      go_ret
      exact ⟨rfl, HXV.out⟩
end Go.Proofs.Ytkdnnekdldomeaa
