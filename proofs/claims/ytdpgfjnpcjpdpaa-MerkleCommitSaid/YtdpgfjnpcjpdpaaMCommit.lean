/- MerkleCommit returns true: the walk. -/
import Derived.Test.YtdpgfjnpcjpdpaaRefC
import Derived.Test.YtdpgfjnpcjpdpaaAlike
import Derived.Test.YtdpgfjnpcjpdpaaMOpens
import Derived.Test.YtdpgfjnpcjpdpaaMUnk
set_option linter.unusedSimpArgs false
namespace Go.Proofs.Ytdpgfjnpcjpdpaa
open Go.RowKit
attribute [local irreducible] perm fAdd fMul fPow fSub fNeg fRed hashU drawOf nextState
theorem asks_elems {B : Nat} : ∀ (l : List (UInt64 × List UInt64)) (M : Orc), (∀ q ∈ M.qs, q.elems.length ≤ B) → (∀ q ∈ l, q.2.length ≤ B) → ∀ q ∈ (M.asks l).2.qs, q.elems.length ≤ B
  | [], M, h, _ => h
  | p :: r, M, h, hl => by
    rw [asks_cons]
    exact asks_elems r _ (hash_elems h p.1 (hl p (List.mem_cons_self ..))) fun q hq => hl q (List.mem_cons_of_mem _ hq)
theorem branchQ_elems (level : List UInt64) : ∀ q ∈ branchQ level, q.2.length ≤ 2 := by
  intro q hq
  unfold branchQ at hq
  obtain ⟨i, -, rfl⟩ := List.mem_map.1 hq
  exact Nat.le_refl _
theorem climb_elems {B : Nat} (hB : 2 ≤ B) : ∀ (k : Nat) (M : Orc) (level : List UInt64), (∀ q ∈ M.qs, q.elems.length ≤ B) → ∀ q ∈ (M.climb k level).2.qs, q.elems.length ≤ B
  | 0, M, level, h => h
  | k + 1, M, level, h => by
    rw [Orc.climb]
    split
    · exact h
    · exact climb_elems hB k _ _ (asks_elems _ _ h fun q hq => Nat.le_trans (branchQ_elems level q hq) hB)
theorem commitT_elems {B : Nat} (hB : 2 ≤ B) {M : Orc} {leaves : Lv} {salts : List UInt64} (h : ∀ q ∈ M.qs, q.elems.length ≤ B) (hl : ∀ l ∈ leaves, l.length + 1 ≤ B) : ∀ q ∈ (M.commitT leaves salts).2.qs, q.elems.length ≤ B := by
  unfold Orc.commitT
  split
  · refine climb_elems hB _ _ _ (asks_elems _ _ h fun q hq => ?_)
    unfold leafQ at hq
    obtain ⟨x, hx, rfl⟩ := List.mem_map.1 hq
    exact hl x.1 (List.of_mem_zip hx).1
  · exact h
set_option maxRecDepth 100000 in
set_option maxHeartbeats 12800000 in
theorem MerkleCommit_any {w : World} {real : Bool} {seed : UInt64} {qv lv sv : Value} {Q : List Qn} {leaves : Lv} {salts : List UInt64} (hq : RdQ' w qv Q) (hl : RdL w lv leaves) (hs : RdU' w sv salts) :
    Calls Try.prog 11 #[.agg #[.bool real, uv seed, qv], lv, sv] w fun e w' => e = .returned (.bool true) ∧ Ext w w' := by
  obtain ⟨qa, qc, rfl, -⟩ := id hq
  obtain ⟨la, lc, rfl, -⟩ := hl.shape
  obtain ⟨sa, sc, rfl, -⟩ := id hs
  obtain ⟨N, hN⟩ : ∃ N, N = w.heap.size := ⟨_, rfl⟩
  obtain ⟨w0, hw0⟩ : ∃ w0, w0 = w.alloc (.cells #[.bool real, uv seed, .slice qa Q.length qc] 66) := ⟨_, rfl⟩
  have hx0 : Ext w w0 := by rw [hw0]; exact (Ext.refl w).alloc _
  have hb0 : w0.heap[N]? = some (.cells #[.bool real, uv seed, .slice qa Q.length qc] 66 (0, 0)) := by rw [hw0, hN]; exact heap_new _ _
  have HC : Hid (∀ v, Ext w0 v → (v.cell? ⟨N, 0, none⟩ = some (.bool real) ∧ v.cell? ⟨N, 1, none⟩ = some (uv seed) ∧ v.cell? ⟨N, 2, none⟩ = some (.slice qa Q.length qc))) := hid fun v k =>
    ⟨cell_of (k.heap_some hb0) 0, cell_of (k.heap_some hb0) 1, cell_of (k.heap_some hb0) 2⟩
  have HX0 := hid hx0
  have HN := hid hN
  have HQ := hid hq
  have HL := hid hl
  have HS := hid hs
  have HA := hid awake12_any
  have HW0 := hid hw0
  obtain ⟨i0, hi1, hz0, hz1, hz2⟩ := info_parts Try.infoU
  have HI1 := hid (And.intro hi1 (And.intro hz0 (And.intro hz1 hz2)))
  clear hx0 hb0 hq hl hs hw0 hi1 hz0 hz1 hz2
  go_enter Try.func11, Try.ntmps11
  go_upto_region 1 with fail
  rw [← HW0.out, ← hN]
  clear hN
  go_wp2_with fail
  refine (HA.out _).mono ?_
  rintro e w1 ⟨rfl, hx1⟩
  have HX1 := hid hx1
  obtain ⟨c0, c1, c2⟩ := HC.out w1 hx1
  clear hx1
  go_wp2_with fail
  refine (Few_any (HQ.out.ext (HX0.out.trans HX1.out))).mono ?_
  rintro e w2 ⟨rfl, hx2⟩
  have HX4 := hid (HX1.out.trans hx2)
  have HSH := hid (Short_any (sa := sa) (sc := sc) (salts := salts) (HL.out.ext (HX0.out.trans HX4.out)))
  clear hx2 c0 c1 c2
  cases hf : fewW Q with
  | false =>
    clear hf
    go_wp2_with fail
    refine (HA.out _).mono ?_
    rintro e wz ⟨rfl, hxz⟩
    have HXZ := hid ((HX0.out.trans HX4.out).trans hxz)
    clear hxz
    go_wp2_with fail
    go_ret
    exact ⟨rfl, HXZ.out⟩
  | true =>
    have HFW := hid hf
    clear hf
    go_wp2_with fail
    refine HSH.out.mono ?_
    rintro e w3 ⟨rfl, rfl⟩
    cases hsh : shortL leaves salts with
    | false =>
      clear hsh
      go_wp2_with fail
      refine (HA.out _).mono ?_
      rintro e wz ⟨rfl, hxz⟩
      have HXZ := hid ((HX0.out.trans HX4.out).trans hxz)
      clear hxz
      go_wp2_with fail
      go_ret
      exact ⟨rfl, HXZ.out⟩
    | true =>
      have HSP := hid (shortL_parts hsh)
      clear hsh
      go_upto_region 3 with fail
      refine wp_region_N (fun v => (v.cell? ⟨N, 0, none⟩ = some (.bool real) ∧ v.cell? ⟨N, 1, none⟩ = some (uv seed) ∧ v.cell? ⟨N, 2, none⟩ = some (.slice qa Q.length qc)) ∧ Ext w2 v) 6 7 (by kernel_rfl) (by kernel_rfl) ?_
      intro ops hops
      have HR := And.intro (HC.out _ (HX4.out.drew)) (Ext.refl w2).drew
      refine N_take (i := 0) (v := ?_) (by rw [hops, List.getElem?_toArray]; rfl) (by rw [hops]; kernel_rfl) (by intro c a d v w h; cases d <;> exact h) (by first | rfl | (rw [hops]; rfl)) ?_ HR ?_
      rotate_left
      · intro v h; go_simp; with_reducible rfl
      simp only [Act.put, List.getElem_toArray, List.getElem_cons_zero, List.getElem_cons_succ, List.setIfInBounds_toArray, List.set_cons_zero, List.set_cons_succ]
      refine N_take (i := 2) (v := ?_) (by rw [hops, List.getElem?_toArray]; rfl) (by rw [hops]; kernel_rfl) (by intro c a d v w h; cases d <;> exact h) (by first | rfl | (rw [hops]; rfl)) ?_ HR ?_
      rotate_left
      · intro v h; go_simp; with_reducible rfl
      simp only [Act.put, List.getElem_toArray, List.getElem_cons_zero, List.getElem_cons_succ, List.setIfInBounds_toArray, List.set_cons_zero, List.set_cons_succ]
      have hal : ∀ Q, Alloc1 Try.prog ops Q 4 8 Z12 := fun Q => ⟨⟨_, by rw [hops, List.getElem?_toArray]; rfl, fun t => rfl, fun a w K hK => by go_wp2_with fail; exact hK⟩⟩
      have hgr := CG1.grows (Z := Z12) (w0 := w2) (F := fun _ => False) (S := fun v => (v.cell? ⟨N, 0, none⟩ = some (.bool real) ∧ v.cell? ⟨N, 1, none⟩ = some (uv seed) ∧ v.cell? ⟨N, 2, none⟩ = some (.slice qa Q.length qc)) ∧ Ext w2 v) (fun k h => h.elim) (fun v k => by have h := k.toExt (fun _ h => h.elim); exact And.intro (HC.out _ (HX4.out.trans h)) h)
      refine WB_start (i1 := 4) (d1 := 8) (f := 4) (C := CG1 w2 (fun _ => False) Z12) undef ⟨(Ext.refl w2).drew, fun h => by cases h⟩ (by rfl) (by rfl) (by rfl) ?_
      refine WB_call (hal _) hgr (c := 1) (fun v => CB0 w2 (beginM real seed Q) v) (by rw [hops]; kernel_rfl) (by rw [hops, List.getElem?_toArray]; rfl) rfl (fun t => rfl) (by decide) (fun v b1 x w' h => by obtain ⟨b, F, -, -, -, h, -⟩ := h; exact And.intro (HC.out _ (HX4.out.trans h)) h) ?_ ?_
      · intro b1 x1 v hC K hK
        simp only [Act.put, List.setIfInBounds_toArray, List.set_cons_zero, List.set_cons_succ]
        go_wp2_with fail
        refine (begin_any (HQ.out.ext (HX0.out.trans (HX4.out.trans hC.1))) HFW.out).mono ?_
        rintro e v' ⟨b, F, rfl, hat, hx, hF⟩
        exact hK _ _ ⟨b, F, rfl, hat, fun k hk => Nat.le_trans hC.1.size (hF k hk), hC.1.trans hx, fun hb => by
          obtain ⟨g, h1, h2, -, h4⟩ := hC.2 hb
          exact ⟨g, h1, h2, fun hf => by have := hF g hf; have := heap_lt h4; omega, hx.heap_some h4⟩⟩ _ (by simp only [Act.put, List.setIfInBounds_toArray, List.set_cons_zero, List.set_cons_succ] <;> rfl)
      intro v36
      simp only [Act.put, List.setIfInBounds_toArray, List.set_cons_zero, List.set_cons_succ]
      have hgr2 := CB0.grows (w0 := w2) (M := beginM real seed Q) (r := v36) (S := fun v => (v.cell? ⟨N, 0, none⟩ = some (.bool real) ∧ v.cell? ⟨N, 1, none⟩ = some (uv seed) ∧ v.cell? ⟨N, 2, none⟩ = some (.slice qa Q.length qc)) ∧ Ext w2 v) (fun v h => And.intro (HC.out _ (HX4.out.trans h)) h)
      refine WB_call (hal _) hgr2 (c := 3) (fun v => CB1 w2 (beginM real seed Q) v36 v) (by rw [hops]; kernel_rfl) (by rw [hops, List.getElem?_toArray]; rfl) rfl (fun t => rfl) (by decide) (fun v b1 x w' h => by obtain ⟨b, F, h, -⟩ := h; exact And.intro (HC.out _ (HX4.out.trans h.2.2.2.1)) h.2.2.2.1) ?_ ?_
      · intro b1 x1 v hC K hK
        have h4 : Ext w2 v := by obtain ⟨b, F, -, -, -, h4, -⟩ := hC; exact h4
        have HCC := hid hC
        clear hC
        simp only [Act.put, List.setIfInBounds_toArray, List.set_cons_zero, List.set_cons_succ]
        go_wp2_with fail
        refine (wOracle_any (HQ.out.ext (HX0.out.trans (HX4.out.trans h4))) HFW.out).mono ?_
        rintro e v' ⟨qv1, sv1, pv1, rfl, hrd, hx⟩
        have hC := HCC.out
        have hC' := hC.ext hx
        obtain ⟨b, F, a1, a2, a3, a4, a5⟩ := hC
        exact hK _ _ ⟨b, F, ⟨a1, a2.ext hx, a3, a4.trans hx, fun hb => (a5 hb).kp (.of_ext hx) fun _ _ h => h⟩, qv1, sv1, pv1, v', v.heap.size, rfl, Ext.refl _, hrd, a2.foot_lt, fun hb => by
          obtain ⟨g, h1, -, -, h2⟩ := a5 hb
          exact ⟨g, h1, .inl (heap_lt h2)⟩⟩ _ (by simp only [Act.put, List.setIfInBounds_toArray, List.set_cons_zero, List.set_cons_succ] <;> rfl)
      intro v38
      simp only [Act.put, List.setIfInBounds_toArray, List.set_cons_zero, List.set_cons_succ]
      have hgr3 := CB1.grows (w0 := w2) (M := beginM real seed Q) (r := v36) (rm := v38) (S := fun v => (v.cell? ⟨N, 0, none⟩ = some (.bool real) ∧ v.cell? ⟨N, 1, none⟩ = some (uv seed) ∧ v.cell? ⟨N, 2, none⟩ = some (.slice qa Q.length qc)) ∧ Ext w2 v) (fun v h => And.intro (HC.out _ (HX4.out.trans h)) h)
      refine WB_last (hal _) hgr3 (by rw [hops]; kernel_rfl) ?_
      rintro x1 v ⟨b, F, ⟨rfl, hat, hF, hxv, hz⟩, mq, ms, mp, u0, L, rfl, hu1, hu2, hu3, hu4⟩
      obtain ⟨g, rfl, hg0, hgF, hgb⟩ := hz rfl
      obtain ⟨g', hgg, hu5⟩ := hu4 rfl
      injection hgg with hgg
      injection hgg with hgg
      injection hgg with hgg
      subst hgg
      obtain ⟨⟨mqa, mqn, mqc, rfl⟩, ⟨msa, msn, msc, rfl⟩, ⟨mpa, mpn, mpc, rfl⟩⟩ := hu2.now.sl
      simp only [Act.put, List.setIfInBounds_toArray, List.set_cons_zero, List.set_cons_succ]
      have HS5 := And.intro (HC.out _ (HX4.out.trans hxv)) hxv
      refine N_take (i := 5) (v := ?_) (by rw [hops, List.getElem?_toArray]; rfl) (by rw [hops]; kernel_rfl) (by intro c a d v w h; cases d <;> exact h) (by first | rfl | (rw [hops]; rfl)) ?_ HS5 ?_
      rotate_left
      · intro v h; go_simp; with_reducible rfl
      simp only [Act.put, List.getElem_toArray, List.getElem_cons_zero, List.getElem_cons_succ, List.setIfInBounds_toArray, List.set_cons_zero, List.set_cons_succ]
      have HMG : Hid (Good (beginM real seed Q) ∧ (beginM real seed Q).sound ∧ (∀ q ∈ (beginM real seed Q).qs, q.elems.length ≤ 20) ∧ (beginM real seed Q).qs.length ≤ 40 ∧ (beginM real seed Q).draws = 0) := hid ⟨good_begin _ _ _, begin_sound _ _ _, begin_elems _ _ _ HFW.out, begin_small _ _ _ (fewW_parts HFW.out).2⟩
      generalize beginM real seed Q = M at *
      obtain ⟨k0, k1, k2, k3, k4, k5⟩ := six_cellsO hgb
      have kf := frozen_of hgb
      obtain ⟨hb6, hk6⟩ := six_setO (d0 := .bool M.ideal) (d1 := uv M.state) (d2 := .int .i64 (M.draws : Int)) (d3 := .slice mqa mqn mqc) (d4 := .slice msa msn msc) (d5 := .slice mpa mpn mpc) hgb
      have hrd : StMc (fun k => F k ∨ k = g) ((((((v.setCell ⟨g, 0, none⟩ (.bool M.ideal)).setCell ⟨g, 1, none⟩ (uv M.state)).setCell ⟨g, 2, none⟩ (.int .i64 (M.draws : Int))).setCell ⟨g, 3, none⟩ (.slice mqa mqn mqc)).setCell ⟨g, 4, none⟩ (.slice msa msn msc)).setCell ⟨g, 5, none⟩ (.slice mpa mpn mpc)) (.slice mqa mqn mqc) (.slice msa msn msc) (.slice mpa mpn mpc) M := st_putB hu1 hu2 hu3 hu5 hk6
      have hat6 : OrcAt ((((((v.setCell ⟨g, 0, none⟩ (.bool M.ideal)).setCell ⟨g, 1, none⟩ (uv M.state)).setCell ⟨g, 2, none⟩ (.int .i64 (M.draws : Int))).setCell ⟨g, 3, none⟩ (.slice mqa mqn mqc)).setCell ⟨g, 4, none⟩ (.slice msa msn msc)).setCell ⟨g, 5, none⟩ (.slice mpa mpn mpc)) b M F := hat.kp hk6 (by rintro k hk rfl; exact hgF hk)
      have hx6 : Ext w2 ((((((v.setCell ⟨g, 0, none⟩ (.bool M.ideal)).setCell ⟨g, 1, none⟩ (uv M.state)).setCell ⟨g, 2, none⟩ (.int .i64 (M.draws : Int))).setCell ⟨g, 3, none⟩ (.slice mqa mqn mqc)).setCell ⟨g, 4, none⟩ (.slice msa msn msc)).setCell ⟨g, 5, none⟩ (.slice mpa mpn mpc)) := hxv.kp hk6 (fun k h => by subst h; exact hg0)
      delta setSix at hb6
      refine N_one (i := 6) (by rw [hops, List.getElem?_toArray]; rfl) (by rw [hops]; kernel_rfl) (by first | rfl | (rw [hops]; rfl)) ?_
      intro K hK
      go_wp2_with fail
      refine ⟨by kernel_rfl, ?_⟩
      clear hal hgr hgr2 hgr3 hgb k0 k1 k2 k3 k4 k5 kf hk6 HR HS5 hat hxv hz hu1 hu2 hu3 hu4 hu5
      try clear hK K
      clear hops ops
      generalize ((((((v.setCell ⟨g, 0, none⟩ (.bool M.ideal)).setCell ⟨g, 1, none⟩ (uv M.state)).setCell ⟨g, 2, none⟩ (.int .i64 (M.draws : Int))).setCell ⟨g, 3, none⟩ (.slice mqa mqn mqc)).setCell ⟨g, 4, none⟩ (.slice msa msn msc)).setCell ⟨g, 5, none⟩ (.slice mpa mpn mpc)) = w5 at *
      have HB6 := hid hb6
      have HRD := hid hrd
      have HAT := hid hat6
      have HX6 := hid (HX4.out.trans hx6)
      have HFF : Hid (∀ k, F k → w0.heap.size ≤ k) := hid fun k hk => Nat.le_trans HX4.out.size (hF k hk)
      have hg0' : Hid (¬ F g) := hid hgF
      have HGW : Hid (w.heap.size ≤ g) := hid (Nat.le_trans (HX0.out.trans HX4.out).size hg0)
      clear hb6 hrd hat6 hx6 hF hg0 hgF
      have HXW := hid (HX0.out.trans HX6.out)
      have HXW := hid (HX0.out.trans HX6.out)
      have HFG : Hid (∀ k, F k → w.heap.size ≤ k) := hid fun k hk => Nat.le_trans HX0.out.size (HFF.out k hk)
      go_wp2_with fail
      refine (list_any _ leaves _ (HL.out.ext HXW.out) (by have := HSP.out.2.1; omega) (fun l hl => by have := HSP.out.1 l hl; omega)).mono ?_
      rintro e w6 ⟨v6, L6, rfl, hL6, hown6, hx6, hn6, hn6'⟩
      have hr6 := hown6.rdl
      rw [hL6] at hr6
      obtain ⟨va6, vc6, rfl, -⟩ := ownsRow_rd hown6.1
      have hst6 : Stays F w6 fun u => RdL u (.slice va6 L6.length vc6) leaves := fun u k => by
        have hat := HAT.out.foot_lt
        have h1 : OwnL u (.slice va6 L6.length vc6) L6 := ⟨ownsRow_kp hown6.1 k (fun j h hf => by have := hn6 j h; have := hat j hf; omega), fun x hx => ownsRow_kp (hown6.2 x hx) k (fun j h hf => by have := hn6' x hx j h; have := hat j hf; omega)⟩
        have h2 := h1.rdl
        rwa [hL6] at h2
      have hll6 : L6.length = leaves.length := by rw [← hL6, List.length_map]
      rw [hll6] at hst6 ⊢
      have HST6 := hid hst6
      have HX56 := hid hx6
      have hx0 := (Ext.refl w6).alloc (.cells #[] 28)
      have HR1 := hid (HS.out.ext ((HXW.out.trans hx6).trans hx0))
      have HX60 := hid hx0
      have HOW : Hid ((w6.alloc (.cells #[] 28)).ownsRow 0 28 1 (.slice (some ⟨w6.heap.size, 0, none⟩) 0 0) 0 []) := hid ⟨rfl, .inr ⟨w6.heap.size, 0, #[], rfl, Nat.zero_le _, heap_new _ _, Nat.le_refl _, Nat.zero_le _, rfl, rfl⟩⟩
      clear hr6 hown6 hx6 hn6 hn6' hst6 hll6 hx0 hL6
      go_wp2_with (at_builtin; refine wpList_app' rfl _ _ 24 rfl 28 i0 (.int .u64 0) 1 8 Try.underlying24 HI1.out.1 HI1.out.2.1 HI1.out.2.2.1 HI1.out.2.2.2 rfl (by decide) _ 0 [] rfl HOW.out _ salts.length (us salts) rfl HR1.out (by simp) (us_one salts) (by have := HSP.out.2.2; unfold maxLen; omega) (by have := HSP.out.2.2; omega) ?_)
      intro v8 w8 hown8 hk8 hb8
      have hu8 : OwnU w8 v8 salts := by simpa using hown8
      have hx8 : Ext w6 w8 := HX60.out.kp hk8 (by intro k h; simp [Value.ownBlock] at h; omega)
      have hv8 : ∀ t, blk v8 = some t → w6.heap.size ≤ t := by
        intro t ht
        rcases hb8 with h | h
        · rw [h] at ht; simp [Value.ownBlock] at ht; omega
        · rw [h] at ht; simp at ht; omega
      obtain ⟨va8, vc8, rfl, -⟩ := ownsRow_rd hu8
      have HX58 := hid (HX56.out.trans hx8)
      have hst8 := ownU_stays (F := F) hu8 (fun k h hf => by have := hv8 k h; have := HAT.out.foot_lt k hf; have := HX56.out.size; omega)
      have HCO := hid (mCommit_any (HAT.out.ext HX58.out) (fun u k => HST6.out u ((Kp.of_ext hx8).trans k)) hst8 (by have := HSP.out.2.1; omega) (fun l hl => by have := HSP.out.1 l hl; omega) (by have := HSP.out.2.2; omega) (by have := HMG.out.2.2.2.1; omega) (by have := HMG.out.2.2.2.2; omega))
      clear hown8 hk8 hb8 hu8 hx8 hv8 hst8 HOW HR1 HX60
      go_wp2_with fail
      refine HCO.out.mono ?_
      rintro e w9 ⟨v9, L9, rfl, hL9, F9, ht9, hbes9⟩
      obtain ⟨va9, vc9, rfl, -⟩ := ownsRow_rd hbes9.own.1
      obtain ⟨ec, hec⟩ : ∃ ec : Int, ec = if commitOk leaves salts then 0 else 1 := ⟨_, rfl⟩
      rw [← hec]
      have HEC := hid hec
      have HT9 := hid ht9
      have HBES := hid hbes9
      have HL9 := hid hL9
      clear ht9 hbes9 hL9 hec HCO
      go_upto_region 7 with fail
      obtain ⟨w10, hw10⟩ : ∃ w10, w10 = w9.alloc (.cells #[.slice va9 L9.length vc9] 27) := ⟨_, rfl⟩
      have hx10 : Ext w9 w10 := by rw [hw10]; exact (Ext.refl w9).alloc _
      have hb10 : w10.heap[w9.heap.size]? = some (.cells #[.slice va9 L9.length vc9] 27 (0, 0)) := by rw [hw10]; exact heap_new _ _
      have hkp10 : Kp F w5 w10 := ((Kp.of_ext HX58.out).trans HT9.out.kp).ext hx10
      have hg10 := hkp10.heap_some hg0'.out HB6.out
      have hst10 : StMc (fun k => F9 k ∨ k = g) w10 (.slice mqa mqn mqc) (.slice msa msn msc) (.slice mpa mpn mpc) M := HRD.out.grow (hkp10.mono fun k _ h => .inl h) (fun k h => by
        rcases h with h | h
        · rcases HT9.out.new k h with h | h
          · exact .inl (.inl h)
          · have := HX58.out.size; right; omega
        · exact .inl (.inr h))
      have HX10 := hid (show Ext w w10 from (HXW.out.kp hkp10 HFG.out))
      have HAT10 := hid (HT9.out.at'.ext hx10)
      have hg5 := heap_lt HB6.out
      have HRC := hid (rCommit_any (leaves := leaves) (salts := salts) hst10 (fun k h => by
        rcases h with h | h
        · exact HAT10.out.foot_lt k h
        · subst h; exact heap_lt hg10) HMG.out.2.1 (HL.out.ext HX10.out) (HS.out.ext HX10.out) (by have := HSP.out.2.1; omega) (fun l hl => by have := HSP.out.1 l hl; omega) (by have := HSP.out.2.2; omega) (by have := HMG.out.2.2.2.1; omega) (fun q hq => by have := HMG.out.2.2.1 q hq; omega) (by have := HMG.out.2.2.2.2; omega))
      have HG10 := hid hg10
      have HB10 := hid hb10
      have HGN : Hid (g ≠ w9.heap.size ∧ g < w5.heap.size ∧ w5.heap.size ≤ w8.heap.size ∧ w8.heap.size ≤ w9.heap.size) := hid (by have := HX58.out.size; have := HT9.out.kp.size; omega)
      have hX910 := hid hx10
      rw [← hw10]
      obtain ⟨k0, k1, k2, k3, k4, k5⟩ := six_cellsO hg10
      generalize w9.heap.size = tb at *
      clear hw10 hx10 hb10 hkp10 hg10 hst10 hg5
      go_wp2_with fail
      refine HRC.out.mono ?_
      rintro e w11 ⟨lv, qv, sv', pv, rfl, hrl, hst, hx11⟩
      obtain ⟨⟨nqa, nqn, nqc, rfl⟩, ⟨nsa, nsn, nsc, rfl⟩, ⟨npa, npn, npc, rfl⟩⟩ := hst.now.sl
      obtain ⟨lva, lvc, rfl, -⟩ := (hrl w11 (Kp.refl _ _)).shape
      rw [← HEC.out]
      have hg11 := hx11.heap_some HG10.out
      have HRL := hid hrl
      have HST := hid hst
      have HX11 := hid hx11
      have HCE := hid (commitT_elems (B := 20) (by omega) (M := M) (leaves := leaves) (salts := salts) (fun q hq => HMG.out.2.2.1 q hq) (fun l hl => by have := HSP.out.1 l hl; omega))
      have HCS := hid (commit_small M leaves salts)
      obtain ⟨TL, M2, hT⟩ : ∃ TL M2, M.commitT leaves salts = (TL, M2) := ⟨_, _, rfl⟩
      rw [hT] at HRL HST HCE HCS HL9 HT9 HAT10
      rw [hT]
      simp only at HRL HST HCE HCS HL9 HT9 HAT10 ⊢
      have HEL := hid hT
      clear k0 k1 k2 k3 k4 k5 hrl hst hx11 HRC hT
      obtain ⟨k0, k1, k2, k3, k4, k5⟩ := six_cellsO hg11
      have kf := frozen_of hg11
      obtain ⟨hb12, hk12⟩ := six_setO (d0 := .bool M2.ideal) (d1 := uv M2.state) (d2 := .int .i64 (M2.draws : Int)) (d3 := .slice nqa nqn nqc) (d4 := .slice nsa nsn nsc) (d5 := .slice npa npn npc) hg11
      delta setSix at hb12 hk12
      clear hg11
      go_upto_region 8 with fail
      generalize ((((((w11.setCell ⟨g, 0, none⟩ (.bool M2.ideal)).setCell ⟨g, 1, none⟩ (uv M2.state)).setCell ⟨g, 2, none⟩ (.int .i64 (M2.draws : Int))).setCell ⟨g, 3, none⟩ (.slice nqa nqn nqc)).setCell ⟨g, 4, none⟩ (.slice nsa nsn nsc)).setCell ⟨g, 5, none⟩ (.slice npa npn npc)) = w12 at *
      have hX1012 : Kp (fun k => k = g) w10 w12 := (Kp.of_ext HX11.out).trans hk12
      have hst12 := HST.out.grow (hk12.mono fun k _ h => .inr h) (fun k h => .inl h)
      have ht12 : w12.cell? ⟨tb, 0, none⟩ = some (.slice va9 L9.length vc9) := cell_of (hX1012.heap_some (fun h => HGN.out.1 h.symm) HB10.out) 0
      have hlv := HRL.out w12 (hk12.mono fun k _ h => .inr h)
      have hbes := (HBES.out.ext hX910.out).kpOther hX1012 (fun k h => by
        subst h
        have h1 := HGN.out
        exact ⟨fun h => by have := (HBES.out.no _ h).2; omega, fun x hx h => by have := (HBES.out.nos x hx _ h).2; omega⟩)
      have hrd12 := hbes.own.rdl
      rw [HL9.out] at hrd12
      have hl9 : L9.length = TL.length := by rw [← HL9.out, List.length_map]
      rw [hl9] at hrd12 ht12
      have hTL : TL.length ≤ 1000 ∧ ∀ l ∈ TL, l.length ≤ 2000 := by
        cases hok : commitOk leaves salts with
        | false =>
          have h1 := HEL.out
          unfold Orc.commitT at h1
          rw [hok] at h1
          injection h1 with h1 h2
          subst h1
          exact ⟨by simp, fun l hl => by cases hl⟩
        | true =>
          have h1 := (commitT_lens HMG.out.1 hok).1
          rw [HEL.out] at h1
          obtain ⟨h2, h3⟩ := formed_small h1
          simp only at h2 h3
          exact ⟨by omega, fun l hl => by have := h3 l hl; omega⟩
      have HSL := hid (sameLv_any hrd12 hlv (by have := hTL.1; omega) (fun l hl => by have := hTL.2 l hl; omega))
      have HB12 := hid hb12
      have HAT12 := hid (((HAT10.out.ext HX11.out).kp hk12) (fun k hk h => by subst h; exact HT9.out.apart (by have := HGN.out; omega) hg0'.out hk))
      have HXE := hid (show Ext w w12 from HX10.out.kp hX1012 (fun k h => by subst h; exact HGW.out))
      have HST12 := hid hst12
      have hB : (ec == ec) = true := by simp
      clear hTL hrd12 hlv hbes hl9 hb12 hk12 k0 k1 k2 k3 k4 k5 kf hst12 hX1012
      go_wp2_with fail
      refine HSL.out.mono ?_
      rintro e w13 ⟨rfl, hx13⟩
      have hb13 := hx13.heap_some HB12.out
      obtain ⟨k0, k1, k2, k3, k4, k5⟩ := six_cellsO hb13
      have hrq := (HST12.out.ext hx13).now
      have HAL := hid (alike_any (M := M2) (F := F9) (ib := M2.ideal) (st := M2.state) (nn := M2.draws) (HAT12.out.ext hx13) hrq.qs (sv := .slice nsa nsn nsc) (pv := .slice npa npn npc) ⟨_, _, _, rfl⟩ ⟨_, _, _, rfl⟩ (by have := HCS.out.1; have := HSP.out.2.1; have := HMG.out.2.2.2.1; omega) (fun q hq => by have := HCE.out q hq; omega))
      have HX13 := hid (HXE.out.trans hx13)
      clear hx13 hb13 hrq ht12
      go_wp2_with fail
      refine HAL.out.mono ?_
      rintro e w14 ⟨rfl, hx14⟩
      have HX14 := hid (HX13.out.trans hx14)
      clear hx14
      go_wp2_with fail
      go_ret
      exact ⟨rfl, HX14.out⟩
end Go.Proofs.Ytdpgfjnpcjpdpaa
