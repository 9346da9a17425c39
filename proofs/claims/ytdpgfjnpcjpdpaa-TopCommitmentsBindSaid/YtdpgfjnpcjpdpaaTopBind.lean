/- TopCommitmentsBind returns true: the walk. -/
import Derived.Test.YtdpgfjnpcjpdpaaAwk13
import Derived.Test.YtdpgfjnpcjpdpaaList13
import Derived.Test.YtdpgfjnpcjpdpaaBindLaw13
import Derived.Test.YtdpgfjnpcjpdpaaAllocs
set_option linter.unusedSimpArgs false
namespace Go.Proofs.Ytdpgfjnpcjpdpaa
open Go.RowKit
attribute [local irreducible] perm fAdd fMul fPow fSub fNeg fRed hashU drawOf nextState awT aw13 awi
abbrev Zt : Obj := .cells #[.int .u64 0, .int .u64 0] 44
/-- Behind Absorb. -/
def CAb (w0 : World) (b : Nat) (F : Nat → Prop) (h : UInt64 × Orc) (r : Value) : CB := fun b1 x v => ∃ F', r = .agg #[uv h.1, .int .u64 0] ∧ OrcTo w0 b F h.2 v F' ∧ (b1 = true → zF w0 F' Zt x v)
theorem CAb.grows {w0 : World} {b : Nat} {F : Nat → Prop} {h : UInt64 × Orc} {r : Value} {S : World → Prop} (hS : ∀ v, Kp F w0 v → S v) : CB.Grows S Zt (CAb w0 b F h r) where
  s := fun _ _ _ ⟨_, _, h, _⟩ => hS _ h.kp
  g1 := fun _ _ ⟨F', h1, h2, _⟩ => ⟨F', h1, h2.ext ((Ext.refl _).alloc _), fun _ => zF.new h2.kp.size h2.at'.foot_lt⟩
theorem set2 {v : World} {g : Nat} {cs : Array Value} {T : TypeId} (hb : v.heap[g]? = some (.cells cs T (0, 0))) (hc : cs.size = 2) (x y : Value) :
    ((v.setCell ⟨g, 0, none⟩ x).setCell ⟨g, 1, none⟩ y).heap[g]? = some (.cells #[x, y] T (0, 0)) ∧ Kp (fun k => k = g) v ((v.setCell ⟨g, 0, none⟩ x).setCell ⟨g, 1, none⟩ y) := by
  refine ⟨?_, ((Kp.refl (fun k => k = g) v).setCell (p := ⟨g, 0, none⟩) (.inl rfl) _).setCell (p := ⟨g, 1, none⟩) (.inl rfl) _⟩
  rw [heap_setCell_same (heap_setCell_same hb 0 x) 1 y]
  obtain ⟨cl⟩ := cs
  match cl, hc with
  | [a, b], _ => rfl
theorem u_eqC (x y : UInt64) : ((x.toNat : Int) == (y.toNat : Int)) = (x == y) := by
  rw [Bool.eq_iff_iff]
  simp only [beq_iff_eq]
  constructor
  · intro h; exact UInt64.toNat_inj.1 (by omega)
  · rintro rfl; rfl
theorem R13.sl {leaves : Lv} {salts : List UInt64} (h : R13 leaves salts) : salts.length ≤ 16 := by
  have h1 := h.ok
  unfold commitOk at h1
  simp only [Bool.and_eq_true, beq_iff_eq] at h1
  rw [h1.2.1]; exact h.l16
theorem commitT_small {M M' : Orc} {leaves A : Lv} {salts : List UInt64} (h : M.commitT leaves salts = (A, M')) (hl : leaves.length ≤ 16) : M'.qs.length ≤ M.qs.length + 32 ∧ M'.draws ≤ M.draws + 32 := by
  have := commit_small M leaves salts
  rw [h] at this
  simp only at this
  omega
theorem commitT_formed {M M' : Orc} {leaves A : Lv} {salts : List UInt64} (hg : Good M) (h : M.commitT leaves salts = (A, M')) (hok : commitOk leaves salts = true) : formed A = true := by
  have := (commitT_lens hg hok).1
  rw [h] at this
  exact this
set_option maxRecDepth 100000 in
set_option maxHeartbeats 12800000 in
theorem TopCommitmentsBind_any {w : World} {lv sv mv tv : Value} {ls ms : Lv} {ss ts : List UInt64} (hl : RdL w lv ls) (hs : RdU w sv ss) (hm : RdL w mv ms) (ht : RdU w tv ts) :
    Calls Try.prog 4 #[.agg #[lv, sv], .agg #[mv, tv]] w fun e w' => e = .returned (.bool true) ∧ Ext w w' := by
  obtain ⟨la, lc, rfl, -⟩ := hl.shape
  obtain ⟨sa, sc, rfl, -⟩ := id hs
  obtain ⟨ma, mc, rfl, -⟩ := hm.shape
  obtain ⟨ta, tc, rfl, -⟩ := id ht
  obtain ⟨n, hn⟩ : ∃ n, n = w.heap.size := ⟨_, rfl⟩
  obtain ⟨w0, hw0⟩ : ∃ w0, w0 = (w.alloc (.cells #[.slice la ls.length lc, .slice sa ss.length sc] 36)).alloc (.cells #[.slice ma ms.length mc, .slice ta ts.length tc] 36) := ⟨_, rfl⟩
  have hx0 : Ext w w0 := by rw [hw0]; exact ((Ext.refl _).alloc _).alloc _
  have hba : w0.heap[n]? = some (.cells #[.slice la ls.length lc, .slice sa ss.length sc] 36 (0, 0)) := by rw [hw0, hn]; exact heap_alloc_some (heap_new _ _)
  have hbb : w0.heap[n + 1]? = some (.cells #[.slice ma ms.length mc, .slice ta ts.length tc] 36 (0, 0)) := by rw [hw0, hn]; exact heap_new_at _ _ (by simp)
  have HX0 := hid hx0
  have HBA := hid hba
  have HBB := hid hbb
  have HL := hid hl
  have HS := hid hs
  have HM := hid hm
  have HT := hid ht
  have HW0 := hid hw0
  have HN := hid hn
  have HA := hid awake13_any
  clear hx0 hba hbb hl hs hm ht hw0 hn
  go_enter Try.func4, Try.ntmps4
  go_wp2_with fail
  rw [← HW0.out, ← HN.out]
  refine (HA.out _).mono ?_
  rintro e w1 ⟨rfl, hx1⟩
  have c0 : w1.cell? ⟨n, 0, none⟩ = some (.slice la ls.length lc) := cell_of (hx1.heap_some HBA.out) 0
  have c1 : w1.cell? ⟨n, 1, none⟩ = some (.slice sa ss.length sc) := cell_of (hx1.heap_some HBA.out) 1
  have HX1 := hid (HX0.out.trans hx1)
  have HXX1 := hid hx1
  clear hx1
  go_wp2_with fail
  refine (right13_any (HL.out.ext HX1.out) (HS.out.ext HX1.out)).mono ?_
  rintro e w2 ⟨r, rfl, hr, hx2⟩
  have HX2 := hid (HX1.out.trans hx2)
  have HXX2 := hid (HXX1.out.trans hx2)
  clear c0 c1 hx2
  cases r with
  | false =>
    clear hr
    go_wp2_with fail
    refine (HA.out _).mono ?_
    rintro e wz ⟨rfl, hxz⟩
    have HXZ := hid (HX2.out.trans hxz)
    clear hxz
    go_wp2_with fail
    go_ret
    exact ⟨rfl, HXZ.out⟩
  | true =>
    have HR1 := hid (hr rfl)
    clear hr
    have c2 : w2.cell? ⟨n + 1, 0, none⟩ = some (.slice ma ms.length mc) := cell_of (HXX2.out.heap_some HBB.out) 0
    have c3 : w2.cell? ⟨n + 1, 1, none⟩ = some (.slice ta ts.length tc) := cell_of (HXX2.out.heap_some HBB.out) 1
    go_wp2_with fail
    refine (right13_any (HM.out.ext HX2.out) (HT.out.ext HX2.out)).mono ?_
    rintro e w3 ⟨r, rfl, hr, hx3⟩
    have HX3 := hid (HX2.out.trans hx3)
    have HXX3 := hid (HXX2.out.trans hx3)
    clear c2 c3 hx3
    cases r with
    | false =>
      clear hr
      go_wp2_with fail
      refine (HA.out _).mono ?_
      rintro e wz ⟨rfl, hxz⟩
      have HXZ := hid (HX3.out.trans hxz)
      clear hxz
      go_wp2_with fail
      go_ret
      exact ⟨rfl, HXZ.out⟩
    | true =>
      have HR2 := hid (hr rfl)
      clear hr
      have c0 : w3.cell? ⟨n, 0, none⟩ = some (.slice la ls.length lc) := cell_of (HXX3.out.heap_some HBA.out) 0
      have c2 : w3.cell? ⟨n + 1, 0, none⟩ = some (.slice ma ms.length mc) := cell_of (HXX3.out.heap_some HBB.out) 0
      by_cases hlen : ls.length = ms.length
      case neg =>
        have hd : ((ls.length : Int) != (ms.length : Int)) = true := by simp; omega
        clear hlen
        go_wp2_with fail
        refine (HA.out _).mono ?_
        rintro e wz ⟨rfl, hxz⟩
        have HXZ := hid (HX3.out.trans hxz)
        clear hxz
        go_wp2_with fail
        go_ret
        exact ⟨rfl, HXZ.out⟩
      have hd : ((ls.length : Int) != (ms.length : Int)) = false := by simp; omega
      have HLEN := hid hlen
      clear hlen
      go_wp2_with fail
      refine (Real_any _).mono ?_
      rintro e w4 ⟨b, F4, rfl, hat4, hx4, hF4⟩
      have HX4 := hid (HX3.out.trans hx4)
      have HXX4 := hid (HXX3.out.trans hx4)
      have HF4 : Hid (∀ k, F4 k → w.heap.size ≤ k) := hid fun k hk => Nat.le_trans HX3.out.size (hF4 k hk)
      have hbox : Stays F4 w4 fun v => v.cell? ⟨n, 0, none⟩ = some (.slice la ls.length lc) ∧ v.cell? ⟨n, 1, none⟩ = some (.slice sa ss.length sc) ∧ v.cell? ⟨n + 1, 0, none⟩ = some (.slice ma ms.length mc) ∧ v.cell? ⟨n + 1, 1, none⟩ = some (.slice ta ts.length tc) := fun v k => by
        have k' := HXX4.out
        have kx : Ext w3 v := hx4.kp k hF4
        have hA := (HXX3.out.trans kx).heap_some HBA.out
        have hB := (HXX3.out.trans kx).heap_some HBB.out
        exact ⟨cell_of hA 0, cell_of hA 1, cell_of hB 0, cell_of hB 1⟩
      have hsl : Stays F4 w4 fun v => RdL v (.slice la ls.length lc) ls := Stays.of_new (w0 := w) (fun v k => HL.out.ext k) HX4.out HF4.out
      have hss : Stays F4 w4 fun v => RdU v (.slice sa ss.length sc) ss := Stays.of_new (w0 := w) (fun v k => HS.out.ext k) HX4.out HF4.out
      have hsm : Stays F4 w4 fun v => RdL v (.slice ma ms.length mc) ms := Stays.of_new (w0 := w) (fun v k => HM.out.ext k) HX4.out HF4.out
      have hst : Stays F4 w4 fun v => RdU v (.slice ta ts.length tc) ts := Stays.of_new (w0 := w) (fun v k => HT.out.ext k) HX4.out HF4.out
      have HBOX := hid hbox
      have HSM := hid hsm
      have HST := hid hst
      have HSL := hid hsl
      have HSS4 := hid hss
      have HC1 := hid (mCommit_any hat4 hsl (fun v k => (hss v k).weak) (by have := HR1.out.l16; omega) (fun l hl => by have := HR1.out.l20 l hl; omega) (by have := HR1.out.sl; omega) (by simp [Orc.fresh]) (by simp [Orc.fresh]))
      obtain ⟨d0, d1, d2, d3⟩ := hbox w4 (Kp.refl _ _)
      clear c0 c2 hd hat4 hx4 hF4 hbox hsl hss hsm hst
      go_wp2_with fail
      refine HC1.out.mono ?_
      rintro e w5 ⟨v1, L1, rfl, hL1, F5, ht5, hbes1⟩
      rw [HR1.out.ok]
      obtain ⟨A, M1, hc1⟩ : ∃ A M1, (Orc.fresh false 0).commitT ls ss = (A, M1) := ⟨_, _, rfl⟩
      rw [hc1] at hL1 ht5
      simp only at hL1 ht5
      obtain ⟨va, vc, rfl, -⟩ := ownsRow_rd hbes1.own.1
      have hstA := hbes1.stays
      rw [hL1] at hstA
      have hq5 := commitT_small hc1 HR1.out.l16
      obtain ⟨g, hg⟩ : ∃ g, g = w5.heap.size := ⟨_, rfl⟩
      obtain ⟨w6, hw6⟩ : ∃ w6, w6 = w5.alloc (.cells #[.slice va L1.length vc] 27) := ⟨_, rfl⟩
      have hg6 : w6.heap[g]? = some (.cells #[.slice va L1.length vc] 27 (0, 0)) := by rw [hw6, hg]; exact heap_new _ _
      have hx6 : Ext w5 w6 := by rw [hw6]; exact (Ext.refl _).alloc _
      have hgF : ¬ F5 g := fun hf => by have := ht5.at'.foot_lt _ hf; omega
      have HQ6 : Hid (Stays F5 w6 fun v => (v.cell? ⟨n, 0, none⟩ = some (.slice la ls.length lc) ∧ v.cell? ⟨n, 1, none⟩ = some (.slice sa ss.length sc) ∧ v.cell? ⟨n + 1, 0, none⟩ = some (.slice ma ms.length mc) ∧ v.cell? ⟨n + 1, 1, none⟩ = some (.slice ta ts.length tc)) ∧ RdL v (.slice va L1.length vc) A ∧ v.cell? ⟨g, 0, none⟩ = some (.slice va L1.length vc)) := hid fun v k =>
        ⟨Stays.to HBOX.out ht5 v ((Kp.of_ext hx6).trans k), hstA v ((Kp.of_ext hx6).trans k), cell_of (k.heap_some hgF hg6) 0⟩
      have hsm6 : Stays F5 w6 fun v => RdL v (.slice ma ms.length mc) ms := fun v k => Stays.to HSM.out ht5 v ((Kp.of_ext hx6).trans k)
      have hst6 : Stays F5 w6 fun v => RdU v (.slice ta ts.length tc) ts := fun v k => Stays.to HST.out ht5 v ((Kp.of_ext hx6).trans k)
      have HT6 := hid (ht5.ext hx6)
      have HH1 := hid hc1
      have HQQ := hid hq5
      have HFA := hid (formed_small (commitT_formed (M := Orc.fresh false 0) (fun q hq => by cases hq) hc1 HR1.out.ok))
      have hgM1 : Good M1 := by
        have := Good.commit' (M := Orc.fresh false 0) (fun q hq => by cases hq) ls ss
        rw [hc1] at this
        exact this
      have HGM1 := hid hgM1
      clear hgM1
      have HC2 := hid (mCommit_any HT6.out.at' hsm6 (fun v k => (hst6 v k).weak) (by have := HR2.out.l16; omega) (fun l hl => by have := HR2.out.l20 l hl; omega) (by have := HR2.out.sl; omega) (by have h1 := hq5.1; have h2 : (Orc.fresh false 0).qs.length = 0 := rfl; omega) (by have h1 := hq5.2; have h2 : (Orc.fresh false 0).draws = 0 := rfl; omega))
      obtain ⟨⟨-, -, d2, d3⟩, -, -⟩ := HQ6.out w6 (Kp.refl _ _)
      clear hL1 ht5 hbes1 hc1 hstA hq5 hg6 hx6 hgF hsm6 hst6 d0 d1 HC1
      have HG := hid hg
      have HW6 := hid hw6
      clear hg hw6
      have d2' := d2
      have d3' := d3
      rw [HW6.out] at d2' d3'
      go_wp2_with fail
      rw [← HW6.out]
      clear d2' d3'
      refine HC2.out.mono ?_
      rintro e w7 ⟨v2, L2, rfl, hL2, F7, ht7, hbes2⟩
      rw [HR2.out.ok]
      obtain ⟨B, M2, hc2⟩ : ∃ B M2, M1.commitT ms ts = (B, M2) := ⟨_, _, rfl⟩
      rw [hc2] at hL2 ht7
      simp only at hL2 ht7
      obtain ⟨vb, vd, rfl, -⟩ := ownsRow_rd hbes2.own.1
      have hstB := hbes2.stays
      rw [hL2] at hstB
      have hq7 := commitT_small hc2 HR2.out.l16
      obtain ⟨g', hg'⟩ : ∃ g', g' = w7.heap.size := ⟨_, rfl⟩
      obtain ⟨w8, hw8⟩ : ∃ w8, w8 = w7.alloc (.cells #[.slice vb L2.length vd] 27) := ⟨_, rfl⟩
      have hg8 : w8.heap[g']? = some (.cells #[.slice vb L2.length vd] 27 (0, 0)) := by rw [hw8, hg']; exact heap_new _ _
      have hx8 : Ext w7 w8 := by rw [hw8]; exact (Ext.refl _).alloc _
      have hgF : ¬ F7 g' := fun hf => by have := ht7.at'.foot_lt _ hf; omega
      have HQ8 : Hid (Stays F7 w8 fun v => ((v.cell? ⟨n, 0, none⟩ = some (.slice la ls.length lc) ∧ v.cell? ⟨n, 1, none⟩ = some (.slice sa ss.length sc) ∧ v.cell? ⟨n + 1, 0, none⟩ = some (.slice ma ms.length mc) ∧ v.cell? ⟨n + 1, 1, none⟩ = some (.slice ta ts.length tc)) ∧ RdL v (.slice va L1.length vc) A ∧ v.cell? ⟨g, 0, none⟩ = some (.slice va L1.length vc)) ∧ RdL v (.slice vb L2.length vd) B ∧ v.cell? ⟨g', 0, none⟩ = some (.slice vb L2.length vd)) := hid fun v k =>
        ⟨Stays.to HQ6.out ht7 v ((Kp.of_ext hx8).trans k), hstB v ((Kp.of_ext hx8).trans k), cell_of (k.heap_some hgF hg8) 0⟩
      have HT8 := hid ((HT6.out.trans ht7).ext hx8)
      have HH2 := hid hc2
      have HQQ2 := hid hq7
      have HFB := hid (formed_small (commitT_formed HGM1.out hc2 HR2.out.ok))
      have SM2 : Hid (M2.qs.length ≤ 64 ∧ M2.draws ≤ 64) := hid (by have h0 := hq7; have h1 := HQQ.out; have h2 : (Orc.fresh false 0).qs.length = 0 := rfl; have h3 : (Orc.fresh false 0).draws = 0 := rfl; omega)
      have SM3 : Hid (∀ a l, (M2.hash a l).2.qs.length ≤ 65 ∧ (M2.hash a l).2.draws ≤ 65) := hid fun a l => by have h1 := hash_qs_le M2 a l; have h2 := hash_draws_le M2 a l; have h3 := SM2.out; omega
      have HG' := hid hg'
      have HW8 := hid hw8
      clear hL2 ht7 hbes2 hc2 hstB hq7 hg8 hx8 hgF hg' hw8 d2 d3 HC2
      go_wp2_with fail
      rw [← HW8.out]
      try rw [← HG.out]
      try rw [← HG'.out]
      refine wp_region_N (fun v => v.cell? ⟨g, 0, none⟩ = some (.slice va L1.length vc) ∧ Kp F7 w8 v) 7 8 (by kernel_rfl) (by kernel_rfl) ?_
      intro ops hops
      have HR := (And.intro (HQ8.out _ (Kp.refl F7 w8).drew).1.2.2 (Kp.refl F7 w8).drew)
      refine N_take (i := 0) (v := ?_) (by rw [hops, List.getElem?_toArray]; rfl) (by rw [hops]; kernel_rfl) (by intro c a d v w h; cases d <;> exact h) (by first | rfl | (rw [hops]; rfl)) ?_ HR ?_
      rotate_left
      · intro v h; go_simp; with_reducible rfl
      simp only [Act.put, List.getElem_toArray, List.getElem_cons_zero, List.getElem_cons_succ, List.setIfInBounds_toArray, List.set_cons_zero, List.set_cons_succ]
      refine N_take (i := 2) (v := ?_) (by rw [hops, List.getElem?_toArray]; rfl) (by rw [hops]; kernel_rfl) (by intro c a d v w h; cases d <;> exact h) (by first | rfl | (rw [hops]; rfl)) ?_ HR ?_
      rotate_left
      · intro v h; go_simp; with_reducible rfl
      simp only [Act.put, List.getElem_toArray, List.getElem_cons_zero, List.getElem_cons_succ, List.setIfInBounds_toArray, List.set_cons_zero, List.set_cons_succ]
      have hal : ∀ Q, Alloc1 Try.prog ops Q 6 10 Zt := fun Q => ⟨⟨_, by rw [hops, List.getElem?_toArray]; rfl, fun t => rfl, fun a w K hK => by go_wp2_with fail; exact hK⟩⟩
      have hgr := CG1.grows (Z := Zt) (w0 := w8) HT8.out.at'.foot_lt (fun v k => And.intro (HQ8.out v k).1.2.2 k)
      refine WB_start (i1 := 6) (d1 := 10) (f := 5) (C := CG1 w8 F7 Zt) undef ⟨(Ext.refl w8).drew, fun h => by cases h⟩ (by rfl) (by rfl) (by rfl) ?_
      refine WB_call (hal _) hgr (c := 1) (fun v => CLB (fun _ => v = .agg #[uv 20, .int .u64 0]) (CG1 w8 F7 Zt)) (by rw [hops]; kernel_rfl) (by rw [hops, List.getElem?_toArray]; rfl) rfl (fun t => rfl) (by decide) (fun v b1 x w' h => hgr.s _ _ _ h.2) ?_ ?_
      · intro b1 x1 v hC K hK
        simp only [Act.put, List.setIfInBounds_toArray, List.set_cons_zero, List.set_cons_succ]
        go_wp2_with fail
        refine (tNew_any 20 _).mono ?_
        rintro e v' ⟨rfl, hy⟩
        exact hK _ _ ⟨rfl, hC.ext hy⟩ _ (by simp only [Act.put, List.setIfInBounds_toArray, List.set_cons_zero, List.set_cons_succ] <;> rfl)
      intro v63
      simp only [Act.put, List.setIfInBounds_toArray, List.set_cons_zero, List.set_cons_succ]
      have hgr2 := CLB.grows (p := fun _ => v63 = .agg #[uv 20, .int .u64 0]) hgr (fun _ _ h _ => h)
      refine WB_call (hal _) hgr2 (c := 3) (fun v => CLB (fun _ => v = uv (rootL A)) (CLB (fun _ => v63 = .agg #[uv 20, .int .u64 0]) (CG1 w8 F7 Zt))) (by rw [hops]; kernel_rfl) (by rw [hops, List.getElem?_toArray]; rfl) rfl (fun t => rfl) (by decide) (fun v b1 x w' h => hgr.s _ _ _ h.2.2) ?_ ?_
      · rintro b1 x1 v ⟨rfl, hC⟩ K hK
        simp only [Act.put, List.setIfInBounds_toArray, List.set_cons_zero, List.set_cons_succ]
        go_wp2_with fail
        refine (mRoot_any _ A _ (HQ8.out v (Kp.of_ext hC.1)).1.2.1 (by have := HFA.out.1; omega) (fun l hl => by have := HFA.out.2 l hl; omega)).mono ?_
        rintro e v' ⟨rfl, hy⟩
        exact hK _ _ ⟨rfl, (by first | trivial | rfl), hC.ext hy⟩ _ (by simp only [Act.put, List.setIfInBounds_toArray, List.set_cons_zero, List.set_cons_succ] <;> rfl)
      intro v65
      simp only [Act.put, List.setIfInBounds_toArray, List.set_cons_zero, List.set_cons_succ]
      have hgr3 := CLB.grows (p := fun _ => v65 = uv (rootL A)) hgr2 (fun _ _ h _ => h)
      refine WB_call (hal _) hgr3 (c := 4) (fun v => CLB (fun u => ∃ q, v = .slice (some ⟨q, 0, none⟩) 1 1 ∧ RdU u v [rootL A]) (CLB (fun _ => v65 = uv (rootL A)) (CLB (fun _ => v63 = .agg #[uv 20, .int .u64 0]) (CG1 w8 F7 Zt)))) (by rw [hops]; kernel_rfl) (by rw [hops, List.getElem?_toArray]; rfl) rfl (fun t => rfl) (by decide) (fun v b1 x w' h => hgr.s _ _ _ h.2.2.2) ?_ ?_
      · rintro b1 x1 v ⟨rfl, rfl, hC⟩ K hK
        simp only [Act.put, List.setIfInBounds_toArray, List.set_cons_zero, List.set_cons_succ]
        go_wp2_with fail
        exact hK _ _ ⟨⟨_, rfl, one_rdu v (uv (rootL A)) _ rfl 28⟩, (by first | trivial | rfl), (by first | trivial | rfl), hC.ext ((Ext.refl v).alloc _)⟩ _ (by simp only [Act.put, List.setIfInBounds_toArray, List.set_cons_zero, List.set_cons_succ] <;> rfl)
      intro v66
      simp only [Act.put, List.setIfInBounds_toArray, List.set_cons_zero, List.set_cons_succ]
      have hgr4 := CLB.grows (p := fun u => ∃ q, v66 = .slice (some ⟨q, 0, none⟩) 1 1 ∧ RdU u v66 [rootL A]) hgr3 (fun _ _ ⟨q, h1, h2⟩ k => ⟨q, h1, h2.ext k⟩)
      have hgr5 := fun (r : Value) => CAb.grows (w0 := w8) (b := b) (F := F7) (h := (M2).hash 18 [20, 2, rootL A]) (r := r) (fun v k => And.intro (HQ8.out v k).1.2.2 k)
      refine WB_call (hal _) hgr4 (c := 5) (fun v => CAb w8 b F7 ((M2).hash 18 [20, 2, rootL A]) v) (by rw [hops]; kernel_rfl) (by rw [hops, List.getElem?_toArray]; rfl) rfl (fun t => rfl) (by decide) (fun v b1 x w' h => (hgr5 v).s _ _ _ h) ?_ ?_
      · rintro b1 x1 v ⟨⟨q, rfl, hq⟩, rfl, rfl, hC⟩ K hK
        simp only [Act.put, List.setIfInBounds_toArray, List.set_cons_zero, List.set_cons_succ]
        go_wp2_with fail
        refine (tAbsorb_any (st := 20) (cnt := 0) (tag := 2) (l := [rootL A]) (HT8.out.at'.ext hC.1) hq.weak (by simp) (by have h1 := SM2.out.1; omega) (by have h1 := SM2.out.2; omega)).mono ?_
        rintro e v' ⟨rfl, Fz, htz⟩
        exact hK _ _ ⟨Fz, rfl, .pre hC.1 htz, fun hb => (hC.2 hb).kp htz.kp fun k hk hn => htz.apart hk hn⟩ _ (by simp only [Act.put, List.setIfInBounds_toArray, List.set_cons_zero, List.set_cons_succ] <;> rfl)
      intro v67
      simp only [Act.put, List.setIfInBounds_toArray, List.set_cons_zero, List.set_cons_succ]
      refine WB_last (hal _) (hgr5 _) (by rw [hops]; kernel_rfl) ?_
      rintro x1 v ⟨Fz8, rfl, htz, hz⟩
      obtain ⟨gt8, rfl, hgt, hgtF, hgtb⟩ := hz rfl
      simp only [Act.put, List.setIfInBounds_toArray, List.set_cons_zero, List.set_cons_succ]
      have z0 : v.cell? ⟨gt8, 0, none⟩ = some (.int .u64 0) := cell_of hgtb 0
      have z1 : v.cell? ⟨gt8, 1, none⟩ = some (.int .u64 0) := cell_of hgtb 1
      have zf := frozen_of hgtb
      obtain ⟨s1, s2⟩ := set2 hgtb rfl (uv ((M2).hash 18 [20, 2, rootL A]).1) (.int .u64 0)
      have hto := htz.kpOther s2 (by rintro k rfl; exact ⟨hgtF, hgt⟩)
      refine N_one (i := 7) (by rw [hops, List.getElem?_toArray]; rfl) (by rw [hops]; kernel_rfl) (by first | rfl | (rw [hops]; rfl)) ?_
      intro K hK
      go_wp2_with fail
      refine ⟨by kernel_rfl, ?_⟩
      clear hal hgr hgr2 hgr3 hgr4 hgr5 hgtb z0 z1 zf s2 htz hz HR
      try clear hK K
      clear hops ops
      generalize hh8 : (M2).hash 18 [20, 2, rootL A] = h8 at *
      have HH8 := hid hh8.symm
      clear hh8
      generalize ((v.setCell ⟨gt8, 0, none⟩ (uv h8.1)).setCell ⟨gt8, 1, none⟩ (.int .u64 0)) = v8 at *
      have HT9 := hid (HT8.out.trans hto)
      have HQ9 : Hid (Stays Fz8 v8 fun v => (((v.cell? ⟨n, 0, none⟩ = some (.slice la ls.length lc) ∧ v.cell? ⟨n, 1, none⟩ = some (.slice sa ss.length sc) ∧ v.cell? ⟨n + 1, 0, none⟩ = some (.slice ma ms.length mc) ∧ v.cell? ⟨n + 1, 1, none⟩ = some (.slice ta ts.length tc)) ∧ RdL v (.slice va L1.length vc) A ∧ v.cell? ⟨g, 0, none⟩ = some (.slice va L1.length vc)) ∧ RdL v (.slice vb L2.length vd) B ∧ v.cell? ⟨g', 0, none⟩ = some (.slice vb L2.length vd)) ∧ v.cell? ⟨gt8, 0, none⟩ = some (uv h8.1) ∧ v.cell? ⟨gt8, 1, none⟩ = some (.int .u64 0)) := hid fun v' k => ⟨Stays.to HQ8.out hto v' k, cell_of (k.heap_some hgtF s1) 0, cell_of (k.heap_some hgtF s1) 1⟩
      clear s1 hto hgt hgtF
      go_wp2_with fail
      have SM3b : Hid (h8.2.qs.length ≤ 65 ∧ h8.2.draws ≤ 65) := hid (by rw [HH8.out]; exact SM3.out _ _)
      refine wp_region_N (fun v => v.cell? ⟨g', 0, none⟩ = some (.slice vb L2.length vd) ∧ Kp Fz8 v8 v) 7 8 (by kernel_rfl) (by kernel_rfl) ?_
      intro ops hops
      have HR := (And.intro (HQ9.out _ (Kp.refl Fz8 v8).drew).1.2.2 (Kp.refl Fz8 v8).drew)
      refine N_take (i := 0) (v := ?_) (by rw [hops, List.getElem?_toArray]; rfl) (by rw [hops]; kernel_rfl) (by intro c a d v w h; cases d <;> exact h) (by first | rfl | (rw [hops]; rfl)) ?_ HR ?_
      rotate_left
      · intro v h; go_simp; with_reducible rfl
      simp only [Act.put, List.getElem_toArray, List.getElem_cons_zero, List.getElem_cons_succ, List.setIfInBounds_toArray, List.set_cons_zero, List.set_cons_succ]
      refine N_take (i := 2) (v := ?_) (by rw [hops, List.getElem?_toArray]; rfl) (by rw [hops]; kernel_rfl) (by intro c a d v w h; cases d <;> exact h) (by first | rfl | (rw [hops]; rfl)) ?_ HR ?_
      rotate_left
      · intro v h; go_simp; with_reducible rfl
      simp only [Act.put, List.getElem_toArray, List.getElem_cons_zero, List.getElem_cons_succ, List.setIfInBounds_toArray, List.set_cons_zero, List.set_cons_succ]
      have hal : ∀ Q, Alloc1 Try.prog ops Q 6 11 Zt := fun Q => ⟨⟨_, by rw [hops, List.getElem?_toArray]; rfl, fun t => rfl, fun a w K hK => by go_wp2_with fail; exact hK⟩⟩
      have hgr := CG1.grows (Z := Zt) (w0 := v8) HT9.out.at'.foot_lt (fun v k => And.intro (HQ9.out v k).1.2.2 k)
      refine WB_start (i1 := 6) (d1 := 11) (f := 5) (C := CG1 v8 Fz8 Zt) undef ⟨(Ext.refl v8).drew, fun h => by cases h⟩ (by rfl) (by rfl) (by rfl) ?_
      refine WB_call (hal _) hgr (c := 1) (fun v => CLB (fun _ => v = .agg #[uv 20, .int .u64 0]) (CG1 v8 Fz8 Zt)) (by rw [hops]; kernel_rfl) (by rw [hops, List.getElem?_toArray]; rfl) rfl (fun t => rfl) (by decide) (fun v b1 x w' h => hgr.s _ _ _ h.2) ?_ ?_
      · intro b1 x1 v hC K hK
        simp only [Act.put, List.setIfInBounds_toArray, List.set_cons_zero, List.set_cons_succ]
        go_wp2_with fail
        refine (tNew_any 20 _).mono ?_
        rintro e v' ⟨rfl, hy⟩
        exact hK _ _ ⟨rfl, hC.ext hy⟩ _ (by simp only [Act.put, List.setIfInBounds_toArray, List.set_cons_zero, List.set_cons_succ] <;> rfl)
      intro v63
      simp only [Act.put, List.setIfInBounds_toArray, List.set_cons_zero, List.set_cons_succ]
      have hgr2 := CLB.grows (p := fun _ => v63 = .agg #[uv 20, .int .u64 0]) hgr (fun _ _ h _ => h)
      refine WB_call (hal _) hgr2 (c := 3) (fun v => CLB (fun _ => v = uv (rootL B)) (CLB (fun _ => v63 = .agg #[uv 20, .int .u64 0]) (CG1 v8 Fz8 Zt))) (by rw [hops]; kernel_rfl) (by rw [hops, List.getElem?_toArray]; rfl) rfl (fun t => rfl) (by decide) (fun v b1 x w' h => hgr.s _ _ _ h.2.2) ?_ ?_
      · rintro b1 x1 v ⟨rfl, hC⟩ K hK
        simp only [Act.put, List.setIfInBounds_toArray, List.set_cons_zero, List.set_cons_succ]
        go_wp2_with fail
        refine (mRoot_any _ B _ (HQ9.out v (Kp.of_ext hC.1)).1.2.1 (by have := HFB.out.1; omega) (fun l hl => by have := HFB.out.2 l hl; omega)).mono ?_
        rintro e v' ⟨rfl, hy⟩
        exact hK _ _ ⟨rfl, (by first | trivial | rfl), hC.ext hy⟩ _ (by simp only [Act.put, List.setIfInBounds_toArray, List.set_cons_zero, List.set_cons_succ] <;> rfl)
      intro v65
      simp only [Act.put, List.setIfInBounds_toArray, List.set_cons_zero, List.set_cons_succ]
      have hgr3 := CLB.grows (p := fun _ => v65 = uv (rootL B)) hgr2 (fun _ _ h _ => h)
      refine WB_call (hal _) hgr3 (c := 4) (fun v => CLB (fun u => ∃ q, v = .slice (some ⟨q, 0, none⟩) 1 1 ∧ RdU u v [rootL B]) (CLB (fun _ => v65 = uv (rootL B)) (CLB (fun _ => v63 = .agg #[uv 20, .int .u64 0]) (CG1 v8 Fz8 Zt)))) (by rw [hops]; kernel_rfl) (by rw [hops, List.getElem?_toArray]; rfl) rfl (fun t => rfl) (by decide) (fun v b1 x w' h => hgr.s _ _ _ h.2.2.2) ?_ ?_
      · rintro b1 x1 v ⟨rfl, rfl, hC⟩ K hK
        simp only [Act.put, List.setIfInBounds_toArray, List.set_cons_zero, List.set_cons_succ]
        go_wp2_with fail
        exact hK _ _ ⟨⟨_, rfl, one_rdu v (uv (rootL B)) _ rfl 28⟩, (by first | trivial | rfl), (by first | trivial | rfl), hC.ext ((Ext.refl v).alloc _)⟩ _ (by simp only [Act.put, List.setIfInBounds_toArray, List.set_cons_zero, List.set_cons_succ] <;> rfl)
      intro v66
      simp only [Act.put, List.setIfInBounds_toArray, List.set_cons_zero, List.set_cons_succ]
      have hgr4 := CLB.grows (p := fun u => ∃ q, v66 = .slice (some ⟨q, 0, none⟩) 1 1 ∧ RdU u v66 [rootL B]) hgr3 (fun _ _ ⟨q, h1, h2⟩ k => ⟨q, h1, h2.ext k⟩)
      have hgr5 := fun (r : Value) => CAb.grows (w0 := v8) (b := b) (F := Fz8) (h := (h8.2).hash 18 [20, 2, rootL B]) (r := r) (fun v k => And.intro (HQ9.out v k).1.2.2 k)
      refine WB_call (hal _) hgr4 (c := 5) (fun v => CAb v8 b Fz8 ((h8.2).hash 18 [20, 2, rootL B]) v) (by rw [hops]; kernel_rfl) (by rw [hops, List.getElem?_toArray]; rfl) rfl (fun t => rfl) (by decide) (fun v b1 x w' h => (hgr5 v).s _ _ _ h) ?_ ?_
      · rintro b1 x1 v ⟨⟨q, rfl, hq⟩, rfl, rfl, hC⟩ K hK
        simp only [Act.put, List.setIfInBounds_toArray, List.set_cons_zero, List.set_cons_succ]
        go_wp2_with fail
        refine (tAbsorb_any (st := 20) (cnt := 0) (tag := 2) (l := [rootL B]) (HT9.out.at'.ext hC.1) hq.weak (by simp) (by have h1 := SM3b.out.1; omega) (by have h1 := SM3b.out.2; omega)).mono ?_
        rintro e v' ⟨rfl, Fz, htz⟩
        exact hK _ _ ⟨Fz, rfl, .pre hC.1 htz, fun hb => (hC.2 hb).kp htz.kp fun k hk hn => htz.apart hk hn⟩ _ (by simp only [Act.put, List.setIfInBounds_toArray, List.set_cons_zero, List.set_cons_succ] <;> rfl)
      intro v67
      simp only [Act.put, List.setIfInBounds_toArray, List.set_cons_zero, List.set_cons_succ]
      refine WB_last (hal _) (hgr5 _) (by rw [hops]; kernel_rfl) ?_
      rintro x1 v ⟨Fz9, rfl, htz, hz⟩
      obtain ⟨gt9, rfl, hgt, hgtF, hgtb⟩ := hz rfl
      simp only [Act.put, List.setIfInBounds_toArray, List.set_cons_zero, List.set_cons_succ]
      have z0 : v.cell? ⟨gt9, 0, none⟩ = some (.int .u64 0) := cell_of hgtb 0
      have z1 : v.cell? ⟨gt9, 1, none⟩ = some (.int .u64 0) := cell_of hgtb 1
      have zf := frozen_of hgtb
      obtain ⟨s1, s2⟩ := set2 hgtb rfl (uv ((h8.2).hash 18 [20, 2, rootL B]).1) (.int .u64 0)
      have hto := htz.kpOther s2 (by rintro k rfl; exact ⟨hgtF, hgt⟩)
      refine N_one (i := 7) (by rw [hops, List.getElem?_toArray]; rfl) (by rw [hops]; kernel_rfl) (by first | rfl | (rw [hops]; rfl)) ?_
      intro K hK
      go_wp2_with fail
      refine ⟨by kernel_rfl, ?_⟩
      clear hal hgr hgr2 hgr3 hgr4 hgr5 hgtb z0 z1 zf s2 htz hz HR
      try clear hK K
      clear hops ops
      generalize hh9 : (h8.2).hash 18 [20, 2, rootL B] = h9 at *
      have HH9 := hid hh9.symm
      clear hh9
      generalize ((v.setCell ⟨gt9, 0, none⟩ (uv h9.1)).setCell ⟨gt9, 1, none⟩ (.int .u64 0)) = v9 at *
      have HT10 := hid (HT9.out.trans hto)
      have HQ10 : Hid (Stays Fz9 v9 fun v => ((((v.cell? ⟨n, 0, none⟩ = some (.slice la ls.length lc) ∧ v.cell? ⟨n, 1, none⟩ = some (.slice sa ss.length sc) ∧ v.cell? ⟨n + 1, 0, none⟩ = some (.slice ma ms.length mc) ∧ v.cell? ⟨n + 1, 1, none⟩ = some (.slice ta ts.length tc)) ∧ RdL v (.slice va L1.length vc) A ∧ v.cell? ⟨g, 0, none⟩ = some (.slice va L1.length vc)) ∧ RdL v (.slice vb L2.length vd) B ∧ v.cell? ⟨g', 0, none⟩ = some (.slice vb L2.length vd)) ∧ v.cell? ⟨gt8, 0, none⟩ = some (uv h8.1) ∧ v.cell? ⟨gt8, 1, none⟩ = some (.int .u64 0)) ∧ v.cell? ⟨gt9, 0, none⟩ = some (uv h9.1) ∧ v.cell? ⟨gt9, 1, none⟩ = some (.int .u64 0)) := hid fun v' k => ⟨Stays.to HQ9.out hto v' k, cell_of (k.heap_some hgtF s1) 0, cell_of (k.heap_some hgtF s1) 1⟩
      clear s1 hto hgt hgtF
      have HB13 := hid (bind13 HH1.out HH2.out HR1.out HR2.out HLEN.out HH8.out HH9.out)
      have HX9 := hid (HX4.out.kp HT10.out.kp HF4.out)
      obtain ⟨⟨⟨⟨⟨d0, d1, d2, d3⟩, -, -⟩, -, -⟩, e0, e1⟩, e2, e3⟩ := HQ10.out v9 (Kp.refl _ _)
      have HSAME := hid (same13_any (w := v9) (HL.out.ext HX9.out) (HS.out.ext HX9.out) (HM.out.ext HX9.out) (HT.out.ext HX9.out) HR1.out.l16 HR2.out.l16 (fun l hl => by have := HR1.out.l20 l hl; omega) (fun l hl => by have := HR2.out.l20 l hl; omega) (by have := HR1.out.sl; omega) (by have := HR2.out.sl; omega))
      have HFG : Hid (∀ k, Fz9 k → w.heap.size ≤ k) := hid fun k hk => by
        rcases HT10.out.new k hk with h | h
        · exact HF4.out k h
        · exact Nat.le_trans HX4.out.size h
      go_wp2_with fail
      refine HSAME.out.mono ?_
      rintro e w10 ⟨rfl, hx10⟩
      have HX10 := hid (HX9.out.trans hx10)
      have HXX10 := hid hx10
      obtain ⟨⟨-, e0', e1'⟩, e2', e3'⟩ := HQ10.out w10 (Kp.of_ext hx10)
      clear d0 d1 d2 d3 e0 e1 e2 e3 HSAME hx10
      obtain ⟨h9a, h9b⟩ := h9
      obtain ⟨h8a, h8b⟩ := h8
      simp only at e0' e2'
      by_cases hsm : ls = ms ∧ ss = ts
      · have hh := HB13.out.same hsm
        simp only at hh
        rw [decide_eq_true hsm]
        subst hh
        clear hsm
        go_wp2_with fail
        go_ret
        exact ⟨rfl, HX10.out⟩
      · rw [decide_eq_false hsm]
        have HNS := hid hsm
        clear hsm
        have HCOL := hid (Collision_any (HT10.out.at'.ext HXX10.out) (by have := HB13.out.few; simp only at this ⊢; omega) (fun q hq => by have := HB13.out.sml q hq; omega))
        go_wp2_with fail
        refine HCOL.out.mono ?_
        rintro e w11 hcol
        have hxw : Ext w10 w11 := by
          rcases hcol with ⟨_, _, _, _, _, _, _, _, _, _, _, _, _, _, h⟩ | ⟨_, _, h⟩ <;> exact h
        have HX11 := hid (HX10.out.trans hxw)
        have f0 := hxw.cell_some e0'
        have f1 := hxw.cell_some e1'
        have f2 := hxw.cell_some e2'
        have f3 := hxw.cell_some e3'
        have F0 : ∀ o o' : Obj, ((w11.alloc o).alloc o').cell? ⟨gt8, 0, none⟩ = some (uv h8a) := fun o o' => (((Ext.refl w11).alloc o).alloc o').cell_some f0
        have F1 : ∀ o o' : Obj, ((w11.alloc o).alloc o').cell? ⟨gt8, 1, none⟩ = some (.int .u64 0) := fun o o' => (((Ext.refl w11).alloc o).alloc o').cell_some f1
        have F2 : ∀ o o' : Obj, ((w11.alloc o).alloc o').cell? ⟨gt9, 0, none⟩ = some (uv h9a) := fun o o' => (((Ext.refl w11).alloc o).alloc o').cell_some f2
        have F3 : ∀ o o' : Obj, ((w11.alloc o).alloc o').cell? ⟨gt9, 1, none⟩ = some (.int .u64 0) := fun o o' => (((Ext.refl w11).alloc o).alloc o').cell_some f3
        clear e0' e1' e2' e3' HCOL f0 f1 f2 f3
        by_cases hh : h8a = h9a
        · subst hh
          rcases hcol with ⟨i, j, p, q, va', vb', hij, hp, hq, hpq, -, rfl, hrp, hrq, -⟩ | ⟨hno, -, -⟩
          · obtain ⟨pl, pe, pans⟩ := p
            obtain ⟨ql, qe, qans⟩ := q
            simp only at hpq hrp hrq
            subst hpq
            have hdf := HB13.out.diff i j _ _ hij hp hq
            simp only at hdf
            have hs1 := HB13.out.sml _ (List.mem_of_getElem? hp)
            have hs2 := HB13.out.sml _ (List.mem_of_getElem? hq)
            simp only at hs1 hs2
            have HDF := hid hdf
            have HS1 := hid hs1
            have HS2 := hid hs2
            have HRP := hid hrp
            have HRQ := hid hrq
            obtain ⟨pa, pc, rfl, -⟩ := hrp
            obtain ⟨qa', qc', rfl, -⟩ := hrq
            clear hdf hs1 hs2 hij hp hq hxw
            have hlb := u_eqC pl ql
            cases hl : pl == ql with
            | false =>
              have hd : ((pl.toNat : Int) != (ql.toNat : Int)) = true := by rw [hl] at hlb; simp [bne, hlb]
              clear hl hlb
              go_wp2_with fail
              go_ret
              exact ⟨rfl, ((HX11.out.alloc _).alloc _)⟩
            | true =>
              have hd : ((pl.toNat : Int) != (ql.toNat : Int)) = false := by rw [hl] at hlb; simp [bne, hlb]
              have hqe : (pe == qe) = false := by
                rw [beq_eq_false_iff_ne]
                intro h
                exact HDF.out ⟨by simpa using hl, h⟩
              have HQE := hid hqe
              clear hl hlb hqe
              go_wp2_with fail
              refine (Same01_any _ _ pe qe _ (HRP.out.ext (((Ext.refl _).alloc _).alloc _)) (HRQ.out.ext (((Ext.refl _).alloc _).alloc _)) (by have := HS1.out; omega) (by have := HS2.out; omega)).mono ?_
              rintro e w12 ⟨rfl, hx12⟩
              rw [HQE.out]
              have HX12 := hid (((HX11.out.alloc _).alloc _).trans hx12)
              clear hx12
              go_wp2_with fail
              go_ret
              exact ⟨rfl, HX12.out⟩
          · exact absurd (HB13.out.inj hno rfl) HNS.out
        · have hne : ¬ (h8a.toNat : Int) = (h9a.toNat : Int) := fun h => hh (UInt64.toNat_inj.1 (by omega))
          have hne' : ¬ h8a.toNat = h9a.toNat := fun h => hh (UInt64.toNat_inj.1 h)
          have hne2 : ((h8a.toNat : Int) == (h9a.toNat : Int)) = false := by simpa using hne
          rcases hcol with ⟨i, j, p, q, va', vb', -, -, -, -, -, rfl, hrp, hrq, -⟩ | ⟨-, rfl, -⟩
          · obtain ⟨pa, pc, rfl, -⟩ := hrp
            obtain ⟨qa', qc', rfl, -⟩ := hrq
            clear hxw hh
            go_wp2_with fail
            go_ret
            exact ⟨rfl, ((HX11.out.alloc _).alloc _)⟩
          · clear hxw hh
            go_wp2_with fail
            go_ret
            exact ⟨rfl, ((HX11.out.alloc _).alloc _)⟩
end Go.Proofs.Ytdpgfjnpcjpdpaa
