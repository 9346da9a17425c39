/- Texts of this claim, joined: WalNewG, L51Rul, OpenR. -/
import Derived.Test.YtcikjcjfcanloaaGreatJr1
import Derived.Test.YtcikjcjfcanloaaGreatJr10
import Derived.Test.YtcikjcjfcanloaaGreatJr11
import Derived.Test.YtcikjcjfcanloaaGreatJr12
import Derived.Test.YtcikjcjfcanloaaGreatJr13
import Derived.Test.YtcikjcjfcanloaaGreatJr14
import Derived.Test.YtcikjcjfcanloaaGreatJr15
import Derived.Test.YtcikjcjfcanloaaGreatJr17
import Derived.Test.YtcikjcjfcanloaaGreatJr18
import Derived.Test.YtcikjcjfcanloaaGreatJr2
import Derived.Test.YtcikjcjfcanloaaGreatJr3
import Derived.Test.YtcikjcjfcanloaaGreatJr4
import Derived.Test.YtcikjcjfcanloaaGreatJr5
import Derived.Test.YtcikjcjfcanloaaGreatJr6
import Derived.Test.YtcikjcjfcanloaaGreatJr7
import Derived.Test.YtcikjcjfcanloaaGreatJr8
import Derived.Test.YtcikjcjfcanloaaGreatJr9
import Derived.Test.YtcikjcjfcanloaaGreatJr16
import Derived.Test.YtcikjcjfcanloaaGreatJr19
import Derived.Test.YtcikjcjfcanloaaGreatJr20
import Derived.Test.YtcikjcjfcanloaaGreatJr21
import Derived.Test.YtcikjcjfcanloaaGreatJr22
import Derived.Test.YtcikjcjfcanloaaGreatJr23
import Derived.Test.YtcikjcjfcanloaaGreatJr24
import Derived.Test.YtcikjcjfcanloaaGreatJr25
import Derived.Test.YtcikjcjfcanloaaGreatJt1
import Derived.Test.YtcikjcjfcanloaaGreatJt2
set_option linter.unusedSimpArgs false
namespace Go.Proofs.YtcikjcjfcanloaaGreat
open Go.RowKit
attribute [local irreducible] perm fAdd fMul fPow fSub fNeg fRed hashU drawOf nextState
theorem rulesW_cases (r : Rl) : rulesW r = 0 ∨ rulesW r = 1 := by unfold rulesW; split <;> simp
theorem rulesW_good {r : Rl} (h : rulesW r = 0) : goodR r := by
  unfold rulesW at h
  split at h
  · next hg => exact hg.1
  · cases h
/-- The error of New. -/
def newErr (r : Rl) (ideal : Bool) : Int := if rulesW r = 0 then (if ideal = decide (r.mode = 3) then 0 else 1) else 1
def NewG (w : World) (ob : Nat) (ideal : Bool) (r : Rl) (seed : UInt64) (e : Ending) (w' : World) : Prop :=
  (newErr r ideal = 1 ∧ e = .returned (.tuple #[.pointer none, .int .i64 1]) ∧ Ext w w') ∨
  (newErr r ideal = 0 ∧ ∃ W LB, e = .returned (.tuple #[.pointer (some ⟨W, 0, none⟩), .int .i64 0]) ∧ Ext w w' ∧ w'.heap[W]? = some (.cells (walCells ob r (fRed seed) (kSpend (fRed seed)) LB (.slice none 0 0) (.slice none 0 0)) 115 (0, 0)) ∧ w.heap.size ≤ W)
set_option maxRecDepth 100000 in
set_option maxHeartbeats 12800000 in
theorem walNewG_any {w : World} {ob : Nat} {M : Orc} {FO : Nat → Prop} (ho : OrcAt w ob M FO) (r : Rl) (hpb : r.pb ≤ 9223372036854775807) (seed : UInt64) :
    Calls Tryz.prog 27 #[.pointer (some ⟨ob, 0, none⟩), rlVal r, uv seed] w (NewG w ob M.ideal r seed) := by
  have HRU : Hid (∀ v, Calls Tryz.prog 66 #[rlVal r] v fun e w' => e = .returned (.int .i64 (rulesW r)) ∧ Ext v w') := hid fun v => txRules_any r hpb v
  have II : Hid (∀ v, Ext w v → Calls Tryz.prog 67 #[.pointer (some ⟨ob, 0, none⟩)] v fun e w' => e = .returned (.bool M.ideal) ∧ Ext v w') := hid fun v k => isIdeal_any (ho.ext k)
  have KS := hid (kSpend_any (fRed seed))
  have HRC := hid (rulesW_cases r)
  have HGD : Hid (rulesW r = 0 → goodR r) := hid rulesW_good
  have HNE : Hid (newErr r M.ideal = if rulesW r = 0 then (if M.ideal = decide (r.mode = 3) then 0 else 1) else 1) := hid rfl
  obtain ⟨E, hE⟩ : ∃ E, E = newErr r M.ideal := ⟨_, rfl⟩
  rw [← hE] at HNE
  have HEE := hid hE
  obtain ⟨C, hC⟩ : ∃ C, C = rulesW r := ⟨_, rfl⟩
  rw [← hC] at HRU HRC HGD HNE
  obtain ⟨md, hmd⟩ : ∃ md, md = r := ⟨_, rfl⟩
  have HMD := hid hmd
  generalize hid2 : M.ideal = ideal at *
  obtain ⟨mode, depth, pb, pu, pq, reward, window, finality, work⟩ := r
  simp only at HNE hpb
  clear hE hC ho hmd hpb
  unfold rlVal at HRU ⊢
  simp only at HRU ⊢
  obtain ⟨N, hN⟩ : ∃ N, N = w.heap.size := ⟨_, rfl⟩
  obtain ⟨w0, hw0⟩ : ∃ w0, w0 = w.alloc (.cells #[.int .i64 mode, .int .i64 depth, .int .i64 pb, .int .i64 pu, .int .i64 pq, uv reward, .int .i64 window, .int .i64 finality, uv work] 45) := ⟨_, rfl⟩
  have hx0 : Ext w w0 := by rw [hw0]; exact (Ext.refl w).alloc _
  have hb0 : w0.heap[N]? = some (.cells #[.int .i64 mode, .int .i64 depth, .int .i64 pb, .int .i64 pu, .int .i64 pq, uv reward, .int .i64 window, .int .i64 finality, uv work] 45 (0, 0)) := by rw [hw0, hN]; exact heap_new _ _
  have HB := hid hb0
  have HX0 := hid hx0
  have HW := hid hw0
  have HC : Hid (∀ u, Ext w0 u → (u.cell? ⟨N, 0, none⟩ = some (.int .i64 mode) ∧ u.cell? ⟨N, 1, none⟩ = some (.int .i64 depth) ∧ u.cell? ⟨N, 2, none⟩ = some (.int .i64 pb) ∧ u.cell? ⟨N, 3, none⟩ = some (.int .i64 pu) ∧ u.cell? ⟨N, 4, none⟩ = some (.int .i64 pq) ∧ u.cell? ⟨N, 5, none⟩ = some (uv reward) ∧ u.cell? ⟨N, 6, none⟩ = some (.int .i64 window) ∧ u.cell? ⟨N, 7, none⟩ = some (.int .i64 finality) ∧ u.cell? ⟨N, 8, none⟩ = some (uv work)) ∧ Ext w0 u) := hid fun u k => ⟨nine_cells (k.heap_some HB.out), k⟩
  have hsm : ((seed.toNat : Int)).tmod 18446744069414584321 = ((fRed seed).toNat : Int) := by rw [Int.tmod_eq_emod_of_nonneg (Int.natCast_nonneg _), fRed_toNat]; rfl
  have HSM := hid hsm
  obtain ⟨s', hs'⟩ : ∃ s', s' = fRed seed := ⟨_, rfl⟩
  rw [← hs'] at HSM KS
  have HSPR : Hid (s' = fRed seed) := hid hs'
  clear hw0 hx0 hb0 hsm hs'
  obtain ⟨⟨c0, c1, c2, c3, c4, c5, c6, c7, c8⟩, -⟩ := HC.out w0 (Ext.refl w0)
  go_enter Tryz.func27, Tryz.ntmps27
  go_upto_region 1 with fail
  rw [← HW.out, ← hN]
  clear hN HW
  go_wp2_with fail
  refine (HRU.out _).mono ?_
  rintro e w1 ⟨rfl, hx⟩
  have X1 := hid hx
  clear hx c0 c1 c2 c3 c4 c5 c6 c7 c8
  by_cases hz : C = 0
  case neg =>
    obtain rfl : C = 1 := by rcases HRC.out with h | h; exact absurd h hz; exact h
    have HE1 : Hid (newErr ⟨mode, depth, pb, pu, pq, reward, window, finality, work⟩ ideal = 1) := hid (by rw [← HEE.out, HNE.out]; rfl)
    clear hz
    go_wp2_with fail
    go_ret2
    exact .inl ⟨HE1.out, rfl, HX0.out.trans X1.out⟩
  subst hz
  have HE0 := HNE.out
  rw [if_pos rfl] at HE0
  have hgd := HGD.out rfl
  have hd1 : 1 ≤ depth := hgd.2.2.1
  have hd12 : depth ≤ 12 := hgd.2.2.2.1
  obtain ⟨d, rfl⟩ : ∃ d : Nat, depth = (d : Int) := ⟨depth.toNat, by omega⟩
  have TN := hid (treeNew_any d (by omega) (by omega))
  have HGG := hid hgd
  clear hgd hd1 hd12 HGD HNE
  have hmB : ∃ m3, decide (mode = 3) = m3 := ⟨_, rfl⟩
  obtain ⟨m3, hm3⟩ := hmB
  rw [hm3] at HE0
  have hm3b : (mode == 3) = m3 := by rw [← hm3]; by_cases h : mode = 3 <;> simp [h]
  have HE2 := hid HE0
  clear HE0
  go_wp2_with fail
  refine wp_region_T (fun u => (u.cell? ⟨N, 0, none⟩ = some (.int .i64 mode) ∧ u.cell? ⟨N, 1, none⟩ = some (.int .i64 (d : Int)) ∧ u.cell? ⟨N, 2, none⟩ = some (.int .i64 pb) ∧ u.cell? ⟨N, 3, none⟩ = some (.int .i64 pu) ∧ u.cell? ⟨N, 4, none⟩ = some (.int .i64 pq) ∧ u.cell? ⟨N, 5, none⟩ = some (uv reward) ∧ u.cell? ⟨N, 6, none⟩ = some (.int .i64 window) ∧ u.cell? ⟨N, 7, none⟩ = some (.int .i64 finality) ∧ u.cell? ⟨N, 8, none⟩ = some (uv work)) ∧ Ext w0 u) 5 [(0, true), (2, true), (3, true), (4, true), (1, false), (5, false)] (by kernel_rfl) (by kernel_rfl) (by intro c a d v w h; cases d <;> exact h) ?_
  intro ops hops
  have HSS := HC.out _ (X1.out.trans (Ext.refl w1).drew)
  iterate 4
    refine wpT_take (v := ?_) (by rw [hops, List.getElem?_toArray]; rfl) (by first | rfl | (rw [hops]; rfl)) ?_ HSS ?_
    rotate_left
    · intro v h; go_simp; with_reducible rfl
    simp only [Act.put, List.getElem_toArray, List.getElem_cons_zero, List.getElem_cons_succ, List.setIfInBounds_toArray, List.set_cons_zero, List.set_cons_succ]
  refine wpT_step (by rw [hops, List.getElem?_toArray]; rfl) (by first | rfl | (rw [hops]; rfl)) ?_
  intro K hK
  go_wp2_with fail
  refine (II.out _ (HX0.out.trans HSS.2)).mono ?_
  rintro e w2 ⟨rfl, hx⟩
  have X2 := hid (HSS.2.trans hx)
  clear hx HSS II
  refine hK _ _ ⟨fun _ => HC.out _ X2.out, ?_⟩
  clear hK K
  obtain ⟨⟨c0, c1, c2, c3, c4, c5, c6, c7, c8⟩, -⟩ := HC.out w2 X2.out
  cases ideal with
  | true =>
    cases m3 with
    | true =>
      refine wpT_step (by rw [hops, List.getElem?_toArray]; rfl) (by first | rfl | (rw [hops]; rfl)) ?_
      intro K hK
      go_wp2_with fail
      try (with_reducible refine ⟨fun h => absurd h (by decide), ?_⟩)
      try rw [wpT_nil]
      try clear hops ops
      go_wp2_with fail
      refine (TN.out _).mono ?_
      rintro e w3 ⟨LB, FT, rfl, hx, ht, hf⟩
      have X3 := hid (X2.out.trans hx)
      clear hx ht hf TN c0 c1 c2 c3 c4 c5 c6 c7 c8
      have hsm := HSM.out
      go_wp2_with fail
      clear hsm
      refine wp_region_T (fun u => (u.cell? ⟨N, 0, none⟩ = some (.int .i64 mode) ∧ u.cell? ⟨N, 1, none⟩ = some (.int .i64 (d : Int)) ∧ u.cell? ⟨N, 2, none⟩ = some (.int .i64 pb) ∧ u.cell? ⟨N, 3, none⟩ = some (.int .i64 pu) ∧ u.cell? ⟨N, 4, none⟩ = some (.int .i64 pq) ∧ u.cell? ⟨N, 5, none⟩ = some (uv reward) ∧ u.cell? ⟨N, 6, none⟩ = some (.int .i64 window) ∧ u.cell? ⟨N, 7, none⟩ = some (.int .i64 finality) ∧ u.cell? ⟨N, 8, none⟩ = some (uv work)) ∧ Ext w0 u) 6 [(0, true), (1, true), (2, true), (3, true), (5, true), (4, false), (6, false), (7, false), (8, false), (9, false)] (by kernel_rfl) (by kernel_rfl) (by intro c a d v w h; cases d <;> exact h) ?_
      intro ops hops
      have HSS := HC.out _ (X3.out.trans (Ext.refl w3).drew)
      have HXD : Ext w3 w3.drew := (Ext.refl w3).drew
      iterate 5
        refine wpT_take (v := ?_) (by rw [hops, List.getElem?_toArray]; rfl) (by first | rfl | (rw [hops]; rfl)) ?_ HSS ?_
        rotate_left
        · intro v h; go_simp; with_reducible rfl
        simp only [Act.put, List.getElem_toArray, List.getElem_cons_zero, List.getElem_cons_succ, List.setIfInBounds_toArray, List.set_cons_zero, List.set_cons_succ]
      refine wpT_step (by rw [hops, List.getElem?_toArray]; rfl) (by first | rfl | (rw [hops]; rfl)) ?_
      intro K hK
      go_wp2_with fail
      refine (KS.out _).mono ?_
      rintro e w4 ⟨rfl, hx⟩
      have X4 := hid (HXD.trans hx)
      clear hx HSS KS HXD
      refine hK _ _ ⟨fun _ => HC.out _ (X3.out.trans X4.out), ?_⟩
      clear hK K
      refine wpT_step (by rw [hops, List.getElem?_toArray]; rfl) (by first | rfl | (rw [hops]; rfl)) ?_
      intro K hK
      go_wp2_with fail
      try (with_reducible refine ⟨fun h => absurd h (by decide), ?_⟩)
      try rw [← hops]
      refine wpT_step (by rw [hops, List.getElem?_toArray]; rfl) (by first | rfl | (rw [hops]; rfl)) ?_
      intro K hK
      go_wp2_with fail
      try (with_reducible refine ⟨fun h => absurd h (by decide), ?_⟩)
      try rw [← hops]
      refine wpT_step (by rw [hops, List.getElem?_toArray]; rfl) (by first | rfl | (rw [hops]; rfl)) ?_
      intro K hK
      go_wp2_with fail
      try (with_reducible refine ⟨fun h => absurd h (by decide), ?_⟩)
      try rw [← hops]
      refine wpT_step (by rw [hops, List.getElem?_toArray]; rfl) (by first | rfl | (rw [hops]; rfl)) ?_
      intro K hK
      go_wp2_with fail
      try (with_reducible refine ⟨fun h => absurd h (by decide), ?_⟩)
      try rw [wpT_nil]
      try clear hops ops
      go_wp2_with fail
      have hnew := heap_new w4 (.cells #[.pointer (some ⟨ob, 0, none⟩), .int .i64 mode, .int .i64 (d : Int), .int .i64 pb, .int .i64 pu, .int .i64 pq, uv reward, .int .i64 window, .int .i64 finality, uv work, uv s', uv (kSpend s'), .pointer (some ⟨LB, 0, none⟩), .slice none 0 0, .slice none 0 0] 115)
      have hx4 := X3.out.trans X4.out
      have hxw := HX0.out.trans (hx4.alloc (.cells #[.pointer (some ⟨ob, 0, none⟩), .int .i64 mode, .int .i64 (d : Int), .int .i64 pb, .int .i64 pu, .int .i64 pq, uv reward, .int .i64 window, .int .i64 finality, uv work, uv s', uv (kSpend s'), .pointer (some ⟨LB, 0, none⟩), .slice none 0 0, .slice none 0 0] 115))
      have HSZ := hid (HX0.out.trans hx4).size
      have HE1 : Hid (newErr ⟨mode, d, pb, pu, pq, reward, window, finality, work⟩ true = 0) := hid (by rw [← HEE.out, HE2.out]; rfl)
      have HF : Hid (NewG w ob true ⟨mode, d, pb, pu, pq, reward, window, finality, work⟩ seed (.returned (.tuple #[.pointer (some ⟨w4.heap.size, 0, none⟩), .int .i64 0])) (w4.alloc (.cells #[.pointer (some ⟨ob, 0, none⟩), .int .i64 mode, .int .i64 (d : Int), .int .i64 pb, .int .i64 pu, .int .i64 pq, uv reward, .int .i64 window, .int .i64 finality, uv work, uv s', uv (kSpend s'), .pointer (some ⟨LB, 0, none⟩), .slice none 0 0, .slice none 0 0] 115))) := hid (.inr ⟨HE1.out, w4.heap.size, LB, rfl, hxw, by rw [← HSPR.out]; exact hnew, HSZ.out⟩)
      exact bodyPost_ret (v := .tuple #[.pointer (some ⟨w4.heap.size, 0, none⟩), .int .i64 0]) (by simp [results, Tryz.results27, go_sem]) rfl HF.out
    | false =>
      refine wpT_step (by rw [hops, List.getElem?_toArray]; rfl) (by first | rfl | (rw [hops]; rfl)) ?_
      intro K hK
      go_wp2_with fail
      try (with_reducible refine ⟨fun h => absurd h (by decide), ?_⟩)
      try rw [wpT_nil]
      try clear hops ops
      have HE1 : Hid (newErr ⟨mode, d, pb, pu, pq, reward, window, finality, work⟩ true = 1) := hid (by rw [← HEE.out, HE2.out]; rfl)
      go_wp2_with fail
      go_ret2
      exact .inl ⟨HE1.out, rfl, HX0.out.trans X2.out⟩
  | false =>
    cases m3 with
    | true =>
      refine wpT_step (by rw [hops, List.getElem?_toArray]; rfl) (by first | rfl | (rw [hops]; rfl)) ?_
      intro K hK
      go_wp2_with fail
      try (with_reducible refine ⟨fun h => absurd h (by decide), ?_⟩)
      try rw [wpT_nil]
      try clear hops ops
      have HE1 : Hid (newErr ⟨mode, d, pb, pu, pq, reward, window, finality, work⟩ false = 1) := hid (by rw [← HEE.out, HE2.out]; rfl)
      go_wp2_with fail
      go_ret2
      exact .inl ⟨HE1.out, rfl, HX0.out.trans X2.out⟩
    | false =>
      refine wpT_step (by rw [hops, List.getElem?_toArray]; rfl) (by first | rfl | (rw [hops]; rfl)) ?_
      intro K hK
      go_wp2_with fail
      try (with_reducible refine ⟨fun h => absurd h (by decide), ?_⟩)
      try rw [wpT_nil]
      try clear hops ops
      go_wp2_with fail
      refine (TN.out _).mono ?_
      rintro e w3 ⟨LB, FT, rfl, hx, ht, hf⟩
      have X3 := hid (X2.out.trans hx)
      clear hx ht hf TN c0 c1 c2 c3 c4 c5 c6 c7 c8
      have hsm := HSM.out
      go_wp2_with fail
      clear hsm
      refine wp_region_T (fun u => (u.cell? ⟨N, 0, none⟩ = some (.int .i64 mode) ∧ u.cell? ⟨N, 1, none⟩ = some (.int .i64 (d : Int)) ∧ u.cell? ⟨N, 2, none⟩ = some (.int .i64 pb) ∧ u.cell? ⟨N, 3, none⟩ = some (.int .i64 pu) ∧ u.cell? ⟨N, 4, none⟩ = some (.int .i64 pq) ∧ u.cell? ⟨N, 5, none⟩ = some (uv reward) ∧ u.cell? ⟨N, 6, none⟩ = some (.int .i64 window) ∧ u.cell? ⟨N, 7, none⟩ = some (.int .i64 finality) ∧ u.cell? ⟨N, 8, none⟩ = some (uv work)) ∧ Ext w0 u) 6 [(0, true), (1, true), (2, true), (3, true), (5, true), (4, false), (6, false), (7, false), (8, false), (9, false)] (by kernel_rfl) (by kernel_rfl) (by intro c a d v w h; cases d <;> exact h) ?_
      intro ops hops
      have HSS := HC.out _ (X3.out.trans (Ext.refl w3).drew)
      have HXD : Ext w3 w3.drew := (Ext.refl w3).drew
      iterate 5
        refine wpT_take (v := ?_) (by rw [hops, List.getElem?_toArray]; rfl) (by first | rfl | (rw [hops]; rfl)) ?_ HSS ?_
        rotate_left
        · intro v h; go_simp; with_reducible rfl
        simp only [Act.put, List.getElem_toArray, List.getElem_cons_zero, List.getElem_cons_succ, List.setIfInBounds_toArray, List.set_cons_zero, List.set_cons_succ]
      refine wpT_step (by rw [hops, List.getElem?_toArray]; rfl) (by first | rfl | (rw [hops]; rfl)) ?_
      intro K hK
      go_wp2_with fail
      refine (KS.out _).mono ?_
      rintro e w4 ⟨rfl, hx⟩
      have X4 := hid (HXD.trans hx)
      clear hx HSS KS HXD
      refine hK _ _ ⟨fun _ => HC.out _ (X3.out.trans X4.out), ?_⟩
      clear hK K
      refine wpT_step (by rw [hops, List.getElem?_toArray]; rfl) (by first | rfl | (rw [hops]; rfl)) ?_
      intro K hK
      go_wp2_with fail
      try (with_reducible refine ⟨fun h => absurd h (by decide), ?_⟩)
      try rw [← hops]
      refine wpT_step (by rw [hops, List.getElem?_toArray]; rfl) (by first | rfl | (rw [hops]; rfl)) ?_
      intro K hK
      go_wp2_with fail
      try (with_reducible refine ⟨fun h => absurd h (by decide), ?_⟩)
      try rw [← hops]
      refine wpT_step (by rw [hops, List.getElem?_toArray]; rfl) (by first | rfl | (rw [hops]; rfl)) ?_
      intro K hK
      go_wp2_with fail
      try (with_reducible refine ⟨fun h => absurd h (by decide), ?_⟩)
      try rw [← hops]
      refine wpT_step (by rw [hops, List.getElem?_toArray]; rfl) (by first | rfl | (rw [hops]; rfl)) ?_
      intro K hK
      go_wp2_with fail
      try (with_reducible refine ⟨fun h => absurd h (by decide), ?_⟩)
      try rw [wpT_nil]
      try clear hops ops
      go_wp2_with fail
      have hnew := heap_new w4 (.cells #[.pointer (some ⟨ob, 0, none⟩), .int .i64 mode, .int .i64 (d : Int), .int .i64 pb, .int .i64 pu, .int .i64 pq, uv reward, .int .i64 window, .int .i64 finality, uv work, uv s', uv (kSpend s'), .pointer (some ⟨LB, 0, none⟩), .slice none 0 0, .slice none 0 0] 115)
      have hx4 := X3.out.trans X4.out
      have hxw := HX0.out.trans (hx4.alloc (.cells #[.pointer (some ⟨ob, 0, none⟩), .int .i64 mode, .int .i64 (d : Int), .int .i64 pb, .int .i64 pu, .int .i64 pq, uv reward, .int .i64 window, .int .i64 finality, uv work, uv s', uv (kSpend s'), .pointer (some ⟨LB, 0, none⟩), .slice none 0 0, .slice none 0 0] 115))
      have HSZ := hid (HX0.out.trans hx4).size
      have HE1 : Hid (newErr ⟨mode, d, pb, pu, pq, reward, window, finality, work⟩ false = 0) := hid (by rw [← HEE.out, HE2.out]; rfl)
      have HF : Hid (NewG w ob false ⟨mode, d, pb, pu, pq, reward, window, finality, work⟩ seed (.returned (.tuple #[.pointer (some ⟨w4.heap.size, 0, none⟩), .int .i64 0])) (w4.alloc (.cells #[.pointer (some ⟨ob, 0, none⟩), .int .i64 mode, .int .i64 (d : Int), .int .i64 pb, .int .i64 pu, .int .i64 pq, uv reward, .int .i64 window, .int .i64 finality, uv work, uv s', uv (kSpend s'), .pointer (some ⟨LB, 0, none⟩), .slice none 0 0, .slice none 0 0] 115))) := hid (.inr ⟨HE1.out, w4.heap.size, LB, rfl, hxw, by rw [← HSPR.out]; exact hnew, HSZ.out⟩)
      exact bodyPost_ret (v := .tuple #[.pointer (some ⟨w4.heap.size, 0, none⟩), .int .i64 0]) (by simp [results, Tryz.results27, go_sem]) rfl HF.out
theorem heightZ {w : World} {W ob LB : Nat} {r : Rl} {s k : UInt64} (h : w.heap[W]? = some (.cells (walCells ob r s k LB (.slice none 0 0) (.slice none 0 0)) 115 (0, 0))) :
    Calls Tryz.prog 29 #[.pointer (some ⟨W, 0, none⟩)] w fun e w' => e = .returned (.int .i64 0) ∧ Ext w w' := by
  have e6 : w.cell? ⟨W, 14, none⟩ = some (.slice none 0 0) := cell_of h 14
  clear h
  go_enter Tryz.func29, Tryz.ntmps29
  go_wp2_with fail
  go_ret
  exact ⟨rfl, Ext.refl w⟩
end Go.Proofs.YtcikjcjfcanloaaGreat
namespace Go.Proofs.YtcikjcjfcanloaaGreat
open Go.RowKit
attribute [local irreducible] perm fAdd fMul fPow fSub fNeg fRed hashU drawOf nextState
theorem newErr_one {r : Rl} {i : Bool} (h : newErr r i = 1) : rulesW r = 1 ∨ (rulesW r = 0 ∧ i ≠ decide (r.mode = 3)) := by
  rcases rulesW_cases r with h0 | h1
  · right
    refine ⟨h0, fun e => ?_⟩
    unfold newErr at h
    rw [if_pos h0, if_pos e] at h
    cases h
  · exact .inl h1
theorem newErr_zero {r : Rl} {i : Bool} (h : newErr r i = 0) : rulesW r = 0 ∧ i = decide (r.mode = 3) := by
  unfold newErr at h
  split at h
  · next h0 =>
    split at h
    · next e => exact ⟨h0, e⟩
    · cases h
  · cases h
set_option maxRecDepth 100000 in
set_option maxHeartbeats 12800000 in
theorem restoreG_any {w : World} {ob : Nat} {M : Orc} {FO : Nat → Prop} (ho : OrcAt w ob M FO) (r : Rl) (hpb : r.pb ≤ 9223372036854775807) (seed : UInt64) :
    Calls Tryz.prog 44 #[.pointer (some ⟨ob, 0, none⟩), rlVal r, uv seed, .slice none 0 0] w (NewG w ob M.ideal r seed) := by
  have NW : Hid (∀ u, Ext w u → Calls Tryz.prog 27 #[.pointer (some ⟨ob, 0, none⟩), rlVal r, uv seed] u (NewG u ob M.ideal r seed)) := hid fun u k => walNewG_any (ho.ext k) r hpb seed
  obtain ⟨i, hi⟩ : ∃ i, i = M.ideal := ⟨_, rfl⟩
  rw [← hi] at NW ⊢
  clear hi ho hpb
  have HWK : Hid (∀ u e w', Ext w u → NewG u ob i r seed e w' → NewG w ob i r seed e w') := hid fun u e w' k h => by
    rcases h with ⟨h1, h2, h3⟩ | ⟨h1, W, LB, h2, h3, h4, h5⟩
    · exact .inl ⟨h1, h2, k.trans h3⟩
    · exact .inr ⟨h1, W, LB, h2, k.trans h3, h4, Nat.le_trans k.size h5⟩
  obtain ⟨mode, depth, pb, pu, pq, reward, window, finality, work⟩ := r
  unfold rlVal at NW ⊢
  simp only at NW ⊢
  obtain ⟨N, hN⟩ : ∃ N, N = w.heap.size := ⟨_, rfl⟩
  obtain ⟨w0, hw0⟩ : ∃ w0, w0 = w.alloc (.cells #[.int .i64 mode, .int .i64 depth, .int .i64 pb, .int .i64 pu, .int .i64 pq, uv reward, .int .i64 window, .int .i64 finality, uv work] 45) := ⟨_, rfl⟩
  have hx0 : Ext w w0 := by rw [hw0]; exact (Ext.refl w).alloc _
  have hb0 : w0.heap[N]? = some (.cells #[.int .i64 mode, .int .i64 depth, .int .i64 pb, .int .i64 pu, .int .i64 pq, uv reward, .int .i64 window, .int .i64 finality, uv work] 45 (0, 0)) := by rw [hw0, hN]; exact heap_new _ _
  have HX0 := hid hx0
  have HW := hid hw0
  obtain ⟨c0, c1, c2, c3, c4, c5, c6, c7, c8⟩ := nine_cells hb0
  clear hw0 hx0 hb0
  go_enter Tryz.func44, Tryz.ntmps44
  go_upto_region 1 with fail
  rw [← HW.out, ← hN]
  clear hN HW
  go_wp2_with fail
  refine (NW.out _ HX0.out).mono ?_
  rintro e w1 hng
  have HNG := hid (HWK.out _ _ _ HX0.out hng)
  rcases hng with ⟨-, rfl, hx⟩ | ⟨-, W, LB, rfl, hx, -, -⟩
  · clear hx NW c0 c1 c2 c3 c4 c5 c6 c7 c8
    go_wp2_with fail
    go_ret2
    exact HNG.out
  · clear hx NW c0 c1 c2 c3 c4 c5 c6 c7 c8
    go_wp2_with fail
    go_loopw [27] (fun iv wr => iv = .int .i64 0 ∧ wr = w1) (fun _ _ => 0)
    case atStart => exact ⟨rfl, rfl⟩
    case round =>
      obtain ⟨rfl, rfl⟩ := hrel
      go_wp2_with fail
      go_ret2
      exact HNG.out
set_option maxRecDepth 100000 in
set_option maxHeartbeats 25600000 in
theorem recoveryRules_any (r : Rl) (hpb : r.pb ≤ 9223372036854775807) (seed : UInt64) (ideal : Bool) (w : World) :
    Calls Tryz.prog 11 #[rlVal r, uv seed, .bool ideal] w fun e w' => e = .returned (.bool true) ∧ Ext w w' := by
  have AW := hid awake51_any
  have RR := hid (rRules_any r hpb)
  have NW : Hid (∀ u ob M FO, OrcAt u ob M FO → Calls Tryz.prog 44 #[.pointer (some ⟨ob, 0, none⟩), rlVal r, uv seed, .slice none 0 0] u (NewG u ob M.ideal r seed)) := hid fun u ob M FO ho => restoreG_any ho r hpb seed
  have HN1 : Hid (∀ i, newErr r i = 1 → rulesW r = 1 ∨ (rulesW r = 0 ∧ i ≠ decide (r.mode = 3))) := hid fun i => newErr_one
  have HN0 : Hid (∀ i, newErr r i = 0 → rulesW r = 0 ∧ i = decide (r.mode = 3)) := hid fun i => newErr_zero
  obtain ⟨C, hC⟩ : ∃ C, C = rulesW r := ⟨_, rfl⟩
  rw [← hC] at RR HN1 HN0
  clear hC hpb
  obtain ⟨mode, depth, pb, pu, pq, reward, window, finality, work⟩ := r
  simp only at HN1 HN0
  unfold rlVal at RR NW ⊢
  simp only at RR NW ⊢
  obtain ⟨N, hN⟩ : ∃ N, N = w.heap.size := ⟨_, rfl⟩
  obtain ⟨w0, hw0⟩ : ∃ w0, w0 = w.alloc (.cells #[.int .i64 mode, .int .i64 depth, .int .i64 pb, .int .i64 pu, .int .i64 pq, uv reward, .int .i64 window, .int .i64 finality, uv work] 45) := ⟨_, rfl⟩
  have hx0 : Ext w w0 := by rw [hw0]; exact (Ext.refl w).alloc _
  have hb0 : w0.heap[N]? = some (.cells #[.int .i64 mode, .int .i64 depth, .int .i64 pb, .int .i64 pu, .int .i64 pq, uv reward, .int .i64 window, .int .i64 finality, uv work] 45 (0, 0)) := by rw [hw0, hN]; exact heap_new _ _
  have HX0 := hid hx0
  have HW := hid hw0
  have HB := hid hb0
  clear hw0 hx0 hb0
  go_enter Tryz.func11, Tryz.ntmps11
  go_upto_region 1 with fail
  rw [← HW.out, ← hN]
  clear hN HW
  go_wp2_with fail
  refine (AW.out _).mono ?_
  rintro e w1 ⟨rfl, hx⟩
  have X1 := hid hx
  clear hx AW
  cases ideal with
  | false =>
    go_wp2_with fail
    refine (Real_any _).mono ?_
    rintro e w2 ⟨ob, FO, rfl, ho, hx, -⟩
    have X2 := hid (X1.out.trans hx)
    have HO := hid ho
    clear ho hx
    obtain ⟨w3, hw3⟩ : ∃ w3, w3 = w2 := ⟨_, rfl⟩
    rw [← hw3] at X2 HO ⊢
    clear hw3
    have X3 := X2
    have HO3 := HO
    have NWC := hid (NW.out w3 ob _ _ HO3.out)
    change Hid (Calls Tryz.prog 44 #[.pointer (some ⟨ob, 0, none⟩), .agg #[.int .i64 mode, .int .i64 depth, .int .i64 pb, .int .i64 pu, .int .i64 pq, uv reward, .int .i64 window, .int .i64 finality, uv work], uv seed, .slice none 0 0] w3 (NewG w3 ob false ⟨mode, depth, pb, pu, pq, reward, window, finality, work⟩ seed)) at NWC
    obtain ⟨c0, c1, c2, c3, c4, c5, c6, c7, c8⟩ := nine_cells (X3.out.heap_some HB.out)
    clear NW
    go_wp2_with fail
    refine NWC.out.mono ?_
    rintro e w4 hng
    rcases hng with ⟨hne, rfl, hx⟩ | ⟨hne, W, LB, rfl, hx, hwb, -⟩
    · have hcs := HN1.out _ hne
      have X4 := hid (X3.out.trans hx)
      clear hx hne NWC c0 c1 c2 c3 c4 c5 c6 c7 c8 HN0 HN1
      obtain ⟨c0, c1, c2, c3, c4, c5, c6, c7, c8⟩ := nine_cells (X4.out.heap_some HB.out)
      go_wp2_with fail
      refine (RR.out _).mono ?_
      rintro e w5 ⟨rfl, hx⟩
      have X5 := hid (X4.out.trans hx)
      clear hx RR c0 c1 c2 c3 c4 c5 c6 c7 c8
      obtain ⟨c0, c1, c2, c3, c4, c5, c6, c7, c8⟩ := nine_cells (X5.out.heap_some HB.out)
      rcases hcs with rfl | ⟨rfl, hm⟩
      · go_wp2_with fail
        go_ret
        exact ⟨rfl, HX0.out.trans X5.out⟩
      · have hma : decide (mode = 3) = true := by simpa using hm.symm
        have hmb : (mode == 3) = true := by rw [← hma]; by_cases h : mode = 3 <;> simp [h]
        clear hm
        go_wp2_with fail
        go_ret
        exact ⟨rfl, HX0.out.trans X5.out⟩
    · obtain ⟨rfl, hm⟩ := HN0.out _ hne
      have X4 := hid (X3.out.trans hx)
      have HWB := hid hwb
      have hma : decide (mode = 3) = false := hm.symm
      have hmb : (mode == 3) = false := by rw [← hma]; by_cases h : mode = 3 <;> simp [h]
      clear hx hne hwb NWC c0 c1 c2 c3 c4 c5 c6 c7 c8 HN0 HN1 hm
      obtain ⟨c0, c1, c2, c3, c4, c5, c6, c7, c8⟩ := nine_cells (X4.out.heap_some HB.out)
      go_wp2_with fail
      refine (RR.out _).mono ?_
      rintro e w5 ⟨rfl, hx⟩
      have X5 := hid (X4.out.trans hx)
      have HW5 := hid (hx.heap_some HWB.out)
      clear hx RR c0 c1 c2 c3 c4 c5 c6 c7 c8
      obtain ⟨c0, c1, c2, c3, c4, c5, c6, c7, c8⟩ := nine_cells (X5.out.heap_some HB.out)
      go_wp2_with fail
      refine (heightZ HW5.out).mono ?_
      rintro e w6 ⟨rfl, hx⟩
      have X6 := hid (X5.out.trans hx)
      have HW6 := hid (hx.heap_some HW5.out)
      clear hx c0 c1 c2 c3 c4 c5 c6 c7 c8 hma hmb
      go_wp2_with fail
      go_ret
      exact ⟨rfl, HX0.out.trans X6.out⟩
  | true =>
    go_wp2_with fail
    refine (Real_any _).mono ?_
    rintro e w2 ⟨ob, FO, rfl, ho, hx, -⟩
    have X2 := hid (X1.out.trans hx)
    have HO := hid ho
    clear ho hx
    go_wp2_with fail
    refine (Ideal_any seed _).mono ?_
    rintro e w3 ⟨ob3, FO3, rfl, ho, hx, -⟩
    have X3 := hid (X2.out.trans hx)
    have HO3 := hid ho
    clear ho hx HO
    have NWC := hid (NW.out w3 ob3 _ _ HO3.out)
    change Hid (Calls Tryz.prog 44 #[.pointer (some ⟨ob3, 0, none⟩), .agg #[.int .i64 mode, .int .i64 depth, .int .i64 pb, .int .i64 pu, .int .i64 pq, uv reward, .int .i64 window, .int .i64 finality, uv work], uv seed, .slice none 0 0] w3 (NewG w3 ob3 true ⟨mode, depth, pb, pu, pq, reward, window, finality, work⟩ seed)) at NWC
    obtain ⟨c0, c1, c2, c3, c4, c5, c6, c7, c8⟩ := nine_cells (X3.out.heap_some HB.out)
    clear NW
    go_wp2_with fail
    refine NWC.out.mono ?_
    rintro e w4 hng
    rcases hng with ⟨hne, rfl, hx⟩ | ⟨hne, W, LB, rfl, hx, hwb, -⟩
    · have hcs := HN1.out _ hne
      have X4 := hid (X3.out.trans hx)
      clear hx hne NWC c0 c1 c2 c3 c4 c5 c6 c7 c8 HN0 HN1
      obtain ⟨c0, c1, c2, c3, c4, c5, c6, c7, c8⟩ := nine_cells (X4.out.heap_some HB.out)
      go_wp2_with fail
      refine (RR.out _).mono ?_
      rintro e w5 ⟨rfl, hx⟩
      have X5 := hid (X4.out.trans hx)
      clear hx RR c0 c1 c2 c3 c4 c5 c6 c7 c8
      obtain ⟨c0, c1, c2, c3, c4, c5, c6, c7, c8⟩ := nine_cells (X5.out.heap_some HB.out)
      rcases hcs with rfl | ⟨rfl, hm⟩
      · go_wp2_with fail
        go_ret
        exact ⟨rfl, HX0.out.trans X5.out⟩
      · have hma : decide (mode = 3) = false := by simpa using hm.symm
        have hmb : (mode == 3) = false := by rw [← hma]; by_cases h : mode = 3 <;> simp [h]
        clear hm
        go_wp2_with fail
        go_ret
        exact ⟨rfl, HX0.out.trans X5.out⟩
    · obtain ⟨rfl, hm⟩ := HN0.out _ hne
      have X4 := hid (X3.out.trans hx)
      have HWB := hid hwb
      have hma : decide (mode = 3) = true := hm.symm
      have hmb : (mode == 3) = true := by rw [← hma]; by_cases h : mode = 3 <;> simp [h]
      clear hx hne hwb NWC c0 c1 c2 c3 c4 c5 c6 c7 c8 HN0 HN1 hm
      obtain ⟨c0, c1, c2, c3, c4, c5, c6, c7, c8⟩ := nine_cells (X4.out.heap_some HB.out)
      go_wp2_with fail
      refine (RR.out _).mono ?_
      rintro e w5 ⟨rfl, hx⟩
      have X5 := hid (X4.out.trans hx)
      have HW5 := hid (hx.heap_some HWB.out)
      clear hx RR c0 c1 c2 c3 c4 c5 c6 c7 c8
      obtain ⟨c0, c1, c2, c3, c4, c5, c6, c7, c8⟩ := nine_cells (X5.out.heap_some HB.out)
      go_wp2_with fail
      refine (heightZ HW5.out).mono ?_
      rintro e w6 ⟨rfl, hx⟩
      have X6 := hid (X5.out.trans hx)
      have HW6 := hid (hx.heap_some HW5.out)
      clear hx c0 c1 c2 c3 c4 c5 c6 c7 c8 hma hmb
      go_wp2_with fail
      go_ret
      exact ⟨rfl, HX0.out.trans X6.out⟩
end Go.Proofs.YtcikjcjfcanloaaGreat
namespace Go.Proofs.YtcikjcjfcanloaaGreat
open Go.ChangeShapes Go.WideShapes Go.ChangeAt Go.RowKit Go.Joins
theorem rules_cells9 : Tryz.prog.cellsOf 45 = 9 := by kernel_rfl
theorem params_cells3 : Tryz.prog.cellsOf 43 = 3 := by kernel_rfl
section
variable {H : Type} {enc : TypeId × Value → H} {W : World} {base : Nat} {sp : Nat → Bool} {held : Bool}
theorem open_intB {n : Nat} {v : Value} {x : DataW H × List MemPlace} (h : DataW.trod enc Tryz.prog W base sp held n 3 [v] = some x) : ∃ a : Int, v = .int .i64 a ∧ a ≤ 9223372036854775807 := by
  obtain ⟨a, e0, hd0, wa⟩ := DataW.trod_int Tryz.underlying3 h
  simp only [List.cons.injEq, and_true] at e0
  simp [Lit.wf, IntKind.min, IntKind.max, IntKind.signed, IntKind.bits] at wa
  exact ⟨a, e0, by omega⟩
set_option maxRecDepth 100000 in
theorem open_params {n : Nat} {cs : List Value} {x : DataW H × List MemPlace} (hl : cs.length = 3) (h : DataW.trod enc Tryz.prog W base sp held n 43 cs = some x) : ∃ a b c : Int, cs = [.int .i64 a, .int .i64 b, .int .i64 c] ∧ a ≤ 9223372036854775807 := by
  obtain ⟨xs, m, -, -, -, hxs, hf⟩ := DataW.trod_struct Tryz.underlying43 h
  have hxl : xs.length = 3 := hxs
  match cs, hl with
  | [c0, c1, c2], _ =>
    have h0 := fld hf 0 rfl (by omega) 3 0 1 rfl rfl int_cell1
    have h1 := fld hf 1 rfl (by omega) 3 1 1 rfl rfl int_cell1
    have h2 := fld hf 2 rfl (by omega) 3 2 1 rfl rfl int_cell1
    obtain ⟨a0, rfl, hb⟩ := open_intB (v := c0) h0
    obtain ⟨a1, rfl⟩ := open_int (v := c1) h1
    obtain ⟨a2, rfl⟩ := open_int (v := c2) h2
    exact ⟨a0, a1, a2, rfl, hb⟩
set_option maxRecDepth 100000 in
theorem open_rules {r : Reach} {v : Value} {d : DataW H} {p : List MemPlace} {b0 : Nat} (hv : Value.okWide Tryz.prog W r b0 45 v) {b' : Nat} (h : DataW.Trod enc Tryz.prog W b' sp held 45 v d p) :
    ∃ R : Rl, v = rlVal R ∧ R.pb ≤ 9223372036854775807 := by
  obtain ⟨cs, rfl, hsz⟩ := okWide_struct Tryz.underlying45 hv
  rw [rules_cells9] at hsz
  obtain ⟨fuel, hf⟩ := h
  obtain ⟨cl⟩ := cs
  obtain ⟨xs, m, -, -, -, hxs, hf⟩ := DataW.trod_struct Tryz.underlying45 hf
  have hxl : xs.length = 7 := hxs
  match cl, hsz with
  | [c0, c1, c2, c3, c4, c5, c6, c7, c8], _ =>
    have h0 := fld hf 0 rfl (by omega) 3 0 1 rfl rfl int_cell1
    have h1 := fld hf 1 rfl (by omega) 3 1 1 rfl rfl int_cell1
    have h2 := fld hf 2 rfl (by omega) 43 2 3 rfl rfl params_cells3
    have h3 := fld hf 3 rfl (by omega) 22 5 1 rfl rfl u64_cell1
    have h4 := fld hf 4 rfl (by omega) 3 6 1 rfl rfl int_cell1
    have h5 := fld hf 5 rfl (by omega) 3 7 1 rfl rfl int_cell1
    have h6 := fld hf 6 rfl (by omega) 22 8 1 rfl rfl u64_cell1
    obtain ⟨a0, rfl⟩ := open_int (v := c0) h0
    obtain ⟨a1, rfl⟩ := open_int (v := c1) h1
    obtain ⟨b0, b1, b2, e, hpb⟩ := open_params (cs := [c2, c3, c4]) rfl h2
    simp only [List.cons.injEq, and_true] at e
    obtain ⟨rfl, rfl, rfl⟩ := e
    obtain ⟨a3, rfl⟩ := open_u64 (v := c5) h3
    obtain ⟨a4, rfl⟩ := open_int (v := c6) h4
    obtain ⟨a5, rfl⟩ := open_int (v := c7) h5
    obtain ⟨a6, rfl⟩ := open_u64 (v := c8) h6
    exact ⟨⟨a0, a1, b0, b1, b2, a3, a4, a5, a6⟩, rfl, hpb⟩
set_option maxRecDepth 100000 in
theorem open_bv {r : Reach} {v : Value} {b0 : Nat} (hv : Value.okWide Tryz.prog W r b0 4 v) : ∃ a : Bool, v = .bool a := okWide_bool Tryz.underlying4 hv
end
end Go.Proofs.YtcikjcjfcanloaaGreat
