/- Texts of this claim, joined: L49Und, OpenB, OpenU. -/
import Derived.Test.YtcikjcjfcanloaaGreatJa24
import Derived.Test.YtcikjcjfcanloaaGreatJa25
import Derived.Deep.Slices
import Derived.ProofKit
import Derived.Lib.SmallJoins
import Derived.Deep.Strs
import Derived.Test.YtcikjcjfcanloaaGreatJa8
import Derived.SizedLaws
import Derived.Test.YtcikjcjfcanloaaGreatJa15
import Derived.Test.YtcikjcjfcanloaaGreatJa16
set_option linter.unusedSimpArgs false
namespace Go.Proofs.YtcikjcjfcanloaaGreat
open Go.RowKit
attribute [local irreducible] perm fAdd fMul fPow fSub fNeg fRed hashU drawOf nextState cipSeal
theorem Tryz.infoOp : (Tryz.prog.info? 78).map (fun i => (i.zero, i.size, i.bytes)) = some (some (.agg #[.bool false, .int .u64 0, .int .i64 0, .int .u64 0, .int .u64 0, .int .u64 0, .slice none 0 0]), 7, 72) := by kernel_rfl
theorem op_one {w : World} {X : List (OpT × Value)} (h : ∀ x ∈ X, RdTs w x.2 x.1.b.txs) : ∀ u ∈ X.flatMap opCells, u.oneCell' = true := by
  intro u hu
  obtain ⟨x, hx, hx2⟩ := List.mem_flatMap.1 hu
  obtain ⟨a, c, e, -⟩ := (h x hx).shape
  unfold opCells at hx2
  simp only [List.mem_cons, List.not_mem_nil, or_false] at hx2
  rcases hx2 with rfl | rfl | rfl | rfl | rfl | rfl | rfl
  · rfl
  · rfl
  · rfl
  · rfl
  · rfl
  · rfl
  · rw [e]; rfl
theorem own_emptyO (v : World) : (v.alloc (.cells #[] 78)).ownsRow 0 78 7 (.slice (some ⟨v.heap.size, 0, none⟩) 0 0) 0 [] := ⟨rfl, .inr ⟨v.heap.size, 0, #[], rfl, Nat.zero_le _, heap_new v _, Nat.le_refl _, Nat.zero_le _, rfl, rfl⟩⟩
theorem RdWops.snoc {w u : World} {v : Value} {X : List (OpT × Value)} {b : BlkT} {tv : Value} (hx : ∀ x ∈ X, RdTs w x.2 x.1.b.txs) (hb : RdTs w tv b.txs) (k : Ext w u) (ho : u.ownsRow 0 78 7 v (X.length + 1) (X.flatMap opCells ++ opCells (⟨false, b⟩, tv))) : RdWops u v (X.map (·.1) ++ [⟨false, b⟩]) := by
  refine ⟨X ++ [(⟨false, b⟩, tv)], by simp, ?_, fun x hx' => ?_⟩
  · have := (ownsRow_rd ho).weak
    rw [List.flatMap_append]
    simpa using this
  · rcases List.mem_append.1 hx' with e | e
    · exact (hx x e).ext k
    · obtain rfl := List.mem_singleton.1 e
      exact hb.ext k
set_option maxRecDepth 100000 in
set_option maxHeartbeats 51200000 in
theorem walletUndo_any (seed : UInt64) (d : Int) (ov : Value) (oz : List OpT) (b : BlkT) (tv : Value) (w : World) (h : RdWops w ov oz) (hb : RdTs w tv b.txs) (hol : oz.length * 72 ≤ 140737488351232) :
    Calls Tryz.prog 10 #[uv seed, .agg #[.int .i64 d, ov], blkVal b tv] w fun e w' => e = .returned (.bool true) ∧ Ext w w' := by
  have HH := hid h
  have HBT := hid hb
  have HOLL := hid hol
  have AW := hid awake49_any
  have SM : Hid (∀ u v, RdWops u v (oz ++ [⟨false, b⟩]) → Calls Tryz.prog 19 #[.int .i64 d, v] u fun e w' => e = .returned (.bool (smallW d (oz ++ [⟨false, b⟩]))) ∧ Ext u w') := hid fun u v k => small49_any d v _ u k
  obtain ⟨oa, oc, rfl, -⟩ := h.shape
  obtain ⟨ta, tc, rfl, -⟩ := hb.shape
  obtain ⟨X, x1, x2, x3⟩ := h
  have hxl : X.length = oz.length := by rw [← x1, List.length_map]
  have HXX := hid (And.intro x1 (And.intro x2 (And.intro x3 hxl)))
  obtain ⟨j0, hj, hjz0, hjz1, hjz2⟩ := info_parts Tryz.infoOp
  have HJ := hid (And.intro hj (And.intro hjz0 (And.intro hjz1 hjz2)))
  obtain ⟨N, hN⟩ : ∃ N, N = w.heap.size := ⟨_, rfl⟩
  obtain ⟨w0, hw0⟩ : ∃ w0, w0 = (w.alloc (.cells #[.int .i64 d, .slice oa oz.length oc] 25)).alloc (.cells #[uv b.parent, .int .i64 b.height, uv b.miner, uv b.work, uv b.nonce, .slice ta b.txs.length tc] 75) := ⟨_, rfl⟩
  have hx0 : Ext w w0 := by rw [hw0]; exact ((Ext.refl w).alloc _).alloc _
  have hb0 : w0.heap[N]? = some (.cells #[.int .i64 d, .slice oa oz.length oc] 25 (0, 0)) := by rw [hw0, hN]; exact heap_alloc_some (heap_new _ _)
  have hb1 : w0.heap[N + 1]? = some (.cells #[uv b.parent, .int .i64 b.height, uv b.miner, uv b.work, uv b.nonce, .slice ta b.txs.length tc] 75 (0, 0)) := by
    rw [hw0, hN]
    have := heap_new (w.alloc (.cells #[.int .i64 d, .slice oa oz.length oc] 25)) (.cells #[uv b.parent, .int .i64 b.height, uv b.miner, uv b.work, uv b.nonce, .slice ta b.txs.length tc] 75)
    simpa using this
  have HX0 := hid hx0
  have HW := hid hw0
  have HSV : Hid (∀ u, Ext w0 u → ((u.cell? ⟨N, 0, none⟩ = some (.int .i64 d) ∧ u.cell? ⟨N, 1, none⟩ = some (.slice oa oz.length oc)) ∧ (u.cell? ⟨N + 1, 0, none⟩ = some (uv b.parent) ∧ u.cell? ⟨N + 1, 1, none⟩ = some (.int .i64 b.height) ∧ u.cell? ⟨N + 1, 2, none⟩ = some (uv b.miner) ∧ u.cell? ⟨N + 1, 3, none⟩ = some (uv b.work) ∧ u.cell? ⟨N + 1, 4, none⟩ = some (uv b.nonce) ∧ u.cell? ⟨N + 1, 5, none⟩ = some (.slice ta b.txs.length tc))) ∧ Ext w0 u) := hid fun u k => ⟨⟨⟨cell_of (k.heap_some hb0) 0, cell_of (k.heap_some hb0) 1⟩, six_cellsB (k.heap_some hb1)⟩, k⟩
  obtain ⟨S, hS⟩ : ∃ S, S = smallW d (oz ++ [⟨false, b⟩]) := ⟨_, rfl⟩
  rw [← hS] at SM
  have HS := hid hS
  clear hb hw0 hx0 hb0 hb1 hS x1 x2 x3 hxl hj hjz0 hjz1 hjz2 hol
  go_enter Tryz.func10, Tryz.ntmps10
  go_upto_region 1 with fail
  rw [← HW.out, ← hN]
  clear hN HW
  go_wp2_with fail
  refine wp_region_N (fun u => ((u.cell? ⟨N, 0, none⟩ = some (.int .i64 d) ∧ u.cell? ⟨N, 1, none⟩ = some (.slice oa oz.length oc)) ∧ (u.cell? ⟨N + 1, 0, none⟩ = some (uv b.parent) ∧ u.cell? ⟨N + 1, 1, none⟩ = some (.int .i64 b.height) ∧ u.cell? ⟨N + 1, 2, none⟩ = some (uv b.miner) ∧ u.cell? ⟨N + 1, 3, none⟩ = some (uv b.work) ∧ u.cell? ⟨N + 1, 4, none⟩ = some (uv b.nonce) ∧ u.cell? ⟨N + 1, 5, none⟩ = some (.slice ta b.txs.length tc))) ∧ Ext w0 u) 13 16 (by kernel_rfl) (by kernel_rfl) ?_
  intro ops hops
  have HS0 := HSV.out _ (Ext.refl w0).drew
  refine N_one (i := 0) (by rw [hops, List.getElem?_toArray]; rfl) (by rw [hops]; kernel_rfl) (by first | rfl | (rw [hops]; rfl)) ?_
  intro K hK
  go_wp2_with fail
  refine (AW.out _).mono ?_
  rintro e u0 ⟨rfl, hx⟩
  have HS1 := HSV.out u0 (HS0.2.trans hx)
  clear hx HS0
  refine hK _ _ ⟨fun _ => HS1, ?_⟩
  clear hK K
  refine N_take (i := 1) (v := ?_) (by rw [hops, List.getElem?_toArray]; rfl) (by rw [hops]; kernel_rfl) (by intro c a d v w h; cases d <;> exact h) (by first | rfl | (rw [hops]; rfl)) ?_ HS1 ?_
  rotate_left
  · intro v h; go_simp; with_reducible rfl
  simp only [Act.put, List.getElem_toArray, List.getElem_cons_zero, List.getElem_cons_succ, List.setIfInBounds_toArray, List.set_cons_zero, List.set_cons_succ]
  refine N_take (i := 2) (v := ?_) (by rw [hops, List.getElem?_toArray]; rfl) (by rw [hops]; kernel_rfl) (by intro c a d v w h; cases d <;> exact h) (by first | rfl | (rw [hops]; rfl)) ?_ HS1 ?_
  rotate_left
  · intro v h; go_simp; with_reducible rfl
  simp only [Act.put, List.getElem_toArray, List.getElem_cons_zero, List.getElem_cons_succ, List.setIfInBounds_toArray, List.set_cons_zero, List.set_cons_succ]
  refine N_take (i := 3) (v := ?_) (by rw [hops, List.getElem?_toArray]; rfl) (by rw [hops]; kernel_rfl) (by intro c a d v w h; cases d <;> exact h) (by first | rfl | (rw [hops]; rfl)) ?_ HS1 ?_
  rotate_left
  · intro v h; go_simp; with_reducible rfl
  simp only [Act.put, List.getElem_toArray, List.getElem_cons_zero, List.getElem_cons_succ, List.setIfInBounds_toArray, List.set_cons_zero, List.set_cons_succ]
  refine N_take (i := 4) (v := ?_) (by rw [hops, List.getElem?_toArray]; rfl) (by rw [hops]; kernel_rfl) (by intro c a d v w h; cases d <;> exact h) (by first | rfl | (rw [hops]; rfl)) ?_ HS1 ?_
  rotate_left
  · intro v h; go_simp; with_reducible rfl
  simp only [Act.put, List.getElem_toArray, List.getElem_cons_zero, List.getElem_cons_succ, List.setIfInBounds_toArray, List.set_cons_zero, List.set_cons_succ]
  refine N_take (i := 6) (v := ?_) (by rw [hops, List.getElem?_toArray]; rfl) (by rw [hops]; kernel_rfl) (by intro c a d v w h; cases d <;> exact h) (by first | rfl | (rw [hops]; rfl)) ?_ HS1 ?_
  rotate_left
  · intro v h; go_simp; with_reducible rfl
  simp only [Act.put, List.getElem_toArray, List.getElem_cons_zero, List.getElem_cons_succ, List.setIfInBounds_toArray, List.set_cons_zero, List.set_cons_succ]
  refine N_take (i := 7) (v := ?_) (by rw [hops, List.getElem?_toArray]; rfl) (by rw [hops]; kernel_rfl) (by intro c a d v w h; cases d <;> exact h) (by first | rfl | (rw [hops]; rfl)) ?_ HS1 ?_
  rotate_left
  · intro v h; go_simp; with_reducible rfl
  simp only [Act.put, List.getElem_toArray, List.getElem_cons_zero, List.getElem_cons_succ, List.setIfInBounds_toArray, List.set_cons_zero, List.set_cons_succ]
  refine N_take (i := 9) (v := ?_) (by rw [hops, List.getElem?_toArray]; rfl) (by rw [hops]; kernel_rfl) (by intro c a d v w h; cases d <;> exact h) (by first | rfl | (rw [hops]; rfl)) ?_ HS1 ?_
  rotate_left
  · intro v h; go_simp; with_reducible rfl
  simp only [Act.put, List.getElem_toArray, List.getElem_cons_zero, List.getElem_cons_succ, List.setIfInBounds_toArray, List.set_cons_zero, List.set_cons_succ]
  refine N_take (i := 10) (v := ?_) (by rw [hops, List.getElem?_toArray]; rfl) (by rw [hops]; kernel_rfl) (by intro c a d v w h; cases d <;> exact h) (by first | rfl | (rw [hops]; rfl)) ?_ HS1 ?_
  rotate_left
  · intro v h; go_simp; with_reducible rfl
  simp only [Act.put, List.getElem_toArray, List.getElem_cons_zero, List.getElem_cons_succ, List.setIfInBounds_toArray, List.set_cons_zero, List.set_cons_succ]
  refine N_two (i := 5) (k := 11) (by rw [hops]; rfl) (by rw [hops, List.getElem?_toArray]; rfl) (by rw [hops]; kernel_rfl) (by first | rfl | (rw [hops]; rfl)) (by first | rfl | (rw [hops]; rfl)) ?_ ?_
  · intro K hK
    go_wp2_with fail
    have hE := own_emptyO u0
    have hx5 := (Ext.refl u0).alloc (.cells #[] 78)
    have hEs := HS1.2.size
    obtain ⟨E, hEe⟩ : ∃ E, E = u0.heap.size := ⟨_, rfl⟩
    rw [← hEe] at hE
    try rw [← hEe]
    generalize u0.alloc (.cells #[] 78) = u5 at *
    have HE5 : Hid (w0.heap.size ≤ E) := hid (by omega)
    have hElt := ownsRow_lt hE (show blk (.slice (some ⟨E, 0, none⟩) 0 0) = some E from rfl)
    have HS1' := HSV.out u5 (HS1.2.trans hx5)
    clear HS1 hx5 hEs
    have HS1 := HS1'
    clear HS1'
    refine ⟨fun _ => HS1, ?_⟩
    try rw [← hops]
    refine N_two (i := 8) (k := 11) (by rw [hops]; rfl) (by rw [hops, List.getElem?_toArray]; rfl) (by rw [hops]; kernel_rfl) (by first | rfl | (rw [hops]; rfl)) (by first | rfl | (rw [hops]; rfl)) ?_ ?_
    · intro K hK
      refine wp_app' _ _ 23 rfl 78 j0 (.agg #[.bool false, .int .u64 0, .int .i64 0, .int .u64 0, .int .u64 0, .int .u64 0, .slice none 0 0]) 7 72 (by kernel_rfl) HJ.out.1 HJ.out.2.1 HJ.out.2.2.1 HJ.out.2.2.2 rfl (by decide) (.slice (some ⟨E, 0, none⟩) 0 0) 0 [] rfl hE (.slice oa oz.length oc) oz.length (X.flatMap opCells) rfl (HXX.out.2.1.ext (HX0.out.trans HS1.2)) (by rw [flat_len opCells_len, HXX.out.2.2.2]) (op_one HXX.out.2.2.1) (by have := HOLL.out; unfold maxLen; omega) (by have := HOLL.out; omega) ?_
      intro v8 u8 hown8 hk8 hb8
      rw [Nat.zero_add, List.nil_append] at hown8
      have HO8 : Hid (∀ k, blk v8 = some k → w0.heap.size ≤ k) := hid fun k hk => by
        rcases hb8 with e | e
        · rw [e] at hk
          have hk2 : E = k := Option.some.inj hk
          have := HE5.out
          omega
        · rw [e] at hk
          have hk2 := Option.some.inj hk
          have := HS1.2.size
          omega
      have hx8 : Ext w0 u8 := HS1.2.kp hk8 (fun k e => by have e2 : k = E := Option.some.inj e; have := HE5.out; omega)
      have HS1' := HSV.out u8 hx8
      obtain ⟨va8, vc8, rfl, -⟩ := ownsRow_rd hown8
      clear HS1 hx8 hk8 hb8 hE
      have HS1 := HS1'
      clear HS1'
      refine hK _ _ ⟨fun _ => HS1, ?_⟩
      clear hK K
      refine N_one (i := 11) (by rw [hops, List.getElem?_toArray]; rfl) (by rw [hops]; kernel_rfl) (by first | rfl | (rw [hops]; rfl)) ?_
      intro K hK
      go_wp2_with fail
      have hB := heap_new u8 (.cells #[.bool false, uv b.parent, .int .i64 b.height, uv b.miner, uv b.work, uv b.nonce, .slice ta b.txs.length tc] 78)
      have hx11 := (Ext.refl u8).alloc (.cells #[.bool false, uv b.parent, .int .i64 b.height, uv b.miner, uv b.work, uv b.nonce, .slice ta b.txs.length tc] 78)
      have hBs := HS1.2.size
      obtain ⟨Bk, hBe⟩ : ∃ Bk, Bk = u8.heap.size := ⟨_, rfl⟩
      rw [← hBe] at hB
      try rw [← hBe]
      generalize u8.alloc (.cells #[.bool false, uv b.parent, .int .i64 b.height, uv b.miner, uv b.work, uv b.nonce, .slice ta b.txs.length tc] 78) = u11 at *
      have HB11 : Hid (w0.heap.size ≤ Bk) := hid (by omega)
      have hown8 := ownsRow_ext hown8 hx11
      have HS1' := HSV.out u11 (HS1.2.trans hx11)
      clear HS1 hx11 hBs
      have HS1 := HS1'
      clear HS1'
      refine ⟨fun _ => HS1, ?_⟩
      try rw [← hops]
      refine N_one (i := 12) (by rw [hops, List.getElem?_toArray]; rfl) (by rw [hops]; kernel_rfl) (by first | rfl | (rw [hops]; rfl)) ?_
      intro K hK
      refine wp_app' _ _ 23 rfl 78 j0 (.agg #[.bool false, .int .u64 0, .int .i64 0, .int .u64 0, .int .u64 0, .int .u64 0, .slice none 0 0]) 7 72 (by kernel_rfl) HJ.out.1 HJ.out.2.1 HJ.out.2.2.1 HJ.out.2.2.2 rfl (by decide) (.slice va8 oz.length vc8) oz.length (X.flatMap opCells) rfl hown8 (.slice (some ⟨Bk, 0, none⟩) 1 1) 1 [.bool false, uv b.parent, .int .i64 b.height, uv b.miner, uv b.work, uv b.nonce, .slice ta b.txs.length tc] rfl (RdC.weak ⟨_, 1, rfl, Nat.le_refl _, by unfold maxLen; omega, (fun h => by cases h), fun ad ha => by
        obtain rfl := Option.some.inj ha
        exact ⟨rfl, fun j u hu => by rw [cell_of hB]; simpa using hu⟩⟩) rfl (by intro u hu; simp only [List.mem_cons, List.not_mem_nil, or_false] at hu; rcases hu with rfl | rfl | rfl | rfl | rfl | rfl | rfl <;> rfl) (by have := HOLL.out; unfold maxLen; omega) (by have := HOLL.out; omega) ?_
      intro v12 u12 hown hk12 hb12
      have hx12 : Ext w0 u12 := HS1.2.kp hk12 (fun k e => HO8.out k e.symm)
      have SMC : Hid (Calls Tryz.prog 19 #[.int .i64 d, v12] u12 fun e w' => e = .returned (.bool S) ∧ Ext u12 w') := hid (by
        have := RdWops.snoc (w := w) (u := u12) (v := v12) (X := X) (b := b) (tv := .slice ta b.txs.length tc) HXX.out.2.2.1 HBT.out (HX0.out.trans hx12) (by rw [HXX.out.2.2.2]; exact hown)
        rw [HXX.out.1] at this
        exact SM.out u12 v12 this)
      obtain ⟨va, vc, rfl, -⟩ := ownsRow_rd hown
      have HS2 := HSV.out u12 hx12
      clear HS1 hx12 hk12 hb12 hown hown8 hB HO8
      refine hK _ _ ⟨fun _ => HS2, ?_⟩
      clear hK K
      refine N_one (i := 13) (by rw [hops, List.getElem?_toArray]; rfl) (by rw [hops]; kernel_rfl) (by first | rfl | (rw [hops]; rfl)) ?_
      intro K hK
      go_wp2_with fail
      refine (SMC.out).mono ?_
      rintro e u1 ⟨rfl, hx⟩
      have X1 := hid (HS2.2.trans hx)
      clear hx HS2 SMC
      refine hK _ _ ⟨fun h => absurd h (by decide), ?_⟩
      clear hK K
      refine N_one (i := 14) (by rw [hops, List.getElem?_toArray]; rfl) (by rw [hops]; kernel_rfl) (by first | rfl | (rw [hops]; rfl)) ?_
      intro K hK
      go_wp2_with fail
      refine ⟨fun h => absurd h (by decide), ?_⟩
      try rw [← hops]
      refine N_one (i := 15) (by rw [hops, List.getElem?_toArray]; rfl) (by rw [hops]; kernel_rfl) (by first | rfl | (rw [hops]; rfl)) ?_
      intro K hK
      go_wp2_with fail
      refine ⟨fun h => absurd h (by decide), ?_⟩
      try rw [← hops]
      refine N_done (by rw [hops]; kernel_rfl) ?_
      clear hops ops
      cases S with
      | false =>
        go_wp2_with fail
        refine (AW.out _).mono ?_
        rintro e u2 ⟨rfl, hx⟩
        have X2 := hid (X1.out.trans hx)
        clear hx
        go_wp2_with fail
        go_ret
        exact ⟨rfl, HX0.out.trans X2.out⟩
      | true =>
        obtain ⟨n, rfl, h1, h6, h8, hbs⟩ := small_facts HS.out.symm
        have HD := hid (And.intro h1 h6)
        have HBB := hid (hbs ⟨false, b⟩ (by simp))
        have h8' : oz.length ≤ 7 := by rw [List.length_append, List.length_singleton] at h8; omega
        have PL := hid (play49_any n h1 (by omega) seed (.slice oa oz.length oc) oz u1 (HH.out.ext (HX0.out.trans X1.out)) (fun o ho => hbs o (by simp [ho])) (by omega))
        have HOK := hid (playW_ok n oz)
        have HLE : Hid ((playW n oz).length ≤ 8) := hid (Nat.le_trans playW_len (by omega))
        have HMB : Hid (∀ b ∈ playW n oz, BSm b) := hid fun c hc => by
          obtain ⟨o, ho, rfl⟩ := playW_mem hc
          exact hbs o (by simp [ho])
        obtain ⟨l, hl⟩ : ∃ l, l = playW n oz := ⟨_, rfl⟩
        rw [← hl] at PL HOK HLE HMB
        obtain ⟨⟨⟨c0, c1⟩, -⟩, -⟩ := HSV.out u1 X1.out
        clear hl h1 h6 h8 h8' hbs
        go_wp2_with fail
        refine (PL.out).mono ?_
        rintro e w3 ⟨W, lv, rfl, hpl⟩
        have HPL := hid hpl
        have hrd : ∃ la lc, lv = .slice la l.length lc := by
          obtain ⟨G, h1, h2, h3, -⟩ := hpl
          obtain ⟨la, lc, e, -⟩ := h3.shape
          exact ⟨la, lc, e⟩
        obtain ⟨la, lc, rfl⟩ := hrd
        have X3 : Hid (Ext u1 w3) := hid (by obtain ⟨G, h1, h2, h3, h4, h5⟩ := hpl; exact h5)
        clear hpl c0 c1 PL
        have ENC : Hid (∀ u, PlI u1 u W n (fRed seed) l (.slice la l.length lc) → Calls Tryz.prog 39 #[.pointer (some ⟨W, 0, none⟩)] u (NewB u (walB l.length (stW seed l).leaves (stW seed l).notes))) := hid fun u hp => by
          obtain ⟨G, h1, -⟩ := hp
          have := wEncode_any h1 HOK.out
          rw [stW_red] at this
          exact this
        have SAME : Hid (∀ u, PlI u1 u W n (fRed seed) l (.slice la l.length lc) → Calls Tryz.prog 31 #[.pointer (some ⟨W, 0, none⟩), .int .i64 (n : Int), uv seed, .slice la l.length lc] u fun e w' => e = .returned (.bool true) ∧ Ext u w') := hid fun u hp => by
          obtain ⟨G, h1, -, h3, -, h5⟩ := hp
          exact same49_any h1 HOK.out _ (h3.old h5) (by have := HLE.out; omega) HMB.out
        generalize walB l.length (stW seed l).leaves (stW seed l).notes = BY at *
        go_wp2_with fail
        refine (ENC.out _ HPL.out).mono ?_
        rintro e w4 ⟨v4, rfl, ho4, hx4, -⟩
        have HP4 := hid (HPL.out.ext hx4)
        have X4 := hid (X3.out.trans hx4)
        have hcv := run_str w4 _ _ ho4
        obtain ⟨qa4, qc4, rfl, -⟩ := ownsRow_rd ho4
        clear ho4 hx4 HPL
        obtain ⟨⟨⟨c0, c1⟩, b0, b1, b2, b3, b4, b5⟩, -⟩ := HSV.out w4 (X1.out.trans X4.out)
        go_wp2_with fail
        clear hcv
        have APP : Hid (∃ G, Calls Tryz.prog 42 #[.pointer (some ⟨W, 0, none⟩), blkVal b (.slice ta b.txs.length tc)] w4 (fun e w' => e = .returned (.int .i64 (checkW n l b)) ∧ WalTo w4 W n (fRed seed) (if checkW n l b = 0 then l ++ [b] else l) G w') ∧ WalAt w4 W n (fRed seed) l G ∧ (∀ i, G i → u1.heap.size ≤ i) ∧ RdBs u1 w4 (.slice la l.length lc) l ∧ (∀ b, blk (.slice la l.length lc) = some b → ¬ G b ∧ b < w4.heap.size) ∧ Ext u1 w4) := hid (by
          obtain ⟨G, h1, h2, h3, h4, h5⟩ := HP4.out
          exact ⟨G, wApply_any h1 (by have := HLE.out; omega) HOK.out h5 h2 b _ (HBT.out.ext (HX0.out.trans X1.out)) HBB.out.n HBB.out.t, h1, h2, h3, h4, h5⟩)
        obtain ⟨G, app, g1, g2, g3, g4, g5⟩ := APP.out
        have HG := hid (And.intro g1 (And.intro g2 (And.intro g3 (And.intro g4 g5))))
        obtain ⟨C, hC⟩ : ∃ C, C = checkW n l b := ⟨_, rfl⟩
        rw [← hC] at app
        have APC := hid app
        have HCK := hid hC
        clear APP app g1 g2 g3 g4 g5 hC
        refine (APC.out).mono ?_
        rintro e w5 ⟨rfl, hto⟩
        have HT := hid (PlI.turn HG.out.2.1 HG.out.2.2.1 HG.out.2.2.2.1 HG.out.2.2.2.2 hto)
        clear hto APC c0 c1 b0 b1 b2 b3 b4 b5
        have HEND : Hid (∃ w6, w6 = w5) := hid ⟨_, rfl⟩
        by_cases hz : C = 0
        · subst hz
          have HT1 := HT.out
          rw [if_pos rfl] at HT1
          obtain ⟨G5, g1, g2, g3, g4, g5⟩ := HT1
          have HG5 := hid (And.intro g1 (And.intro g2 (And.intro g3 (And.intro g4 g5))))
          have UN : Hid (Calls Tryz.prog 30 #[.pointer (some ⟨W, 0, none⟩)] w5 fun e w' => e = .returned (.bool true) ∧ WalTo w5 W n (fRed seed) l G5 w') := hid (by
            have := wUndo_any g1 (by rw [List.length_append, List.length_singleton]; have := HLE.out; omega) (okAll_snoc HOK.out HCK.out.symm) (fun c hc => by
              rcases List.mem_append.1 hc with e | e
              · exact (HMB.out c e).n
              · obtain rfl := List.mem_singleton.1 e
                exact HBB.out.n)
            rw [List.dropLast_concat, show decide (0 < (l ++ [b]).length) = true by simp] at this
            exact this)
          clear g1 g2 g3 g4 g5 HT HEND
          go_wp2_with fail
          refine (UN.out).mono ?_
          rintro e w6 ⟨rfl, hto⟩
          have HP6 : Hid (PlI u1 w6 W n (fRed seed) l (.slice la l.length lc)) := hid (PlI.turn HG5.out.2.1 HG5.out.2.2.1 HG5.out.2.2.2.1 HG5.out.2.2.2.2 hto)
          clear hto UN
          have X6 : Hid (Ext u1 w6) := hid (by obtain ⟨G, h1, h2, h3, h4, h5⟩ := HP6.out; exact h5)
          go_wp2_with fail
          refine (ENC.out _ HP6.out).mono ?_
          rintro e w7 ⟨v7, rfl, ho7, hx7, -⟩
          have HP7 := hid (HP6.out.ext hx7)
          have X7 := hid (X6.out.trans hx7)
          have hcv := run_str w7 _ _ ho7
          obtain ⟨qa7, qc7, rfl, -⟩ := ownsRow_rd ho7
          have SMW := hid (SAME.out w7 HP7.out)
          obtain ⟨⟨⟨c0, c1⟩, -⟩, -⟩ := HSV.out w7 (X1.out.trans X7.out)
          clear ho7 hx7 HP6
          go_wp2_with fail
          refine (SMW.out).mono ?_
          rintro e w8 ⟨rfl, hx⟩
          have X8 := hid (X7.out.trans hx)
          clear hx SMW c0 c1 hcv
          go_wp2_with fail
          go_ret
          exact ⟨rfl, HX0.out.trans (X1.out.trans X8.out)⟩
        · have hzB : decide (C = 0) = false := decide_eq_false hz
          have hzB2 : (C == 0) = false := by rw [beq_eq_false_iff_ne]; exact hz
          have HT1 := HT.out
          rw [if_neg hz] at HT1
          have HP6 : Hid (PlI u1 w5 W n (fRed seed) l (.slice la l.length lc)) := hid HT1
          clear HT1 HT hz HEND
          have X6 : Hid (Ext u1 w5) := hid (by obtain ⟨G, h1, h2, h3, h4, h5⟩ := HP6.out; exact h5)
          go_wp2_with fail
          refine (ENC.out _ HP6.out).mono ?_
          rintro e w7 ⟨v7, rfl, ho7, hx7, -⟩
          have HP7 := hid (HP6.out.ext hx7)
          have X7 := hid (X6.out.trans hx7)
          have hcv := run_str w7 _ _ ho7
          obtain ⟨qa7, qc7, rfl, -⟩ := ownsRow_rd ho7
          have SMW := hid (SAME.out w7 HP7.out)
          obtain ⟨⟨⟨c0, c1⟩, -⟩, -⟩ := HSV.out w7 (X1.out.trans X7.out)
          clear ho7 hx7 HP6
          go_wp2_with fail
          refine (SMW.out).mono ?_
          rintro e w8 ⟨rfl, hx⟩
          have X8 := hid (X7.out.trans hx)
          clear hx SMW c0 c1 hcv
          go_wp2_with fail
          go_ret
          exact ⟨rfl, HX0.out.trans (X1.out.trans X8.out)⟩
    · intro K hK
      go_wp2_with fail
      have hB := heap_new u5 (.cells #[.bool false, uv b.parent, .int .i64 b.height, uv b.miner, uv b.work, uv b.nonce, .slice ta b.txs.length tc] 78)
      have hx11 := (Ext.refl u5).alloc (.cells #[.bool false, uv b.parent, .int .i64 b.height, uv b.miner, uv b.work, uv b.nonce, .slice ta b.txs.length tc] 78)
      have hBs := HS1.2.size
      obtain ⟨Bk, hBe⟩ : ∃ Bk, Bk = u5.heap.size := ⟨_, rfl⟩
      rw [← hBe] at hB
      try rw [← hBe]
      generalize u5.alloc (.cells #[.bool false, uv b.parent, .int .i64 b.height, uv b.miner, uv b.work, uv b.nonce, .slice ta b.txs.length tc] 78) = u11 at *
      have HB11 : Hid (w0.heap.size ≤ Bk) := hid (by omega)
      have hE := ownsRow_ext hE hx11
      have HBE : Hid (¬ Bk = E) := hid (by omega)
      have HS1' := HSV.out u11 (HS1.2.trans hx11)
      clear HS1 hx11 hBs
      have HS1 := HS1'
      clear HS1'
      refine ⟨fun _ => HS1, ?_⟩
      try rw [← hops]
      refine N_one (i := 8) (by rw [hops, List.getElem?_toArray]; rfl) (by rw [hops]; kernel_rfl) (by first | rfl | (rw [hops]; rfl)) ?_
      intro K hK
      refine wp_app' _ _ 23 rfl 78 j0 (.agg #[.bool false, .int .u64 0, .int .i64 0, .int .u64 0, .int .u64 0, .int .u64 0, .slice none 0 0]) 7 72 (by kernel_rfl) HJ.out.1 HJ.out.2.1 HJ.out.2.2.1 HJ.out.2.2.2 rfl (by decide) (.slice (some ⟨E, 0, none⟩) 0 0) 0 [] rfl hE (.slice oa oz.length oc) oz.length (X.flatMap opCells) rfl (HXX.out.2.1.ext (HX0.out.trans HS1.2)) (by rw [flat_len opCells_len, HXX.out.2.2.2]) (op_one HXX.out.2.2.1) (by have := HOLL.out; unfold maxLen; omega) (by have := HOLL.out; omega) ?_
      intro v8 u8 hown8 hk8 hb8
      rw [Nat.zero_add, List.nil_append] at hown8
      have HO8 : Hid (∀ k, blk v8 = some k → w0.heap.size ≤ k) := hid fun k hk => by
        rcases hb8 with e | e
        · rw [e] at hk
          have hk2 : E = k := Option.some.inj hk
          have := HE5.out
          omega
        · rw [e] at hk
          have hk2 := Option.some.inj hk
          have := HS1.2.size
          omega
      have hx8 : Ext w0 u8 := HS1.2.kp hk8 (fun k e => by have e2 : k = E := Option.some.inj e; have := HE5.out; omega)
      have hB := hk8.heap_some (fun e => HBE.out (Option.some.inj e)) hB
      have HS1' := HSV.out u8 hx8
      obtain ⟨va8, vc8, rfl, -⟩ := ownsRow_rd hown8
      clear HS1 hx8 hk8 hb8 hE
      have HS1 := HS1'
      clear HS1'
      refine hK _ _ ⟨fun _ => HS1, ?_⟩
      clear hK K
      refine N_one (i := 12) (by rw [hops, List.getElem?_toArray]; rfl) (by rw [hops]; kernel_rfl) (by first | rfl | (rw [hops]; rfl)) ?_
      intro K hK
      refine wp_app' _ _ 23 rfl 78 j0 (.agg #[.bool false, .int .u64 0, .int .i64 0, .int .u64 0, .int .u64 0, .int .u64 0, .slice none 0 0]) 7 72 (by kernel_rfl) HJ.out.1 HJ.out.2.1 HJ.out.2.2.1 HJ.out.2.2.2 rfl (by decide) (.slice va8 oz.length vc8) oz.length (X.flatMap opCells) rfl hown8 (.slice (some ⟨Bk, 0, none⟩) 1 1) 1 [.bool false, uv b.parent, .int .i64 b.height, uv b.miner, uv b.work, uv b.nonce, .slice ta b.txs.length tc] rfl (RdC.weak ⟨_, 1, rfl, Nat.le_refl _, by unfold maxLen; omega, (fun h => by cases h), fun ad ha => by
        obtain rfl := Option.some.inj ha
        exact ⟨rfl, fun j u hu => by rw [cell_of hB]; simpa using hu⟩⟩) rfl (by intro u hu; simp only [List.mem_cons, List.not_mem_nil, or_false] at hu; rcases hu with rfl | rfl | rfl | rfl | rfl | rfl | rfl <;> rfl) (by have := HOLL.out; unfold maxLen; omega) (by have := HOLL.out; omega) ?_
      intro v12 u12 hown hk12 hb12
      have hx12 : Ext w0 u12 := HS1.2.kp hk12 (fun k e => HO8.out k e.symm)
      have SMC : Hid (Calls Tryz.prog 19 #[.int .i64 d, v12] u12 fun e w' => e = .returned (.bool S) ∧ Ext u12 w') := hid (by
        have := RdWops.snoc (w := w) (u := u12) (v := v12) (X := X) (b := b) (tv := .slice ta b.txs.length tc) HXX.out.2.2.1 HBT.out (HX0.out.trans hx12) (by rw [HXX.out.2.2.2]; exact hown)
        rw [HXX.out.1] at this
        exact SM.out u12 v12 this)
      obtain ⟨va, vc, rfl, -⟩ := ownsRow_rd hown
      have HS2 := HSV.out u12 hx12
      clear HS1 hx12 hk12 hb12 hown hown8 hB HO8
      refine hK _ _ ⟨fun _ => HS2, ?_⟩
      clear hK K
      refine N_one (i := 13) (by rw [hops, List.getElem?_toArray]; rfl) (by rw [hops]; kernel_rfl) (by first | rfl | (rw [hops]; rfl)) ?_
      intro K hK
      go_wp2_with fail
      refine (SMC.out).mono ?_
      rintro e u1 ⟨rfl, hx⟩
      have X1 := hid (HS2.2.trans hx)
      clear hx HS2 SMC
      refine hK _ _ ⟨fun h => absurd h (by decide), ?_⟩
      clear hK K
      refine N_one (i := 14) (by rw [hops, List.getElem?_toArray]; rfl) (by rw [hops]; kernel_rfl) (by first | rfl | (rw [hops]; rfl)) ?_
      intro K hK
      go_wp2_with fail
      refine ⟨fun h => absurd h (by decide), ?_⟩
      try rw [← hops]
      refine N_one (i := 15) (by rw [hops, List.getElem?_toArray]; rfl) (by rw [hops]; kernel_rfl) (by first | rfl | (rw [hops]; rfl)) ?_
      intro K hK
      go_wp2_with fail
      refine ⟨fun h => absurd h (by decide), ?_⟩
      try rw [← hops]
      refine N_done (by rw [hops]; kernel_rfl) ?_
      clear hops ops
      cases S with
      | false =>
        go_wp2_with fail
        refine (AW.out _).mono ?_
        rintro e u2 ⟨rfl, hx⟩
        have X2 := hid (X1.out.trans hx)
        clear hx
        go_wp2_with fail
        go_ret
        exact ⟨rfl, HX0.out.trans X2.out⟩
      | true =>
        obtain ⟨n, rfl, h1, h6, h8, hbs⟩ := small_facts HS.out.symm
        have HD := hid (And.intro h1 h6)
        have HBB := hid (hbs ⟨false, b⟩ (by simp))
        have h8' : oz.length ≤ 7 := by rw [List.length_append, List.length_singleton] at h8; omega
        have PL := hid (play49_any n h1 (by omega) seed (.slice oa oz.length oc) oz u1 (HH.out.ext (HX0.out.trans X1.out)) (fun o ho => hbs o (by simp [ho])) (by omega))
        have HOK := hid (playW_ok n oz)
        have HLE : Hid ((playW n oz).length ≤ 8) := hid (Nat.le_trans playW_len (by omega))
        have HMB : Hid (∀ b ∈ playW n oz, BSm b) := hid fun c hc => by
          obtain ⟨o, ho, rfl⟩ := playW_mem hc
          exact hbs o (by simp [ho])
        obtain ⟨l, hl⟩ : ∃ l, l = playW n oz := ⟨_, rfl⟩
        rw [← hl] at PL HOK HLE HMB
        obtain ⟨⟨⟨c0, c1⟩, -⟩, -⟩ := HSV.out u1 X1.out
        clear hl h1 h6 h8 h8' hbs
        go_wp2_with fail
        refine (PL.out).mono ?_
        rintro e w3 ⟨W, lv, rfl, hpl⟩
        have HPL := hid hpl
        have hrd : ∃ la lc, lv = .slice la l.length lc := by
          obtain ⟨G, h1, h2, h3, -⟩ := hpl
          obtain ⟨la, lc, e, -⟩ := h3.shape
          exact ⟨la, lc, e⟩
        obtain ⟨la, lc, rfl⟩ := hrd
        have X3 : Hid (Ext u1 w3) := hid (by obtain ⟨G, h1, h2, h3, h4, h5⟩ := hpl; exact h5)
        clear hpl c0 c1 PL
        have ENC : Hid (∀ u, PlI u1 u W n (fRed seed) l (.slice la l.length lc) → Calls Tryz.prog 39 #[.pointer (some ⟨W, 0, none⟩)] u (NewB u (walB l.length (stW seed l).leaves (stW seed l).notes))) := hid fun u hp => by
          obtain ⟨G, h1, -⟩ := hp
          have := wEncode_any h1 HOK.out
          rw [stW_red] at this
          exact this
        have SAME : Hid (∀ u, PlI u1 u W n (fRed seed) l (.slice la l.length lc) → Calls Tryz.prog 31 #[.pointer (some ⟨W, 0, none⟩), .int .i64 (n : Int), uv seed, .slice la l.length lc] u fun e w' => e = .returned (.bool true) ∧ Ext u w') := hid fun u hp => by
          obtain ⟨G, h1, -, h3, -, h5⟩ := hp
          exact same49_any h1 HOK.out _ (h3.old h5) (by have := HLE.out; omega) HMB.out
        generalize walB l.length (stW seed l).leaves (stW seed l).notes = BY at *
        go_wp2_with fail
        refine (ENC.out _ HPL.out).mono ?_
        rintro e w4 ⟨v4, rfl, ho4, hx4, -⟩
        have HP4 := hid (HPL.out.ext hx4)
        have X4 := hid (X3.out.trans hx4)
        have hcv := run_str w4 _ _ ho4
        obtain ⟨qa4, qc4, rfl, -⟩ := ownsRow_rd ho4
        clear ho4 hx4 HPL
        obtain ⟨⟨⟨c0, c1⟩, b0, b1, b2, b3, b4, b5⟩, -⟩ := HSV.out w4 (X1.out.trans X4.out)
        go_wp2_with fail
        clear hcv
        have APP : Hid (∃ G, Calls Tryz.prog 42 #[.pointer (some ⟨W, 0, none⟩), blkVal b (.slice ta b.txs.length tc)] w4 (fun e w' => e = .returned (.int .i64 (checkW n l b)) ∧ WalTo w4 W n (fRed seed) (if checkW n l b = 0 then l ++ [b] else l) G w') ∧ WalAt w4 W n (fRed seed) l G ∧ (∀ i, G i → u1.heap.size ≤ i) ∧ RdBs u1 w4 (.slice la l.length lc) l ∧ (∀ b, blk (.slice la l.length lc) = some b → ¬ G b ∧ b < w4.heap.size) ∧ Ext u1 w4) := hid (by
          obtain ⟨G, h1, h2, h3, h4, h5⟩ := HP4.out
          exact ⟨G, wApply_any h1 (by have := HLE.out; omega) HOK.out h5 h2 b _ (HBT.out.ext (HX0.out.trans X1.out)) HBB.out.n HBB.out.t, h1, h2, h3, h4, h5⟩)
        obtain ⟨G, app, g1, g2, g3, g4, g5⟩ := APP.out
        have HG := hid (And.intro g1 (And.intro g2 (And.intro g3 (And.intro g4 g5))))
        obtain ⟨C, hC⟩ : ∃ C, C = checkW n l b := ⟨_, rfl⟩
        rw [← hC] at app
        have APC := hid app
        have HCK := hid hC
        clear APP app g1 g2 g3 g4 g5 hC
        refine (APC.out).mono ?_
        rintro e w5 ⟨rfl, hto⟩
        have HT := hid (PlI.turn HG.out.2.1 HG.out.2.2.1 HG.out.2.2.2.1 HG.out.2.2.2.2 hto)
        clear hto APC c0 c1 b0 b1 b2 b3 b4 b5
        have HEND : Hid (∃ w6, w6 = w5) := hid ⟨_, rfl⟩
        by_cases hz : C = 0
        · subst hz
          have HT1 := HT.out
          rw [if_pos rfl] at HT1
          obtain ⟨G5, g1, g2, g3, g4, g5⟩ := HT1
          have HG5 := hid (And.intro g1 (And.intro g2 (And.intro g3 (And.intro g4 g5))))
          have UN : Hid (Calls Tryz.prog 30 #[.pointer (some ⟨W, 0, none⟩)] w5 fun e w' => e = .returned (.bool true) ∧ WalTo w5 W n (fRed seed) l G5 w') := hid (by
            have := wUndo_any g1 (by rw [List.length_append, List.length_singleton]; have := HLE.out; omega) (okAll_snoc HOK.out HCK.out.symm) (fun c hc => by
              rcases List.mem_append.1 hc with e | e
              · exact (HMB.out c e).n
              · obtain rfl := List.mem_singleton.1 e
                exact HBB.out.n)
            rw [List.dropLast_concat, show decide (0 < (l ++ [b]).length) = true by simp] at this
            exact this)
          clear g1 g2 g3 g4 g5 HT HEND
          go_wp2_with fail
          refine (UN.out).mono ?_
          rintro e w6 ⟨rfl, hto⟩
          have HP6 : Hid (PlI u1 w6 W n (fRed seed) l (.slice la l.length lc)) := hid (PlI.turn HG5.out.2.1 HG5.out.2.2.1 HG5.out.2.2.2.1 HG5.out.2.2.2.2 hto)
          clear hto UN
          have X6 : Hid (Ext u1 w6) := hid (by obtain ⟨G, h1, h2, h3, h4, h5⟩ := HP6.out; exact h5)
          go_wp2_with fail
          refine (ENC.out _ HP6.out).mono ?_
          rintro e w7 ⟨v7, rfl, ho7, hx7, -⟩
          have HP7 := hid (HP6.out.ext hx7)
          have X7 := hid (X6.out.trans hx7)
          have hcv := run_str w7 _ _ ho7
          obtain ⟨qa7, qc7, rfl, -⟩ := ownsRow_rd ho7
          have SMW := hid (SAME.out w7 HP7.out)
          obtain ⟨⟨⟨c0, c1⟩, -⟩, -⟩ := HSV.out w7 (X1.out.trans X7.out)
          clear ho7 hx7 HP6
          go_wp2_with fail
          refine (SMW.out).mono ?_
          rintro e w8 ⟨rfl, hx⟩
          have X8 := hid (X7.out.trans hx)
          clear hx SMW c0 c1 hcv
          go_wp2_with fail
          go_ret
          exact ⟨rfl, HX0.out.trans (X1.out.trans X8.out)⟩
        · have hzB : decide (C = 0) = false := decide_eq_false hz
          have hzB2 : (C == 0) = false := by rw [beq_eq_false_iff_ne]; exact hz
          have HT1 := HT.out
          rw [if_neg hz] at HT1
          have HP6 : Hid (PlI u1 w5 W n (fRed seed) l (.slice la l.length lc)) := hid HT1
          clear HT1 HT hz HEND
          have X6 : Hid (Ext u1 w5) := hid (by obtain ⟨G, h1, h2, h3, h4, h5⟩ := HP6.out; exact h5)
          go_wp2_with fail
          refine (ENC.out _ HP6.out).mono ?_
          rintro e w7 ⟨v7, rfl, ho7, hx7, -⟩
          have HP7 := hid (HP6.out.ext hx7)
          have X7 := hid (X6.out.trans hx7)
          have hcv := run_str w7 _ _ ho7
          obtain ⟨qa7, qc7, rfl, -⟩ := ownsRow_rd ho7
          have SMW := hid (SAME.out w7 HP7.out)
          obtain ⟨⟨⟨c0, c1⟩, -⟩, -⟩ := HSV.out w7 (X1.out.trans X7.out)
          clear ho7 hx7 HP6
          go_wp2_with fail
          refine (SMW.out).mono ?_
          rintro e w8 ⟨rfl, hx⟩
          have X8 := hid (X7.out.trans hx)
          clear hx SMW c0 c1 hcv
          go_wp2_with fail
          go_ret
          exact ⟨rfl, HX0.out.trans (X1.out.trans X8.out)⟩
  · intro K hK
    go_wp2_with fail
    have hB := heap_new u0 (.cells #[.bool false, uv b.parent, .int .i64 b.height, uv b.miner, uv b.work, uv b.nonce, .slice ta b.txs.length tc] 78)
    have hx11 := (Ext.refl u0).alloc (.cells #[.bool false, uv b.parent, .int .i64 b.height, uv b.miner, uv b.work, uv b.nonce, .slice ta b.txs.length tc] 78)
    have hBs := HS1.2.size
    obtain ⟨Bk, hBe⟩ : ∃ Bk, Bk = u0.heap.size := ⟨_, rfl⟩
    rw [← hBe] at hB
    try rw [← hBe]
    generalize u0.alloc (.cells #[.bool false, uv b.parent, .int .i64 b.height, uv b.miner, uv b.work, uv b.nonce, .slice ta b.txs.length tc] 78) = u11 at *
    have HB11 : Hid (w0.heap.size ≤ Bk) := hid (by omega)
    have HS1' := HSV.out u11 (HS1.2.trans hx11)
    clear HS1 hx11 hBs
    have HS1 := HS1'
    clear HS1'
    refine ⟨fun _ => HS1, ?_⟩
    try rw [← hops]
    refine N_one (i := 5) (by rw [hops, List.getElem?_toArray]; rfl) (by rw [hops]; kernel_rfl) (by first | rfl | (rw [hops]; rfl)) ?_
    intro K hK
    go_wp2_with fail
    have hE := own_emptyO u11
    have hx5 := (Ext.refl u11).alloc (.cells #[] 78)
    have hEs := HS1.2.size
    obtain ⟨E, hEe⟩ : ∃ E, E = u11.heap.size := ⟨_, rfl⟩
    rw [← hEe] at hE
    try rw [← hEe]
    generalize u11.alloc (.cells #[] 78) = u5 at *
    have HE5 : Hid (w0.heap.size ≤ E) := hid (by omega)
    have hElt := ownsRow_lt hE (show blk (.slice (some ⟨E, 0, none⟩) 0 0) = some E from rfl)
    have hBlt := heap_lt hB
    have HBE : Hid (¬ Bk = E) := hid (by omega)
    have hB := hx5.heap_some hB
    have HS1' := HSV.out u5 (HS1.2.trans hx5)
    clear HS1 hx5 hEs
    have HS1 := HS1'
    clear HS1'
    refine ⟨fun _ => HS1, ?_⟩
    try rw [← hops]
    refine N_one (i := 8) (by rw [hops, List.getElem?_toArray]; rfl) (by rw [hops]; kernel_rfl) (by first | rfl | (rw [hops]; rfl)) ?_
    intro K hK
    refine wp_app' _ _ 23 rfl 78 j0 (.agg #[.bool false, .int .u64 0, .int .i64 0, .int .u64 0, .int .u64 0, .int .u64 0, .slice none 0 0]) 7 72 (by kernel_rfl) HJ.out.1 HJ.out.2.1 HJ.out.2.2.1 HJ.out.2.2.2 rfl (by decide) (.slice (some ⟨E, 0, none⟩) 0 0) 0 [] rfl hE (.slice oa oz.length oc) oz.length (X.flatMap opCells) rfl (HXX.out.2.1.ext (HX0.out.trans HS1.2)) (by rw [flat_len opCells_len, HXX.out.2.2.2]) (op_one HXX.out.2.2.1) (by have := HOLL.out; unfold maxLen; omega) (by have := HOLL.out; omega) ?_
    intro v8 u8 hown8 hk8 hb8
    rw [Nat.zero_add, List.nil_append] at hown8
    have HO8 : Hid (∀ k, blk v8 = some k → w0.heap.size ≤ k) := hid fun k hk => by
      rcases hb8 with e | e
      · rw [e] at hk
        have hk2 : E = k := Option.some.inj hk
        have := HE5.out
        omega
      · rw [e] at hk
        have hk2 := Option.some.inj hk
        have := HS1.2.size
        omega
    have hx8 : Ext w0 u8 := HS1.2.kp hk8 (fun k e => by have e2 : k = E := Option.some.inj e; have := HE5.out; omega)
    have hB := hk8.heap_some (fun e => HBE.out (Option.some.inj e)) hB
    have HS1' := HSV.out u8 hx8
    obtain ⟨va8, vc8, rfl, -⟩ := ownsRow_rd hown8
    clear HS1 hx8 hk8 hb8 hE
    have HS1 := HS1'
    clear HS1'
    refine hK _ _ ⟨fun _ => HS1, ?_⟩
    clear hK K
    refine N_one (i := 12) (by rw [hops, List.getElem?_toArray]; rfl) (by rw [hops]; kernel_rfl) (by first | rfl | (rw [hops]; rfl)) ?_
    intro K hK
    refine wp_app' _ _ 23 rfl 78 j0 (.agg #[.bool false, .int .u64 0, .int .i64 0, .int .u64 0, .int .u64 0, .int .u64 0, .slice none 0 0]) 7 72 (by kernel_rfl) HJ.out.1 HJ.out.2.1 HJ.out.2.2.1 HJ.out.2.2.2 rfl (by decide) (.slice va8 oz.length vc8) oz.length (X.flatMap opCells) rfl hown8 (.slice (some ⟨Bk, 0, none⟩) 1 1) 1 [.bool false, uv b.parent, .int .i64 b.height, uv b.miner, uv b.work, uv b.nonce, .slice ta b.txs.length tc] rfl (RdC.weak ⟨_, 1, rfl, Nat.le_refl _, by unfold maxLen; omega, (fun h => by cases h), fun ad ha => by
      obtain rfl := Option.some.inj ha
      exact ⟨rfl, fun j u hu => by rw [cell_of hB]; simpa using hu⟩⟩) rfl (by intro u hu; simp only [List.mem_cons, List.not_mem_nil, or_false] at hu; rcases hu with rfl | rfl | rfl | rfl | rfl | rfl | rfl <;> rfl) (by have := HOLL.out; unfold maxLen; omega) (by have := HOLL.out; omega) ?_
    intro v12 u12 hown hk12 hb12
    have hx12 : Ext w0 u12 := HS1.2.kp hk12 (fun k e => HO8.out k e.symm)
    have SMC : Hid (Calls Tryz.prog 19 #[.int .i64 d, v12] u12 fun e w' => e = .returned (.bool S) ∧ Ext u12 w') := hid (by
      have := RdWops.snoc (w := w) (u := u12) (v := v12) (X := X) (b := b) (tv := .slice ta b.txs.length tc) HXX.out.2.2.1 HBT.out (HX0.out.trans hx12) (by rw [HXX.out.2.2.2]; exact hown)
      rw [HXX.out.1] at this
      exact SM.out u12 v12 this)
    obtain ⟨va, vc, rfl, -⟩ := ownsRow_rd hown
    have HS2 := HSV.out u12 hx12
    clear HS1 hx12 hk12 hb12 hown hown8 hB HO8
    refine hK _ _ ⟨fun _ => HS2, ?_⟩
    clear hK K
    refine N_one (i := 13) (by rw [hops, List.getElem?_toArray]; rfl) (by rw [hops]; kernel_rfl) (by first | rfl | (rw [hops]; rfl)) ?_
    intro K hK
    go_wp2_with fail
    refine (SMC.out).mono ?_
    rintro e u1 ⟨rfl, hx⟩
    have X1 := hid (HS2.2.trans hx)
    clear hx HS2 SMC
    refine hK _ _ ⟨fun h => absurd h (by decide), ?_⟩
    clear hK K
    refine N_one (i := 14) (by rw [hops, List.getElem?_toArray]; rfl) (by rw [hops]; kernel_rfl) (by first | rfl | (rw [hops]; rfl)) ?_
    intro K hK
    go_wp2_with fail
    refine ⟨fun h => absurd h (by decide), ?_⟩
    try rw [← hops]
    refine N_one (i := 15) (by rw [hops, List.getElem?_toArray]; rfl) (by rw [hops]; kernel_rfl) (by first | rfl | (rw [hops]; rfl)) ?_
    intro K hK
    go_wp2_with fail
    refine ⟨fun h => absurd h (by decide), ?_⟩
    try rw [← hops]
    refine N_done (by rw [hops]; kernel_rfl) ?_
    clear hops ops
    cases S with
    | false =>
      go_wp2_with fail
      refine (AW.out _).mono ?_
      rintro e u2 ⟨rfl, hx⟩
      have X2 := hid (X1.out.trans hx)
      clear hx
      go_wp2_with fail
      go_ret
      exact ⟨rfl, HX0.out.trans X2.out⟩
    | true =>
      obtain ⟨n, rfl, h1, h6, h8, hbs⟩ := small_facts HS.out.symm
      have HD := hid (And.intro h1 h6)
      have HBB := hid (hbs ⟨false, b⟩ (by simp))
      have h8' : oz.length ≤ 7 := by rw [List.length_append, List.length_singleton] at h8; omega
      have PL := hid (play49_any n h1 (by omega) seed (.slice oa oz.length oc) oz u1 (HH.out.ext (HX0.out.trans X1.out)) (fun o ho => hbs o (by simp [ho])) (by omega))
      have HOK := hid (playW_ok n oz)
      have HLE : Hid ((playW n oz).length ≤ 8) := hid (Nat.le_trans playW_len (by omega))
      have HMB : Hid (∀ b ∈ playW n oz, BSm b) := hid fun c hc => by
        obtain ⟨o, ho, rfl⟩ := playW_mem hc
        exact hbs o (by simp [ho])
      obtain ⟨l, hl⟩ : ∃ l, l = playW n oz := ⟨_, rfl⟩
      rw [← hl] at PL HOK HLE HMB
      obtain ⟨⟨⟨c0, c1⟩, -⟩, -⟩ := HSV.out u1 X1.out
      clear hl h1 h6 h8 h8' hbs
      go_wp2_with fail
      refine (PL.out).mono ?_
      rintro e w3 ⟨W, lv, rfl, hpl⟩
      have HPL := hid hpl
      have hrd : ∃ la lc, lv = .slice la l.length lc := by
        obtain ⟨G, h1, h2, h3, -⟩ := hpl
        obtain ⟨la, lc, e, -⟩ := h3.shape
        exact ⟨la, lc, e⟩
      obtain ⟨la, lc, rfl⟩ := hrd
      have X3 : Hid (Ext u1 w3) := hid (by obtain ⟨G, h1, h2, h3, h4, h5⟩ := hpl; exact h5)
      clear hpl c0 c1 PL
      have ENC : Hid (∀ u, PlI u1 u W n (fRed seed) l (.slice la l.length lc) → Calls Tryz.prog 39 #[.pointer (some ⟨W, 0, none⟩)] u (NewB u (walB l.length (stW seed l).leaves (stW seed l).notes))) := hid fun u hp => by
        obtain ⟨G, h1, -⟩ := hp
        have := wEncode_any h1 HOK.out
        rw [stW_red] at this
        exact this
      have SAME : Hid (∀ u, PlI u1 u W n (fRed seed) l (.slice la l.length lc) → Calls Tryz.prog 31 #[.pointer (some ⟨W, 0, none⟩), .int .i64 (n : Int), uv seed, .slice la l.length lc] u fun e w' => e = .returned (.bool true) ∧ Ext u w') := hid fun u hp => by
        obtain ⟨G, h1, -, h3, -, h5⟩ := hp
        exact same49_any h1 HOK.out _ (h3.old h5) (by have := HLE.out; omega) HMB.out
      generalize walB l.length (stW seed l).leaves (stW seed l).notes = BY at *
      go_wp2_with fail
      refine (ENC.out _ HPL.out).mono ?_
      rintro e w4 ⟨v4, rfl, ho4, hx4, -⟩
      have HP4 := hid (HPL.out.ext hx4)
      have X4 := hid (X3.out.trans hx4)
      have hcv := run_str w4 _ _ ho4
      obtain ⟨qa4, qc4, rfl, -⟩ := ownsRow_rd ho4
      clear ho4 hx4 HPL
      obtain ⟨⟨⟨c0, c1⟩, b0, b1, b2, b3, b4, b5⟩, -⟩ := HSV.out w4 (X1.out.trans X4.out)
      go_wp2_with fail
      clear hcv
      have APP : Hid (∃ G, Calls Tryz.prog 42 #[.pointer (some ⟨W, 0, none⟩), blkVal b (.slice ta b.txs.length tc)] w4 (fun e w' => e = .returned (.int .i64 (checkW n l b)) ∧ WalTo w4 W n (fRed seed) (if checkW n l b = 0 then l ++ [b] else l) G w') ∧ WalAt w4 W n (fRed seed) l G ∧ (∀ i, G i → u1.heap.size ≤ i) ∧ RdBs u1 w4 (.slice la l.length lc) l ∧ (∀ b, blk (.slice la l.length lc) = some b → ¬ G b ∧ b < w4.heap.size) ∧ Ext u1 w4) := hid (by
        obtain ⟨G, h1, h2, h3, h4, h5⟩ := HP4.out
        exact ⟨G, wApply_any h1 (by have := HLE.out; omega) HOK.out h5 h2 b _ (HBT.out.ext (HX0.out.trans X1.out)) HBB.out.n HBB.out.t, h1, h2, h3, h4, h5⟩)
      obtain ⟨G, app, g1, g2, g3, g4, g5⟩ := APP.out
      have HG := hid (And.intro g1 (And.intro g2 (And.intro g3 (And.intro g4 g5))))
      obtain ⟨C, hC⟩ : ∃ C, C = checkW n l b := ⟨_, rfl⟩
      rw [← hC] at app
      have APC := hid app
      have HCK := hid hC
      clear APP app g1 g2 g3 g4 g5 hC
      refine (APC.out).mono ?_
      rintro e w5 ⟨rfl, hto⟩
      have HT := hid (PlI.turn HG.out.2.1 HG.out.2.2.1 HG.out.2.2.2.1 HG.out.2.2.2.2 hto)
      clear hto APC c0 c1 b0 b1 b2 b3 b4 b5
      have HEND : Hid (∃ w6, w6 = w5) := hid ⟨_, rfl⟩
      by_cases hz : C = 0
      · subst hz
        have HT1 := HT.out
        rw [if_pos rfl] at HT1
        obtain ⟨G5, g1, g2, g3, g4, g5⟩ := HT1
        have HG5 := hid (And.intro g1 (And.intro g2 (And.intro g3 (And.intro g4 g5))))
        have UN : Hid (Calls Tryz.prog 30 #[.pointer (some ⟨W, 0, none⟩)] w5 fun e w' => e = .returned (.bool true) ∧ WalTo w5 W n (fRed seed) l G5 w') := hid (by
          have := wUndo_any g1 (by rw [List.length_append, List.length_singleton]; have := HLE.out; omega) (okAll_snoc HOK.out HCK.out.symm) (fun c hc => by
            rcases List.mem_append.1 hc with e | e
            · exact (HMB.out c e).n
            · obtain rfl := List.mem_singleton.1 e
              exact HBB.out.n)
          rw [List.dropLast_concat, show decide (0 < (l ++ [b]).length) = true by simp] at this
          exact this)
        clear g1 g2 g3 g4 g5 HT HEND
        go_wp2_with fail
        refine (UN.out).mono ?_
        rintro e w6 ⟨rfl, hto⟩
        have HP6 : Hid (PlI u1 w6 W n (fRed seed) l (.slice la l.length lc)) := hid (PlI.turn HG5.out.2.1 HG5.out.2.2.1 HG5.out.2.2.2.1 HG5.out.2.2.2.2 hto)
        clear hto UN
        have X6 : Hid (Ext u1 w6) := hid (by obtain ⟨G, h1, h2, h3, h4, h5⟩ := HP6.out; exact h5)
        go_wp2_with fail
        refine (ENC.out _ HP6.out).mono ?_
        rintro e w7 ⟨v7, rfl, ho7, hx7, -⟩
        have HP7 := hid (HP6.out.ext hx7)
        have X7 := hid (X6.out.trans hx7)
        have hcv := run_str w7 _ _ ho7
        obtain ⟨qa7, qc7, rfl, -⟩ := ownsRow_rd ho7
        have SMW := hid (SAME.out w7 HP7.out)
        obtain ⟨⟨⟨c0, c1⟩, -⟩, -⟩ := HSV.out w7 (X1.out.trans X7.out)
        clear ho7 hx7 HP6
        go_wp2_with fail
        refine (SMW.out).mono ?_
        rintro e w8 ⟨rfl, hx⟩
        have X8 := hid (X7.out.trans hx)
        clear hx SMW c0 c1 hcv
        go_wp2_with fail
        go_ret
        exact ⟨rfl, HX0.out.trans (X1.out.trans X8.out)⟩
      · have hzB : decide (C = 0) = false := decide_eq_false hz
        have hzB2 : (C == 0) = false := by rw [beq_eq_false_iff_ne]; exact hz
        have HT1 := HT.out
        rw [if_neg hz] at HT1
        have HP6 : Hid (PlI u1 w5 W n (fRed seed) l (.slice la l.length lc)) := hid HT1
        clear HT1 HT hz HEND
        have X6 : Hid (Ext u1 w5) := hid (by obtain ⟨G, h1, h2, h3, h4, h5⟩ := HP6.out; exact h5)
        go_wp2_with fail
        refine (ENC.out _ HP6.out).mono ?_
        rintro e w7 ⟨v7, rfl, ho7, hx7, -⟩
        have HP7 := hid (HP6.out.ext hx7)
        have X7 := hid (X6.out.trans hx7)
        have hcv := run_str w7 _ _ ho7
        obtain ⟨qa7, qc7, rfl, -⟩ := ownsRow_rd ho7
        have SMW := hid (SAME.out w7 HP7.out)
        obtain ⟨⟨⟨c0, c1⟩, -⟩, -⟩ := HSV.out w7 (X1.out.trans X7.out)
        clear ho7 hx7 HP6
        go_wp2_with fail
        refine (SMW.out).mono ?_
        rintro e w8 ⟨rfl, hx⟩
        have X8 := hid (X7.out.trans hx)
        clear hx SMW c0 c1 hcv
        go_wp2_with fail
        go_ret
        exact ⟨rfl, HX0.out.trans (X1.out.trans X8.out)⟩
end Go.Proofs.YtcikjcjfcanloaaGreat
namespace Go.Proofs.YtcikjcjfcanloaaGreat
open Go.ChangeShapes Go.WideShapes Go.ChangeAt Go.RowKit Go.Joins
section
variable {H : Type} {enc : TypeId × Value → H} {W : World} {base : Nat} {sp : Nat → Bool} {held : Bool}
set_option maxRecDepth 100000 in
theorem open_block {r : Reach} {v : Value} {d : DataW H} {p : List MemPlace} {b0 : Nat} (hv : Value.okWide Tryz.prog W r b0 75 v) {b' : Nat} (h : DataW.Trod enc Tryz.prog W b' sp held 75 v d p) : ∃ (b : BlkT) (tv : Value), v = blkVal b tv ∧ RdTs W tv b.txs := by
  obtain ⟨cs, rfl, hsz⟩ := okWide_struct Tryz.underlying75 hv
  rw [blk_cells6] at hsz
  obtain ⟨fuel, hf⟩ := h
  obtain ⟨cl⟩ := cs
  obtain ⟨xs, m, -, -, -, hxs, hf⟩ := DataW.trod_struct Tryz.underlying75 hf
  have hxl : xs.length = 6 := hxs
  match cl, hsz with
  | [c0, c1, c2, c3, c4, c5], _ =>
    have h0 := fld hf 0 rfl (by omega) 22 0 1 rfl rfl u64_cell1
    have h1 := fld hf 1 rfl (by omega) 3 1 1 rfl rfl int_cell1
    have h2 := fld hf 2 rfl (by omega) 22 2 1 rfl rfl u64_cell1
    have h3 := fld hf 3 rfl (by omega) 22 3 1 rfl rfl u64_cell1
    have h4 := fld hf 4 rfl (by omega) 22 4 1 rfl rfl u64_cell1
    have h5 := fld hf 5 rfl (by omega) 73 5 1 rfl rfl txs_cell1
    obtain ⟨a0, rfl⟩ := open_u64 (v := c0) h0
    obtain ⟨a1, rfl⟩ := open_int (v := c1) h1
    obtain ⟨a2, rfl⟩ := open_u64 (v := c2) h2
    obtain ⟨a3, rfl⟩ := open_u64 (v := c3) h3
    obtain ⟨a4, rfl⟩ := open_u64 (v := c4) h4
    obtain ⟨a5, m5⟩ := open_txs (v := c5) h5
    exact ⟨⟨a0, a1, a2, a3, a4, a5⟩, c5, rfl, m5⟩
end
end Go.Proofs.YtcikjcjfcanloaaGreat
namespace Go.Proofs.YtcikjcjfcanloaaGreat
open Go.ChangeShapes Go.WideShapes Go.ChangeAt Go.RowKit Go.Joins
theorem op_bytes : Tryz.prog.bytesOf 78 = 72 := by kernel_rfl
section
variable {H : Type} {enc : TypeId × Value → H} {W : World} {base : Nat} {sp : Nat → Bool} {held : Bool}
set_option maxRecDepth 100000 in
theorem case_room {v : Value} {d : DataW H} {p : List MemPlace} {b' : Nat} {dd : Int} {oa : Option Addr} {n oc : Nat} (hv : v = .agg #[.int .i64 dd, .slice oa n oc]) (h : DataW.Trod enc Tryz.prog W b' sp held 25 v d p)
    (hw : ∀ k ∈ d.weights Tryz.prog 25, k ≤ reachBytes) : n * 72 ≤ 140737488351232 := by
  subst hv
  obtain ⟨fuel, hf⟩ := h
  obtain ⟨xs, m, -, hx, -, hxs, hf⟩ := DataW.trod_struct Tryz.underlying25 hf
  have hxl : xs.length = 2 := hxs
  have h1 := fld hf 1 rfl (by omega) 23 1 1 rfl rfl ops_cell1
  injection hx with hd hp
  rcases Go.Deep.open_slice Tryz.underlying23 h1 with ⟨hc, -⟩ | ⟨a, len, cap, m', n', D, Pl, hc, hb, hl, hm, hmm, hx1, -⟩
  · have hc' : [Value.slice oa n oc] = [Value.slice none 0 0] := hc
    injection hc' with e1 e2
    injection e1 with e3 e4 e5
    omega
  · have hc' : [Value.slice oa n oc] = [Value.slice (some a) len cap] := hc
    injection hc' with e1 e2
    injection e1 with e3 e4 e5
    have h2 : (xs.map (·.1))[1]? = some (.slice ((List.range len).map D) ((List.range (m' - len)).map fun j => D (len + j))) := by
      rw [List.getElem?_map, List.getElem?_eq_getElem (by omega), hx1]
      rfl
    have h3 := hw ((((List.range len).map D).length + ((List.range (m' - len)).map fun j => D (len + j)).length) * Tryz.prog.bytesOf 78) (by
      rw [hd]
      simp only [DataW.weights, Tryz.underlying25]
      refine DataW.weights_mem_each (j := 1) (t := 23) (by kernel_rfl) h2 _ ?_
      simp [DataW.weights, Tryz.underlying23])
    rw [op_bytes, List.length_map, List.length_range] at h3
    have h4 : n * 72 ≤ (len + ((List.range (m' - len)).map fun j => D (len + j)).length) * 72 := Nat.mul_le_mul_right _ (by omega)
    unfold reachBytes at h3
    omega
end
end Go.Proofs.YtcikjcjfcanloaaGreat
