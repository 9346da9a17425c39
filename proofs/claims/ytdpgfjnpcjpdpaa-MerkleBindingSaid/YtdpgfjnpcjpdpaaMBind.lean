/- MerkleBinding returns true: the walk. -/
import Derived.Test.YtdpgfjnpcjpdpaaBind
import Derived.Test.YtdpgfjnpcjpdpaaOwn12
import Derived.Test.YtdpgfjnpcjpdpaaMUnk
import Derived.Test.YtdpgfjnpcjpdpaaAllocs
set_option linter.unusedSimpArgs false
namespace Go.Proofs.Ytdpgfjnpcjpdpaa
open Go.RowKit
attribute [local irreducible] perm fAdd fMul fPow fSub fNeg fRed hashU drawOf nextState awT

theorem stored9 {v3 v v' : World} {cs : Array Value} {T : TypeId} {pv : Value} {l : List UInt64} (hv : Ext v3 v) (hx : Ext (v.alloc (.cells cs T)) v') (hc : cs.size = 3) (ho : OwnU v' pv l) (hn : ∀ k, blk pv = some k → v3.heap.size ≤ k ∧ k ≠ v.heap.size) (x y z : Value) :
    (((v'.setCell ⟨v.heap.size, 0, none⟩ x).setCell ⟨v.heap.size, 1, none⟩ y).setCell ⟨v.heap.size, 2, none⟩ z).heap[v.heap.size]? = some (.cells #[x, y, z] T (0, 0)) ∧
    OwnU (((v'.setCell ⟨v.heap.size, 0, none⟩ x).setCell ⟨v.heap.size, 1, none⟩ y).setCell ⟨v.heap.size, 2, none⟩ z) pv l ∧
    Ext v3 (((v'.setCell ⟨v.heap.size, 0, none⟩ x).setCell ⟨v.heap.size, 1, none⟩ y).setCell ⟨v.heap.size, 2, none⟩ z) ∧ v3.heap.size ≤ v.heap.size ∧ ∀ k, blk pv = some k → v3.heap.size ≤ k := by
  have hb := hx.heap_some (heap_new v (.cells cs T))
  have hs : Kp (fun k => k = v.heap.size) v' (((v'.setCell ⟨v.heap.size, 0, none⟩ x).setCell ⟨v.heap.size, 1, none⟩ y).setCell ⟨v.heap.size, 2, none⟩ z) :=
    (((Kp.refl (fun k => k = v.heap.size) v').setCell (p := ⟨v.heap.size, 0, none⟩) (.inl rfl) _).setCell (p := ⟨v.heap.size, 1, none⟩) (.inl rfl) _).setCell (p := ⟨v.heap.size, 2, none⟩) (.inl rfl) _
  refine ⟨?_, ownsRow_kp ho hs (fun k hk h => (hn k hk).2 h), ((hv.alloc _).trans hx).kp hs (by rintro k rfl; exact hv.size), hv.size, fun k hk => (hn k hk).1⟩
  rw [heap_setCell_same (heap_setCell_same (heap_setCell_same hb 0 x) 1 y) 2 z]
  obtain ⟨cl⟩ := cs
  match cl, hc with
  | [a, b, c], _ => rfl
set_option maxRecDepth 100000 in
set_option maxHeartbeats 12800000 in
theorem MerkleBinding_any {w : World} {real : Bool} {seed : UInt64} {I : Int} {qv lv sv lf pv : Value} {Q : List Qn} {leaves : Lv} {salts : List UInt64} {X : Opn} (hq : RdQ' w qv Q) (hl : RdL w lv leaves) (hs : RdU w sv salts) (hf : RdU' w lf X.leaf) (hp : RdU' w pv X.path) :
    Calls Try.prog 13 #[.agg #[.bool real, uv seed, qv], .agg #[lv, sv, .int .i64 I, lf, uv X.salt, pv]] w fun e w' => e = .returned (.bool true) ∧ Ext w w' := by
  obtain ⟨qa, qc, rfl, -⟩ := id hq
  obtain ⟨la, lc, rfl, hlc, -⟩ := hl.shape
  obtain ⟨sa, sc, rfl, -⟩ := id hs
  obtain ⟨fa, fc, rfl, -⟩ := id hf
  obtain ⟨pa, pc, rfl, -⟩ := id hp
  obtain ⟨w0, hw0⟩ : ∃ w0, w0 = (w.alloc (.cells #[.bool real, uv seed, .slice qa Q.length qc] 66)).alloc (.cells #[.slice la leaves.length lc, .slice sa salts.length sc, .int .i64 I, .slice fa X.leaf.length fc, uv X.salt, .slice pa X.path.length pc] 116) := ⟨_, rfl⟩
  have hx0 : Ext w w0 := by rw [hw0]; exact ((Ext.refl w).alloc _).alloc _
  have hwb : w0.heap[w.heap.size]? = some (.cells #[.bool real, uv seed, .slice qa Q.length qc] 66 (0, 0)) := by rw [hw0]; exact heap_alloc_some (heap_new _ _)
  have hlb : w0.heap[w.heap.size + 1]? = some (.cells #[.slice la leaves.length lc, .slice sa salts.length sc, .int .i64 I, .slice fa X.leaf.length fc, uv X.salt, .slice pa X.path.length pc] 116 (0, 0)) := by
    rw [hw0]
    have := heap_new (w.alloc (.cells #[.bool real, uv seed, .slice qa Q.length qc] 66)) (.cells #[.slice la leaves.length lc, .slice sa salts.length sc, .int .i64 I, .slice fa X.leaf.length fc, uv X.salt, .slice pa X.path.length pc] 116)
    rwa [World.size_alloc] at this
  have HX0 := hid hx0
  have HWB := hid hwb
  have HLB := hid hlb
  have HQ := hid hq
  have HL := hid hl
  have HS := hid hs
  have HF := hid hf
  have HP := hid hp
  have HA := hid awake12_any
  have HW0 := hid hw0
  clear hx0 hwb hlb hq hl hs hf hp hw0
  go_enter Try.func13, Try.ntmps13
  go_wp2_with fail
  rw [← HW0.out]
  refine (HA.out _).mono ?_
  rintro e w1 ⟨rfl, hx1⟩
  have hb1 := hx1.heap_some HWB.out
  have c0 : w1.cell? ⟨w.heap.size, 0, none⟩ = some (.bool real) := cell_of hb1 0
  have c1 : w1.cell? ⟨w.heap.size, 1, none⟩ = some (uv seed) := cell_of hb1 1
  have c2 : w1.cell? ⟨w.heap.size, 2, none⟩ = some (.slice qa Q.length qc) := cell_of hb1 2
  have HX1 := hid (HX0.out.trans hx1)
  have HWB1 := hid hb1
  have HLB1 := hid (hx1.heap_some HLB.out)
  clear hx1 hb1
  go_wp2_with fail
  refine (Few_any (HQ.out.ext HX1.out)).mono ?_
  rintro e w2 ⟨rfl, hx2⟩
  have HX2 := hid (HX1.out.trans hx2)
  have HWB2 := hid (hx2.heap_some HWB1.out)
  have HLB2 := hid (hx2.heap_some HLB1.out)
  have HSH := hid (Short_any (sa := sa) (sc := sc) (salts := salts) (HL.out.ext HX2.out))
  have HSX := hid (short_any X fa pa fc pc)
  have hlcs : ∀ v, Ext w2 v → v.cell? ⟨w.heap.size + 1, 0, none⟩ = some (.slice la leaves.length lc) ∧ v.cell? ⟨w.heap.size + 1, 1, none⟩ = some (.slice sa salts.length sc) ∧ v.cell? ⟨w.heap.size + 1, 2, none⟩ = some (.int .i64 I) ∧ v.cell? ⟨w.heap.size + 1, 3, none⟩ = some (.slice fa X.leaf.length fc) ∧ v.cell? ⟨w.heap.size + 1, 4, none⟩ = some (uv X.salt) ∧ v.cell? ⟨w.heap.size + 1, 5, none⟩ = some (.slice pa X.path.length pc) := fun v k => ⟨k.cell_some (cell_of HLB2.out 0), k.cell_some (cell_of HLB2.out 1), k.cell_some (cell_of HLB2.out 2), k.cell_some (cell_of HLB2.out 3), k.cell_some (cell_of HLB2.out 4), k.cell_some (cell_of HLB2.out 5)⟩
  obtain ⟨l0, l1, l2, l3, l4, l5⟩ := hlcs w2 (Ext.refl _)
  have HLC := hid hlcs
  clear hx2 c0 c1 c2 hlcs
  cases hf : fewW Q with
  | false =>
    clear hf
    go_wp2_with fail
    refine (HA.out _).mono ?_
    rintro e wz ⟨rfl, hxz⟩
    have HXZ := hid (HX2.out.trans hxz)
    clear hxz
    go_wp2_with fail
    go_ret
    exact ⟨rfl, HXZ.out⟩
  | true =>
    have HFW := hid hf
    clear hf
    go_wp2_with fail
    refine HSH.out.mono ?_
    rintro e w3 ⟨rfl, rfl⟩
    cases hsh : shortL leaves salts with
    | false =>
      clear hsh
      go_wp2_with fail
      refine (HA.out _).mono ?_
      rintro e wz ⟨rfl, hxz⟩
      have HXZ := hid (HX2.out.trans hxz)
      clear hxz
      go_wp2_with fail
      go_ret
      exact ⟨rfl, HXZ.out⟩
    | true =>
      have HSP := hid (shortL_parts hsh)
      clear hsh
      go_wp2_with fail
      refine (HSX.out _).mono ?_
      rintro e w3 ⟨rfl, hx3⟩
      have HX3 := hid (HX2.out.trans hx3)
      have HWB3 := hid (hx3.heap_some HWB2.out)
      have HLC3 : Hid (∀ v, Ext w3 v → v.cell? ⟨w.heap.size + 1, 0, none⟩ = some (.slice la leaves.length lc) ∧ v.cell? ⟨w.heap.size + 1, 1, none⟩ = some (.slice sa salts.length sc) ∧ v.cell? ⟨w.heap.size + 1, 2, none⟩ = some (.int .i64 I) ∧ v.cell? ⟨w.heap.size + 1, 3, none⟩ = some (.slice fa X.leaf.length fc) ∧ v.cell? ⟨w.heap.size + 1, 4, none⟩ = some (uv X.salt) ∧ v.cell? ⟨w.heap.size + 1, 5, none⟩ = some (.slice pa X.path.length pc)) := hid fun v k => HLC.out v (hx3.trans k)
      clear l0 l1 l2 l3 l4 l5 hx3
      obtain ⟨l0, l1, l2, l3, l4, l5⟩ := HLC3.out w3 (Ext.refl _)
      cases hs : X.short with
      | false =>
        clear hs
        go_wp2_with fail
        refine (HA.out _).mono ?_
        rintro e wz ⟨rfl, hxz⟩
        have HXZ := hid (HX3.out.trans hxz)
        clear hxz
        go_wp2_with fail
        go_ret
        exact ⟨rfl, HXZ.out⟩
      | true =>
        have hsl : X.leaf.length ≤ 10 ∧ X.path.length ≤ 12 := by
          unfold Opn.short at hs
          simp only [Bool.and_eq_true, decide_eq_true_eq] at hs
          exact hs
        have HSL := hid hsl
        clear hs hsl
        by_cases hi0 : I < 0
        · have hd : decide (I < 0) = true := by simp [hi0]
          clear hi0
          go_wp2_with fail
          refine (HA.out _).mono ?_
          rintro e wz ⟨rfl, hxz⟩
          have HXZ := hid (HX3.out.trans hxz)
          clear hxz
          go_wp2_with fail
          go_ret
          exact ⟨rfl, HXZ.out⟩
        have hd : decide (I < 0) = false := by simp; omega
        by_cases hi1 : (leaves.length : Int) ≤ I
        · have hd2 : decide ((leaves.length : Int) ≤ I) = true := by simp [hi1]
          clear hi0 hi1
          go_wp2_with fail
          refine (HA.out _).mono ?_
          rintro e wz ⟨rfl, hxz⟩
          have HXZ := hid (HX3.out.trans hxz)
          clear hxz
          go_wp2_with fail
          go_ret
          exact ⟨rfl, HXZ.out⟩
        have hd2 : decide ((leaves.length : Int) ≤ I) = false := by simp; omega
        obtain ⟨i, rfl⟩ : ∃ i : Nat, I = (i : Int) := ⟨I.toNat, by omega⟩
        have hil : i < leaves.length := by omega
        have HIL := hid hil
        have hd3 : decide (leaves.length ≤ i) = false := by simp; omega
        clear hi0 hi1 hil
        have c0 : w3.cell? ⟨w.heap.size, 0, none⟩ = some (.bool real) := cell_of HWB3.out 0
        have c1 : w3.cell? ⟨w.heap.size, 1, none⟩ = some (uv seed) := cell_of HWB3.out 1
        have c2 : w3.cell? ⟨w.heap.size, 2, none⟩ = some (.slice qa Q.length qc) := cell_of HWB3.out 2
        go_wp2_with fail
        refine (begin_any (HQ.out.ext HX3.out) HFW.out).mono ?_
        rintro e w4 ⟨b, F, rfl, hat, hx4, hF⟩
        have hFw : ∀ k, F k → w.heap.size ≤ k := fun k hk => Nat.le_trans HX3.out.size (hF k hk)
        have hx4' := HX3.out.trans hx4
        have HX4 := hid hx4'
        have HF4 := hid hFw
        have hsm := begin_small real seed Q (fewW_parts HFW.out).2
        have hgd := good_begin real seed Q
        obtain ⟨M, hM⟩ : ∃ M, M = beginM real seed Q := ⟨_, rfl⟩
        rw [← hM] at hat hsm hgd
        have HSM := hid hsm
        have HGD := hid hgd
        have hF3 : ∀ k, F k → w3.heap.size ≤ k := hF
        have HF3 := hid hF3
        have HLC4 : Hid (∀ v, Kp F w4 v → v.cell? ⟨w.heap.size + 1, 0, none⟩ = some (.slice la leaves.length lc) ∧ v.cell? ⟨w.heap.size + 1, 1, none⟩ = some (.slice sa salts.length sc) ∧ v.cell? ⟨w.heap.size + 1, 2, none⟩ = some (.int .i64 (i : Int)) ∧ v.cell? ⟨w.heap.size + 1, 3, none⟩ = some (.slice fa X.leaf.length fc) ∧ v.cell? ⟨w.heap.size + 1, 4, none⟩ = some (uv X.salt) ∧ v.cell? ⟨w.heap.size + 1, 5, none⟩ = some (.slice pa X.path.length pc)) := hid fun v k => HLC3.out v (hx4.kp k hF)
        have hstl : Stays F w4 fun v => RdL v (.slice la leaves.length lc) leaves := Stays.of_new (w0 := w) (fun v k => HL.out.ext k) hx4' hFw
        have hsts : Stays F w4 fun v => RdU v (.slice sa salts.length sc) salts := Stays.of_new (w0 := w) (fun v k => HS.out.ext k) hx4' hFw
        have hstf : Stays F w4 fun v => RdU' v (.slice fa X.leaf.length fc) X.leaf := Stays.of_new (w0 := w) (fun v k => HF.out.ext k) hx4' hFw
        have hstp : Stays F w4 fun v => RdU' v (.slice pa X.path.length pc) X.path := Stays.of_new (w0 := w) (fun v k => HP.out.ext k) hx4' hFw
        have HSTL := hid hstl
        have HSTS := hid hsts
        have HSTF := hid hstf
        have HSTP := hid hstp
        have HCO := hid (mCommit_any hat hstl (fun v k => (hsts v k).weak) (by have := HSP.out.2.1; omega) (fun l hl => by have := HSP.out.1 l hl; omega) (by have := HSP.out.2.2; omega) (by omega) (by omega))
        obtain ⟨l0, l1, l2, l3, l4, l5⟩ := HLC4.out w4 (Kp.refl _ _)
        clear c0 c1 c2 hat hx4 hF hFw hx4' hsm hgd hM hstl hsts hstf hstp hd hd2 hd3 hF3
        go_wp2_with fail
        refine HCO.out.mono ?_
        rintro e w5 ⟨v, L, rfl, hL, F5, ht5, hbes⟩
        obtain ⟨va, vc, rfl, -⟩ := ownsRow_rd hbes.own.1
        cases hck : commitOk leaves salts with
        | false =>
          have HX5 := hid (HX4.out.kp ht5.kp HF4.out)
          clear hck ht5 hbes hL l0 l1 l2 l3 l4 l5
          go_wp2_with fail
          refine wp_region_T (fun _ => True) 14 [(0, true), (1, true), (2, true), (3, true), (4, true), (6, true), (7, true), (8, true), (9, true), (10, true), (11, true), (12, true), (5, false), (13, false), (14, false), (15, false), (16, false)] (by kernel_rfl) (by kernel_rfl) (by intro c a d v w h; cases d <;> exact h) ?_
          intro ops hops
          iterate 12
            first
              | (refine wpT_take (v := ?_) (by rw [hops, List.getElem?_toArray]; rfl) (by first | rfl | (rw [hops]; rfl)) ?_ True.intro ?_
                 rotate_left
                 · intro v h; go_simp; with_reducible rfl
                 simp only [Act.put, List.getElem_toArray, List.getElem_cons_zero, List.getElem_cons_succ, List.setIfInBounds_toArray, List.set_cons_zero, List.set_cons_succ])
              | (refine wpT_pass (by rw [hops, List.getElem?_toArray]; rfl) (by first | rfl | (rw [hops]; rfl)) True.intro ?_
                 simp only [Act.put, List.getElem_toArray, List.getElem_cons_zero, List.getElem_cons_succ, List.setIfInBounds_toArray, List.set_cons_zero, List.set_cons_succ])
          refine wpT_none (by rw [hops, List.getElem?_toArray]; rfl) (by first | rfl | (rw [hops]; rfl)) ⟨fun _ => True.intro, ?_⟩
          simp only [Act.put, List.getElem_toArray, List.getElem_cons_zero, List.getElem_cons_succ, List.setIfInBounds_toArray, List.set_cons_zero, List.set_cons_succ]
          refine wpT_none (by rw [hops, List.getElem?_toArray]; rfl) (by first | rfl | (rw [hops]; rfl)) ⟨fun _ => True.intro, ?_⟩
          simp only [Act.put, List.getElem_toArray, List.getElem_cons_zero, List.getElem_cons_succ, List.setIfInBounds_toArray, List.set_cons_zero, List.set_cons_succ]
          refine wpT_none (by rw [hops, List.getElem?_toArray]; rfl) (by first | rfl | (rw [hops]; rfl)) ⟨fun _ => True.intro, ?_⟩
          simp only [Act.put, List.getElem_toArray, List.getElem_cons_zero, List.getElem_cons_succ, List.setIfInBounds_toArray, List.set_cons_zero, List.set_cons_succ]
          refine wpT_none (by rw [hops, List.getElem?_toArray]; rfl) (by first | rfl | (rw [hops]; rfl)) ⟨fun _ => True.intro, ?_⟩
          simp only [Act.put, List.getElem_toArray, List.getElem_cons_zero, List.getElem_cons_succ, List.setIfInBounds_toArray, List.set_cons_zero, List.set_cons_succ]
          refine wpT_step (by rw [hops, List.getElem?_toArray]; rfl) (by first | rfl | (rw [hops]; rfl)) ?_
          intro K hK
          go_wp2_with fail
          try (with_reducible refine ⟨fun h => absurd h (by decide), ?_⟩)
          try rw [← hops]
          rw [wpT_nil]
          clear hops ops
          go_wp2_with fail
          go_ret
          exact ⟨rfl, (HX5.out.alloc _).drew⟩
        | true =>
          have hopen := fun (l : List UInt64) (s : UInt64) (h1 : leaves[i]? = some l) (h2 : salts[i]? = some s) => opens_fit HGD.out hck h1 h2
          have hlens := commitT_lens HGD.out hck
          have hcs := commit_small M leaves salts
          have hgt := Good.commit HGD.out leaves salts
          have hslen : salts.length = leaves.length := by
            have := hck
            unfold commitOk at this
            simp only [Bool.and_eq_true, beq_iff_eq] at this
            exact this.2.1
          generalize (M.commitT leaves salts).2 = MT at *
          generalize (M.commitT leaves salts).1 = TL at *
          have hstay := hbes.stays
          rw [hL] at hstay
          have hfs := formed_small hlens.1
          obtain ⟨g, hg⟩ : ∃ g, g = w5.heap.size := ⟨_, rfl⟩
          have hFt : ¬ F5 g := fun hf => by have := ht5.at'.foot_lt _ hf; omega
          have HHG := hid hg
          obtain ⟨w6, hw6⟩ : ∃ w6, w6 = w5.alloc (.cells #[.slice va L.length vc] 27) := ⟨_, rfl⟩
          have hbt : w6.heap[g]? = some (.cells #[.slice va L.length vc] 27 (0, 0)) := by rw [hw6, hg]; exact heap_new _ _
          have hx56 : Ext w5 w6 := by rw [hw6]; exact (Ext.refl _).alloc _
          have HST := hid fun (v : World) (k : Kp F5 w6 v) => hstay v ((Kp.of_ext hx56).trans k)
          have hlc6 := fun (v : World) (k : Kp F5 w6 v) => And.intro (Stays.to HLC4.out ht5 v ((Kp.of_ext hx56).trans k)) (cell_of (k.heap_some hFt hbt) 0 : v.cell? ⟨g, 0, none⟩ = some (.slice va L.length vc))
          have HLC6 := hid hlc6
          have HT6 := hid (ht5.ext hx56)
          have HOP := hid hopen
          have HFS := hid hfs
          have HGT := hid hgt
          have HCS := hid hcs
          have HSL2 := hid hslen
          have HN16 := hid HSP.out.2.1
          have HFT := hid hFt
          have HBT := hid hbt
          have hlm : (leaves.length : Int) ≤ 16 := by have := HSP.out.2.1; omega
          have HW6 := hid hw6
          clear hopen hlens hcs hgt hslen hstay hfs hFt hg hbt hx56 hlc6 hck ht5 hbes hL HCO HSH HSX hw6 l0 l1 l2 l3 l4 l5
          go_wp2_with fail
          rw [← HW6.out]
          try rw [← HHG.out]
          refine wp_region_T (fun v => ((v.cell? ⟨w.heap.size + 1, 0, none⟩ = some (.slice la leaves.length lc) ∧ v.cell? ⟨w.heap.size + 1, 1, none⟩ = some (.slice sa salts.length sc) ∧ v.cell? ⟨w.heap.size + 1, 2, none⟩ = some (.int .i64 (i : Int)) ∧ v.cell? ⟨w.heap.size + 1, 3, none⟩ = some (.slice fa X.leaf.length fc) ∧ v.cell? ⟨w.heap.size + 1, 4, none⟩ = some (uv X.salt) ∧ v.cell? ⟨w.heap.size + 1, 5, none⟩ = some (.slice pa X.path.length pc)) ∧ v.cell? ⟨g, 0, none⟩ = some (.slice va L.length vc)) ∧ Kp F5 w6 v) 14 [(0, true), (1, true), (2, true), (3, true), (4, true), (6, true), (7, true), (8, true), (9, true), (10, true), (11, true), (12, true), (5, false), (13, false), (14, false), (15, false), (16, false)] (by kernel_rfl) (by kernel_rfl) (by intro c a d v w h; cases d <;> exact h) ?_
          intro ops hops
          have hS := (And.intro (HLC6.out _ (Kp.refl F5 w6).drew) (Kp.refl F5 w6).drew)
          iterate 12
            refine wpT_take (v := ?_) (by rw [hops, List.getElem?_toArray]; rfl) (by first | rfl | (rw [hops]; rfl)) ?_ hS ?_
            rotate_left
            · intro v h; go_simp; with_reducible rfl
            simp only [Act.put, List.getElem_toArray, List.getElem_cons_zero, List.getElem_cons_succ, List.setIfInBounds_toArray, List.set_cons_zero, List.set_cons_succ]
          refine wpT_step (by rw [hops, List.getElem?_toArray]; rfl) (by first | rfl | (rw [hops]; rfl)) ?_
          intro K hK
          go_wp2_with fail
          refine (mRoot_any _ TL _ (HST.out _ hS.2) (by have := HFS.out.1; omega) (fun l hl => by have := HFS.out.2 l hl; omega)).mono ?_
          rintro e v1 ⟨rfl, hy1⟩
          have hk1 := hS.2.ext hy1
          have hS1 := And.intro (HLC6.out _ hk1) hk1
          have hx61 : Ext w6 v1 := (Ext.refl w6).drew.trans hy1
          have hto1 : OrcTo w4 b F MT v1 F5 := HT6.out.ext hx61
          have HT1 := hid hto1
          clear hS hy1 hk1
          refine hK _ _ ⟨fun _ => hS1, ?_⟩
          clear hK K
          refine wpT_step (by rw [hops, List.getElem?_toArray]; rfl) (by first | rfl | (rw [hops]; rfl)) ?_
          intro K hK
          go_wp2_with fail
          refine (own12_any (Stays.to HSTF.out hto1 v1 (Kp.refl _ _)) (Stays.to HSTP.out hto1 v1 (Kp.refl _ _)) (by have := HSL.out; omega) (by have := HSL.out; omega)).mono ?_
          rintro e v2 ⟨lf', pv', rfl, ho1, ho2, hy2, hn1, hn2⟩
          obtain ⟨qa', qc', rfl, -⟩ := ownsRow_rd ho1
          obtain ⟨ra', rc', rfl, -⟩ := ownsRow_rd ho2
          have hat2 := HT1.out.at'.ext hy2
          have hft := HT1.out.at'.foot_lt
          have HVE := hid (mVerify_any (root := rootL TL) (n := (leaves.length : Int)) (i := (i : Int)) (x := X) (lf := .slice qa' X.leaf.length qc') (pv := .slice ra' X.path.length rc') hat2
            (ownU_stays ho1 fun j hj hf => by have h1 := hn1 j hj; have h2 := hft j hf; omega)
            (ownU_stays ho2 fun j hj hf => by have h1 := hn2 j hj; have h2 := hft j hf; omega)
            (by have := HSL.out; omega) (by have := HSL.out; omega) (by have := HCS.out.1; have := HSM.out.1; have := HN16.out; omega) (by have := HCS.out.2; have := HSM.out.2; have := HN16.out; omega))
          have HT2 := hid (HT1.out.ext hy2)
          have HXT := hid (OrcTo.of_ext HT6.out.at' (hx61.trans hy2))
          have hk2 := hS1.2.ext hy2
          have hS2 := And.intro (HLC6.out _ hk2) hk2
          refine hK _ _ ⟨fun _ => hS2, ?_⟩
          clear hK K
          clear hat2 hft ho1 ho2 hn1 hn2 hy2 hk2 hS2 hS1 hx61 hto1
          refine wpT_step (by rw [hops, List.getElem?_toArray]; rfl) (by first | rfl | (rw [hops]; rfl)) ?_
          intro K hK
          go_wp2_with fail
          obtain ⟨ok, MV, hv⟩ : ∃ ok MV, MT.verify (rootL TL) (leaves.length : Int) (i : Int) X = (ok, MV) := ⟨_, _, rfl⟩
          have hve := HVE.out
          rw [hv] at hve
          have hvk : ∀ (a : UInt64) (m : List UInt64) (y : UInt64), Ans MT a m y → Ans MV a m y := fun a m y h => by
            have := verify_keeps (root := rootL TL) (n := (leaves.length : Int)) (i := (i : Int)) (x := X) h
            rw [hv] at this
            exact this
          have hvp : ok = true → possible (rootL TL) (leaves.length : Int) (i : Int) X = true ∧ ∃ A, MV.fol peekF ((i : Int)).toNat X = (some A, MV) ∧ lastA A = rootL TL := fun h => verify_peek HGT.out (hv.trans (by rw [h])) MV (fun _ _ _ h => h)
          have hvs := verify_small MT (rootL TL) (leaves.length : Int) (i : Int) X
          rw [hv] at hvs
          clear hv
          have HVK := hid hvk
          have HVP := hid hvp
          have HVS := hid hvs
          clear hvk hvp hvs
          refine hve.mono ?_
          rintro e v3 ⟨rfl, F8, ht8⟩
          have HT8 := hid (HT2.out.trans ht8)
          have HX8 := hid (HX4.out.kp HT8.out.kp HF4.out)
          have ht68 := HXT.out.trans ht8
          have HLC8 := hid (Stays.to HLC6.out ht68)
          have HST8 := hid (Stays.to HST.out ht68)
          clear ht8 ht68 HVE hve
          cases ok with
          | false =>
            refine hK _ _ ⟨fun h => absurd h (by decide), ?_⟩
            clear hK K
            refine wpT_step (by rw [hops, List.getElem?_toArray]; rfl) (by first | rfl | (rw [hops]; rfl)) ?_
            intro K hK
            go_wp2_with fail
            try (with_reducible refine ⟨fun h => absurd h (by decide), ?_⟩)
            try rw [← hops]
            refine wpT_step (by rw [hops, List.getElem?_toArray]; rfl) (by first | rfl | (rw [hops]; rfl)) ?_
            intro K hK
            go_wp2_with fail
            try (with_reducible refine ⟨fun h => absurd h (by decide), ?_⟩)
            try rw [← hops]
            rw [wpT_nil]
            clear hops ops
            go_wp2_with fail
            go_ret
            exact ⟨rfl, HX8.out⟩
          | true =>
            refine hK _ _ ⟨fun h => absurd h (by decide), ?_⟩
            clear hK K
            refine wpT_step (by rw [hops, List.getElem?_toArray]; rfl) (by first | rfl | (rw [hops]; rfl)) ?_
            intro K hK
            go_wp2_with fail
            try (with_reducible refine ⟨fun h => absurd h (by decide), ?_⟩)
            try rw [← hops]
            refine wpT_step (by rw [hops, List.getElem?_toArray]; rfl) (by first | rfl | (rw [hops]; rfl)) ?_
            intro K hK
            go_wp2_with fail
            try (with_reducible refine ⟨fun h => absurd h (by decide), ?_⟩)
            try rw [← hops]
            rw [wpT_nil]
            clear hops ops
            obtain ⟨hpX, AX, hAX, hlX⟩ := HVP.out (by trivial)
            obtain ⟨l, hll⟩ : ∃ l, leaves[i]? = some l := ⟨_, List.getElem?_eq_getElem HIL.out⟩
            obtain ⟨s, hss⟩ : ∃ s, salts[i]? = some s := ⟨_, List.getElem?_eq_getElem (by rw [HSL2.out]; exact HIL.out)⟩
            have hle := HSP.out.1 l (List.mem_of_getElem? hll)
            obtain ⟨hpx, Ax, hAx, hlx⟩ := verify_peek HGT.out (HOP.out l s hll hss) MV HVK.out
            have hAX' : MV.fol peekF ((i : Int)).toNat X = (some AX, MV) := hAX
            have HKX := hid (And.intro hpX (And.intro hAX' hlX))
            have HKx := hid (And.intro hpx (And.intro hAx hlx))
            have HLE := hid hle
            obtain ⟨lb, lo, y, d, rfl, hcl, hrl, -⟩ := HL.out.at hll
            obtain ⟨sb, so, rfl, hcsl⟩ := HS.out.at hss
            have hfg : ∀ k, F8 k → w.heap.size ≤ k := fun k hk => by
              rcases HT8.out.new k hk with h | h
              · exact HF4.out k h
              · exact Nat.le_trans HX4.out.size h
            have hleaf : Stays F8 v3 fun v => RdU' v (.slice y l.length d) l := Stays.of_new (w0 := w) (fun v k => hrl.ext k) HX8.out hfg
            have HLEAF := hid hleaf
            have hc9 := fun (v : World) (k : Kp F8 v3 v) => And.intro (HLC8.out v k) (And.intro ((HX8.out.kp k hfg).cell_some hcl) ((HX8.out.kp k hfg).cell_some hcsl))
            have HC9 := hid hc9
            have HFG := hid hfg
            have hi0 : (0 : Int) ≤ (i : Int) := by omega
            have hi1 : (i : Int) < (leaves.length : Int) := by have := HIL.out; omega
            have hi2 : (i : Int) < (salts.length : Int) := by have := HIL.out; have := HSL2.out; omega
            clear hpX hAX hAX' hlX hpx hAx hlx hll hss hcl hrl hcsl hfg hleaf hc9 hle
            go_wp2_with fail
            go_cut [8] (fun s8 wx => ∃ (g8 : Nat) (pv8 : Value), s8 = .pointer (some ⟨g8, 0, none⟩) ∧ wx.heap[g8]? = some (.cells #[.slice y l.length d, uv s, pv8] 53 (0, 0)) ∧ OwnU wx pv8 (pathL TL i) ∧ Ext v3 wx ∧ v3.heap.size ≤ g8 ∧ (∀ k, blk pv8 = some k → v3.heap.size ≤ k))
            case first =>
              refine wp_region_N (fun v => (((v.cell? ⟨w.heap.size + 1, 0, none⟩ = some (.slice (some ⟨lb, lo, none⟩) leaves.length lc) ∧ v.cell? ⟨w.heap.size + 1, 1, none⟩ = some (.slice (some ⟨sb, so, none⟩) salts.length sc) ∧ v.cell? ⟨w.heap.size + 1, 2, none⟩ = some (.int .i64 (i : Int)) ∧ v.cell? ⟨w.heap.size + 1, 3, none⟩ = some (.slice fa X.leaf.length fc) ∧ v.cell? ⟨w.heap.size + 1, 4, none⟩ = some (uv X.salt) ∧ v.cell? ⟨w.heap.size + 1, 5, none⟩ = some (.slice pa X.path.length pc)) ∧ v.cell? ⟨g, 0, none⟩ = some (.slice va L.length vc)) ∧ v.cell? ⟨lb, lo + i, none⟩ = some (.slice y l.length d) ∧ v.cell? ⟨sb, so + i, none⟩ = some (uv s)) ∧ Kp F8 v3 v) 18 19 (by kernel_rfl) (by kernel_rfl) ?_
              intro ops hops
              have HR := (And.intro (HC9.out _ (Kp.refl F8 v3).drew) (Kp.refl F8 v3).drew)
              refine N_take (i := 0) (v := ?_) (by rw [hops, List.getElem?_toArray]; rfl) (by rw [hops]; kernel_rfl) (by intro c a d v w h; cases d <;> exact h) (by first | rfl | (rw [hops]; rfl)) ?_ HR ?_
              rotate_left
              · intro v h; go_simp; with_reducible rfl
              simp only [Act.put, List.getElem_toArray, List.getElem_cons_zero, List.getElem_cons_succ, List.setIfInBounds_toArray, List.set_cons_zero, List.set_cons_succ]
              refine N_take (i := 1) (v := ?_) (by rw [hops, List.getElem?_toArray]; rfl) (by rw [hops]; kernel_rfl) (by intro c a d v w h; cases d <;> exact h) (by first | rfl | (rw [hops]; rfl)) ?_ HR ?_
              rotate_left
              · intro v h; go_simp; with_reducible rfl
              simp only [Act.put, List.getElem_toArray, List.getElem_cons_zero, List.getElem_cons_succ, List.setIfInBounds_toArray, List.set_cons_zero, List.set_cons_succ]
              refine N_take (i := 2) (v := ?_) (by rw [hops, List.getElem?_toArray]; rfl) (by rw [hops]; kernel_rfl) (by intro c a d v w h; cases d <;> exact h) (by first | rfl | (rw [hops]; rfl)) ?_ HR ?_
              rotate_left
              · intro v h; go_simp; with_reducible rfl
              simp only [Act.put, List.getElem_toArray, List.getElem_cons_zero, List.getElem_cons_succ, List.setIfInBounds_toArray, List.set_cons_zero, List.set_cons_succ]
              refine N_take (i := 3) (v := ?_) (by rw [hops, List.getElem?_toArray]; rfl) (by rw [hops]; kernel_rfl) (by intro c a d v w h; cases d <;> exact h) (by first | rfl | (rw [hops]; rfl)) ?_ HR ?_
              rotate_left
              · intro v h; go_simp; with_reducible rfl
              simp only [Act.put, List.getElem_toArray, List.getElem_cons_zero, List.getElem_cons_succ, List.setIfInBounds_toArray, List.set_cons_zero, List.set_cons_succ]
              refine N_take (i := 4) (v := ?_) (by rw [hops, List.getElem?_toArray]; rfl) (by rw [hops]; kernel_rfl) (by intro c a d v w h; cases d <;> exact h) (by first | rfl | (rw [hops]; rfl)) ?_ HR ?_
              rotate_left
              · intro v h; go_simp; with_reducible rfl
              simp only [Act.put, List.getElem_toArray, List.getElem_cons_zero, List.getElem_cons_succ, List.setIfInBounds_toArray, List.set_cons_zero, List.set_cons_succ]
              refine N_take (i := 5) (v := ?_) (by rw [hops, List.getElem?_toArray]; rfl) (by rw [hops]; kernel_rfl) (by intro c a d v w h; cases d <;> exact h) (by first | rfl | (rw [hops]; rfl)) ?_ HR ?_
              rotate_left
              · intro v h; go_simp; with_reducible rfl
              simp only [Act.put, List.getElem_toArray, List.getElem_cons_zero, List.getElem_cons_succ, List.setIfInBounds_toArray, List.set_cons_zero, List.set_cons_succ]
              refine N_take (i := 6) (v := ?_) (by rw [hops, List.getElem?_toArray]; rfl) (by rw [hops]; kernel_rfl) (by intro c a d v w h; cases d <;> exact h) (by first | rfl | (rw [hops]; rfl)) ?_ HR ?_
              rotate_left
              · intro v h; go_simp; with_reducible rfl
              simp only [Act.put, List.getElem_toArray, List.getElem_cons_zero, List.getElem_cons_succ, List.setIfInBounds_toArray, List.set_cons_zero, List.set_cons_succ]
              refine N_take (i := 7) (v := ?_) (by rw [hops, List.getElem?_toArray]; rfl) (by rw [hops]; kernel_rfl) (by intro c a d v w h; cases d <;> exact h) (by first | rfl | (rw [hops]; rfl)) ?_ HR ?_
              rotate_left
              · intro v h; go_simp; with_reducible rfl
              simp only [Act.put, List.getElem_toArray, List.getElem_cons_zero, List.getElem_cons_succ, List.setIfInBounds_toArray, List.set_cons_zero, List.set_cons_succ]
              refine N_take (i := 8) (v := ?_) (by rw [hops, List.getElem?_toArray]; rfl) (by rw [hops]; kernel_rfl) (by intro c a d v w h; cases d <;> exact h) (by first | rfl | (rw [hops]; rfl)) ?_ HR ?_
              rotate_left
              · intro v h; go_simp; with_reducible rfl
              simp only [Act.put, List.getElem_toArray, List.getElem_cons_zero, List.getElem_cons_succ, List.setIfInBounds_toArray, List.set_cons_zero, List.set_cons_succ]
              refine N_take (i := 9) (v := ?_) (by rw [hops, List.getElem?_toArray]; rfl) (by rw [hops]; kernel_rfl) (by intro c a d v w h; cases d <;> exact h) (by first | rfl | (rw [hops]; rfl)) ?_ HR ?_
              rotate_left
              · intro v h; go_simp; with_reducible rfl
              simp only [Act.put, List.getElem_toArray, List.getElem_cons_zero, List.getElem_cons_succ, List.setIfInBounds_toArray, List.set_cons_zero, List.set_cons_succ]
              refine N_take (i := 10) (v := ?_) (by rw [hops, List.getElem?_toArray]; rfl) (by rw [hops]; kernel_rfl) (by intro c a d v w h; cases d <;> exact h) (by first | rfl | (rw [hops]; rfl)) ?_ HR ?_
              rotate_left
              · intro v h; go_simp; with_reducible rfl
              simp only [Act.put, List.getElem_toArray, List.getElem_cons_zero, List.getElem_cons_succ, List.setIfInBounds_toArray, List.set_cons_zero, List.set_cons_succ]
              refine N_take (i := 11) (v := ?_) (by rw [hops, List.getElem?_toArray]; rfl) (by rw [hops]; kernel_rfl) (by intro c a d v w h; cases d <;> exact h) (by first | rfl | (rw [hops]; rfl)) ?_ HR ?_
              rotate_left
              · intro v h; go_simp; with_reducible rfl
              simp only [Act.put, List.getElem_toArray, List.getElem_cons_zero, List.getElem_cons_succ, List.setIfInBounds_toArray, List.set_cons_zero, List.set_cons_succ]
              refine N_take (i := 12) (v := ?_) (by rw [hops, List.getElem?_toArray]; rfl) (by rw [hops]; kernel_rfl) (by intro c a d v w h; cases d <;> exact h) (by first | rfl | (rw [hops]; rfl)) ?_ HR ?_
              rotate_left
              · intro v h; go_simp; with_reducible rfl
              simp only [Act.put, List.getElem_toArray, List.getElem_cons_zero, List.getElem_cons_succ, List.setIfInBounds_toArray, List.set_cons_zero, List.set_cons_succ]
              refine N_take (i := 13) (v := ?_) (by rw [hops, List.getElem?_toArray]; rfl) (by rw [hops]; kernel_rfl) (by intro c a d v w h; cases d <;> exact h) (by first | rfl | (rw [hops]; rfl)) ?_ HR ?_
              rotate_left
              · intro v h; go_simp; with_reducible rfl
              simp only [Act.put, List.getElem_toArray, List.getElem_cons_zero, List.getElem_cons_succ, List.setIfInBounds_toArray, List.set_cons_zero, List.set_cons_succ]
              refine N_take (i := 14) (v := ?_) (by rw [hops, List.getElem?_toArray]; rfl) (by rw [hops]; kernel_rfl) (by intro c a d v w h; cases d <;> exact h) (by first | rfl | (rw [hops]; rfl)) ?_ HR ?_
              rotate_left
              · intro v h; go_simp; with_reducible rfl
              simp only [Act.put, List.getElem_toArray, List.getElem_cons_zero, List.getElem_cons_succ, List.setIfInBounds_toArray, List.set_cons_zero, List.set_cons_succ]
              refine N_two (i := 15) (k := 17) (by rw [hops]; rfl) (by rw [hops, List.getElem?_toArray]; rfl) (by rw [hops]; kernel_rfl) (by first | rfl | (rw [hops]; rfl)) (by first | rfl | (rw [hops]; rfl)) ?_ ?_
              · intro K hK
                go_wp2_with fail
                refine (mPath_any _ TL i _ (HST8.out _ HR.2) (by have := HFS.out.1; omega) (fun l hl => by have := HFS.out.2 l hl; omega)).mono ?_
                rintro e v4 ⟨pv8, rfl, hpo, hy4, hpn⟩
                obtain ⟨p8a, p8c, rfl, -⟩ := ownsRow_rd hpo
                have hk4 := HR.2.ext hy4
                have HR1 := And.intro (HC9.out _ hk4) hk4
                refine hK _ _ ⟨fun _ => HR1, ?_⟩
                clear hK K
                refine N_take (i := 16) (v := ?_) (by rw [hops, List.getElem?_toArray]; rfl) (by rw [hops]; kernel_rfl) (by intro c a d v w h; cases d <;> exact h) (by first | rfl | (rw [hops]; rfl)) ?_ HR1 ?_
                rotate_left
                · intro v h; go_simp; with_reducible rfl
                simp only [Act.put, List.getElem_toArray, List.getElem_cons_zero, List.getElem_cons_succ, List.setIfInBounds_toArray, List.set_cons_zero, List.set_cons_succ]
                have hk5 := hk4.alloc (.cells #[.slice none 0 0, .int .u64 0, .slice none 0 0] 53)
                refine N_one (i := 17) (by rw [hops, List.getElem?_toArray]; rfl) (by rw [hops]; kernel_rfl) (by first | rfl | (rw [hops]; rfl)) ?_
                intro K hK
                go_wp2_with fail
                refine ⟨fun _ => And.intro (HC9.out _ hk5) hk5, ?_⟩
                refine N_one (i := 18) (by rw [hops, List.getElem?_toArray]; rfl) (by rw [hops]; kernel_rfl) (by first | rfl | (rw [hops]; rfl)) ?_
                intro K hK
                go_wp2_with fail
                refine ⟨fun h => absurd h (by decide), ?_⟩
                refine N_done (by rw [hops]; kernel_rfl) ?_
                clear hops ops
                go_wp2_with fail
                go_meet
                exact ⟨v4.heap.size, _, rfl, heap_new _ _, ownsRow_ext hpo ((Ext.refl v4).alloc _), ((Ext.refl v3).drew.trans hy4).alloc _, ((Ext.refl v3).drew.trans hy4).size, hpn⟩
              · intro K hK
                go_wp2_with fail
                have hk4 := HR.2.alloc (.cells #[.slice none 0 0, .int .u64 0, .slice none 0 0] 53)
                have HR1 := And.intro (HC9.out _ hk4) hk4
                refine ⟨fun _ => HR1, ?_⟩
                refine N_one (i := 15) (by rw [hops, List.getElem?_toArray]; rfl) (by rw [hops]; kernel_rfl) (by first | rfl | (rw [hops]; rfl)) ?_
                intro K hK
                go_wp2_with fail
                refine (mPath_any _ TL i _ (HST8.out _ HR1.2) (by have := HFS.out.1; omega) (fun l hl => by have := HFS.out.2 l hl; omega)).mono ?_
                rintro e v4 ⟨pv8, rfl, hpo, hy4, hpn⟩
                obtain ⟨p8a, p8c, rfl, -⟩ := ownsRow_rd hpo
                have hk5 := HR1.2.ext hy4
                have HR2 := And.intro (HC9.out _ hk5) hk5
                refine hK _ _ ⟨fun _ => HR2, ?_⟩
                clear hK K
                refine N_take (i := 16) (v := ?_) (by rw [hops, List.getElem?_toArray]; rfl) (by rw [hops]; kernel_rfl) (by intro c a d v w h; cases d <;> exact h) (by first | rfl | (rw [hops]; rfl)) ?_ HR2 ?_
                rotate_left
                · intro v h; go_simp; with_reducible rfl
                simp only [Act.put, List.getElem_toArray, List.getElem_cons_zero, List.getElem_cons_succ, List.setIfInBounds_toArray, List.set_cons_zero, List.set_cons_succ]
                have hz := hy4.heap_some (heap_new v3.drew (.cells #[.slice none 0 0, .int .u64 0, .slice none 0 0] 53))
                have z0 : v4.cell? ⟨v3.heap.size, 0, none⟩ = some (.slice none 0 0) := cell_of hz 0
                have z1 : v4.cell? ⟨v3.heap.size, 1, none⟩ = some (.int .u64 0) := cell_of hz 1
                have z2 : v4.cell? ⟨v3.heap.size, 2, none⟩ = some (.slice none 0 0) := cell_of hz 2
                have zf : ∀ j, v4.frozen? ⟨v3.heap.size, j, none⟩ = false := frozen_of hz
                refine N_one (i := 18) (by rw [hops, List.getElem?_toArray]; rfl) (by rw [hops]; kernel_rfl) (by first | rfl | (rw [hops]; rfl)) ?_
                intro K hK
                go_wp2_with fail
                refine ⟨fun h => absurd h (by decide), ?_⟩
                refine N_done (by rw [hops]; kernel_rfl) ?_
                clear hops ops
                clear z0 z1 z2 zf
                go_wp2_with fail
                go_meet
                obtain ⟨m1, m2, m3, m4, m5⟩ := stored9 (v3 := v3) (v := v3.drew) (Ext.refl v3).drew hy4 rfl hpo (fun k hk => by have := hpn k hk; rw [World.size_alloc] at this; exact ⟨Nat.le_trans (show v3.heap.size ≤ v3.drew.heap.size + 1 from Nat.le_succ _) this, by omega⟩) (.slice y l.length d) (uv s) (.slice p8a (pathL TL i).length p8c)
                exact ⟨v3.heap.size, _, rfl, m1, m2, m3, m4, m5⟩
            case rest =>
              obtain ⟨g8, pv8, rfl, hb8, ho8, hx8, hg8, hn8⟩ := hcut
              obtain ⟨p8a, p8c, rfl, -⟩ := ownsRow_rd ho8
              have hlc := HLC8.out wc (Kp.of_ext hx8)
              obtain ⟨⟨l0, l1, l2, l3, l4, l5⟩, l6⟩ := hlc
              have e0 : wc.cell? ⟨g8, 0, none⟩ = some (.slice y l.length d) := cell_of hb8 0
              have e1 : wc.cell? ⟨g8, 1, none⟩ = some (uv s) := cell_of hb8 1
              have e2 : wc.cell? ⟨g8, 2, none⟩ = some (.slice p8a (pathL TL i).length p8c) := cell_of hb8 2
              have HXC := hid hx8
              have hpl : (pathL TL i).length ≤ 11 := by
                unfold pathL
                split
                · rw [pathN_length]; have := HFS.out.1; omega
                · simp
              have HPL := hid hpl
              have HSM9 := hid (ref12Same_any (w := wc) (x := ⟨l, s, pathL TL i⟩) (y := X) (lf := .slice y l.length d) (pv := .slice p8a (pathL TL i).length p8c) (lf2 := .slice fa X.leaf.length fc) (pv2 := .slice pa X.path.length pc) (HLEAF.out wc (Kp.of_ext hx8)) (OwnU.rdu ho8).weak (HF.out.ext (HX8.out.trans hx8)) (HP.out.ext (HX8.out.trans hx8))
                (by have := HLE.out; simp; omega) (by simp; omega) (by have := HSL.out; omega) (by have := HSL.out; omega))
              have hgF : ¬ F8 g8 := fun hf => by have := HT8.out.at'.foot_lt _ hf; omega
              have hpF : ∀ k, blk (.slice p8a (pathL TL i).length p8c) = some k → ¬ F8 k := fun k hk hf => by have := HT8.out.at'.foot_lt _ hf; have := hn8 k hk; omega
              have hat9 := HT8.out.at'.ext hx8
              have HB8 := hid hb8
              have HO8 := hid ho8
              have HGF := hid hgF
              have HPF := hid hpF
              have HATC := hid hat9
              clear hb8 ho8 hx8 hg8 hn8 hpl hgF hpF hat9
              go_wp2_with fail
              refine HSM9.out.mono ?_
              rintro e w9 ⟨rfl, hx9⟩
              have HX9 := hid (HX8.out.trans (HXC.out.trans hx9))
              have hb9 := hx9.heap_some HB8.out
              have hstx := ownU_stays (ownsRow_ext HO8.out hx9) HPF.out
              have hc12 := fun (v : World) (k : Kp F8 w9 v) => And.intro (HLC8.out v ((Kp.of_ext (HXC.out.trans hx9)).trans k)) (And.intro (cell_of (k.heap_some HGF.out hb9) 0 : v.cell? ⟨g8, 0, none⟩ = some (.slice y l.length d)) (And.intro (cell_of (k.heap_some HGF.out hb9) 1 : v.cell? ⟨g8, 1, none⟩ = some (uv s)) (cell_of (k.heap_some HGF.out hb9) 2 : v.cell? ⟨g8, 2, none⟩ = some (.slice p8a (pathL TL i).length p8c))))
              have HC12 := hid hc12
              have HSTX := hid hstx
              have HAT9 := hid (HATC.out.ext hx9)
              have HXC9 := hid (HXC.out.trans hx9)
              clear hx9 hb9 hstx hc12 l0 l1 l2 l3 l4 l5 l6 e0 e1 e2
              cases hsm : Opn.same ⟨l, s, pathL TL i⟩ X with
              | true =>
                clear hsm
                go_wp2_with fail
                go_ret
                exact ⟨rfl, HX9.out⟩
              | false =>
                have hne := Opn.same_eq hsm
                obtain ⟨ca, cb, hcl, hpa, hpb, hab, hee, hel, hel'⟩ := clash_ok HKx.out.1 HKX.out.1 HKx.out.2.1 HKX.out.2.1 HKx.out.2.2 HKX.out.2.2 hne (by have := HLE.out; simp; omega) (by have := HSL.out; omega)
                have HCA := hid (And.intro hcl (And.intro hpa (And.intro hpb (And.intro hab (And.intro hee (And.intro hel hel'))))))
                clear hsm hne hcl hpa hpb hab hee hel hel'
                go_wp2_with fail
                refine wp_region_N (fun v => (((v.cell? ⟨w.heap.size + 1, 0, none⟩ = some (.slice (some ⟨lb, lo, none⟩) leaves.length lc) ∧ v.cell? ⟨w.heap.size + 1, 1, none⟩ = some (.slice (some ⟨sb, so, none⟩) salts.length sc) ∧ v.cell? ⟨w.heap.size + 1, 2, none⟩ = some (.int .i64 (i : Int)) ∧ v.cell? ⟨w.heap.size + 1, 3, none⟩ = some (.slice fa X.leaf.length fc) ∧ v.cell? ⟨w.heap.size + 1, 4, none⟩ = some (uv X.salt) ∧ v.cell? ⟨w.heap.size + 1, 5, none⟩ = some (.slice pa X.path.length pc)) ∧ v.cell? ⟨g, 0, none⟩ = some (.slice va L.length vc)) ∧ v.cell? ⟨g8, 0, none⟩ = some (.slice y l.length d) ∧ v.cell? ⟨g8, 1, none⟩ = some (uv s) ∧ v.cell? ⟨g8, 2, none⟩ = some (.slice p8a (pathL TL i).length p8c)) ∧ Kp F8 w9 v) 22 23 (by kernel_rfl) (by kernel_rfl) ?_
                intro ops hops
                have HR := (And.intro (HC12.out _ (Kp.refl F8 w9).drew) (Kp.refl F8 w9).drew)
                refine N_take (i := 0) (v := ?_) (by rw [hops, List.getElem?_toArray]; rfl) (by rw [hops]; kernel_rfl) (by intro c a d v w h; cases d <;> exact h) (by first | rfl | (rw [hops]; rfl)) ?_ HR ?_
                rotate_left
                · intro v h; go_simp; with_reducible rfl
                simp only [Act.put, List.getElem_toArray, List.getElem_cons_zero, List.getElem_cons_succ, List.setIfInBounds_toArray, List.set_cons_zero, List.set_cons_succ]
                refine N_take (i := 1) (v := ?_) (by rw [hops, List.getElem?_toArray]; rfl) (by rw [hops]; kernel_rfl) (by intro c a d v w h; cases d <;> exact h) (by first | rfl | (rw [hops]; rfl)) ?_ HR ?_
                rotate_left
                · intro v h; go_simp; with_reducible rfl
                simp only [Act.put, List.getElem_toArray, List.getElem_cons_zero, List.getElem_cons_succ, List.setIfInBounds_toArray, List.set_cons_zero, List.set_cons_succ]
                refine N_take (i := 3) (v := ?_) (by rw [hops, List.getElem?_toArray]; rfl) (by rw [hops]; kernel_rfl) (by intro c a d v w h; cases d <;> exact h) (by first | rfl | (rw [hops]; rfl)) ?_ HR ?_
                rotate_left
                · intro v h; go_simp; with_reducible rfl
                simp only [Act.put, List.getElem_toArray, List.getElem_cons_zero, List.getElem_cons_succ, List.setIfInBounds_toArray, List.set_cons_zero, List.set_cons_succ]
                refine N_take (i := 4) (v := ?_) (by rw [hops, List.getElem?_toArray]; rfl) (by rw [hops]; kernel_rfl) (by intro c a d v w h; cases d <;> exact h) (by first | rfl | (rw [hops]; rfl)) ?_ HR ?_
                rotate_left
                · intro v h; go_simp; with_reducible rfl
                simp only [Act.put, List.getElem_toArray, List.getElem_cons_zero, List.getElem_cons_succ, List.setIfInBounds_toArray, List.set_cons_zero, List.set_cons_succ]
                refine N_take (i := 5) (v := ?_) (by rw [hops, List.getElem?_toArray]; rfl) (by rw [hops]; kernel_rfl) (by intro c a d v w h; cases d <;> exact h) (by first | rfl | (rw [hops]; rfl)) ?_ HR ?_
                rotate_left
                · intro v h; go_simp; with_reducible rfl
                simp only [Act.put, List.getElem_toArray, List.getElem_cons_zero, List.getElem_cons_succ, List.setIfInBounds_toArray, List.set_cons_zero, List.set_cons_succ]
                refine N_take (i := 6) (v := ?_) (by rw [hops, List.getElem?_toArray]; rfl) (by rw [hops]; kernel_rfl) (by intro c a d v w h; cases d <;> exact h) (by first | rfl | (rw [hops]; rfl)) ?_ HR ?_
                rotate_left
                · intro v h; go_simp; with_reducible rfl
                simp only [Act.put, List.getElem_toArray, List.getElem_cons_zero, List.getElem_cons_succ, List.setIfInBounds_toArray, List.set_cons_zero, List.set_cons_succ]
                refine N_take (i := 7) (v := ?_) (by rw [hops, List.getElem?_toArray]; rfl) (by rw [hops]; kernel_rfl) (by intro c a d v w h; cases d <;> exact h) (by first | rfl | (rw [hops]; rfl)) ?_ HR ?_
                rotate_left
                · intro v h; go_simp; with_reducible rfl
                simp only [Act.put, List.getElem_toArray, List.getElem_cons_zero, List.getElem_cons_succ, List.setIfInBounds_toArray, List.set_cons_zero, List.set_cons_succ]
                refine N_take (i := 8) (v := ?_) (by rw [hops, List.getElem?_toArray]; rfl) (by rw [hops]; kernel_rfl) (by intro c a d v w h; cases d <;> exact h) (by first | rfl | (rw [hops]; rfl)) ?_ HR ?_
                rotate_left
                · intro v h; go_simp; with_reducible rfl
                simp only [Act.put, List.getElem_toArray, List.getElem_cons_zero, List.getElem_cons_succ, List.setIfInBounds_toArray, List.set_cons_zero, List.set_cons_succ]
                refine N_take (i := 10) (v := ?_) (by rw [hops, List.getElem?_toArray]; rfl) (by rw [hops]; kernel_rfl) (by intro c a d v w h; cases d <;> exact h) (by first | rfl | (rw [hops]; rfl)) ?_ HR ?_
                rotate_left
                · intro v h; go_simp; with_reducible rfl
                simp only [Act.put, List.getElem_toArray, List.getElem_cons_zero, List.getElem_cons_succ, List.setIfInBounds_toArray, List.set_cons_zero, List.set_cons_succ]
                refine N_take (i := 11) (v := ?_) (by rw [hops, List.getElem?_toArray]; rfl) (by rw [hops]; kernel_rfl) (by intro c a d v w h; cases d <;> exact h) (by first | rfl | (rw [hops]; rfl)) ?_ HR ?_
                rotate_left
                · intro v h; go_simp; with_reducible rfl
                simp only [Act.put, List.getElem_toArray, List.getElem_cons_zero, List.getElem_cons_succ, List.setIfInBounds_toArray, List.set_cons_zero, List.set_cons_succ]
                have hal : ∀ Q, Allocs Try.prog ops Q 18 19 9 10 Zq Zq := fun Q => ⟨⟨_, by rw [hops, List.getElem?_toArray]; rfl, fun t => rfl, fun a w K hK => by go_wp2_with fail; exact hK⟩, ⟨_, by rw [hops, List.getElem?_toArray]; rfl, fun t => rfl, fun a w K hK => by go_wp2_with fail; exact hK⟩, by decide, by decide⟩
                have hgr := CG.grows (Z1 := Zq) (Z2 := Zq) (w0 := w9) HAT9.out.foot_lt (fun v k => And.intro (HC12.out v k) k)
                refine WA_start (i1 := 18) (i2 := 19) (d1 := 9) (d2 := 10) (f := 11) (C := CG w9 F8 Zq Zq) undef undef ⟨(Ext.refl w9).drew, ZZ.none⟩ (by rfl) (by rfl) (by rfl) ?_
                refine WA_call (hal _) hgr (c := 2) (fun v => CL1 (fun _ => v = uv (rootL TL)) (CG w9 F8 Zq Zq)) (by rw [hops]; kernel_rfl) (by rw [hops, List.getElem?_toArray]; rfl) rfl (fun t => rfl) (by decide) (fun v b1 b2 x y w' h => hgr.s _ _ _ _ _ h.2) ?_ ?_
                · intro b1 b2 x1 x2 v hC K hK
                  simp only [Act.put, List.setIfInBounds_toArray, List.set_cons_zero, List.set_cons_succ]
                  go_wp2_with fail
                  refine (mRoot_any _ TL _ (HST8.out v ((Kp.of_ext HXC9.out).trans (Kp.of_ext hC.1))) (by have := HFS.out.1; omega) (fun l hl => by have := HFS.out.2 l hl; omega)).mono ?_
                  rintro e v' ⟨rfl, hy⟩
                  exact hK _ _ ⟨(by first | trivial | rfl), hC.ext hy⟩ _ (by simp only [Act.put, List.setIfInBounds_toArray, List.set_cons_zero, List.set_cons_succ] <;> rfl)
                intro v2
                simp only [Act.put, List.setIfInBounds_toArray, List.set_cons_zero, List.set_cons_succ]
                have hgr2 := CL1.grows (p := fun _ => v2 = uv (rootL TL)) hgr (fun _ _ h _ => h)
                refine WA_call (hal _) hgr2 (c := 9) (fun v => CL1 (OwnO w9 v ⟨l, s, pathL TL i⟩) (CL1 (fun _ => v2 = uv (rootL TL)) (CG w9 F8 Zq Zq))) (by rw [hops]; kernel_rfl) (by rw [hops, List.getElem?_toArray]; rfl) rfl (fun t => rfl) (by decide) (fun v b1 b2 x y w' h => hgr.s _ _ _ _ _ h.2.2) ?_ ?_
                · rintro b1 b2 x1 x2 v ⟨rfl, hC⟩ K hK
                  simp only [Act.put, List.setIfInBounds_toArray, List.set_cons_zero, List.set_cons_succ]
                  go_wp2_with fail
                  refine (own12_any (x := ⟨l, s, pathL TL i⟩) (HLEAF.out v ((Kp.of_ext HXC9.out).trans (Kp.of_ext hC.1))) (HSTX.out v (Kp.of_ext hC.1)) (by have := HLE.out; simp; omega) (by have := HPL.out; simp; omega)).mono ?_
                  rintro e v' ⟨lf', pv', rfl, ho1, ho2, hy, hn1, hn2⟩
                  exact hK _ _ ⟨⟨lf', pv', rfl, ho1, ho2, fun k hk => Nat.le_trans hC.1.size (hn1 k hk), fun k hk => Nat.le_trans hC.1.size (hn2 k hk)⟩, (by first | trivial | rfl), hC.ext hy⟩ _ (by simp only [Act.put, List.setIfInBounds_toArray, List.set_cons_zero, List.set_cons_succ] <;> rfl)
                intro v9
                simp only [Act.put, List.setIfInBounds_toArray, List.set_cons_zero, List.set_cons_succ]
                have hgr3 := CL1.grows (p := OwnO w9 v9 ⟨l, s, pathL TL i⟩) hgr2 OwnO.ext
                refine WA_call (hal _) hgr3 (c := 12) (fun v => CL1 (OwnO w9 v X) (CL1 (OwnO w9 v9 ⟨l, s, pathL TL i⟩) (CL1 (fun _ => v2 = uv (rootL TL)) (CG w9 F8 Zq Zq)))) (by rw [hops]; kernel_rfl) (by rw [hops, List.getElem?_toArray]; rfl) rfl (fun t => rfl) (by decide) (fun v b1 b2 x y w' h => hgr.s _ _ _ _ _ h.2.2.2) ?_ ?_
                · rintro b1 b2 x1 x2 v ⟨hv9, rfl, hC⟩ K hK
                  simp only [Act.put, List.setIfInBounds_toArray, List.set_cons_zero, List.set_cons_succ]
                  go_wp2_with fail
                  refine (own12_any (x := X) (HF.out.ext (HX9.out.trans hC.1)) (HP.out.ext (HX9.out.trans hC.1)) (by have := HSL.out; omega) (by have := HSL.out; omega)).mono ?_
                  rintro e v' ⟨lf', pv', rfl, ho1, ho2, hy, hn1, hn2⟩
                  exact hK _ _ ⟨⟨lf', pv', rfl, ho1, ho2, fun k hk => Nat.le_trans hC.1.size (hn1 k hk), fun k hk => Nat.le_trans hC.1.size (hn2 k hk)⟩, hv9.ext _ _ hy, (by first | trivial | rfl), hC.ext hy⟩ _ (by simp only [Act.put, List.setIfInBounds_toArray, List.set_cons_zero, List.set_cons_succ] <;> rfl)
                intro v12
                simp only [Act.put, List.setIfInBounds_toArray, List.set_cons_zero, List.set_cons_succ]
                have hgr4 := CL1.grows (p := OwnO w9 v12 X) hgr3 OwnO.ext
                have hgr5 := fun (r : Value) => CC.grows (w0 := w9) (b := b) (F := F8) (M := MV) (p := ca) (q := cb) (r := r) (fun v k => And.intro (HC12.out v k) k)
                refine WA_call (hal _) hgr4 (c := 13) (fun v => CC w9 b F8 MV ca cb v) (by rw [hops]; kernel_rfl) (by rw [hops, List.getElem?_toArray]; rfl) rfl (fun t => rfl) (by decide) (fun v b1 b2 x y w' h => (hgr5 v).s _ _ _ _ _ h) ?_ ?_
                · rintro b1 b2 x1 x2 v ⟨⟨mf, mp, rfl, hm1, hm2, hm3, hm4⟩, ⟨nf, np, rfl, hm5, hm6, hm7, hm8⟩, rfl, hC⟩ K hK
                  obtain ⟨mfa, mfc, rfl, -⟩ := ownsRow_rd hm1
                  obtain ⟨mpa, mpc, rfl, -⟩ := ownsRow_rd hm2
                  obtain ⟨nfa, nfc, rfl, -⟩ := ownsRow_rd hm5
                  obtain ⟨npa, npc, rfl, -⟩ := ownsRow_rd hm6
                  simp only [Act.put, List.setIfInBounds_toArray, List.set_cons_zero, List.set_cons_succ]
                  go_wp2_with fail
                  have hatv := HAT9.out.ext hC.1
                  have hfl := HAT9.out.foot_lt
                  refine (mClash_any (x := ⟨l, s, pathL TL i⟩) (y := X) hatv (ownU_stays hm5 fun j hj hf => by have h1 := hm7 j hj; have h2 := hfl j hf; omega) (ownU_stays hm6 fun j hj hf => by have h1 := hm8 j hj; have h2 := hfl j hf; omega) (ownU_stays hm1 fun j hj hf => by have h1 := hm3 j hj; have h2 := hfl j hf; omega) (ownU_stays hm2 fun j hj hf => by have h1 := hm4 j hj; have h2 := hfl j hf; omega)
                    (by have := HPL.out; simp; omega) (by have := HSL.out; omega) (by have := HLE.out; simp; omega) (by have := HSL.out; omega) (by have := HVS.out.1; have := HCS.out.1; have := HSM.out.1; have := HN16.out; have := HSL.out; omega) (by have := HVS.out.2; have := HCS.out.2; have := HSM.out.2; have := HN16.out; have := HSL.out; omega)).mono ?_
                  rintro e v' ⟨⟨F9, ht9⟩, hr⟩
                  rcases hr with ⟨hr, -⟩ | ⟨p, q, u, u', hr, rfl, hu1, hu2⟩
                  · rw [HCA.out.1] at hr; cases hr
                  · rw [HCA.out.1] at hr
                    simp only [Option.some.injEq, Prod.mk.injEq] at hr
                    obtain ⟨rfl, rfl⟩ := hr
                    exact hK _ _ ⟨u, u', F9, rfl, hu1, hu2, .pre hC.1 ht9, hC.2.kp ht9.kp fun k hk hn => ht9.apart hk hn⟩ _ (by simp only [Act.put, List.setIfInBounds_toArray, List.set_cons_zero, List.set_cons_succ] <;> rfl)
                intro v13
                simp only [Act.put, List.setIfInBounds_toArray, List.set_cons_zero, List.set_cons_succ]
                refine WA_pure (φ := ∃ ua uc ub ud, v13 = .tuple #[.agg #[uv ca.label, .slice ua ca.elems.length uc, uv ca.answer], .agg #[uv cb.label, .slice ub cb.elems.length ud, uv cb.answer], .bool true]) (fun b1 b2 x1 x2 v h => by
                  obtain ⟨u, u', F', h1, h2, h3, -⟩ := h
                  obtain ⟨ua, uc, rfl, -⟩ := ownsRow_rd h2
                  obtain ⟨ub, ud, rfl, -⟩ := ownsRow_rd h3
                  exact ⟨ua, uc, ub, ud, h1⟩) ?_
                rintro ⟨ua, uc, ub, ud, rfl⟩
                refine WA_take (i := 14) (v := ?_) (fun _ _ _ _ _ h => (hgr5 _).s _ _ _ _ _ h) (by rw [hops, List.getElem?_toArray]; rfl) rfl (fun t => rfl) (by decide) (by rw [hops]; kernel_rfl) (by intro c a d v w h; cases d <;> exact h) ?_ ?_
                rotate_left
                · intro x1 x2 v h
                  simp only [Act.put, List.setIfInBounds_toArray, List.set_cons_zero, List.set_cons_succ]
                  go_simp
                  with_reducible rfl
                simp only [Act.put, List.setIfInBounds_toArray, List.set_cons_zero, List.set_cons_succ]
                refine WA_take (i := 15) (v := ?_) (fun _ _ _ _ _ h => (hgr5 _).s _ _ _ _ _ h) (by rw [hops, List.getElem?_toArray]; rfl) rfl (fun t => rfl) (by decide) (by rw [hops]; kernel_rfl) (by intro c a d v w h; cases d <;> exact h) ?_ ?_
                rotate_left
                · intro x1 x2 v h
                  simp only [Act.put, List.setIfInBounds_toArray, List.set_cons_zero, List.set_cons_succ]
                  go_simp
                  with_reducible rfl
                simp only [Act.put, List.setIfInBounds_toArray, List.set_cons_zero, List.set_cons_succ]
                refine WA_take (i := 16) (v := ?_) (fun _ _ _ _ _ h => (hgr5 _).s _ _ _ _ _ h) (by rw [hops, List.getElem?_toArray]; rfl) rfl (fun t => rfl) (by decide) (by rw [hops]; kernel_rfl) (by intro c a d v w h; cases d <;> exact h) ?_ ?_
                rotate_left
                · intro x1 x2 v h
                  simp only [Act.put, List.setIfInBounds_toArray, List.set_cons_zero, List.set_cons_succ]
                  go_simp
                  with_reducible rfl
                simp only [Act.put, List.setIfInBounds_toArray, List.set_cons_zero, List.set_cons_succ]
                refine WA_take (i := 17) (v := ?_) (fun _ _ _ _ _ h => (hgr5 _).s _ _ _ _ _ h) (by rw [hops, List.getElem?_toArray]; rfl) rfl (fun t => rfl) (by decide) (by rw [hops]; kernel_rfl) (by intro c a d v w h; cases d <;> exact h) ?_ ?_
                rotate_left
                · intro x1 x2 v h
                  simp only [Act.put, List.setIfInBounds_toArray, List.set_cons_zero, List.set_cons_succ]
                  go_simp
                  with_reducible rfl
                simp only [Act.put, List.setIfInBounds_toArray, List.set_cons_zero, List.set_cons_succ]
                refine WA_last (hal _) (hgr5 _) (by rw [hops]; kernel_rfl) ?_
                intro x1 x2 v hCC
                obtain ⟨u, u', F9, hu0, hu1, hu2, ht9, hzz⟩ := hCC
                obtain ⟨g1, rfl, hg1, hg1F, hg1b⟩ := hzz.z1 rfl
                obtain ⟨g2, rfl, hg2, hg2F, hg2b⟩ := hzz.z2 rfl
                have hgne : ¬ g1 = g2 := fun h => hzz.ne rfl rfl (by rw [h])
                have hu : u = .slice ua ca.elems.length uc ∧ u' = .slice ub cb.elems.length ud := by
                  simp only [Value.tuple.injEq, Array.mk.injEq, List.cons.injEq, Value.agg.injEq, and_true, true_and] at hu0
                  exact ⟨hu0.1.symm, hu0.2.symm⟩
                obtain ⟨rfl, rfl⟩ := hu
                clear hu0
                have z0 : v.cell? ⟨g1, 0, none⟩ = some (.int .u64 0) := cell_of hg1b 0
                have z1 : v.cell? ⟨g1, 1, none⟩ = some (.slice none 0 0) := cell_of hg1b 1
                have z2 : v.cell? ⟨g1, 2, none⟩ = some (.int .u64 0) := cell_of hg1b 2
                have zf := frozen_of hg1b
                obtain ⟨s1, s2⟩ := setq3 hg1b rfl (uv ca.label) (.slice ua ca.elems.length uc) (uv ca.answer)
                have hk1 := ht9.kp.setCell (p := ⟨g1, 0, none⟩) (.inr hg1) (uv ca.label) |>.setCell (p := ⟨g1, 1, none⟩) (.inr hg1) (.slice ua ca.elems.length uc) |>.setCell (p := ⟨g1, 2, none⟩) (.inr hg1) (uv ca.answer)
                have hto1 := ht9.kpOther s2 (by rintro k rfl; exact ⟨hg1F, hg1⟩)
                have hv1 := ownsRow_kp hu1 s2 (by rintro k hk rfl; exact own_ne hu1 hg1b (by decide) hk)
                have hv2 := ownsRow_kp hu2 s2 (by rintro k hk rfl; exact own_ne hu2 hg1b (by decide) hk)
                have hb2 := s2.heap_some (fun h => hgne h.symm) hg2b
                simp only [Act.put, List.setIfInBounds_toArray, List.set_cons_zero, List.set_cons_succ]
                refine N_one (i := 20) (by rw [hops, List.getElem?_toArray]; rfl) (by rw [hops]; kernel_rfl) (by first | rfl | (rw [hops]; rfl)) ?_
                intro K hK
                go_wp2_with fail
                refine ⟨fun _ => And.intro (HC12.out _ hk1) hk1, ?_⟩
                generalize (((v.setCell ⟨g1, 0, none⟩ (uv ca.label)).setCell ⟨g1, 1, none⟩ (.slice ua ca.elems.length uc)).setCell ⟨g1, 2, none⟩ (uv ca.answer)) = vb at *
                clear z0 z1 z2 zf hk1 s2 ht9 hu1 hu2 hg1b hg2b hzz
                have z0 : vb.cell? ⟨g2, 0, none⟩ = some (.int .u64 0) := cell_of hb2 0
                have z1 : vb.cell? ⟨g2, 1, none⟩ = some (.slice none 0 0) := cell_of hb2 1
                have z2 : vb.cell? ⟨g2, 2, none⟩ = some (.int .u64 0) := cell_of hb2 2
                have zf := frozen_of hb2
                obtain ⟨t1, t2⟩ := setq3 hb2 rfl (uv cb.label) (.slice ub cb.elems.length ud) (uv cb.answer)
                have hk1 := hto1.kp.setCell (p := ⟨g2, 0, none⟩) (.inr hg2) (uv cb.label) |>.setCell (p := ⟨g2, 1, none⟩) (.inr hg2) (.slice ub cb.elems.length ud) |>.setCell (p := ⟨g2, 2, none⟩) (.inr hg2) (uv cb.answer)
                have hto2 := hto1.kpOther t2 (by rintro k rfl; exact ⟨hg2F, hg2⟩)
                have hp1 := ownsRow_kp hv1 t2 (by rintro k hk rfl; exact own_ne hv1 hb2 (by decide) hk)
                have hp2 := ownsRow_kp hv2 t2 (by rintro k hk rfl; exact own_ne hv2 hb2 (by decide) hk)
                have hb1 := t2.heap_some hgne s1
                refine N_one (i := 21) (by rw [hops, List.getElem?_toArray]; rfl) (by rw [hops]; kernel_rfl) (by first | rfl | (rw [hops]; rfl)) ?_
                intro K hK
                go_wp2_with fail
                refine ⟨fun _ => And.intro (HC12.out _ hk1) hk1, ?_⟩
                generalize (((vb.setCell ⟨g2, 0, none⟩ (uv cb.label)).setCell ⟨g2, 1, none⟩ (.slice ub cb.elems.length ud)).setCell ⟨g2, 2, none⟩ (uv cb.answer)) = vc at *
                clear z0 z1 z2 zf hk1 t2 hto1 hv1 hv2 hb2 s1
                have hxf : Ext w vc := HX9.out.kp hto2.kp HFG.out
                have HGE := hid (genuine_any (p := ca) (q := cb) hto2.at' (OwnU.rdu hp1) (OwnU.rdu hp2) HCA.out.2.2.2.2.2.1 HCA.out.2.2.2.2.2.2 (by have := HVS.out.1; have := HCS.out.1; have := HSM.out.1; have := HN16.out; have := HSL.out; omega) HCA.out.2.1 HCA.out.2.2.1 HCA.out.2.2.2.1 HCA.out.2.2.2.2.1)
                have y0 : vc.cell? ⟨g1, 0, none⟩ = some (uv ca.label) := cell_of hb1 0
                have y1 : vc.cell? ⟨g1, 1, none⟩ = some (.slice ua ca.elems.length uc) := cell_of hb1 1
                have y2 : vc.cell? ⟨g1, 2, none⟩ = some (uv ca.answer) := cell_of hb1 2
                have y3 : vc.cell? ⟨g2, 0, none⟩ = some (uv cb.label) := cell_of t1 0
                have y4 : vc.cell? ⟨g2, 1, none⟩ = some (.slice ub cb.elems.length ud) := cell_of t1 1
                have y5 : vc.cell? ⟨g2, 2, none⟩ = some (uv cb.answer) := cell_of t1 2
                have HXF := hid hxf
                clear hto2 hp1 hp2 hb1 t1 hxf hg1 hg2 hg1F hg2F hgne
                refine N_one (i := 22) (by rw [hops, List.getElem?_toArray]; rfl) (by rw [hops]; kernel_rfl) (by first | rfl | (rw [hops]; rfl)) ?_
                intro K hK
                go_wp2_with fail
                try (with_reducible refine ⟨fun h => absurd h (by decide), ?_⟩)
                clear hal hgr hgr2 hgr3 hgr4 hgr5
                refine N_done (by rw [hops]; kernel_rfl) ?_
                clear hops ops
                go_wp2_with fail
                refine HGE.out.mono ?_
                rintro e wz ⟨rfl, hxz⟩
                have HXZ := hid (HXF.out.trans hxz)
                clear hxz y0 y1 y2 y3 y4 y5
                go_wp2_with fail
                go_ret
                exact ⟨rfl, HXZ.out⟩
end Go.Proofs.Ytdpgfjnpcjpdpaa
