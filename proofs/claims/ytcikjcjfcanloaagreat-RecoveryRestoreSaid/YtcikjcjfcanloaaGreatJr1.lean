/- Texts of this claim, joined: Orc, Same, RecA. -/
import Derived.Laws.Bits64
import Derived.Test.YtcikjcjfcanloaaGreatJa3
import Derived.Test.YtcikjcjfcanloaaGreatJa4
import Derived.Laws.IdiomStrings
import Derived.ChangeKeysEq
import Derived.Test.YtcikjcjfcanloaaGreatJa16
set_option linter.unusedSimpArgs false
namespace Go.Proofs.YtcikjcjfcanloaaGreat
open Go.RowKit
attribute [local irreducible] perm fAdd fMul fPow fSub fNeg fRed
end Go.Proofs.YtcikjcjfcanloaaGreat
namespace Go.Proofs.YtcikjcjfcanloaaGreat
open Go.RowKit
attribute [local irreducible] perm fAdd fMul fPow fSub fNeg fRed
/-- The oracle's own block is written anew; the rest of it is as it was. -/
theorem OrcIn.reself {w w' : World} {b : Nat} {M : Orc} {F : Nat → Prop} {qv : Value} {mk ms mp : Nat} {Q : List (Qn × Value)} {S : List (Sl × Value)} (h : OrcIn w b M F qv mk ms mp Q S)
    (ideal : Bool) (st : UInt64) (n : Nat)
    (hs : w'.heap[b]? = some (.cells #[.bool ideal, uv st, .int .i64 (n : Int), qv, .map (some mk), .map (some ms), .map (some mp)] 122 (0, 0)))
    (hb : ∀ k, k ≠ b → k < w.heap.size → w'.heap[k]? = w.heap[k]?) (hz : w.heap.size ≤ w'.heap.size) : OrcIn w' b { M with ideal := ideal, state := st, draws := n } F qv mk ms mp Q S := by
  have hm : ∀ {κ : Type} {key : κ → Value} {m : Nat} {L : List (κ × Value)}, KMap key w m L → m ≠ b := by
    intro κ key m L hm hmb
    obtain ⟨es, c, h1, _⟩ := hm
    rw [hmb, h.self] at h1; cases h1
  have ho : ∀ {e : TypeId} {size n : Nat} {v : Value} {xs : List Value}, e ≠ 122 → w.ownsRow 0 e size v n xs → w'.ownsRow 0 e size v n xs := by
    intro e size n v xs he hw
    refine ownsRow_of hw fun k hk => hb k ?_ (ownsRow_lt hw hk)
    rintro rfl
    rcases hw.2 with ⟨rfl, _⟩ | ⟨g, cap, cur, rfl, _, hg, _⟩
    · simp [Value.ownBlock] at hk
    · simp only [Value.ownBlock, Option.some.injEq] at hk
      rw [← hk] at h
      have := h.self
      rw [hg] at this
      injection this with this
      injection this with _ h2
      exact he h2
  exact {
    self := hs
    qown := ho (by decide) h.qown
    qs := h.qs
    elems := fun x hx => ⟨ho (by decide) (h.elems x hx).1, (h.elems x hx).2⟩
    known := h.known.of_heap (hb mk (hm h.known) h.known.lt)
    seals := h.seals.of_heap (hb ms (hm h.seals) h.seals.lt)
    ss := h.ss
    plains := fun x hx => ⟨ho (by decide) (h.plains x hx).1, (h.plains x hx).2⟩
    proofs := h.proofs.of_heap (hb mp (hm h.proofs) h.proofs.lt)
    apart := h.apart
    foot := ⟨h.foot.1, h.foot.2.1, h.foot.2.2.1, h.foot.2.2.2.1, h.foot.2.2.2.2.1, fun k hk => Nat.lt_of_lt_of_le (h.foot.2.2.2.2.2 k hk) hz⟩ }
set_option maxRecDepth 100000 in
set_option maxHeartbeats 800000 in
theorem Ideal_any (seed : UInt64) (w : World) : Calls Tryz.prog 26 #[.int .u64 seed.toNat] w (NewO w (Orc.fresh true seed)) := by
  go_enter Tryz.func26, Tryz.ntmps26
  go_wp2_with fail
  refine (newOracle_any _).mono ?_
  rintro e w1 ⟨b, F, rfl, hat, hE, hF⟩
  obtain ⟨qv, mk, ms, mp, Q, S, hin⟩ := hat
  have hself := hin.self
  obtain ⟨c0, c1, _⟩ := self_cells hself
  have f0 := frozen_of hself
  have HIN := hid hin
  have HE := hid hE
  have HF := hid hF
  clear hin hE hF hself
  go_wp2
  go_ret
  have hs := heap_setCell_same (heap_setCell_same HIN.out.self 0 (.bool true)) 1 (uv seed)
  have hK : Kp (fun k => k = b) w1 ((w1.setCell ⟨b, 0, none⟩ (.bool true)).setCell ⟨b, 1, none⟩ (uv seed)) := ((Kp.refl (fun k => k = b) w1).setCell (p := ⟨b, 0, none⟩) (.inl rfl) _).setCell (p := ⟨b, 1, none⟩) (.inl rfl) _
  have hr := HIN.out.reself true seed 0 hs (fun k hk hl => hK.block k hl hk) hK.size
  exact ⟨b, F, rfl, ⟨qv, mk, ms, mp, Q, S, hr⟩, HE.out.kp hK (by rintro k rfl; exact HF.out _ HIN.out.foot.1), HF.out⟩
end Go.Proofs.YtcikjcjfcanloaaGreat
namespace Go.Proofs.YtcikjcjfcanloaaGreat
open Go.RowKit
attribute [local irreducible] perm fAdd fMul fPow fSub fNeg fRed
end Go.Proofs.YtcikjcjfcanloaaGreat
namespace Go.Proofs.YtcikjcjfcanloaaGreat
open Go.RowKit
attribute [local irreducible] perm fAdd fMul fPow fSub fNeg fRed
theorem same_snoc {a b : List UInt64} {i : Nat} {x y : UInt64} (ha : a[i]? = some x) (hb : b[i]? = some y) (h : a.take i = b.take i) (he : x = y) : a.take (i + 1) = b.take (i + 1) := by
  rw [List.take_add_one, List.take_add_one, ha, hb, h, he]
end Go.Proofs.YtcikjcjfcanloaaGreat
namespace Go.Proofs.YtcikjcjfcanloaaGreat
open Go.RowKit
attribute [local irreducible] perm fAdd fMul fPow fSub fNeg fRed hashU drawOf nextState
set_option maxRecDepth 100000 in
set_option maxHeartbeats 800000 in
theorem Equal_any (av bv : Value) (a b : List UInt64) (w : World) (ha : RdU w av a) (hb : RdU w bv b) (hA : a.length ≤ 1000000000000) (hB : b.length ≤ 1000000000000) :
    Calls Tryz.prog 169 #[av, bv] w fun e w' => e = .returned (.bool (a == b)) ∧ Ext w w' := by
  have HA := hid ha
  have HB := hid hb
  obtain ⟨aa, ac, rfl, -⟩ := ha
  obtain ⟨ba, bc, rfl, -⟩ := hb
  have hA1 : (a.length : Int) ≤ 1000000000000 := by omega
  go_enter Tryz.func169, Tryz.ntmps169
  by_cases hlen : a.length = b.length
  · have hlB : ((a.length : Int) != (b.length : Int)) = false := by simp [hlen]
    have HL := hid hlen
    clear hlen
    go_wp2
    go_loopw [13] (fun iv wr => ∃ i : Nat, i ≤ a.length ∧ iv = .int .i64 i ∧ Hid (a.take i = b.take i) ∧ Ext w wr) (fun iv _ => a.length - (intOf iv).toNat)
    case atStart => exact ⟨0, by omega, rfl, hid rfl, Ext.refl _⟩
    case round =>
      obtain ⟨i, hi, rfl, hI, hE⟩ := hrel
      have HE := hid hE
      clear hE
      by_cases hlt : i < a.length
      · have hlt2 : i < b.length := by rw [← HL.out]; exact hlt
        have hx : a[i]? = some a[i] := List.getElem?_eq_getElem hlt
        have hy : b[i]? = some b[i] := List.getElem?_eq_getElem hlt2
        generalize a[i] = x at *
        generalize b[i] = y at *
        obtain ⟨ab, ao, rfl, hca⟩ := HA.out.at hx
        obtain ⟨bb, bo, rfl, hcb⟩ := HB.out.at hy
        have HX := hid hx
        have HY := hid hy
        have H : ∀ v, Ext w v → v.cell? ⟨ab, ao + i, none⟩ = some (.int .u64 x.toNat) ∧ v.cell? ⟨bb, bo + i, none⟩ = some (.int .u64 y.toNat) := fun v k => ⟨k.cell_some hca, k.cell_some hcb⟩
        have hd : decide ((i : Int) < (a.length : Int)) = true := by simp; omega
        have HS0 : (wr.drew.cell? ⟨ab, ao + i, none⟩ = some (.int .u64 x.toNat) ∧ wr.drew.cell? ⟨bb, bo + i, none⟩ = some (.int .u64 y.toNat)) ∧ Ext w wr.drew := ⟨H _ HE.out.drew, HE.out.drew⟩
        have HH := hid H
        have i1 : (i : Int) < (a.length : Int) := by omega
        have i2 : (i : Int) < (b.length : Int) := by omega
        clear hx hy hca hcb H
        go_wp2_with fail
        refine wp_region_T (fun v => (v.cell? ⟨ab, ao + i, none⟩ = some (.int .u64 x.toNat) ∧ v.cell? ⟨bb, bo + i, none⟩ = some (.int .u64 y.toNat)) ∧ Ext w v) 8 [(0, true), (1, true), (2, true), (3, true), (4, true), (5, true), (6, true), (7, true), (8, false)] (by kernel_rfl) (by kernel_rfl) (by intro c a d v w h; cases d <;> exact h) ?_
        intro ops hops
        iterate 8
          refine wpT_take (v := ?_) (by rw [hops, List.getElem?_toArray]; rfl) (by first | rfl | (rw [hops]; rfl)) ?_ HS0 ?_
          rotate_left
          · intro v h; go_simp; with_reducible rfl
          simp only [Act.put, List.getElem_toArray, List.getElem_cons_zero, List.getElem_cons_succ, List.setIfInBounds_toArray, List.set_cons_zero, List.set_cons_succ]
        by_cases hxy : x = y
        · have hd2 : ((x.toNat : Int) != (y.toNat : Int)) = false := by simp [hxy]
          have HXY := hid hxy
          clear hxy
          refine wpT_step (by rw [hops, List.getElem?_toArray]; rfl) (by first | rfl | (rw [hops]; rfl)) ?_
          intro K hK
          go_wp2_with fail
          refine ⟨fun h => absurd h (by decide), ?_⟩
          rw [wpT_nil]
          clear hops ops
          have hE2 := HS0.2
          have HE2 := hid hE2
          clear hE2 HS0
          go_wp2
          go_roundw
          case rel => exact ⟨i + 1, by omega, by go_num, hid (same_snoc HX.out HY.out hI.out HXY.out), HE2.out⟩
          case measure => simp [intOf]; omega
        · have hd2 : ((x.toNat : Int) != (y.toNat : Int)) = true := by
            simp only [bne_iff_ne, ne_eq]
            intro h; exact hxy (UInt64.toNat_inj.1 (by omega))
          have hfin : (a == b) = false := by
            rw [beq_eq_false_iff_ne]; rintro rfl
            have h1 := HX.out
            rw [HY.out] at h1
            exact hxy (Option.some.inj h1).symm
          have HF := hid hfin
          clear hfin hxy
          refine wpT_step (by rw [hops, List.getElem?_toArray]; rfl) (by first | rfl | (rw [hops]; rfl)) ?_
          intro K hK
          go_wp2_with fail
          refine ⟨fun h => absurd h (by decide), ?_⟩
          rw [wpT_nil]
          clear hops ops
          have hE2 := HS0.2
          have HE2 := hid hE2
          clear hE2 HS0
          go_wp2
          go_ret
          exact ⟨ret_bool HF.out.symm, HE2.out⟩
      · have hi' : i = a.length := by omega
        have hfin : (a == b) = true := by
          have h1 := hI.out
          rw [hi', List.take_length] at h1
          have h2 := HL.out
          rw [h2, List.take_length] at h1
          simpa using h1
        have HF := hid hfin
        have hd : decide ((i : Int) < (a.length : Int)) = false := by simp; omega
        clear hfin
        go_wp2
        go_ret
        exact ⟨ret_bool HF.out.symm, HE.out⟩
  · have hlB : ((a.length : Int) != (b.length : Int)) = true := by simp; omega
    have hfin : (a == b) = false := by
      rw [beq_eq_false_iff_ne]; rintro rfl; exact hlen rfl
    have HF := hid hfin
    clear hfin hlen
    go_wp2
    go_ret
    exact ⟨ret_bool HF.out.symm, Ext.refl _⟩
set_option maxRecDepth 100000 in
set_option maxHeartbeats 800000 in
theorem EqualW_any (av bv : Value) (a b : List UInt64) (w : World) (ha : RdU' w av a) (hb : RdU' w bv b) (hA : a.length ≤ 1000000000000) (hB : b.length ≤ 1000000000000) :
    Calls Tryz.prog 169 #[av, bv] w fun e w' => e = .returned (.bool (a == b)) ∧ Ext w w' := by
  by_cases hlen : a.length = b.length
  · cases a with
    | nil =>
      obtain rfl : b = [] := List.length_eq_zero_iff.1 hlen.symm
      obtain ⟨aa, ac, rfl, -⟩ := ha
      obtain ⟨ba, bc, rfl, -⟩ := hb
      go_enter Tryz.func169, Tryz.ntmps169
      go_wp2
      go_loopw [13] (fun iv wr => iv = .int .i64 0 ∧ wr = w) (fun _ _ => 0)
      case atStart => exact ⟨rfl, rfl⟩
      case round =>
        obtain ⟨rfl, rfl⟩ := hrel
        go_wp2
        go_ret
        exact ⟨rfl, Ext.refl _⟩
    | cons x r =>
      cases b with
      | nil => simp at hlen
      | cons y s => exact Equal_any av bv _ _ w (ha.rdu (by simp)) (hb.rdu (by simp)) hA hB
  · obtain ⟨aa, ac, rfl, -⟩ := ha
    obtain ⟨ba, bc, rfl, -⟩ := hb
    have hlB : ((a.length : Int) != (b.length : Int)) = true := by simp; omega
    have hfin : (a == b) = false := by
      rw [beq_eq_false_iff_ne]; rintro rfl; exact hlen rfl
    have HF := hid hfin
    clear hfin hlen
    go_enter Tryz.func169, Tryz.ntmps169
    go_wp2
    go_ret
    exact ⟨ret_bool HF.out.symm, Ext.refl _⟩
theorem run_strW (w : World) (v : Value) (l : List UInt8) (h : RdB' w v l) : (convert 69 9 v).run Tryz.prog w = .ok (.string ⟨l.toArray⟩) w := by
  obtain ⟨a, c, rfl, h2, h3, h4, h5⟩ := h
  cases a with
  | none =>
    have hc := h4 rfl
    obtain rfl : l = [] := List.eq_nil_of_length_eq_zero (by omega)
    rw [run_convert_bytes_nil w _ _ Tryz.underlying69 Tryz.underlying5 _ _ _ Tryz.underlying9]
    rfl
  | some ad =>
    exact run_convert_bytes_back w _ _ _ ad c l Tryz.underlying69 Tryz.underlying5 Tryz.underlying9 (fun j hj => h5 ad rfl j _ (by rw [List.getElem?_map, List.getElem?_eq_getElem hj]; rfl))
set_option maxRecDepth 100000 in
theorem bEqual_any (av bv : Value) (a b : List UInt8) (w : World) (ha : RdB' w av a) (hb : RdB' w bv b) :
    Calls Tryz.prog 95 #[av, bv] w fun e w' => e = .returned (.bool (decide (a = b))) ∧ Ext w w' := by
  have hca := run_strW w _ _ ha
  have hcb := run_strW w _ _ hb
  obtain ⟨aa, ac, rfl, -⟩ := ha
  obtain ⟨ba, bc, rfl, -⟩ := hb
  obtain ⟨R, hR⟩ : ∃ R, R = decide (a = b) := ⟨_, rfl⟩
  rw [← hR]
  by_cases h : a = b
  · have hE : R = true := by rw [hR]; exact decide_eq_true h
    subst h
    subst hE
    clear hR
    go_enter Tryz.func95, Tryz.ntmps95
    go_wp2_with fail
    go_ret
    exact ⟨rfl, Ext.refl w⟩
  · have hE : R = false := by rw [hR]; exact decide_eq_false h
    subst hE
    have hne : (a == b) = false := by rw [beq_eq_false_iff_ne]; exact h
    clear hR h
    go_enter Tryz.func95, Tryz.ntmps95
    go_wp2_with fail
    go_ret
    exact ⟨rfl, Ext.refl w⟩
instance : DecidableEq OutT := fun a b => decidable_of_iff (a.commit = b.commit ∧ (a.p.a = b.p.a ∧ a.p.b = b.p.b) ∧ a.cipher = b.cipher) (by
  obtain ⟨a1, ⟨a2, a3⟩, a4⟩ := a
  obtain ⟨b1, ⟨b2, b3⟩, b4⟩ := b
  simp)
instance : DecidableEq TxT := fun a b => decidable_of_iff (a.anchor = b.anchor ∧ a.marks = b.marks ∧ a.outs = b.outs ∧ a.deposit = b.deposit ∧ a.withdraw = b.withdraw ∧ a.fee = b.fee ∧ a.account = b.account ∧ a.nonce = b.nonce ∧ a.expiry = b.expiry ∧ a.proof = b.proof) (by
  cases a; cases b; simp)
instance : DecidableEq BlkT := fun a b => decidable_of_iff (a.parent = b.parent ∧ a.height = b.height ∧ a.miner = b.miner ∧ a.work = b.work ∧ a.nonce = b.nonce ∧ a.txs = b.txs) (by
  cases a; cases b; simp)
theorem ub_eqR (x y : UInt64) : ((x.toNat : Int) == (y.toNat : Int)) = (x == y) := by
  rw [Bool.eq_iff_iff]
  simp only [beq_iff_eq]
  constructor
  · intro h; exact UInt64.toNat_inj.1 (by omega)
  · rintro rfl; rfl
theorem infoE_u64R : (Tryz.prog.info? 22).isSome = true := by kernel_rfl
theorem arrE_underR : Tryz.prog.underlying 94 = some (.array 2 22) := by kernel_rfl
theorem u64E_cellsR : Tryz.prog.cellsOf 22 = 1 := by kernel_rfl
theorem e2EqR (xa xb ya yb : UInt64) (w : World) : (Op.equalIn 10000 94 (.agg #[uv xa, uv xb]) (.agg #[uv ya, uv yb])).run Tryz.prog w = .ok (xa == ya && xb == yb) w := by
  obtain ⟨i, hi⟩ := Option.isSome_iff_exists.1 infoE_u64R
  rw [show (10000 : Nat) = 9999 + 1 from rfl, run_equalIn_array w 9999 _ _ arrE_underR hi, u64E_cellsR, show List.range 2 = [0, 1] from rfl]
  have hu : Tryz.prog.underlying 22 = some (.int .u64) := Tryz.underlying22
  simp [Op.eqItems, go_sem, hu, ub_eqR]
  by_cases h0 : xa = ya <;> by_cases h1 : xb = yb <;> simp [h0, h1]
theorem uv_ne {x y : UInt64} (h : x ≠ y) : ((x.toNat : Int) == (y.toNat : Int)) = false ∧ ¬ x.toNat = y.toNat := ⟨by rw [beq_eq_false_iff_ne]; exact fun e => h (UInt64.toNat_inj.1 (by omega)), fun e => h (UInt64.toNat_inj.1 e)⟩
set_option maxRecDepth 100000 in
set_option maxHeartbeats 6400000 in
theorem sameOut_any (x y : OutT) (xv yv : Value) (w : World) (hx : RdU' w xv x.cipher) (hy : RdU' w yv y.cipher) (sx : x.cipher.length ≤ 1000) (sy : y.cipher.length ≤ 1000) :
    Calls Tryz.prog 171 #[.agg #[uv x.commit, uv x.p.a, uv x.p.b, xv], .agg #[uv y.commit, uv y.p.a, uv y.p.b, yv]] w fun e w' => e = .returned (.bool (decide (x = y))) ∧ Ext w w' := by
  have EQ : Hid (∀ u, Ext w u → Calls Tryz.prog 169 #[xv, yv] u fun e w' => e = .returned (.bool (x.cipher == y.cipher)) ∧ Ext u w') := hid fun u k => EqualW_any xv yv _ _ u (hx.ext k) (hy.ext k) (by omega) (by omega)
  obtain ⟨xa, xc, rfl, -⟩ := id hx
  obtain ⟨ya, yc, rfl, -⟩ := id hy
  obtain ⟨xm, ⟨xp, xq⟩, xl⟩ := x
  obtain ⟨ym, ⟨yp, yq⟩, yl⟩ := y
  simp only at EQ ⊢
  obtain ⟨R, hR⟩ : ∃ R, R = decide ((⟨xm, ⟨xp, xq⟩, xl⟩ : OutT) = ⟨ym, ⟨yp, yq⟩, yl⟩) := ⟨_, rfl⟩
  rw [← hR]
  have HR : Hid (R = decide (xm = ym ∧ (xp = yp ∧ xq = yq) ∧ xl = yl)) := hid (by rw [hR]; simp)
  obtain ⟨N, hN⟩ : ∃ N, N = w.heap.size := ⟨_, rfl⟩
  obtain ⟨w0, hw0⟩ : ∃ w0, w0 = (w.alloc (.cells #[uv xm, uv xp, uv xq, .slice xa xl.length xc] 103)).alloc (.cells #[uv ym, uv yp, uv yq, .slice ya yl.length yc] 103) := ⟨_, rfl⟩
  have hx0 : Ext w w0 := by rw [hw0]; exact ((Ext.refl w).alloc _).alloc _
  have hb0 : w0.heap[N]? = some (.cells #[uv xm, uv xp, uv xq, .slice xa xl.length xc] 103 (0, 0)) := by rw [hw0, hN]; exact heap_alloc_some (heap_new _ _)
  have hb1 : w0.heap[N + 1]? = some (.cells #[uv ym, uv yp, uv yq, .slice ya yl.length yc] 103 (0, 0)) := by
    rw [hw0, hN]
    have := heap_new (w.alloc (.cells #[uv xm, uv xp, uv xq, .slice xa xl.length xc] 103)) (.cells #[uv ym, uv yp, uv yq, .slice ya yl.length yc] 103)
    simpa using this
  have HX0 := hid hx0
  have HW := hid hw0
  obtain ⟨a0, a1, a2, a3⟩ := four_cells hb0
  obtain ⟨b0, b1, b2, b3⟩ := four_cells hb1
  clear hw0 hx0 hb0 hb1 hR hx hy sx sy
  go_enter Tryz.func171, Tryz.ntmps171
  go_upto_region 1 with fail
  rw [← HW.out, ← hN]
  clear hN HW
  by_cases h1 : xm = ym
  case neg =>
    obtain rfl : R = false := by rw [HR.out]; simp [h1]
    obtain ⟨n1, n2⟩ := uv_ne h1
    clear h1
    go_wp2_with fail
    go_ret
    exact ⟨rfl, HX0.out⟩
  subst h1
  by_cases h2 : xp = yp ∧ xq = yq
  case neg =>
    obtain rfl : R = false := by rw [HR.out, decide_eq_false_iff_not]; exact fun h => h2 h.2.1
    have HEQ : ∀ u : World, (Op.equalIn 10000 94 (.agg #[uv xp, uv xq]) (.agg #[uv yp, uv yq])).run Tryz.prog u = .ok false u := fun u => by
      rw [e2EqR, show (xp == yp && xq == yq) = false by rw [Bool.eq_false_iff]; simpa using h2]
    clear h2
    go_wp2_with fail
    go_ret
    exact ⟨rfl, HX0.out⟩
  obtain ⟨rfl, rfl⟩ := h2
  have HEQ : ∀ u : World, (Op.equalIn 10000 94 (.agg #[uv xp, uv xq]) (.agg #[uv xp, uv xq])).run Tryz.prog u = .ok true u := fun u => by
    rw [e2EqR]; simp
  have HR2 : Hid (R = (xl == yl)) := hid (by rw [HR.out]; by_cases h : xl = yl <;> simp [h])
  obtain ⟨E, hE⟩ : ∃ E, E = (xl == yl) := ⟨_, rfl⟩
  rw [← hE] at EQ HR2
  obtain rfl : R = E := HR2.out
  clear hE HR HR2
  go_wp2_with fail
  refine (EQ.out _ HX0.out).mono ?_
  rintro e w1 ⟨rfl, hx⟩
  have X1 := hid (HX0.out.trans hx)
  clear hx EQ HEQ
  go_wp2_with fail
  go_ret
  exact ⟨rfl, X1.out⟩
end Go.Proofs.YtcikjcjfcanloaaGreat
