/- Texts of this claim, joined: RecI, SameBlk, L51c. -/
import Derived.Test.YtcikjcjfcanloaaGreatJr16
import Derived.Test.YtcikjcjfcanloaaGreatJr17
import Derived.Test.YtcikjcjfcanloaaGreatJr22
import Derived.Test.YtcikjcjfcanloaaGreatJr23
set_option linter.unusedSimpArgs false
namespace Go.Proofs.YtcikjcjfcanloaaGreat
open Go.RowKit
theorem outB_inj {a b : OutT} (ha : outOk a = true) (hb : outOk b = true) (h : outB a = outB b) : a = b := by
  have hac : a.cipher.length = 3 := by unfold outOk at ha; simp only [Bool.and_eq_true, decide_eq_true_eq] at ha; exact ha.1.2
  have hbc : b.cipher.length = 3 := by unfold outOk at hb; simp only [Bool.and_eq_true, decide_eq_true_eq] at hb; exact hb.1.2
  unfold outB listB at h
  have h1 := List.append_inj h (by rw [leB_length, leB_length])
  have h2 := List.append_inj h1.2 (by rw [leB_length, leB_length])
  have h3 := List.append_inj h2.2 (by rw [leB_length, leB_length])
  have h4 := List.append_inj h3.2 (by rw [lenB_length, lenB_length])
  obtain ⟨a1, ⟨a2, a3⟩, a4⟩ := a
  obtain ⟨b1, ⟨b2, b3⟩, b4⟩ := b
  have e1 := leB_inj h1.1
  have e2 := leB_inj h2.1
  have e3 := leB_inj h3.1
  have e4 := cat_inj h4.2
  simp only at e1 e2 e3 e4
  rw [e1, e2, e3, e4]
theorem outsB_inj : ∀ {a b : List OutT}, a.length = b.length → a.all outOk = true → b.all outOk = true → outsB a = outsB b → a = b
  | [], [], _, _, _, _ => rfl
  | [], y :: s, h, _, _, _ => by simp at h
  | x :: r, [], h, _, _, _ => by simp at h
  | x :: r, y :: s, hl, ha, hb, h => by
    simp only [List.all_cons, Bool.and_eq_true] at ha hb
    unfold outsB at h
    rw [List.flatMap_cons, List.flatMap_cons] at h
    have h1 := List.append_inj h (by rw [outB_length ha.1, outB_length hb.1])
    rw [outB_inj ha.1 hb.1 h1.1, outsB_inj (by simpa using hl) ha.2 hb.2 h1.2]
theorem txB_inj {a b : TxT} (ha : txV a = 0) (hb : txV b = 0) (h : txB a = txB b) : a = b := by
  have pa := txV_parts ha
  have pb := txV_parts hb
  unfold txB listB at h
  have h1 := List.append_inj h (by rw [leB_length, leB_length])
  have h1b := h1.2
  rw [List.append_assoc, List.append_assoc] at h1b
  have h2 := List.append_inj h1b (by rw [lenB_length, lenB_length])
  have hm : a.marks.length = b.marks.length := by
    have := lenB_inj (by have := pa.ml; omega) (by have := pb.ml; omega) h2.1
    omega
  have h3 := List.append_inj h2.2 (by rw [cat_length, cat_length, hm])
  have h4 := List.append_inj h3.2 (by rw [lenB_length, lenB_length])
  have ho : a.outs.length = b.outs.length := by
    have := lenB_inj (by have := pa.ol; omega) (by have := pb.ol; omega) h4.1
    omega
  have h5 := List.append_inj h4.2 (by rw [outsB_length pa.oo, outsB_length pb.oo, ho])
  have e3 := outsB_inj ho pa.oo pb.oo h5.1
  have h6 := h5.2
  unfold txTail bytesB at h6
  have g1 := List.append_inj h6 (by rw [leB_length, leB_length])
  have g2 := List.append_inj g1.2 (by rw [leB_length, leB_length])
  have g3 := List.append_inj g2.2 (by rw [leB_length, leB_length])
  have g4 := List.append_inj g3.2 (by rw [leB_length, leB_length])
  have g5 := List.append_inj g4.2 (by rw [leB_length, leB_length])
  have g6 := List.append_inj g5.2 (by rw [lenB_length, lenB_length])
  have g7 := List.append_inj g6.2 (by rw [lenB_length, lenB_length])
  have e9 := lenB_inj (by have := pa.ex; omega) (by have := pb.ex; omega) g6.1
  obtain ⟨a1, a2, a3, a4, a5, a6, a7, a8, a9, a10⟩ := a
  obtain ⟨b1, b2, b3, b4, b5, b6, b7, b8, b9, b10⟩ := b
  have e1 := leB_inj h1.1
  have e2 := cat_inj h3.1
  have e4 := leB_inj g1.1
  have e5 := leB_inj g2.1
  have e6 := leB_inj g3.1
  have e7 := leB_inj g4.1
  have e8 := leB_inj g5.1
  have e10 := g7.2
  simp only at e1 e2 e3 e4 e5 e6 e7 e8 e9 e10
  rw [e1, e2, e3, e4, e5, e6, e7, e8, e9, e10]
theorem sameTx_valid {a b : TxT} (ha : txV a = 0) (hb : txV b = 0) : sameTx a b = decide (a = b) := by
  by_cases h : a = b
  · subst h
    rw [txB_same ha ha rfl]
    simp
  · rw [decide_eq_false h, Bool.eq_false_iff]
    exact fun e => h (txB_inj ha hb (sameTx_bytes e))
theorem sameTxs_valid : ∀ {a b : List TxT}, a.length = b.length → (∀ t ∈ a, txV t = 0) → (∀ t ∈ b, txV t = 0) → sameTxs a b = decide (a = b)
  | [], [], _, _, _ => rfl
  | [], y :: s, h, _, _ => by simp at h
  | x :: r, [], h, _, _ => by simp at h
  | x :: r, y :: s, hl, ha, hb => by
    show (sameTx x y && sameTxs r s) = _
    rw [sameTx_valid (ha x (by simp)) (hb y (by simp)), sameTxs_valid (by simpa using hl) (fun t ht => ha t (by simp [ht])) (fun t ht => hb t (by simp [ht]))]
    by_cases h1 : x = y <;> by_cases h2 : r = s <;> simp [h1, h2]
theorem sameBlk_valid {a b : BlkT} (ha : ∀ t ∈ a.txs, txV t = 0) (hb : ∀ t ∈ b.txs, txV t = 0) : sameBlk a b = decide (a = b) := by
  unfold sameBlk sameHd
  by_cases hl : a.txs.length = b.txs.length
  · rw [sameTxs_valid hl ha hb]
    obtain ⟨a1, a2, a3, a4, a5, a6⟩ := a
    obtain ⟨b1, b2, b3, b4, b5, b6⟩ := b
    simp only at hl ⊢
    rw [Bool.eq_iff_iff]
    simp only [Bool.and_eq_true, decide_eq_true_eq, BlkT.mk.injEq]
    constructor
    · rintro ⟨⟨⟨⟨⟨⟨g1, g2⟩, g3⟩, g4⟩, g5⟩, -⟩, g6⟩
      exact ⟨g1, g2, g3, g4, g5, g6⟩
    · rintro ⟨g1, g2, g3, g4, g5, g6⟩
      exact ⟨⟨⟨⟨⟨⟨g1, g2⟩, g3⟩, g4⟩, g5⟩, hl⟩, g6⟩
  · have : a ≠ b := fun e => hl (by rw [e])
    rw [decide_eq_false this, decide_eq_false hl, Bool.and_false, Bool.false_and]
end Go.Proofs.YtcikjcjfcanloaaGreat
namespace Go.Proofs.YtcikjcjfcanloaaGreat
open Go.RowKit
attribute [local irreducible] perm fAdd fMul fPow fSub fNeg fRed hashU
theorem sameTxs_at : ∀ {a b : List TxT} {i : Nat} {x y : TxT}, a[i]? = some x → b[i]? = some y → sameTx x y = false → sameTxs a b = false
  | [], _, _, _, _, h, _, _ => by simp at h
  | _ :: _, [], _, _, _, _, h, _ => by simp at h
  | u :: r, v :: s, 0, x, y, hx, hy, hn => by
    simp at hx hy
    subst hx hy
    unfold sameTxs
    rw [hn, Bool.false_and]
  | u :: r, v :: s, i + 1, x, y, hx, hy, hn => by
    unfold sameTxs
    rw [sameTxs_at (i := i) (by simpa using hx) (by simpa using hy) hn, Bool.and_false]
theorem sameTxs_all : ∀ {a b : List TxT}, a.length = b.length → (∀ (i : Nat) (x y : TxT), a[i]? = some x → b[i]? = some y → sameTx x y = true) → sameTxs a b = true
  | [], _, _, _ => by unfold sameTxs; rfl
  | _ :: _, [], h, _ => by simp at h
  | u :: r, v :: s, hl, h => by
    unfold sameTxs
    rw [sameTxs_all (by simpa using hl) (fun i x y hx hy => h (i + 1) x y (by simpa using hx) (by simpa using hy)), Bool.and_true]
    exact h 0 u v rfl rfl
theorem u_bne (x y : UInt64) : ((x.toNat : Int) != (y.toNat : Int)) = !decide (x = y) := by
  by_cases h : x = y
  · subst h; simp
  · have : x.toNat ≠ y.toNat := fun h' => h (UInt64.toNat_inj.1 h')
    rw [show decide (x = y) = false by simpa using h]
    simp; omega
theorem i_bne (x y : Int) : (x != y) = !decide (x = y) := by
  by_cases h : x = y
  · subst h; simp
  · rw [show decide (x = y) = false by simpa using h]; simpa using h
theorem l_bne (x y : Nat) : ((x : Int) != (y : Int)) = !decide (x = y) := by
  by_cases h : x = y
  · subst h; simp
  · rw [show decide (x = y) = false by simpa using h]; simp; omega
def hd6 (a1 a2 a3 a4 a5 a6 : Bool) : Bool := a1 && a2 && a3 && a4 && a5 && a6
set_option maxRecDepth 100000 in
set_option maxHeartbeats 6400000 in
theorem sameBlk_any (a b : BlkT) (av bv : Value) (w : World) (ha : RdTs w av a.txs) (hb : RdTs w bv b.txs) (sa : BSm a) (sb : BSm b) :
    Calls Tryz.prog 94 #[blkVal a av, blkVal b bv] w fun e w' => e = .returned (.bool (sameBlk a b)) ∧ Ext w w' := by
  have HA := hid ha
  have HB' := hid hb
  have SA := hid sa
  have SB := hid sb
  obtain ⟨sa, sc, rfl, -⟩ := ha.shape
  obtain ⟨ta, tc, rfl, -⟩ := hb.shape
  obtain ⟨R, hR⟩ : ∃ R, R = sameBlk a b := ⟨_, rfl⟩
  rw [← hR]
  have HR : Hid (R = (hd6 (decide (a.parent = b.parent)) (decide (a.height = b.height)) (decide (a.miner = b.miner)) (decide (a.work = b.work)) (decide (a.nonce = b.nonce)) (decide (a.txs.length = b.txs.length)) && sameTxs a.txs b.txs)) := hid (by rw [hR]; rfl)
  have hn1 : (a.txs.length : Int) ≤ 100 := by have := SA.out.n; omega
  obtain ⟨N, hN⟩ : ∃ N, N = w.heap.size := ⟨_, rfl⟩
  obtain ⟨w0, hw0⟩ : ∃ w0, w0 = (w.alloc (.cells #[uv a.parent, .int .i64 a.height, uv a.miner, uv a.work, uv a.nonce, .slice sa a.txs.length sc] 75)).alloc (.cells #[uv b.parent, .int .i64 b.height, uv b.miner, uv b.work, uv b.nonce, .slice ta b.txs.length tc] 75) := ⟨_, rfl⟩
  have hx0 : Ext w w0 := by rw [hw0]; exact ((Ext.refl w).alloc _).alloc _
  have hb0 : w0.heap[N]? = some (.cells #[uv a.parent, .int .i64 a.height, uv a.miner, uv a.work, uv a.nonce, .slice sa a.txs.length sc] 75 (0, 0)) := by rw [hw0, hN]; exact heap_alloc_some (heap_new _ _)
  have hb1 : w0.heap[N + 1]? = some (.cells #[uv b.parent, .int .i64 b.height, uv b.miner, uv b.work, uv b.nonce, .slice ta b.txs.length tc] 75 (0, 0)) := by
    rw [hw0, hN]
    have := heap_new (w.alloc (.cells #[uv a.parent, .int .i64 a.height, uv a.miner, uv a.work, uv a.nonce, .slice sa a.txs.length sc] 75)) (.cells #[uv b.parent, .int .i64 b.height, uv b.miner, uv b.work, uv b.nonce, .slice ta b.txs.length tc] 75)
    simpa using this
  have HB0 := hid hb0
  have HB1 := hid hb1
  have HW := hid hw0
  have HX0 := hid hx0
  have a1 := u_bne a.parent b.parent
  have a2 := i_bne a.height b.height
  have a3 := u_bne a.miner b.miner
  have a4 := u_bne a.work b.work
  have a5 := u_bne a.nonce b.nonce
  have a6 := l_bne a.txs.length b.txs.length
  have HLL : Hid (decide (a.txs.length = b.txs.length) = true → a.txs.length = b.txs.length) := hid (by simp)
  clear hw0 hx0 hb0 hb1 ha hb hR
  obtain ⟨c0, c1, c2, c3, c4, c5⟩ := six_cellsB HB0.out
  obtain ⟨d0, d1, d2, d3, d4, d5⟩ := six_cellsB HB1.out
  generalize decide (a.parent = b.parent) = g1 at *
  generalize decide (a.height = b.height) = g2 at *
  generalize decide (a.miner = b.miner) = g3 at *
  generalize decide (a.work = b.work) = g4 at *
  generalize decide (a.nonce = b.nonce) = g5 at *
  generalize decide (a.txs.length = b.txs.length) = g6 at *
  go_enter Tryz.func94, Tryz.ntmps94
  go_upto_region 1 with fail
  rw [← HW.out, ← hN]
  clear hN
  cases g1 with
  | false =>
    have hr : R = false := by rw [HR.out]; rfl
    subst hr
    go_wp2_with fail
    go_ret
    exact ⟨rfl, HX0.out⟩
  | true =>
  cases g2 with
  | false =>
    have hr : R = false := by rw [HR.out]; rfl
    subst hr
    go_wp2_with fail
    go_ret
    exact ⟨rfl, HX0.out⟩
  | true =>
  cases g3 with
  | false =>
    have hr : R = false := by rw [HR.out]; rfl
    subst hr
    go_wp2_with fail
    go_ret
    exact ⟨rfl, HX0.out⟩
  | true =>
  cases g4 with
  | false =>
    have hr : R = false := by rw [HR.out]; rfl
    subst hr
    go_wp2_with fail
    go_ret
    exact ⟨rfl, HX0.out⟩
  | true =>
  cases g5 with
  | false =>
    have hr : R = false := by rw [HR.out]; rfl
    subst hr
    go_wp2_with fail
    go_ret
    exact ⟨rfl, HX0.out⟩
  | true =>
  cases g6 with
  | false =>
    have hr : R = false := by rw [HR.out]; rfl
    subst hr
    go_wp2_with fail
    go_ret
    exact ⟨rfl, HX0.out⟩
  | true =>
  have HL := hid (HLL.out rfl)
  have HR2 : Hid (R = sameTxs a.txs b.txs) := hid (by rw [HR.out]; rfl)
  clear HR HLL
  go_wp2_with fail
  clear c0 c1 c2 c3 c4 c5 d0 d1 d2 d3 d4 d5
  go_loopw [5] (fun iv wr => ∃ i : Nat, i ≤ a.txs.length ∧ iv = .int .i64 i ∧ Hid (∀ (j : Nat) (u v : TxT), j < i → a.txs[j]? = some u → b.txs[j]? = some v → sameTx u v = true) ∧ Hid (Ext w0 wr)) (fun iv _ => a.txs.length - (intOf iv).toNat)
  case atStart => exact ⟨0, by omega, rfl, hid (fun j u v h => by omega), hid (Ext.refl _)⟩
  case round =>
    obtain ⟨i, hi, rfl, HI, HXR⟩ := hrel
    obtain ⟨c0, c1, c2, c3, c4, c5⟩ := six_cellsB (HXR.out.heap_some HB0.out)
    obtain ⟨d0, d1, d2, d3, d4, d5⟩ := six_cellsB (HXR.out.heap_some HB1.out)
    by_cases hlt : i < a.txs.length
    · have hltB : decide ((i : Int) < (a.txs.length : Int)) = true := by simp; omega
      have hi0 : (0 : Int) ≤ (i : Int) := Int.natCast_nonneg _
      have hil : (i : Int) < (a.txs.length : Int) := by omega
      have hil2 : (i : Int) < (b.txs.length : Int) := by have := HL.out; omega
      obtain ⟨x, hxi⟩ : ∃ x, a.txs[i]? = some x := ⟨_, List.getElem?_eq_getElem hlt⟩
      obtain ⟨y, hyi⟩ : ∃ y, b.txs[i]? = some y := ⟨_, List.getElem?_eq_getElem (by have := HL.out; omega)⟩
      obtain ⟨q, o, ma, mc, oa, oc, pa, pc, rfl, hrx, e0, e1, e2, e3, e4, e5, e6, e7, e8, e9⟩ := (HA.out.ext (HX0.out.trans HXR.out)).at hxi
      obtain ⟨q', o', na, nc, ua, uc, ra, rc, rfl, hry, f0, f1, f2, f3, f4, f5, f6, f7, f8, f9⟩ := (HB'.out.ext (HX0.out.trans HXR.out)).at hyi
      have HXY := hid (And.intro hxi hyi)
      have HSX := hid (SA.out.t x (List.mem_of_getElem? hxi))
      have HSY := hid (SB.out.t y (List.mem_of_getElem? hyi))
      have HCC : Hid (∀ v, Ext wr v → (v.cell? ⟨N, 5, none⟩ = some (.slice (some ⟨q, o, none⟩) a.txs.length sc) ∧ v.cell? ⟨N + 1, 5, none⟩ = some (.slice (some ⟨q', o', none⟩) b.txs.length tc)) ∧ (v.cell? ⟨q, o + i * 10, none⟩ = some (uv x.anchor) ∧ v.cell? ⟨q, o + i * 10 + 1, none⟩ = some (.slice ma x.marks.length mc) ∧ v.cell? ⟨q, o + i * 10 + 2, none⟩ = some (.slice oa x.outs.length oc) ∧ v.cell? ⟨q, o + i * 10 + 3, none⟩ = some (uv x.deposit) ∧ v.cell? ⟨q, o + i * 10 + 4, none⟩ = some (uv x.withdraw) ∧ v.cell? ⟨q, o + i * 10 + 5, none⟩ = some (uv x.fee) ∧ v.cell? ⟨q, o + i * 10 + 6, none⟩ = some (uv x.account) ∧ v.cell? ⟨q, o + i * 10 + 7, none⟩ = some (uv x.nonce) ∧ v.cell? ⟨q, o + i * 10 + 8, none⟩ = some (.int .i64 x.expiry) ∧ v.cell? ⟨q, o + i * 10 + 9, none⟩ = some (.slice pa x.proof.length pc)) ∧ (v.cell? ⟨q', o' + i * 10, none⟩ = some (uv y.anchor) ∧ v.cell? ⟨q', o' + i * 10 + 1, none⟩ = some (.slice na y.marks.length nc) ∧ v.cell? ⟨q', o' + i * 10 + 2, none⟩ = some (.slice ua y.outs.length uc) ∧ v.cell? ⟨q', o' + i * 10 + 3, none⟩ = some (uv y.deposit) ∧ v.cell? ⟨q', o' + i * 10 + 4, none⟩ = some (uv y.withdraw) ∧ v.cell? ⟨q', o' + i * 10 + 5, none⟩ = some (uv y.fee) ∧ v.cell? ⟨q', o' + i * 10 + 6, none⟩ = some (uv y.account) ∧ v.cell? ⟨q', o' + i * 10 + 7, none⟩ = some (uv y.nonce) ∧ v.cell? ⟨q', o' + i * 10 + 8, none⟩ = some (.int .i64 y.expiry) ∧ v.cell? ⟨q', o' + i * 10 + 9, none⟩ = some (.slice ra y.proof.length rc))) := hid fun v k => ⟨⟨k.cell_some c5, k.cell_some d5⟩, ⟨k.cell_some e0, k.cell_some e1, k.cell_some e2, k.cell_some e3, k.cell_some e4, k.cell_some e5, k.cell_some e6, k.cell_some e7, k.cell_some e8, k.cell_some e9⟩, ⟨k.cell_some f0, k.cell_some f1, k.cell_some f2, k.cell_some f3, k.cell_some f4, k.cell_some f5, k.cell_some f6, k.cell_some f7, k.cell_some f8, k.cell_some f9⟩⟩
      have HSAME := hid (fun (v : World) (k : Ext wr v) => sameTx_any x y _ _ _ _ _ _ v (hrx.ext k) (hry.ext k) HSX.out HSY.out)
      obtain ⟨sb, hsb⟩ : ∃ sb, sb = sameTx x y := ⟨_, rfl⟩
      rw [← hsb] at HSAME
      have HSB := hid hsb
      clear hxi hyi hrx hry e0 e1 e2 e3 e4 e5 e6 e7 e8 e9 f0 f1 f2 f3 f4 f5 f6 f7 f8 f9 hsb
      go_wp2_with fail
      clear c0 c1 c2 c3 c4 c5 d0 d1 d2 d3 d4 d5
      refine wp_region_T (fun v => ((v.cell? ⟨N, 5, none⟩ = some (.slice (some ⟨q, o, none⟩) a.txs.length sc) ∧ v.cell? ⟨N + 1, 5, none⟩ = some (.slice (some ⟨q', o', none⟩) b.txs.length tc)) ∧ (v.cell? ⟨q, o + i * 10, none⟩ = some (uv x.anchor) ∧ v.cell? ⟨q, o + i * 10 + 1, none⟩ = some (.slice ma x.marks.length mc) ∧ v.cell? ⟨q, o + i * 10 + 2, none⟩ = some (.slice oa x.outs.length oc) ∧ v.cell? ⟨q, o + i * 10 + 3, none⟩ = some (uv x.deposit) ∧ v.cell? ⟨q, o + i * 10 + 4, none⟩ = some (uv x.withdraw) ∧ v.cell? ⟨q, o + i * 10 + 5, none⟩ = some (uv x.fee) ∧ v.cell? ⟨q, o + i * 10 + 6, none⟩ = some (uv x.account) ∧ v.cell? ⟨q, o + i * 10 + 7, none⟩ = some (uv x.nonce) ∧ v.cell? ⟨q, o + i * 10 + 8, none⟩ = some (.int .i64 x.expiry) ∧ v.cell? ⟨q, o + i * 10 + 9, none⟩ = some (.slice pa x.proof.length pc)) ∧ (v.cell? ⟨q', o' + i * 10, none⟩ = some (uv y.anchor) ∧ v.cell? ⟨q', o' + i * 10 + 1, none⟩ = some (.slice na y.marks.length nc) ∧ v.cell? ⟨q', o' + i * 10 + 2, none⟩ = some (.slice ua y.outs.length uc) ∧ v.cell? ⟨q', o' + i * 10 + 3, none⟩ = some (uv y.deposit) ∧ v.cell? ⟨q', o' + i * 10 + 4, none⟩ = some (uv y.withdraw) ∧ v.cell? ⟨q', o' + i * 10 + 5, none⟩ = some (uv y.fee) ∧ v.cell? ⟨q', o' + i * 10 + 6, none⟩ = some (uv y.account) ∧ v.cell? ⟨q', o' + i * 10 + 7, none⟩ = some (uv y.nonce) ∧ v.cell? ⟨q', o' + i * 10 + 8, none⟩ = some (.int .i64 y.expiry) ∧ v.cell? ⟨q', o' + i * 10 + 9, none⟩ = some (.slice ra y.proof.length rc))) ∧ Ext wr v) 10 [(0, true), (1, true), (2, true), (3, true), (4, true), (5, true), (6, true), (7, true), (8, true), (9, true), (10, false), (11, false)] (by kernel_rfl) (by kernel_rfl) (by intro c a d v w h; cases d <;> exact h) ?_
      intro ops hops
      have HSS := keep0 HCC.out
      iterate 10
        refine wpT_take (v := ?_) (by rw [hops, List.getElem?_toArray]; rfl) (by first | rfl | (rw [hops]; rfl)) ?_ HSS ?_
        rotate_left
        · intro v h; go_simp; with_reducible rfl
        simp only [Act.put, List.getElem_toArray, List.getElem_cons_zero, List.getElem_cons_succ, List.setIfInBounds_toArray, List.set_cons_zero, List.set_cons_succ]
      clear HSS
      refine wpT_step (by rw [hops, List.getElem?_toArray]; rfl) (by first | rfl | (rw [hops]; rfl)) ?_
      intro K hK
      go_wp2_with fail
      refine (HSAME.out _ (Ext.refl wr).drew).mono ?_
      rintro e x1 ⟨rfl, hx⟩
      have HX1 := hid (HXR.out.drew.trans hx)
      clear hx HSAME
      refine hK _ _ ⟨fun h => absurd h (by decide), ?_⟩
      clear hK K
      refine wpT_step (by rw [hops, List.getElem?_toArray]; rfl) (by first | rfl | (rw [hops]; rfl)) ?_
      intro K hK
      go_wp2_with fail
      try (with_reducible refine ⟨fun h => absurd h (by decide), ?_⟩)
      try rw [wpT_nil]
      try clear hops ops
      cases sb with
      | true =>
        have HN : Hid (∀ (j : Nat) (u v : TxT), j < i + 1 → a.txs[j]? = some u → b.txs[j]? = some v → sameTx u v = true) := hid fun j u' v' hj hu' hv' => by
          by_cases hji : j = i
          · subst hji
            rw [HXY.out.1] at hu'
            rw [HXY.out.2] at hv'
            injection hu' with hu'
            injection hv' with hv'
            rw [← hu', ← hv']; exact HSB.out.symm
          · exact HI.out j u' v' (by omega) hu' hv'
        go_wp2_with fail
        go_roundw
        case rel => exact ⟨i + 1, by omega, by go_num, HN, HX1⟩
        case measure => simp [intOf]; omega
      | false =>
        have hr : R = false := by rw [HR2.out]; exact sameTxs_at HXY.out.1 HXY.out.2 HSB.out.symm
        subst hr
        go_wp2_with fail
        go_ret
        exact ⟨rfl, HX0.out.trans HX1.out⟩
    · have hie : i = a.txs.length := by omega
      subst hie
      have hltB : decide ((a.txs.length : Int) < (a.txs.length : Int)) = false := by simp
      have hr : R = true := by
        rw [HR2.out]
        exact sameTxs_all HL.out (fun j u v hu hv => HI.out j u v (List.getElem?_eq_some_iff.1 hu).1 hu hv)
      subst hr
      go_wp2_with fail
      go_ret
      exact ⟨rfl, HX0.out.trans HXR.out⟩
end Go.Proofs.YtcikjcjfcanloaaGreat
namespace Go.Proofs.YtcikjcjfcanloaaGreat
open Go.RowKit
attribute [local irreducible] perm fAdd fMul fPow fSub fNeg fRed hashU drawOf nextState
set_option maxRecDepth 100000 in
set_option maxHeartbeats 12800000 in
theorem rCommon51_any (av bv : Value) (a b : List BlkT) (w : World) (ha : RdBs w w av a) (hb : RdBs w w bv b) (sa : ∀ x ∈ a, BSm x) (sb : ∀ x ∈ b, BSm x) (va : ∀ x ∈ a, ∀ t ∈ x.txs, txV t = 0) (vb : ∀ x ∈ b, ∀ t ∈ x.txs, txV t = 0) (hA : a.length ≤ 1000) (hB : b.length ≤ 1000) :
    Calls Tryz.prog 50 #[av, bv] w fun e w' => e = .returned (.int .i64 (commonW a b : Int)) ∧ Ext w w' := by
  obtain ⟨aa, ac, rfl, -⟩ := ha.shape
  obtain ⟨ba, bc, rfl, -⟩ := hb.shape
  have HA := hid ha
  have HB := hid hb
  have SA := hid sa
  have SB := hid sb
  have VA := hid va
  have VB := hid vb
  obtain ⟨R, hR⟩ : ∃ R, R = commonW a b := ⟨_, rfl⟩
  rw [← hR]
  have HR : Hid (∀ i, i ≤ a.length → i ≤ b.length → (∀ j, j < i → a[j]? = b[j]?) → (i < a.length → i < b.length → a[i]? ≠ b[i]?) → R = i) := hid fun i h1 h2 h3 h4 => by rw [hR]; exact commonW_stop a b i h1 h2 h3 h4
  have hA1 : (a.length : Int) ≤ 1000 := by omega
  have hB1 : (b.length : Int) ≤ 1000 := by omega
  clear ha hb sa sb va vb hR
  go_enter Tryz.func50, Tryz.ntmps50
  go_wp2_with fail
  go_loopw [5] (fun iv wr => ∃ i : Nat, i ≤ a.length ∧ i ≤ b.length ∧ iv = .int .i64 i ∧ Hid ((∀ j, j < i → a[j]? = b[j]?) ∧ Ext w wr)) (fun iv _ => a.length - (intOf iv).toNat)
  case atStart => exact ⟨0, by omega, by omega, rfl, hid ⟨fun j hj => by omega, Ext.refl w⟩⟩
  case round =>
    obtain ⟨i, hi, hi2, rfl, HI⟩ := hrel
    have hi0 : (0 : Int) ≤ (i : Int) := Int.natCast_nonneg _
    have HXD := hid (HI.out.2.trans (Ext.refl wr).drew)
    by_cases hlt : i < a.length
    case neg =>
      have hltB : decide ((i : Int) < (a.length : Int)) = false := decide_eq_false (by omega)
      have hltB2 : decide (i < a.length) = false := decide_eq_false hlt
      obtain rfl : R = i := HR.out i hi hi2 HI.out.1 (fun h => absurd h hlt)
      clear hlt
      go_wp2_with fail
      refine wp_region_T (fun u => Ext w u) 19 [(0, true), (1, true), (2, true), (3, true), (4, true), (5, true), (6, true), (7, true), (8, true), (9, true), (10, true), (11, true), (12, true), (13, true), (14, true), (15, true), (16, true), (17, true), (18, true), (19, false), (20, false)] (by kernel_rfl) (by kernel_rfl) (by intro c a d v w h; cases d <;> exact h) ?_
      intro ops hops
      have HS0 := HXD.out
      iterate 19
        first
          | (refine wpT_take (v := ?_) (by rw [hops, List.getElem?_toArray]; rfl) (by first | rfl | (rw [hops]; rfl)) ?_ HS0 ?_
             rotate_left
             · intro v h; go_simp; with_reducible rfl
             simp only [Act.put, List.getElem_toArray, List.getElem_cons_zero, List.getElem_cons_succ, List.setIfInBounds_toArray, List.set_cons_zero, List.set_cons_succ])
          | (refine wpT_pass (by rw [hops, List.getElem?_toArray]; rfl) (by first | rfl | (rw [hops]; rfl)) HS0 ?_
             simp only [Act.put, List.getElem_toArray, List.getElem_cons_zero, List.getElem_cons_succ, List.setIfInBounds_toArray, List.set_cons_zero, List.set_cons_succ])
      refine wpT_none (by rw [hops, List.getElem?_toArray]; rfl) (by first | rfl | (rw [hops]; rfl)) ⟨fun h => absurd h (by decide), ?_⟩
      simp only [Act.put, List.getElem_toArray, List.getElem_cons_zero, List.getElem_cons_succ, List.setIfInBounds_toArray, List.set_cons_zero, List.set_cons_succ]
      refine wpT_step (by rw [hops, List.getElem?_toArray]; rfl) (by first | rfl | (rw [hops]; rfl)) ?_
      intro K hK
      go_wp2_with fail
      try (with_reducible refine ⟨fun h => absurd h (by decide), ?_⟩)
      try rw [wpT_nil]
      try clear hops ops
      go_wp2_with fail
      go_ret
      exact ⟨rfl, HXD.out⟩
    have hltB : decide ((i : Int) < (a.length : Int)) = true := decide_eq_true (by omega)
    have hltB2 : decide (i < a.length) = true := decide_eq_true hlt
    by_cases hlt2 : i < b.length
    case neg =>
      have hltC : decide ((i : Int) < (b.length : Int)) = false := decide_eq_false (by omega)
      have hltC2 : decide (i < b.length) = false := decide_eq_false hlt2
      obtain rfl : R = i := HR.out i hi hi2 HI.out.1 (fun _ h => absurd h hlt2)
      clear hlt hlt2
      go_wp2_with fail
      refine wp_region_T (fun u => Ext w u) 19 [(0, true), (1, true), (2, true), (3, true), (4, true), (5, true), (6, true), (7, true), (8, true), (9, true), (10, true), (11, true), (12, true), (13, true), (14, true), (15, true), (16, true), (17, true), (18, true), (19, false), (20, false)] (by kernel_rfl) (by kernel_rfl) (by intro c a d v w h; cases d <;> exact h) ?_
      intro ops hops
      have HS0 := HXD.out
      iterate 19
        first
          | (refine wpT_take (v := ?_) (by rw [hops, List.getElem?_toArray]; rfl) (by first | rfl | (rw [hops]; rfl)) ?_ HS0 ?_
             rotate_left
             · intro v h; go_simp; with_reducible rfl
             simp only [Act.put, List.getElem_toArray, List.getElem_cons_zero, List.getElem_cons_succ, List.setIfInBounds_toArray, List.set_cons_zero, List.set_cons_succ])
          | (refine wpT_pass (by rw [hops, List.getElem?_toArray]; rfl) (by first | rfl | (rw [hops]; rfl)) HS0 ?_
             simp only [Act.put, List.getElem_toArray, List.getElem_cons_zero, List.getElem_cons_succ, List.setIfInBounds_toArray, List.set_cons_zero, List.set_cons_succ])
      refine wpT_none (by rw [hops, List.getElem?_toArray]; rfl) (by first | rfl | (rw [hops]; rfl)) ⟨fun h => absurd h (by decide), ?_⟩
      simp only [Act.put, List.getElem_toArray, List.getElem_cons_zero, List.getElem_cons_succ, List.setIfInBounds_toArray, List.set_cons_zero, List.set_cons_succ]
      refine wpT_step (by rw [hops, List.getElem?_toArray]; rfl) (by first | rfl | (rw [hops]; rfl)) ?_
      intro K hK
      go_wp2_with fail
      try (with_reducible refine ⟨fun h => absurd h (by decide), ?_⟩)
      try rw [wpT_nil]
      try clear hops ops
      go_wp2_with fail
      go_ret
      exact ⟨rfl, HXD.out⟩
    have hltC : decide ((i : Int) < (b.length : Int)) = true := decide_eq_true (by omega)
    have hltC2 : decide (i < b.length) = true := decide_eq_true hlt2
    have hil : (i : Int) < (a.length : Int) := by omega
    have hil2 : (i : Int) < (b.length : Int) := by omega
    obtain ⟨x, hx⟩ : ∃ x, a[i]? = some x := ⟨_, List.getElem?_eq_getElem hlt⟩
    obtain ⟨y, hy⟩ : ∃ y, b[i]? = some y := ⟨_, List.getElem?_eq_getElem hlt2⟩
    have HXY := hid (And.intro hx hy)
    have SX := hid (SA.out x (List.mem_of_getElem? hx))
    have SY := hid (SB.out y (List.mem_of_getElem? hy))
    have VX := hid (VA.out x (List.mem_of_getElem? hx))
    have VY := hid (VB.out y (List.mem_of_getElem? hy))
    obtain ⟨q, o, ta, tc, rfl, htx, f0, f1, f2, f3, f4, f5⟩ := HA.out.at hx
    obtain ⟨q', o', sa', sc', rfl, hty, g0, g1, g2, g3, g4, g5⟩ := HB.out.at hy
    have HSV : Hid (∀ u, Ext w u → ((u.cell? ⟨q, o + i * 6, none⟩ = some (uv x.parent) ∧ u.cell? ⟨q, o + i * 6 + 1, none⟩ = some (.int .i64 x.height) ∧ u.cell? ⟨q, o + i * 6 + 2, none⟩ = some (uv x.miner) ∧ u.cell? ⟨q, o + i * 6 + 3, none⟩ = some (uv x.work) ∧ u.cell? ⟨q, o + i * 6 + 4, none⟩ = some (uv x.nonce) ∧ u.cell? ⟨q, o + i * 6 + 5, none⟩ = some (.slice ta x.txs.length tc)) ∧ (u.cell? ⟨q', o' + i * 6, none⟩ = some (uv y.parent) ∧ u.cell? ⟨q', o' + i * 6 + 1, none⟩ = some (.int .i64 y.height) ∧ u.cell? ⟨q', o' + i * 6 + 2, none⟩ = some (uv y.miner) ∧ u.cell? ⟨q', o' + i * 6 + 3, none⟩ = some (uv y.work) ∧ u.cell? ⟨q', o' + i * 6 + 4, none⟩ = some (uv y.nonce) ∧ u.cell? ⟨q', o' + i * 6 + 5, none⟩ = some (.slice sa' y.txs.length sc'))) ∧ Ext w u) := hid fun u k => ⟨⟨⟨k.cell_some f0, k.cell_some f1, k.cell_some f2, k.cell_some f3, k.cell_some f4, k.cell_some f5⟩, k.cell_some g0, k.cell_some g1, k.cell_some g2, k.cell_some g3, k.cell_some g4, k.cell_some g5⟩, k⟩
    have SO : Hid (∀ u, Ext w u → Calls Tryz.prog 94 #[blkVal x (.slice ta x.txs.length tc), blkVal y (.slice sa' y.txs.length sc')] u fun e w' => e = .returned (.bool (decide (x = y))) ∧ Ext u w') := hid fun u k => by
      have := sameBlk_any x y _ _ u (htx.ext k) (hty.ext k) SX.out SY.out
      rwa [sameBlk_valid VX.out VY.out] at this
    obtain ⟨E, hE⟩ : ∃ E, E = decide (x = y) := ⟨_, rfl⟩
    rw [← hE] at SO
    have HE := hid hE
    have HLL := hid (And.intro hlt hlt2)
    have HS0 := HSV.out _ HXD.out
    clear hx hy htx hty f0 f1 f2 f3 f4 f5 g0 g1 g2 g3 g4 g5 hE hlt hlt2
    go_wp2_with fail
    refine wp_region_T (fun u => ((u.cell? ⟨q, o + i * 6, none⟩ = some (uv x.parent) ∧ u.cell? ⟨q, o + i * 6 + 1, none⟩ = some (.int .i64 x.height) ∧ u.cell? ⟨q, o + i * 6 + 2, none⟩ = some (uv x.miner) ∧ u.cell? ⟨q, o + i * 6 + 3, none⟩ = some (uv x.work) ∧ u.cell? ⟨q, o + i * 6 + 4, none⟩ = some (uv x.nonce) ∧ u.cell? ⟨q, o + i * 6 + 5, none⟩ = some (.slice ta x.txs.length tc)) ∧ (u.cell? ⟨q', o' + i * 6, none⟩ = some (uv y.parent) ∧ u.cell? ⟨q', o' + i * 6 + 1, none⟩ = some (.int .i64 y.height) ∧ u.cell? ⟨q', o' + i * 6 + 2, none⟩ = some (uv y.miner) ∧ u.cell? ⟨q', o' + i * 6 + 3, none⟩ = some (uv y.work) ∧ u.cell? ⟨q', o' + i * 6 + 4, none⟩ = some (uv y.nonce) ∧ u.cell? ⟨q', o' + i * 6 + 5, none⟩ = some (.slice sa' y.txs.length sc'))) ∧ Ext w u) 19 [(0, true), (1, true), (2, true), (3, true), (4, true), (5, true), (6, true), (7, true), (8, true), (9, true), (10, true), (11, true), (12, true), (13, true), (14, true), (15, true), (16, true), (17, true), (18, true), (19, false), (20, false)] (by kernel_rfl) (by kernel_rfl) (by intro c a d v w h; cases d <;> exact h) ?_
    intro ops hops
    iterate 19
      refine wpT_take (v := ?_) (by rw [hops, List.getElem?_toArray]; rfl) (by first | rfl | (rw [hops]; rfl)) ?_ HS0 ?_
      rotate_left
      · intro v h; go_simp; with_reducible rfl
      simp only [Act.put, List.getElem_toArray, List.getElem_cons_zero, List.getElem_cons_succ, List.setIfInBounds_toArray, List.set_cons_zero, List.set_cons_succ]
    refine wpT_step (by rw [hops, List.getElem?_toArray]; rfl) (by first | rfl | (rw [hops]; rfl)) ?_
    intro K hK
    go_wp2_with fail
    refine (SO.out _ HS0.2).mono ?_
    rintro e w3 ⟨rfl, hx⟩
    have X3 := hid (HS0.2.trans hx)
    clear hx HS0 SO
    refine hK _ _ ⟨fun h => absurd h (by decide), ?_⟩
    clear hK K
    refine wpT_step (by rw [hops, List.getElem?_toArray]; rfl) (by first | rfl | (rw [hops]; rfl)) ?_
    intro K hK
    go_wp2_with fail
    try (with_reducible refine ⟨fun h => absurd h (by decide), ?_⟩)
    try rw [wpT_nil]
    try clear hops ops
    cases E with
    | true =>
      have HN := hid (And.intro (fun j (hj : j < i + 1) => show a[j]? = b[j]? from by
        by_cases hji : j = i
        · subst hji
          rw [HXY.out.1, HXY.out.2, of_decide_eq_true HE.out.symm]
        · exact HI.out.1 j (by omega)) X3.out)
      go_wp2_with fail
      go_roundw
      case rel => exact ⟨i + 1, by omega, by omega, by go_num, HN⟩
      case measure => simp [intOf]; omega
    | false =>
      obtain rfl : R = i := HR.out i hi hi2 HI.out.1 (fun _ _ h => by
        rw [HXY.out.1, HXY.out.2] at h
        exact of_decide_eq_false HE.out.symm (Option.some.inj h))
      go_wp2_with fail
      go_ret
      exact ⟨rfl, X3.out⟩
end Go.Proofs.YtcikjcjfcanloaaGreat
