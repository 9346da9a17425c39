/- Small transactions: moidoreref41.Small. -/
import Derived.Test.YtkdnnekdldomeaaTxSame
set_option linter.unusedSimpArgs false
namespace Go.Proofs.Ytkdnnekdldomeaa
open Go.RowKit
attribute [local irreducible] perm fAdd fMul fPow fSub fNeg fRed hashU
def ciSm (o : OutT) : Bool := decide (o.cipher.length ≤ 10)
def smTx (t : TxT) (n : Nat) : Bool := t.outs.all ciSm && (decide (t.marks.length ≤ 10) && (decide (t.outs.length ≤ 10) && decide (t.proof.length ≤ n)))
theorem smTx_sm {t : TxT} {n : Nat} (hn : n ≤ 1000) (h : smTx t n = true) : TSm t ∧ t.proof.length ≤ 10000 := by
  unfold smTx ciSm at h
  simp only [Bool.and_eq_true, decide_eq_true_eq, List.all_eq_true] at h
  obtain ⟨h1, h2, h3, h4⟩ := h
  exact ⟨⟨by omega, by omega, fun o ho => by have := h1 o ho; omega, by omega⟩, by omega⟩
def bigN (n : Nat) : Prop := (n : Int) ≤ 9223372036854775807
set_option maxRecDepth 100000 in
set_option maxHeartbeats 3200000 in
theorem smTx_any (t : TxT) (mv ov pv : Value) (n : Nat) (w : World) (h : RdT w t mv ov pv) :
    Calls Try.prog 20 #[txVal t mv ov pv, .int .i64 (n : Int)] w fun e w' => e = .returned (.bool (smTx t n)) ∧ Ext w w' := by
  obtain ⟨oa0, oc0, ho0, hoc1, hoc2⟩ := h.o.shape
  have HOL : Hid (bigN t.outs.length) := hid (by unfold bigN; unfold maxLen at hoc2; omega)
  obtain ⟨ma, mc, oa, oc, pa, pc, rfl, rfl, rfl⟩ := h.shape
  obtain ⟨R, hR⟩ : ∃ R, R = smTx t n := ⟨_, rfl⟩
  rw [← hR]
  have HR := hid hR
  have HH := hid h
  obtain ⟨N, hN⟩ : ∃ N, N = w.heap.size := ⟨_, rfl⟩
  obtain ⟨w0, hw0⟩ : ∃ w0, w0 = w.alloc (.cells #[uv t.anchor, .slice ma t.marks.length mc, .slice oa t.outs.length oc, uv t.deposit, uv t.withdraw, uv t.fee, uv t.account, uv t.nonce, .int .i64 t.expiry, .slice pa t.proof.length pc] 39) := ⟨_, rfl⟩
  have hx0 : Ext w w0 := by rw [hw0]; exact (Ext.refl w).alloc _
  have hb0 : w0.heap[N]? = some (.cells #[uv t.anchor, .slice ma t.marks.length mc, .slice oa t.outs.length oc, uv t.deposit, uv t.withdraw, uv t.fee, uv t.account, uv t.nonce, .int .i64 t.expiry, .slice pa t.proof.length pc] 39 (0, 0)) := by rw [hw0, hN]; exact heap_new _ _
  have HB := hid hb0
  have HW := hid hw0
  have HX0 := hid hx0
  have b1 : decide ((t.marks.length : Int) ≤ 10) = decide (t.marks.length ≤ 10) := by rw [decide_eq_decide]; omega
  have b2 : decide ((t.outs.length : Int) ≤ 10) = decide (t.outs.length ≤ 10) := by rw [decide_eq_decide]; omega
  obtain ⟨pl, hpl⟩ : ∃ pl, decide (t.proof.length ≤ n) = pl := ⟨_, rfl⟩
  clear hw0 hx0 hb0 h hR ho0 hoc1 hoc2
  obtain ⟨c0, c1, c2, c3, c4, c5, c6, c7, c8, c9⟩ := ten_cells HB.out
  go_enter Try.func20, Try.ntmps20
  go_upto_region 1 with fail
  rw [← HW.out, ← hN]
  clear hN
  go_wp2_with fail
  go_loop [5] (fun iv => ∃ i : Nat, i ≤ t.outs.length ∧ iv = .int .i64 i ∧ Hid ((t.outs.take i).all ciSm = true)) (fun iv => t.outs.length - (intOf iv).toNat)
  case atStart => exact ⟨0, by omega, rfl, hid rfl⟩
  case round =>
    obtain ⟨i, hi, rfl, HI⟩ := hrel
    by_cases hlt : i < t.outs.length
    · have hltB : decide ((i : Int) < (t.outs.length : Int)) = true := by simp; omega
      obtain ⟨x, hxi⟩ : ∃ x, t.outs[i]? = some x := ⟨_, List.getElem?_eq_getElem hlt⟩
      obtain ⟨b, q, ca, cc, rfl, -, -, -, e3, -⟩ := (HH.out.o.ext HX0.out).at hxi
      have hi0 : (0 : Int) ≤ (i : Int) := Int.natCast_nonneg _
      have hil : (i : Int) < (t.outs.length : Int) := by omega
      have HXI := hid hxi
      clear hxi
      by_cases hc : x.cipher.length ≤ 10
      · have hcB : decide ((10 : Int) < (x.cipher.length : Int)) = false := by simp; omega
        have HN : Hid ((t.outs.take (i + 1)).all ciSm = true) := hid (all_snoc HXI.out HI.out (by unfold ciSm; simpa using hc))
        have HWR : Hid (wrap64 ((i : Int) + 1) = ((i + 1 : Nat) : Int)) := hid (by
          have := HOL.out
          unfold bigN at this
          unfold wrap64
          omega)
        clear hc
        go_wp2_with fail
        go_round
        case rel => exact ⟨i + 1, by omega, by rw [HWR.out], HN⟩
        case measure => rw [HWR.out]; simp [intOf]; omega
      · have hcB : decide ((10 : Int) < (x.cipher.length : Int)) = true := by simp; omega
        have hr : R = false := by rw [HR.out]; unfold smTx; rw [all_bad HXI.out (by unfold ciSm; simpa using hc)]; rfl
        subst hr
        clear hc
        go_wp2_with fail
        go_ret
        exact ⟨rfl, HX0.out⟩
    · have hie : i = t.outs.length := by omega
      subst hie
      have hltB : decide ((t.outs.length : Int) < (t.outs.length : Int)) = false := by simp
      have HR2 : Hid (R = (decide (t.marks.length ≤ 10) && (decide (t.outs.length ≤ 10) && pl))) := hid (by
        have h1 := HI.out
        rw [List.take_length] at h1
        rw [HR.out]; unfold smTx
        rw [h1, hpl, Bool.true_and])
      generalize decide (t.marks.length ≤ 10) = d1 at *
      generalize decide (t.outs.length ≤ 10) = d2 at *
      cases d1 with
      | false =>
        have hr : R = false := HR2.out
        subst hr
        go_wp2_with fail
        go_ret
        exact ⟨rfl, HX0.out⟩
      | true =>
        cases d2 with
        | false =>
          have hr : R = false := HR2.out
          subst hr
          go_wp2_with fail
          go_ret
          exact ⟨rfl, HX0.out⟩
        | true =>
          have hr : R = pl := HR2.out
          subst hr
          go_wp2_with fail
          go_ret
          exact ⟨rfl, HX0.out⟩
end Go.Proofs.Ytkdnnekdldomeaa
