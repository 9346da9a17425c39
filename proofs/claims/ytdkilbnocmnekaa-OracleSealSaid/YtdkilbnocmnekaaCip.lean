/- The cipher: elements, start. -/
import Derived.Test.YtdkilbnocmnekaaCipLaw
import Derived.Test.YtdkilbnocmnekaaMark
set_option linter.unusedSimpArgs false
namespace Go.Proofs.Ytdkilbnocmnekaa
open Go.RowKit
attribute [local irreducible] perm fAdd fMul fPow fSub fNeg fRed

set_option maxRecDepth 100000 in
set_option maxHeartbeats 1600000 in
theorem cipElements_any (key nonce : UInt64) (lv : Value) (l : List UInt64) (w : World) (hl : RdU w lv l) (hL : l.length ≤ 1000000000000) :
    Calls Try.prog 60 #[uv key, uv nonce, lv] w fun e w' => e = .returned (.bool (cipE key nonce l)) ∧ w = w' := by
  obtain ⟨a, c, rfl, hlc, hcm, hnil, hcell⟩ := hl
  have hL1 : (l.length : Int) ≤ 1000000000000 := by omega
  have HC := hid hcell
  have HN := hid hnil
  clear hcell hnil hcm
  have HCE : Hid (∀ x y, decide (key < big) = x → decide (nonce < big) = y → cipE key nonce l = (x && y && allE l)) := hid (by rintro x y rfl rfl; rfl)
  cases hk : decide (key < big) with
  | false =>
    have d1 : decide ((18446744069414584321 : Int) ≤ (key.toNat : Int)) = true := by rw [ge_big_dec, hk]; rfl
    have HR := hid (HCE.out _ _ hk rfl)
    clear hk HCE
    go_enter Try.func60, Try.ntmps60
    go_wp2_with fail
    go_ret
    exact ⟨by rw [HR.out]; rfl, rfl⟩
  | true =>
    have d1 : decide ((18446744069414584321 : Int) ≤ (key.toNat : Int)) = false := by rw [ge_big_dec, hk]; rfl
    cases hn : decide (nonce < big) with
    | false =>
      have d2 : decide ((18446744069414584321 : Int) ≤ (nonce.toNat : Int)) = true := by rw [ge_big_dec, hn]; rfl
      have HR := hid (HCE.out _ _ hk hn)
      clear hk hn HCE
      go_enter Try.func60, Try.ntmps60
      go_wp2_with fail
      go_ret
      exact ⟨by rw [HR.out]; rfl, rfl⟩
    | true =>
      have d2 : decide ((18446744069414584321 : Int) ≤ (nonce.toNat : Int)) = false := by rw [ge_big_dec, hn]; rfl
      have HR := hid (HCE.out _ _ hk hn)
      clear hk hn HCE
      go_enter Try.func60, Try.ntmps60
      go_wp2
      go_loop [17] (fun iv => ∃ i : Nat, i ≤ l.length ∧ iv = .int .i64 i ∧ Hid ((l.take i).all (fun x => decide (x < big)) = true)) (fun iv => l.length - (intOf iv).toNat)
      case atStart => exact ⟨0, by omega, rfl, hid rfl⟩
      case round =>
        obtain ⟨i, hi, rfl, hI⟩ := hrel
        by_cases hlt : i < l.length
        · obtain ⟨b, o, rfl⟩ : ∃ b o, a = some ⟨b, o, none⟩ := by
            cases a with
            | none => have := HN.out rfl; omega
            | some ad => obtain ⟨h1, _⟩ := HC.out ad rfl; exact ⟨ad.block, ad.off, by cases ad; simp only at h1; subst h1; rfl⟩
          have hc := (HC.out _ rfl).2 i l[i] (List.getElem?_eq_getElem hlt)
          have hx : l[i]? = some l[i] := List.getElem?_eq_getElem hlt
          generalize l[i] = x at *
          have hc' : w.cell? ⟨b, o + i, none⟩ = some (.int .u64 x.toNat) := hc
          have HX := hid hx
          clear hc hx
          by_cases hb : x < big
          · have hbi := (lt_big_iff x).1 hb
            have hB := hid hb
            clear hb
            have hd : decide ((18446744069414584321 : Int) ≤ (x.toNat : Int)) = false := by simp; omega
            clear hbi
            go_wp2
            go_round
            case rel => exact ⟨i + 1, by omega, by go_num, hid (allE_snoc HX.out hI.out hB.out)⟩
            case measure => simp [intOf]; omega
          · have hbi : ¬ (x.toNat : Int) < 18446744069414584321 := fun h => hb ((lt_big_iff x).2 h)
            have hfin := allE_bad HX.out hb
            have HFIN := hid hfin
            have hd : decide ((18446744069414584321 : Int) ≤ (x.toNat : Int)) = true := by simp; omega
            clear hbi hfin hb
            go_wp2
            go_ret
            exact ⟨by rw [HR.out, HFIN.out]; rfl, rfl⟩
        · have hil : i = l.length := by omega
          have hall : allE l = true := by
            have := hI.out
            rw [hil, List.take_length] at this
            exact this
          have HALL := hid hall
          have hlB : decide ((i : Int) < (l.length : Int)) = false := by simp; omega
          clear hall
          go_wp2
          go_ret
          exact ⟨by rw [HR.out, HALL.out]; rfl, rfl⟩

theorem k786 : ((UInt64.toNat 786432 : Nat) : Int) = 786432 := rfl
theorem Add_786 (p : Int) (hp : IsBig p) (m : Nat) (hm : m ≤ 1000000000000) (w : World) :
    Calls Try.prog 62 #[.agg #[.int .u64 p], .int .u64 786432, .int .u64 (m : Int)] w fun e w' => e = .returned (uv (fAdd 786432 (UInt64.ofNat m))) ∧ Ext w w' := by
  have h := Add_any p hp 786432 (UInt64.ofNat m) w
  rw [toNat_ofNat_lt (by omega)] at h
  exact h
set_option maxRecDepth 100000 in
set_option maxHeartbeats 1600000 in
theorem start_any (key nonce : UInt64) (n : Nat) (hn : n ≤ 1000000000000) (w : World) :
    Calls Try.prog 61 #[uv key, uv nonce, .int .i64 (n : Int)] w fun e w' => e = .returned (cipStart key nonce n).v ∧ Ext w w' := by
  have hw : IntKind.u64.wrap (n : Int) = (n : Int) := by simp [IntKind.wrap, IntKind.bits, IntKind.signed]; omega
  have CA : Hid (∀ v, Calls Try.prog 62 #[.agg #[.int .u64 18446744069414584321], .int .u64 786432, .int .u64 (n : Int)] v fun e w' => e = .returned (uv (fAdd 786432 (UInt64.ofNat n))) ∧ Ext v w') := hid (Add_786 _ big_is n hn)
  obtain ⟨x, hx⟩ : ∃ x, x = fAdd 786432 (UInt64.ofNat n) := ⟨_, rfl⟩
  rw [← hx] at CA
  have CP : Hid (∀ v, Calls Try.prog 63 #[.int .u64 18446744069414584321, .agg #[uv key, uv nonce, uv x]] v fun e w' => e = .returned (cipStart key nonce n).v ∧ Ext v w') := hid fun v => by
    have := Permute_any 18446744069414584321 big_is ⟨key, nonce, x⟩ v
    unfold cipStart
    rw [← hx]
    exact this
  clear hx
  generalize cipStart key nonce n = r at *
  have hx1 := ((Ext.refl w).alloc (.cells #[.int .u64 0, .int .u64 0, .int .u64 0] 98)).alloc (.cells #[.int .u64 18446744069414584321] 97)
  have hb := heap_alloc_some (o' := .cells #[.int .u64 18446744069414584321] 97) (heap_new w (.cells #[.int .u64 0, .int .u64 0, .int .u64 0] 98))
  go_enter Try.func61, Try.ntmps61
  go_wp2_with fail
  generalize (w.alloc (.cells #[.int .u64 0, .int .u64 0, .int .u64 0] 98)).alloc (.cells #[.int .u64 18446744069414584321] 97) = w0 at *
  refine (CA.out _).mono ?_
  rintro e w1 ⟨rfl, hx2⟩
  have HB1 := hid (hx2.heap_some hb)
  have HX1 := hid (hx1.trans hx2)
  clear hx2 hb hx1
  go_wp2_with fail
  refine (CP.out _).mono ?_
  rintro e w2 ⟨rfl, hx3⟩
  have HB2 := hx3.heap_some HB1.out
  have d0 : w2.cell? ⟨w.heap.size, 0, none⟩ = some (.int .u64 0) := cell_of HB2 0
  have d1 : w2.cell? ⟨w.heap.size, 1, none⟩ = some (.int .u64 0) := cell_of HB2 1
  have d2 : w2.cell? ⟨w.heap.size, 2, none⟩ = some (.int .u64 0) := cell_of HB2 2
  have df : ∀ i, w2.frozen? ⟨w.heap.size, i, none⟩ = false := fun i => frozen_of HB2 i
  have HBB := hid HB2
  have HX3 := hid (HX1.out.trans hx3)
  clear HB2 hx3
  go_wp2
  have hB3 := heap_setCell_same (heap_setCell_same (heap_setCell_same HBB.out 0 (.int .u64 r.a.toNat)) 1 (.int .u64 r.b.toNat)) 2 (.int .u64 r.c.toNat)
  have r0 := cell_of hB3 0
  have r1 := cell_of hB3 1
  have r2 := cell_of hB3 2
  have hfin := ((HX3.out.setCell (p := ⟨w.heap.size, 0, none⟩) (Nat.le_refl _) (.int .u64 r.a.toNat)).setCell (p := ⟨w.heap.size, 1, none⟩) (Nat.le_refl _) (.int .u64 r.b.toNat)).setCell (p := ⟨w.heap.size, 2, none⟩) (Nat.le_refl _) (.int .u64 r.c.toNat)
  exact bodyPost_ret (v := r.v) (by simp [results, Try.results61, go_sem, r0, r1, r2]) rfl ⟨rfl, hfin⟩
end Go.Proofs.Ytdkilbnocmnekaa
