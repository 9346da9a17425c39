/- Commitment and Marked of the note package; the reference's Note. -/
import Derived.Test.YtdkilbnocmnekaaPeek
set_option linter.unusedSimpArgs false
namespace Go.Proofs.Ytdkilbnocmnekaa
open Go.RowKit
attribute [local irreducible] perm fAdd fMul fPow fSub fNeg fRed

def Orc.commitment (M : Orc) (n : Nt) : UInt64 × Bool := if n.ok then M.peek 2 n.list else (0, false)
def Orc.marked (M : Orc) (k r : UInt64) : UInt64 × Bool := if allE [k, r] then M.peek 3 [k, r] else (0, false)
def TwoO (w : World) (x : UInt64 × Bool) (e : Ending) (w' : World) : Prop := e = .returned (.tuple #[uv x.1, .bool x.2]) ∧ Ext w w'

set_option maxRecDepth 100000 in
set_option maxHeartbeats 1600000 in
theorem refNote_any (n : Nt) (w : World) : Calls Try.prog 30 #[nv n] w (NewL w n.list) := by
  obtain ⟨a, b, c, d⟩ := n
  unfold nv
  simp only
  go_enter Try.func30, Try.ntmps30
  go_wp2
  go_ret
  have h := (Ext.refl w).alloc (.cells #[uv a, uv b, uv c, uv d] 45)
  have := newL_of (T := 22) (cs := #[uv a, uv b, uv c, uv d]) h (l := [a, b, c, d]) rfl (by simp)
  rw [World.size_alloc] at this
  exact this

set_option maxRecDepth 100000 in
set_option maxHeartbeats 1600000 in
theorem Commitment_any {w : World} {b : Nat} {M : Orc} {F : Nat → Prop} {n : Nt} (h : OrcAt w b M F) (hq : M.qs.length ≤ 1000000000) :
    Calls Try.prog 31 #[.pointer (some ⟨b, 0, none⟩), nv n] w (TwoO w (M.commitment n)) := by
  have HH := hid h
  have HQ := hid hq
  have HV := hid (noteValid_any n)
  have HE := hid (noteElements_any n)
  have HC : Hid (∀ ok, n.ok = ok → M.commitment n = if ok then M.peek 2 n.list else (0, false)) := hid (by rintro ok rfl; rfl)
  have HLN : Hid (n.list.length ≤ 1000000000000) := hid (by simp [Nt.list])
  clear h hq
  obtain ⟨l, hl⟩ : ∃ l, l = n.list := ⟨_, rfl⟩
  rw [← hl] at HE HC HLN
  clear hl
  cases hok : n.ok with
  | false =>
    rw [hok] at HV
    have hc : M.commitment n = (0, false) := by rw [HC.out _ hok]; rfl
    have HC' := hid hc
    obtain ⟨a, b', c, d⟩ := n
    unfold nv at HV ⊢
    simp only at HV ⊢
    clear hok HC HE hc
    go_enter Try.func31, Try.ntmps31
    go_wp2_with fail
    refine (HV.out _).mono ?_
    rintro e w1 ⟨rfl, hx⟩
    have hx1 := ((Ext.refl w).alloc (.cells #[uv a, uv b', uv c, uv d] 45)).trans hx
    have HX := hid hx1
    clear hx hx1
    go_wp2
    unfold TwoO
    rw [HC'.out]
    exact bodyPost_ret (v := .tuple #[.int .u64 0, .bool false]) (by simp [results, Try.results31, go_sem]) rfl ⟨rfl, HX.out⟩
  | true =>
    rw [hok] at HV
    have hc : M.commitment n = M.peek 2 l := by rw [HC.out _ hok]; rfl
    have HC' := hid hc
    obtain ⟨a, b', c, d⟩ := n
    unfold nv at HV HE ⊢
    simp only at HV HE ⊢
    clear hok HC hc
    go_enter Try.func31, Try.ntmps31
    go_wp2_with fail
    refine (HV.out _).mono ?_
    rintro e w1 ⟨rfl, hx⟩
    have hx0 := (Ext.refl w).alloc (.cells #[uv a, uv b', uv c, uv d] 45)
    have hb1 := hx.heap_some (heap_new w (.cells #[uv a, uv b', uv c, uv d] 45))
    have d0 : w1.cell? ⟨w.heap.size, 0, none⟩ = some (uv a) := cell_of hb1 0
    have d1 : w1.cell? ⟨w.heap.size, 1, none⟩ = some (uv b') := cell_of hb1 1
    have d2 : w1.cell? ⟨w.heap.size, 2, none⟩ = some (uv c) := cell_of hb1 2
    have d3 : w1.cell? ⟨w.heap.size, 3, none⟩ = some (uv d) := cell_of hb1 3
    have hx1 := hx0.trans hx
    have HX := hid hx1
    clear hx hx0 hb1 hx1
    go_wp2_with fail
    refine (HE.out _).mono ?_
    rintro e w2 ⟨lv, rfl, hrd, hx2, hnb⟩
    have hat : OrcAt w2 b M F := HH.out.ext (HX.out.trans hx2)
    have HX2 := hid (HX.out.trans hx2)
    have HRD := hid hrd
    have HAT := hid hat
    clear hrd hat hx2 hnb d0 d1 d2 d3
    go_wp2_with fail
    refine (Peek_any (label := 2) HAT.out HRD.out HLN.out HQ.out).mono ?_
    rintro e w3 ⟨rfl, hx3⟩
    have HX3 := hid (HX2.out.trans hx3)
    clear hx3
    go_wp2
    unfold TwoO
    rw [HC'.out]
    exact bodyPost_ret (v := .tuple #[uv (M.peek 2 l).1, .bool (M.peek 2 l).2]) (by simp [results, Try.results31, go_sem]) rfl ⟨rfl, HX3.out⟩

set_option maxRecDepth 100000 in
set_option maxHeartbeats 1600000 in
theorem Marked_any {w : World} {b : Nat} {M : Orc} {F : Nat → Prop} {k r : UInt64} (h : OrcAt w b M F) (hq : M.qs.length ≤ 1000000000) :
    Calls Try.prog 32 #[.pointer (some ⟨b, 0, none⟩), uv k, uv r] w (TwoO w (M.marked k r)) := by
  have HH := hid h
  have HQ := hid hq
  have hall : allE [k, r] = (decide (k < big) && decide (r < big)) := by simp [allE]
  have HALL := hid hall
  clear h hq hall
  cases hk : decide (k < big) with
  | false =>
    have d1 : decide ((18446744069414584321 : Int) ≤ (k.toNat : Int)) = true := by rw [ge_big_dec, hk]; rfl
    have hm : M.marked k r = (0, false) := by unfold Orc.marked; rw [HALL.out, hk]; rfl
    have HM := hid hm
    clear hk hm
    go_enter Try.func32, Try.ntmps32
    go_wp2_with fail
    unfold TwoO
    rw [HM.out]
    exact bodyPost_ret (v := .tuple #[.int .u64 0, .bool false]) (by simp [results, Try.results32, go_sem]) rfl ⟨rfl, Ext.refl _⟩
  | true =>
    have d1 : decide ((18446744069414584321 : Int) ≤ (k.toNat : Int)) = false := by rw [ge_big_dec, hk]; rfl
    cases hr : decide (r < big) with
    | false =>
      have d2 : decide ((18446744069414584321 : Int) ≤ (r.toNat : Int)) = true := by rw [ge_big_dec, hr]; rfl
      have hm : M.marked k r = (0, false) := by unfold Orc.marked; rw [HALL.out, hk, hr]; rfl
      have HM := hid hm
      clear hk hr hm
      go_enter Try.func32, Try.ntmps32
      go_wp2_with fail
      unfold TwoO
      rw [HM.out]
      exact bodyPost_ret (v := .tuple #[.int .u64 0, .bool false]) (by simp [results, Try.results32, go_sem]) rfl ⟨rfl, Ext.refl _⟩
    | true =>
      have d2 : decide ((18446744069414584321 : Int) ≤ (r.toNat : Int)) = false := by rw [ge_big_dec, hr]; rfl
      have hm : M.marked k r = M.peek 3 [k, r] := by unfold Orc.marked; rw [HALL.out, hk, hr]; rfl
      have HM := hid hm
      clear hk hr hm
      go_enter Try.func32, Try.ntmps32
      go_wp2_with fail
      have hx := (Ext.refl w).alloc (.cells #[uv k, uv r] 22)
      have hr1 := RdC.block (heap_new w (.cells #[uv k, uv r] 22)) (n := 2) (by unfold maxLen; omega)
      have HX := hid hx
      refine (Peek_any (label := 3) (HH.out.ext hx) (hr1.rdu rfl : RdU _ _ [k, r]) (by simp) HQ.out).mono ?_
      rintro e w3 ⟨rfl, hx3⟩
      have HX3 := hid (HX.out.trans hx3)
      clear hx3 hr1 hx
      go_wp2_with fail
      unfold TwoO
      rw [HM.out]
      exact bodyPost_ret (v := .tuple #[uv (M.peek 3 [k, r]).1, .bool (M.peek 3 [k, r]).2]) (by simp [results, Try.results32, go_sem]) rfl ⟨rfl, HX3.out⟩
end Go.Proofs.Ytdkilbnocmnekaa
