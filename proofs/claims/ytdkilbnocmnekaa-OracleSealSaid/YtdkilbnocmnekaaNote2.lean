/- The note package: Commit; Origin of one mark. -/
import Derived.Test.YtdkilbnocmnekaaNote
set_option linter.unusedSimpArgs false
namespace Go.Proofs.Ytdkilbnocmnekaa
open Go.RowKit
attribute [local irreducible] perm fAdd fMul fPow fSub fNeg fRed

def Orc.commit (M : Orc) (n : Nt) : UInt64 × Orc := if n.ok then M.hash 2 n.list else (0, M)
def CommitO (w : World) (b : Nat) (M : Orc) (F : Nat → Prop) (n : Nt) (e : Ending) (w' : World) : Prop :=
  e = .returned (uv (M.commit n).1) ∧ ∃ F', OrcTo w b F (M.commit n).2 w' F'

theorem new_apart {w : World} {b : Nat} {M : Orc} {F : Nat → Prop} (h : OrcAt w b M F) {v : Value} (hv : ∀ k, blk v = some k → w.heap.size ≤ k) : ∀ k, blk v = some k → ¬ F k := by
  intro k hk hf
  have h1 := h.foot_lt k hf
  have h2 := hv k hk
  omega

set_option maxRecDepth 100000 in
set_option maxHeartbeats 1600000 in
theorem Commit_any {w : World} {b : Nat} {M : Orc} {F : Nat → Prop} {n : Nt} (h : OrcAt w b M F) (hq : M.qs.length ≤ 1000000000) (hn : M.draws ≤ 1000000000000) :
    Calls Try.prog 25 #[.pointer (some ⟨b, 0, none⟩), nv n] w (CommitO w b M F n) := by
  have HH := hid h
  have HQ := hid hq
  have HD := hid hn
  have HV := hid (noteValid_any n)
  have HE := hid (noteElements_any n)
  have HC : Hid (∀ ok, n.ok = ok → M.commit n = if ok then M.hash 2 n.list else (0, M)) := hid (by rintro ok rfl; rfl)
  have HLN : Hid (n.list.length ≤ 1000000000000) := hid (by simp [Nt.list])
  clear h hq hn
  obtain ⟨l, hl⟩ : ∃ l, l = n.list := ⟨_, rfl⟩
  rw [← hl] at HE HC HLN
  clear hl
  cases hok : n.ok with
  | false =>
    rw [hok] at HV
    have hc : M.commit n = (0, M) := by rw [HC.out _ hok]; rfl
    have HC' := hid hc
    obtain ⟨a, b', c, d⟩ := n
    unfold nv at HV ⊢
    simp only at HV ⊢
    clear hok HC HE hc
    go_enter Try.func25, Try.ntmps25
    go_wp2_with fail
    refine (HV.out _).mono ?_
    rintro e w1 ⟨rfl, hx⟩
    have hx1 := ((Ext.refl w).alloc (.cells #[uv a, uv b', uv c, uv d] 45)).trans hx
    have HX := hid hx1
    clear hx hx1
    go_wp2
    go_ret
    unfold CommitO
    rw [HC'.out]
    exact ⟨rfl, F, .of_ext HH.out HX.out⟩
  | true =>
    rw [hok] at HV
    have hc : M.commit n = M.hash 2 l := by rw [HC.out _ hok]; rfl
    have HC' := hid hc
    obtain ⟨a, b', c, d⟩ := n
    unfold nv at HV HE ⊢
    simp only at HV HE ⊢
    clear hok HC hc
    go_enter Try.func25, Try.ntmps25
    go_wp2_with fail
    refine (HV.out _).mono ?_
    rintro e w1 ⟨rfl, hx⟩
    have hx0 := (Ext.refl w).alloc (.cells #[uv a, uv b', uv c, uv d] 45)
    have hb1 := hx.heap_some (heap_new w (.cells #[uv a, uv b', uv c, uv d] 45))
    have d0 : w1.cell? ⟨w.heap.size, 0, none⟩ = some (uv a) := cell_of hb1 0
    have d1 : w1.cell? ⟨w.heap.size, 1, none⟩ = some (uv b') := cell_of hb1 1
    have d2 : w1.cell? ⟨w.heap.size, 2, none⟩ = some (uv c) := cell_of hb1 2
    have d3 : w1.cell? ⟨w.heap.size, 3, none⟩ = some (uv d) := cell_of hb1 3
    have hx1 := hx0.trans hx
    have HX := hid hx1
    clear hx hx0 hb1 hx1
    go_wp2_with fail
    refine (HE.out _).mono ?_
    rintro e w2 ⟨lv, rfl, hrd, hx2, hnb⟩
    have hat : OrcAt w2 b M F := HH.out.ext (HX.out.trans hx2)
    have hap := new_apart (HH.out.ext HX.out) hnb
    have HX2 := hid (HX.out.trans hx2)
    have HRD := hid hrd
    have HAP := hid hap
    have HAT := hid hat
    clear hrd hap hat hx2 hnb d0 d1 d2 d3
    go_wp2_with fail
    refine (Hash_orc (label := 2) HAT.out HRD.out HAP.out HLN.out HQ.out HD.out).mono ?_
    rintro e w3 ⟨rfl, F', hto⟩
    have HTO := hid hto
    clear hto
    go_wp2
    go_ret
    unfold CommitO
    rw [HC'.out]
    exact ⟨rfl, F', HTO.out.pre HX2.out⟩

set_option maxRecDepth 100000 in
set_option maxHeartbeats 800000 in
/-- The origin of marks that begin with a small number is this number. -/
theorem Origin_one (lv : Value) (x : UInt64) (l : List UInt64) (w : World) (p q : Value) (h : RdU w lv (x :: l)) (hx : x < big) :
    Calls Try.prog 49 #[lv, p, q] w fun e w' => e = .returned (uv x) ∧ w' = w := by
  obtain ⟨a, c, rfl, -⟩ := id h
  obtain ⟨b, o, rfl, hc⟩ := h.at (i := 0) (x := x) rfl
  have hd : decide ((18446744069414584321 : Int) ≤ (x.toNat : Int)) = false := by have := (lt_big_iff x).1 hx; simp; omega
  have hn : decide ((0 : Int) < ((x :: l).length : Int)) = true := by simp
  have h1 : (0 : Int) < ((x :: l).length : Int) := by simp
  have hc0 : w.cell? ⟨b, o, none⟩ = some (.int .u64 x.toNat) := hc
  have h2 : decide (0 < (x :: l).length) = true := by simp
  generalize (x :: l).length = n at *
  clear h hx hc hn
  go_enter Try.func49, Try.ntmps49
  go_wp2
  go_ret
  exact ⟨rfl, rfl⟩
end Go.Proofs.Ytdkilbnocmnekaa
