/- A note's commitment without asking: note.Commitment. -/
import Derived.Test.YtgfmjfkdogcnhaaGreatNoteV
import Derived.Test.YtgfmjfkdogcnhaaGreatNote
import Derived.Test.YtgfmjfkdogcnhaaGreatPeek
set_option linter.unusedSimpArgs false
namespace Go.Proofs.YtgfmjfkdogcnhaaGreat
open Go.RowKit
attribute [local irreducible] perm fAdd fMul fPow fSub fNeg fRed hashU drawOf nextState
def commitK (M : Orc) (n : Nt) : UInt64 × Bool := if n.ok then M.peek 2 n.list else (0, false)
set_option maxRecDepth 100000 in
set_option maxHeartbeats 1600000 in
theorem noteCommitment_any {w : World} {b : Nat} {M : Orc} {F : Nat → Prop} (n : Nt) (h : OrcAt w b M F) (hq : M.qs.length ≤ 1000000000) :
    Calls Tryz.prog 29 #[.pointer (some ⟨b, 0, none⟩), nv n] w fun e w' => e = .returned (.tuple #[uv (commitK M n).1, .bool (commitK M n).2]) ∧ Ext w w' := by
  obtain ⟨ok, hok⟩ : ∃ ok, ok = n.ok := ⟨_, rfl⟩
  have hv := noteValid_any n
  have CN := hid (noteElements_any n)
  have CP : Hid (∀ v nv', Ext w v → RdU v nv' n.list → Calls Tryz.prog 61 #[.pointer (some ⟨b, 0, none⟩), .int .u64 2, nv'] v fun e v' => e = .returned (.tuple #[uv (M.peek 2 n.list).1, .bool (M.peek 2 n.list).2]) ∧ Ext v v') := hid fun v nv' k hr => Peek_any (label := 2) (h.ext k) hr (by simp [Nt.list]) hq
  clear h hq
  unfold commitK
  rw [← hok] at hv ⊢
  clear hok
  generalize M.peek 2 n.list = pk at *
  generalize hnl : n.list = nl at *
  clear hnl
  obtain ⟨a, b', c, d⟩ := n
  obtain ⟨p0, p1⟩ := pk
  unfold nv at hv CN ⊢
  simp only at hv CN CP ⊢
  have HV := hid hv
  clear hv
  cases ok with
  | false =>
    simp only [Bool.false_eq_true, if_false]
    go_enter Tryz.func29, Tryz.ntmps29
    go_wp2_with fail
    refine (HV.out _).mono ?_
    rintro e w1 ⟨rfl, hx⟩
    have HX := hid (((Ext.refl w).alloc (.cells #[uv a, uv b', uv c, uv d] 42)).trans hx)
    clear hx
    go_wp2_with fail
    refine bodyPost_ret (v := .tuple #[.int .u64 0, .bool false]) (by simp [results, Tryz.results29, go_sem]) rfl ⟨rfl, HX.out⟩
  | true =>
    simp only [if_true]
    go_enter Tryz.func29, Tryz.ntmps29
    go_wp2_with fail
    refine (HV.out _).mono ?_
    rintro e w1 ⟨rfl, hx⟩
    have HX := hid (((Ext.refl w).alloc (.cells #[uv a, uv b', uv c, uv d] 42)).trans hx)
    obtain ⟨c0, c1, c2, c3⟩ : w1.cell? ⟨w.heap.size, 0, none⟩ = some (uv a) ∧ w1.cell? ⟨w.heap.size, 1, none⟩ = some (uv b') ∧ w1.cell? ⟨w.heap.size, 2, none⟩ = some (uv c) ∧ w1.cell? ⟨w.heap.size, 3, none⟩ = some (uv d) := by
      have hb1 := hx.heap_some (heap_new w (.cells #[uv a, uv b', uv c, uv d] 42))
      exact ⟨cell_of hb1 0, cell_of hb1 1, cell_of hb1 2, cell_of hb1 3⟩
    clear hx
    go_wp2_with fail
    refine (CN.out _).mono ?_
    rintro e w2 ⟨lv, rfl, hr, hx, -⟩
    have HX2 := hid (HX.out.trans hx)
    have HR := hid hr
    clear hx hr c0 c1 c2 c3
    go_wp2_with fail
    refine (CP.out _ _ HX2.out HR.out).mono ?_
    rintro e w3 ⟨rfl, hx⟩
    have HX3 := hid (HX2.out.trans hx)
    clear hx
    go_wp2_with fail
    refine bodyPost_ret (v := .tuple #[uv p0, .bool p1]) (by simp [results, Tryz.results29, go_sem]) rfl ⟨rfl, HX3.out⟩
end Go.Proofs.YtgfmjfkdogcnhaaGreat
