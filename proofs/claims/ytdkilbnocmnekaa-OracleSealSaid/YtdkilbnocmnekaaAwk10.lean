/- The examples of the chapter oracle hold: awake of moidorelaw10. -/
import Derived.Test.YtdkilbnocmnekaaPlainLaw
set_option linter.unusedSimpArgs false
namespace Go.Proofs.Ytdkilbnocmnekaa
open Go.RowKit
theorem draw0 : drawOf 0 = 16294208416658607535 := by decide +kernel
theorem draw1 : drawOf (nextState 0) = 7960286522194355700 := by decide +kernel
theorem draws_then : ∃ M1 M2 : Orc, (Orc.fresh true 0).hash 3 [1, 2] = (16294208416658607535, M1) ∧ M1.hash 3 [1, 2] = (16294208416658607535, M1) ∧ M1.hash 3 [2, 1] = (7960286522194355700, M2) ∧
    M1.qs.length = 1 ∧ M1.draws = 1 ∧ M2.qs.length = 2 ∧ M2.draws = 2 ∧ ∀ q ∈ M2.qs, q.elems.length ≤ 2 := by
  have h0 := draw0
  have h1 := draw1
  have e1 : allE [1, 2] = true := by decide
  have e2 : allE [2, 1] = true := by decide
  refine ⟨⟨true, nextState 0, 1, [⟨3, [1, 2], 16294208416658607535⟩], [], []⟩, ⟨true, nextState (nextState 0), 2, [⟨3, [1, 2], 16294208416658607535⟩, ⟨3, [2, 1], 7960286522194355700⟩], [], []⟩, ?_, ?_, ?_, rfl, rfl, rfl, rfl, by simp⟩
  · unfold Orc.hash
    rw [if_pos e1]
    show (if true then (drawOf 0, ((Orc.fresh true 0).step).add 3 [1, 2] (drawOf 0)) else _) = _
    rw [h0]; rfl
  · unfold Orc.hash
    rw [if_pos e1]
    rfl
  · unfold Orc.hash
    rw [if_pos e2]
    show (if true then (drawOf (nextState 0), (Orc.step ⟨true, nextState 0, 1, [⟨3, [1, 2], 16294208416658607535⟩], [], []⟩).add 3 [2, 1] (drawOf (nextState 0))) else _) = _
    rw [h1]; rfl

attribute [local irreducible] perm fAdd fMul fPow fSub fNeg fRed hashU drawOf nextState
theorem OrcAt.draws10 {w : World} {b : Nat} {M : Orc} {F : Nat → Prop} (h : OrcAt w b M F) : Calls Try.prog 33 #[.pointer (some ⟨b, 0, none⟩)] w (fun e w' => e = .returned (.int .i64 (M.draws : Int)) ∧ w' = w) := by
  obtain ⟨qv, mk, ms, mp, Q, S, hin⟩ := h
  exact Draws_any hin.self
theorem two_rdu {w : World} {b : Nat} {x y : UInt64} {T : TypeId} (h : w.heap[b]? = some (.cells #[uv x, uv y] T (0, 0))) : RdU w (.slice (some ⟨b, 0, none⟩) 2 2) [x, y] :=
  (RdC.block h (n := 2) (by unfold maxLen; omega)).rdu rfl
set_option maxRecDepth 100000 in
set_option maxHeartbeats 1600000 in
theorem awake10_any (w : World) : Calls Try.prog 11 #[] w fun e w' => e = .returned (.bool true) ∧ Ext w w' := by
  have HI := hid (Ideal_any 0)
  obtain ⟨M1, M2, h1, h2, h3, l1, n1, l2, n2, hE⟩ := draws_then
  have C1 : Hid (∀ v b F lv, OrcAt v b (Orc.fresh true 0) F → RdU v lv [1, 2] → (∀ k, blk lv = some k → ¬ F k) → Calls Try.prog 14 #[.pointer (some ⟨b, 0, none⟩), .int .u64 3, lv] v fun e v' => e = .returned (uv 16294208416658607535) ∧ ∃ F', OrcTo v b F M1 v' F') := hid fun v b F lv h hr hf => by
    have := Hash_orc (label := 3) h hr hf (by simp) (by decide) (by decide)
    unfold HashO at this
    rw [h1] at this
    exact this
  have C2 : Hid (∀ v b F lv, OrcAt v b M1 F → RdU v lv [1, 2] → (∀ k, blk lv = some k → ¬ F k) → Calls Try.prog 14 #[.pointer (some ⟨b, 0, none⟩), .int .u64 3, lv] v fun e v' => e = .returned (uv 16294208416658607535) ∧ ∃ F', OrcTo v b F M1 v' F') := hid fun v b F lv h hr hf => by
    have := Hash_orc (label := 3) h hr hf (by simp) (by omega) (by omega)
    unfold HashO at this
    rw [h2] at this
    exact this
  have C3 : Hid (∀ v b F lv, OrcAt v b M1 F → RdU v lv [2, 1] → (∀ k, blk lv = some k → ¬ F k) → Calls Try.prog 14 #[.pointer (some ⟨b, 0, none⟩), .int .u64 3, lv] v fun e v' => e = .returned (uv 7960286522194355700) ∧ ∃ F', OrcTo v b F M2 v' F') := hid fun v b F lv h hr hf => by
    have := Hash_orc (label := 3) h hr hf (by simp) (by omega) (by omega)
    unfold HashO at this
    rw [h3] at this
    exact this
  have CD : Hid (∀ v b F, OrcAt v b M2 F → Calls Try.prog 33 #[.pointer (some ⟨b, 0, none⟩)] v fun e v' => e = .returned (.int .i64 2) ∧ v' = v) := hid fun v b F h => by
    have := h.draws10
    rw [n2] at this
    exact this
  have CQ : Hid (∀ v b F, OrcAt v b M2 F → Calls Try.prog 17 #[.pointer (some ⟨b, 0, none⟩)] v (NewQs v M2.qs)) := hid fun v b F h => Questions_any h (by omega) fun q hq => Nat.le_trans (hE q hq) (by omega)
  have L2 := hid l2
  clear h1 h2 h3 l1 n1 l2 n2 hE
  have z0 : ((UInt64.toNat 0 : Nat) : Int) = 0 := rfl
  have z1 : ((UInt64.toNat 1 : Nat) : Int) = 1 := rfl
  have z2 : ((UInt64.toNat 2 : Nat) : Int) = 2 := rfl
  have k1 : ((UInt64.toNat 16294208416658607535 : Nat) : Int) = 16294208416658607535 := by decide +kernel
  have k2 : ((UInt64.toNat 7960286522194355700 : Nat) : Int) = 7960286522194355700 := by decide +kernel
  go_enter Try.func11, Try.ntmps11
  go_wp2_with fail
  refine (HI.out _).mono ?_
  rintro e w1 ⟨b, F, rfl, hat, hx1, hF⟩
  have HAT := hid hat
  have HX1 := hid hx1
  have HF := hid hF
  clear hat hx1 hF HI
  go_wp2_with fail
  have hrd : RdU (w1.alloc (.cells #[.int .u64 1, .int .u64 2] 22)) _ [1, 2] := two_rdu (heap_new w1 (.cells #[uv 1, uv 2] 22))
  have hap := new_apart (v := .slice (some ⟨w1.heap.size, 0, none⟩) 2 2) HAT.out (by intro j hj; cases hj; exact Nat.le_refl _)
  refine (C1.out _ _ _ _ (HAT.out.ext ((Ext.refl w1).alloc _)) hrd hap).mono ?_
  rintro e w2 ⟨rfl, F2, t⟩
  have T2 : Hid (OrcTo w1 b F M1 w2 F2) := hid (t.pre ((Ext.refl w1).alloc _))
  clear t hrd hap
  go_wp2_with fail
  have hrd : RdU (w2.alloc (.cells #[.int .u64 1, .int .u64 2] 22)) _ [1, 2] := two_rdu (heap_new w2 (.cells #[uv 1, uv 2] 22))
  have hap := new_apart (v := .slice (some ⟨w2.heap.size, 0, none⟩) 2 2) T2.out.at' (by intro j hj; cases hj; exact Nat.le_refl _)
  refine (C2.out _ _ _ _ (T2.out.at'.ext ((Ext.refl w2).alloc _)) hrd hap).mono ?_
  rintro e w3 ⟨rfl, F3, t⟩
  have T3 : Hid (OrcTo w1 b F M1 w3 F3) := hid (T2.out.trans (t.pre ((Ext.refl w2).alloc _)))
  clear t hrd hap
  go_wp2_with fail
  have hrd : RdU (w3.alloc (.cells #[.int .u64 2, .int .u64 1] 22)) _ [2, 1] := two_rdu (heap_new w3 (.cells #[uv 2, uv 1] 22))
  have hap := new_apart (v := .slice (some ⟨w3.heap.size, 0, none⟩) 2 2) T3.out.at' (by intro j hj; cases hj; exact Nat.le_refl _)
  refine (C3.out _ _ _ _ (T3.out.at'.ext ((Ext.refl w3).alloc _)) hrd hap).mono ?_
  rintro e w4 ⟨rfl, F4, t⟩
  have T4 : Hid (OrcTo w1 b F M2 w4 F4) := hid (T3.out.trans (t.pre ((Ext.refl w3).alloc _)))
  have HX4 : Hid (Ext w w4) := hid (HX1.out.kp T4.out.kp HF.out)
  clear t hrd hap
  go_wp2_with fail
  refine (CD.out _ _ _ T4.out.at').mono ?_
  rintro e w5 ⟨rfl, rfl⟩
  go_wp2_with fail
  refine (CQ.out _ _ _ T4.out.at').mono ?_
  rintro e w6 ⟨v, Q, rfl, hQ, hown, -, hx6, -⟩
  have hQl : Q.length = 2 := by
    have := congrArg List.length hQ
    rw [List.length_map, L2.out] at this
    exact this
  obtain ⟨qa, qc, rfl, -⟩ := ownsRow_rd hown
  rw [hQl]
  have HX6 := hid (HX4.out.trans hx6)
  clear hQ hown hx6 hQl Q
  go_wp2_with fail
  go_ret
  exact ⟨rfl, HX6.out⟩
end Go.Proofs.Ytdkilbnocmnekaa
