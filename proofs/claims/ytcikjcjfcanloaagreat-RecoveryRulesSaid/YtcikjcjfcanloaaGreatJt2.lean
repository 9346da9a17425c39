/- Texts of this claim, joined: Rules. -/
import Derived.Test.YtcikjcjfcanloaaGreatJr1
import Derived.Test.YtcikjcjfcanloaaGreatJr10
import Derived.Test.YtcikjcjfcanloaaGreatJr11
import Derived.Test.YtcikjcjfcanloaaGreatJr12
import Derived.Test.YtcikjcjfcanloaaGreatJr13
import Derived.Test.YtcikjcjfcanloaaGreatJr14
import Derived.Test.YtcikjcjfcanloaaGreatJr15
import Derived.Test.YtcikjcjfcanloaaGreatJr17
import Derived.Test.YtcikjcjfcanloaaGreatJr18
import Derived.Test.YtcikjcjfcanloaaGreatJr2
import Derived.Test.YtcikjcjfcanloaaGreatJr3
import Derived.Test.YtcikjcjfcanloaaGreatJr4
import Derived.Test.YtcikjcjfcanloaaGreatJr5
import Derived.Test.YtcikjcjfcanloaaGreatJr6
import Derived.Test.YtcikjcjfcanloaaGreatJr7
import Derived.Test.YtcikjcjfcanloaaGreatJr8
import Derived.Test.YtcikjcjfcanloaaGreatJr9
import Derived.Test.YtcikjcjfcanloaaGreatJt1
set_option linter.unusedSimpArgs false
namespace Go.Proofs.YtcikjcjfcanloaaGreat
open Go.RowKit
attribute [local irreducible] perm fAdd fMul fPow fSub fNeg fRed hashU drawOf nextState
theorem bits_and_i64_nat (a b : Nat) (ha : a < 4611686018427387904) (hb : b < 4611686018427387904) : bits .and .i64 (a : Int) (b : Int) = ((a &&& b : Nat) : Int) := by
  have hx : a &&& b < 2 ^ 62 := Nat.and_lt_two_pow _ (by omega)
  have h1 : (BitVec.ofInt 64 (a : Int)).toNat = a := by
    rw [BitVec.ofInt_natCast, BitVec.toNat_ofNat]; exact Nat.mod_eq_of_lt (by omega)
  have h2 : (BitVec.ofInt 64 (b : Int)).toNat = b := by
    rw [BitVec.ofInt_natCast, BitVec.toNat_ofNat]; exact Nat.mod_eq_of_lt (by omega)
  show IntKind.i64.wrap ((BitVec.ofInt 64 (a : Int) &&& BitVec.ofInt 64 (b : Int)).toNat : Int) = _
  rw [BitVec.toNat_and, h1, h2, IntKind.wrap_i64]
  omega
def isP2 (b : Int) : Bool := (List.range 8).any fun j => decide (b = 2 ^ (j + 1))
def isP1 (b : Int) : Bool := (List.range 4).any fun j => decide (b = 2 ^ j)
theorem p2_and : ∀ n : Nat, n < 257 → 2 ≤ n → (decide (n &&& (n - 1) = 0) = isP2 (n : Int)) := by decide +kernel
theorem p2_range {b : Int} (h : isP2 b = true) : 2 ≤ b ∧ b ≤ 256 := by
  unfold isP2 at h
  obtain ⟨j, hj, he⟩ := List.any_eq_true.1 h
  have hj := List.mem_range.1 hj
  have he := of_decide_eq_true he
  have h3 : j = 0 ∨ j = 1 ∨ j = 2 ∨ j = 3 ∨ j = 4 ∨ j = 5 ∨ j = 6 ∨ j = 7 := by omega
  rcases h3 with rfl | rfl | rfl | rfl | rfl | rfl | rfl | rfl <;> (simp at he; omega)
def paramsW (pb pu pq : Int) : Bool := isP2 pb && isP1 pu && (decide (1 ≤ pq) && decide (pq ≤ 64))
theorem isP1_no {b : Int} (h1 : b ≠ 1) (h2 : b ≠ 2) (h4 : b ≠ 4) (h8 : b ≠ 8) : isP1 b = false := by
  unfold isP1
  simp [List.range, List.range.loop, h1, h2, h4, h8]
set_option maxRecDepth 100000 in
set_option maxHeartbeats 51200000 in
theorem txParams_any (pb pu pq : Int) (hq : pb ≤ 9223372036854775807) (w : World) : Calls Tryz.prog 105 #[.agg #[.int .i64 pb, .int .i64 pu, .int .i64 pq]] w fun e w' => e = .returned (.bool (paramsW pb pu pq)) ∧ Ext w w' := by
  obtain ⟨N, hN⟩ : ∃ N, N = w.heap.size := ⟨_, rfl⟩
  obtain ⟨w0, hw0⟩ : ∃ w0, w0 = w.alloc (.cells #[.int .i64 pb, .int .i64 pu, .int .i64 pq] 43) := ⟨_, rfl⟩
  have hx0 : Ext w w0 := by rw [hw0]; exact (Ext.refl w).alloc _
  have hb0 : w0.heap[N]? = some (.cells #[.int .i64 pb, .int .i64 pu, .int .i64 pq] 43 (0, 0)) := by rw [hw0, hN]; exact heap_new _ _
  have HX0 := hid hx0
  have HW := hid hw0
  have HB0 := hid hb0
  obtain ⟨c0, c1, c2⟩ : w0.cell? ⟨N, 0, none⟩ = some (.int .i64 pb) ∧ w0.cell? ⟨N, 1, none⟩ = some (.int .i64 pu) ∧ w0.cell? ⟨N, 2, none⟩ = some (.int .i64 pq) := ⟨cell_of hb0 0, cell_of hb0 1, cell_of hb0 2⟩
  clear hw0 hx0 hb0
  obtain ⟨R, hR⟩ : ∃ R, R = paramsW pb pu pq := ⟨_, rfl⟩
  rw [← hR]
  have HR := hid hR
  clear hR
  go_enter Tryz.func105, Tryz.ntmps105
  go_upto_region 1 with fail
  rw [← HW.out, ← hN]
  clear hN HW
  by_cases hb1 : 2 ≤ pb
  · have hb1a : decide (2 ≤ pb) = true := decide_eq_true hb1
    by_cases hb2 : pb ≤ 256
    · have hb2a : decide (pb ≤ 256) = true := decide_eq_true hb2
      obtain ⟨b, rfl⟩ : ∃ b : Nat, pb = (b : Int) := ⟨pb.toNat, by omega⟩
      have hand : bits .and .i64 (b : Int) ((b : Int) - 1) = ((b &&& (b - 1) : Nat) : Int) := by
        have := bits_and_i64_nat b (b - 1) (by omega) (by omega)
        rw [show ((b - 1 : Nat) : Int) = (b : Int) - 1 by omega] at this
        exact this
      have hp2 := p2_and b (by omega) (by omega)
      obtain ⟨x, hx⟩ : ∃ x, x = b &&& (b - 1) := ⟨_, rfl⟩
      rw [← hx] at hand hp2
      have hbI : (b : Int) ≤ 256 := hb2
      have hb0' : (2 : Int) ≤ (b : Int) := hb1
      clear hx hb1 hb2
      by_cases hz : x = 0
      · subst hz
        have HB : Hid (isP2 (b : Int) = true) := hid (by rw [← hp2]; rfl)
        clear hp2
        by_cases hu1 : pu = 1
        · subst hu1
          have HU : Hid (isP1 1 = true) := hid (by decide)
          by_cases hq1 : 1 ≤ pq
          · have hqa : decide (1 ≤ pq) = true := decide_eq_true hq1
            have hqa0 : decide (0 < pq) = true := decide_eq_true (by omega)
            by_cases hq2 : pq ≤ 64
            · have hqb : decide (pq ≤ 64) = true := decide_eq_true hq2
              obtain rfl : R = true := by rw [HR.out]; unfold paramsW; simp [HB.out, HU.out, hq1, hq2]
              clear hq1 hq2
              go_wp2_with fail
              go_ret
              exact ⟨rfl, HX0.out⟩
            · have hqb : decide (pq ≤ 64) = false := decide_eq_false hq2
              obtain rfl : R = false := by rw [HR.out]; unfold paramsW; simp [HB.out, HU.out, hq1, hq2]
              clear hq1 hq2
              go_wp2_with fail
              go_ret
              exact ⟨rfl, HX0.out⟩
          · have hqa : decide (1 ≤ pq) = false := decide_eq_false hq1
            have hqa0 : decide (0 < pq) = false := decide_eq_false (by omega)
            obtain rfl : R = false := by rw [HR.out]; unfold paramsW; simp [HB.out, HU.out, hq1]
            clear hq1
            go_wp2_with fail
            go_ret
            exact ⟨rfl, HX0.out⟩
        · skip
          by_cases hu2 : pu = 2
          · subst hu2
            have HU : Hid (isP1 2 = true) := hid (by decide)
            by_cases hq1 : 1 ≤ pq
            · have hqa : decide (1 ≤ pq) = true := decide_eq_true hq1
              have hqa0 : decide (0 < pq) = true := decide_eq_true (by omega)
              by_cases hq2 : pq ≤ 64
              · have hqb : decide (pq ≤ 64) = true := decide_eq_true hq2
                obtain rfl : R = true := by rw [HR.out]; unfold paramsW; simp [HB.out, HU.out, hq1, hq2]
                clear hq1 hq2
                go_wp2_with fail
                go_ret
                exact ⟨rfl, HX0.out⟩
              · have hqb : decide (pq ≤ 64) = false := decide_eq_false hq2
                obtain rfl : R = false := by rw [HR.out]; unfold paramsW; simp [HB.out, HU.out, hq1, hq2]
                clear hq1 hq2
                go_wp2_with fail
                go_ret
                exact ⟨rfl, HX0.out⟩
            · have hqa : decide (1 ≤ pq) = false := decide_eq_false hq1
              have hqa0 : decide (0 < pq) = false := decide_eq_false (by omega)
              obtain rfl : R = false := by rw [HR.out]; unfold paramsW; simp [HB.out, HU.out, hq1]
              clear hq1
              go_wp2_with fail
              go_ret
              exact ⟨rfl, HX0.out⟩
          · skip
            by_cases hu4 : pu = 4
            · subst hu4
              have HU : Hid (isP1 4 = true) := hid (by decide)
              by_cases hq1 : 1 ≤ pq
              · have hqa : decide (1 ≤ pq) = true := decide_eq_true hq1
                have hqa0 : decide (0 < pq) = true := decide_eq_true (by omega)
                by_cases hq2 : pq ≤ 64
                · have hqb : decide (pq ≤ 64) = true := decide_eq_true hq2
                  obtain rfl : R = true := by rw [HR.out]; unfold paramsW; simp [HB.out, HU.out, hq1, hq2]
                  clear hq1 hq2
                  go_wp2_with fail
                  go_ret
                  exact ⟨rfl, HX0.out⟩
                · have hqb : decide (pq ≤ 64) = false := decide_eq_false hq2
                  obtain rfl : R = false := by rw [HR.out]; unfold paramsW; simp [HB.out, HU.out, hq1, hq2]
                  clear hq1 hq2
                  go_wp2_with fail
                  go_ret
                  exact ⟨rfl, HX0.out⟩
              · have hqa : decide (1 ≤ pq) = false := decide_eq_false hq1
                have hqa0 : decide (0 < pq) = false := decide_eq_false (by omega)
                obtain rfl : R = false := by rw [HR.out]; unfold paramsW; simp [HB.out, HU.out, hq1]
                clear hq1
                go_wp2_with fail
                go_ret
                exact ⟨rfl, HX0.out⟩
            · skip
              by_cases hu8 : pu = 8
              · subst hu8
                have HU : Hid (isP1 8 = true) := hid (by decide)
                by_cases hq1 : 1 ≤ pq
                · have hqa : decide (1 ≤ pq) = true := decide_eq_true hq1
                  have hqa0 : decide (0 < pq) = true := decide_eq_true (by omega)
                  by_cases hq2 : pq ≤ 64
                  · have hqb : decide (pq ≤ 64) = true := decide_eq_true hq2
                    obtain rfl : R = true := by rw [HR.out]; unfold paramsW; simp [HB.out, HU.out, hq1, hq2]
                    clear hq1 hq2
                    go_wp2_with fail
                    go_ret
                    exact ⟨rfl, HX0.out⟩
                  · have hqb : decide (pq ≤ 64) = false := decide_eq_false hq2
                    obtain rfl : R = false := by rw [HR.out]; unfold paramsW; simp [HB.out, HU.out, hq1, hq2]
                    clear hq1 hq2
                    go_wp2_with fail
                    go_ret
                    exact ⟨rfl, HX0.out⟩
                · have hqa : decide (1 ≤ pq) = false := decide_eq_false hq1
                  have hqa0 : decide (0 < pq) = false := decide_eq_false (by omega)
                  obtain rfl : R = false := by rw [HR.out]; unfold paramsW; simp [HB.out, HU.out, hq1]
                  clear hq1
                  go_wp2_with fail
                  go_ret
                  exact ⟨rfl, HX0.out⟩
              · skip
                have hu1a : decide (pu = 1) = false := decide_eq_false hu1
                have hu1b : (pu == 1) = false := by rw [beq_eq_false_iff_ne]; exact hu1
                have hu2a : decide (pu = 2) = false := decide_eq_false hu2
                have hu2b : (pu == 2) = false := by rw [beq_eq_false_iff_ne]; exact hu2
                have hu4a : decide (pu = 4) = false := decide_eq_false hu4
                have hu4b : (pu == 4) = false := by rw [beq_eq_false_iff_ne]; exact hu4
                have hu8a : decide (pu = 8) = false := decide_eq_false hu8
                have hu8b : (pu == 8) = false := by rw [beq_eq_false_iff_ne]; exact hu8
                have HU : Hid (isP1 pu = false) := hid (isP1_no hu1 hu2 hu4 hu8)
                clear hu1 hu2 hu4 hu8
                obtain rfl : R = false := by rw [HR.out]; unfold paramsW; simp [HB.out, HU.out]
                go_wp2_with fail
                go_ret
                exact ⟨rfl, HX0.out⟩
      · have hza : decide ((x : Int) = 0) = false := decide_eq_false (by omega)
        have hzb : ((x : Int) == 0) = false := by rw [beq_eq_false_iff_ne]; omega
        have hzc : decide (x = 0) = false := decide_eq_false hz
        have HB : Hid (isP2 (b : Int) = false) := hid (by rw [← hp2]; exact hzc)
        clear hp2 hz
        by_cases hu1 : pu = 1
        · subst hu1
          have HU : Hid (isP1 1 = true) := hid (by decide)
          obtain rfl : R = false := by rw [HR.out]; unfold paramsW; simp [HB.out, HU.out]
          go_wp2_with fail
          go_ret
          exact ⟨rfl, HX0.out⟩
        · skip
          by_cases hu2 : pu = 2
          · subst hu2
            have HU : Hid (isP1 2 = true) := hid (by decide)
            obtain rfl : R = false := by rw [HR.out]; unfold paramsW; simp [HB.out, HU.out]
            go_wp2_with fail
            go_ret
            exact ⟨rfl, HX0.out⟩
          · skip
            by_cases hu4 : pu = 4
            · subst hu4
              have HU : Hid (isP1 4 = true) := hid (by decide)
              obtain rfl : R = false := by rw [HR.out]; unfold paramsW; simp [HB.out, HU.out]
              go_wp2_with fail
              go_ret
              exact ⟨rfl, HX0.out⟩
            · skip
              by_cases hu8 : pu = 8
              · subst hu8
                have HU : Hid (isP1 8 = true) := hid (by decide)
                obtain rfl : R = false := by rw [HR.out]; unfold paramsW; simp [HB.out, HU.out]
                go_wp2_with fail
                go_ret
                exact ⟨rfl, HX0.out⟩
              · skip
                have hu1a : decide (pu = 1) = false := decide_eq_false hu1
                have hu1b : (pu == 1) = false := by rw [beq_eq_false_iff_ne]; exact hu1
                have hu2a : decide (pu = 2) = false := decide_eq_false hu2
                have hu2b : (pu == 2) = false := by rw [beq_eq_false_iff_ne]; exact hu2
                have hu4a : decide (pu = 4) = false := decide_eq_false hu4
                have hu4b : (pu == 4) = false := by rw [beq_eq_false_iff_ne]; exact hu4
                have hu8a : decide (pu = 8) = false := decide_eq_false hu8
                have hu8b : (pu == 8) = false := by rw [beq_eq_false_iff_ne]; exact hu8
                have HU : Hid (isP1 pu = false) := hid (isP1_no hu1 hu2 hu4 hu8)
                clear hu1 hu2 hu4 hu8
                obtain rfl : R = false := by rw [HR.out]; unfold paramsW; simp [HB.out, HU.out]
                go_wp2_with fail
                go_ret
                exact ⟨rfl, HX0.out⟩
    · have hb2a : decide (pb ≤ 256) = false := decide_eq_false hb2
      have HB : Hid (isP2 pb = false) := hid (Bool.eq_false_iff.2 fun h => hb2 (p2_range h).2)
      clear hb1 hb2
      by_cases hu1 : pu = 1
      · subst hu1
        have HU : Hid (isP1 1 = true) := hid (by decide)
        obtain rfl : R = false := by rw [HR.out]; unfold paramsW; simp [HB.out, HU.out]
        go_wp2_with fail
        go_ret
        exact ⟨rfl, HX0.out⟩
      · skip
        by_cases hu2 : pu = 2
        · subst hu2
          have HU : Hid (isP1 2 = true) := hid (by decide)
          obtain rfl : R = false := by rw [HR.out]; unfold paramsW; simp [HB.out, HU.out]
          go_wp2_with fail
          go_ret
          exact ⟨rfl, HX0.out⟩
        · skip
          by_cases hu4 : pu = 4
          · subst hu4
            have HU : Hid (isP1 4 = true) := hid (by decide)
            obtain rfl : R = false := by rw [HR.out]; unfold paramsW; simp [HB.out, HU.out]
            go_wp2_with fail
            go_ret
            exact ⟨rfl, HX0.out⟩
          · skip
            by_cases hu8 : pu = 8
            · subst hu8
              have HU : Hid (isP1 8 = true) := hid (by decide)
              obtain rfl : R = false := by rw [HR.out]; unfold paramsW; simp [HB.out, HU.out]
              go_wp2_with fail
              go_ret
              exact ⟨rfl, HX0.out⟩
            · skip
              have hu1a : decide (pu = 1) = false := decide_eq_false hu1
              have hu1b : (pu == 1) = false := by rw [beq_eq_false_iff_ne]; exact hu1
              have hu2a : decide (pu = 2) = false := decide_eq_false hu2
              have hu2b : (pu == 2) = false := by rw [beq_eq_false_iff_ne]; exact hu2
              have hu4a : decide (pu = 4) = false := decide_eq_false hu4
              have hu4b : (pu == 4) = false := by rw [beq_eq_false_iff_ne]; exact hu4
              have hu8a : decide (pu = 8) = false := decide_eq_false hu8
              have hu8b : (pu == 8) = false := by rw [beq_eq_false_iff_ne]; exact hu8
              have HU : Hid (isP1 pu = false) := hid (isP1_no hu1 hu2 hu4 hu8)
              clear hu1 hu2 hu4 hu8
              obtain rfl : R = false := by rw [HR.out]; unfold paramsW; simp [HB.out, HU.out]
              go_wp2_with fail
              go_ret
              exact ⟨rfl, HX0.out⟩
  · have hb1a : decide (2 ≤ pb) = false := decide_eq_false hb1
    have HB : Hid (isP2 pb = false) := hid (Bool.eq_false_iff.2 fun h => hb1 (p2_range h).1)
    clear hb1
    by_cases hu1 : pu = 1
    · subst hu1
      have HU : Hid (isP1 1 = true) := hid (by decide)
      obtain rfl : R = false := by rw [HR.out]; unfold paramsW; simp [HB.out, HU.out]
      go_wp2_with fail
      go_ret
      exact ⟨rfl, HX0.out⟩
    · skip
      by_cases hu2 : pu = 2
      · subst hu2
        have HU : Hid (isP1 2 = true) := hid (by decide)
        obtain rfl : R = false := by rw [HR.out]; unfold paramsW; simp [HB.out, HU.out]
        go_wp2_with fail
        go_ret
        exact ⟨rfl, HX0.out⟩
      · skip
        by_cases hu4 : pu = 4
        · subst hu4
          have HU : Hid (isP1 4 = true) := hid (by decide)
          obtain rfl : R = false := by rw [HR.out]; unfold paramsW; simp [HB.out, HU.out]
          go_wp2_with fail
          go_ret
          exact ⟨rfl, HX0.out⟩
        · skip
          by_cases hu8 : pu = 8
          · subst hu8
            have HU : Hid (isP1 8 = true) := hid (by decide)
            obtain rfl : R = false := by rw [HR.out]; unfold paramsW; simp [HB.out, HU.out]
            go_wp2_with fail
            go_ret
            exact ⟨rfl, HX0.out⟩
          · skip
            have hu1a : decide (pu = 1) = false := decide_eq_false hu1
            have hu1b : (pu == 1) = false := by rw [beq_eq_false_iff_ne]; exact hu1
            have hu2a : decide (pu = 2) = false := decide_eq_false hu2
            have hu2b : (pu == 2) = false := by rw [beq_eq_false_iff_ne]; exact hu2
            have hu4a : decide (pu = 4) = false := decide_eq_false hu4
            have hu4b : (pu == 4) = false := by rw [beq_eq_false_iff_ne]; exact hu4
            have hu8a : decide (pu = 8) = false := decide_eq_false hu8
            have hu8b : (pu == 8) = false := by rw [beq_eq_false_iff_ne]; exact hu8
            have HU : Hid (isP1 pu = false) := hid (isP1_no hu1 hu2 hu4 hu8)
            clear hu1 hu2 hu4 hu8
            obtain rfl : R = false := by rw [HR.out]; unfold paramsW; simp [HB.out, HU.out]
            go_wp2_with fail
            go_ret
            exact ⟨rfl, HX0.out⟩
def anyB (b : Int) (k : Nat) : Bool := (List.range k).any fun j => decide (b = 2 ^ (j + 1))
def anyU (b : Int) (k : Nat) : Bool := (List.range k).any fun j => decide (b = 2 ^ j)
theorem anyB_succ (b : Int) (k : Nat) : anyB b (k + 1) = (anyB b k || decide (b = 2 ^ (k + 1))) := by unfold anyB; rw [List.range_succ, List.any_append]; simp
theorem anyU_succ (b : Int) (k : Nat) : anyU b (k + 1) = (anyU b k || decide (b = 2 ^ k)) := by unfold anyU; rw [List.range_succ, List.any_append]; simp
set_option maxRecDepth 100000 in
set_option maxHeartbeats 12800000 in
theorem rParams_any (pb pu pq : Int) (w : World) : Calls Tryz.prog 70 #[.agg #[.int .i64 pb, .int .i64 pu, .int .i64 pq]] w fun e w' => e = .returned (.bool (paramsW pb pu pq)) ∧ Ext w w' := by
  obtain ⟨N, hN⟩ : ∃ N, N = w.heap.size := ⟨_, rfl⟩
  obtain ⟨w0, hw0⟩ : ∃ w0, w0 = w.alloc (.cells #[.int .i64 pb, .int .i64 pu, .int .i64 pq] 43) := ⟨_, rfl⟩
  have hx0 : Ext w w0 := by rw [hw0]; exact (Ext.refl w).alloc _
  have hb0 : w0.heap[N]? = some (.cells #[.int .i64 pb, .int .i64 pu, .int .i64 pq] 43 (0, 0)) := by rw [hw0, hN]; exact heap_new _ _
  have HX0 := hid hx0
  have HW := hid hw0
  have HB0 := hid hb0
  have HC : Hid (∀ u, Ext w0 u → u.cell? ⟨N, 0, none⟩ = some (.int .i64 pb) ∧ u.cell? ⟨N, 1, none⟩ = some (.int .i64 pu) ∧ u.cell? ⟨N, 2, none⟩ = some (.int .i64 pq)) := hid fun u k => ⟨cell_of (k.heap_some hb0) 0, cell_of (k.heap_some hb0) 1, cell_of (k.heap_some hb0) 2⟩
  clear hw0 hx0 hb0
  obtain ⟨R, hR⟩ : ∃ R, R = paramsW pb pu pq := ⟨_, rfl⟩
  rw [← hR]
  have HRR := hid hR
  clear hR
  go_enter Tryz.func70, Tryz.ntmps70
  go_upto_region 1 with fail
  rw [← HW.out, ← hN]
  clear hN HW
  go_wp2_with fail
  go_loopw [3, 5] (fun bv iv wr => ∃ k m : Nat, k ≤ 8 ∧ bv = .bool (anyB pb k) ∧ iv = .int .i64 (m : Int) ∧ m ≤ 512 ∧ Hid (m = 2 ^ (k + 1) ∧ Ext w0 wr)) (fun _ iv _ => 512 - (intOf iv).toNat)
  case atStart => exact ⟨0, 2, by omega, rfl, rfl, by omega, hid ⟨rfl, Ext.refl w0⟩⟩
  case round =>
    obtain ⟨k, m, hk, rfl, rfl, hm, HI⟩ := hrel
    have hm0 : (0 : Int) ≤ (m : Int) := Int.natCast_nonneg _
    have hmI : (m : Int) ≤ 512 := by omega
    obtain ⟨c0, c1, c2⟩ := HC.out wr HI.out.2
    by_cases hlt : m ≤ 256
    · have hltB : decide ((m : Int) ≤ 256) = true := decide_eq_true (by omega)
      have hltB2 : decide (m ≤ 256) = true := decide_eq_true hlt
      have hmp : 0 < m := by rw [HI.out.1]; exact Nat.two_pow_pos _
      have hk1 : k < 8 := by
        rcases Nat.lt_or_ge k 8 with h | h
        · exact h
        · have h2 := HI.out.1
          have h3 : 2 ^ 9 ≤ 2 ^ (k + 1) := Nat.pow_le_pow_right (by omega) (by omega)
          omega
      have HM2 : Hid (2 * m = 2 ^ (k + 1 + 1)) := hid (by rw [HI.out.1, Nat.pow_succ _ (k + 1), Nat.mul_comm])
      have HS := hid (anyB_succ pb k)
      have hp : (2 : Int) ^ (k + 1) = (m : Int) := by rw [HI.out.1]; push_cast; rfl
      rw [hp] at HS
      obtain ⟨a, ha⟩ : ∃ a, a = anyB pb k := ⟨_, rfl⟩
      rw [← ha] at HS ⊢
      clear ha hp
      cases a with
      | true =>
        have HS2 : Hid (anyB pb (k + 1) = true) := hid (by rw [HS.out]; rfl)
        clear HS
        go_wp2_with fail
        go_roundw
        case rel => exact ⟨k + 1, 2 * m, by omega, by rw [HS2.out], by go_num, by omega, hid ⟨HM2.out, HI.out.2⟩⟩
        case measure => simp [intOf]; omega
      | false =>
        by_cases he : pb = (m : Int)
        · have hea : decide (pb = (m : Int)) = true := decide_eq_true he
          have heb : (pb == (m : Int)) = true := by rw [beq_iff_eq]; exact he
          have HS2 : Hid (anyB pb (k + 1) = true) := hid (by rw [HS.out, hea]; rfl)
          clear he HS
          go_wp2_with fail
          go_roundw
          case rel => exact ⟨k + 1, 2 * m, by omega, by rw [HS2.out], by go_num, by omega, hid ⟨HM2.out, HI.out.2⟩⟩
          case measure => simp [intOf]; omega
        · have hea : decide (pb = (m : Int)) = false := decide_eq_false he
          have heb : (pb == (m : Int)) = false := by rw [beq_eq_false_iff_ne]; exact he
          have HS2 : Hid (anyB pb (k + 1) = false) := hid (by rw [HS.out, hea]; rfl)
          clear he HS
          go_wp2_with fail
          go_roundw
          case rel => exact ⟨k + 1, 2 * m, by omega, by rw [HS2.out], by go_num, by omega, hid ⟨HM2.out, HI.out.2⟩⟩
          case measure => simp [intOf]; omega
    · have hltB : decide ((m : Int) ≤ 256) = false := decide_eq_false (by omega)
      have hltB2 : decide (m ≤ 256) = false := decide_eq_false hlt
      obtain rfl : k = 8 := by
        rcases Nat.lt_or_ge k 8 with h | h
        · exfalso
          have h2 := HI.out.1
          have h3 : 2 ^ (k + 1) ≤ 2 ^ 8 := Nat.pow_le_pow_right (by omega) (by omega)
          omega
        · omega
      have XB := hid HI.out.2
      obtain ⟨BB, hBB⟩ : ∃ BB, BB = anyB pb 8 := ⟨_, rfl⟩
      rw [← hBB]
      have HBB := hid hBB
      clear hBB c0 c1 c2 HI hm hm0 hmI hlt hk
      go_wp2_with fail
      clear hltB hltB2
      go_loopw [4, 6] (fun bv iv wr => ∃ k m : Nat, k ≤ 4 ∧ bv = .bool (anyU pu k) ∧ iv = .int .i64 (m : Int) ∧ m ≤ 16 ∧ Hid (m = 2 ^ k ∧ Ext w0 wr)) (fun _ iv _ => 16 - (intOf iv).toNat)
      case atStart => exact ⟨0, 1, by omega, rfl, rfl, by omega, hid ⟨rfl, XB.out⟩⟩
      case round =>
        obtain ⟨k, m, hk, rfl, rfl, hm, HI⟩ := hrel
        have hm0 : (0 : Int) ≤ (m : Int) := Int.natCast_nonneg _
        have hmI : (m : Int) ≤ 16 := by omega
        obtain ⟨c0, c1, c2⟩ := HC.out wr HI.out.2
        by_cases hlt : m ≤ 8
        · have hltB : decide ((m : Int) ≤ 8) = true := decide_eq_true (by omega)
          have hltB2 : decide (m ≤ 8) = true := decide_eq_true hlt
          have hmp : 0 < m := by rw [HI.out.1]; exact Nat.two_pow_pos _
          have hk1 : k < 4 := by
            rcases Nat.lt_or_ge k 4 with h | h
            · exact h
            · have h2 := HI.out.1
              have h3 : 2 ^ 4 ≤ 2 ^ k := Nat.pow_le_pow_right (by omega) (by omega)
              omega
          have HM2 : Hid (2 * m = 2 ^ (k + 1)) := hid (by rw [HI.out.1, Nat.pow_succ _ k, Nat.mul_comm])
          have HS := hid (anyU_succ pu k)
          have hp : (2 : Int) ^ k = (m : Int) := by rw [HI.out.1]; push_cast; rfl
          rw [hp] at HS
          obtain ⟨a, ha⟩ : ∃ a, a = anyU pu k := ⟨_, rfl⟩
          rw [← ha] at HS ⊢
          clear ha hp
          cases a with
          | true =>
            have HS2 : Hid (anyU pu (k + 1) = true) := hid (by rw [HS.out]; rfl)
            clear HS
            go_wp2_with fail
            go_roundw
            case rel => exact ⟨k + 1, 2 * m, by omega, by rw [HS2.out], by go_num, by omega, hid ⟨HM2.out, HI.out.2⟩⟩
            case measure => simp [intOf]; omega
          | false =>
            by_cases he : pu = (m : Int)
            · have hea : decide (pu = (m : Int)) = true := decide_eq_true he
              have heb : (pu == (m : Int)) = true := by rw [beq_iff_eq]; exact he
              have HS2 : Hid (anyU pu (k + 1) = true) := hid (by rw [HS.out, hea]; rfl)
              clear he HS
              go_wp2_with fail
              go_roundw
              case rel => exact ⟨k + 1, 2 * m, by omega, by rw [HS2.out], by go_num, by omega, hid ⟨HM2.out, HI.out.2⟩⟩
              case measure => simp [intOf]; omega
            · have hea : decide (pu = (m : Int)) = false := decide_eq_false he
              have heb : (pu == (m : Int)) = false := by rw [beq_eq_false_iff_ne]; exact he
              have HS2 : Hid (anyU pu (k + 1) = false) := hid (by rw [HS.out, hea]; rfl)
              clear he HS
              go_wp2_with fail
              go_roundw
              case rel => exact ⟨k + 1, 2 * m, by omega, by rw [HS2.out], by go_num, by omega, hid ⟨HM2.out, HI.out.2⟩⟩
              case measure => simp [intOf]; omega
        · have hltB : decide ((m : Int) ≤ 8) = false := decide_eq_false (by omega)
          have hltB2 : decide (m ≤ 8) = false := decide_eq_false hlt
          obtain rfl : k = 4 := by
            rcases Nat.lt_or_ge k 4 with h | h
            · exfalso
              have h2 := HI.out.1
              have h3 : 2 ^ k ≤ 2 ^ 3 := Nat.pow_le_pow_right (by omega) (by omega)
              omega
            · omega
          have XU := hid HI.out.2
          obtain ⟨UU, hUU⟩ : ∃ UU, UU = anyU pu 4 := ⟨_, rfl⟩
          rw [← hUU]
          have HUU := hid hUU
          have HR : Hid (R = (BB && UU && (decide (1 ≤ pq) && decide (pq ≤ 64)))) := hid (by rw [HRR.out, HBB.out, hUU]; rfl)
          clear hUU HI hm hm0 hmI hlt hk
          cases BB with
          | false =>
            obtain rfl : R = false := by rw [HR.out]; rfl
            go_wp2_with fail
            go_ret
            exact ⟨rfl, HX0.out.trans XU.out⟩
          | true =>
            cases UU with
            | false =>
              obtain rfl : R = false := by rw [HR.out]; rfl
              go_wp2_with fail
              go_ret
              exact ⟨rfl, HX0.out.trans XU.out⟩
            | true =>
              by_cases hq1 : 1 ≤ pq
              · have hqa : decide (1 ≤ pq) = true := decide_eq_true hq1
                by_cases hq2 : pq ≤ 64
                · have hqb : decide (pq ≤ 64) = true := decide_eq_true hq2
                  obtain rfl : R = true := by rw [HR.out, hqa, hqb]; rfl
                  clear hq1 hq2
                  go_wp2_with fail
                  go_ret
                  exact ⟨rfl, HX0.out.trans XU.out⟩
                · have hqb : decide (pq ≤ 64) = false := decide_eq_false hq2
                  obtain rfl : R = false := by rw [HR.out, hqa, hqb]; rfl
                  clear hq1 hq2
                  go_wp2_with fail
                  go_ret
                  exact ⟨rfl, HX0.out.trans XU.out⟩
              · have hqa : decide (1 ≤ pq) = false := decide_eq_false hq1
                obtain rfl : R = false := by rw [HR.out, hqa]; rfl
                clear hq1
                go_wp2_with fail
                go_ret
                exact ⟨rfl, HX0.out.trans XU.out⟩
def goodR (r : Rl) : Prop := 1 ≤ r.mode ∧ r.mode ≤ 3 ∧ 1 ≤ r.depth ∧ r.depth ≤ 12 ∧ 1 ≤ r.window ∧ r.window ≤ 100 ∧ 1 ≤ r.finality ∧ r.finality ≤ 1048576 ∧ r.reward.toNat ≤ 4294967296 ∧ 1 ≤ r.work.toNat ∧ r.work.toNat ≤ 65536
instance (r : Rl) : Decidable (goodR r) := by unfold goodR; infer_instance
/-- What Rules answers. -/
def rulesW (r : Rl) : Int := if goodR r ∧ (r.mode = 1 → paramsW r.pb r.pu r.pq = true) then 0 else 1
set_option maxRecDepth 100000 in
set_option maxHeartbeats 51200000 in
theorem txRules_any (r : Rl) (hpb : r.pb ≤ 9223372036854775807) (w : World) : Calls Tryz.prog 66 #[rlVal r] w fun e w' => e = .returned (.int .i64 (rulesW r)) ∧ Ext w w' := by
  obtain ⟨R, hR⟩ : ∃ R, R = rulesW r := ⟨_, rfl⟩
  rw [← hR]
  have HR := hid hR
  have HPB := hid hpb
  clear hR hpb
  obtain ⟨mode, depth, pb, pu, pq, reward, window, finality, work⟩ := r
  unfold rlVal
  simp only at HPB ⊢
  obtain ⟨N, hN⟩ : ∃ N, N = w.heap.size := ⟨_, rfl⟩
  obtain ⟨w0, hw0⟩ : ∃ w0, w0 = w.alloc (.cells #[.int .i64 mode, .int .i64 depth, .int .i64 pb, .int .i64 pu, .int .i64 pq, uv reward, .int .i64 window, .int .i64 finality, uv work] 45) := ⟨_, rfl⟩
  have hx0 : Ext w w0 := by rw [hw0]; exact (Ext.refl w).alloc _
  have hb0 : w0.heap[N]? = some (.cells #[.int .i64 mode, .int .i64 depth, .int .i64 pb, .int .i64 pu, .int .i64 pq, uv reward, .int .i64 window, .int .i64 finality, uv work] 45 (0, 0)) := by rw [hw0, hN]; exact heap_new _ _
  have HX0 := hid hx0
  have HW := hid hw0
  have PC := hid (txParams_any pb pu pq HPB.out)
  obtain ⟨c0, c1, c2, c3, c4, c5, c6, c7, c8⟩ := nine_cells hb0
  clear hw0 hx0 hb0
  go_enter Tryz.func66, Tryz.ntmps66
  go_upto_region 1 with fail
  rw [← HW.out, ← hN]
  clear hN HW
  by_cases hk0 : 1 ≤ mode
  case neg =>
    have hc0a : decide (1 ≤ mode) = false := decide_eq_false (by omega)
    have hc0b : decide (mode < 1) = true := decide_eq_true (by omega)
    have hc0c : decide (0 < mode) = false := decide_eq_false (by omega)
    have hc0d : decide (mode ≤ 0) = true := decide_eq_true (by omega)
    obtain rfl : R = 1 := by
      rw [HR.out]
      unfold rulesW goodR
      rw [if_neg]
      rintro ⟨⟨g0, g1, g2, g3, g4, g5, g6, g7, g8, g9, g10⟩, -⟩
      exact hk0 g0
    clear hk0
    go_wp2_with fail
    go_ret
    exact ⟨rfl, HX0.out⟩
  have hc0a : decide (1 ≤ mode) = true := decide_eq_true (by omega)
  have hc0b : decide (mode < 1) = false := decide_eq_false (by omega)
  have hc0c : decide (0 < mode) = true := decide_eq_true (by omega)
  have hc0d : decide (mode ≤ 0) = false := decide_eq_false (by omega)
  by_cases hk1 : mode ≤ 3
  case neg =>
    have hc1a : decide (mode ≤ 3) = false := decide_eq_false (by omega)
    have hc1b : decide (3 < mode) = true := decide_eq_true (by omega)
    obtain rfl : R = 1 := by
      rw [HR.out]
      unfold rulesW goodR
      rw [if_neg]
      rintro ⟨⟨g0, g1, g2, g3, g4, g5, g6, g7, g8, g9, g10⟩, -⟩
      exact hk1 g1
    clear hk0 hk1
    go_wp2_with fail
    go_ret
    exact ⟨rfl, HX0.out⟩
  have hc1a : decide (mode ≤ 3) = true := decide_eq_true (by omega)
  have hc1b : decide (3 < mode) = false := decide_eq_false (by omega)
  by_cases hk2 : 1 ≤ depth
  case neg =>
    have hc2a : decide (1 ≤ depth) = false := decide_eq_false (by omega)
    have hc2b : decide (depth < 1) = true := decide_eq_true (by omega)
    have hc2c : decide (0 < depth) = false := decide_eq_false (by omega)
    have hc2d : decide (depth ≤ 0) = true := decide_eq_true (by omega)
    obtain rfl : R = 1 := by
      rw [HR.out]
      unfold rulesW goodR
      rw [if_neg]
      rintro ⟨⟨g0, g1, g2, g3, g4, g5, g6, g7, g8, g9, g10⟩, -⟩
      exact hk2 g2
    clear hk0 hk1 hk2
    go_wp2_with fail
    go_ret
    exact ⟨rfl, HX0.out⟩
  have hc2a : decide (1 ≤ depth) = true := decide_eq_true (by omega)
  have hc2b : decide (depth < 1) = false := decide_eq_false (by omega)
  have hc2c : decide (0 < depth) = true := decide_eq_true (by omega)
  have hc2d : decide (depth ≤ 0) = false := decide_eq_false (by omega)
  by_cases hk3 : depth ≤ 12
  case neg =>
    have hc3a : decide (depth ≤ 12) = false := decide_eq_false (by omega)
    have hc3b : decide (12 < depth) = true := decide_eq_true (by omega)
    obtain rfl : R = 1 := by
      rw [HR.out]
      unfold rulesW goodR
      rw [if_neg]
      rintro ⟨⟨g0, g1, g2, g3, g4, g5, g6, g7, g8, g9, g10⟩, -⟩
      exact hk3 g3
    clear hk0 hk1 hk2 hk3
    go_wp2_with fail
    go_ret
    exact ⟨rfl, HX0.out⟩
  have hc3a : decide (depth ≤ 12) = true := decide_eq_true (by omega)
  have hc3b : decide (12 < depth) = false := decide_eq_false (by omega)
  by_cases hk4 : 1 ≤ window
  case neg =>
    have hc4a : decide (1 ≤ window) = false := decide_eq_false (by omega)
    have hc4b : decide (window < 1) = true := decide_eq_true (by omega)
    have hc4c : decide (0 < window) = false := decide_eq_false (by omega)
    have hc4d : decide (window ≤ 0) = true := decide_eq_true (by omega)
    obtain rfl : R = 1 := by
      rw [HR.out]
      unfold rulesW goodR
      rw [if_neg]
      rintro ⟨⟨g0, g1, g2, g3, g4, g5, g6, g7, g8, g9, g10⟩, -⟩
      exact hk4 g4
    clear hk0 hk1 hk2 hk3 hk4
    go_wp2_with fail
    go_ret
    exact ⟨rfl, HX0.out⟩
  have hc4a : decide (1 ≤ window) = true := decide_eq_true (by omega)
  have hc4b : decide (window < 1) = false := decide_eq_false (by omega)
  have hc4c : decide (0 < window) = true := decide_eq_true (by omega)
  have hc4d : decide (window ≤ 0) = false := decide_eq_false (by omega)
  by_cases hk5 : window ≤ 100
  case neg =>
    have hc5a : decide (window ≤ 100) = false := decide_eq_false (by omega)
    have hc5b : decide (100 < window) = true := decide_eq_true (by omega)
    obtain rfl : R = 1 := by
      rw [HR.out]
      unfold rulesW goodR
      rw [if_neg]
      rintro ⟨⟨g0, g1, g2, g3, g4, g5, g6, g7, g8, g9, g10⟩, -⟩
      exact hk5 g5
    clear hk0 hk1 hk2 hk3 hk4 hk5
    go_wp2_with fail
    go_ret
    exact ⟨rfl, HX0.out⟩
  have hc5a : decide (window ≤ 100) = true := decide_eq_true (by omega)
  have hc5b : decide (100 < window) = false := decide_eq_false (by omega)
  by_cases hk6 : 1 ≤ finality
  case neg =>
    have hc6a : decide (1 ≤ finality) = false := decide_eq_false (by omega)
    have hc6b : decide (finality < 1) = true := decide_eq_true (by omega)
    have hc6c : decide (0 < finality) = false := decide_eq_false (by omega)
    have hc6d : decide (finality ≤ 0) = true := decide_eq_true (by omega)
    obtain rfl : R = 1 := by
      rw [HR.out]
      unfold rulesW goodR
      rw [if_neg]
      rintro ⟨⟨g0, g1, g2, g3, g4, g5, g6, g7, g8, g9, g10⟩, -⟩
      exact hk6 g6
    clear hk0 hk1 hk2 hk3 hk4 hk5 hk6
    go_wp2_with fail
    go_ret
    exact ⟨rfl, HX0.out⟩
  have hc6a : decide (1 ≤ finality) = true := decide_eq_true (by omega)
  have hc6b : decide (finality < 1) = false := decide_eq_false (by omega)
  have hc6c : decide (0 < finality) = true := decide_eq_true (by omega)
  have hc6d : decide (finality ≤ 0) = false := decide_eq_false (by omega)
  by_cases hk7 : finality ≤ 1048576
  case neg =>
    have hc7a : decide (finality ≤ 1048576) = false := decide_eq_false (by omega)
    have hc7b : decide (1048576 < finality) = true := decide_eq_true (by omega)
    obtain rfl : R = 1 := by
      rw [HR.out]
      unfold rulesW goodR
      rw [if_neg]
      rintro ⟨⟨g0, g1, g2, g3, g4, g5, g6, g7, g8, g9, g10⟩, -⟩
      exact hk7 g7
    clear hk0 hk1 hk2 hk3 hk4 hk5 hk6 hk7
    go_wp2_with fail
    go_ret
    exact ⟨rfl, HX0.out⟩
  have hc7a : decide (finality ≤ 1048576) = true := decide_eq_true (by omega)
  have hc7b : decide (1048576 < finality) = false := decide_eq_false (by omega)
  by_cases hk8 : reward.toNat ≤ 4294967296
  case neg =>
    have hc8a : decide ((reward.toNat : Int) ≤ 4294967296) = false := decide_eq_false (by omega)
    have hc8b : decide ((4294967296 : Int) < (reward.toNat : Int)) = true := decide_eq_true (by omega)
    have hc8c : decide (reward.toNat ≤ 4294967296) = false := decide_eq_false (by omega)
    have hc8d : decide (4294967296 < reward.toNat) = true := decide_eq_true (by omega)
    obtain rfl : R = 1 := by
      rw [HR.out]
      unfold rulesW goodR
      rw [if_neg]
      rintro ⟨⟨g0, g1, g2, g3, g4, g5, g6, g7, g8, g9, g10⟩, -⟩
      exact hk8 g8
    clear hk0 hk1 hk2 hk3 hk4 hk5 hk6 hk7 hk8
    go_wp2_with fail
    go_ret
    exact ⟨rfl, HX0.out⟩
  have hc8a : decide ((reward.toNat : Int) ≤ 4294967296) = true := decide_eq_true (by omega)
  have hc8b : decide ((4294967296 : Int) < (reward.toNat : Int)) = false := decide_eq_false (by omega)
  have hc8c : decide (reward.toNat ≤ 4294967296) = true := decide_eq_true (by omega)
  have hc8d : decide (4294967296 < reward.toNat) = false := decide_eq_false (by omega)
  by_cases hk9 : 1 ≤ work.toNat
  case neg =>
    have hc9a : decide ((1 : Int) ≤ (work.toNat : Int)) = false := decide_eq_false (by omega)
    have hc9b : decide ((work.toNat : Int) < 1) = true := decide_eq_true (by omega)
    have hc9c : decide (1 ≤ work.toNat) = false := decide_eq_false (by omega)
    have hc9d : decide (work.toNat < 1) = true := decide_eq_true (by omega)
    have hc9e : decide (0 < work.toNat) = false := decide_eq_false (by omega)
    have hc9f : decide (work.toNat = 0) = true := decide_eq_true (by omega)
    have hc9g : decide ((0 : Int) < (work.toNat : Int)) = false := decide_eq_false (by omega)
    have hc9h : decide ((work.toNat : Int) ≤ 0) = true := decide_eq_true (by omega)
    have hc9i : decide ((work.toNat : Int) = 0) = true := decide_eq_true (by omega)
    obtain rfl : R = 1 := by
      rw [HR.out]
      unfold rulesW goodR
      rw [if_neg]
      rintro ⟨⟨g0, g1, g2, g3, g4, g5, g6, g7, g8, g9, g10⟩, -⟩
      exact hk9 g9
    clear hk0 hk1 hk2 hk3 hk4 hk5 hk6 hk7 hk8 hk9
    go_wp2_with fail
    go_ret
    exact ⟨rfl, HX0.out⟩
  have hc9a : decide ((1 : Int) ≤ (work.toNat : Int)) = true := decide_eq_true (by omega)
  have hc9b : decide ((work.toNat : Int) < 1) = false := decide_eq_false (by omega)
  have hc9c : decide (1 ≤ work.toNat) = true := decide_eq_true (by omega)
  have hc9d : decide (work.toNat < 1) = false := decide_eq_false (by omega)
  have hc9e : decide (0 < work.toNat) = true := decide_eq_true (by omega)
  have hc9f : decide (work.toNat = 0) = false := decide_eq_false (by omega)
  have hc9g : decide ((0 : Int) < (work.toNat : Int)) = true := decide_eq_true (by omega)
  have hc9h : decide ((work.toNat : Int) ≤ 0) = false := decide_eq_false (by omega)
  have hc9i : decide ((work.toNat : Int) = 0) = false := decide_eq_false (by omega)
  by_cases hk10 : work.toNat ≤ 65536
  case neg =>
    have hc10a : decide ((work.toNat : Int) ≤ 65536) = false := decide_eq_false (by omega)
    have hc10b : decide ((65536 : Int) < (work.toNat : Int)) = true := decide_eq_true (by omega)
    have hc10c : decide (work.toNat ≤ 65536) = false := decide_eq_false (by omega)
    have hc10d : decide (65536 < work.toNat) = true := decide_eq_true (by omega)
    obtain rfl : R = 1 := by
      rw [HR.out]
      unfold rulesW goodR
      rw [if_neg]
      rintro ⟨⟨g0, g1, g2, g3, g4, g5, g6, g7, g8, g9, g10⟩, -⟩
      exact hk10 g10
    clear hk0 hk1 hk2 hk3 hk4 hk5 hk6 hk7 hk8 hk9 hk10
    go_wp2_with fail
    go_ret
    exact ⟨rfl, HX0.out⟩
  have hc10a : decide ((work.toNat : Int) ≤ 65536) = true := decide_eq_true (by omega)
  have hc10b : decide ((65536 : Int) < (work.toNat : Int)) = false := decide_eq_false (by omega)
  have hc10c : decide (work.toNat ≤ 65536) = true := decide_eq_true (by omega)
  have hc10d : decide (65536 < work.toNat) = false := decide_eq_false (by omega)
  have HG := hid (show goodR ⟨mode, depth, pb, pu, pq, reward, window, finality, work⟩ from ⟨hk0, hk1, hk2, hk3, hk4, hk5, hk6, hk7, hk8, hk9, hk10⟩)
  clear hk0 hk1 hk2 hk3 hk4 hk5 hk6 hk7 hk8 hk9 hk10
  by_cases hm : mode = 1
  case neg =>
    have hma : decide (mode = 1) = false := decide_eq_false hm
    have hmb : (mode == 1) = false := by rw [beq_eq_false_iff_ne]; exact hm
    obtain rfl : R = 0 := by
      rw [HR.out]
      unfold rulesW
      rw [if_pos ⟨HG.out, fun h => absurd h hm⟩]
    clear hm
    go_wp2_with fail
    go_ret
    exact ⟨rfl, HX0.out⟩
  have HP2 : Hid (R = if paramsW pb pu pq = true then 0 else 1) := hid (by
    rw [HR.out]
    unfold rulesW
    by_cases hp : paramsW pb pu pq = true
    · rw [if_pos ⟨HG.out, fun _ => hp⟩, if_pos hp]
    · rw [if_neg (fun h => hp (h.2 hm)), if_neg hp])
  have hma : decide (mode = 1) = true := decide_eq_true hm
  have hmb : (mode == 1) = true := by rw [beq_iff_eq]; exact hm
  obtain ⟨V, hV⟩ : ∃ V, V = paramsW pb pu pq := ⟨_, rfl⟩
  rw [← hV] at PC HP2
  clear hm hV HR HG
  go_wp2_with fail
  refine (PC.out _).mono ?_
  rintro e w1 ⟨rfl, hx⟩
  have X1 := hid hx
  clear hx PC
  cases V with
  | true =>
    obtain rfl : R = 0 := HP2.out
    go_wp2_with fail
    go_ret
    exact ⟨rfl, HX0.out.trans X1.out⟩
  | false =>
    obtain rfl : R = 1 := HP2.out
    go_wp2_with fail
    go_ret
    exact ⟨rfl, HX0.out.trans X1.out⟩
set_option maxRecDepth 100000 in
set_option maxHeartbeats 51200000 in
theorem rRules_any (r : Rl) (hpb : r.pb ≤ 9223372036854775807) (w : World) : Calls Tryz.prog 28 #[rlVal r] w fun e w' => e = .returned (.int .i64 (rulesW r)) ∧ Ext w w' := by
  obtain ⟨R, hR⟩ : ∃ R, R = rulesW r := ⟨_, rfl⟩
  rw [← hR]
  have HR := hid hR
  have HPB := hid hpb
  clear hR hpb
  obtain ⟨mode, depth, pb, pu, pq, reward, window, finality, work⟩ := r
  unfold rlVal
  simp only at HPB ⊢
  obtain ⟨N, hN⟩ : ∃ N, N = w.heap.size := ⟨_, rfl⟩
  obtain ⟨w0, hw0⟩ : ∃ w0, w0 = w.alloc (.cells #[.int .i64 mode, .int .i64 depth, .int .i64 pb, .int .i64 pu, .int .i64 pq, uv reward, .int .i64 window, .int .i64 finality, uv work] 45) := ⟨_, rfl⟩
  have hx0 : Ext w w0 := by rw [hw0]; exact (Ext.refl w).alloc _
  have hb0 : w0.heap[N]? = some (.cells #[.int .i64 mode, .int .i64 depth, .int .i64 pb, .int .i64 pu, .int .i64 pq, uv reward, .int .i64 window, .int .i64 finality, uv work] 45 (0, 0)) := by rw [hw0, hN]; exact heap_new _ _
  have HX0 := hid hx0
  have HW := hid hw0
  have PC := hid (rParams_any pb pu pq)
  obtain ⟨c0, c1, c2, c3, c4, c5, c6, c7, c8⟩ := nine_cells hb0
  clear hw0 hx0 hb0
  go_enter Tryz.func28, Tryz.ntmps28
  go_upto_region 1 with fail
  rw [← HW.out, ← hN]
  clear hN HW
  by_cases hk0 : 1 ≤ mode
  case neg =>
    have hc0a : decide (1 ≤ mode) = false := decide_eq_false (by omega)
    have hc0b : decide (mode < 1) = true := decide_eq_true (by omega)
    have hc0c : decide (0 < mode) = false := decide_eq_false (by omega)
    have hc0d : decide (mode ≤ 0) = true := decide_eq_true (by omega)
    obtain rfl : R = 1 := by
      rw [HR.out]
      unfold rulesW goodR
      rw [if_neg]
      rintro ⟨⟨g0, g1, g2, g3, g4, g5, g6, g7, g8, g9, g10⟩, -⟩
      exact hk0 g0
    clear hk0
    go_wp2_with fail
    go_ret
    exact ⟨rfl, HX0.out⟩
  have hc0a : decide (1 ≤ mode) = true := decide_eq_true (by omega)
  have hc0b : decide (mode < 1) = false := decide_eq_false (by omega)
  have hc0c : decide (0 < mode) = true := decide_eq_true (by omega)
  have hc0d : decide (mode ≤ 0) = false := decide_eq_false (by omega)
  by_cases hk1 : mode ≤ 3
  case neg =>
    have hc1a : decide (mode ≤ 3) = false := decide_eq_false (by omega)
    have hc1b : decide (3 < mode) = true := decide_eq_true (by omega)
    obtain rfl : R = 1 := by
      rw [HR.out]
      unfold rulesW goodR
      rw [if_neg]
      rintro ⟨⟨g0, g1, g2, g3, g4, g5, g6, g7, g8, g9, g10⟩, -⟩
      exact hk1 g1
    clear hk0 hk1
    go_wp2_with fail
    go_ret
    exact ⟨rfl, HX0.out⟩
  have hc1a : decide (mode ≤ 3) = true := decide_eq_true (by omega)
  have hc1b : decide (3 < mode) = false := decide_eq_false (by omega)
  by_cases hk2 : 1 ≤ depth
  case neg =>
    have hc2a : decide (1 ≤ depth) = false := decide_eq_false (by omega)
    have hc2b : decide (depth < 1) = true := decide_eq_true (by omega)
    have hc2c : decide (0 < depth) = false := decide_eq_false (by omega)
    have hc2d : decide (depth ≤ 0) = true := decide_eq_true (by omega)
    obtain rfl : R = 1 := by
      rw [HR.out]
      unfold rulesW goodR
      rw [if_neg]
      rintro ⟨⟨g0, g1, g2, g3, g4, g5, g6, g7, g8, g9, g10⟩, -⟩
      exact hk2 g2
    clear hk0 hk1 hk2
    go_wp2_with fail
    go_ret
    exact ⟨rfl, HX0.out⟩
  have hc2a : decide (1 ≤ depth) = true := decide_eq_true (by omega)
  have hc2b : decide (depth < 1) = false := decide_eq_false (by omega)
  have hc2c : decide (0 < depth) = true := decide_eq_true (by omega)
  have hc2d : decide (depth ≤ 0) = false := decide_eq_false (by omega)
  by_cases hk3 : depth ≤ 12
  case neg =>
    have hc3a : decide (depth ≤ 12) = false := decide_eq_false (by omega)
    have hc3b : decide (12 < depth) = true := decide_eq_true (by omega)
    obtain rfl : R = 1 := by
      rw [HR.out]
      unfold rulesW goodR
      rw [if_neg]
      rintro ⟨⟨g0, g1, g2, g3, g4, g5, g6, g7, g8, g9, g10⟩, -⟩
      exact hk3 g3
    clear hk0 hk1 hk2 hk3
    go_wp2_with fail
    go_ret
    exact ⟨rfl, HX0.out⟩
  have hc3a : decide (depth ≤ 12) = true := decide_eq_true (by omega)
  have hc3b : decide (12 < depth) = false := decide_eq_false (by omega)
  by_cases hk4 : 1 ≤ window
  case neg =>
    have hc4a : decide (1 ≤ window) = false := decide_eq_false (by omega)
    have hc4b : decide (window < 1) = true := decide_eq_true (by omega)
    have hc4c : decide (0 < window) = false := decide_eq_false (by omega)
    have hc4d : decide (window ≤ 0) = true := decide_eq_true (by omega)
    obtain rfl : R = 1 := by
      rw [HR.out]
      unfold rulesW goodR
      rw [if_neg]
      rintro ⟨⟨g0, g1, g2, g3, g4, g5, g6, g7, g8, g9, g10⟩, -⟩
      exact hk4 g4
    clear hk0 hk1 hk2 hk3 hk4
    go_wp2_with fail
    go_ret
    exact ⟨rfl, HX0.out⟩
  have hc4a : decide (1 ≤ window) = true := decide_eq_true (by omega)
  have hc4b : decide (window < 1) = false := decide_eq_false (by omega)
  have hc4c : decide (0 < window) = true := decide_eq_true (by omega)
  have hc4d : decide (window ≤ 0) = false := decide_eq_false (by omega)
  by_cases hk5 : window ≤ 100
  case neg =>
    have hc5a : decide (window ≤ 100) = false := decide_eq_false (by omega)
    have hc5b : decide (100 < window) = true := decide_eq_true (by omega)
    obtain rfl : R = 1 := by
      rw [HR.out]
      unfold rulesW goodR
      rw [if_neg]
      rintro ⟨⟨g0, g1, g2, g3, g4, g5, g6, g7, g8, g9, g10⟩, -⟩
      exact hk5 g5
    clear hk0 hk1 hk2 hk3 hk4 hk5
    go_wp2_with fail
    go_ret
    exact ⟨rfl, HX0.out⟩
  have hc5a : decide (window ≤ 100) = true := decide_eq_true (by omega)
  have hc5b : decide (100 < window) = false := decide_eq_false (by omega)
  by_cases hk6 : 1 ≤ finality
  case neg =>
    have hc6a : decide (1 ≤ finality) = false := decide_eq_false (by omega)
    have hc6b : decide (finality < 1) = true := decide_eq_true (by omega)
    have hc6c : decide (0 < finality) = false := decide_eq_false (by omega)
    have hc6d : decide (finality ≤ 0) = true := decide_eq_true (by omega)
    obtain rfl : R = 1 := by
      rw [HR.out]
      unfold rulesW goodR
      rw [if_neg]
      rintro ⟨⟨g0, g1, g2, g3, g4, g5, g6, g7, g8, g9, g10⟩, -⟩
      exact hk6 g6
    clear hk0 hk1 hk2 hk3 hk4 hk5 hk6
    go_wp2_with fail
    go_ret
    exact ⟨rfl, HX0.out⟩
  have hc6a : decide (1 ≤ finality) = true := decide_eq_true (by omega)
  have hc6b : decide (finality < 1) = false := decide_eq_false (by omega)
  have hc6c : decide (0 < finality) = true := decide_eq_true (by omega)
  have hc6d : decide (finality ≤ 0) = false := decide_eq_false (by omega)
  by_cases hk7 : finality ≤ 1048576
  case neg =>
    have hc7a : decide (finality ≤ 1048576) = false := decide_eq_false (by omega)
    have hc7b : decide (1048576 < finality) = true := decide_eq_true (by omega)
    obtain rfl : R = 1 := by
      rw [HR.out]
      unfold rulesW goodR
      rw [if_neg]
      rintro ⟨⟨g0, g1, g2, g3, g4, g5, g6, g7, g8, g9, g10⟩, -⟩
      exact hk7 g7
    clear hk0 hk1 hk2 hk3 hk4 hk5 hk6 hk7
    go_wp2_with fail
    go_ret
    exact ⟨rfl, HX0.out⟩
  have hc7a : decide (finality ≤ 1048576) = true := decide_eq_true (by omega)
  have hc7b : decide (1048576 < finality) = false := decide_eq_false (by omega)
  by_cases hk8 : reward.toNat ≤ 4294967296
  case neg =>
    have hc8a : decide ((reward.toNat : Int) ≤ 4294967296) = false := decide_eq_false (by omega)
    have hc8b : decide ((4294967296 : Int) < (reward.toNat : Int)) = true := decide_eq_true (by omega)
    have hc8c : decide (reward.toNat ≤ 4294967296) = false := decide_eq_false (by omega)
    have hc8d : decide (4294967296 < reward.toNat) = true := decide_eq_true (by omega)
    obtain rfl : R = 1 := by
      rw [HR.out]
      unfold rulesW goodR
      rw [if_neg]
      rintro ⟨⟨g0, g1, g2, g3, g4, g5, g6, g7, g8, g9, g10⟩, -⟩
      exact hk8 g8
    clear hk0 hk1 hk2 hk3 hk4 hk5 hk6 hk7 hk8
    go_wp2_with fail
    go_ret
    exact ⟨rfl, HX0.out⟩
  have hc8a : decide ((reward.toNat : Int) ≤ 4294967296) = true := decide_eq_true (by omega)
  have hc8b : decide ((4294967296 : Int) < (reward.toNat : Int)) = false := decide_eq_false (by omega)
  have hc8c : decide (reward.toNat ≤ 4294967296) = true := decide_eq_true (by omega)
  have hc8d : decide (4294967296 < reward.toNat) = false := decide_eq_false (by omega)
  by_cases hk9 : 1 ≤ work.toNat
  case neg =>
    have hc9a : decide ((1 : Int) ≤ (work.toNat : Int)) = false := decide_eq_false (by omega)
    have hc9b : decide ((work.toNat : Int) < 1) = true := decide_eq_true (by omega)
    have hc9c : decide (1 ≤ work.toNat) = false := decide_eq_false (by omega)
    have hc9d : decide (work.toNat < 1) = true := decide_eq_true (by omega)
    have hc9e : decide (0 < work.toNat) = false := decide_eq_false (by omega)
    have hc9f : decide (work.toNat = 0) = true := decide_eq_true (by omega)
    have hc9g : decide ((0 : Int) < (work.toNat : Int)) = false := decide_eq_false (by omega)
    have hc9h : decide ((work.toNat : Int) ≤ 0) = true := decide_eq_true (by omega)
    have hc9i : decide ((work.toNat : Int) = 0) = true := decide_eq_true (by omega)
    obtain rfl : R = 1 := by
      rw [HR.out]
      unfold rulesW goodR
      rw [if_neg]
      rintro ⟨⟨g0, g1, g2, g3, g4, g5, g6, g7, g8, g9, g10⟩, -⟩
      exact hk9 g9
    clear hk0 hk1 hk2 hk3 hk4 hk5 hk6 hk7 hk8 hk9
    go_wp2_with fail
    go_ret
    exact ⟨rfl, HX0.out⟩
  have hc9a : decide ((1 : Int) ≤ (work.toNat : Int)) = true := decide_eq_true (by omega)
  have hc9b : decide ((work.toNat : Int) < 1) = false := decide_eq_false (by omega)
  have hc9c : decide (1 ≤ work.toNat) = true := decide_eq_true (by omega)
  have hc9d : decide (work.toNat < 1) = false := decide_eq_false (by omega)
  have hc9e : decide (0 < work.toNat) = true := decide_eq_true (by omega)
  have hc9f : decide (work.toNat = 0) = false := decide_eq_false (by omega)
  have hc9g : decide ((0 : Int) < (work.toNat : Int)) = true := decide_eq_true (by omega)
  have hc9h : decide ((work.toNat : Int) ≤ 0) = false := decide_eq_false (by omega)
  have hc9i : decide ((work.toNat : Int) = 0) = false := decide_eq_false (by omega)
  by_cases hk10 : work.toNat ≤ 65536
  case neg =>
    have hc10a : decide ((work.toNat : Int) ≤ 65536) = false := decide_eq_false (by omega)
    have hc10b : decide ((65536 : Int) < (work.toNat : Int)) = true := decide_eq_true (by omega)
    have hc10c : decide (work.toNat ≤ 65536) = false := decide_eq_false (by omega)
    have hc10d : decide (65536 < work.toNat) = true := decide_eq_true (by omega)
    obtain rfl : R = 1 := by
      rw [HR.out]
      unfold rulesW goodR
      rw [if_neg]
      rintro ⟨⟨g0, g1, g2, g3, g4, g5, g6, g7, g8, g9, g10⟩, -⟩
      exact hk10 g10
    clear hk0 hk1 hk2 hk3 hk4 hk5 hk6 hk7 hk8 hk9 hk10
    go_wp2_with fail
    go_ret
    exact ⟨rfl, HX0.out⟩
  have hc10a : decide ((work.toNat : Int) ≤ 65536) = true := decide_eq_true (by omega)
  have hc10b : decide ((65536 : Int) < (work.toNat : Int)) = false := decide_eq_false (by omega)
  have hc10c : decide (work.toNat ≤ 65536) = true := decide_eq_true (by omega)
  have hc10d : decide (65536 < work.toNat) = false := decide_eq_false (by omega)
  have HG := hid (show goodR ⟨mode, depth, pb, pu, pq, reward, window, finality, work⟩ from ⟨hk0, hk1, hk2, hk3, hk4, hk5, hk6, hk7, hk8, hk9, hk10⟩)
  clear hk0 hk1 hk2 hk3 hk4 hk5 hk6 hk7 hk8 hk9 hk10
  by_cases hm : mode = 1
  case neg =>
    have hma : decide (mode = 1) = false := decide_eq_false hm
    have hmb : (mode == 1) = false := by rw [beq_eq_false_iff_ne]; exact hm
    obtain rfl : R = 0 := by
      rw [HR.out]
      unfold rulesW
      rw [if_pos ⟨HG.out, fun h => absurd h hm⟩]
    clear hm
    go_wp2_with fail
    go_ret
    exact ⟨rfl, HX0.out⟩
  have HP2 : Hid (R = if paramsW pb pu pq = true then 0 else 1) := hid (by
    rw [HR.out]
    unfold rulesW
    by_cases hp : paramsW pb pu pq = true
    · rw [if_pos ⟨HG.out, fun _ => hp⟩, if_pos hp]
    · rw [if_neg (fun h => hp (h.2 hm)), if_neg hp])
  have hma : decide (mode = 1) = true := decide_eq_true hm
  have hmb : (mode == 1) = true := by rw [beq_iff_eq]; exact hm
  obtain ⟨V, hV⟩ : ∃ V, V = paramsW pb pu pq := ⟨_, rfl⟩
  rw [← hV] at PC HP2
  clear hm hV HR HG
  go_wp2_with fail
  refine (PC.out _).mono ?_
  rintro e w1 ⟨rfl, hx⟩
  have X1 := hid hx
  clear hx PC
  cases V with
  | true =>
    obtain rfl : R = 0 := HP2.out
    go_wp2_with fail
    go_ret
    exact ⟨rfl, HX0.out.trans X1.out⟩
  | false =>
    obtain rfl : R = 1 := HP2.out
    go_wp2_with fail
    go_ret
    exact ⟨rfl, HX0.out.trans X1.out⟩
end Go.Proofs.YtcikjcjfcanloaaGreat
