/- Commitment trees in memory: numbers of leaves, well-formed levels, root and path, of the program and of the reference. -/
import Derived.Test.YtdpgfjnpcjpdpaaWeak
import Derived.Test.YtdpgfjnpcjpdpaaSame
set_option linter.unusedSimpArgs false
namespace Go.Proofs.Ytdpgfjnpcjpdpaa
open Go.RowKit
attribute [local irreducible] perm fAdd fMul fPow fSub fNeg fRed

set_option maxHeartbeats 800000 in
theorem isNumber_any (n : Int) (w : World) : Calls Try.prog 68 #[.int .i64 n] w fun e w' => e = .returned (.bool (numI n)) ∧ w = w' := by
  have H : Hid (numI n = (decide (1 ≤ n) && (decide (n ≤ 1024) && (bits .and .i64 n (n - 1) == 0)))) := hid rfl
  by_cases h1 : 1 ≤ n
  · by_cases h2 : n ≤ 1024
    · go_enter Try.func68, Try.ntmps68
      go_wp2
      go_ret
      exact ⟨ret_bool (by rw [H.out, decide_eq_true h1, decide_eq_true h2]; simp), rfl⟩
    · go_enter Try.func68, Try.ntmps68
      go_wp2
      go_ret
      exact ⟨ret_bool (by rw [H.out, decide_eq_false (show ¬ n ≤ 1024 by omega)]; simp), rfl⟩
  · go_enter Try.func68, Try.ntmps68
    go_wp2
    go_ret
    exact ⟨ret_bool (by rw [H.out, decide_eq_false (show ¬ 1 ≤ n by omega)]; simp), rfl⟩
set_option maxHeartbeats 800000 in
theorem Count_any (n : Int) (w : World) : Calls Try.prog 99 #[.int .i64 n] w fun e w' => e = .returned (.bool (numI n)) ∧ w = w' := by
  have H : Hid (numI n = (decide (1 ≤ n) && (decide (n ≤ 1024) && (bits .and .i64 n (n - 1) == 0)))) := hid rfl
  by_cases h1 : 1 ≤ n
  · by_cases h2 : n ≤ 1024
    · go_enter Try.func99, Try.ntmps99
      go_wp2
      go_ret
      exact ⟨ret_bool (by rw [H.out, decide_eq_true h1, decide_eq_true h2]; simp), rfl⟩
    · go_enter Try.func99, Try.ntmps99
      go_wp2
      go_ret
      exact ⟨ret_bool (by rw [H.out, decide_eq_false (show ¬ n ≤ 1024 by omega)]; simp), rfl⟩
  · go_enter Try.func99, Try.ntmps99
    go_wp2
    go_ret
    exact ⟨ret_bool (by rw [H.out, decide_eq_false (show ¬ 1 ≤ n by omega)]; simp), rfl⟩
theorem isNumber_len (n : Nat) (w : World) : Calls Try.prog 68 #[.int .i64 (n : Int)] w fun e w' => e = .returned (.bool (isNum n)) ∧ w = w' := by
  rw [← numI_nat]; exact isNumber_any n w
theorem Count_len (n : Nat) (w : World) : Calls Try.prog 99 #[.int .i64 (n : Int)] w fun e w' => e = .returned (.bool (isNum n)) ∧ w = w' := by
  rw [← numI_nat]; exact Count_any n w

theorem RdC'.uat {w : World} {a : Option Addr} {c : Nat} {l : List UInt64} (h : RdU' w (.slice a l.length c) l) {i : Nat} {x : UInt64} (hx : l[i]? = some x) : ∃ b o, a = some ⟨b, o, none⟩ ∧ w.cell? ⟨b, o + i, none⟩ = some (.int .u64 x.toNat) :=
  (h.rdu (by rintro rfl; simp at hx)).at hx
set_option maxRecDepth 100000 in
set_option maxHeartbeats 800000 in
theorem melements_any (lv : Value) (l : List UInt64) (w : World) (hl : RdU' w lv l) (hL : l.length ≤ 1000000000000) :
    Calls Try.prog 69 #[lv] w fun e w' => e = .returned (.bool (allE l)) ∧ w = w' := by
  have HW := hid hl
  obtain ⟨a, c, rfl, -⟩ := hl
  have hL1 : (l.length : Int) ≤ 1000000000000 := by omega
  go_enter Try.func69, Try.ntmps69
  go_wp2
  go_loop [7] (fun iv => ∃ i : Nat, i ≤ l.length ∧ iv = .int .i64 i ∧ Hid ((l.take i).all (fun x => decide (x < big)) = true)) (fun iv => l.length - (intOf iv).toNat)
  case atStart => exact ⟨0, by omega, rfl, hid rfl⟩
  case round =>
    obtain ⟨i, hi, rfl, hI⟩ := hrel
    by_cases hlt : i < l.length
    · have hx : l[i]? = some l[i] := List.getElem?_eq_getElem hlt
      generalize l[i] = x at *
      obtain ⟨b, o, rfl, hc'⟩ := HW.out.uat hx
      have HX := hid hx
      clear hx
      by_cases hb : x < big
      · have hbi := (lt_big_iff x).1 hb
        have hB := hid hb
        clear hb
        have hd : decide ((18446744069414584321 : Int) ≤ (x.toNat : Int)) = false := by simp; omega
        clear hbi
        go_wp2
        go_round
        case rel => exact ⟨i + 1, by omega, by go_num, hid (allE_snoc HX.out hI.out hB.out)⟩
        case measure => simp [intOf]; omega
      · have hbi : ¬ (x.toNat : Int) < 18446744069414584321 := fun h => hb ((lt_big_iff x).2 h)
        have hfin := allE_bad HX.out hb
        have HF := hid hfin
        have hd : decide ((18446744069414584321 : Int) ≤ (x.toNat : Int)) = true := by simp; omega
        clear hbi hb hfin
        go_wp2
        go_ret
        exact ⟨ret_bool HF.out.symm, rfl⟩
    · have hfin : allE l = true := by
        have := hI.out
        rwa [List.take_of_length_le (by omega)] at this
      have HF := hid hfin
      clear hfin
      go_wp2
      go_ret
      exact ⟨ret_bool HF.out.symm, rfl⟩

set_option maxRecDepth 100000 in
set_option maxHeartbeats 800000 in
theorem salted_any (lv : Value) (salt : UInt64) (l : List UInt64) (w : World) (hl : RdU' w lv l) (hL : l.length ≤ 100000000000) :
    Calls Try.prog 70 #[uv salt, lv] w (NewU w (salt :: l)) := by
  obtain ⟨i0, hi, hz0, hz1, hz2⟩ := info_parts Try.infoU
  have hx0 := (Ext.refl w).alloc (.cells #[uv salt] 28)
  have hl1 := hl.ext hx0
  have hb := heap_new w (.cells #[uv salt] 28)
  have how : (w.alloc (.cells #[uv salt] 28)).ownsRow 0 28 1 (.slice (some ⟨w.heap.size, 0, none⟩) 1 1) 1 [uv salt] := ⟨rfl, .inr ⟨w.heap.size, 1, #[uv salt], rfl, Nat.zero_le _, hb, Nat.le_refl _, by unfold maxLen; omega, rfl, rfl⟩⟩
  go_enter Try.func70, Try.ntmps70
  go_wp2_with (at_builtin; refine wpList_app' rfl _ _ 24 rfl 28 i0 (.int .u64 0) 1 8 Try.underlying24 hi hz0 hz1 hz2 rfl (by decide) _ 1 [uv salt] rfl how _ l.length (us l) rfl hl1 (by simp) (us_one l) (by unfold maxLen; omega) (by omega) ?_)
  intro v' w1 hown0 hk hb
  have hown : OwnU w1 v' (salt :: l) := by
    have := hown0
    rw [Nat.add_comm] at this
    exact this
  clear hown0
  have hE : Ext w w1 := hx0.kp hk (by intro k h; simp [Value.ownBlock] at h; omega)
  have hfr : ∀ k, blk v' = some k → w.heap.size ≤ k := by
    intro k h
    rcases hb with hb | hb
    · rw [hb] at h; simp [Value.ownBlock] at h; omega
    · rw [hb] at h; simp at h; omega
  have H1 := hid hown
  have H2 := hid hE
  have H3 := hid hfr
  clear hown hk hb hE hfr
  go_wp2
  go_ret
  exact ⟨v', rfl, H1.out, H2.out, H3.out⟩
end Go.Proofs.Ytdpgfjnpcjpdpaa
