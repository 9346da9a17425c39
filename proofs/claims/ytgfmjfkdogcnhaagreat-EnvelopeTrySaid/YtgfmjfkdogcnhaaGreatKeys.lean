/- Keys, in plain Lean: a hash takes its elements reduced; the keys and addresses of a wallet. Keys of a wallet: keys.Spend, View, Owner. -/
import Derived.Test.YtgfmjfkdogcnhaaGreatSponge
import Derived.Test.YtgfmjfkdogcnhaaGreatRec
set_option linter.unusedSimpArgs false
namespace Go.Proofs.YtgfmjfkdogcnhaaGreat
open Go.RowKit
theorem fAdd_fRed (a b : UInt64) : fAdd a (fRed b) = fAdd a b := by
  unfold fAdd
  have : fRed (fRed b) = fRed b := by
    apply UInt64.toNat_inj.1
    rw [fRed_toNat, fRed_toNat, Nat.mod_mod]
  rw [this]
theorem absorbAll_red (s : S3) (l : List UInt64) : absorbAll s (l.map fRed) = absorbAll s l := by
  induction s, l using absorbAll.induct with
  | case1 => rfl
  | case2 => rw [List.map_cons, List.map_nil, absorb_one, absorb_one, fAdd_fRed]
  | case3 s x y r ih => rw [List.map_cons, List.map_cons, absorb_two, absorb_two, fAdd_fRed, fAdd_fRed, ih]
theorem hashU_red (label : UInt64) (l : List UInt64) : hashU label (l.map fRed) = hashU label l := by
  unfold hashU sponge
  rw [List.length_map]
  by_cases h : l = []
  · subst h; rfl
  · rw [if_neg h, if_neg (by simpa using h), absorbAll_red]
/-- the numbers of a wallet's addresses -/
def isNumK (n : Int) : Bool := decide (0 ≤ n) && decide (n < 4)
def kSpend (seed : UInt64) : UInt64 := hashU 8 [seed]
def kView (seed : UInt64) (n : Int) : UInt64 := if isNumK n then hashU 10 [seed, UInt64.ofNat n.toNat] else 0
def kOwner (key : UInt64) (n : Int) : UInt64 := if isNumK n then hashU 1 [key, UInt64.ofNat n.toNat] else 0
end Go.Proofs.YtgfmjfkdogcnhaaGreat
namespace Go.Proofs.YtgfmjfkdogcnhaaGreat
open Go.RowKit
attribute [local irreducible] perm fAdd fMul fPow fSub fNeg fRed hashU drawOf nextState
theorem wrap_uK (z : UInt64) : IntKind.u64.wrap (z.toNat : Int) = (z.toNat : Int) := by
  rw [IntKind.wrap_u64]; have := u_lt z; omega
theorem isNumK_any (n : Int) (w : World) : Calls Tryz.prog 59 #[.int .i64 n] w fun e w' => e = .returned (.bool (isNumK n)) ∧ Ext w w' := by
  unfold isNumK
  by_cases h0 : 0 ≤ n
  · by_cases h4 : n < 4
    · have d0 : decide (0 ≤ n) = true := by simp [h0]
      have d4 : decide (n < 4) = true := by simp [h4]
      rw [d0, d4]
      go_enter Tryz.func59, Tryz.ntmps59
      go_wp2_with fail
      go_ret
      exact ⟨rfl, Ext.refl _⟩
    · have d0 : decide (0 ≤ n) = true := by simp [h0]
      have d4 : decide (n < 4) = false := by simp [h4]
      rw [d0, d4]
      go_enter Tryz.func59, Tryz.ntmps59
      go_wp2_with fail
      go_ret
      exact ⟨rfl, Ext.refl _⟩
  · have d0 : decide (0 ≤ n) = false := by simp [h0]
    rw [d0, Bool.false_and]
    go_enter Tryz.func59, Tryz.ntmps59
    go_wp2_with fail
    go_ret
    exact ⟨rfl, Ext.refl _⟩
theorem keysHash_any (label : UInt64) (lv : Value) (l : List UInt64) (w : World) (hl : RdU w lv l) (hL : l.length ≤ 1000000000000000) :
    Calls Tryz.prog 60 #[uv label, lv] w fun e w' => e = .returned (uv (hashU label l)) ∧ Ext w w' := by
  have HH := hid (Hash_any _ isBig label lv l w hl hL)
  obtain ⟨la, lc, rfl, -⟩ := hl
  obtain ⟨k, hk⟩ : ∃ k, k = hashU label l := ⟨_, rfl⟩
  rw [← hk] at HH ⊢
  clear hk hL
  go_enter Tryz.func60, Tryz.ntmps60
  go_wp2_with fail
  refine (HH.out).mono ?_
  rintro e w1 ⟨rfl, hx⟩
  have HX1 := hid hx
  clear hx HH
  go_wp2_with fail
  go_ret
  exact ⟨rfl, HX1.out⟩
theorem kSpend_any (seed : UInt64) (w : World) : Calls Tryz.prog 28 #[uv seed] w fun e w' => e = .returned (uv (kSpend seed)) ∧ Ext w w' := by
  have hrd : RdU (w.alloc (.cells #[uv seed] 22)) (.slice (some ⟨w.heap.size, 0, none⟩) 1 1) [seed] := (RdC.block (heap_new w _) (n := 1) (by unfold maxLen; omega)).rdu rfl
  have HH := hid (keysHash_any 8 _ [seed] _ hrd (by simp))
  obtain ⟨k, hk⟩ : ∃ k, k = kSpend seed := ⟨_, rfl⟩
  have hk2 : hashU 8 [seed] = k := by rw [hk]; rfl
  rw [hk2] at HH
  rw [← hk]
  clear hrd hk hk2
  go_enter Tryz.func28, Tryz.ntmps28
  go_wp2_with fail
  refine (HH.out).mono ?_
  rintro e w1 ⟨rfl, hx⟩
  have HX1 := hid (((Ext.refl w).alloc _).trans hx)
  clear hx HH
  go_wp2_with fail
  go_ret
  exact ⟨rfl, HX1.out⟩
theorem kView_in (seed : UInt64) (m : Nat) (hm : m < 4) (w : World) : Calls Tryz.prog 26 #[uv seed, .int .i64 (m : Int)] w fun e w' => e = .returned (uv (hashU 10 [seed, UInt64.ofNat m])) ∧ Ext w w' := by
  have hN : isNumK (m : Int) = true := by unfold isNumK; simp; omega
  have hmm : ((UInt64.ofNat m).toNat : Int) = (m : Int) := by simp; omega
  have hwr : IntKind.u64.wrap (m : Int) = (m : Int) := by rw [← hmm]; exact wrap_uK _
  have HN := hid (isNumK_any (m : Int) w)
  rw [hN] at HN
  have HH : Hid (∀ v : World, Calls Tryz.prog 60 #[.int .u64 10, .slice (some ⟨v.heap.size, 0, none⟩) 2 2] (v.alloc (.cells #[uv seed, .int .u64 (m : Int)] 22)) fun e w' => e = .returned (uv (hashU 10 [seed, UInt64.ofNat m])) ∧ Ext (v.alloc (.cells #[uv seed, .int .u64 (m : Int)] 22)) w') := hid fun v => by
    have hrd : RdU (v.alloc (.cells #[uv seed, uv (UInt64.ofNat m)] 22)) (.slice (some ⟨v.heap.size, 0, none⟩) 2 2) [seed, UInt64.ofNat m] := (RdC.block (heap_new v _) (n := 2) (by unfold maxLen; omega)).rdu rfl
    have h := keysHash_any 10 _ [seed, UInt64.ofNat m] _ hrd (by simp)
    rw [show uv (UInt64.ofNat m) = .int .u64 (m : Int) by unfold uv; rw [hmm]] at h
    exact h
  generalize hashU 10 [seed, UInt64.ofNat m] = k at *
  clear hN hmm
  go_enter Tryz.func26, Tryz.ntmps26
  go_wp2_with fail
  refine (HN.out).mono ?_
  rintro e w1 ⟨rfl, hx⟩
  have HX1 := hid hx
  clear hx HN
  go_wp2_with fail
  refine (HH.out _).mono ?_
  rintro e w2 ⟨rfl, hx⟩
  have HX2 := hid ((HX1.out.alloc _).trans hx)
  clear hx HH
  go_wp2_with fail
  go_ret
  exact ⟨rfl, HX2.out⟩
theorem kView_any (seed : UInt64) (n : Int) (w : World) : Calls Tryz.prog 26 #[uv seed, .int .i64 n] w fun e w' => e = .returned (uv (kView seed n)) ∧ Ext w w' := by
  unfold kView
  by_cases h : isNumK n = true
  · rw [if_pos h]
    obtain ⟨m, rfl⟩ : ∃ m : Nat, n = (m : Int) := ⟨n.toNat, by unfold isNumK at h; simp at h; omega⟩
    exact kView_in seed m (by unfold isNumK at h; simp at h; omega) w
  · rw [if_neg h]
    have HN := hid (isNumK_any n w)
    rw [Bool.not_eq_true] at h
    rw [h] at HN
    clear h
    go_enter Tryz.func26, Tryz.ntmps26
    go_wp2_with fail
    refine (HN.out).mono ?_
    rintro e w1 ⟨rfl, hx⟩
    have HX1 := hid hx
    clear hx HN
    go_wp2_with fail
    go_ret
    exact ⟨rfl, HX1.out⟩
theorem kOwner_in (key : UInt64) (m : Nat) (hm : m < 4) (w : World) : Calls Tryz.prog 27 #[uv key, .int .i64 (m : Int)] w fun e w' => e = .returned (uv (hashU 1 [key, UInt64.ofNat m])) ∧ Ext w w' := by
  have hN : isNumK (m : Int) = true := by unfold isNumK; simp; omega
  have hmm : ((UInt64.ofNat m).toNat : Int) = (m : Int) := by simp; omega
  have hwr : IntKind.u64.wrap (m : Int) = (m : Int) := by rw [← hmm]; exact wrap_uK _
  have HN := hid (isNumK_any (m : Int) w)
  rw [hN] at HN
  have HH : Hid (∀ v : World, Calls Tryz.prog 60 #[.int .u64 1, .slice (some ⟨v.heap.size, 0, none⟩) 2 2] (v.alloc (.cells #[uv key, .int .u64 (m : Int)] 22)) fun e w' => e = .returned (uv (hashU 1 [key, UInt64.ofNat m])) ∧ Ext (v.alloc (.cells #[uv key, .int .u64 (m : Int)] 22)) w') := hid fun v => by
    have hrd : RdU (v.alloc (.cells #[uv key, uv (UInt64.ofNat m)] 22)) (.slice (some ⟨v.heap.size, 0, none⟩) 2 2) [key, UInt64.ofNat m] := (RdC.block (heap_new v _) (n := 2) (by unfold maxLen; omega)).rdu rfl
    have h := keysHash_any 1 _ [key, UInt64.ofNat m] _ hrd (by simp)
    rw [show uv (UInt64.ofNat m) = .int .u64 (m : Int) by unfold uv; rw [hmm]] at h
    exact h
  generalize hashU 1 [key, UInt64.ofNat m] = k at *
  clear hN hmm
  go_enter Tryz.func27, Tryz.ntmps27
  go_wp2_with fail
  refine (HN.out).mono ?_
  rintro e w1 ⟨rfl, hx⟩
  have HX1 := hid hx
  clear hx HN
  go_wp2_with fail
  refine (HH.out _).mono ?_
  rintro e w2 ⟨rfl, hx⟩
  have HX2 := hid ((HX1.out.alloc _).trans hx)
  clear hx HH
  go_wp2_with fail
  go_ret
  exact ⟨rfl, HX2.out⟩
theorem kOwner_any (key : UInt64) (n : Int) (w : World) : Calls Tryz.prog 27 #[uv key, .int .i64 n] w fun e w' => e = .returned (uv (kOwner key n)) ∧ Ext w w' := by
  unfold kOwner
  by_cases h : isNumK n = true
  · rw [if_pos h]
    obtain ⟨m, rfl⟩ : ∃ m : Nat, n = (m : Int) := ⟨n.toNat, by unfold isNumK at h; simp at h; omega⟩
    exact kOwner_in key m (by unfold isNumK at h; simp at h; omega) w
  · rw [if_neg h]
    have HN := hid (isNumK_any n w)
    rw [Bool.not_eq_true] at h
    rw [h] at HN
    clear h
    go_enter Tryz.func27, Tryz.ntmps27
    go_wp2_with fail
    refine (HN.out).mono ?_
    rintro e w1 ⟨rfl, hx⟩
    have HX1 := hid hx
    clear hx HN
    go_wp2_with fail
    go_ret
    exact ⟨rfl, HX1.out⟩
end Go.Proofs.YtgfmjfkdogcnhaaGreat
