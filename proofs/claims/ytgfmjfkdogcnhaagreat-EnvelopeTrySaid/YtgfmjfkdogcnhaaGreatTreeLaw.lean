/- Plain facts of commitment trees: numbers of leaves, well-formed levels, the root, the path. -/
import Derived.Test.YtgfmjfkdogcnhaaGreatBase
namespace Go.Proofs.YtgfmjfkdogcnhaaGreat
open Go.RowKit

/-! ## numbers of leaves -/
def isNum (n : Nat) : Bool := decide (n ∈ [1, 2, 4, 8, 16, 32, 64, 128, 256, 512, 1024])
theorem isNum_cases {n : Nat} (h : isNum n = true) : n = 1 ∨ n = 2 ∨ n = 4 ∨ n = 8 ∨ n = 16 ∨ n = 32 ∨ n = 64 ∨ n = 128 ∨ n = 256 ∨ n = 512 ∨ n = 1024 := by
  unfold isNum at h
  simpa using of_decide_eq_true h
theorem isNum_half {n : Nat} (h : isNum n = true) : n = 1 ∨ ∃ m, n = 2 * m ∧ isNum m = true ∧ 1 ≤ m := by
  rcases isNum_cases h with h | h | h | h | h | h | h | h | h | h | h
  · exact .inl h
  · exact .inr ⟨1, h, rfl, by omega⟩
  · exact .inr ⟨2, h, rfl, by omega⟩
  · exact .inr ⟨4, h, rfl, by omega⟩
  · exact .inr ⟨8, h, rfl, by omega⟩
  · exact .inr ⟨16, h, rfl, by omega⟩
  · exact .inr ⟨32, h, rfl, by omega⟩
  · exact .inr ⟨64, h, rfl, by omega⟩
  · exact .inr ⟨128, h, rfl, by omega⟩
  · exact .inr ⟨256, h, rfl, by omega⟩
  · exact .inr ⟨512, h, rfl, by omega⟩
theorem isNum_pos {n : Nat} (h : isNum n = true) : 1 ≤ n ∧ n ≤ 1024 := by
  rcases isNum_cases h with h | h | h | h | h | h | h | h | h | h | h <;> omega
/-- How the program says it. -/
def numI (n : Int) : Bool := decide (1 ≤ n) && (decide (n ≤ 1024) && (bits .and .i64 n (n - 1) == 0))
theorem numI_nat (n : Nat) : numI (n : Int) = isNum n := by
  by_cases h : n ≤ 1024
  · have key : ∀ k : Fin 1025, numI (k.val : Int) = isNum k.val := by decide +kernel
    exact key ⟨n, by omega⟩
  · have h1 : isNum n = false := by
      cases hn : isNum n with
      | false => rfl
      | true => have := isNum_pos hn; omega
    rw [h1]
    unfold numI
    rw [show decide ((n : Int) ≤ 1024) = false by simp; omega]
    simp
theorem numI_neg {n : Int} (h : n < 1) : numI n = false := by
  unfold numI
  rw [show decide (1 ≤ n) = false by simp; omega]
  rfl

/-! ## levels -/
abbrev Lv := List (List UInt64)
def lnAt (ls : Lv) (j : Nat) : Nat := (ls.getD j []).length
def formedFrom : Nat → Lv → Bool
  | size, [] => size == 0
  | size, l :: r => (size != 0 && l.length == size) && formedFrom (size / 2) r
def formed : Lv → Bool
  | [] => false
  | l :: r => isNum l.length && formedFrom l.length (l :: r)
/-- How the reference says it. -/
structure FormedR (ls : Lv) : Prop where
  ne : ls ≠ []
  first : isNum (lnAt ls 0) = true
  last : lnAt ls (ls.length - 1) = 1
  chain : ∀ j, 1 ≤ j → j < ls.length → 2 * lnAt ls j = lnAt ls (j - 1)

theorem formedFrom_iff : ∀ (r : Lv) (l : List UInt64), isNum l.length = true →
    (formedFrom l.length (l :: r) = true ↔ lnAt (l :: r) r.length = 1 ∧ ∀ j, 1 ≤ j → j < r.length + 1 → 2 * lnAt (l :: r) j = lnAt (l :: r) (j - 1))
  | [], l, hl => by
    have hp := isNum_pos hl
    simp only [formedFrom, List.length_nil, lnAt, List.getD_cons_zero, Bool.and_eq_true, bne_iff_ne, ne_eq, beq_iff_eq]
    constructor
    · rintro ⟨_, h⟩; exact ⟨by omega, fun j h1 h2 => by omega⟩
    · rintro ⟨h, _⟩; exact ⟨⟨by omega, trivial⟩, by omega⟩
  | l' :: r, l, hl => by
    have hp := isNum_pos hl
    have e0 : ∀ j, lnAt (l :: l' :: r) (j + 1) = lnAt (l' :: r) j := fun j => rfl
    have ez : lnAt (l :: l' :: r) 0 = l.length := rfl
    have ez' : lnAt (l' :: r) 0 = l'.length := rfl
    by_cases hh : 2 * l'.length = l.length
    · have hn' : isNum l'.length = true := by
        rcases isNum_half hl with h | ⟨m, h, hm, _⟩
        · omega
        · rw [show l'.length = m by omega]; exact hm
      have ih := formedFrom_iff r l' hn'
      have hd : l.length / 2 = l'.length := by omega
      have hf : formedFrom l.length (l :: l' :: r) = formedFrom l'.length (l' :: r) := by
        rw [formedFrom, hd, show (l.length != 0) = true from bne_iff_ne.2 (by omega)]
        simp
      rw [hf, ih]
      constructor
      · rintro ⟨h1, h2⟩
        refine ⟨h1, fun j hj1 hj2 => ?_⟩
        rcases j with _ | _ | j
        · omega
        · exact hh
        · exact h2 (j + 1) (by omega) (by simp at hj2 ⊢; omega)
      · rintro ⟨h1, h2⟩
        refine ⟨h1, fun j hj1 hj2 => ?_⟩
        obtain ⟨i, rfl⟩ : ∃ i, j = i + 1 := ⟨j - 1, by omega⟩
        have h3 := h2 (i + 1 + 1) (by omega) (by simp at hj2 ⊢; omega)
        exact h3
    · constructor
      · intro h
        exfalso
        simp only [formedFrom, Bool.and_eq_true, bne_iff_ne, ne_eq, beq_iff_eq] at h
        rcases isNum_half hl with h1 | ⟨m, h1, _, _⟩ <;> omega
      · rintro ⟨_, h2⟩
        exact absurd (h2 1 (by omega) (by simp)) hh
theorem formed_iff (ls : Lv) : formed ls = true ↔ FormedR ls := by
  cases ls with
  | nil => exact ⟨fun h => absurd h (by decide), fun h => absurd rfl h.ne⟩
  | cons l r =>
    constructor
    · intro h
      simp only [formed, Bool.and_eq_true] at h
      have := (formedFrom_iff r l h.1).1 h.2
      exact ⟨by simp, h.1, this.1, this.2⟩
    · intro h
      simp only [formed, Bool.and_eq_true]
      exact ⟨h.first, (formedFrom_iff r l h.first).2 ⟨h.last, h.chain⟩⟩
theorem formed_not {ls : Lv} (h : ¬ FormedR ls) : formed ls = false := by
  cases hf : formed ls with
  | false => rfl
  | true => exact absurd ((formed_iff ls).1 hf) h
theorem formed_first {ls : Lv} (h : formed ls = true) : isNum (lnAt ls 0) = true := ((formed_iff ls).1 h).first
theorem formed_ne {ls : Lv} (h : formed ls = true) : ls ≠ [] := ((formed_iff ls).1 h).ne
theorem formed_last {ls : Lv} (h : formed ls = true) : lnAt ls (ls.length - 1) = 1 := ((formed_iff ls).1 h).last
/-- Every level's length is a number of leaves; all but the last are even. -/
theorem formed_lens {ls : Lv} (h : formed ls = true) : ∀ j, j < ls.length → isNum (lnAt ls j) = true := by
  have hR := (formed_iff ls).1 h
  intro j
  induction j with
  | zero => intro _; exact hR.first
  | succ j ih =>
    intro hj
    have h1 := ih (by omega)
    have h2 := hR.chain (j + 1) (by omega) hj
    rw [Nat.add_sub_cancel] at h2
    rcases isNum_half h1 with h3 | ⟨m, h3, h4, _⟩
    · omega
    · rw [show lnAt ls (j + 1) = m by omega]; exact h4

/-! ## root and path -/
def at2 (ls : Lv) (k i : Nat) : UInt64 := (ls.getD k []).getD i 0
def rootL (ls : Lv) : UInt64 := if formed ls then at2 ls (ls.length - 1) 0 else 0
/-- k siblings, from level j on, on the way from i. -/
def pathN (ls : Lv) (i : Nat) (k : Nat) : List UInt64 := (List.range k).map fun j => at2 ls j ((i / 2 ^ j) ^^^ 1)
theorem pathN_length (ls : Lv) (i k : Nat) : (pathN ls i k).length = k := by simp [pathN]
theorem pathN_succ (ls : Lv) (i k : Nat) : pathN ls i (k + 1) = pathN ls i k ++ [at2 ls k ((i / 2 ^ k) ^^^ 1)] := by
  simp [pathN, List.range_succ]
def pathI (ls : Lv) (i : Int) : Bool := formed ls && (decide (0 ≤ i) && decide (i < (lnAt ls 0 : Nat)))
def pathL (ls : Lv) (i : Int) : List UInt64 := if pathI ls i then pathN ls i.toNat (ls.length - 1) else []
theorem xor_one (n : Nat) : n ^^^ 1 = if n % 2 = 0 then n + 1 else n - 1 := by
  by_cases h' : n % 2 = 0
  · rw [if_pos h']
    apply Nat.eq_of_testBit_eq
    intro i
    rw [Nat.testBit_xor]
    cases i with
    | zero => rw [Nat.testBit_zero, Nat.testBit_zero, Nat.testBit_zero, decide_eq_false (show ¬ n % 2 = 1 by omega), decide_eq_true (show (n + 1) % 2 = 1 by omega)]; rfl
    | succ i =>
      have e : (n + 1) / 2 = n / 2 := by omega
      rw [Nat.testBit_succ, Nat.testBit_succ, Nat.testBit_succ, e]
      simp
  · rw [if_neg h']
    apply Nat.eq_of_testBit_eq
    intro i
    rw [Nat.testBit_xor]
    cases i with
    | zero => rw [Nat.testBit_zero, Nat.testBit_zero, Nat.testBit_zero, decide_eq_true (show n % 2 = 1 by omega), decide_eq_false (show ¬ (n - 1) % 2 = 1 by omega)]; rfl
    | succ i =>
      have e : (n - 1) / 2 = n / 2 := by omega
      rw [Nat.testBit_succ, Nat.testBit_succ, Nat.testBit_succ, e]
      simp
theorem xor_one_lt {n m : Nat} (h : n < 2 * m) : n ^^^ 1 < 2 * m := by
  rw [xor_one]
  split <;> omega
/-- Level k of a well-formed tree has the leaf's place on it. -/
theorem path_in {ls : Lv} (h : formed ls = true) {i : Nat} (hi : i < lnAt ls 0) : ∀ k, k < ls.length → i / 2 ^ k < lnAt ls k := by
  have hR := (formed_iff ls).1 h
  intro k
  induction k with
  | zero => intro _; simpa using hi
  | succ k ih =>
    intro hk
    have h1 := ih (by omega)
    have h2 := hR.chain (k + 1) (by omega) hk
    rw [Nat.add_sub_cancel] at h2
    rw [Nat.pow_succ, ← Nat.div_div_eq_div_mul]
    omega
theorem path_sib {ls : Lv} (h : formed ls = true) {i : Nat} (hi : i < lnAt ls 0) (k : Nat) (hk : k + 1 < ls.length) : (i / 2 ^ k) ^^^ 1 < lnAt ls k := by
  have h1 := path_in h hi k (by omega)
  have h2 := ((formed_iff ls).1 h).chain (k + 1) (by omega) hk
  rw [Nat.add_sub_cancel] at h2
  rw [← h2] at h1 ⊢
  exact xor_one_lt h1
end Go.Proofs.YtgfmjfkdogcnhaaGreat
