/- Plain: the quadratic extension of the big prime's field: products, powers; two ways of computing a power agree. -/
import Derived.Test.YtdpgfjnpcjpdpaaField
namespace Go.Proofs.Ytdpgfjnpcjpdpaa
open Go.RowKit

def PB : Nat := 18446744069414584321
theorem PB_eq : PB = 18446744069414584321 := rfl
instance : NeZero PB := ⟨by rw [PB_eq]; decide⟩
structure E2 where
  a : UInt64
  b : UInt64
def E2.red (x : E2) : Prop := x.a.toNat < 18446744069414584321 ∧ x.b.toNat < 18446744069414584321
def eOne : E2 := ⟨1, 0⟩
def eMul (x y : E2) : E2 := ⟨fAdd (fMul x.a y.a) (fMul 7 (fMul x.b y.b)), fAdd (fMul x.a y.b) (fMul x.b y.a)⟩

def toF (x : UInt64) : Fin PB := Fin.ofNat PB x.toNat
theorem toF_val (x : UInt64) : (toF x).val = x.toNat % PB := rfl
theorem fMul_toNat (a b : UInt64) : (fMul a b).toNat = a.toNat * b.toNat % 18446744069414584321 := by
  unfold fMul
  rw [fMul0_toNat, fRed_toNat, fRed_toNat, ← Nat.mul_mod]
theorem fAdd_toNat (a b : UInt64) : (fAdd a b).toNat = (a.toNat + b.toNat) % 18446744069414584321 := by
  unfold fAdd
  rw [fAdd0_toNat, fRed_toNat, fRed_toNat, ← Nat.add_mod]
theorem toF_mul (a b : UInt64) : toF (fMul a b) = toF a * toF b := by
  apply Fin.ext
  rw [Fin.val_mul, toF_val, toF_val, toF_val, fMul_toNat, ← PB_eq, Nat.mod_mod, ← Nat.mul_mod]
theorem toF_add (a b : UInt64) : toF (fAdd a b) = toF a + toF b := by
  apply Fin.ext
  rw [Fin.val_add, toF_val, toF_val, toF_val, fAdd_toNat, ← PB_eq, Nat.mod_mod, ← Nat.add_mod]
theorem toF_inj {a b : UInt64} (ha : a.toNat < 18446744069414584321) (hb : b.toNat < 18446744069414584321) (h : toF a = toF b) : a = b := by
  have h1 := congrArg Fin.val h
  rw [toF_val, toF_val, PB_eq, Nat.mod_eq_of_lt ha, Nat.mod_eq_of_lt hb] at h1
  exact UInt64.toNat_inj.1 h1
theorem eMul_red (x y : E2) : (eMul x y).red := ⟨by show (fAdd _ _).toNat < _; rw [fAdd_toNat]; exact mod_big_lt _, by show (fAdd _ _).toNat < _; rw [fAdd_toNat]; exact mod_big_lt _⟩
theorem eOne_red : eOne.red := ⟨by decide, by decide⟩
theorem e2_ext {x y : E2} (hx : x.red) (hy : y.red) (h1 : toF x.a = toF y.a) (h2 : toF x.b = toF y.b) : x = y := by
  obtain ⟨xa, xb⟩ := x
  obtain ⟨ya, yb⟩ := y
  have e1 := toF_inj hx.1 hy.1 h1
  have e2 := toF_inj hx.2 hy.2 h2
  simp only at e1 e2
  rw [e1, e2]
theorem eMul_a (x y : E2) : toF (eMul x y).a = toF x.a * toF y.a + toF 7 * (toF x.b * toF y.b) := by
  show toF (fAdd _ _) = _
  rw [toF_add, toF_mul, toF_mul, toF_mul]
theorem eMul_b (x y : E2) : toF (eMul x y).b = toF x.a * toF y.b + toF x.b * toF y.a := by
  show toF (fAdd _ _) = _
  rw [toF_add, toF_mul, toF_mul]
theorem assoc_a {n : Nat} [NeZero n] (a0 a1 b0 b1 c0 c1 g : Fin n) : (a0 * b0 + g * (a1 * b1)) * c0 + g * ((a0 * b1 + a1 * b0) * c1) = a0 * (b0 * c0 + g * (b1 * c1)) + g * (a1 * (b0 * c1 + b1 * c0)) := by grind
theorem assoc_b {n : Nat} [NeZero n] (a0 a1 b0 b1 c0 c1 g : Fin n) : (a0 * b0 + g * (a1 * b1)) * c1 + (a0 * b1 + a1 * b0) * c0 = a0 * (b0 * c1 + b1 * c0) + a1 * (b0 * c0 + g * (b1 * c1)) := by grind
theorem comm_a {n : Nat} [NeZero n] (a0 a1 b0 b1 g : Fin n) : a0 * b0 + g * (a1 * b1) = b0 * a0 + g * (b1 * a1) := by grind
theorem comm_b {n : Nat} [NeZero n] (a0 a1 b0 b1 : Fin n) : a0 * b1 + a1 * b0 = b0 * a1 + b1 * a0 := by grind
theorem one_a {n : Nat} [NeZero n] (a0 a1 g o z : Fin n) (ho : o = 1) (hz : z = 0) : o * a0 + g * (z * a1) = a0 := by subst ho hz; grind
theorem one_b {n : Nat} [NeZero n] (a0 a1 o z : Fin n) (ho : o = 1) (hz : z = 0) : o * a1 + z * a0 = a1 := by subst ho hz; grind
theorem eMul_assoc (x y z : E2) : eMul (eMul x y) z = eMul x (eMul y z) := by
  refine e2_ext (eMul_red _ _) (eMul_red _ _) ?_ ?_
  · rw [eMul_a, eMul_a, eMul_b, eMul_a, eMul_a, eMul_b]; exact assoc_a _ _ _ _ _ _ _
  · rw [eMul_b, eMul_a, eMul_b, eMul_b, eMul_a, eMul_b]; exact assoc_b _ _ _ _ _ _ _
theorem eMul_comm (x y : E2) : eMul x y = eMul y x := by
  refine e2_ext (eMul_red _ _) (eMul_red _ _) ?_ ?_
  · rw [eMul_a, eMul_a]; exact comm_a _ _ _ _ _
  · rw [eMul_b, eMul_b]; exact comm_b _ _ _ _
theorem toF_one : toF 1 = 1 := by apply Fin.ext; decide +kernel
theorem toF_zero : toF 0 = 0 := by apply Fin.ext; decide +kernel
theorem one_eMul {x : E2} (hx : x.red) : eMul eOne x = x := by
  refine e2_ext (eMul_red _ _) hx ?_ ?_
  · rw [eMul_a]; exact one_a _ _ _ _ _ toF_one toF_zero
  · rw [eMul_b]; exact one_b _ _ _ _ toF_one toF_zero
theorem eMul_one {x : E2} (hx : x.red) : eMul x eOne = x := by rw [eMul_comm, one_eMul hx]

/-! ## powers -/
def eRep (x : E2) : Nat → E2
  | 0 => eOne
  | n + 1 => eMul (eRep x n) x
theorem eRep_red (x : E2) : ∀ n, (eRep x n).red
  | 0 => eOne_red
  | _ + 1 => eMul_red _ _
theorem eRep_add (x : E2) (m : Nat) : ∀ n, eMul (eRep x m) (eRep x n) = eRep x (m + n)
  | 0 => eMul_one (eRep_red x m)
  | n + 1 => by
    show eMul (eRep x m) (eMul (eRep x n) x) = eMul (eRep x (m + n)) x
    rw [← eMul_assoc, eRep_add x m n]
theorem eRep_one {x : E2} (hx : x.red) : eRep x 1 = x := one_eMul hx
theorem eRep_sq {x : E2} (hx : x.red) : ∀ n, eRep (eMul x x) n = eRep x (2 * n)
  | 0 => rfl
  | n + 1 => by
    show eMul (eRep (eMul x x) n) (eMul x x) = _
    rw [eRep_sq hx n, ← eMul_assoc]
    show eRep x (2 * n + 1 + 1) = _
    rfl
def ePow (x : E2) (e : UInt64) : E2 := eRep x e.toNat
theorem ePow_red (x : E2) (e : UInt64) : (ePow x e).red := eRep_red _ _
/-- From the lowest bit upwards. -/
def upInv (x : E2) (e : UInt64) (r a : E2) (y : Nat) : Prop := r.red ∧ a.red ∧ eMul r (eRep a y) = ePow x e
theorem up_start {x : E2} (hx : x.red) (e : UInt64) : upInv x e eOne x e.toNat := ⟨eOne_red, hx, one_eMul (eRep_red _ _)⟩
theorem up_odd {x : E2} {e : UInt64} {r a : E2} {y : Nat} (h : upInv x e r a y) (ho : y % 2 = 1) : upInv x e (eMul r a) (eMul a a) (y / 2) := by
  refine ⟨eMul_red _ _, eMul_red _ _, ?_⟩
  rw [eRep_sq h.2.1, eMul_assoc]
  have h1 := eRep_add a 1 (2 * (y / 2))
  rw [eRep_one h.2.1] at h1
  rw [h1, show 1 + 2 * (y / 2) = y by omega]
  exact h.2.2
theorem up_even {x : E2} {e : UInt64} {r a : E2} {y : Nat} (h : upInv x e r a y) (ho : y % 2 = 0) : upInv x e r (eMul a a) (y / 2) := by
  refine ⟨h.1, eMul_red _ _, ?_⟩
  rw [eRep_sq h.2.1, show 2 * (y / 2) = y by omega]
  exact h.2.2
theorem up_end {x : E2} {e : UInt64} {r a : E2} (h : upInv x e r a 0) : r = ePow x e := by
  have := h.2.2
  rwa [show eRep a 0 = eOne from rfl, eMul_one h.1] at this
/-- From the highest bit downwards. -/
theorem down_step (x : E2) (e i : Nat) : eMul (eRep x (e / 2 ^ (i + 1))) (eRep x (e / 2 ^ (i + 1))) = eRep x (2 * (e / 2 ^ (i + 1))) := by
  rw [eRep_add]; congr 1; omega
theorem down_even (x : E2) {e i : Nat} (h : e / 2 ^ i % 2 = 0) : eRep x (2 * (e / 2 ^ (i + 1))) = eRep x (e / 2 ^ i) := by
  congr 1
  rw [Nat.pow_succ, ← Nat.div_div_eq_div_mul]; omega
theorem down_odd (x : E2) {e i : Nat} (h : e / 2 ^ i % 2 = 1) : eMul (eRep x (2 * (e / 2 ^ (i + 1)))) x = eRep x (e / 2 ^ i) := by
  show eRep x (2 * (e / 2 ^ (i + 1)) + 1) = _
  congr 1
  rw [Nat.pow_succ, ← Nat.div_div_eq_div_mul]; omega
theorem down_start (x : E2) (e : UInt64) : eRep x (e.toNat / 2 ^ 64) = eOne := by
  rw [Nat.div_eq_of_lt e.toNat_lt]; rfl
end Go.Proofs.Ytdpgfjnpcjpdpaa
