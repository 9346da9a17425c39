/- The arithmetic of the field with the prime 2^64 - 2^32 + 1: each function of package field returns the number that its plain law says, and leaves all that was there as it was. The operations of package field over the prime 2^64 - 2^32 + 1, each by its plain law. -/
import Derived.Test.YtkdnnekdldomeaaBase
namespace Go.Proofs.Ytkdnnekdldomeaa
open Go.RowKit

/-! ## plain: the prime, the operations -/
def big : UInt64 := 18446744069414584321
def IsBig (p : Int) : Prop := p = 18446744069414584321
theorem IsBig.pos {p : Int} (h : IsBig p) : 0 < p := by rw [h]; decide
theorem IsBig.lt {p : Int} (h : IsBig p) : p < 18446744073709551616 := by rw [h]; decide
theorem isBig : IsBig 18446744069414584321 := rfl

def fRed (a : UInt64) : UInt64 := a % big
def fAdd0 (a b : UInt64) : UInt64 := UInt64.ofNat ((a.toNat + b.toNat) % 18446744069414584321)
def fMul0 (a b : UInt64) : UInt64 := UInt64.ofNat ((a.toNat * b.toNat) % 18446744069414584321)
def fPow0 (a e : UInt64) : UInt64 := UInt64.ofNat ((a.toNat ^ e.toNat) % 18446744069414584321)
def fAdd (a b : UInt64) : UInt64 := fAdd0 (fRed a) (fRed b)
def fMul (a b : UInt64) : UInt64 := fMul0 (fRed a) (fRed b)
def fPow (a e : UInt64) : UInt64 := fPow0 (fRed a) e
def fNeg (a : UInt64) : UInt64 := UInt64.ofNat ((18446744069414584321 - a.toNat % 18446744069414584321) % 18446744069414584321)
def fSub (a b : UInt64) : UInt64 := fAdd a (fNeg b)

theorem toNat_ofNat_lt {n : Nat} (h : n < 18446744073709551616) : (UInt64.ofNat n).toNat = n := by
  rw [UInt64.toNat_ofNat']; exact Nat.mod_eq_of_lt h
theorem mod_big_lt (n : Nat) : n % 18446744069414584321 < 18446744069414584321 := Nat.mod_lt _ (by decide)
theorem mod_big_lt64 (n : Nat) : n % 18446744069414584321 < 18446744073709551616 := Nat.lt_trans (mod_big_lt n) (by decide)
theorem fRed_toNat (a : UInt64) : (fRed a).toNat = a.toNat % 18446744069414584321 := by
  unfold fRed; rw [UInt64.toNat_mod]; rfl
theorem fAdd0_toNat (a b : UInt64) : (fAdd0 a b).toNat = (a.toNat + b.toNat) % 18446744069414584321 := toNat_ofNat_lt (mod_big_lt64 _)
theorem fMul0_toNat (a b : UInt64) : (fMul0 a b).toNat = (a.toNat * b.toNat) % 18446744069414584321 := toNat_ofNat_lt (mod_big_lt64 _)
theorem fPow0_toNat (a b : UInt64) : (fPow0 a b).toNat = (a.toNat ^ b.toNat) % 18446744069414584321 := toNat_ofNat_lt (mod_big_lt64 _)
theorem fNeg_toNat (a : UInt64) : (fNeg a).toNat = (18446744069414584321 - a.toNat % 18446744069414584321) % 18446744069414584321 := toNat_ofNat_lt (mod_big_lt64 _)
theorem fRed_lt {p : Int} (hp : IsBig p) (a : UInt64) : ((fRed a).toNat : Int) < p := by rw [fRed_toNat, hp]; omega
theorem fAdd0_lt {p : Int} (hp : IsBig p) (a b : UInt64) : ((fAdd0 a b).toNat : Int) < p := by rw [fAdd0_toNat, hp]; omega
theorem fMul0_lt {p : Int} (hp : IsBig p) (a b : UInt64) : ((fMul0 a b).toNat : Int) < p := by rw [fMul0_toNat, hp]; omega

theorem red_ge {p : Int} (hp : IsBig p) {n : UInt64} (_h : p ≤ n.toNat) : ((n.toNat : Int) % p) = ((fRed n).toNat : Int) := by
  rw [hp, fRed_toNat]; rfl
theorem red_lt {p : Int} (hp : IsBig p) {n : UInt64} (h : (n.toNat : Int) < p) : ((n.toNat : Int)) = ((fRed n).toNat : Int) := by
  rw [hp] at h; rw [fRed_toNat]; omega

/-! ## math/bits -/
def Sm (a b : UInt64) : Nat := (a.toNat + b.toNat) % 18446744073709551616
def Cr (a b : UInt64) : Nat := (a.toNat + b.toNat) / 18446744073709551616
theorem call_add64 (a b : UInt64) (w : World) :
    (callFunc 83 #[.int .u64 a.toNat, .int .u64 b.toNat, .int .u64 0]).run Try.prog w =
      .ok (.value (.tuple #[.int .u64 (Sm a b : Nat), .int .u64 (Cr a b : Nat)])) w := by
  rw [run_callFunc_extern Try.func83 (by kernel_rfl) (by kernel_rfl) (by kernel_rfl) (e := add64Entry) (by kernel_rfl)]
  have ha := u_lt a
  have hb := u_lt b
  rw [run_add64 a.toNat b.toNat 0 (by omega) (by omega) (by omega) (by omega)]
  simp only [Result.andThen]
  unfold Sm Cr
  congr 5 <;> omega

theorem mul_bd (x y : Int) (h1 : 0 ≤ x) (h2 : x < 4294967296) (h3 : 0 ≤ y) (h4 : y < 4294967296) : 0 ≤ x * y ∧ x * y ≤ 18446744065119617025 := by
  refine ⟨Int.mul_nonneg h1 h3, ?_⟩
  have := Int.mul_le_mul (show x ≤ 4294967295 by omega) (show y ≤ 4294967295 by omega) h3 (by omega)
  omega

theorem mul64_eq (a b : Int) (a0 : 0 ≤ a) (a1 : a < 18446744073709551616) (b0 : 0 ≤ b) (b1 : b < 18446744073709551616) :
    IntKind.u64.wrap (IntKind.u64.wrap (IntKind.u64.wrap (a / 4294967296 * (b / 4294967296)) +
        IntKind.u64.wrap (IntKind.u64.wrap (a / 4294967296 * bits BinOp.and IntKind.u64 b 4294967295) +
          IntKind.u64.wrap (bits BinOp.and IntKind.u64 a 4294967295 * bits BinOp.and IntKind.u64 b 4294967295) / 4294967296) / 4294967296) +
      IntKind.u64.wrap (bits BinOp.and IntKind.u64 (IntKind.u64.wrap (IntKind.u64.wrap (a / 4294967296 * bits BinOp.and IntKind.u64 b 4294967295) +
            IntKind.u64.wrap (bits BinOp.and IntKind.u64 a 4294967295 * bits BinOp.and IntKind.u64 b 4294967295) / 4294967296)) 4294967295 +
          IntKind.u64.wrap (bits BinOp.and IntKind.u64 a 4294967295 * (b / 4294967296))) / 4294967296) = a * b / 18446744073709551616 := by
  rw [and_low32 a a0 a1, and_low32 b b0 b1]
  have hA : a = a / 4294967296 * 4294967296 + a % 4294967296 := by omega
  have hB : b = b / 4294967296 * 4294967296 + b % 4294967296 := by omega
  have hx1 : 0 ≤ a / 4294967296 ∧ a / 4294967296 < 4294967296 := by omega
  have hx0 : 0 ≤ a % 4294967296 ∧ a % 4294967296 < 4294967296 := by omega
  have hy1 : 0 ≤ b / 4294967296 ∧ b / 4294967296 < 4294967296 := by omega
  have hy0 : 0 ≤ b % 4294967296 ∧ b % 4294967296 < 4294967296 := by omega
  generalize a / 4294967296 = x1 at *
  generalize a % 4294967296 = x0 at *
  generalize b / 4294967296 = y1 at *
  generalize b % 4294967296 = y0 at *
  have e : a * b = x1 * y1 * 18446744073709551616 + x1 * y0 * 4294967296 + x0 * y1 * 4294967296 + x0 * y0 := by
    rw [hA, hB]
    simp only [Int.add_mul, Int.mul_add]
    have e1 : x1 * 4294967296 * (y1 * 4294967296) = x1 * y1 * 18446744073709551616 := by
      rw [Int.mul_assoc, Int.mul_left_comm 4294967296 y1, ← Int.mul_assoc]; rfl
    have e2 : x1 * 4294967296 * y0 = x1 * y0 * 4294967296 := by rw [Int.mul_right_comm]
    have e3 : x0 * (y1 * 4294967296) = x0 * y1 * 4294967296 := by rw [Int.mul_assoc]
    rw [e1, e2, e3]; omega
  rw [e]
  have b11 := mul_bd x1 y1 hx1.1 hx1.2 hy1.1 hy1.2
  have b10 := mul_bd x1 y0 hx1.1 hx1.2 hy0.1 hy0.2
  have b01 := mul_bd x0 y1 hx0.1 hx0.2 hy1.1 hy1.2
  have b00 := mul_bd x0 y0 hx0.1 hx0.2 hy0.1 hy0.2
  clear e hA hB hx1 hx0 hy1 hy0
  generalize x1 * y1 = p at *
  generalize x1 * y0 = q at *
  generalize x0 * y1 = r at *
  generalize x0 * y0 = s at *
  simp only [IntKind.wrap_u64]
  rw [and_low32 _ (by omega) (by omega)]
  omega

set_option maxHeartbeats 400000 in
theorem mul64_any (a b : UInt64) (w : World) :
    Calls Try.prog 84 #[.int .u64 a.toNat, .int .u64 b.toNat] w fun e w' =>
      e = .returned (.tuple #[.int .u64 ((a.toNat : Int) * b.toNat / 18446744073709551616), .int .u64 ((a.toNat : Int) * b.toNat % 18446744073709551616)]) ∧ w = w' := by
  have ha := u_lt a
  have hb := u_lt b
  have ha0 := u_pos a
  have hb0 := u_pos b
  generalize (a.toNat : Int) = x at *
  generalize (b.toNat : Int) = y at *
  have hM : Hid (_ = _) := mul64_eq x y ha0 ha hb0 hb
  clear ha hb ha0 hb0
  go_enter Try.func84, Try.ntmps84
  go_wp2
  go_ret2
  rw [← hM.out, ← IntKind.wrap_u64]
  exact ⟨rfl, rfl⟩

set_option maxRecDepth 100000 in
set_option maxHeartbeats 400000 in
theorem len64_big (w : World) :
    Calls Try.prog 95 #[.int .u64 18446744069414584321] w fun e w' => e = .returned (.int .i64 64) ∧ w = w' := by
  go_enter Try.func95, Try.ntmps95
  go_wp2
  go_ret
  exact ⟨ret_int (by kernel_rfl), rfl⟩

set_option maxHeartbeats 400000 in
theorem lead64_big (w : World) :
    Calls Try.prog 93 #[.int .u64 18446744069414584321] w fun e w' => e = .returned (.int .i64 0) ∧ w = w' := by
  go_enter Try.func93, Try.ntmps93
  go_wp2_with fail
  refine (len64_big _).mono ?_
  rintro e w' ⟨rfl, rfl⟩
  go_wp2
  go_ret
  exact ⟨rfl, rfl⟩
theorem lead64_big' (y : Int) (hy : IsBig y) (w : World) :
    Calls Try.prog 93 #[.int .u64 y] w fun e w' => e = .returned (.int .i64 0) ∧ w = w' := by rw [hy]; exact lead64_big w
/-- The remainder r is the second result. -/
def Rem (r : Int) (w : World) (e : Ending) (w' : World) : Prop := ∃ q : Int, e = .returned (.tuple #[.int .u64 q, .int .u64 r]) ∧ Ext w w'
set_option maxRecDepth 100000 in
set_option maxHeartbeats 1000000 in
theorem div64_pos (hi lo : UInt64) (y : Int) (hy : IsBig y) (h0 : 0 < (hi.toNat : Int)) (h1 : (hi.toNat : Int) < y) (w : World) :
    Calls Try.prog 85 #[.int .u64 hi.toNat, .int .u64 lo.toNat, .int .u64 y] w (Rem (((hi.toNat : Int) * 18446744073709551616 + lo.toNat) % 18446744069414584321) w) := by
  have hx : (((hi.toNat) : Int) == 0) = false := by simp; omega
  have y0 := hy.pos
  have y1 := hy.lt
  have hx2 : (y == 0) = false := by simp; omega
  have hyn1 : y / 4294967296 = 4294967295 := by rw [hy]; rfl
  have hyn0 : bits BinOp.and IntKind.u64 y 4294967295 = 1 := by rw [hy]; rfl
  have b1 := u_lt hi
  have b2 := u_lt lo
  have c1 := u_pos hi
  have c2 := u_pos lo
  generalize (hi.toNat : Int) = x at *
  generalize (lo.toNat : Int) = l at *
  have hl0 : l / 18446744073709551616 = 0 := by omega
  have hl1 : bits BinOp.and IntKind.u64 l 4294967295 = l % 4294967296 := and_low32 l c2 b2
  have hor : bits BinOp.or IntKind.u64 x 0 = x := by
    rw [show x = ((x.toNat : Nat) : Int) from by omega, show (0 : Int) = ((0 : Nat) : Int) from rfl, u64_or_nat _ _ (by omega) (by omega)]; simp
  go_enter Try.func85, Try.ntmps85
  go_wp2_with fail
  refine (lead64_big' _ hy _).mono ?_
  rintro e w' ⟨rfl, rfl⟩
  go_wp2
  go_loop [15, 16] (fun q r => ∃ Q R : Int, q = .int .u64 Q ∧ r = .int .u64 R ∧ Q * 4294967295 + R = x ∧ 0 ≤ R ∧ 0 ≤ Q ∧ R < 4294967296 ∧ Q ≤ 4294967296 ∧ x * 4294967296 + l / 4294967296 < (Q + 1) * 18446744069414584321) (fun q _ => (intOf q).toNat)
  case atStart =>
    rw [hy] at h1
    refine ⟨_, _, rfl, rfl, ?_, ?_, ?_, ?_, ?_, ?_⟩ <;> (try simp only [IntKind.wrap_u64]) <;> omega
  case round =>
    obtain ⟨Q, R, rfl, rfl, r1, r2, r3, r4, r5, r6⟩ := hrel
    by_cases hq : (4294967296 : Int) ≤ Q ∨ R * 4294967296 + l / 4294967296 < Q
    · have hR : R = 0 := by rw [hy] at h1; omega
      subst hR
      have hn : x * 4294967296 + l / 4294967296 < Q * 18446744069414584321 := by rw [hy] at h1; omega
      have hQ : 1 ≤ Q := by omega
      have R1 := hid r1
      clear r1 hl0 hor hl1 r6
      have R6 := hid hn
      clear hn
      by_cases t1 : (4294967296 : Int) ≤ Q
      · clear hq
        go_wp2
        go_round
        case rel => exact ⟨_, _, rfl, rfl, by have := R1.out; omega, by omega, by omega, by omega, by omega, by have := R6.out; rw [show Q - 1 + 1 = Q from by omega]; exact this⟩
        case measure => simp [intOf]; omega
      · have t2 : l / 4294967296 < Q := by omega
        clear hq
        go_wp2
        go_round
        case rel => exact ⟨_, _, rfl, rfl, by have := R1.out; omega, by omega, by omega, by omega, by omega, by have := R6.out; rw [show Q - 1 + 1 = Q from by omega]; exact this⟩
        case measure => simp [intOf]; omega
    · have t1 : ¬ (4294967296 : Int) ≤ Q := fun h => hq (.inl h)
      have t2 : ¬ (R * 4294967296 + l / 4294967296 < Q) := fun h => hq (.inr h)
      clear hq
      obtain ⟨T, hT⟩ : ∃ T, T = x * 4294967296 + l / 4294967296 - Q * 18446744069414584321 := ⟨_, rfl⟩
      have T0 : 0 ≤ T := by omega
      have T1 : T < y := by rw [hy]; omega
      have hTw : IntKind.u64.wrap (IntKind.u64.wrap (IntKind.u64.wrap (x * 4294967296) + l / 4294967296) - IntKind.u64.wrap (Q * y)) = T := by
        simp only [IntKind.wrap_u64]; rw [hy]; rw [hy] at T1; omega
      have HT := hid hT
      have R1 := hid r1
      clear r1 hl0 hor hl1 r6 hT
      go_wp2
      go_loop [18, 16] (fun q r => ∃ Q R : Int, q = .int .u64 Q ∧ r = .int .u64 R ∧ Q * 4294967295 + R = T ∧ 0 ≤ R ∧ 0 ≤ Q ∧ R < 4294967296 ∧ Q ≤ 4294967296 ∧ T * 4294967296 + l % 4294967296 < (Q + 1) * 18446744069414584321) (fun q _ => (intOf q).toNat)
      case atStart =>
        rw [hy] at T1
        refine ⟨_, _, rfl, rfl, ?_, ?_, ?_, ?_, ?_, ?_⟩ <;> (try simp only [IntKind.wrap_u64]) <;> omega
      case round =>
        obtain ⟨Q2, R2, rfl, rfl, s1, s2, s3, s4, s5, s6⟩ := hrel
        by_cases hq : (4294967296 : Int) ≤ Q2 ∨ R2 * 4294967296 + l % 4294967296 < Q2
        · have hR : R2 = 0 := by rw [hy] at T1; omega
          subst hR
          have hn : T * 4294967296 + l % 4294967296 < Q2 * 18446744069414584321 := by rw [hy] at T1; omega
          have hQ : 1 ≤ Q2 := by omega
          have S1 := hid s1
          clear s1 s6 hTw
          have S6 := hid hn
          clear hn
          by_cases t1 : (4294967296 : Int) ≤ Q2
          · clear hq
            go_wp2
            go_round
            case rel => exact ⟨_, _, rfl, rfl, by have := S1.out; omega, by omega, by omega, by omega, by omega, by have := S6.out; rw [show Q2 - 1 + 1 = Q2 from by omega]; exact this⟩
            case measure => simp [intOf]; omega
          · have t2 : l % 4294967296 < Q2 := by omega
            clear hq
            go_wp2
            go_round
            case rel => exact ⟨_, _, rfl, rfl, by have := S1.out; omega, by omega, by omega, by omega, by omega, by have := S6.out; rw [show Q2 - 1 + 1 = Q2 from by omega]; exact this⟩
            case measure => simp [intOf]; omega
        · have t3 : ¬ (4294967296 : Int) ≤ Q2 := fun h => hq (.inl h)
          have t4 : ¬ (R2 * 4294967296 + l % 4294967296 < Q2) := fun h => hq (.inr h)
          clear hq
          have hfin : IntKind.u64.wrap (IntKind.u64.wrap (IntKind.u64.wrap (T * 4294967296) + l % 4294967296) - IntKind.u64.wrap (Q2 * y)) = (x * 18446744073709551616 + l) % 18446744069414584321 := by
            simp only [IntKind.wrap_u64]; have := HT.out; rw [hy]; rw [hy] at T1; omega
          have HF := hid hfin
          clear hfin s1 s6
          go_wp2
          go_ret2
          rw [← HF.out]
          exact ⟨_, rfl, Ext.refl _⟩
set_option maxRecDepth 100000 in
set_option maxHeartbeats 1000000 in
theorem div64_zero (lo : UInt64) (y : Int) (hy : 0 < y) (w : World) :
    Calls Try.prog 85 #[.int .u64 0, .int .u64 lo.toNat, .int .u64 y] w (Rem ((lo.toNat : Int) % y) w) := by
  have h0 := u_pos lo
  have hy1 : (y == 0) = false := by simp; omega
  go_enter Try.func85, Try.ntmps85
  go_wp2_with fail
  go_quiet (fail)
  go_wp2
  go_ret2
  exact ⟨_, rfl, ⟨rfl, rfl, rfl, Nat.le_refl _, fun _ _ => rfl⟩⟩

def mulRem (a b : Int) : Int := a * b % 18446744069414584321
theorem div64_mul (a b : UInt64) (y : Int) (hy : IsBig y) (ha : (a.toNat : Int) < y) (hb : (b.toNat : Int) < y) (w : World) :
    Calls Try.prog 85 #[.int .u64 ((a.toNat : Int) * b.toNat / 18446744073709551616), .int .u64 ((a.toNat : Int) * b.toNat % 18446744073709551616), .int .u64 y] w (Rem (mulRem a.toNat b.toNat) w) := by
  have hab : (a.toNat : Int) * b.toNat ≤ 18446744069414584320 * 18446744069414584320 :=
    Int.mul_le_mul (by rw [hy] at ha; omega) (by rw [hy] at hb; omega) (u_pos b) (by omega)
  have h0 : 0 ≤ (a.toNat : Int) * b.toNat := Int.mul_nonneg (u_pos a) (u_pos b)
  unfold mulRem
  generalize (a.toNat : Int) * b.toNat = m at *
  have h1 : m / 18446744073709551616 < 18446744069414584321 := by omega
  have eh : (m / 18446744073709551616) = (((UInt64.ofNat (m / 18446744073709551616).toNat).toNat : Nat) : Int) := by
    rw [toNat_ofNat_lt (by omega)]; omega
  have el : (m % 18446744073709551616) = (((UInt64.ofNat (m % 18446744073709551616).toNat).toNat : Nat) : Int) := by
    rw [toNat_ofNat_lt (by omega)]; omega
  by_cases hz : m / 18446744073709551616 = 0
  · rw [hz, el]
    have hm : m % 18446744069414584321 = (((UInt64.ofNat (m % 18446744073709551616).toNat).toNat : Nat) : Int) % y := by rw [hy, ← el]; omega
    rw [hm]
    exact div64_zero _ y hy.pos w
  · have hp : 0 < m / 18446744073709551616 := by omega
    have hm : m % 18446744069414584321 = ((((UInt64.ofNat (m / 18446744073709551616).toNat).toNat : Nat) : Int) * 18446744073709551616 + ((UInt64.ofNat (m % 18446744073709551616).toNat).toNat : Nat)) % 18446744069414584321 := by rw [← eh, ← el]; omega
    rw [hm]
    rw [eh] at hp h1
    conv => arg 3; rw [el, eh]
    exact div64_pos _ _ y hy hp (by rw [hy]; exact h1) w

set_option maxHeartbeats 400000 in
theorem mul_any (p : Int) (hp : IsBig p) (a b : UInt64) (w : World) (ha : (a.toNat : Int) < p) (hb : (b.toNat : Int) < p) :
    Calls Try.prog 74 #[.agg #[.int .u64 p], .int .u64 a.toNat, .int .u64 b.toNat] w fun e w' => e = .returned (.int .u64 (fMul0 a b).toNat) ∧ Ext w w' := by
  have hfin : mulRem a.toNat b.toNat = (fMul0 a b).toNat := by
    unfold mulRem; rw [fMul0_toNat, ← Int.natCast_mul]; rfl
  go_enter Try.func74, Try.ntmps74
  go_wp2_with fail
  refine (mul64_any _ _ _).mono ?_
  rintro e w' ⟨rfl, rfl⟩
  go_wp2_with fail
  refine (div64_mul a b p hp ha hb _).mono ?_
  rintro e w' ⟨q, rfl, hw⟩
  go_wp2
  go_ret
  exact ⟨rfl, ((Ext.refl _).alloc _).trans hw⟩

end Go.Proofs.Ytkdnnekdldomeaa
namespace Go.Proofs.Ytkdnnekdldomeaa
open Go.RowKit

/-! ## package field -/
theorem keep1 {a w w' : World} {b o : Nat} {v : Value} (h : w.cell? ⟨b, o, none⟩ = some v ∧ Ext a w) (k : Ext w w') : w'.cell? ⟨b, o, none⟩ = some v ∧ Ext a w' :=
  ⟨k.cell_some h.1, h.2.trans k⟩

set_option maxHeartbeats 400000 in
theorem valid_any (p : Int) (hp : IsBig p) (w : World) :
    Calls Try.prog 60 #[.agg #[.int .u64 p]] w fun e w' => e = .returned (.bool true) ∧ Ext w w' := by
  unfold IsBig at hp
  subst hp
  go_enter Try.func60, Try.ntmps60
  go_wp2
  go_ret
  exact ⟨rfl, (Ext.refl _).alloc _⟩

set_option maxHeartbeats 400000 in
theorem reduced_any (p : Int) (hp : IsBig p) (n : UInt64) (w : World) :
    Calls Try.prog 73 #[.agg #[.int .u64 p], .int .u64 n.toNat] w fun e w' => e = .returned (.int .u64 (fRed n).toNat) ∧ Ext w w' := by
  have hp0 := hp.pos
  go_enter Try.func73, Try.ntmps73
  go_wp2
  all_goals go_ret
  · exact ⟨ret_int (red_ge hp (by assumption)), (Ext.refl _).alloc _⟩
  · exact ⟨ret_int (red_lt hp (by assumption)), (Ext.refl _).alloc _⟩

theorem add_a {p : Int} (hp : IsBig p) {a b : UInt64} (_ha : (a.toNat : Int) < p) (_hb : (b.toNat : Int) < p) (_h : Cr a b = 0) (h : p ≤ (Sm a b : Int)) : IntKind.u64.wrap ((Sm a b : Int) - p) = (fAdd0 a b).toNat := by
  rw [IntKind.wrap_u64]; rw [hp] at *; rw [fAdd0_toNat]; unfold Sm Cr at *; omega
theorem add_b {p : Int} (hp : IsBig p) {a b : UInt64} (_ha : (a.toNat : Int) < p) (_hb : (b.toNat : Int) < p) (_h : Cr a b = 0) (h : (Sm a b : Int) < p) : (Sm a b : Int) = (fAdd0 a b).toNat := by
  rw [hp] at *; rw [fAdd0_toNat]; unfold Sm Cr at *; omega
theorem add_c {p : Int} (hp : IsBig p) {a b : UInt64} (_ha : (a.toNat : Int) < p) (_hb : (b.toNat : Int) < p) (h : ¬ Cr a b = 0) : IntKind.u64.wrap ((Sm a b : Int) - p) = (fAdd0 a b).toNat := by
  rw [IntKind.wrap_u64]; rw [hp] at *; rw [fAdd0_toNat]; unfold Sm Cr at *; omega
set_option maxHeartbeats 400000 in
theorem add_any (p : Int) (hp : IsBig p) (a b : UInt64) (w : World) (ha : (a.toNat : Int) < p) (hb : (b.toNat : Int) < p) :
    Calls Try.prog 72 #[.agg #[.int .u64 p], .int .u64 a.toNat, .int .u64 b.toNat] w fun e w' => e = .returned (.int .u64 (fAdd0 a b).toNat) ∧ Ext w w' := by
  have hp0 := hp.pos
  have hp1 := hp.lt
  have hcall := call_add64 a b
  go_enter Try.func72, Try.ntmps72
  go_wp2
  all_goals go_ret
  · exact ⟨ret_int (add_a hp ha hb (by assumption) (by assumption)), (Ext.refl _).alloc _⟩
  · exact ⟨ret_int (add_b hp ha hb (by assumption) (by assumption)), (Ext.refl _).alloc _⟩
  · exact ⟨ret_int (add_c hp ha hb (by assumption)), (Ext.refl _).alloc _⟩

set_option maxHeartbeats 400000 in
theorem Add_any (p : Int) (hp : IsBig p) (a b : UInt64) (w : World) :
    Calls Try.prog 66 #[.agg #[.int .u64 p], .int .u64 a.toNat, .int .u64 b.toNat] w fun e w' => e = .returned (.int .u64 (fAdd a b).toNat) ∧ Ext w w' := by
  go_enter Try.func66, Try.ntmps66
  go_wp2_with fail
  refine (valid_any p hp _).mono ?_
  rintro e w1 ⟨rfl, hb⟩
  have hcell : w1.cell? ⟨w.heap.size, 0, none⟩ = some (.int .u64 p) := hb.cell_some (by simp)
  go_wp2_with fail
  go_region_held3 (fun w' => w'.cell? ⟨w.heap.size, 0, none⟩ = some (.int .u64 p) ∧ Ext w1 w')
    (first | exact ⟨hcell, (Ext.refl _).drew⟩ | exact keep1 ‹_ ∧ _› hb2)
    (first | (go_at_call_of 73 (Value.int .u64 a.toNat); refine (reduced_any p hp a _).mono ?_; rintro e w2 ⟨rfl, hb2⟩)
           | (go_at_call_of 73 (Value.int .u64 b.toNat); refine (reduced_any p hp b _).mono ?_; rintro e w2 ⟨rfl, hb2⟩)
           | (go_at_call 72; refine (add_any p hp (fRed a) (fRed b) _ (fRed_lt hp a) (fRed_lt hp b)).mono ?_; rintro e w2 ⟨rfl, hb2⟩))
  go_wp2
  go_ret
  exact ⟨rfl, (((Ext.refl _).alloc _).trans hb).trans (And.right ‹_ ∧ _›)⟩

set_option maxHeartbeats 400000 in
theorem Mul_any (p : Int) (hp : IsBig p) (a b : UInt64) (w : World) :
    Calls Try.prog 67 #[.agg #[.int .u64 p], .int .u64 a.toNat, .int .u64 b.toNat] w fun e w' => e = .returned (.int .u64 (fMul a b).toNat) ∧ Ext w w' := by
  go_enter Try.func67, Try.ntmps67
  go_wp2_with fail
  refine (valid_any p hp _).mono ?_
  rintro e w1 ⟨rfl, hb⟩
  have hcell : w1.cell? ⟨w.heap.size, 0, none⟩ = some (.int .u64 p) := hb.cell_some (by simp)
  go_wp2_with fail
  go_region_held3 (fun w' => w'.cell? ⟨w.heap.size, 0, none⟩ = some (.int .u64 p) ∧ Ext w1 w')
    (first | exact ⟨hcell, (Ext.refl _).drew⟩ | exact keep1 ‹_ ∧ _› hb2)
    (first | (go_at_call_of 73 (Value.int .u64 a.toNat); refine (reduced_any p hp a _).mono ?_; rintro e w2 ⟨rfl, hb2⟩)
           | (go_at_call_of 73 (Value.int .u64 b.toNat); refine (reduced_any p hp b _).mono ?_; rintro e w2 ⟨rfl, hb2⟩)
           | (go_at_call 74; refine (mul_any p hp (fRed a) (fRed b) _ (fRed_lt hp a) (fRed_lt hp b)).mono ?_; rintro e w2 ⟨rfl, hb2⟩))
  go_wp2
  go_ret
  exact ⟨rfl, (((Ext.refl _).alloc _).trans hb).trans (And.right ‹_ ∧ _›)⟩

/-! the power: the loop keeps 'result * a ^ e' -/
def powInv (a e r x y : UInt64) : Prop := (r.toNat * x.toNat ^ y.toNat) % 18446744069414584321 = (a.toNat ^ e.toNat) % 18446744069414584321
theorem half_u (y : UInt64) : (y / 2).toNat = y.toNat / 2 := by rw [UInt64.toNat_div]; rfl
theorem pow_odd {a e r x y : UInt64} (h : powInv a e r x y) (ho : y.toNat % 2 = 1) : powInv a e (fMul0 r x) (fMul0 x x) (y / 2) := by
  unfold powInv at *
  rw [fMul0_toNat, fMul0_toNat, half_u, ← h]
  rw [Nat.mul_mod, Nat.mod_mod, Nat.pow_mod, Nat.mod_mod, ← Nat.pow_mod, ← Nat.mul_mod]
  have e1 : x.toNat ^ y.toNat = x.toNat * (x.toNat * x.toNat) ^ (y.toNat / 2) := by
    conv => lhs; rw [show y.toNat = 2 * (y.toNat / 2) + 1 from by omega, Nat.pow_succ, Nat.pow_mul, Nat.pow_two, Nat.mul_comm]
  rw [e1, Nat.mul_assoc]
theorem pow_even {a e r x y : UInt64} (h : powInv a e r x y) (ho : y.toNat % 2 = 0) : powInv a e r (fMul0 x x) (y / 2) := by
  unfold powInv at *
  rw [fMul0_toNat, half_u, ← h]
  rw [Nat.mul_mod, Nat.pow_mod, Nat.mod_mod, ← Nat.pow_mod, ← Nat.mul_mod]
  have e1 : x.toNat ^ y.toNat = (x.toNat * x.toNat) ^ (y.toNat / 2) := by
    conv => lhs; rw [show y.toNat = 2 * (y.toNat / 2) from by omega, Nat.pow_mul, Nat.pow_two]
  rw [e1]
theorem pow_last_odd {a e r x y : UInt64} (h : powInv a e r x y) (ho : y.toNat = 1) : powInv a e (fMul0 r x) x (y / 2) := by
  unfold powInv at *
  rw [fMul0_toNat, half_u, ← h, ho]; simp
theorem powInv_zero {a e r x y : UInt64} (h : powInv a e r x y) (h0 : y.toNat = 0) {p : Int} (hp : IsBig p) (hr : (r.toNat : Int) < p) : r = fPow0 a e := by
  unfold powInv at h
  apply UInt64.toNat_inj.1
  rw [fPow0_toNat, ← h, h0]
  rw [hp] at hr
  simp; omega
theorem powInv_start (a e : UInt64) : powInv a e 1 a e := by unfold powInv; simp
theorem shr1_u (y : UInt64) : ((y.toNat : Int) / 2) = ((y / 2).toNat : Int) := by rw [half_u]; omega
theorem one_lt_big {p : Int} (hp : IsBig p) : (((1 : UInt64).toNat : Nat) : Int) < p := by rw [hp]; decide

set_option maxHeartbeats 1000000 in
theorem pow_any (p : Int) (hp : IsBig p) (a b : UInt64) (w : World) (ha : (a.toNat : Int) < p) :
    Calls Try.prog 87 #[.agg #[.int .u64 p], .int .u64 a.toNat, .int .u64 b.toNat] w fun e w' => e = .returned (.int .u64 (fPow0 a b).toNat) ∧ Ext w w' := by
  go_enter Try.func87, Try.ntmps87
  go_wp2
  go_loopw [1, 2, 7] (fun xv yv rv wr => ∃ x y r : UInt64, xv = .int .u64 x.toNat ∧ yv = .int .u64 y.toNat ∧ rv = .int .u64 r.toNat ∧ powInv a b r x y ∧ (x.toNat : Int) < p ∧ (r.toNat : Int) < p ∧ wr.cell? ⟨w.heap.size, 0, none⟩ = some (.int .u64 p) ∧ Ext w wr) (fun _ yv _ _ => (intOf yv).toNat)
  case atStart => exact ⟨a, b, 1, rfl, rfl, rfl, powInv_start a b, ha, one_lt_big hp, by simp, (Ext.refl _).alloc _⟩
  case round =>
    obtain ⟨x, y, r, rfl, rfl, rfl, hI, hx, hr, hcell, hE⟩ := hrel
    clear ha
    have HI := hid hI
    clear hI
    by_cases hz : (y.toNat : Int) = 0
    · have hz' : ¬ (0 : Int) < y.toNat := by omega
      have hfin := powInv_zero HI.out (by omega) hp hr
      subst hfin
      clear hz
      go_wp2
      go_ret
      exact ⟨rfl, hE⟩
    · have hz' : (0 : Int) < y.toNat := by omega
      clear hz
      have hand : bits BinOp.and IntKind.u64 (y.toNat : Int) 1 = (y.toNat : Int) % 2 := and_one_u64 _ (u_pos y) (by have := u_lt y; omega)
      obtain ⟨z, hzz⟩ : ∃ z : UInt64, z = y / 2 := ⟨_, rfl⟩
      have hsh := shr1_u y
      have hzn : (z.toNat : Int) = (y.toNat : Int) / 2 := by rw [hzz, half_u]; omega
      rw [← hzz] at hsh
      by_cases h1 : (y.toNat : Int) = 1
      · have ho : ((y.toNat : Int) % 2 == 1) = true := by simp; omega
        have hy2 : (z.toNat : Int) = 0 := by omega
        have H1 : Hid (powInv a b (fMul0 r x) x z) := by rw [hzz]; exact pow_last_odd HI.out (by omega)
        clear h1 hzz hzn
        go_wp2_with fail
        refine (mul_any p hp r x _ hr hx).mono ?_
        rintro e w2 ⟨rfl, hb2⟩
        have hc2 := hb2.cell_some hcell
        clear hcell
        go_wp2
        go_roundw
        case rel => exact ⟨x, z, fMul0 r x, rfl, by rw [hy2], rfl, H1.out, hx, fMul0_lt hp _ _, hc2, hE.trans hb2⟩
        case measure => simp [intOf]; omega
      · have hlt : (z.toNat : Int) < y.toNat := by omega
        have hpos : 0 < (z.toNat : Int) := by omega
        by_cases ho2 : (y.toNat : Int) % 2 = 1
        · have ho : ((y.toNat : Int) % 2 == 1) = true := by simp; omega
          have H1 : Hid (powInv a b (fMul0 r x) (fMul0 x x) z) := by rw [hzz]; exact pow_odd HI.out (by omega)
          clear h1 ho2 hzz hzn
          go_wp2_with fail
          refine (mul_any p hp r x _ hr hx).mono ?_
          rintro e w2 ⟨rfl, hb2⟩
          have hc2 := hb2.cell_some hcell
          clear hcell
          go_wp2_with fail
          refine (mul_any p hp x x _ hx hx).mono ?_
          rintro e w3 ⟨rfl, hb3⟩
          have hc3 := hb3.cell_some hc2
          clear hc2
          go_wp2
          go_roundw
          case rel => exact ⟨fMul0 x x, z, fMul0 r x, rfl, rfl, rfl, H1.out, fMul0_lt hp _ _, fMul0_lt hp _ _, hc3, (hE.trans hb2).trans hb3⟩
          case measure => simp [intOf]; omega
        · have ho : ((y.toNat : Int) % 2 == 1) = false := by simp; omega
          have H1 : Hid (powInv a b r (fMul0 x x) z) := by rw [hzz]; exact pow_even HI.out (by omega)
          clear h1 ho2 hzz hzn
          go_wp2_with fail
          refine (mul_any p hp x x _ hx hx).mono ?_
          rintro e w3 ⟨rfl, hb3⟩
          have hc3 := hb3.cell_some hcell
          clear hcell
          go_wp2
          go_roundw
          case rel => exact ⟨fMul0 x x, z, r, rfl, rfl, rfl, H1.out, fMul0_lt hp _ _, hr, hc3, hE.trans hb3⟩
          case measure => simp [intOf]; omega

set_option maxHeartbeats 400000 in
theorem Pow_any (p : Int) (hp : IsBig p) (a b : UInt64) (w : World) :
    Calls Try.prog 76 #[.agg #[.int .u64 p], .int .u64 a.toNat, .int .u64 b.toNat] w fun e w' => e = .returned (.int .u64 (fPow a b).toNat) ∧ Ext w w' := by
  go_enter Try.func76, Try.ntmps76
  go_wp2_with fail
  refine (valid_any p hp _).mono ?_
  rintro e w1 ⟨rfl, hb⟩
  have hcell : w1.cell? ⟨w.heap.size, 0, none⟩ = some (.int .u64 p) := hb.cell_some (by simp)
  go_wp2_with fail
  go_region_held3 (fun w' => w'.cell? ⟨w.heap.size, 0, none⟩ = some (.int .u64 p) ∧ Ext w1 w')
    (first | exact ⟨hcell, (Ext.refl _).drew⟩ | exact keep1 ‹_ ∧ _› hb2)
    (first | (go_at_call 73; refine (reduced_any p hp a _).mono ?_; rintro e w2 ⟨rfl, hb2⟩)
           | (go_at_call 87; refine (pow_any p hp (fRed a) b _ (fRed_lt hp a)).mono ?_; rintro e w2 ⟨rfl, hb2⟩))
  go_wp2
  go_ret
  exact ⟨rfl, (((Ext.refl _).alloc _).trans hb).trans (And.right ‹_ ∧ _›)⟩

set_option maxHeartbeats 400000 in
theorem Reduce_any (p : Int) (hp : IsBig p) (a : UInt64) (w : World) :
    Calls Try.prog 88 #[.agg #[.int .u64 p], .int .u64 a.toNat] w fun e w' => e = .returned (.int .u64 (fRed a).toNat) ∧ Ext w w' := by
  go_enter Try.func88, Try.ntmps88
  go_wp2_with fail
  refine (valid_any p hp _).mono ?_
  rintro e w1 ⟨rfl, hb⟩
  have hcell : w1.cell? ⟨w.heap.size, 0, none⟩ = some (.int .u64 p) := hb.cell_some (by simp)
  go_wp2_with fail
  refine (reduced_any p hp a _).mono ?_
  rintro e w2 ⟨rfl, hb2⟩
  go_wp2
  go_ret
  exact ⟨rfl, (((Ext.refl _).alloc _).trans hb).trans hb2⟩

theorem neg_zero {a : UInt64} (h : ((fRed a).toNat : Int) = 0) : (0 : Int) = ((fNeg a).toNat : Int) := by
  rw [fRed_toNat] at h; rw [fNeg_toNat]; omega
theorem neg_pos {p : Int} (hp : IsBig p) {a : UInt64} (h : ¬ ((fRed a).toNat : Int) = 0) : p - ((fRed a).toNat : Int) = ((fNeg a).toNat : Int) := by
  rw [hp]; rw [fRed_toNat] at *; rw [fNeg_toNat]; omega
set_option maxHeartbeats 400000 in
theorem numbers_any (p : Int) (hp : IsBig p) (w : World) :
    Calls Try.prog 86 #[.agg #[.int .u64 p]] w fun e w' => e = .returned (.tuple #[.int .u64 7, .int .i64 32, .int .u64 7]) ∧ Ext w w' := by
  unfold IsBig at hp
  subst hp
  go_enter Try.func86, Try.ntmps86
  go_wp2
  go_ret3
  exact ⟨rfl, (Ext.refl _).alloc _⟩

set_option maxHeartbeats 400000 in
theorem Exponent_any (p : Int) (hp : IsBig p) (w : World) :
    Calls Try.prog 75 #[.agg #[.int .u64 p]] w fun e w' => e = .returned (.int .u64 7) ∧ Ext w w' := by
  go_enter Try.func75, Try.ntmps75
  go_wp2_with fail
  refine (numbers_any p hp _).mono ?_
  rintro e w1 ⟨rfl, hb⟩
  go_wp2
  go_ret
  exact ⟨rfl, ((Ext.refl _).alloc _).trans hb⟩
end Go.Proofs.Ytkdnnekdldomeaa
