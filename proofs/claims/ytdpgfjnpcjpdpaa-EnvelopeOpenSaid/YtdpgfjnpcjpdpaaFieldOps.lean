/- The operations of package field over the prime 2^64 - 2^32 + 1, each by its plain law. -/
import Derived.Test.YtdpgfjnpcjpdpaaField
namespace Go.Proofs.Ytdpgfjnpcjpdpaa
open Go.RowKit

/-! ## package field -/
theorem keep1 {a w w' : World} {b o : Nat} {v : Value} (h : w.cell? ⟨b, o, none⟩ = some v ∧ Ext a w) (k : Ext w w') : w'.cell? ⟨b, o, none⟩ = some v ∧ Ext a w' :=
  ⟨k.cell_some h.1, h.2.trans k⟩

set_option maxHeartbeats 400000 in
theorem valid_any (p : Int) (hp : IsBig p) (w : World) :
    Calls Try.prog 134 #[.agg #[.int .u64 p]] w fun e w' => e = .returned (.bool true) ∧ Ext w w' := by
  unfold IsBig at hp
  subst hp
  go_enter Try.func134, Try.ntmps134
  go_wp2
  go_ret
  exact ⟨rfl, (Ext.refl _).alloc _⟩

set_option maxHeartbeats 400000 in
theorem reduced_any (p : Int) (hp : IsBig p) (n : UInt64) (w : World) :
    Calls Try.prog 138 #[.agg #[.int .u64 p], .int .u64 n.toNat] w fun e w' => e = .returned (.int .u64 (fRed n).toNat) ∧ Ext w w' := by
  have hp0 := hp.pos
  go_enter Try.func138, Try.ntmps138
  go_wp2
  all_goals go_ret
  · exact ⟨ret_int (red_ge hp (by assumption)), (Ext.refl _).alloc _⟩
  · exact ⟨ret_int (red_lt hp (by assumption)), (Ext.refl _).alloc _⟩

theorem add_a {p : Int} (hp : IsBig p) {a b : UInt64} (_ha : (a.toNat : Int) < p) (_hb : (b.toNat : Int) < p) (_h : Cr a b = 0) (h : p ≤ (Sm a b : Int)) : IntKind.u64.wrap ((Sm a b : Int) - p) = (fAdd0 a b).toNat := by
  rw [IntKind.wrap_u64]; rw [hp] at *; rw [fAdd0_toNat]; unfold Sm Cr at *; omega
theorem add_b {p : Int} (hp : IsBig p) {a b : UInt64} (_ha : (a.toNat : Int) < p) (_hb : (b.toNat : Int) < p) (_h : Cr a b = 0) (h : (Sm a b : Int) < p) : (Sm a b : Int) = (fAdd0 a b).toNat := by
  rw [hp] at *; rw [fAdd0_toNat]; unfold Sm Cr at *; omega
theorem add_c {p : Int} (hp : IsBig p) {a b : UInt64} (_ha : (a.toNat : Int) < p) (_hb : (b.toNat : Int) < p) (h : ¬ Cr a b = 0) : IntKind.u64.wrap ((Sm a b : Int) - p) = (fAdd0 a b).toNat := by
  rw [IntKind.wrap_u64]; rw [hp] at *; rw [fAdd0_toNat]; unfold Sm Cr at *; omega
set_option maxHeartbeats 400000 in
theorem add_any (p : Int) (hp : IsBig p) (a b : UInt64) (w : World) (ha : (a.toNat : Int) < p) (hb : (b.toNat : Int) < p) :
    Calls Try.prog 137 #[.agg #[.int .u64 p], .int .u64 a.toNat, .int .u64 b.toNat] w fun e w' => e = .returned (.int .u64 (fAdd0 a b).toNat) ∧ Ext w w' := by
  have hp0 := hp.pos
  have hp1 := hp.lt
  have hcall := call_add64 a b
  go_enter Try.func137, Try.ntmps137
  go_wp2
  all_goals go_ret
  · exact ⟨ret_int (add_a hp ha hb (by assumption) (by assumption)), (Ext.refl _).alloc _⟩
  · exact ⟨ret_int (add_b hp ha hb (by assumption) (by assumption)), (Ext.refl _).alloc _⟩
  · exact ⟨ret_int (add_c hp ha hb (by assumption)), (Ext.refl _).alloc _⟩

set_option maxHeartbeats 400000 in
theorem Add_any (p : Int) (hp : IsBig p) (a b : UInt64) (w : World) :
    Calls Try.prog 118 #[.agg #[.int .u64 p], .int .u64 a.toNat, .int .u64 b.toNat] w fun e w' => e = .returned (.int .u64 (fAdd a b).toNat) ∧ Ext w w' := by
  go_enter Try.func118, Try.ntmps118
  go_wp2_with fail
  refine (valid_any p hp _).mono ?_
  rintro e w1 ⟨rfl, hb⟩
  have hcell : w1.cell? ⟨w.heap.size, 0, none⟩ = some (.int .u64 p) := hb.cell_some (by simp)
  go_wp2_with fail
  go_region_held3 (fun w' => w'.cell? ⟨w.heap.size, 0, none⟩ = some (.int .u64 p) ∧ Ext w1 w')
    (first | exact ⟨hcell, (Ext.refl _).drew⟩ | exact keep1 ‹_ ∧ _› hb2)
    (first | (go_at_call_of 138 (Value.int .u64 a.toNat); refine (reduced_any p hp a _).mono ?_; rintro e w2 ⟨rfl, hb2⟩)
           | (go_at_call_of 138 (Value.int .u64 b.toNat); refine (reduced_any p hp b _).mono ?_; rintro e w2 ⟨rfl, hb2⟩)
           | (go_at_call 137; refine (add_any p hp (fRed a) (fRed b) _ (fRed_lt hp a) (fRed_lt hp b)).mono ?_; rintro e w2 ⟨rfl, hb2⟩))
  go_wp2
  go_ret
  exact ⟨rfl, (((Ext.refl _).alloc _).trans hb).trans (And.right ‹_ ∧ _›)⟩

set_option maxHeartbeats 400000 in
theorem Mul_any (p : Int) (hp : IsBig p) (a b : UInt64) (w : World) :
    Calls Try.prog 154 #[.agg #[.int .u64 p], .int .u64 a.toNat, .int .u64 b.toNat] w fun e w' => e = .returned (.int .u64 (fMul a b).toNat) ∧ Ext w w' := by
  go_enter Try.func154, Try.ntmps154
  go_wp2_with fail
  refine (valid_any p hp _).mono ?_
  rintro e w1 ⟨rfl, hb⟩
  have hcell : w1.cell? ⟨w.heap.size, 0, none⟩ = some (.int .u64 p) := hb.cell_some (by simp)
  go_wp2_with fail
  go_region_held3 (fun w' => w'.cell? ⟨w.heap.size, 0, none⟩ = some (.int .u64 p) ∧ Ext w1 w')
    (first | exact ⟨hcell, (Ext.refl _).drew⟩ | exact keep1 ‹_ ∧ _› hb2)
    (first | (go_at_call_of 138 (Value.int .u64 a.toNat); refine (reduced_any p hp a _).mono ?_; rintro e w2 ⟨rfl, hb2⟩)
           | (go_at_call_of 138 (Value.int .u64 b.toNat); refine (reduced_any p hp b _).mono ?_; rintro e w2 ⟨rfl, hb2⟩)
           | (go_at_call 165; refine (mul_any p hp (fRed a) (fRed b) _ (fRed_lt hp a) (fRed_lt hp b)).mono ?_; rintro e w2 ⟨rfl, hb2⟩))
  go_wp2
  go_ret
  exact ⟨rfl, (((Ext.refl _).alloc _).trans hb).trans (And.right ‹_ ∧ _›)⟩

/-! the power: the loop keeps 'result * a ^ e' -/
def powInv (a e r x y : UInt64) : Prop := (r.toNat * x.toNat ^ y.toNat) % 18446744069414584321 = (a.toNat ^ e.toNat) % 18446744069414584321
theorem half_u (y : UInt64) : (y / 2).toNat = y.toNat / 2 := by rw [UInt64.toNat_div]; rfl
theorem pow_odd {a e r x y : UInt64} (h : powInv a e r x y) (ho : y.toNat % 2 = 1) : powInv a e (fMul0 r x) (fMul0 x x) (y / 2) := by
  unfold powInv at *
  rw [fMul0_toNat, fMul0_toNat, half_u, ← h]
  rw [Nat.mul_mod, Nat.mod_mod, Nat.pow_mod, Nat.mod_mod, ← Nat.pow_mod, ← Nat.mul_mod]
  have e1 : x.toNat ^ y.toNat = x.toNat * (x.toNat * x.toNat) ^ (y.toNat / 2) := by
    conv => lhs; rw [show y.toNat = 2 * (y.toNat / 2) + 1 from by omega, Nat.pow_succ, Nat.pow_mul, Nat.pow_two, Nat.mul_comm]
  rw [e1, Nat.mul_assoc]
theorem pow_even {a e r x y : UInt64} (h : powInv a e r x y) (ho : y.toNat % 2 = 0) : powInv a e r (fMul0 x x) (y / 2) := by
  unfold powInv at *
  rw [fMul0_toNat, half_u, ← h]
  rw [Nat.mul_mod, Nat.pow_mod, Nat.mod_mod, ← Nat.pow_mod, ← Nat.mul_mod]
  have e1 : x.toNat ^ y.toNat = (x.toNat * x.toNat) ^ (y.toNat / 2) := by
    conv => lhs; rw [show y.toNat = 2 * (y.toNat / 2) from by omega, Nat.pow_mul, Nat.pow_two]
  rw [e1]
theorem pow_last_odd {a e r x y : UInt64} (h : powInv a e r x y) (ho : y.toNat = 1) : powInv a e (fMul0 r x) x (y / 2) := by
  unfold powInv at *
  rw [fMul0_toNat, half_u, ← h, ho]; simp
theorem powInv_zero {a e r x y : UInt64} (h : powInv a e r x y) (h0 : y.toNat = 0) {p : Int} (hp : IsBig p) (hr : (r.toNat : Int) < p) : r = fPow0 a e := by
  unfold powInv at h
  apply UInt64.toNat_inj.1
  rw [fPow0_toNat, ← h, h0]
  rw [hp] at hr
  simp; omega
theorem powInv_start (a e : UInt64) : powInv a e 1 a e := by unfold powInv; simp
theorem shr1_u (y : UInt64) : ((y.toNat : Int) / 2) = ((y / 2).toNat : Int) := by rw [half_u]; omega
theorem one_lt_big {p : Int} (hp : IsBig p) : (((1 : UInt64).toNat : Nat) : Int) < p := by rw [hp]; decide

set_option maxHeartbeats 1000000 in
theorem pow_any (p : Int) (hp : IsBig p) (a b : UInt64) (w : World) (ha : (a.toNat : Int) < p) :
    Calls Try.prog 159 #[.agg #[.int .u64 p], .int .u64 a.toNat, .int .u64 b.toNat] w fun e w' => e = .returned (.int .u64 (fPow0 a b).toNat) ∧ Ext w w' := by
  go_enter Try.func159, Try.ntmps159
  go_wp2
  go_loopw [1, 2, 7] (fun xv yv rv wr => ∃ x y r : UInt64, xv = .int .u64 x.toNat ∧ yv = .int .u64 y.toNat ∧ rv = .int .u64 r.toNat ∧ powInv a b r x y ∧ (x.toNat : Int) < p ∧ (r.toNat : Int) < p ∧ wr.cell? ⟨w.heap.size, 0, none⟩ = some (.int .u64 p) ∧ Ext w wr) (fun _ yv _ _ => (intOf yv).toNat)
  case atStart => exact ⟨a, b, 1, rfl, rfl, rfl, powInv_start a b, ha, one_lt_big hp, by simp, (Ext.refl _).alloc _⟩
  case round =>
    obtain ⟨x, y, r, rfl, rfl, rfl, hI, hx, hr, hcell, hE⟩ := hrel
    clear ha
    have HI := hid hI
    clear hI
    by_cases hz : (y.toNat : Int) = 0
    · have hz' : ¬ (0 : Int) < y.toNat := by omega
      have hfin := powInv_zero HI.out (by omega) hp hr
      subst hfin
      clear hz
      go_wp2
      go_ret
      exact ⟨rfl, hE⟩
    · have hz' : (0 : Int) < y.toNat := by omega
      clear hz
      have hand : bits BinOp.and IntKind.u64 (y.toNat : Int) 1 = (y.toNat : Int) % 2 := and_one_u64 _ (u_pos y) (by have := u_lt y; omega)
      obtain ⟨z, hzz⟩ : ∃ z : UInt64, z = y / 2 := ⟨_, rfl⟩
      have hsh := shr1_u y
      have hzn : (z.toNat : Int) = (y.toNat : Int) / 2 := by rw [hzz, half_u]; omega
      rw [← hzz] at hsh
      by_cases h1 : (y.toNat : Int) = 1
      · have ho : ((y.toNat : Int) % 2 == 1) = true := by simp; omega
        have hy2 : (z.toNat : Int) = 0 := by omega
        have H1 : Hid (powInv a b (fMul0 r x) x z) := by rw [hzz]; exact pow_last_odd HI.out (by omega)
        clear h1 hzz hzn
        go_wp2_with fail
        refine (mul_any p hp r x _ hr hx).mono ?_
        rintro e w2 ⟨rfl, hb2⟩
        have hc2 := hb2.cell_some hcell
        clear hcell
        go_wp2
        go_roundw
        case rel => exact ⟨x, z, fMul0 r x, rfl, by rw [hy2], rfl, H1.out, hx, fMul0_lt hp _ _, hc2, hE.trans hb2⟩
        case measure => simp [intOf]; omega
      · have hlt : (z.toNat : Int) < y.toNat := by omega
        have hpos : 0 < (z.toNat : Int) := by omega
        by_cases ho2 : (y.toNat : Int) % 2 = 1
        · have ho : ((y.toNat : Int) % 2 == 1) = true := by simp; omega
          have H1 : Hid (powInv a b (fMul0 r x) (fMul0 x x) z) := by rw [hzz]; exact pow_odd HI.out (by omega)
          clear h1 ho2 hzz hzn
          go_wp2_with fail
          refine (mul_any p hp r x _ hr hx).mono ?_
          rintro e w2 ⟨rfl, hb2⟩
          have hc2 := hb2.cell_some hcell
          clear hcell
          go_wp2_with fail
          refine (mul_any p hp x x _ hx hx).mono ?_
          rintro e w3 ⟨rfl, hb3⟩
          have hc3 := hb3.cell_some hc2
          clear hc2
          go_wp2
          go_roundw
          case rel => exact ⟨fMul0 x x, z, fMul0 r x, rfl, rfl, rfl, H1.out, fMul0_lt hp _ _, fMul0_lt hp _ _, hc3, (hE.trans hb2).trans hb3⟩
          case measure => simp [intOf]; omega
        · have ho : ((y.toNat : Int) % 2 == 1) = false := by simp; omega
          have H1 : Hid (powInv a b r (fMul0 x x) z) := by rw [hzz]; exact pow_even HI.out (by omega)
          clear h1 ho2 hzz hzn
          go_wp2_with fail
          refine (mul_any p hp x x _ hx hx).mono ?_
          rintro e w3 ⟨rfl, hb3⟩
          have hc3 := hb3.cell_some hcell
          clear hcell
          go_wp2
          go_roundw
          case rel => exact ⟨fMul0 x x, z, r, rfl, rfl, rfl, H1.out, fMul0_lt hp _ _, hr, hc3, hE.trans hb3⟩
          case measure => simp [intOf]; omega

set_option maxHeartbeats 400000 in
theorem Pow_any (p : Int) (hp : IsBig p) (a b : UInt64) (w : World) :
    Calls Try.prog 140 #[.agg #[.int .u64 p], .int .u64 a.toNat, .int .u64 b.toNat] w fun e w' => e = .returned (.int .u64 (fPow a b).toNat) ∧ Ext w w' := by
  go_enter Try.func140, Try.ntmps140
  go_wp2_with fail
  refine (valid_any p hp _).mono ?_
  rintro e w1 ⟨rfl, hb⟩
  have hcell : w1.cell? ⟨w.heap.size, 0, none⟩ = some (.int .u64 p) := hb.cell_some (by simp)
  go_wp2_with fail
  go_region_held3 (fun w' => w'.cell? ⟨w.heap.size, 0, none⟩ = some (.int .u64 p) ∧ Ext w1 w')
    (first | exact ⟨hcell, (Ext.refl _).drew⟩ | exact keep1 ‹_ ∧ _› hb2)
    (first | (go_at_call 138; refine (reduced_any p hp a _).mono ?_; rintro e w2 ⟨rfl, hb2⟩)
           | (go_at_call 159; refine (pow_any p hp (fRed a) b _ (fRed_lt hp a)).mono ?_; rintro e w2 ⟨rfl, hb2⟩))
  go_wp2
  go_ret
  exact ⟨rfl, (((Ext.refl _).alloc _).trans hb).trans (And.right ‹_ ∧ _›)⟩

set_option maxHeartbeats 400000 in
theorem Reduce_any (p : Int) (hp : IsBig p) (a : UInt64) (w : World) :
    Calls Try.prog 155 #[.agg #[.int .u64 p], .int .u64 a.toNat] w fun e w' => e = .returned (.int .u64 (fRed a).toNat) ∧ Ext w w' := by
  go_enter Try.func155, Try.ntmps155
  go_wp2_with fail
  refine (valid_any p hp _).mono ?_
  rintro e w1 ⟨rfl, hb⟩
  have hcell : w1.cell? ⟨w.heap.size, 0, none⟩ = some (.int .u64 p) := hb.cell_some (by simp)
  go_wp2_with fail
  refine (reduced_any p hp a _).mono ?_
  rintro e w2 ⟨rfl, hb2⟩
  go_wp2
  go_ret
  exact ⟨rfl, (((Ext.refl _).alloc _).trans hb).trans hb2⟩

theorem neg_zero {a : UInt64} (h : ((fRed a).toNat : Int) = 0) : (0 : Int) = ((fNeg a).toNat : Int) := by
  rw [fRed_toNat] at h; rw [fNeg_toNat]; omega
theorem neg_pos {p : Int} (hp : IsBig p) {a : UInt64} (h : ¬ ((fRed a).toNat : Int) = 0) : p - ((fRed a).toNat : Int) = ((fNeg a).toNat : Int) := by
  rw [hp]; rw [fRed_toNat] at *; rw [fNeg_toNat]; omega
set_option maxHeartbeats 400000 in
theorem Neg_any (p : Int) (hp : IsBig p) (a : UInt64) (w : World) :
    Calls Try.prog 162 #[.agg #[.int .u64 p], .int .u64 a.toNat] w fun e w' => e = .returned (.int .u64 (fNeg a).toNat) ∧ Ext w w' := by
  have hlt := fRed_lt hp a
  have hp1 := hp.lt
  go_enter Try.func162, Try.ntmps162
  go_wp2_with fail
  refine (Reduce_any p hp a _).mono ?_
  rintro e w1 ⟨rfl, hb⟩
  have hcell : w1.cell? ⟨w.heap.size, 0, none⟩ = some (.int .u64 p) := hb.cell_some (by simp)
  by_cases hz : ((fRed a).toNat : Int) = 0
  · have hfin := neg_zero hz
    have hz1 : (((fRed a).toNat : Int) == 0) = true := by simp; omega
    have HF := hid hfin
    clear hz hfin
    go_wp2
    go_ret
    exact ⟨ret_int HF.out, ((Ext.refl _).alloc _).trans hb⟩
  · have hfin := neg_pos hp hz
    have hz1 : (((fRed a).toNat : Int) == 0) = false := by simp; omega
    have HF := hid hfin
    clear hz hfin
    go_wp2
    go_ret
    exact ⟨ret_int HF.out, ((Ext.refl _).alloc _).trans hb⟩

set_option maxHeartbeats 400000 in
theorem Sub_any (p : Int) (hp : IsBig p) (a b : UInt64) (w : World) :
    Calls Try.prog 147 #[.agg #[.int .u64 p], .int .u64 a.toNat, .int .u64 b.toNat] w fun e w' => e = .returned (.int .u64 (fSub a b).toNat) ∧ Ext w w' := by
  have hcell : (w.alloc (.cells #[.int .u64 p] 176)).cell? ⟨w.heap.size, 0, none⟩ = some (.int .u64 p) := by simp
  go_enter Try.func147, Try.ntmps147
  go_wp2_with fail
  have hE : Ext w (w.alloc (.cells #[.int .u64 p] 176)) := (Ext.refl _).alloc _
  generalize w.alloc (.cells #[.int .u64 p] 176) = w0 at *
  go_region_held3 (fun w' => w'.cell? ⟨w.heap.size, 0, none⟩ = some (.int .u64 p) ∧ Ext w0 w')
    (first | exact ⟨hcell, (Ext.refl _).drew⟩ | exact keep1 ‹_ ∧ _› hb2)
    (first | (go_at_call 162; refine (Neg_any p hp b _).mono ?_; rintro e w2 ⟨rfl, hb2⟩)
           | (go_at_call 118; refine (Add_any p hp a (fNeg b) _).mono ?_; rintro e w2 ⟨rfl, hb2⟩))
  go_wp2
  go_ret
  exact ⟨rfl, hE.trans (And.right ‹_ ∧ _›)⟩

set_option maxHeartbeats 400000 in
theorem numbers_any (p : Int) (hp : IsBig p) (w : World) :
    Calls Try.prog 158 #[.agg #[.int .u64 p]] w fun e w' => e = .returned (.tuple #[.int .u64 7, .int .i64 32, .int .u64 7]) ∧ Ext w w' := by
  unfold IsBig at hp
  subst hp
  go_enter Try.func158, Try.ntmps158
  go_wp2
  go_ret3
  exact ⟨rfl, (Ext.refl _).alloc _⟩

set_option maxHeartbeats 400000 in
theorem Exponent_any (p : Int) (hp : IsBig p) (w : World) :
    Calls Try.prog 139 #[.agg #[.int .u64 p]] w fun e w' => e = .returned (.int .u64 7) ∧ Ext w w' := by
  go_enter Try.func139, Try.ntmps139
  go_wp2_with fail
  refine (numbers_any p hp _).mono ?_
  rintro e w1 ⟨rfl, hb⟩
  go_wp2
  go_ret
  exact ⟨rfl, ((Ext.refl _).alloc _).trans hb⟩
end Go.Proofs.Ytdpgfjnpcjpdpaa
