/- Points: pairs of numbers; group.Valid and moidoreref32.Valid. -/
import Derived.Test.YtkdnnekdldomeaaField
set_option linter.unusedSimpArgs false
namespace Go.Proofs.Ytkdnnekdldomeaa
open Go.RowKit
attribute [local irreducible] fAdd fMul fPow fSub fNeg fRed fAdd0 fMul0 fPow0
structure E2 where
  a : UInt64
  b : UInt64
def E2.red (x : E2) : Prop := x.a.toNat < 18446744069414584321 ∧ x.b.toNat < 18446744069414584321
abbrev E2.v (x : E2) : Value := .agg #[.int .u64 x.a.toNat, .int .u64 x.b.toNat]
abbrev E2.o (x : E2) : Obj := .cells #[.int .u64 x.a.toNat, .int .u64 x.b.toNat] 62
abbrev zero2 : Obj := .cells #[.int .u64 0, .int .u64 0] 62
theorem two_cells {w : World} {b : Nat} {c0 c1 : Value} {T : TypeId} (h : w.heap[b]? = some (.cells #[c0, c1] T (0, 0))) : w.cell? ⟨b, 0, none⟩ = some c0 ∧ w.cell? ⟨b, 1, none⟩ = some c1 := ⟨cell_of h 0, cell_of h 1⟩
theorem two_set {w : World} {b : Nat} {c0 c1 d0 d1 : Value} {T : TypeId} (h : w.heap[b]? = some (.cells #[c0, c1] T (0, 0))) :
    ((w.setCell ⟨b, 0, none⟩ d0).setCell ⟨b, 1, none⟩ d1).heap[b]? = some (.cells #[d0, d1] T (0, 0)) ∧ Kp (fun k => k = b) w ((w.setCell ⟨b, 0, none⟩ d0).setCell ⟨b, 1, none⟩ d1) :=
  ⟨heap_setCell_same (heap_setCell_same h 0 d0) 1 d1, ((Kp.refl (fun k => k = b) w).setCell (p := ⟨b, 0, none⟩) (.inl rfl) _).setCell (p := ⟨b, 1, none⟩) (.inl rfl) _⟩
def validP (x : E2) : Bool := decide (x.a < big) && (decide (x.b < big) && (!(x.a == 0) || !(x.b == 0)))
theorem validP_red {x : E2} (h : validP x = true) : x.red := by
  unfold validP at h
  simp only [Bool.and_eq_true, decide_eq_true_eq] at h
  exact ⟨by have := UInt64.lt_iff_toNat_lt.1 h.1; exact this, by have := UInt64.lt_iff_toNat_lt.1 h.2.1; exact this⟩
theorem lt_bigE (x : UInt64) : decide ((x.toNat : Int) < 18446744069414584321) = decide (x < big) := by
  rw [decide_eq_decide, UInt64.lt_iff_toNat_lt, show big.toNat = 18446744069414584321 from rfl]
  omega
theorem ne_zeroE (x : UInt64) : ((x.toNat : Int) != 0) = !(x == 0) := by
  cases h : x == 0 with
  | true => rw [beq_iff_eq] at h; subst h; rfl
  | false =>
    rw [beq_eq_false_iff_ne] at h
    have : x.toNat ≠ 0 := fun h0 => h (UInt64.toNat_inj.1 h0)
    simp; omega
theorem pos_E (x : UInt64) : decide ((0 : Int) < (x.toNat : Int)) = !(x == 0) := by
  rw [← ne_zeroE]
  cases h : (x.toNat : Int) != 0 with
  | true => simp at h ⊢; omega
  | false => simp at h ⊢; omega
set_option maxRecDepth 100000 in
set_option maxHeartbeats 1600000 in
theorem pValid_any (x : E2) (w : World) : Calls Try.prog 65 #[x.v] w fun e w' => e = .returned (.bool (validP x)) ∧ Ext w w' := by
  have hA := lt_bigE x.a
  have hB := lt_bigE x.b
  have z1 := ne_zeroE x.a
  have z2 := ne_zeroE x.b
  unfold validP
  generalize (x.a == 0) = a0 at *
  generalize (x.b == 0) = b0 at *
  generalize decide (x.a < big) = al at *
  generalize decide (x.b < big) = bl at *
  go_enter Try.func65, Try.ntmps65
  cases al with
  | false => go_wp2; go_ret; exact ⟨rfl, (Ext.refl w).alloc _⟩
  | true =>
    cases bl with
    | false => go_wp2; go_ret; exact ⟨rfl, (Ext.refl w).alloc _⟩
    | true =>
      cases a0 with
      | false => go_wp2; go_ret; exact ⟨rfl, (Ext.refl w).alloc _⟩
      | true =>
        cases b0 with
        | false => go_wp2; go_ret; exact ⟨rfl, (Ext.refl w).alloc _⟩
        | true => go_wp2; go_ret; exact ⟨rfl, (Ext.refl w).alloc _⟩
set_option maxRecDepth 100000 in
set_option maxHeartbeats 1600000 in
theorem rpValid_int (A B : Int) (al bl ap bp : Bool) (hA : decide (A < 18446744069414584321) = al) (hB : decide (B < 18446744069414584321) = bl) (z1 : decide (0 < A) = ap) (z2 : decide (0 < B) = bp) (w : World) :
    Calls Try.prog 45 #[.agg #[.int .u64 A, .int .u64 B]] w fun e w' => e = .returned (.bool (al && (bl && (ap || bp)))) ∧ Ext w w' := by
  go_enter Try.func45, Try.ntmps45
  cases al with
  | false => go_wp2; go_ret; exact ⟨rfl, (Ext.refl w).alloc _⟩
  | true =>
    cases bl with
    | false => go_wp2; go_ret; exact ⟨rfl, (Ext.refl w).alloc _⟩
    | true =>
      cases ap with
      | true => go_wp2; go_ret; exact ⟨rfl, (Ext.refl w).alloc _⟩
      | false =>
        cases bp with
        | true => go_wp2; go_ret; exact ⟨rfl, (Ext.refl w).alloc _⟩
        | false => go_wp2; go_ret; exact ⟨rfl, (Ext.refl w).alloc _⟩
theorem rpValid_any (x : E2) (w : World) : Calls Try.prog 45 #[x.v] w fun e w' => e = .returned (.bool (validP x)) ∧ Ext w w' :=
  rpValid_int x.a.toNat x.b.toNat _ _ _ _ (lt_bigE x.a) (lt_bigE x.b) (pos_E x.a) (pos_E x.b) w
end Go.Proofs.Ytkdnnekdldomeaa
