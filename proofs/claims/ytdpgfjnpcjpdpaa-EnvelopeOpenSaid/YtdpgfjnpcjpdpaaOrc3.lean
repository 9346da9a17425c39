/- The oracle's small methods: Draws, Draw. -/
import Derived.Test.YtdpgfjnpcjpdpaaOrc2
import Derived.Laws.Bits64
namespace Go.Proofs.Ytdpgfjnpcjpdpaa
open Go.RowKit
attribute [local irreducible] perm fAdd fMul fPow fSub fNeg fRed

/-- The oracle's own cells. -/
abbrev Own (w : World) (b : Nat) (ideal : Bool) (st : UInt64) (n : Nat) (q k s p : Value) : Prop :=
  w.heap[b]? = some (.cells #[.bool ideal, uv st, .int .i64 (n : Int), q, k, s, p] 140 (0, 0))

set_option maxRecDepth 100000 in
set_option maxHeartbeats 400000 in
theorem Draws_any {w : World} {b : Nat} {ideal : Bool} {st : UInt64} {n : Nat} {q k s p : Value} (h : Own w b ideal st n q k s p) :
    Calls Try.prog 35 #[.pointer (some ⟨b, 0, none⟩)] w (fun e w' => e = .returned (.int .i64 (n : Int)) ∧ w' = w) := by
  obtain ⟨-, -, c2, -⟩ := self_cells h
  have hf := frozen_of h
  clear h
  go_enter Try.func35, Try.ntmps35
  go_wp2
  go_ret
  exact ⟨rfl, rfl⟩

set_option maxRecDepth 100000 in
set_option maxHeartbeats 400000 in
theorem Draw_real {w : World} {b : Nat} {st : UInt64} {n : Nat} {q k s p : Value} (h : Own w b false st n q k s p) :
    Calls Try.prog 111 #[.pointer (some ⟨b, 0, none⟩)] w (fun e w' => e = .returned (.int .u64 0) ∧ w' = w) := by
  obtain ⟨c0, -⟩ := self_cells h
  have hf := frozen_of h
  clear h
  go_enter Try.func111, Try.ntmps111
  go_wp2
  go_ret
  exact ⟨rfl, rfl⟩

theorem next_wrap (s : UInt64) : IntKind.u64.wrap ((s.toNat : Int) + 11400714819323198485) = ((nextState s).toNat : Int) := by
  simp only [nextState, IntKind.wrap, UInt64.toNat_add]; rfl

theorem xor_shr (s : UInt64) (k : Nat) (hk : k < 64) : bits .xor .u64 (s.toNat : Int) ((s.toNat : Int) / ((2 ^ k : Nat) : Int)) = ((s ^^^ (s >>> UInt64.ofNat k)).toNat : Int) := by
  rw [xorShift_u64 _ _ s.toNat_lt]
  congr 1
  rw [UInt64.toNat_xor, UInt64.toNat_shiftRight, UInt64.toNat_ofNat_of_lt' (Nat.lt_trans hk (by decide)), Nat.mod_eq_of_lt hk, Nat.shiftRight_eq_div_pow]
theorem stage1 (s : UInt64) : IntKind.u64.wrap (bits .xor .u64 (s.toNat : Int) ((s.toNat : Int) / 1073741824) * 13787848793156543929) = ((mix1 s).toNat : Int) := by
  have h := xor_shr s 30 (by omega)
  rw [show (((2 ^ 30 : Nat) : Int)) = 1073741824 from rfl] at h
  rw [h, IntKind.wrap_u64, mix1, UInt64.toNat_mul]; rfl
theorem stage2 (s : UInt64) : IntKind.u64.wrap (bits .xor .u64 (s.toNat : Int) ((s.toNat : Int) / 134217728) * 10723151780598845931) = ((mix2 s).toNat : Int) := by
  have h := xor_shr s 27 (by omega)
  rw [show (((2 ^ 27 : Nat) : Int)) = 134217728 from rfl] at h
  rw [h, IntKind.wrap_u64, mix2, UInt64.toNat_mul]; rfl
theorem stage3 (s : UInt64) : (bits .xor .u64 (s.toNat : Int) ((s.toNat : Int) / 2147483648)).tmod 18446744069414584321 = ((mix3 s).toNat : Int) := by
  have h := xor_shr s 31 (by omega)
  rw [show (((2 ^ 31 : Nat) : Int)) = 2147483648 from rfl] at h
  rw [h, mix3, UInt64.toNat_mod]; rfl

def DrewO (w : World) (b : Nat) (st : UInt64) (n : Nat) (q k s p : Value) (e : Ending) (w' : World) : Prop :=
  e = .returned (uv (drawOf st)) ∧ Own w' b true (nextState st) (n + 1) q k s p ∧ Kp (fun k => k = b) w w'

set_option maxRecDepth 100000 in
set_option maxHeartbeats 800000 in
theorem Draw_ideal {w : World} {b : Nat} {st : UInt64} {n : Nat} {q k s p : Value} (h : Own w b true st n q k s p) (hn : n ≤ 1000000000000) :
    Calls Try.prog 111 #[.pointer (some ⟨b, 0, none⟩)] w (DrewO w b st n q k s p) := by
  obtain ⟨c0, c1, c2, -⟩ := self_cells h
  have hf := frozen_of h
  have H := hid h
  clear h
  have hw1 := next_wrap st
  have hw2 : IntKind.i64.wrap ((n : Int) + 1) = (n : Int) + 1 := IntWalk.i64_in _ (by omega)
  have s1 := stage1 (nextState st)
  have s2 := stage2 (mix1 (nextState st))
  have s3 := stage3 (mix2 (mix1 (nextState st)))
  clear hn
  go_enter Try.func111, Try.ntmps111
  go_wp2
  go_ret
  have H1 := heap_setCell_same (heap_setCell_same H.out 2 (.int .i64 ((n : Int) + 1))) 1 (uv (nextState st))
  exact ⟨rfl, H1, ((Kp.refl (fun k => k = b) w).setCell (p := ⟨b, 2, none⟩) (.inl rfl) _).setCell (p := ⟨b, 1, none⟩) (.inl rfl) _⟩

/-- The block of the oracle itself changed, and nothing else. -/
theorem OrcIn.drawn {w w' : World} {b : Nat} {M : Orc} {F : Nat → Prop} {qv : Value} {mk ms mp : Nat} {Q : List (Qn × Value)} {S : List (Sl × Value)} (h : OrcIn w b M F qv mk ms mp Q S)
    (hs : Own w' b M.ideal (nextState M.state) (M.draws + 1) qv (.map (some mk)) (.map (some ms)) (.map (some mp))) (hk : Kp (fun k => k = b) w w') : OrcIn w' b M.step F qv mk ms mp Q S :=
  h.reself M.ideal (nextState M.state) (M.draws + 1) hs (fun k hne hlt => hk.block k hlt hne) hk.size
end Go.Proofs.Ytdpgfjnpcjpdpaa
