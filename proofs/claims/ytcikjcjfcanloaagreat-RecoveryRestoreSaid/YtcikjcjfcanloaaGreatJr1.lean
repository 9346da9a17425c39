/- Texts of this claim, joined: Base, Field, Region. -/
import Derived.Test.YtcikjcjfcanloaaGreatRows
import Derived.WalkKit
import Derived.WalkSpells
import Derived.WalkLawsBesides
import Derived.Deep.QuietTactic
import Derived.Deep.RegionHeld3
import Derived.BigQuiet
import Derived.StillTail
set_option linter.unusedSimpArgs false
namespace Go.Proofs.YtcikjcjfcanloaaGreat
open Go.RowKit
theorem ret_int {k : IntKind} {a b : Int} (h : a = b) : Ending.returned (.int k a) = .returned (.int k b) := by rw [h]
theorem ret_bool {a b : Bool} (h : a = b) : Ending.returned (.bool a) = .returned (.bool b) := by rw [h]
/-- Nothing that was there has turned: the heap has only grown. -/
abbrev Ext (w w' : World) : Prop := Below w.heap.size w w'
theorem Ext.refl (w : World) : Ext w w := Below.refl _ _
theorem Ext.trans {a b c : World} (h : Ext a b) (k : Ext b c) : Ext a c := Below.trans h (k.mono h.size)
theorem Ext.alloc {a w : World} (h : Ext a w) (o : Obj) : Ext a (w.alloc o) := Below.alloc h h.size o
theorem Ext.drew {a w : World} (h : Ext a w) : Ext a w.drew := Below.drew h
theorem Ext.setCell {a w : World} (h : Ext a w) {p : Addr} (hp : a.heap.size ≤ p.block) (u : Value) : Ext a (w.setCell p u) := Below.setCell h hp u
theorem Ext.cell_some {w w' : World} (h : Ext w w') {b o : Nat} {v : Value} (hc : w.cell? ⟨b, o, none⟩ = some v) : w'.cell? ⟨b, o, none⟩ = some v := by
  have hb : b < w.heap.size := by
    rcases Nat.lt_or_ge b w.heap.size with hl | hl
    · exact hl
    · simp [World.cell?, Array.getElem?_eq_none hl] at hc
  rw [Below.cell h (p := ⟨b, o, none⟩) hb]; exact hc
theorem Ext.heap_some {w w' : World} (h : Ext w w') {b : Nat} {o : Obj} (hc : w.heap[b]? = some o) : w'.heap[b]? = some o := by
  have hb : b < w.heap.size := by
    rcases Nat.lt_or_ge b w.heap.size with hl | hl
    · exact hl
    · simp [Array.getElem?_eq_none hl] at hc
  rw [h.block b hb]; exact hc
theorem heap_alloc_some {w : World} {b : Nat} {o o' : Obj} (hc : w.heap[b]? = some o) : (w.alloc o').heap[b]? = some o := (Ext.refl w |>.alloc o').heap_some hc
theorem heap_lt {w : World} {b : Nat} {o : Obj} (hc : w.heap[b]? = some o) : b < w.heap.size := by
  rcases Nat.lt_or_ge b w.heap.size with hl | hl
  · exact hl
  · simp [Array.getElem?_eq_none hl] at hc
theorem cell_lt {w : World} {b o : Nat} {v : Value} (hc : w.cell? ⟨b, o, none⟩ = some v) : b < w.heap.size := by
  rcases Nat.lt_or_ge b w.heap.size with hl | hl
  · exact hl
  · simp [World.cell?, Array.getElem?_eq_none hl] at hc
/-- A cell of a block that is known whole. -/
theorem cell_of {w : World} {b : Nat} {cs : Array Value} {t : TypeId} {fz : Nat × Nat} (h : w.heap[b]? = some (.cells cs t fz)) (o : Nat) : w.cell? ⟨b, o, none⟩ = cs[o]? := by
  simp [World.cell?, h]
theorem frozen_of {w : World} {b : Nat} {cs : Array Value} {t : TypeId} (h : w.heap[b]? = some (.cells cs t (0, 0))) (o : Nat) : w.frozen? ⟨b, o, none⟩ = false := by
  simp [World.frozen?, h]
theorem heap_setCell_same {w : World} {b : Nat} {cs : Array Value} {t : TypeId} {fz : Nat × Nat} (h : w.heap[b]? = some (.cells cs t fz)) (o : Nat) (v : Value) :
    (w.setCell ⟨b, o, none⟩ v).heap[b]? = some (.cells (cs.setIfInBounds o v) t fz) := by
  simp [World.setCell, Array.getElem?_modify, h]
theorem heap_setCell_ne {w : World} {b b' : Nat} (hne : b' ≠ b) (o : Nat) (v : Value) : (w.setCell ⟨b, o, none⟩ v).heap[b']? = w.heap[b']? :=
  Below.heap_setCell w ⟨b, o, none⟩ v b' hne
theorem heap_new (w : World) (o : Obj) : (w.alloc o).heap[w.heap.size]? = some o := by
  show (w.heap.push o)[w.heap.size]? = _
  simp
/-- What holds in every world that grew out of w0 holds behind one step more. -/
theorem keepE {w0 w w' : World} {C : World → Prop} (H : ∀ v, Ext w0 v → C v) (h : C w ∧ Ext w0 w) (k : Ext w w') : C w' ∧ Ext w0 w' := ⟨H _ (h.2.trans k), h.2.trans k⟩
theorem keep0 {w0 : World} {C : World → Prop} (H : ∀ v, Ext w0 v → C v) : C w0.drew ∧ Ext w0 w0.drew := ⟨H _ (Ext.refl _).drew, (Ext.refl _).drew⟩
/-- All that was there is as it was, but for the blocks of F; and the heap has not shrunk. -/
structure Kp (F : Nat → Prop) (w w' : World) : Prop where
  os : w'.os = w.os
  tape : w'.tape = w.tape
  output : w'.output = w.output
  size : w.heap.size ≤ w'.heap.size
  block : ∀ k, k < w.heap.size → ¬ F k → w'.heap[k]? = w.heap[k]?
theorem Kp.refl (F : Nat → Prop) (w : World) : Kp F w w := ⟨rfl, rfl, rfl, Nat.le_refl _, fun _ _ _ => rfl⟩
theorem Kp.of_ext {F : Nat → Prop} {w w' : World} (h : Ext w w') : Kp F w w' := ⟨h.os, h.tape, h.output, h.size, fun k hk _ => h.block k hk⟩
theorem Kp.trans {F : Nat → Prop} {a b c : World} (h : Kp F a b) (k : Kp F b c) : Kp F a c :=
  ⟨k.os.trans h.os, k.tape.trans h.tape, k.output.trans h.output, Nat.le_trans h.size k.size, fun i hi hF => (k.block i (Nat.lt_of_lt_of_le hi h.size) hF).trans (h.block i hi hF)⟩
theorem Kp.mono {F G : Nat → Prop} {a b : World} (h : Kp F a b) (hFG : ∀ k, k < a.heap.size → F k → G k) : Kp G a b :=
  ⟨h.os, h.tape, h.output, h.size, fun i hi hG => h.block i hi fun hF => hG (hFG i hi hF)⟩
theorem Kp.ext {F : Nat → Prop} {a b c : World} (h : Kp F a b) (k : Ext b c) : Kp F a c := h.trans (.of_ext k)
theorem Kp.drew {F : Nat → Prop} {a b : World} (h : Kp F a b) : Kp F a b.drew := h.ext (Ext.refl _).drew
theorem Kp.alloc {F : Nat → Prop} {a b : World} (h : Kp F a b) (o : Obj) : Kp F a (b.alloc o) := h.ext ((Ext.refl _).alloc o)
theorem Kp.setCell {F : Nat → Prop} {a w : World} (h : Kp F a w) {p : Addr} (hp : F p.block ∨ a.heap.size ≤ p.block) (u : Value) : Kp F a (w.setCell p u) :=
  ⟨h.os, h.tape, h.output, by simpa [World.setCell] using h.size, fun k hk hF => by
    rw [Below.heap_setCell]
    · exact h.block k hk hF
    · rintro rfl
      rcases hp with hp | hp
      · exact hF hp
      · omega⟩
/-- Where the blocks of F are all new, nothing that was there has turned. -/
theorem Kp.toExt {F : Nat → Prop} {a w : World} (h : Kp F a w) (hF : ∀ k, F k → a.heap.size ≤ k) : Ext a w :=
  ⟨h.os, h.tape, h.output, h.size, fun k hk => h.block k hk fun hf => by have := hF k hf; omega⟩
theorem Ext.kp {F : Nat → Prop} {a b c : World} (h : Ext a b) (k : Kp F b c) (hF : ∀ k, F k → a.heap.size ≤ k) : Ext a c :=
  ⟨k.os.trans h.os, k.tape.trans h.tape, k.output.trans h.output, Nat.le_trans h.size k.size, fun i hi => (k.block i (Nat.lt_of_lt_of_le hi h.size) fun hf => by have := hF i hf; omega).trans (h.block i hi)⟩
theorem Kp.cell_some {F : Nat → Prop} {w w' : World} (h : Kp F w w') {b o : Nat} {v : Value} (hF : ¬ F b) (hc : w.cell? ⟨b, o, none⟩ = some v) : w'.cell? ⟨b, o, none⟩ = some v := by
  rw [World.cell?_of_block (w := w) (h.block b (cell_lt hc) hF)]; exact hc
theorem Kp.heap_some {F : Nat → Prop} {w w' : World} (h : Kp F w w') {b : Nat} {o : Obj} (hF : ¬ F b) (hc : w.heap[b]? = some o) : w'.heap[b]? = some o := by
  rw [h.block b (heap_lt hc) hF]; exact hc
/-- A block of n cells of the call's own, b, into which is written; all else that was there in w0 is as it was. -/
def getC (v : World) (b o : Nat) : Value := (v.cell? ⟨b, o, none⟩).getD undef
structure Ow (b n : Nat) (T : TypeId) (w0 v : World) : Prop where
  kp : Kp (fun k => k = b) w0 v
  mine : ∃ cs : Array Value, v.heap[b]? = some (.cells cs T (0, 0)) ∧ cs.size = n
theorem Ow.start {w0 : World} {b n : Nat} {T : TypeId} {cs : Array Value} (h : w0.heap[b]? = some (.cells cs T (0, 0))) (hn : cs.size = n) : Ow b n T w0 w0 := ⟨Kp.refl _ _, cs, h, hn⟩
theorem Ow.cell {w0 v : World} {b n : Nat} {T : TypeId} (h : Ow b n T w0 v) (i : Nat) (hi : i < n) : v.cell? ⟨b, i, none⟩ = some (getC v b i) := by
  obtain ⟨cs, h1, h2⟩ := h.mine
  unfold getC
  rw [cell_of h1, Array.getElem?_eq_getElem (by omega)]; rfl
theorem Ow.frozen {w0 v : World} {b n : Nat} {T : TypeId} (h : Ow b n T w0 v) (i : Nat) : v.frozen? ⟨b, i, none⟩ = false := by
  obtain ⟨cs, h1, _⟩ := h.mine
  exact frozen_of h1 i
theorem Ow.ext {w0 v v' : World} {b n : Nat} {T : TypeId} (h : Ow b n T w0 v) (k : Ext v v') : Ow b n T w0 v' := by
  obtain ⟨cs, h1, h2⟩ := h.mine
  exact ⟨h.kp.ext k, cs, k.heap_some h1, h2⟩
theorem Ow.drew {w0 v : World} {b n : Nat} {T : TypeId} (h : Ow b n T w0 v) : Ow b n T w0 v.drew := h.ext (Ext.refl _).drew
theorem Ow.setCell {w0 v : World} {b n : Nat} {T : TypeId} (h : Ow b n T w0 v) (o : Nat) (u : Value) : Ow b n T w0 (v.setCell ⟨b, o, none⟩ u) := by
  obtain ⟨cs, h1, h2⟩ := h.mine
  exact ⟨h.kp.setCell (.inl rfl) u, _, heap_setCell_same h1 o u, by simpa using h2⟩
theorem keepO {w0 w w' : World} {b n : Nat} {T : TypeId} {C : World → Prop} (H : ∀ v, Ow b n T w0 v → C v) (h : C w ∧ Ow b n T w0 w) (k : Ext w w') : C w' ∧ Ow b n T w0 w' := ⟨H _ (h.2.ext k), h.2.ext k⟩
theorem keepOs {w0 w' : World} {b n : Nat} {T : TypeId} {C : World → Prop} (H : ∀ v, Ow b n T w0 v → C v) (h : Ow b n T w0 w') : C w' ∧ Ow b n T w0 w' := ⟨H _ h, h⟩
theorem hid {p : Prop} (h : p) : Hid p := h
theorem u_lt (x : UInt64) : (x.toNat : Int) < 18446744073709551616 := by have := x.toNat_lt; omega
theorem u_pos (x : UInt64) : 0 ≤ (x.toNat : Int) := Int.natCast_nonneg _
end Go.Proofs.YtcikjcjfcanloaaGreat
namespace Go.Proofs.YtcikjcjfcanloaaGreat
open Go.RowKit
def big : UInt64 := 18446744069414584321
def IsBig (p : Int) : Prop := p = 18446744069414584321
theorem IsBig.pos {p : Int} (h : IsBig p) : 0 < p := by rw [h]; decide
theorem IsBig.lt {p : Int} (h : IsBig p) : p < 18446744073709551616 := by rw [h]; decide
theorem isBig : IsBig 18446744069414584321 := rfl
def fRed (a : UInt64) : UInt64 := a % big
def fAdd0 (a b : UInt64) : UInt64 := UInt64.ofNat ((a.toNat + b.toNat) % 18446744069414584321)
def fMul0 (a b : UInt64) : UInt64 := UInt64.ofNat ((a.toNat * b.toNat) % 18446744069414584321)
def fPow0 (a e : UInt64) : UInt64 := UInt64.ofNat ((a.toNat ^ e.toNat) % 18446744069414584321)
def fAdd (a b : UInt64) : UInt64 := fAdd0 (fRed a) (fRed b)
def fMul (a b : UInt64) : UInt64 := fMul0 (fRed a) (fRed b)
def fPow (a e : UInt64) : UInt64 := fPow0 (fRed a) e
def fNeg (a : UInt64) : UInt64 := UInt64.ofNat ((18446744069414584321 - a.toNat % 18446744069414584321) % 18446744069414584321)
def fSub (a b : UInt64) : UInt64 := fAdd a (fNeg b)
theorem toNat_ofNat_lt {n : Nat} (h : n < 18446744073709551616) : (UInt64.ofNat n).toNat = n := by
  rw [UInt64.toNat_ofNat']; exact Nat.mod_eq_of_lt h
theorem mod_big_lt (n : Nat) : n % 18446744069414584321 < 18446744069414584321 := Nat.mod_lt _ (by decide)
theorem mod_big_lt64 (n : Nat) : n % 18446744069414584321 < 18446744073709551616 := Nat.lt_trans (mod_big_lt n) (by decide)
theorem fRed_toNat (a : UInt64) : (fRed a).toNat = a.toNat % 18446744069414584321 := by
  unfold fRed; rw [UInt64.toNat_mod]; rfl
theorem fAdd0_toNat (a b : UInt64) : (fAdd0 a b).toNat = (a.toNat + b.toNat) % 18446744069414584321 := toNat_ofNat_lt (mod_big_lt64 _)
theorem fMul0_toNat (a b : UInt64) : (fMul0 a b).toNat = (a.toNat * b.toNat) % 18446744069414584321 := toNat_ofNat_lt (mod_big_lt64 _)
theorem fPow0_toNat (a b : UInt64) : (fPow0 a b).toNat = (a.toNat ^ b.toNat) % 18446744069414584321 := toNat_ofNat_lt (mod_big_lt64 _)
theorem fNeg_toNat (a : UInt64) : (fNeg a).toNat = (18446744069414584321 - a.toNat % 18446744069414584321) % 18446744069414584321 := toNat_ofNat_lt (mod_big_lt64 _)
theorem fRed_lt {p : Int} (hp : IsBig p) (a : UInt64) : ((fRed a).toNat : Int) < p := by rw [fRed_toNat, hp]; omega
theorem fAdd0_lt {p : Int} (hp : IsBig p) (a b : UInt64) : ((fAdd0 a b).toNat : Int) < p := by rw [fAdd0_toNat, hp]; omega
theorem fMul0_lt {p : Int} (hp : IsBig p) (a b : UInt64) : ((fMul0 a b).toNat : Int) < p := by rw [fMul0_toNat, hp]; omega
theorem red_ge {p : Int} (hp : IsBig p) {n : UInt64} (_h : p ≤ n.toNat) : ((n.toNat : Int) % p) = ((fRed n).toNat : Int) := by
  rw [hp, fRed_toNat]; rfl
theorem red_lt {p : Int} (hp : IsBig p) {n : UInt64} (h : (n.toNat : Int) < p) : ((n.toNat : Int)) = ((fRed n).toNat : Int) := by
  rw [hp] at h; rw [fRed_toNat]; omega
def Sm (a b : UInt64) : Nat := (a.toNat + b.toNat) % 18446744073709551616
def Cr (a b : UInt64) : Nat := (a.toNat + b.toNat) / 18446744073709551616
theorem call_add64 (a b : UInt64) (w : World) :
    (callFunc 196 #[.int .u64 a.toNat, .int .u64 b.toNat, .int .u64 0]).run Tryz.prog w =
      .ok (.value (.tuple #[.int .u64 (Sm a b : Nat), .int .u64 (Cr a b : Nat)])) w := by
  rw [run_callFunc_extern Tryz.func196 (by kernel_rfl) (by kernel_rfl) (by kernel_rfl) (e := add64Entry) (by kernel_rfl)]
  have ha := u_lt a
  have hb := u_lt b
  rw [run_add64 a.toNat b.toNat 0 (by omega) (by omega) (by omega) (by omega)]
  simp only [Result.andThen]
  unfold Sm Cr
  congr 5 <;> omega
theorem mul_bd (x y : Int) (h1 : 0 ≤ x) (h2 : x < 4294967296) (h3 : 0 ≤ y) (h4 : y < 4294967296) : 0 ≤ x * y ∧ x * y ≤ 18446744065119617025 := by
  refine ⟨Int.mul_nonneg h1 h3, ?_⟩
  have := Int.mul_le_mul (show x ≤ 4294967295 by omega) (show y ≤ 4294967295 by omega) h3 (by omega)
  omega
theorem mul64_eq (a b : Int) (a0 : 0 ≤ a) (a1 : a < 18446744073709551616) (b0 : 0 ≤ b) (b1 : b < 18446744073709551616) :
    IntKind.u64.wrap (IntKind.u64.wrap (IntKind.u64.wrap (a / 4294967296 * (b / 4294967296)) +
        IntKind.u64.wrap (IntKind.u64.wrap (a / 4294967296 * bits BinOp.and IntKind.u64 b 4294967295) +
          IntKind.u64.wrap (bits BinOp.and IntKind.u64 a 4294967295 * bits BinOp.and IntKind.u64 b 4294967295) / 4294967296) / 4294967296) +
      IntKind.u64.wrap (bits BinOp.and IntKind.u64 (IntKind.u64.wrap (IntKind.u64.wrap (a / 4294967296 * bits BinOp.and IntKind.u64 b 4294967295) +
            IntKind.u64.wrap (bits BinOp.and IntKind.u64 a 4294967295 * bits BinOp.and IntKind.u64 b 4294967295) / 4294967296)) 4294967295 +
          IntKind.u64.wrap (bits BinOp.and IntKind.u64 a 4294967295 * (b / 4294967296))) / 4294967296) = a * b / 18446744073709551616 := by
  rw [and_low32 a a0 a1, and_low32 b b0 b1]
  have hA : a = a / 4294967296 * 4294967296 + a % 4294967296 := by omega
  have hB : b = b / 4294967296 * 4294967296 + b % 4294967296 := by omega
  have hx1 : 0 ≤ a / 4294967296 ∧ a / 4294967296 < 4294967296 := by omega
  have hx0 : 0 ≤ a % 4294967296 ∧ a % 4294967296 < 4294967296 := by omega
  have hy1 : 0 ≤ b / 4294967296 ∧ b / 4294967296 < 4294967296 := by omega
  have hy0 : 0 ≤ b % 4294967296 ∧ b % 4294967296 < 4294967296 := by omega
  generalize a / 4294967296 = x1 at *
  generalize a % 4294967296 = x0 at *
  generalize b / 4294967296 = y1 at *
  generalize b % 4294967296 = y0 at *
  have e : a * b = x1 * y1 * 18446744073709551616 + x1 * y0 * 4294967296 + x0 * y1 * 4294967296 + x0 * y0 := by
    rw [hA, hB]
    simp only [Int.add_mul, Int.mul_add]
    have e1 : x1 * 4294967296 * (y1 * 4294967296) = x1 * y1 * 18446744073709551616 := by
      rw [Int.mul_assoc, Int.mul_left_comm 4294967296 y1, ← Int.mul_assoc]; rfl
    have e2 : x1 * 4294967296 * y0 = x1 * y0 * 4294967296 := by rw [Int.mul_right_comm]
    have e3 : x0 * (y1 * 4294967296) = x0 * y1 * 4294967296 := by rw [Int.mul_assoc]
    rw [e1, e2, e3]; omega
  rw [e]
  have b11 := mul_bd x1 y1 hx1.1 hx1.2 hy1.1 hy1.2
  have b10 := mul_bd x1 y0 hx1.1 hx1.2 hy0.1 hy0.2
  have b01 := mul_bd x0 y1 hx0.1 hx0.2 hy1.1 hy1.2
  have b00 := mul_bd x0 y0 hx0.1 hx0.2 hy0.1 hy0.2
  clear e hA hB hx1 hx0 hy1 hy0
  generalize x1 * y1 = p at *
  generalize x1 * y0 = q at *
  generalize x0 * y1 = r at *
  generalize x0 * y0 = s at *
  simp only [IntKind.wrap_u64]
  rw [and_low32 _ (by omega) (by omega)]
  omega
set_option maxHeartbeats 400000 in
theorem mul64_any (a b : UInt64) (w : World) :
    Calls Tryz.prog 151 #[.int .u64 a.toNat, .int .u64 b.toNat] w fun e w' =>
      e = .returned (.tuple #[.int .u64 ((a.toNat : Int) * b.toNat / 18446744073709551616), .int .u64 ((a.toNat : Int) * b.toNat % 18446744073709551616)]) ∧ w = w' := by
  have ha := u_lt a
  have hb := u_lt b
  have ha0 := u_pos a
  have hb0 := u_pos b
  generalize (a.toNat : Int) = x at *
  generalize (b.toNat : Int) = y at *
  have hM : Hid (_ = _) := mul64_eq x y ha0 ha hb0 hb
  clear ha hb ha0 hb0
  go_enter Tryz.func151, Tryz.ntmps151
  go_wp2
  go_ret2
  rw [← hM.out, ← IntKind.wrap_u64]
  exact ⟨rfl, rfl⟩
set_option maxRecDepth 100000 in
set_option maxHeartbeats 400000 in
theorem len64_big (w : World) :
    Calls Tryz.prog 185 #[.int .u64 18446744069414584321] w fun e w' => e = .returned (.int .i64 64) ∧ w = w' := by
  go_enter Tryz.func185, Tryz.ntmps185
  go_wp2
  go_ret
  exact ⟨ret_int (by kernel_rfl), rfl⟩
set_option maxHeartbeats 400000 in
theorem lead64_big (w : World) :
    Calls Tryz.prog 175 #[.int .u64 18446744069414584321] w fun e w' => e = .returned (.int .i64 0) ∧ w = w' := by
  go_enter Tryz.func175, Tryz.ntmps175
  go_wp2_with fail
  refine (len64_big _).mono ?_
  rintro e w' ⟨rfl, rfl⟩
  go_wp2
  go_ret
  exact ⟨rfl, rfl⟩
theorem lead64_big' (y : Int) (hy : IsBig y) (w : World) :
    Calls Tryz.prog 175 #[.int .u64 y] w fun e w' => e = .returned (.int .i64 0) ∧ w = w' := by rw [hy]; exact lead64_big w
/-- The remainder r is the second result. -/
def Rem (r : Int) (w : World) (e : Ending) (w' : World) : Prop := ∃ q : Int, e = .returned (.tuple #[.int .u64 q, .int .u64 r]) ∧ Ext w w'
set_option maxRecDepth 100000 in
set_option maxHeartbeats 1000000 in
theorem div64_pos (hi lo : UInt64) (y : Int) (hy : IsBig y) (h0 : 0 < (hi.toNat : Int)) (h1 : (hi.toNat : Int) < y) (w : World) :
    Calls Tryz.prog 152 #[.int .u64 hi.toNat, .int .u64 lo.toNat, .int .u64 y] w (Rem (((hi.toNat : Int) * 18446744073709551616 + lo.toNat) % 18446744069414584321) w) := by
  have hx : (((hi.toNat) : Int) == 0) = false := by simp; omega
  have y0 := hy.pos
  have y1 := hy.lt
  have hx2 : (y == 0) = false := by simp; omega
  have hyn1 : y / 4294967296 = 4294967295 := by rw [hy]; rfl
  have hyn0 : bits BinOp.and IntKind.u64 y 4294967295 = 1 := by rw [hy]; rfl
  have b1 := u_lt hi
  have b2 := u_lt lo
  have c1 := u_pos hi
  have c2 := u_pos lo
  generalize (hi.toNat : Int) = x at *
  generalize (lo.toNat : Int) = l at *
  have hl0 : l / 18446744073709551616 = 0 := by omega
  have hl1 : bits BinOp.and IntKind.u64 l 4294967295 = l % 4294967296 := and_low32 l c2 b2
  have hor : bits BinOp.or IntKind.u64 x 0 = x := by
    rw [show x = ((x.toNat : Nat) : Int) from by omega, show (0 : Int) = ((0 : Nat) : Int) from rfl, u64_or_nat _ _ (by omega) (by omega)]; simp
  go_enter Tryz.func152, Tryz.ntmps152
  go_wp2_with fail
  refine (lead64_big' _ hy _).mono ?_
  rintro e w' ⟨rfl, rfl⟩
  go_wp2
  go_loop [15, 16] (fun q r => ∃ Q R : Int, q = .int .u64 Q ∧ r = .int .u64 R ∧ Q * 4294967295 + R = x ∧ 0 ≤ R ∧ 0 ≤ Q ∧ R < 4294967296 ∧ Q ≤ 4294967296 ∧ x * 4294967296 + l / 4294967296 < (Q + 1) * 18446744069414584321) (fun q _ => (intOf q).toNat)
  case atStart =>
    rw [hy] at h1
    refine ⟨_, _, rfl, rfl, ?_, ?_, ?_, ?_, ?_, ?_⟩ <;> (try simp only [IntKind.wrap_u64]) <;> omega
  case round =>
    obtain ⟨Q, R, rfl, rfl, r1, r2, r3, r4, r5, r6⟩ := hrel
    by_cases hq : (4294967296 : Int) ≤ Q ∨ R * 4294967296 + l / 4294967296 < Q
    · have hR : R = 0 := by rw [hy] at h1; omega
      subst hR
      have hn : x * 4294967296 + l / 4294967296 < Q * 18446744069414584321 := by rw [hy] at h1; omega
      have hQ : 1 ≤ Q := by omega
      have R1 := hid r1
      clear r1 hl0 hor hl1 r6
      have R6 := hid hn
      clear hn
      by_cases t1 : (4294967296 : Int) ≤ Q
      · clear hq
        go_wp2
        go_round
        case rel => exact ⟨_, _, rfl, rfl, by have := R1.out; omega, by omega, by omega, by omega, by omega, by have := R6.out; rw [show Q - 1 + 1 = Q from by omega]; exact this⟩
        case measure => simp [intOf]; omega
      · have t2 : l / 4294967296 < Q := by omega
        clear hq
        go_wp2
        go_round
        case rel => exact ⟨_, _, rfl, rfl, by have := R1.out; omega, by omega, by omega, by omega, by omega, by have := R6.out; rw [show Q - 1 + 1 = Q from by omega]; exact this⟩
        case measure => simp [intOf]; omega
    · have t1 : ¬ (4294967296 : Int) ≤ Q := fun h => hq (.inl h)
      have t2 : ¬ (R * 4294967296 + l / 4294967296 < Q) := fun h => hq (.inr h)
      clear hq
      obtain ⟨T, hT⟩ : ∃ T, T = x * 4294967296 + l / 4294967296 - Q * 18446744069414584321 := ⟨_, rfl⟩
      have T0 : 0 ≤ T := by omega
      have T1 : T < y := by rw [hy]; omega
      have hTw : IntKind.u64.wrap (IntKind.u64.wrap (IntKind.u64.wrap (x * 4294967296) + l / 4294967296) - IntKind.u64.wrap (Q * y)) = T := by
        simp only [IntKind.wrap_u64]; rw [hy]; rw [hy] at T1; omega
      have HT := hid hT
      have R1 := hid r1
      clear r1 hl0 hor hl1 r6 hT
      go_wp2
      go_loop [18, 16] (fun q r => ∃ Q R : Int, q = .int .u64 Q ∧ r = .int .u64 R ∧ Q * 4294967295 + R = T ∧ 0 ≤ R ∧ 0 ≤ Q ∧ R < 4294967296 ∧ Q ≤ 4294967296 ∧ T * 4294967296 + l % 4294967296 < (Q + 1) * 18446744069414584321) (fun q _ => (intOf q).toNat)
      case atStart =>
        rw [hy] at T1
        refine ⟨_, _, rfl, rfl, ?_, ?_, ?_, ?_, ?_, ?_⟩ <;> (try simp only [IntKind.wrap_u64]) <;> omega
      case round =>
        obtain ⟨Q2, R2, rfl, rfl, s1, s2, s3, s4, s5, s6⟩ := hrel
        by_cases hq : (4294967296 : Int) ≤ Q2 ∨ R2 * 4294967296 + l % 4294967296 < Q2
        · have hR : R2 = 0 := by rw [hy] at T1; omega
          subst hR
          have hn : T * 4294967296 + l % 4294967296 < Q2 * 18446744069414584321 := by rw [hy] at T1; omega
          have hQ : 1 ≤ Q2 := by omega
          have S1 := hid s1
          clear s1 s6 hTw
          have S6 := hid hn
          clear hn
          by_cases t1 : (4294967296 : Int) ≤ Q2
          · clear hq
            go_wp2
            go_round
            case rel => exact ⟨_, _, rfl, rfl, by have := S1.out; omega, by omega, by omega, by omega, by omega, by have := S6.out; rw [show Q2 - 1 + 1 = Q2 from by omega]; exact this⟩
            case measure => simp [intOf]; omega
          · have t2 : l % 4294967296 < Q2 := by omega
            clear hq
            go_wp2
            go_round
            case rel => exact ⟨_, _, rfl, rfl, by have := S1.out; omega, by omega, by omega, by omega, by omega, by have := S6.out; rw [show Q2 - 1 + 1 = Q2 from by omega]; exact this⟩
            case measure => simp [intOf]; omega
        · have t3 : ¬ (4294967296 : Int) ≤ Q2 := fun h => hq (.inl h)
          have t4 : ¬ (R2 * 4294967296 + l % 4294967296 < Q2) := fun h => hq (.inr h)
          clear hq
          have hfin : IntKind.u64.wrap (IntKind.u64.wrap (IntKind.u64.wrap (T * 4294967296) + l % 4294967296) - IntKind.u64.wrap (Q2 * y)) = (x * 18446744073709551616 + l) % 18446744069414584321 := by
            simp only [IntKind.wrap_u64]; have := HT.out; rw [hy]; rw [hy] at T1; omega
          have HF := hid hfin
          clear hfin s1 s6
          go_wp2
          go_ret2
          rw [← HF.out]
          exact ⟨_, rfl, Ext.refl _⟩
set_option maxRecDepth 100000 in
set_option maxHeartbeats 1000000 in
theorem div64_zero (lo : UInt64) (y : Int) (hy : 0 < y) (w : World) :
    Calls Tryz.prog 152 #[.int .u64 0, .int .u64 lo.toNat, .int .u64 y] w (Rem ((lo.toNat : Int) % y) w) := by
  have h0 := u_pos lo
  have hy1 : (y == 0) = false := by simp; omega
  go_enter Tryz.func152, Tryz.ntmps152
  go_wp2_with fail
  go_quiet (fail)
  go_wp2
  go_ret2
  exact ⟨_, rfl, ⟨rfl, rfl, rfl, Nat.le_refl _, fun _ _ => rfl⟩⟩
def mulRem (a b : Int) : Int := a * b % 18446744069414584321
theorem div64_mul (a b : UInt64) (y : Int) (hy : IsBig y) (ha : (a.toNat : Int) < y) (hb : (b.toNat : Int) < y) (w : World) :
    Calls Tryz.prog 152 #[.int .u64 ((a.toNat : Int) * b.toNat / 18446744073709551616), .int .u64 ((a.toNat : Int) * b.toNat % 18446744073709551616), .int .u64 y] w (Rem (mulRem a.toNat b.toNat) w) := by
  have hab : (a.toNat : Int) * b.toNat ≤ 18446744069414584320 * 18446744069414584320 :=
    Int.mul_le_mul (by rw [hy] at ha; omega) (by rw [hy] at hb; omega) (u_pos b) (by omega)
  have h0 : 0 ≤ (a.toNat : Int) * b.toNat := Int.mul_nonneg (u_pos a) (u_pos b)
  unfold mulRem
  generalize (a.toNat : Int) * b.toNat = m at *
  have h1 : m / 18446744073709551616 < 18446744069414584321 := by omega
  have eh : (m / 18446744073709551616) = (((UInt64.ofNat (m / 18446744073709551616).toNat).toNat : Nat) : Int) := by
    rw [toNat_ofNat_lt (by omega)]; omega
  have el : (m % 18446744073709551616) = (((UInt64.ofNat (m % 18446744073709551616).toNat).toNat : Nat) : Int) := by
    rw [toNat_ofNat_lt (by omega)]; omega
  by_cases hz : m / 18446744073709551616 = 0
  · rw [hz, el]
    have hm : m % 18446744069414584321 = (((UInt64.ofNat (m % 18446744073709551616).toNat).toNat : Nat) : Int) % y := by rw [hy, ← el]; omega
    rw [hm]
    exact div64_zero _ y hy.pos w
  · have hp : 0 < m / 18446744073709551616 := by omega
    have hm : m % 18446744069414584321 = ((((UInt64.ofNat (m / 18446744073709551616).toNat).toNat : Nat) : Int) * 18446744073709551616 + ((UInt64.ofNat (m % 18446744073709551616).toNat).toNat : Nat)) % 18446744069414584321 := by rw [← eh, ← el]; omega
    rw [hm]
    rw [eh] at hp h1
    conv => arg 3; rw [el, eh]
    exact div64_pos _ _ y hy hp (by rw [hy]; exact h1) w
set_option maxHeartbeats 400000 in
theorem mul_any (p : Int) (hp : IsBig p) (a b : UInt64) (w : World) (ha : (a.toNat : Int) < p) (hb : (b.toNat : Int) < p) :
    Calls Tryz.prog 188 #[.agg #[.int .u64 p], .int .u64 a.toNat, .int .u64 b.toNat] w fun e w' => e = .returned (.int .u64 (fMul0 a b).toNat) ∧ Ext w w' := by
  have hfin : mulRem a.toNat b.toNat = (fMul0 a b).toNat := by
    unfold mulRem; rw [fMul0_toNat, ← Int.natCast_mul]; rfl
  go_enter Tryz.func188, Tryz.ntmps188
  go_wp2_with fail
  refine (mul64_any _ _ _).mono ?_
  rintro e w' ⟨rfl, rfl⟩
  go_wp2_with fail
  refine (div64_mul a b p hp ha hb _).mono ?_
  rintro e w' ⟨q, rfl, hw⟩
  go_wp2
  go_ret
  exact ⟨rfl, ((Ext.refl _).alloc _).trans hw⟩
end Go.Proofs.YtcikjcjfcanloaaGreat
namespace Go.Proofs.YtcikjcjfcanloaaGreat
open Go.RowKit
theorem keep1 {a w w' : World} {b o : Nat} {v : Value} (h : w.cell? ⟨b, o, none⟩ = some v ∧ Ext a w) (k : Ext w w') : w'.cell? ⟨b, o, none⟩ = some v ∧ Ext a w' :=
  ⟨k.cell_some h.1, h.2.trans k⟩
set_option maxHeartbeats 400000 in
theorem valid_any (p : Int) (hp : IsBig p) (w : World) :
    Calls Tryz.prog 157 #[.agg #[.int .u64 p]] w fun e w' => e = .returned (.bool true) ∧ Ext w w' := by
  unfold IsBig at hp
  subst hp
  go_enter Tryz.func157, Tryz.ntmps157
  go_wp2
  go_ret
  exact ⟨rfl, (Ext.refl _).alloc _⟩
set_option maxHeartbeats 400000 in
theorem reduced_any (p : Int) (hp : IsBig p) (n : UInt64) (w : World) :
    Calls Tryz.prog 187 #[.agg #[.int .u64 p], .int .u64 n.toNat] w fun e w' => e = .returned (.int .u64 (fRed n).toNat) ∧ Ext w w' := by
  have hp0 := hp.pos
  go_enter Tryz.func187, Tryz.ntmps187
  go_wp2
  all_goals go_ret
  · exact ⟨ret_int (red_ge hp (by assumption)), (Ext.refl _).alloc _⟩
  · exact ⟨ret_int (red_lt hp (by assumption)), (Ext.refl _).alloc _⟩
theorem add_a {p : Int} (hp : IsBig p) {a b : UInt64} (_ha : (a.toNat : Int) < p) (_hb : (b.toNat : Int) < p) (_h : Cr a b = 0) (h : p ≤ (Sm a b : Int)) : IntKind.u64.wrap ((Sm a b : Int) - p) = (fAdd0 a b).toNat := by
  rw [IntKind.wrap_u64]; rw [hp] at *; rw [fAdd0_toNat]; unfold Sm Cr at *; omega
theorem add_b {p : Int} (hp : IsBig p) {a b : UInt64} (_ha : (a.toNat : Int) < p) (_hb : (b.toNat : Int) < p) (_h : Cr a b = 0) (h : (Sm a b : Int) < p) : (Sm a b : Int) = (fAdd0 a b).toNat := by
  rw [hp] at *; rw [fAdd0_toNat]; unfold Sm Cr at *; omega
theorem add_c {p : Int} (hp : IsBig p) {a b : UInt64} (_ha : (a.toNat : Int) < p) (_hb : (b.toNat : Int) < p) (h : ¬ Cr a b = 0) : IntKind.u64.wrap ((Sm a b : Int) - p) = (fAdd0 a b).toNat := by
  rw [IntKind.wrap_u64]; rw [hp] at *; rw [fAdd0_toNat]; unfold Sm Cr at *; omega
set_option maxHeartbeats 400000 in
theorem add_any (p : Int) (hp : IsBig p) (a b : UInt64) (w : World) (ha : (a.toNat : Int) < p) (hb : (b.toNat : Int) < p) :
    Calls Tryz.prog 186 #[.agg #[.int .u64 p], .int .u64 a.toNat, .int .u64 b.toNat] w fun e w' => e = .returned (.int .u64 (fAdd0 a b).toNat) ∧ Ext w w' := by
  have hp0 := hp.pos
  have hp1 := hp.lt
  have hcall := call_add64 a b
  go_enter Tryz.func186, Tryz.ntmps186
  go_wp2
  all_goals go_ret
  · exact ⟨ret_int (add_a hp ha hb (by assumption) (by assumption)), (Ext.refl _).alloc _⟩
  · exact ⟨ret_int (add_b hp ha hb (by assumption) (by assumption)), (Ext.refl _).alloc _⟩
  · exact ⟨ret_int (add_c hp ha hb (by assumption)), (Ext.refl _).alloc _⟩
set_option maxHeartbeats 400000 in
theorem Add_any (p : Int) (hp : IsBig p) (a b : UInt64) (w : World) :
    Calls Tryz.prog 177 #[.agg #[.int .u64 p], .int .u64 a.toNat, .int .u64 b.toNat] w fun e w' => e = .returned (.int .u64 (fAdd a b).toNat) ∧ Ext w w' := by
  go_enter Tryz.func177, Tryz.ntmps177
  go_wp2_with fail
  refine (valid_any p hp _).mono ?_
  rintro e w1 ⟨rfl, hb⟩
  have hcell : w1.cell? ⟨w.heap.size, 0, none⟩ = some (.int .u64 p) := hb.cell_some (by simp)
  go_wp2_with fail
  go_region_held3 (fun w' => w'.cell? ⟨w.heap.size, 0, none⟩ = some (.int .u64 p) ∧ Ext w1 w')
    (first | exact ⟨hcell, (Ext.refl _).drew⟩ | exact keep1 ‹_ ∧ _› hb2)
    (first | (go_at_call_of 187 (Value.int .u64 a.toNat); refine (reduced_any p hp a _).mono ?_; rintro e w2 ⟨rfl, hb2⟩)
           | (go_at_call_of 187 (Value.int .u64 b.toNat); refine (reduced_any p hp b _).mono ?_; rintro e w2 ⟨rfl, hb2⟩)
           | (go_at_call 186; refine (add_any p hp (fRed a) (fRed b) _ (fRed_lt hp a) (fRed_lt hp b)).mono ?_; rintro e w2 ⟨rfl, hb2⟩))
  go_wp2
  go_ret
  exact ⟨rfl, (((Ext.refl _).alloc _).trans hb).trans (And.right ‹_ ∧ _›)⟩
set_option maxHeartbeats 400000 in
theorem Mul_any (p : Int) (hp : IsBig p) (a b : UInt64) (w : World) :
    Calls Tryz.prog 178 #[.agg #[.int .u64 p], .int .u64 a.toNat, .int .u64 b.toNat] w fun e w' => e = .returned (.int .u64 (fMul a b).toNat) ∧ Ext w w' := by
  go_enter Tryz.func178, Tryz.ntmps178
  go_wp2_with fail
  refine (valid_any p hp _).mono ?_
  rintro e w1 ⟨rfl, hb⟩
  have hcell : w1.cell? ⟨w.heap.size, 0, none⟩ = some (.int .u64 p) := hb.cell_some (by simp)
  go_wp2_with fail
  go_region_held3 (fun w' => w'.cell? ⟨w.heap.size, 0, none⟩ = some (.int .u64 p) ∧ Ext w1 w')
    (first | exact ⟨hcell, (Ext.refl _).drew⟩ | exact keep1 ‹_ ∧ _› hb2)
    (first | (go_at_call_of 187 (Value.int .u64 a.toNat); refine (reduced_any p hp a _).mono ?_; rintro e w2 ⟨rfl, hb2⟩)
           | (go_at_call_of 187 (Value.int .u64 b.toNat); refine (reduced_any p hp b _).mono ?_; rintro e w2 ⟨rfl, hb2⟩)
           | (go_at_call 188; refine (mul_any p hp (fRed a) (fRed b) _ (fRed_lt hp a) (fRed_lt hp b)).mono ?_; rintro e w2 ⟨rfl, hb2⟩))
  go_wp2
  go_ret
  exact ⟨rfl, (((Ext.refl _).alloc _).trans hb).trans (And.right ‹_ ∧ _›)⟩
def powInv (a e r x y : UInt64) : Prop := (r.toNat * x.toNat ^ y.toNat) % 18446744069414584321 = (a.toNat ^ e.toNat) % 18446744069414584321
theorem half_u (y : UInt64) : (y / 2).toNat = y.toNat / 2 := by rw [UInt64.toNat_div]; rfl
theorem pow_odd {a e r x y : UInt64} (h : powInv a e r x y) (ho : y.toNat % 2 = 1) : powInv a e (fMul0 r x) (fMul0 x x) (y / 2) := by
  unfold powInv at *
  rw [fMul0_toNat, fMul0_toNat, half_u, ← h]
  rw [Nat.mul_mod, Nat.mod_mod, Nat.pow_mod, Nat.mod_mod, ← Nat.pow_mod, ← Nat.mul_mod]
  have e1 : x.toNat ^ y.toNat = x.toNat * (x.toNat * x.toNat) ^ (y.toNat / 2) := by
    conv => lhs; rw [show y.toNat = 2 * (y.toNat / 2) + 1 from by omega, Nat.pow_succ, Nat.pow_mul, Nat.pow_two, Nat.mul_comm]
  rw [e1, Nat.mul_assoc]
theorem pow_even {a e r x y : UInt64} (h : powInv a e r x y) (ho : y.toNat % 2 = 0) : powInv a e r (fMul0 x x) (y / 2) := by
  unfold powInv at *
  rw [fMul0_toNat, half_u, ← h]
  rw [Nat.mul_mod, Nat.pow_mod, Nat.mod_mod, ← Nat.pow_mod, ← Nat.mul_mod]
  have e1 : x.toNat ^ y.toNat = (x.toNat * x.toNat) ^ (y.toNat / 2) := by
    conv => lhs; rw [show y.toNat = 2 * (y.toNat / 2) from by omega, Nat.pow_mul, Nat.pow_two]
  rw [e1]
theorem pow_last_odd {a e r x y : UInt64} (h : powInv a e r x y) (ho : y.toNat = 1) : powInv a e (fMul0 r x) x (y / 2) := by
  unfold powInv at *
  rw [fMul0_toNat, half_u, ← h, ho]; simp
theorem powInv_zero {a e r x y : UInt64} (h : powInv a e r x y) (h0 : y.toNat = 0) {p : Int} (hp : IsBig p) (hr : (r.toNat : Int) < p) : r = fPow0 a e := by
  unfold powInv at h
  apply UInt64.toNat_inj.1
  rw [fPow0_toNat, ← h, h0]
  rw [hp] at hr
  simp; omega
theorem powInv_start (a e : UInt64) : powInv a e 1 a e := by unfold powInv; simp
theorem shr1_u (y : UInt64) : ((y.toNat : Int) / 2) = ((y / 2).toNat : Int) := by rw [half_u]; omega
theorem one_lt_big {p : Int} (hp : IsBig p) : (((1 : UInt64).toNat : Nat) : Int) < p := by rw [hp]; decide
set_option maxHeartbeats 1000000 in
theorem pow_any (p : Int) (hp : IsBig p) (a b : UInt64) (w : World) (ha : (a.toNat : Int) < p) :
    Calls Tryz.prog 198 #[.agg #[.int .u64 p], .int .u64 a.toNat, .int .u64 b.toNat] w fun e w' => e = .returned (.int .u64 (fPow0 a b).toNat) ∧ Ext w w' := by
  go_enter Tryz.func198, Tryz.ntmps198
  go_wp2
  go_loopw [1, 2, 7] (fun xv yv rv wr => ∃ x y r : UInt64, xv = .int .u64 x.toNat ∧ yv = .int .u64 y.toNat ∧ rv = .int .u64 r.toNat ∧ powInv a b r x y ∧ (x.toNat : Int) < p ∧ (r.toNat : Int) < p ∧ wr.cell? ⟨w.heap.size, 0, none⟩ = some (.int .u64 p) ∧ Ext w wr) (fun _ yv _ _ => (intOf yv).toNat)
  case atStart => exact ⟨a, b, 1, rfl, rfl, rfl, powInv_start a b, ha, one_lt_big hp, by simp, (Ext.refl _).alloc _⟩
  case round =>
    obtain ⟨x, y, r, rfl, rfl, rfl, hI, hx, hr, hcell, hE⟩ := hrel
    clear ha
    have HI := hid hI
    clear hI
    by_cases hz : (y.toNat : Int) = 0
    · have hz' : ¬ (0 : Int) < y.toNat := by omega
      have hfin := powInv_zero HI.out (by omega) hp hr
      subst hfin
      clear hz
      go_wp2
      go_ret
      exact ⟨rfl, hE⟩
    · have hz' : (0 : Int) < y.toNat := by omega
      clear hz
      have hand : bits BinOp.and IntKind.u64 (y.toNat : Int) 1 = (y.toNat : Int) % 2 := and_one_u64 _ (u_pos y) (by have := u_lt y; omega)
      obtain ⟨z, hzz⟩ : ∃ z : UInt64, z = y / 2 := ⟨_, rfl⟩
      have hsh := shr1_u y
      have hzn : (z.toNat : Int) = (y.toNat : Int) / 2 := by rw [hzz, half_u]; omega
      rw [← hzz] at hsh
      by_cases h1 : (y.toNat : Int) = 1
      · have ho : ((y.toNat : Int) % 2 == 1) = true := by simp; omega
        have hy2 : (z.toNat : Int) = 0 := by omega
        have H1 : Hid (powInv a b (fMul0 r x) x z) := by rw [hzz]; exact pow_last_odd HI.out (by omega)
        clear h1 hzz hzn
        go_wp2_with fail
        refine (mul_any p hp r x _ hr hx).mono ?_
        rintro e w2 ⟨rfl, hb2⟩
        have hc2 := hb2.cell_some hcell
        clear hcell
        go_wp2
        go_roundw
        case rel => exact ⟨x, z, fMul0 r x, rfl, by rw [hy2], rfl, H1.out, hx, fMul0_lt hp _ _, hc2, hE.trans hb2⟩
        case measure => simp [intOf]; omega
      · have hlt : (z.toNat : Int) < y.toNat := by omega
        have hpos : 0 < (z.toNat : Int) := by omega
        by_cases ho2 : (y.toNat : Int) % 2 = 1
        · have ho : ((y.toNat : Int) % 2 == 1) = true := by simp; omega
          have H1 : Hid (powInv a b (fMul0 r x) (fMul0 x x) z) := by rw [hzz]; exact pow_odd HI.out (by omega)
          clear h1 ho2 hzz hzn
          go_wp2_with fail
          refine (mul_any p hp r x _ hr hx).mono ?_
          rintro e w2 ⟨rfl, hb2⟩
          have hc2 := hb2.cell_some hcell
          clear hcell
          go_wp2_with fail
          refine (mul_any p hp x x _ hx hx).mono ?_
          rintro e w3 ⟨rfl, hb3⟩
          have hc3 := hb3.cell_some hc2
          clear hc2
          go_wp2
          go_roundw
          case rel => exact ⟨fMul0 x x, z, fMul0 r x, rfl, rfl, rfl, H1.out, fMul0_lt hp _ _, fMul0_lt hp _ _, hc3, (hE.trans hb2).trans hb3⟩
          case measure => simp [intOf]; omega
        · have ho : ((y.toNat : Int) % 2 == 1) = false := by simp; omega
          have H1 : Hid (powInv a b r (fMul0 x x) z) := by rw [hzz]; exact pow_even HI.out (by omega)
          clear h1 ho2 hzz hzn
          go_wp2_with fail
          refine (mul_any p hp x x _ hx hx).mono ?_
          rintro e w3 ⟨rfl, hb3⟩
          have hc3 := hb3.cell_some hcell
          clear hcell
          go_wp2
          go_roundw
          case rel => exact ⟨fMul0 x x, z, r, rfl, rfl, rfl, H1.out, fMul0_lt hp _ _, hr, hc3, hE.trans hb3⟩
          case measure => simp [intOf]; omega
set_option maxHeartbeats 400000 in
theorem Pow_any (p : Int) (hp : IsBig p) (a b : UInt64) (w : World) :
    Calls Tryz.prog 190 #[.agg #[.int .u64 p], .int .u64 a.toNat, .int .u64 b.toNat] w fun e w' => e = .returned (.int .u64 (fPow a b).toNat) ∧ Ext w w' := by
  go_enter Tryz.func190, Tryz.ntmps190
  go_wp2_with fail
  refine (valid_any p hp _).mono ?_
  rintro e w1 ⟨rfl, hb⟩
  have hcell : w1.cell? ⟨w.heap.size, 0, none⟩ = some (.int .u64 p) := hb.cell_some (by simp)
  go_wp2_with fail
  go_region_held3 (fun w' => w'.cell? ⟨w.heap.size, 0, none⟩ = some (.int .u64 p) ∧ Ext w1 w')
    (first | exact ⟨hcell, (Ext.refl _).drew⟩ | exact keep1 ‹_ ∧ _› hb2)
    (first | (go_at_call 187; refine (reduced_any p hp a _).mono ?_; rintro e w2 ⟨rfl, hb2⟩)
           | (go_at_call 198; refine (pow_any p hp (fRed a) b _ (fRed_lt hp a)).mono ?_; rintro e w2 ⟨rfl, hb2⟩))
  go_wp2
  go_ret
  exact ⟨rfl, (((Ext.refl _).alloc _).trans hb).trans (And.right ‹_ ∧ _›)⟩
set_option maxHeartbeats 400000 in
theorem Reduce_any (p : Int) (hp : IsBig p) (a : UInt64) (w : World) :
    Calls Tryz.prog 199 #[.agg #[.int .u64 p], .int .u64 a.toNat] w fun e w' => e = .returned (.int .u64 (fRed a).toNat) ∧ Ext w w' := by
  go_enter Tryz.func199, Tryz.ntmps199
  go_wp2_with fail
  refine (valid_any p hp _).mono ?_
  rintro e w1 ⟨rfl, hb⟩
  have hcell : w1.cell? ⟨w.heap.size, 0, none⟩ = some (.int .u64 p) := hb.cell_some (by simp)
  go_wp2_with fail
  refine (reduced_any p hp a _).mono ?_
  rintro e w2 ⟨rfl, hb2⟩
  go_wp2
  go_ret
  exact ⟨rfl, (((Ext.refl _).alloc _).trans hb).trans hb2⟩
theorem neg_zero {a : UInt64} (h : ((fRed a).toNat : Int) = 0) : (0 : Int) = ((fNeg a).toNat : Int) := by
  rw [fRed_toNat] at h; rw [fNeg_toNat]; omega
theorem neg_pos {p : Int} (hp : IsBig p) {a : UInt64} (h : ¬ ((fRed a).toNat : Int) = 0) : p - ((fRed a).toNat : Int) = ((fNeg a).toNat : Int) := by
  rw [hp]; rw [fRed_toNat] at *; rw [fNeg_toNat]; omega
set_option maxHeartbeats 400000 in
theorem numbers_any (p : Int) (hp : IsBig p) (w : World) :
    Calls Tryz.prog 197 #[.agg #[.int .u64 p]] w fun e w' => e = .returned (.tuple #[.int .u64 7, .int .i64 32, .int .u64 7]) ∧ Ext w w' := by
  unfold IsBig at hp
  subst hp
  go_enter Tryz.func197, Tryz.ntmps197
  go_wp2
  go_ret3
  exact ⟨rfl, (Ext.refl _).alloc _⟩
set_option maxHeartbeats 400000 in
theorem Exponent_any (p : Int) (hp : IsBig p) (w : World) :
    Calls Tryz.prog 189 #[.agg #[.int .u64 p]] w fun e w' => e = .returned (.int .u64 7) ∧ Ext w w' := by
  go_enter Tryz.func189, Tryz.ntmps189
  go_wp2_with fail
  refine (numbers_any p hp _).mono ?_
  rintro e w1 ⟨rfl, hb⟩
  go_wp2
  go_ret
  exact ⟨rfl, ((Ext.refl _).alloc _).trans hb⟩
end Go.Proofs.YtcikjcjfcanloaaGreat
namespace Go.Proofs.YtcikjcjfcanloaaGreat
open Go.RowKit
section
variable {P : Program} {ops : Array Oper} {Q : Exit → Act → World → Prop} {S : World → Prop}
def wpAnyN (P : Program) (ops : Array Oper) (Q : Exit → Act → World → Prop) (S : World → Prop) (n : Nat) : Nat → Array Bool → Act → World → Prop
  | 0, listed, a, w => Region.ready .any ops listed = [] ∧ Q .normal a w
  | fuel + 1, listed, a, w =>
    (Region.ready .any ops listed = [] → Q .normal a w) ∧
    ∀ i ∈ Region.ready .any ops listed, wpOp P ops Q i (fun a' w' => (i < n → S w') ∧ wpAnyN P ops Q S n fuel (listed.setIfInBounds i true) a' w') a w
theorem wpAny_of_N {n : Nat} : ∀ (fuel : Nat) (listed : Array Bool) (a : Act) (w : World), wpAnyN P ops Q S n fuel listed a w → wpAny P .any ops Q fuel listed a w
  | 0, _, _, _, h => h
  | fuel + 1, _, _, _, h => ⟨h.1, fun i hi => wpOp_mono (fun a' w' h' => wpAny_of_N fuel _ a' w' h'.2) (h.2 i hi)⟩
theorem wpAnyN_first {n i : Nat} {oi : Oper} {v : Value} (hi : ops[i]? = some oi) (hsel : ∀ (j : Nat) (o : Oper) cs b, ops[j]? = some o → o.op ≠ .select cs b)
    (hQ : ∀ c a d v w, Q (.panic c) (Act.put a d v) w → Q (.panic c) a w) (hs : Region.sinkB .any ops n = true) (hc : Region.chainB .any ops n = true) (hn : n < ops.size) (hin : i < n) :
    ∀ (fuel : Nat) (listed : Array Bool) (a : Act) (w : World), HeadInv .any ops n listed →
      (∀ j oj, ops[j]? = some oj → j ≠ i → listed.getD j true = false → (∀ e ∈ oj.after, Region.binds .any e = true → e.on ≠ i) → oi.apart ops oj = true) →
      i ∈ Region.ready .any ops listed → YieldsIf P ops S oi v a → S w →
      wpAnyN P ops Q S n fuel (listed.setIfInBounds i true) (a.put oi.dst v) w → wpAnyN P ops Q S n (fuel + 1) listed a w := by
  intro fuel
  induction fuel with
  | zero =>
    intro listed a w _ _ hr hy hS H
    refine ⟨fun h => (by rw [h] at hr; cases hr), fun j hj => ?_⟩
    by_cases hji : j = i
    · subst hji; exact hy.wpOp hi hS ⟨fun _ => hS, H⟩
    · have := ready_mono hj hji
      rw [H.1] at this
      cases this
  | succ fuel ih =>
    intro listed a w inv hfree hr hy hS H
    refine ⟨fun h => (by rw [h] at hr; cases hr), fun j hj => ?_⟩
    by_cases hji : j = i
    · subst hji; exact hy.wpOp hi hS ⟨fun _ => hS, H⟩
    · have hjn : j < n := by
        rcases Nat.lt_or_ge j n with h | h
        · exact h
        · exact absurd hj (tail_waits hs hc hn inv (n - i) i rfl hin (mem_ready.1 hr).1 j h)
      have h1 := H.2 j (ready_mono hj hji)
      obtain ⟨hjun, oj, hoj, hall⟩ := mem_ready.1 hj
      have hnot : ∀ e ∈ oj.after, Region.binds .any e = true → e.on ≠ i := fun e he hb heq => by
        have h1 := hall e he hb
        have h0 := (mem_ready.1 hr).1
        rw [heq] at h1
        rcases Nat.lt_or_ge i listed.size with h' | h'
        · simp [h'] at h0 h1; rw [h0] at h1; cases h1
        · simp [Array.getElem?_eq_none h'] at h1
      have h2 := wpOp_putIf hoj (hfree j oj hoj hji hjun hnot) (fun cs b => hsel i oi cs b hi) (fun cs b => hsel j oj cs b hoj) (fun c a w h => hQ c a _ _ w h) hy h1
      have hfree' : ∀ k ok, ops[k]? = some ok → k ≠ i → (listed.setIfInBounds j true).getD k true = false →
          (∀ e ∈ ok.after, Region.binds .any e = true → e.on ≠ i) → oi.apart ops ok = true := fun k ok hk hki hun hno => by
        refine hfree k ok hk hki ?_ hno
        by_cases hjk : j = k
        · subst hjk; exact hjun
        · rw [getD_set_ne true hjk] at hun; exact hun
      refine wpOp_mono (fun a' w' h3 => ⟨fun _ => h3.2.1 hjn, ih (listed.setIfInBounds j true) a' w' (inv.set hj hjn) hfree' (ready_mono hr (Ne.symm hji)) h3.1 (h3.2.1 hjn) ?_⟩) h2
      rw [Array.setIfInBounds_comm _ _ hji]
      exact h3.2.2
/-- One way through the region: (number, does it yield the same in every world that meets S?). -/
def wpT (P : Program) (ops : Array Oper) (Q : Exit → Act → World → Prop) (S : World → Prop) (n : Nat) : List (Nat × Bool) → Act → World → Prop
  | [], a, w => Q .normal a w
  | x :: r, a, w => match x.2 with
    | true => ∃ o v, ops[x.1]? = some o ∧ YieldsIf P ops S o v a ∧ S w ∧ wpT P ops Q S n r (a.put o.dst v) w
    | false => wpOp P ops Q x.1 (fun a' w' => (x.1 < n → S w') ∧ wpT P ops Q S n r a' w') a w
def chkT (ops : Array Oper) (n : Nat) : List (Nat × Bool) → Array Bool → Bool
  | [], listed => (Region.ready .any ops listed).isEmpty
  | x :: r, listed => (match x.2 with
    | true => decide (x.1 < n) && (Region.ready .any ops listed).contains x.1 && Region.free .any ops listed x.1
    | false => decide (Region.ready .any ops listed = [x.1]) && (decide (x.1 < n) || r.all fun x => !x.2)) && chkT ops n r (listed.setIfInBounds x.1 true)
theorem wpT_sound {n : Nat} (hsel : Region.noSelect ops = true) (hQ : ∀ c a d v w, Q (.panic c) (Act.put a d v) w → Q (.panic c) a w) (hs : Region.sinkB .any ops n = true) (hc : Region.chainB .any ops n = true) (hn : n < ops.size) :
    ∀ (L : List (Nat × Bool)) (listed : Array Bool) (a : Act) (w : World), (HeadInv .any ops n listed ∨ L.all (fun x => !x.2) = true) → chkT ops n L listed = true →
      wpT P ops Q S n L a w → wpAnyN P ops Q S n L.length listed a w
  | [], listed, a, w, _, hk, h => ⟨by simpa [chkT] using hk, h⟩
  | (i, true) :: r, listed, a, w, inv, hk, h => by
    simp only [chkT, Bool.and_eq_true, decide_eq_true_eq] at hk
    obtain ⟨⟨⟨hin, hr⟩, hf⟩, hk'⟩ := hk
    obtain ⟨o, v, ho, hy, hS, hrest⟩ := h
    rcases inv with inv | hall
    · have hr' : i ∈ Region.ready .any ops listed := by simpa using hr
      exact wpAnyN_first ho (Region.noSelect_spec hsel) hQ hs hc hn hin r.length listed a w inv (Region.free_spec ho hf) hr' hy hS
        (wpT_sound hsel hQ hs hc hn r _ _ w (.inl (inv.set hr' hin)) hk' hrest)
    · simp at hall
  | (i, false) :: r, listed, a, w, inv, hk, h => by
    simp only [chkT, Bool.and_eq_true, decide_eq_true_eq] at hk
    obtain ⟨⟨hr, ht⟩, hk'⟩ := hk
    refine ⟨fun h0 => (by rw [hr] at h0; cases h0), fun j hj => ?_⟩
    have hji : j = i := by rw [hr] at hj; simpa using hj
    subst hji
    have h0 : wpOp P ops Q j (fun a' w' => (j < n → S w') ∧ wpT P ops Q S n r a' w') a w := h
    refine wpOp_mono (fun a' w' h' => ⟨h'.1, wpT_sound hsel hQ hs hc hn r _ a' w' ?_ hk' h'.2⟩) h0
    rcases inv with inv | hall
    · simp only [Bool.or_eq_true, decide_eq_true_eq] at ht
      rcases ht with ht | ht
      · exact .inl (inv.set hj ht)
      · exact .inr ht
    · exact .inr (by simpa using hall)
/-- THE BEGINNING: the region from the world behind the draw, in the order L. -/
theorem wp_region_T {id : Nat} {a : Act} {w : World} (S : World → Prop) (n : Nat) (L : List (Nat × Bool)) (hm : P.follows .mixedOrders = true)
    (hk : (Region.noSelect ops && decide (n < ops.size) && Region.sinkB .any ops n && Region.chainB .any ops n && decide (L.length = ops.size) && chkT ops n L (Array.replicate ops.size false)) = true)
    (hQ : ∀ c a d v w, Q (.panic c) (Act.put a d v) w → Q (.panic c) a w)
    (h : ∀ ops', ops' = ops → wpT P ops' Q S n L a w.drew) : (Code.region id ops true).wp P Q a w := by
  simp only [Bool.and_eq_true, decide_eq_true_eq] at hk
  obtain ⟨⟨⟨⟨⟨hsel, hn⟩, hs⟩, hc⟩, hl⟩, hch⟩ := hk
  refine wp_region_any hm ?_
  rw [← hl]
  refine wpAny_of_N _ _ _ _ (wpT_sound (S := S) hsel hQ hs hc hn L _ a _ (.inl ?_) (by rw [hl]; exact hch) (h _ rfl))
  refine ⟨by simp [hl], fun j oj _ hl => (by rw [getD_replicate_false] at hl; cases hl), fun t _ ht => getD_in (by simpa [hl] using ht) (getD_replicate_false _ _)⟩
theorem wpT_take {n i : Nat} {r : List (Nat × Bool)} {o : Oper} {v : Value} {a : Act} {w : World} (ho : ops[i]? = some o) (hg : Region.wanted o (yielded ops a.tmps) = true)
    (hy : ∀ w', S w' → (execOp a.eval o).run P w' = .ok (.value v) w') (hS : S w) (h : wpT P ops Q S n r (a.put o.dst v) w) : wpT P ops Q S n ((i, true) :: r) a w :=
  ⟨o, v, ho, .inl ⟨hg, hy⟩, hS, h⟩
theorem wpT_pass {n i : Nat} {r : List (Nat × Bool)} {o : Oper} {a : Act} {w : World} (ho : ops[i]? = some o) (hg : Region.wanted o (yielded ops a.tmps) = false)
    (hS : S w) (h : wpT P ops Q S n r (a.put o.dst undef) w) : wpT P ops Q S n ((i, true) :: r) a w :=
  ⟨o, undef, ho, .inr ⟨hg, rfl⟩, hS, h⟩
theorem wpT_step {n i : Nat} {r : List (Nat × Bool)} {o : Oper} {a : Act} {w : World} (ho : ops[i]? = some o) (hg : Region.wanted o (yielded ops a.tmps) = true)
    (h : ∀ K : Act → World → Prop, (∀ a' w', ((i < n → S w') ∧ wpT P ops Q S n r a' w') → K a' w') → o.wp P a w K Q) : wpT P ops Q S n ((i, false) :: r) a w := by
  unfold wpT wpOp
  simp only [ho, hg, if_true]
  exact .inl (h _ fun _ _ h => h)
theorem wpT_none {n i : Nat} {r : List (Nat × Bool)} {o : Oper} {a : Act} {w : World} (ho : ops[i]? = some o) (hg : Region.wanted o (yielded ops a.tmps) = false)
    (h : (i < n → S w) ∧ wpT P ops Q S n r (a.put o.dst undef) w) : wpT P ops Q S n ((i, false) :: r) a w := by
  unfold wpT wpOp
  simp only [ho, hg]
  exact h
def headB (ops : Array Oper) (n : Nat) (listed : Array Bool) : Bool :=
  decide (listed.size = ops.size) && ((List.range ops.size).all fun j => !(listed.getD j false) || ((ops[j]?).map fun o => o.after.all fun e => !(Region.binds .any e) || listed.getD e.on false).getD true) &&
    ((List.range ops.size).all fun t => decide (t < n) || !(listed.getD t true))
theorem headB_inv {n : Nat} {listed : Array Bool} (h : headB ops n listed = true) : HeadInv .any ops n listed := by
  simp only [headB, Bool.and_eq_true, decide_eq_true_eq, List.all_eq_true, List.mem_range] at h
  obtain ⟨⟨h1, h2⟩, h3⟩ := h
  refine ⟨h1, fun j oj hj hl e he hb => ?_, fun t ht hts => ?_⟩
  · have hjs : j < ops.size := (Array.getElem?_eq_some_iff.1 hj).1
    have h4 := h2 j hjs
    simp only [hl, Bool.not_true, Bool.false_or, hj, Option.map_some, Option.getD_some] at h4
    have h5 := Array.all_eq_true_iff_forall_mem.1 h4 e he
    simpa [hb] using h5
  · have h4 := h3 t hts
    have h5 : decide (t < n) = false := by simp; omega
    simpa [h5] using h4
def okTake (ops : Array Oper) (n : Nat) (listed : Array Bool) (i : Nat) : Bool :=
  Region.noSelect ops && decide (n < ops.size) && Region.sinkB .any ops n && Region.chainB .any ops n && headB ops n listed && decide (i < n) && (Region.ready .any ops listed).contains i && Region.free .any ops listed i
theorem wp_region_N {id : Nat} {a : Act} {w : World} (S : World → Prop) (n N : Nat) (hm : P.follows .mixedOrders = true) (hN : ops.size = N)
    (h : ∀ ops', ops' = ops → wpAnyN P ops' Q S n N (Array.replicate N false) a w.drew) : (Code.region id ops true).wp P Q a w := by
  refine wp_region_any hm ?_
  subst hN
  exact wpAny_of_N _ _ _ _ (h _ rfl)
theorem N_take {n fuel i : Nat} {listed : Array Bool} {o : Oper} {v : Value} {a : Act} {w : World} (ho : ops[i]? = some o) (hk : okTake ops n listed i = true)
    (hQ : ∀ c a d v w, Q (.panic c) (Act.put a d v) w → Q (.panic c) a w) (hg : Region.wanted o (yielded ops a.tmps) = true)
    (hy : ∀ w', S w' → (execOp a.eval o).run P w' = .ok (.value v) w') (hS : S w) (h : wpAnyN P ops Q S n fuel (listed.setIfInBounds i true) (a.put o.dst v) w) : wpAnyN P ops Q S n (fuel + 1) listed a w := by
  simp only [okTake, Bool.and_eq_true, decide_eq_true_eq] at hk
  obtain ⟨⟨⟨⟨⟨⟨⟨hsel, hn⟩, hs⟩, hc⟩, hh⟩, hin⟩, hr⟩, hf⟩ := hk
  exact wpAnyN_first ho (Region.noSelect_spec hsel) hQ hs hc hn hin fuel listed a w (headB_inv hh) (Region.free_spec ho hf) (by simpa using hr) (.inl ⟨hg, hy⟩) hS h
theorem N_one {n fuel i : Nat} {listed : Array Bool} {o : Oper} {a : Act} {w : World} (ho : ops[i]? = some o) (hr : Region.ready .any ops listed = [i]) (hg : Region.wanted o (yielded ops a.tmps) = true)
    (h : ∀ K : Act → World → Prop, (∀ a' w', ((i < n → S w') ∧ wpAnyN P ops Q S n fuel (listed.setIfInBounds i true) a' w') → K a' w') → o.wp P a w K Q) : wpAnyN P ops Q S n (fuel + 1) listed a w := by
  refine ⟨fun h0 => (by rw [hr] at h0; cases h0), fun j hj => ?_⟩
  have hji : j = i := by rw [hr] at hj; simpa using hj
  subst hji
  unfold wpOp
  simp only [ho, hg, if_true]
  exact .inl (h _ fun _ _ h => h)
theorem N_two {n fuel i k : Nat} {listed : Array Bool} {o o' : Oper} {a : Act} {w : World} (ho : ops[i]? = some o) (ho' : ops[k]? = some o') (hr : Region.ready .any ops listed = [i, k])
    (hg : Region.wanted o (yielded ops a.tmps) = true) (hg' : Region.wanted o' (yielded ops a.tmps) = true)
    (h : ∀ K : Act → World → Prop, (∀ a' w', ((i < n → S w') ∧ wpAnyN P ops Q S n fuel (listed.setIfInBounds i true) a' w') → K a' w') → o.wp P a w K Q)
    (h' : ∀ K : Act → World → Prop, (∀ a' w', ((k < n → S w') ∧ wpAnyN P ops Q S n fuel (listed.setIfInBounds k true) a' w') → K a' w') → o'.wp P a w K Q) : wpAnyN P ops Q S n (fuel + 1) listed a w := by
  refine ⟨fun h0 => (by rw [hr] at h0; cases h0), fun j hj => ?_⟩
  have hji : j = i ∨ j = k := by rw [hr] at hj; simpa using hj
  rcases hji with rfl | rfl
  · unfold wpOp
    simp only [ho, hg, if_true]
    exact .inl (h _ fun _ _ h => h)
  · unfold wpOp
    simp only [ho', hg', if_true]
    exact .inl (h' _ fun _ _ h => h)
theorem N_done {n : Nat} {listed : Array Bool} {a : Act} {w : World} (hr : Region.ready .any ops listed = []) (h : Q .normal a w) : wpAnyN P ops Q S n 0 listed a w := ⟨hr, h⟩
end
theorem wpT_nil {P : Program} {ops : Array Oper} {Q : Exit → Act → World → Prop} {S : World → Prop} {n : Nat} {a : Act} {w : World} : wpT P ops Q S n [] a w = Q .normal a w := rfl
end Go.Proofs.YtcikjcjfcanloaaGreat
