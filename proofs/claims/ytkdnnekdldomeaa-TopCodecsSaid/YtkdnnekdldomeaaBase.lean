/- Small general lemmas for the walks of this claim: endings, worlds that only grew, integers of 64 bits, a boxed value behind a call. -/
import Derived.Test.YtkdnnekdldomeaaRows
import Derived.WalkKit
import Derived.WalkSpells
import Derived.WalkLawsBesides
import Derived.Deep.QuietTactic
import Derived.Deep.RegionHeld3
import Derived.BigQuiet
namespace Go.Proofs.Ytkdnnekdldomeaa
open Go.RowKit

theorem ret_int {k : IntKind} {a b : Int} (h : a = b) : Ending.returned (.int k a) = .returned (.int k b) := by rw [h]
theorem ret_bool {a b : Bool} (h : a = b) : Ending.returned (.bool a) = .returned (.bool b) := by rw [h]

/-- Nothing that was there has turned: the heap has only grown. -/
abbrev Ext (w w' : World) : Prop := Below w.heap.size w w'

theorem Ext.refl (w : World) : Ext w w := Below.refl _ _
theorem Ext.trans {a b c : World} (h : Ext a b) (k : Ext b c) : Ext a c := Below.trans h (k.mono h.size)
theorem Ext.alloc {a w : World} (h : Ext a w) (o : Obj) : Ext a (w.alloc o) := Below.alloc h h.size o
theorem Ext.drew {a w : World} (h : Ext a w) : Ext a w.drew := Below.drew h
theorem Ext.setCell {a w : World} (h : Ext a w) {p : Addr} (hp : a.heap.size ≤ p.block) (u : Value) : Ext a (w.setCell p u) := Below.setCell h hp u

theorem Ext.cell_some {w w' : World} (h : Ext w w') {b o : Nat} {v : Value} (hc : w.cell? ⟨b, o, none⟩ = some v) : w'.cell? ⟨b, o, none⟩ = some v := by
  have hb : b < w.heap.size := by
    rcases Nat.lt_or_ge b w.heap.size with hl | hl
    · exact hl
    · simp [World.cell?, Array.getElem?_eq_none hl] at hc
  rw [Below.cell h (p := ⟨b, o, none⟩) hb]; exact hc

theorem Ext.heap_some {w w' : World} (h : Ext w w') {b : Nat} {o : Obj} (hc : w.heap[b]? = some o) : w'.heap[b]? = some o := by
  have hb : b < w.heap.size := by
    rcases Nat.lt_or_ge b w.heap.size with hl | hl
    · exact hl
    · simp [Array.getElem?_eq_none hl] at hc
  rw [h.block b hb]; exact hc

theorem heap_alloc_some {w : World} {b : Nat} {o o' : Obj} (hc : w.heap[b]? = some o) : (w.alloc o').heap[b]? = some o := (Ext.refl w |>.alloc o').heap_some hc
theorem heap_lt {w : World} {b : Nat} {o : Obj} (hc : w.heap[b]? = some o) : b < w.heap.size := by
  rcases Nat.lt_or_ge b w.heap.size with hl | hl
  · exact hl
  · simp [Array.getElem?_eq_none hl] at hc
theorem cell_lt {w : World} {b o : Nat} {v : Value} (hc : w.cell? ⟨b, o, none⟩ = some v) : b < w.heap.size := by
  rcases Nat.lt_or_ge b w.heap.size with hl | hl
  · exact hl
  · simp [World.cell?, Array.getElem?_eq_none hl] at hc

/-- A cell of a block that is known whole. -/
theorem cell_of {w : World} {b : Nat} {cs : Array Value} {t : TypeId} {fz : Nat × Nat} (h : w.heap[b]? = some (.cells cs t fz)) (o : Nat) : w.cell? ⟨b, o, none⟩ = cs[o]? := by
  simp [World.cell?, h]
theorem frozen_of {w : World} {b : Nat} {cs : Array Value} {t : TypeId} (h : w.heap[b]? = some (.cells cs t (0, 0))) (o : Nat) : w.frozen? ⟨b, o, none⟩ = false := by
  simp [World.frozen?, h]
theorem heap_setCell_same {w : World} {b : Nat} {cs : Array Value} {t : TypeId} {fz : Nat × Nat} (h : w.heap[b]? = some (.cells cs t fz)) (o : Nat) (v : Value) :
    (w.setCell ⟨b, o, none⟩ v).heap[b]? = some (.cells (cs.setIfInBounds o v) t fz) := by
  simp [World.setCell, Array.getElem?_modify, h]
theorem heap_setCell_ne {w : World} {b b' : Nat} (hne : b' ≠ b) (o : Nat) (v : Value) : (w.setCell ⟨b, o, none⟩ v).heap[b']? = w.heap[b']? :=
  Below.heap_setCell w ⟨b, o, none⟩ v b' hne
theorem heap_new (w : World) (o : Obj) : (w.alloc o).heap[w.heap.size]? = some o := by
  show (w.heap.push o)[w.heap.size]? = _
  simp

/-- What holds in every world that grew out of w0 holds behind one step more. -/
theorem keepE {w0 w w' : World} {C : World → Prop} (H : ∀ v, Ext w0 v → C v) (h : C w ∧ Ext w0 w) (k : Ext w w') : C w' ∧ Ext w0 w' := ⟨H _ (h.2.trans k), h.2.trans k⟩
theorem keep0 {w0 : World} {C : World → Prop} (H : ∀ v, Ext w0 v → C v) : C w0.drew ∧ Ext w0 w0.drew := ⟨H _ (Ext.refl _).drew, (Ext.refl _).drew⟩

/-- All that was there is as it was, but for the blocks of F; and the heap has not shrunk. -/
structure Kp (F : Nat → Prop) (w w' : World) : Prop where
  os : w'.os = w.os
  tape : w'.tape = w.tape
  output : w'.output = w.output
  size : w.heap.size ≤ w'.heap.size
  block : ∀ k, k < w.heap.size → ¬ F k → w'.heap[k]? = w.heap[k]?

theorem Kp.refl (F : Nat → Prop) (w : World) : Kp F w w := ⟨rfl, rfl, rfl, Nat.le_refl _, fun _ _ _ => rfl⟩
theorem Kp.of_ext {F : Nat → Prop} {w w' : World} (h : Ext w w') : Kp F w w' := ⟨h.os, h.tape, h.output, h.size, fun k hk _ => h.block k hk⟩
theorem Kp.trans {F : Nat → Prop} {a b c : World} (h : Kp F a b) (k : Kp F b c) : Kp F a c :=
  ⟨k.os.trans h.os, k.tape.trans h.tape, k.output.trans h.output, Nat.le_trans h.size k.size, fun i hi hF => (k.block i (Nat.lt_of_lt_of_le hi h.size) hF).trans (h.block i hi hF)⟩
theorem Kp.mono {F G : Nat → Prop} {a b : World} (h : Kp F a b) (hFG : ∀ k, k < a.heap.size → F k → G k) : Kp G a b :=
  ⟨h.os, h.tape, h.output, h.size, fun i hi hG => h.block i hi fun hF => hG (hFG i hi hF)⟩
theorem Kp.ext {F : Nat → Prop} {a b c : World} (h : Kp F a b) (k : Ext b c) : Kp F a c := h.trans (.of_ext k)
theorem Kp.drew {F : Nat → Prop} {a b : World} (h : Kp F a b) : Kp F a b.drew := h.ext (Ext.refl _).drew
theorem Kp.alloc {F : Nat → Prop} {a b : World} (h : Kp F a b) (o : Obj) : Kp F a (b.alloc o) := h.ext ((Ext.refl _).alloc o)
theorem Kp.setCell {F : Nat → Prop} {a w : World} (h : Kp F a w) {p : Addr} (hp : F p.block ∨ a.heap.size ≤ p.block) (u : Value) : Kp F a (w.setCell p u) :=
  ⟨h.os, h.tape, h.output, by simpa [World.setCell] using h.size, fun k hk hF => by
    rw [Below.heap_setCell]
    · exact h.block k hk hF
    · rintro rfl
      rcases hp with hp | hp
      · exact hF hp
      · omega⟩
/-- Where the blocks of F are all new, nothing that was there has turned. -/
theorem Kp.toExt {F : Nat → Prop} {a w : World} (h : Kp F a w) (hF : ∀ k, F k → a.heap.size ≤ k) : Ext a w :=
  ⟨h.os, h.tape, h.output, h.size, fun k hk => h.block k hk fun hf => by have := hF k hf; omega⟩
theorem Ext.kp {F : Nat → Prop} {a b c : World} (h : Ext a b) (k : Kp F b c) (hF : ∀ k, F k → a.heap.size ≤ k) : Ext a c :=
  ⟨k.os.trans h.os, k.tape.trans h.tape, k.output.trans h.output, Nat.le_trans h.size k.size, fun i hi => (k.block i (Nat.lt_of_lt_of_le hi h.size) fun hf => by have := hF i hf; omega).trans (h.block i hi)⟩
theorem Kp.cell_some {F : Nat → Prop} {w w' : World} (h : Kp F w w') {b o : Nat} {v : Value} (hF : ¬ F b) (hc : w.cell? ⟨b, o, none⟩ = some v) : w'.cell? ⟨b, o, none⟩ = some v := by
  rw [World.cell?_of_block (w := w) (h.block b (cell_lt hc) hF)]; exact hc
theorem Kp.heap_some {F : Nat → Prop} {w w' : World} (h : Kp F w w') {b : Nat} {o : Obj} (hF : ¬ F b) (hc : w.heap[b]? = some o) : w'.heap[b]? = some o := by
  rw [h.block b (heap_lt hc) hF]; exact hc

/-- A block of n cells of the call's own, b, into which is written; all else that was there in w0 is as it was. -/
def getC (v : World) (b o : Nat) : Value := (v.cell? ⟨b, o, none⟩).getD undef
structure Ow (b n : Nat) (T : TypeId) (w0 v : World) : Prop where
  kp : Kp (fun k => k = b) w0 v
  mine : ∃ cs : Array Value, v.heap[b]? = some (.cells cs T (0, 0)) ∧ cs.size = n
theorem Ow.start {w0 : World} {b n : Nat} {T : TypeId} {cs : Array Value} (h : w0.heap[b]? = some (.cells cs T (0, 0))) (hn : cs.size = n) : Ow b n T w0 w0 := ⟨Kp.refl _ _, cs, h, hn⟩
theorem Ow.cell {w0 v : World} {b n : Nat} {T : TypeId} (h : Ow b n T w0 v) (i : Nat) (hi : i < n) : v.cell? ⟨b, i, none⟩ = some (getC v b i) := by
  obtain ⟨cs, h1, h2⟩ := h.mine
  unfold getC
  rw [cell_of h1, Array.getElem?_eq_getElem (by omega)]; rfl
theorem Ow.frozen {w0 v : World} {b n : Nat} {T : TypeId} (h : Ow b n T w0 v) (i : Nat) : v.frozen? ⟨b, i, none⟩ = false := by
  obtain ⟨cs, h1, _⟩ := h.mine
  exact frozen_of h1 i
theorem Ow.ext {w0 v v' : World} {b n : Nat} {T : TypeId} (h : Ow b n T w0 v) (k : Ext v v') : Ow b n T w0 v' := by
  obtain ⟨cs, h1, h2⟩ := h.mine
  exact ⟨h.kp.ext k, cs, k.heap_some h1, h2⟩
theorem Ow.drew {w0 v : World} {b n : Nat} {T : TypeId} (h : Ow b n T w0 v) : Ow b n T w0 v.drew := h.ext (Ext.refl _).drew
theorem Ow.setCell {w0 v : World} {b n : Nat} {T : TypeId} (h : Ow b n T w0 v) (o : Nat) (u : Value) : Ow b n T w0 (v.setCell ⟨b, o, none⟩ u) := by
  obtain ⟨cs, h1, h2⟩ := h.mine
  exact ⟨h.kp.setCell (.inl rfl) u, _, heap_setCell_same h1 o u, by simpa using h2⟩
theorem keepO {w0 w w' : World} {b n : Nat} {T : TypeId} {C : World → Prop} (H : ∀ v, Ow b n T w0 v → C v) (h : C w ∧ Ow b n T w0 w) (k : Ext w w') : C w' ∧ Ow b n T w0 w' := ⟨H _ (h.2.ext k), h.2.ext k⟩
theorem keepOs {w0 w' : World} {b n : Nat} {T : TypeId} {C : World → Prop} (H : ∀ v, Ow b n T w0 v → C v) (h : Ow b n T w0 w') : C w' ∧ Ow b n T w0 w' := ⟨H _ h, h⟩

theorem hid {p : Prop} (h : p) : Hid p := h

theorem u_lt (x : UInt64) : (x.toNat : Int) < 18446744073709551616 := by have := x.toNat_lt; omega
theorem u_pos (x : UInt64) : 0 ≤ (x.toNat : Int) := Int.natCast_nonneg _

end Go.Proofs.Ytkdnnekdldomeaa
