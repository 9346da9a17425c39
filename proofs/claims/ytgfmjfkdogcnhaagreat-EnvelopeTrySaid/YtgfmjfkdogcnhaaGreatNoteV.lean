/- The note package: Valid, Plain; the reference's Valid. -/
import Derived.Test.YtgfmjfkdogcnhaaGreatSame
import Derived.Test.YtgfmjfkdogcnhaaGreatQs
set_option linter.unusedSimpArgs false
namespace Go.Proofs.YtgfmjfkdogcnhaaGreat
open Go.RowKit
attribute [local irreducible] perm fAdd fMul fPow fSub fNeg fRed

structure Nt where
  value : UInt64
  owner : UInt64
  rho : UInt64
  blind : UInt64
def nv (n : Nt) : Value := .agg #[.int .u64 n.value.toNat, .int .u64 n.owner.toNat, .int .u64 n.rho.toNat, .int .u64 n.blind.toNat]
def Nt.ok (n : Nt) : Bool := decide ((n.value.toNat : Int) ≤ 4294967295) && decide ((n.owner.toNat : Int) < 18446744069414584321) && decide ((n.rho.toNat : Int) < 18446744069414584321) && decide ((n.blind.toNat : Int) < 18446744069414584321)
def Nt.list (n : Nt) : List UInt64 := [n.value, n.owner, n.rho, n.blind]

set_option maxRecDepth 100000 in
set_option maxHeartbeats 1600000 in
theorem noteValid_any (n : Nt) (w : World) : Calls Tryz.prog 40 #[nv n] w fun e w' => e = .returned (.bool n.ok) ∧ Ext w w' := by
  obtain ⟨a, b, c, d⟩ := n
  unfold nv Nt.ok
  simp only
  cases h1 : decide ((a.toNat : Int) ≤ 4294967295)
  all_goals cases h2 : decide ((b.toNat : Int) < 18446744069414584321)
  all_goals cases h3 : decide ((c.toNat : Int) < 18446744069414584321)
  all_goals cases h4 : decide ((d.toNat : Int) < 18446744069414584321)
  all_goals go_enter Tryz.func40, Tryz.ntmps40
  all_goals go_wp2
  all_goals go_ret
  all_goals exact ⟨rfl, (Ext.refl _).alloc _⟩

/-- A new list of numbers. -/
def NewL (w : World) (l : List UInt64) (e : Ending) (w' : World) : Prop := ∃ v, e = .returned v ∧ RdU w' v l ∧ Ext w w' ∧ (∀ k, blk v = some k → w.heap.size ≤ k)
theorem newL_of {w w0 : World} {l : List UInt64} {cs : Array Value} {T : TypeId} (h : Ext w w0) (hl : cs.toList = us l) (hm : l.length ≤ 1000) : NewL w l (.returned (.slice (some ⟨w0.heap.size, 0, none⟩) l.length l.length)) (w0.alloc (.cells cs T)) := by
  have := RdC.block (heap_new w0 (.cells cs T)) (n := l.length) (by unfold maxLen; omega)
  rw [hl] at this
  exact ⟨_, rfl, this.rdu rfl, h.alloc _, by intro k hk; cases hk; exact h.size⟩

set_option maxRecDepth 100000 in
set_option maxHeartbeats 1600000 in
theorem notePlain_any (n : Nt) (w : World) : Calls Tryz.prog 54 #[nv n] w (NewL w (if n.ok then [n.value, n.blind] else [])) := by
  obtain ⟨ok, hok⟩ : ∃ ok, ok = n.ok := ⟨_, rfl⟩
  have hv := noteValid_any n
  rw [← hok]
  rw [← hok] at hv
  clear hok
  obtain ⟨a, b, c, d⟩ := n
  unfold nv at hv ⊢
  simp only at hv ⊢
  have HV := hid hv
  clear hv
  cases ok with
  | false =>
    simp only [Bool.false_eq_true, if_false]
    go_enter Tryz.func54, Tryz.ntmps54
    go_wp2_with fail
    refine (HV.out _).mono ?_
    rintro e w1 ⟨rfl, hx⟩
    have hx1 := ((Ext.refl w).alloc (.cells #[uv a, uv b, uv c, uv d] 42)).trans hx
    have HX := hid hx1
    clear hx hx1
    go_wp2
    go_ret
    exact ⟨_, rfl, (RdC.nil _).rdu rfl, HX.out, by intro k hk; cases hk⟩
  | true =>
    simp only [if_true]
    go_enter Tryz.func54, Tryz.ntmps54
    go_wp2_with fail
    refine (HV.out _).mono ?_
    rintro e w1 ⟨rfl, hx⟩
    have hx0 := (Ext.refl w).alloc (.cells #[uv a, uv b, uv c, uv d] 42)
    have hb1 := hx.heap_some (heap_new w (.cells #[uv a, uv b, uv c, uv d] 42))
    have d0 : w1.cell? ⟨w.heap.size, 0, none⟩ = some (uv a) := cell_of hb1 0
    have d3 : w1.cell? ⟨w.heap.size, 3, none⟩ = some (uv d) := cell_of hb1 3
    have hx1 := hx0.trans hx
    have HX := hid hx1
    clear hx hx0 hb1 hx1
    go_wp2
    go_ret
    exact newL_of (T := 22) (cs := #[uv a, uv d]) HX.out (l := [a, d]) rfl (by simp)

set_option maxRecDepth 100000 in
set_option maxHeartbeats 1600000 in
theorem refValid_any (n : Nt) (w : World) : Calls Tryz.prog 13 #[nv n] w fun e w' => e = .returned (.bool n.ok) ∧ Ext w w' := by
  obtain ⟨a, b, c, d⟩ := n
  have hall : allE [b, c, d] = (decide ((b.toNat : Int) < 18446744069414584321) && decide ((c.toNat : Int) < 18446744069414584321) && decide ((d.toNat : Int) < 18446744069414584321)) := by
    simp only [allE, List.all_cons, List.all_nil, Bool.and_true, lt_big_dec, Bool.and_assoc]
  have hok : (⟨a, b, c, d⟩ : Nt).ok = (decide ((a.toNat : Int) ≤ 4294967295) && allE [b, c, d]) := by
    rw [hall]; simp only [Nt.ok, Bool.and_assoc]
  rw [hok]
  clear hall hok
  unfold nv
  simp only
  cases h1 : decide ((a.toNat : Int) ≤ 4294967295) with
  | false =>
    go_enter Tryz.func13, Tryz.ntmps13
    go_wp2
    go_ret
    exact ⟨rfl, (Ext.refl _).alloc _⟩
  | true =>
    rw [Bool.true_and]
    obtain ⟨ok, hok⟩ : ∃ ok, ok = allE [b, c, d] := ⟨_, rfl⟩
    rw [← hok]
    have HOK := hid hok
    clear hok
    go_enter Tryz.func13, Tryz.ntmps13
    go_wp2_with fail
    have h := (Ext.refl w).alloc (.cells #[uv a, uv b, uv c, uv d] 42)
    have hr := RdC.block (heap_new (w.alloc (.cells #[uv a, uv b, uv c, uv d] 42)) (.cells #[uv b, uv c, uv d] 22)) (n := 3) (by unfold maxLen; omega)
    rw [World.size_alloc] at hr
    refine (Elements_any _ [b, c, d] _ (hr.rdu rfl) (by simp)).mono ?_
    rintro e w1 ⟨rfl, rfl⟩
    clear hr
    have hx := h.alloc (.cells #[uv b, uv c, uv d] 22)
    have HX := hid hx
    clear h hx
    rw [← HOK.out]
    clear HOK
    cases ok
    · go_wp2
      go_ret
      exact ⟨rfl, HX.out⟩
    · go_wp2
      go_ret
      exact ⟨rfl, HX.out⟩
end Go.Proofs.YtgfmjfkdogcnhaaGreat
