/- The root and the path of a commitment tree: the program's walks. -/
import Derived.Test.YtdpgfjnpcjpdpaaTree2
set_option linter.unusedSimpArgs false
namespace Go.Proofs.Ytdpgfjnpcjpdpaa
open Go.RowKit
attribute [local irreducible] perm fAdd fMul fPow fSub fNeg fRed

theorem xor1_i64 (m : Nat) (h : m < 2048) : bits .xor .i64 (m : Int) 1 = ((m ^^^ 1 : Nat) : Int) := by
  have key : ∀ k : Fin 2048, bits .xor .i64 (k.val : Int) 1 = ((k.val ^^^ 1 : Nat) : Int) := by decide +kernel
  exact key ⟨m, h⟩
theorem at2_of {ls : Lv} {k i : Nat} {l : List UInt64} {x : UInt64} (h : ls[k]? = some l) (hx : l[i]? = some x) : at2 ls k i = x := by
  have e : ls.getD k [] = l := by rw [List.getD_eq_getElem?_getD, h]; rfl
  unfold at2
  rw [e, List.getD_eq_getElem?_getD, hx]; rfl
theorem lnAt_of {ls : Lv} {k : Nat} {l : List UInt64} (h : ls[k]? = some l) : lnAt ls k = l.length := by
  unfold lnAt
  rw [List.getD_eq_getElem?_getD, h]; rfl

set_option maxRecDepth 100000 in
set_option maxHeartbeats 1600000 in
theorem mRoot_any (lv : Value) (ls : Lv) (w : World) (hl : RdL w lv ls) (hL : ls.length ≤ 1000000000000) (hE : ∀ l ∈ ls, l.length ≤ 1000000000000) :
    Calls Try.prog 17 #[.agg #[lv]] w fun e w' => e = .returned (uv (rootL ls)) ∧ Ext w w' := by
  obtain ⟨a, c, rfl, hc1, hc2, -⟩ := hl.shape
  have hx : Ext w (w.alloc (.cells #[.slice a ls.length c] 27)) := (Ext.refl w).alloc _
  have HWF := hid (wellFormed_any _ ls (w.alloc (.cells #[.slice a ls.length c] 27)) (hl.ext hx) hL hE)
  have HL := hid hl
  have HX := hid hx
  have HC := hid hc1
  have hb := heap_new w (.cells #[.slice a ls.length c] 27)
  have HB := hid hb
  clear hl hE hx hb hc1 hc2
  go_enter Try.func17, Try.ntmps17
  go_wp2_with fail
  refine HWF.out.mono ?_
  rintro e w1 ⟨rfl, hx1⟩
  cases hf : formed ls with
  | false =>
    have hr : rootL ls = 0 := by unfold rootL; rw [hf]; rfl
    have HR := hid hr
    have HX1 := hid (HX.out.trans hx1)
    clear hr hf hx1
    go_wp2_with fail
    go_ret
    exact ⟨by rw [HR.out]; rfl, HX1.out⟩
  | true =>
    have hr : rootL ls = at2 ls (ls.length - 1) 0 := by unfold rootL; rw [hf]; rfl
    have hne := formed_ne hf
    have hlast := formed_last hf
    have hlen : 0 < ls.length := List.length_pos_iff.2 hne
    have hk : ls[ls.length - 1]? = some ls[ls.length - 1] := List.getElem?_eq_getElem (by omega)
    generalize ls[ls.length - 1] = l at *
    rw [lnAt_of hk] at hlast
    have hx0 : l[0]? = some l[0] := List.getElem?_eq_getElem (by omega)
    generalize l[0] = x at *
    rw [at2_of hk hx0] at hr
    have HX1 := hid (HX.out.trans hx1)
    have hb1 := hx1.heap_some HB.out
    have hd0 : w1.cell? ⟨w.heap.size, 0, none⟩ = some (.slice a ls.length c) := cell_of hb1 0
    obtain ⟨b, o, y, d, rfl, hcell, hrd, hld, -⟩ := (HL.out.ext HX1.out).at hk
    obtain ⟨b', o', rfl, hcell'⟩ := hrd.uat hx0
    rw [hlast] at hcell hld
    have hidx : ((ls.length - 1 : Nat) : Int) = (ls.length : Int) - 1 := by omega
    have HR := hid hr
    have h1 : (1 : Int) ≤ (ls.length : Int) := by omega
    have hcell0 : w1.cell? ⟨b', o', none⟩ = some (.int .u64 x.toNat) := hcell'
    obtain ⟨m, hm⟩ : ∃ m, ls.length = m + 1 := ⟨ls.length - 1, by omega⟩
    rw [hm] at hcell hd0 h1 hL ⊢
    rw [Nat.add_sub_cancel] at hcell
    clear hr hf hx1 hne hlast hlen hk hx0 hb1 hrd hidx hcell' hm
    have e1 : ((m + 1 : Nat) : Int) - 1 = (m : Int) := by omega
    go_wp2_with fail
    go_ret
    exact ⟨by rw [HR.out]; rfl, HX1.out⟩
end Go.Proofs.Ytdpgfjnpcjpdpaa
