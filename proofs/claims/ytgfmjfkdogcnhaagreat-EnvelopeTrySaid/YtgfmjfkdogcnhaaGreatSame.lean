/- The reference's Same. -/
import Derived.Test.YtgfmjfkdogcnhaaGreatRef
set_option linter.unusedSimpArgs false
namespace Go.Proofs.YtgfmjfkdogcnhaaGreat
open Go.RowKit
attribute [local irreducible] perm fAdd fMul fPow fSub fNeg fRed

theorem RdU.at {w : World} {a : Option Addr} {c : Nat} {l : List UInt64} (h : RdU w (.slice a l.length c) l) {i : Nat} {x : UInt64} (hx : l[i]? = some x) : ∃ b o, a = some ⟨b, o, none⟩ ∧ w.cell? ⟨b, o + i, none⟩ = some (.int .u64 x.toNat) := by
  obtain ⟨a', c', he, hlc, _, hnil, hcell⟩ := h
  injection he with h1 h2 h3
  subst h1
  have hi : i < l.length := (List.getElem?_eq_some_iff.1 hx).1
  cases a with
  | none => have := hnil rfl; omega
  | some ad =>
    obtain ⟨g1, g2⟩ := hcell ad rfl
    refine ⟨ad.block, ad.off, ?_, g2 i x hx⟩
    cases ad; simp only at g1; subst g1; rfl
theorem same_snoc {a b : List UInt64} {i : Nat} {x y : UInt64} (ha : a[i]? = some x) (hb : b[i]? = some y) (h : a.take i = b.take i) (he : x = y) : a.take (i + 1) = b.take (i + 1) := by
  rw [List.take_add_one, List.take_add_one, ha, hb, h, he]

set_option maxRecDepth 100000 in
set_option maxHeartbeats 800000 in
theorem Same_any (av bv : Value) (a b : List UInt64) (w : World) (ha : RdU w av a) (hb : RdU w bv b) (hA : a.length ≤ 1000000000000) (hB : b.length ≤ 1000000000000) :
    Calls Tryz.prog 58 #[av, bv] w fun e w' => e = .returned (.bool (a == b)) ∧ Ext w w' := by
  have HA := hid ha
  have HB := hid hb
  obtain ⟨aa, ac, rfl, -⟩ := ha
  obtain ⟨ba, bc, rfl, -⟩ := hb
  have hA1 : (a.length : Int) ≤ 1000000000000 := by omega
  go_enter Tryz.func58, Tryz.ntmps58
  by_cases hlen : a.length = b.length
  · have hlB : ((a.length : Int) != (b.length : Int)) = false := by simp [hlen]
    have HL := hid hlen
    clear hlen
    go_wp2
    go_loopw [5] (fun iv wr => ∃ i : Nat, i ≤ a.length ∧ iv = .int .i64 i ∧ Hid (a.take i = b.take i) ∧ Ext w wr) (fun iv _ => a.length - (intOf iv).toNat)
    case atStart => exact ⟨0, by omega, rfl, hid rfl, Ext.refl _⟩
    case round =>
      obtain ⟨i, hi, rfl, hI, hE⟩ := hrel
      have HE := hid hE
      clear hE
      by_cases hlt : i < a.length
      · have hlt2 : i < b.length := by rw [← HL.out]; exact hlt
        have hx : a[i]? = some a[i] := List.getElem?_eq_getElem hlt
        have hy : b[i]? = some b[i] := List.getElem?_eq_getElem hlt2
        generalize a[i] = x at *
        generalize b[i] = y at *
        obtain ⟨ab, ao, rfl, hca⟩ := HA.out.at hx
        obtain ⟨bb, bo, rfl, hcb⟩ := HB.out.at hy
        have HX := hid hx
        have HY := hid hy
        have H : ∀ v, Ext w v → v.cell? ⟨ab, ao + i, none⟩ = some (.int .u64 x.toNat) ∧ v.cell? ⟨bb, bo + i, none⟩ = some (.int .u64 y.toNat) := fun v k => ⟨k.cell_some hca, k.cell_some hcb⟩
        have hd : decide ((i : Int) < (a.length : Int)) = true := by simp; omega
        have HS0 : (wr.drew.cell? ⟨ab, ao + i, none⟩ = some (.int .u64 x.toNat) ∧ wr.drew.cell? ⟨bb, bo + i, none⟩ = some (.int .u64 y.toNat)) ∧ Ext w wr.drew := ⟨H _ HE.out.drew, HE.out.drew⟩
        have HH := hid H
        have i1 : (i : Int) < (a.length : Int) := by omega
        have i2 : (i : Int) < (b.length : Int) := by omega
        clear hx hy hca hcb H
        go_wp2_with fail
        refine wp_region_T (fun v => (v.cell? ⟨ab, ao + i, none⟩ = some (.int .u64 x.toNat) ∧ v.cell? ⟨bb, bo + i, none⟩ = some (.int .u64 y.toNat)) ∧ Ext w v) 8 [(0, true), (1, true), (2, true), (3, true), (4, true), (5, true), (6, true), (7, true), (8, false)] (by kernel_rfl) (by kernel_rfl) (by intro c a d v w h; cases d <;> exact h) ?_
        intro ops hops
        iterate 8
          refine wpT_take (v := ?_) (by rw [hops, List.getElem?_toArray]; rfl) (by first | rfl | (rw [hops]; rfl)) ?_ HS0 ?_
          rotate_left
          · intro v h; go_simp; with_reducible rfl
          simp only [Act.put, List.getElem_toArray, List.getElem_cons_zero, List.getElem_cons_succ, List.setIfInBounds_toArray, List.set_cons_zero, List.set_cons_succ]
        by_cases hxy : x = y
        · have hd2 : ((x.toNat : Int) != (y.toNat : Int)) = false := by simp [hxy]
          have HXY := hid hxy
          clear hxy
          refine wpT_step (by rw [hops, List.getElem?_toArray]; rfl) (by first | rfl | (rw [hops]; rfl)) ?_
          intro K hK
          go_wp2_with fail
          refine ⟨fun h => absurd h (by decide), ?_⟩
          rw [wpT_nil]
          clear hops ops
          have hE2 := HS0.2
          have HE2 := hid hE2
          clear hE2 HS0
          go_wp2
          go_roundw
          case rel => exact ⟨i + 1, by omega, by go_num, hid (same_snoc HX.out HY.out hI.out HXY.out), HE2.out⟩
          case measure => simp [intOf]; omega
        · have hd2 : ((x.toNat : Int) != (y.toNat : Int)) = true := by
            simp only [bne_iff_ne, ne_eq]
            intro h; exact hxy (UInt64.toNat_inj.1 (by omega))
          have hfin : (a == b) = false := by
            rw [beq_eq_false_iff_ne]; rintro rfl
            have h1 := HX.out
            rw [HY.out] at h1
            exact hxy (Option.some.inj h1).symm
          have HF := hid hfin
          clear hfin hxy
          refine wpT_step (by rw [hops, List.getElem?_toArray]; rfl) (by first | rfl | (rw [hops]; rfl)) ?_
          intro K hK
          go_wp2_with fail
          refine ⟨fun h => absurd h (by decide), ?_⟩
          rw [wpT_nil]
          clear hops ops
          have hE2 := HS0.2
          have HE2 := hid hE2
          clear hE2 HS0
          go_wp2
          go_ret
          exact ⟨ret_bool HF.out.symm, HE2.out⟩
      · have hi' : i = a.length := by omega
        have hfin : (a == b) = true := by
          have h1 := hI.out
          rw [hi', List.take_length] at h1
          have h2 := HL.out
          rw [h2, List.take_length] at h1
          simpa using h1
        have HF := hid hfin
        have hd : decide ((i : Int) < (a.length : Int)) = false := by simp; omega
        clear hfin
        go_wp2
        go_ret
        exact ⟨ret_bool HF.out.symm, HE.out⟩
  · have hlB : ((a.length : Int) != (b.length : Int)) = true := by simp; omega
    have hfin : (a == b) = false := by
      rw [beq_eq_false_iff_ne]; rintro rfl; exact hlen rfl
    have HF := hid hfin
    clear hfin hlen
    go_wp2
    go_ret
    exact ⟨ret_bool HF.out.symm, Ext.refl _⟩
end Go.Proofs.YtgfmjfkdogcnhaaGreat
