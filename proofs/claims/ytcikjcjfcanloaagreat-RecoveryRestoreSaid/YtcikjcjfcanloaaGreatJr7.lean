/- Texts of this claim, joined: RefHash. -/
import Derived.Test.YtcikjcjfcanloaaGreatJr2
import Derived.Test.YtcikjcjfcanloaaGreatJr3
set_option linter.unusedSimpArgs false
namespace Go.Proofs.YtcikjcjfcanloaaGreat
open Go.RowKit
attribute [local irreducible] fAdd fMul fPow fSub fNeg fRed fAdd0 fMul0 fPow0
set_option maxRecDepth 100000 in
set_option maxHeartbeats 1600000 in
theorem rRow_any (p : Int) (hp : IsBig p) (w : World) :
    Calls Tryz.prog 129 #[.int .u64 p] w fun e w' => e = .returned (.agg #[.int .u64 7, .int .u64 32, .int .u64 7]) ∧ Ext w w' := by
  unfold IsBig at hp
  subst hp
  go_enter Tryz.func129, Tryz.ntmps129
  go_wp2
  exact bodyPost_ret (v := .agg #[.int .u64 7, .int .u64 32, .int .u64 7]) (by simp [results, Tryz.results129, go_sem]) rfl ⟨rfl, (Ext.refl _).alloc _⟩
theorem index2 (a b c : Value) (w : World) : (Instr.index 160 (.agg #[a, b, c]) (.int .i64 2)).run Tryz.prog w = .ok c w := by kernel_rfl
set_option maxRecDepth 100000 in
set_option maxHeartbeats 800000 in
theorem rValid_any (p : Int) (hp : IsBig p) (w : World) :
    Calls Tryz.prog 103 #[.int .u64 p] w fun e w' => e = .returned (.bool true) ∧ Ext w w' := by
  go_enter Tryz.func103, Tryz.ntmps103
  go_wp2_with fail
  refine (rRow_any p hp _).mono ?_
  rintro e w1 ⟨rfl, hx⟩
  have hix := index0 (.int .u64 7) (.int .u64 32) (.int .u64 7)
  have hix2 := index2 (.int .u64 7) (.int .u64 32) (.int .u64 7)
  go_wp2
  go_ret
  exact ⟨rfl, hx⟩
set_option maxRecDepth 100000 in
set_option maxHeartbeats 800000 in
theorem rExp_any (p : Int) (hp : IsBig p) (w : World) :
    Calls Tryz.prog 155 #[.int .u64 p] w fun e w' => e = .returned (.int .u64 7) ∧ Ext w w' := by
  go_enter Tryz.func155, Tryz.ntmps155
  go_wp2_with fail
  refine (rRow_any p hp _).mono ?_
  rintro e w1 ⟨rfl, hx⟩
  have hix := index0 (.int .u64 7) (.int .u64 32) (.int .u64 7)
  have hix2 := index2 (.int .u64 7) (.int .u64 32) (.int .u64 7)
  go_wp2
  go_ret
  exact ⟨rfl, hx⟩
theorem tmod_p {p : Int} (hp : IsBig p) (a : UInt64) : ((a.toNat : Int)).tmod p = ((fRed a).toNat : Int) := by
  rw [Int.tmod_eq_emod_of_nonneg (u_pos a), hp, fRed_toNat]; rfl
theorem mod_p {p : Int} (hp : IsBig p) (a : UInt64) : ((a.toNat : Int) % p) = ((fRed a).toNat : Int) := by rw [hp, fRed_toNat]; rfl
theorem radd_hi {p : Int} (hp : IsBig p) {a b : UInt64} (h : p - ((fRed b).toNat : Int) ≤ ((fRed a).toNat : Int)) : ((fRed a).toNat : Int) - (p - ((fRed b).toNat : Int)) = ((fAdd a b).toNat : Int) := by
  have h1 := fRed_lt hp a
  have h2 := fRed_lt hp b
  unfold fAdd
  rw [fAdd0_toNat]
  rw [hp] at *
  omega
theorem radd_lo {p : Int} (hp : IsBig p) {a b : UInt64} (h : ¬ p - ((fRed b).toNat : Int) ≤ ((fRed a).toNat : Int)) : ((fRed a).toNat : Int) + ((fRed b).toNat : Int) = ((fAdd a b).toNat : Int) := by
  have h1 := fRed_lt hp a
  have h2 := fRed_lt hp b
  unfold fAdd
  rw [fAdd0_toNat]
  rw [hp] at *
  omega
set_option maxRecDepth 100000 in
set_option maxHeartbeats 1600000 in
theorem rAdd_any (p : Int) (hp : IsBig p) (a b : UInt64) (w : World) :
    Calls Tryz.prog 130 #[.int .u64 p, .int .u64 a.toNat, .int .u64 b.toNat] w fun e w' => e = .returned (.int .u64 (fAdd a b).toNat) ∧ Ext w w' := by
  have HV := hid (rValid_any p hp)
  have hp0 := hp.pos
  have hp1 := hp.lt
  have hz : (p == 0) = false := by simp; omega
  have hpz : ¬ p = 0 := by omega
  have ha := mod_p hp a
  have hb := mod_p hp b
  have a0 := u_pos (fRed a)
  have b0 := u_pos (fRed b)
  have a1 := fRed_lt hp a
  have b1 := fRed_lt hp b
  go_enter Tryz.func130, Tryz.ntmps130
  go_wp2_with fail
  refine (HV.out _).mono ?_
  rintro e w1 ⟨rfl, hx⟩
  have HX := hid hx
  clear hx
  go_wp2_with fail
  refine wp_region_T (fun v => Ext w1 v) 7 [(0, true), (1, true), (2, true), (3, true), (4, true), (5, true), (6, true), (7, false)] (by kernel_rfl) (by kernel_rfl) (by intro c a d v w h; cases d <;> exact h) ?_
  intro ops hops
  have HS := (Ext.refl w1).drew
  iterate 2
    refine wpT_take (v := ?_) (by rw [hops, List.getElem?_toArray]; rfl) (by first | rfl | (rw [hops]; rfl)) ?_ HS ?_
    rotate_left
    · intro v h; go_simp; with_reducible rfl
    simp only [Act.put, List.getElem_toArray, List.getElem_cons_zero, List.getElem_cons_succ, List.setIfInBounds_toArray, List.set_cons_zero, List.set_cons_succ]
  refine wpT_take (v := .int .u64 (fRed a).toNat) (by rw [hops, List.getElem?_toArray]; rfl) (by first | rfl | (rw [hops]; rfl)) ?_ HS ?_
  · intro v h; go_simp; (rw [tmod_p hp a])
  simp only [Act.put, List.getElem_toArray, List.getElem_cons_zero, List.getElem_cons_succ, List.setIfInBounds_toArray, List.set_cons_zero, List.set_cons_succ]
  iterate 2
    refine wpT_take (v := ?_) (by rw [hops, List.getElem?_toArray]; rfl) (by first | rfl | (rw [hops]; rfl)) ?_ HS ?_
    rotate_left
    · intro v h; go_simp; with_reducible rfl
    simp only [Act.put, List.getElem_toArray, List.getElem_cons_zero, List.getElem_cons_succ, List.setIfInBounds_toArray, List.set_cons_zero, List.set_cons_succ]
  refine wpT_take (v := .int .u64 (fRed b).toNat) (by rw [hops, List.getElem?_toArray]; rfl) (by first | rfl | (rw [hops]; rfl)) ?_ HS ?_
  · intro v h; go_simp; (rw [tmod_p hp b])
  simp only [Act.put, List.getElem_toArray, List.getElem_cons_zero, List.getElem_cons_succ, List.setIfInBounds_toArray, List.set_cons_zero, List.set_cons_succ]
  iterate 1
    refine wpT_take (v := ?_) (by rw [hops, List.getElem?_toArray]; rfl) (by first | rfl | (rw [hops]; rfl)) ?_ HS ?_
    rotate_left
    · intro v h; go_simp; with_reducible rfl
    simp only [Act.put, List.getElem_toArray, List.getElem_cons_zero, List.getElem_cons_succ, List.setIfInBounds_toArray, List.set_cons_zero, List.set_cons_succ]
  refine wpT_step (by rw [hops, List.getElem?_toArray]; rfl) (by first | rfl | (rw [hops]; rfl)) ?_
  intro K hK
  go_wp2_with fail
  try (with_reducible refine ⟨fun h => absurd h (by decide), ?_⟩)
  try rw [← hops]
  rw [wpT_nil]
  clear hops ops
  by_cases h : p - ((fRed b).toNat : Int) ≤ ((fRed a).toNat : Int)
  · have HF := hid (radd_hi hp h)
    clear ha hb
    go_wp2
    go_ret
    exact ⟨ret_int HF.out, HX.out.drew⟩
  · have HF := hid (radd_lo hp h)
    clear ha hb
    go_wp2
    go_ret
    exact ⟨ret_int HF.out, HX.out.drew⟩
set_option maxRecDepth 100000 in
set_option maxHeartbeats 1600000 in
theorem rMul_any (p : Int) (hp : IsBig p) (a b : UInt64) (w : World) :
    Calls Tryz.prog 131 #[.int .u64 p, .int .u64 a.toNat, .int .u64 b.toNat] w fun e w' => e = .returned (.int .u64 (fMul a b).toNat) ∧ Ext w w' := by
  have HV := hid (rValid_any p hp)
  have hp0 := hp.pos
  have hpz : ¬ p = 0 := by omega
  have hz : (p == 0) = false := by simp; omega
  have a1 := fRed_lt hp a
  have b1 := fRed_lt hp b
  have hfin : mulRem (fRed a).toNat (fRed b).toNat = (fMul a b).toNat := by
    unfold mulRem fMul; rw [fMul0_toNat, ← Int.natCast_mul]; rfl
  have HF := hid hfin
  have HA1 := hid a1
  have HB1 := hid b1
  clear hfin a1 b1
  go_enter Tryz.func131, Tryz.ntmps131
  go_wp2_with fail
  refine (HV.out _).mono ?_
  rintro e w1 ⟨rfl, hx⟩
  have HX := hid hx
  clear hx
  go_wp2_with fail
  refine wp_region_T (fun v => Ext w1 v) 11 [(0, true), (1, true), (2, true), (3, true), (4, true), (5, true), (6, false), (7, true), (8, true), (9, true), (10, true), (11, false)] (by kernel_rfl) (by kernel_rfl) (by intro c a d v w h; cases d <;> exact h) ?_
  intro ops hops
  have HS := (Ext.refl w1).drew
  iterate 2
    refine wpT_take (v := ?_) (by rw [hops, List.getElem?_toArray]; rfl) (by first | rfl | (rw [hops]; rfl)) ?_ HS ?_
    rotate_left
    · intro v h; go_simp; with_reducible rfl
    simp only [Act.put, List.getElem_toArray, List.getElem_cons_zero, List.getElem_cons_succ, List.setIfInBounds_toArray, List.set_cons_zero, List.set_cons_succ]
  refine wpT_take (v := .int .u64 (fRed a).toNat) (by rw [hops, List.getElem?_toArray]; rfl) (by first | rfl | (rw [hops]; rfl)) ?_ HS ?_
  · intro v h; go_simp; (rw [tmod_p hp a])
  simp only [Act.put, List.getElem_toArray, List.getElem_cons_zero, List.getElem_cons_succ, List.setIfInBounds_toArray, List.set_cons_zero, List.set_cons_succ]
  iterate 2
    refine wpT_take (v := ?_) (by rw [hops, List.getElem?_toArray]; rfl) (by first | rfl | (rw [hops]; rfl)) ?_ HS ?_
    rotate_left
    · intro v h; go_simp; with_reducible rfl
    simp only [Act.put, List.getElem_toArray, List.getElem_cons_zero, List.getElem_cons_succ, List.setIfInBounds_toArray, List.set_cons_zero, List.set_cons_succ]
  refine wpT_take (v := .int .u64 (fRed b).toNat) (by rw [hops, List.getElem?_toArray]; rfl) (by first | rfl | (rw [hops]; rfl)) ?_ HS ?_
  · intro v h; go_simp; (rw [tmod_p hp b])
  simp only [Act.put, List.getElem_toArray, List.getElem_cons_zero, List.getElem_cons_succ, List.setIfInBounds_toArray, List.set_cons_zero, List.set_cons_succ]
  refine wpT_step (by rw [hops, List.getElem?_toArray]; rfl) (by first | rfl | (rw [hops]; rfl)) ?_
  intro K hK
  go_wp2_with fail
  refine (mul64_any _ _ _).mono ?_
  rintro e w2 ⟨rfl, rfl⟩
  refine hK _ _ ⟨fun _ => HS, ?_⟩
  clear hK K
  iterate 4
    refine wpT_take (v := ?_) (by rw [hops, List.getElem?_toArray]; rfl) (by first | rfl | (rw [hops]; rfl)) ?_ HS ?_
    rotate_left
    · intro v h; go_simp; with_reducible rfl
    simp only [Act.put, List.getElem_toArray, List.getElem_cons_zero, List.getElem_cons_succ, List.setIfInBounds_toArray, List.set_cons_zero, List.set_cons_succ]
  refine wpT_step (by rw [hops, List.getElem?_toArray]; rfl) (by first | rfl | (rw [hops]; rfl)) ?_
  intro K hK
  go_wp2_with fail
  try (with_reducible refine ⟨fun h => absurd h (by decide), ?_⟩)
  try rw [← hops]
  rw [wpT_nil]
  clear hops ops
  go_wp2_with fail
  refine (div64_mul (fRed a) (fRed b) p hp HA1.out HB1.out _).mono ?_
  rintro e w3 ⟨q, rfl, hx3⟩
  have HX3 := hid hx3
  clear hx3
  go_wp2
  go_ret
  exact ⟨ret_int HF.out, HX.out.drew.trans HX3.out⟩
theorem fRed_id {p : Int} (hp : IsBig p) {a : UInt64} (h : (a.toNat : Int) < p) : fRed a = a := by
  apply UInt64.toNat_inj.1
  rw [fRed_toNat]
  rw [hp] at h
  omega
theorem fMul_id {p : Int} (hp : IsBig p) {a b : UInt64} (ha : (a.toNat : Int) < p) (hb : (b.toNat : Int) < p) : fMul a b = fMul0 a b := by
  unfold fMul
  rw [fRed_id hp ha, fRed_id hp hb]
theorem wrap_u (z : UInt64) : IntKind.u64.wrap (z.toNat : Int) = (z.toNat : Int) := by
  rw [IntKind.wrap_u64]; have := u_lt z; omega
theorem tmod2 (y : UInt64) : ((y.toNat : Int)).tmod 2 = (y.toNat : Int) % 2 := Int.tmod_eq_emod_of_nonneg (u_pos y)
theorem tdiv2 (y : UInt64) : ((y.toNat : Int)).tdiv 2 = ((y / 2).toNat : Int) := by
  rw [Int.tdiv_eq_ediv_of_nonneg (u_pos y), half_u]; rfl
set_option maxRecDepth 100000 in
set_option maxHeartbeats 3200000 in
theorem rPow_any (p : Int) (hp : IsBig p) (a b : UInt64) (w : World) :
    Calls Tryz.prog 153 #[.int .u64 p, .int .u64 a.toNat, .int .u64 b.toNat] w fun e w' => e = .returned (.int .u64 (fPow a b).toNat) ∧ Ext w w' := by
  have HV := hid (rValid_any p hp)
  have hp0 := hp.pos
  have hpz : ¬ p = 0 := by omega
  have hz : (p == 0) = false := by simp; omega
  have ha := tmod_p hp a
  have HL := hid (fRed_lt hp a)
  obtain ⟨a', ha'⟩ : ∃ a', a' = fRed a := ⟨_, rfl⟩
  have hfp : fPow a b = fPow0 a' b := by unfold fPow; rw [ha']
  rw [hfp]
  rw [← ha'] at ha HL
  clear ha' hfp
  go_enter Tryz.func153, Tryz.ntmps153
  go_wp2_with fail
  refine (HV.out _).mono ?_
  rintro e w1 ⟨rfl, hx⟩
  have HX := hid hx
  clear hx
  go_wp2_with fail
  go_loopw [1, 2, 7] (fun xv yv rv wr => ∃ x y r : UInt64, xv = .int .u64 x.toNat ∧ yv = .int .u64 y.toNat ∧ rv = .int .u64 r.toNat ∧ Hid (powInv a' b r x y) ∧ (x.toNat : Int) < p ∧ (r.toNat : Int) < p ∧ Ext w1 wr) (fun _ yv _ _ => (intOf yv).toNat)
  case atStart => exact ⟨a', b, 1, by first | rfl | rw [ha], rfl, rfl, hid (powInv_start a' b), HL.out, one_lt_big hp, Ext.refl _⟩
  case round =>
    obtain ⟨x, y, r, rfl, rfl, rfl, HI, hx, hr, hE⟩ := hrel
    clear ha
    have HE := hid hE
    have HXL := hid hx
    have HRL := hid hr
    clear hE hx hr
    by_cases hz : (y.toNat : Int) = 0
    · have hz' : ¬ (0 : Int) < y.toNat := by omega
      have hfin := powInv_zero HI.out (by omega) hp HRL.out
      have HFIN := hid hfin
      clear hz hfin
      go_wp2
      go_ret
      exact ⟨by rw [HFIN.out]; rfl, HX.out.trans HE.out⟩
    · have hz' : (0 : Int) < y.toNat := by omega
      have HZ := hid hz
      clear hz
      have hm := tmod2 y
      have hd := tdiv2 y
      have hzn : ((y / 2).toNat : Int) = (y.toNat : Int) / 2 := by rw [half_u]; omega
      have HZN := hid hzn
      clear hzn
      obtain ⟨z, hzz⟩ : ∃ z : UInt64, z = y / 2 := ⟨_, rfl⟩
      rw [← hzz] at hd HZN
      by_cases ho2 : (y.toNat : Int) % 2 = 1
      · have ho : ((y.toNat : Int) % 2 == 1) = true := by simp; omega
        have H1 : Hid (powInv a' b (fMul r x) (fMul x x) z) := by rw [hzz, fMul_id hp HRL.out HXL.out, fMul_id hp HXL.out HXL.out]; exact hid (pow_odd HI.out (by omega))
        have L1 : ((fMul r x).toNat : Int) < p := by rw [fMul_id hp HRL.out HXL.out]; exact fMul0_lt hp _ _
        have L2 : ((fMul x x).toNat : Int) < p := by rw [fMul_id hp HXL.out HXL.out]; exact fMul0_lt hp _ _
        have HL1 := hid L1
        have HL2 := hid L2
        clear hzz L1 L2
        go_wp2_with fail
        refine (rMul_any p hp r x _).mono ?_
        rintro e w2 ⟨rfl, hb2⟩
        have HB2 := hid hb2
        clear hb2
        go_wp2_with fail
        refine (rMul_any p hp x x _).mono ?_
        rintro e w3 ⟨rfl, hb3⟩
        have HB3 := hid hb3
        clear hb3
        go_wp2
        go_roundw
        case rel => exact ⟨fMul x x, z, fMul r x, rfl, by first | rfl | rw [wrap_u], rfl, H1, HL2.out, HL1.out, (HE.out.trans HB2.out).trans HB3.out⟩
        case measure => have := HZN.out; have := HZ.out; simp only [intOf, wrap_u]; omega
      · have ho : ((y.toNat : Int) % 2 == 1) = false := by simp; omega
        have H1 : Hid (powInv a' b r (fMul x x) z) := by rw [hzz, fMul_id hp HXL.out HXL.out]; exact hid (pow_even HI.out (by omega))
        have L2 : ((fMul x x).toNat : Int) < p := by rw [fMul_id hp HXL.out HXL.out]; exact fMul0_lt hp _ _
        have HL2 := hid L2
        clear hzz L2
        go_wp2_with fail
        refine (rMul_any p hp x x _).mono ?_
        rintro e w3 ⟨rfl, hb3⟩
        have HB3 := hid hb3
        clear hb3
        go_wp2
        go_roundw
        case rel => exact ⟨fMul x x, z, r, rfl, by first | rfl | rw [wrap_u], rfl, H1, HL2.out, HRL.out, HE.out.trans HB3.out⟩
        case measure => have := HZN.out; have := HZ.out; simp only [intOf, wrap_u]; omega
end Go.Proofs.YtcikjcjfcanloaaGreat
namespace Go.Proofs.YtcikjcjfcanloaaGreat
open Go.RowKit
def sumF (l : List UInt64) : UInt64 := l.foldl fAdd 0
theorem sumF_snoc (l : List UInt64) (x : UInt64) : sumF (l ++ [x]) = fAdd (sumF l) x := by simp [sumF]
theorem fAdd_zero_fAdd (a b : UInt64) : fAdd (fAdd 0 a) b = fAdd a b := by
  have h0 : fRed (fAdd 0 a) = fRed a := by
    apply UInt64.toNat_inj.1
    unfold fAdd
    rw [fRed_toNat, fAdd0_toNat, fRed_toNat, fRed_toNat]
    simp
  show fAdd0 (fRed (fAdd 0 a)) (fRed b) = _
  rw [h0]
  unfold fAdd
  rfl
theorem sumF_three (s : S3) : sumF [s.a, s.b, s.c] = pSum s := by
  show fAdd (fAdd (fAdd 0 s.a) s.b) s.c = _
  rw [fAdd_zero_fAdd]; rfl
attribute [local irreducible] fAdd fMul fPow fSub fNeg fRed fAdd0 fMul0 fPow0
set_option maxRecDepth 100000 in
set_option maxHeartbeats 1600000 in
theorem rSum_any (p : Int) (hp : IsBig p) (lv : Value) (l : List UInt64) (w : World) (hl : RdU w lv l) (hL : l.length ≤ 1000000000000) :
    Calls Tryz.prog 176 #[.int .u64 p, lv] w fun e w' => e = .returned (.int .u64 (sumF l).toNat) ∧ Ext w w' := by
  have HL := hid hl
  obtain ⟨aa, ac, rfl, -⟩ := hl
  have HLL := hid hL
  have hA1 : (l.length : Int) ≤ 1000000000000 := by omega
  clear hL
  go_enter Tryz.func176, Tryz.ntmps176
  go_wp2
  go_loopw [5, 6] (fun ov iv wr => ∃ i : Nat, i ≤ l.length ∧ ov = .int .u64 (sumF (l.take i)).toNat ∧ iv = .int .i64 i ∧ Ext w wr) (fun _ iv _ => l.length - (intOf iv).toNat)
  case atStart => exact ⟨0, by omega, rfl, rfl, Ext.refl _⟩
  case round =>
    obtain ⟨i, hi, rfl, rfl, hE⟩ := hrel
    have HE := hid hE
    by_cases hlt : i < l.length
    · have hx : l[i]? = some l[i] := List.getElem?_eq_getElem hlt
      generalize l[i] = x at *
      obtain ⟨ab, ao, rfl, hca⟩ := HL.out.at hx
      have hc := hE.cell_some hca
      have hd : decide ((i : Int) < (l.length : Int)) = true := by simp; omega
      have i1 : (i : Int) < (l.length : Int) := by omega
      have HX := hid hx
      obtain ⟨t, ht⟩ : ∃ t, t = sumF (l.take i) := ⟨_, rfl⟩
      rw [← ht]
      have HT := hid ht
      clear hE hca hx ht
      go_wp2_with fail
      refine (rAdd_any p hp t x _).mono ?_
      rintro e w2 ⟨rfl, hx2⟩
      have HX2 := hid hx2
      clear hx2 hc
      go_wp2
      go_roundw
      case rel => exact ⟨i + 1, by omega, by rw [List.take_add_one, HX.out, HT.out]; simp only [Option.toList_some]; rw [sumF_snoc], by go_num, HE.out.trans HX2.out⟩
      case measure => simp [intOf]; omega
    · have hi' : i = l.length := by omega
      have hd : decide ((i : Int) < (l.length : Int)) = false := by simp; omega
      subst hi'
      rw [List.take_length]
      clear hE
      go_wp2
      go_ret
      exact ⟨rfl, HE.out⟩
set_option maxRecDepth 100000 in
set_option maxHeartbeats 1600000 in
theorem rConst_any (p : Int) (hp : IsBig p) (r i : Nat) (hr : r < 8) (hi : i < 3) (w : World) :
    Calls Tryz.prog 154 #[.int .u64 p, .int .i64 r, .int .i64 i] w fun e w' => e = .returned (.int .u64 (pConst r i).toNat) ∧ Ext w w' := by
  have harg := pConst_arg r i hr hi
  unfold pConst
  generalize UInt64.ofNat (3 * r + i + 1) * 11400714819323198485 = x at *
  have hp0 := hp.pos
  have hpz : ¬ p = 0 := by omega
  have hz : (p == 0) = false := by simp; omega
  have ht := tmod_p hp x
  have d1 : decide (7 < (r : Int)) = false := by simp; omega
  have d2 : decide (2 < (i : Int)) = false := by simp; omega
  have d3 : decide (7 < r) = false := by simp; omega
  have d4 : decide (2 < i) = false := by simp; omega
  have hr1 : (r : Int) < 8 := by omega
  have hi1 : (i : Int) < 3 := by omega
  go_enter Tryz.func154, Tryz.ntmps154
  go_wp2_with fail
  refine (rValid_any p hp _).mono ?_
  rintro e w1 ⟨rfl, hx⟩
  go_wp2
  go_ret
  exact ⟨rfl, hx⟩
def mPart (u : UInt64) (s : S3) : Nat → S3
  | 0 => ⟨0, 0, 0⟩
  | 1 => ⟨fAdd s.a u, 0, 0⟩
  | 2 => ⟨fAdd s.a u, fAdd s.b u, 0⟩
  | _ => ⟨fAdd s.a u, fAdd s.b u, fAdd s.c u⟩
theorem mpart_succ {T : TypeId} (u : UInt64) (i : Nat) (s : S3) (h : i < 3) (x : UInt64) (hx : x = s.get i) :
    Obj.cells ((mPart u s i).arr.setIfInBounds i (.int .u64 (fAdd x u).toNat)) T (0, 0) = Obj.cells (mPart u s (i + 1)).arr T (0, 0) := by
  have : i = 0 ∨ i = 1 ∨ i = 2 := by omega
  rcases this with rfl | rfl | rfl <;> (subst hx; simp [mPart, S3.get, S3.arr])
set_option maxRecDepth 100000 in
set_option maxHeartbeats 3200000 in
theorem rMix_any (p : Int) (hp : IsBig p) (s : S3) (w : World) :
    Calls Tryz.prog 156 #[.int .u64 p, s.v] w fun e w' => e = .returned (pMix s).v ∧ Ext w w' := by
  obtain ⟨n, hn⟩ : ∃ n, n = w.heap.size := ⟨_, rfl⟩
  obtain ⟨w0, hw0⟩ : ∃ w0, w0 = ((w.alloc (.cells #[.int .u64 s.a.toNat, .int .u64 s.b.toNat, .int .u64 s.c.toNat] 160)).alloc (.cells #[.int .u64 0, .int .u64 0, .int .u64 0] 160)) := ⟨_, rfl⟩
  obtain ⟨w1, hw1⟩ : ∃ w1, w1 = w0.alloc (.cells #[.int .u64 s.a.toNat, .int .u64 s.b.toNat, .int .u64 s.c.toNat] 22) := ⟨_, rfl⟩
  have hx0 : Ext w w0 := by rw [hw0]; exact ((Ext.refl _).alloc _).alloc _
  have hx1 : Ext w0 w1 := by rw [hw1]; exact (Ext.refl _).alloc _
  have h0 : w0.heap[n]? = some (.cells #[.int .u64 s.a.toNat, .int .u64 s.b.toNat, .int .u64 s.c.toNat] 160 (0, 0)) := by rw [hw0, hn]; exact heap_alloc_some (heap_new _ _)
  have h1 : w0.heap[n + 1]? = some (.cells #[.int .u64 0, .int .u64 0, .int .u64 0] 160 (0, 0)) := by
    rw [hw0, hn]
    have := heap_new (w.alloc (.cells #[.int .u64 s.a.toNat, .int .u64 s.b.toNat, .int .u64 s.c.toNat] 160)) (.cells #[.int .u64 0, .int .u64 0, .int .u64 0] 160)
    rwa [World.size_alloc] at this
  have hz0 : w0.heap.size = n + 2 := by rw [hw0, hn]; simp
  have hb1 : w1.heap[n + 2]? = some (.cells #[.int .u64 s.a.toNat, .int .u64 s.b.toNat, .int .u64 s.c.toNat] 22 (0, 0)) := by rw [hw1, ← hz0]; exact heap_new _ _
  have hnew : RdU w1 (.slice (some ⟨n + 2, 0, none⟩) 3 3) [s.a, s.b, s.c] := by
    refine ⟨_, 3, rfl, Nat.le_refl _, by unfold maxLen; omega, (fun h => by cases h), fun ad ha => ?_⟩
    obtain rfl := Option.some.inj ha
    refine ⟨rfl, fun i x hx => ?_⟩
    rw [cell_of hb1]
    have hi : i < 3 := (List.getElem?_eq_some_iff.1 hx).1
    have : i = 0 ∨ i = 1 ∨ i = 2 := by omega
    rcases this with rfl | rfl | rfl <;> (simp at hx; subst hx; rfl)
  have HSUM := hid (rSum_any p hp _ [s.a, s.b, s.c] w1 hnew (by simp))
  rw [sumF_three] at HSUM
  obtain ⟨u, hu⟩ : ∃ u, u = pSum s := ⟨_, rfl⟩
  rw [← hu] at HSUM
  have HU := hid hu
  have HX1 := hid (hx0.trans hx1)
  have H0 := hid (hx1.heap_some h0)
  have H1 := hid (hx1.heap_some h1)
  have HN := hid hn
  have c0 : w0.cell? ⟨n, 0, none⟩ = some (.int .u64 s.a.toNat) := cell_of h0 0
  have c1 : w0.cell? ⟨n, 1, none⟩ = some (.int .u64 s.b.toNat) := cell_of h0 1
  have c2 : w0.cell? ⟨n, 2, none⟩ = some (.int .u64 s.c.toNat) := cell_of h0 2
  have HW0 := hid hw0
  have HW1 := hid hw1
  have HZ0 := hid hz0
  clear hw0 hw1 hz0 hx0 hx1 h0 h1 hb1 hnew hu hn
  go_enter Tryz.func156, Tryz.ntmps156
  go_wp2_with fail
  rw [← HW0.out]
  rw [← HN.out]
  go_wp2_with fail
  rw [← HW1.out]
  refine HSUM.out.mono ?_
  rintro e w2 ⟨rfl, hx2⟩
  have HX2 := hid (HX1.out.trans hx2)
  have HB0 := hid (hx2.heap_some H0.out)
  have HB1 := hid (hx2.heap_some H1.out)
  clear hx2 c0 c1 c2
  go_wp2_with fail
  obtain ⟨g, hg⟩ : ∃ g, g = w2.heap.size := ⟨_, rfl⟩
  obtain ⟨w3, hw3⟩ : ∃ w3, w3 = w2.alloc (.cells #[.int .u64 0, .int .u64 0, .int .u64 0] 160) := ⟨_, rfl⟩
  have hg3 : w3.heap[g]? = some (.cells #[.int .u64 0, .int .u64 0, .int .u64 0] 160 (0, 0)) := by rw [hw3, hg]; exact heap_new _ _
  have hx3 : Ext w2 w3 := by rw [hw3]; exact (Ext.refl _).alloc _
  rw [← hw3, ← hg]
  have hnw : n < g ∧ n + 1 < g ∧ w.heap.size ≤ g := by
    have h1 := heap_lt HB0.out
    have h2 := heap_lt HB1.out
    have h3 := HX2.out.size
    omega
  have HGN := hid hnw
  have HX3 := hid (HX2.out.trans hx3)
  have HC0 := hid (hx3.heap_some HB0.out)
  have HC1 := hid (hx3.heap_some HB1.out)
  have HG3 := hid hg3
  clear hx3 hg3 hw3 hg hnw
  go_loopw [7] (fun iv wr => ∃ i : Nat, i ≤ 3 ∧ iv = .int .i64 i ∧ wr.heap[g]? = some (.cells (mPart u s i).arr 160 (0, 0)) ∧ Kp (fun k => k = g) w3 wr) (fun iv _ => (3 - intOf iv).toNat)
  case atStart => exact ⟨0, by omega, rfl, HG3.out, Kp.refl _ _⟩
  case round =>
    obtain ⟨i, hi3, rfl, hB, hK⟩ := hrel
    have HB := hid hB
    have HK := hid hK
    by_cases hlt : i < 3
    · have hltB : decide ((i : Int) < 3) = true := by simp; omega
      have hi0 : (0 : Int) ≤ (i : Int) := by omega
      have hi3' : (i : Int) < 3 := by omega
      obtain ⟨x, hx⟩ : ∃ x, x = s.get i := ⟨_, rfl⟩
      have hc : wr.cell? ⟨n, i, none⟩ = some (.int .u64 x.toNat) := by
        rw [cell_of (hK.heap_some (by have := HGN.out; omega) HC0.out) i, hx]
        exact cells3 s i hlt
      have HX := hid hx
      clear hx hB hK
      go_wp2_with fail
      refine (rAdd_any p hp x u _).mono ?_
      rintro e w4 ⟨rfl, hx4⟩
      have hb4 := hx4.heap_some HB.out
      have hf := frozen_of hb4 i
      have hfc : w4.cell? ⟨g, i, none⟩ = some ((mPart u s i).arr[i]?.getD undef) := by
        rw [cell_of hb4 i]
        have : i = 0 ∨ i = 1 ∨ i = 2 := by omega
        rcases this with rfl | rfl | rfl <;> rfl
      have HX4 := hid hx4
      have HB4 := hid hb4
      clear hx4 hb4 hc
      go_wp2
      go_roundw
      case rel =>
        refine ⟨i + 1, by omega, by go_num, ?_, (HK.out.ext HX4.out).setCell (.inl rfl) _⟩
        rw [heap_setCell_same HB4.out i _, mpart_succ u i s hlt x HX.out]
      case measure => simp [intOf]; omega
    · have hi : i = 3 := by omega
      subst hi
      have c0 : wr.cell? ⟨g, 0, none⟩ = some (.int .u64 (mPart u s 3).a.toNat) := cell_of hB 0
      have c1 : wr.cell? ⟨g, 1, none⟩ = some (.int .u64 (mPart u s 3).b.toNat) := cell_of hB 1
      have c2 : wr.cell? ⟨g, 2, none⟩ = some (.int .u64 (mPart u s 3).c.toNat) := cell_of hB 2
      have hB1 := hK.heap_some (by have := HGN.out; omega) HC1.out
      have d0 : wr.cell? ⟨n + 1, 0, none⟩ = some (.int .u64 0) := cell_of hB1 0
      have d1 : wr.cell? ⟨n + 1, 1, none⟩ = some (.int .u64 0) := cell_of hB1 1
      have d2 : wr.cell? ⟨n + 1, 2, none⟩ = some (.int .u64 0) := cell_of hB1 2
      have df := frozen_of hB1
      have HB1 := hid hB1
      clear hB hK hB1
      obtain ⟨m, hm⟩ : ∃ m, m = mPart u s 3 := ⟨_, rfl⟩
      rw [← hm] at c0 c1 c2
      have HM := hid hm
      clear hm
      go_wp2
      have hB3 := heap_setCell_same (heap_setCell_same (heap_setCell_same HB1.out 0 (.int .u64 m.a.toNat)) 1 (.int .u64 m.b.toNat)) 2 (.int .u64 m.c.toNat)
      have r0 := cell_of hB3 0
      have r1 := cell_of hB3 1
      have r2 := cell_of hB3 2
      have hfin : Ext w (((wr.setCell ⟨n + 1, 0, none⟩ (.int .u64 m.a.toNat)).setCell ⟨n + 1, 1, none⟩ (.int .u64 m.b.toNat)).setCell ⟨n + 1, 2, none⟩ (.int .u64 m.c.toNat)) := by
        have hnn : w.heap.size ≤ n + 1 := by have := HN.out; omega
        exact (((HX3.out.kp HK.out (by rintro k rfl; exact HGN.out.2.2)).setCell (p := ⟨n + 1, 0, none⟩) hnn _).setCell (p := ⟨n + 1, 1, none⟩) hnn _).setCell (p := ⟨n + 1, 2, none⟩) hnn _
      have hmm : m = pMix s := by rw [HM.out, HU.out]; rfl
      subst hmm
      exact bodyPost_ret (v := (pMix s).v) (by simp [results, Tryz.results156, go_sem, r0, r1, r2]) rfl ⟨rfl, hfin⟩
end Go.Proofs.YtcikjcjfcanloaaGreat
namespace Go.Proofs.YtcikjcjfcanloaaGreat
open Go.RowKit
attribute [local irreducible] fAdd fMul fPow fSub fNeg fRed fAdd0 fMul0 fPow0
set_option maxRecDepth 100000 in
set_option maxHeartbeats 3200000 in
theorem rPermute_any (p : Int) (hp : IsBig p) (s : S3) (w : World) :
    Calls Tryz.prog 132 #[.int .u64 p, s.v] w fun e w' => e = .returned (perm s).v ∧ Ext w w' := by
  obtain ⟨n, hn⟩ : ∃ n, n = w.heap.size := ⟨_, rfl⟩
  obtain ⟨w0, hw0⟩ : ∃ w0, w0 = ((w.alloc (.cells #[.int .u64 s.a.toNat, .int .u64 s.b.toNat, .int .u64 s.c.toNat] 160)).alloc (.cells #[.int .u64 0, .int .u64 0, .int .u64 0] 160)) := ⟨_, rfl⟩
  have hx0 : Ext w w0 := by rw [hw0]; exact ((Ext.refl _).alloc _).alloc _
  have h0 : w0.heap[n]? = some (.cells #[.int .u64 s.a.toNat, .int .u64 s.b.toNat, .int .u64 s.c.toNat] 160 (0, 0)) := by rw [hw0, hn]; exact heap_alloc_some (heap_new _ _)
  have h1 : w0.heap[n + 1]? = some (.cells #[.int .u64 0, .int .u64 0, .int .u64 0] 160 (0, 0)) := by
    rw [hw0, hn]
    have := heap_new (w.alloc (.cells #[.int .u64 s.a.toNat, .int .u64 s.b.toNat, .int .u64 s.c.toNat] 160)) (.cells #[.int .u64 0, .int .u64 0, .int .u64 0] 160)
    rwa [World.size_alloc] at this
  have HX0 := hid hx0
  have H0 := hid h0
  have H1 := hid h1
  have HN := hid hn
  have HW0 := hid hw0
  clear hx0 h0 h1 hn hw0
  go_enter Tryz.func132, Tryz.ntmps132
  go_wp2_with fail
  rw [← HW0.out, ← HN.out]
  refine (rValid_any p hp _).mono ?_
  rintro e w2 ⟨rfl, hx2⟩
  have E2 := hid (HX0.out.trans hx2)
  have R0 := hid (hx2.heap_some H0.out)
  have R1 := hid (hx2.heap_some H1.out)
  clear hx2
  go_wp2_with fail
  go_loopw [5] (fun rv wr => ∃ r : Nat, r ≤ 8 ∧ rv = .int .i64 r ∧ wr.heap[n]? = some (.cells #[.int .u64 (pRounds r s).a.toNat, .int .u64 (pRounds r s).b.toNat, .int .u64 (pRounds r s).c.toNat] 160 (0, 0)) ∧ Kp (fun k => k = n) w2 wr) (fun rv _ => (8 - intOf rv).toNat)
  case atStart => exact ⟨0, by omega, rfl, R0.out, Kp.refl _ _⟩
  case round =>
    obtain ⟨r, hr8, rfl, hB, hK⟩ := hrel
    by_cases hlt : r < 8
    · have hltB : decide ((r : Int) < 8) = true := by simp; omega
      have HB := hid hB
      have HK := hid hK
      clear hB hK
      go_wp2
      obtain ⟨wo, rfl⟩ : ∃ wo : World, wo = wr := ⟨_, rfl⟩
      obtain ⟨s1, hs1⟩ : ∃ s1, s1 = pRounds r s := ⟨_, rfl⟩
      rw [← hs1] at HB
      have HS1' := hid hs1
      clear hs1
      go_loopw [6] (fun iv wr => ∃ i : Nat, i ≤ 3 ∧ iv = .int .i64 i ∧ wr.heap[n]? = some (.cells #[.int .u64 (pPart r i s1).a.toNat, .int .u64 (pPart r i s1).b.toNat, .int .u64 (pPart r i s1).c.toNat] 160 (0, 0)) ∧ Kp (fun k => k = n) w2 wr) (fun iv _ => (3 - intOf iv).toNat)
      case atStart => exact ⟨0, by omega, rfl, HB.out, HK.out⟩
      case round =>
        obtain ⟨i, hi3, rfl, hB, hK⟩ := hrel
        by_cases hlt2 : i < 3
        · have hr8' : r < 8 := hlt
          have HK := hid hK
          have F2 : ∀ v, Ext wr v → ∀ i, v.frozen? ⟨n, i, none⟩ = false := fun v k => frozen_of (k.heap_some hB)
          have hi2 : ((i : Int)).toNat = i := by omega
          obtain ⟨x, hx⟩ : ∃ x, x = (pPart r i s1).get i := ⟨_, rfl⟩
          have C0 : ∀ v, Ext wr v → v.cell? ⟨n, i, none⟩ = some (.int .u64 x.toNat) := fun v k => by
            rw [cell_of (k.heap_some hB) i, hx]
            exact cells3 _ i hlt2
          have HX := hid hx
          have HB := hid hB
          have hi0 : (0 : Int) ≤ (i : Int) := by omega
          have hi3' : (i : Int) < 3 := by omega
          clear hlt hr8 hi3 hK hB hx
          go_wp2_with fail
          refine wp_region_T (fun v => v.cell? ⟨n, i, none⟩ = some (.int .u64 x.toNat) ∧ Ext wr v) 14 [(0, true), (1, true), (2, true), (3, true), (4, true), (5, true), (6, true), (7, true), (8, true), (11, true), (9, false), (10, false), (12, false), (13, false), (14, false), (15, false)] (by kernel_rfl) (by kernel_rfl) (by intro c a d v w h; cases d <;> exact h) ?_
          intro ops hops
          have HS : wr.drew.cell? ⟨n, i, none⟩ = some (.int .u64 x.toNat) ∧ Ext wr wr.drew := ⟨C0 _ (Ext.refl _).drew, (Ext.refl _).drew⟩
          iterate 10
            refine wpT_take (v := ?_) (by rw [hops, List.getElem?_toArray]; rfl) (by first | rfl | (rw [hops]; rfl)) ?_ HS ?_
            rotate_left
            · intro v h; go_simp; with_reducible rfl
            simp only [Act.put, List.getElem_toArray, List.getElem_cons_zero, List.getElem_cons_succ, List.setIfInBounds_toArray, List.set_cons_zero, List.set_cons_succ]
          refine wpT_step (by rw [hops, List.getElem?_toArray]; rfl) (by first | rfl | (rw [hops]; rfl)) ?_
          intro K hK
          go_wp2_with fail
          refine (rConst_any p hp r i hr8' hlt2 _).mono ?_
          rintro e v1 ⟨rfl, hb1⟩
          have HS1 : v1.cell? ⟨n, i, none⟩ = some (.int .u64 x.toNat) ∧ Ext wr v1 := ⟨C0 _ (HS.2.trans hb1), HS.2.trans hb1⟩
          refine hK _ _ ⟨fun _ => HS1, ?_⟩
          clear hK K
          refine wpT_step (by rw [hops, List.getElem?_toArray]; rfl) (by first | rfl | (rw [hops]; rfl)) ?_
          intro K hK
          go_wp2_with fail
          refine (rAdd_any p hp x (pConst r i) _).mono ?_
          rintro e v2 ⟨rfl, hb2⟩
          have HS2 : v2.cell? ⟨n, i, none⟩ = some (.int .u64 x.toNat) ∧ Ext wr v2 := ⟨C0 _ (HS1.2.trans hb2), HS1.2.trans hb2⟩
          refine hK _ _ ⟨fun _ => HS2, ?_⟩
          clear hK K
          refine wpT_step (by rw [hops, List.getElem?_toArray]; rfl) (by first | rfl | (rw [hops]; rfl)) ?_
          intro K hK
          go_wp2_with fail
          refine (rExp_any p hp _).mono ?_
          rintro e v3 ⟨rfl, hb3⟩
          have HS3 : v3.cell? ⟨n, i, none⟩ = some (.int .u64 x.toNat) ∧ Ext wr v3 := ⟨C0 _ (HS2.2.trans hb3), HS2.2.trans hb3⟩
          refine hK _ _ ⟨fun _ => HS3, ?_⟩
          clear hK K
          refine wpT_step (by rw [hops, List.getElem?_toArray]; rfl) (by first | rfl | (rw [hops]; rfl)) ?_
          intro K hK
          go_wp2_with fail
          refine (rPow_any p hp (fAdd x (pConst r i)) 7 _).mono ?_
          rintro e v4 ⟨rfl, hb4⟩
          have HS4 : v4.cell? ⟨n, i, none⟩ = some (.int .u64 x.toNat) ∧ Ext wr v4 := ⟨C0 _ (HS3.2.trans hb4), HS3.2.trans hb4⟩
          refine hK _ _ ⟨fun _ => HS4, ?_⟩
          clear hK K
          refine wpT_step (by rw [hops, List.getElem?_toArray]; rfl) (by first | rfl | (rw [hops]; rfl)) ?_
          intro K hK
          go_wp2_with fail
          refine ⟨fun h => absurd h (by decide), ?_⟩
          have hf := F2 v4 HS4.2 i
          have hc := HS4.1
          refine wpT_step (by rw [hops, List.getElem?_toArray]; rfl) (by first | rfl | (rw [hops]; rfl)) ?_
          intro K hK
          go_wp2_with fail
          refine ⟨fun h => absurd h (by decide), ?_⟩
          rw [wpT_nil]
          clear hops ops
          have E3 := HS4.2
          clear hb1 hb2 hb3 hb4 HS HS1 HS2 HS3 HS4 F2 C0 hf hc
          go_wp2
          go_roundw
          case rel =>
            refine ⟨i + 1, by omega, by go_num, ?_, ?_⟩
            · rw [heap_setCell_same (E3.heap_some HB.out) i _, part_succ r i s1 hlt2 x HX.out]
            · exact (HK.out.ext E3).setCell (.inl rfl) _
          case measure => simp [intOf]; omega
        · have hi3'' : i = 3 := by omega
          subst hi3''
          have c0 : wr.cell? ⟨n, 0, none⟩ = some (.int .u64 (pPart r 3 s1).a.toNat) := cell_of hB 0
          have c1 : wr.cell? ⟨n, 1, none⟩ = some (.int .u64 (pPart r 3 s1).b.toNat) := cell_of hB 1
          have c2 : wr.cell? ⟨n, 2, none⟩ = some (.int .u64 (pPart r 3 s1).c.toNat) := cell_of hB 2
          have HB := hid hB
          have HK := hid hK
          obtain ⟨s2, hs2⟩ : ∃ s2, s2 = pPart r 3 s1 := ⟨_, rfl⟩
          rw [← hs2] at c0 c1 c2 HB
          have HS2 := hid hs2
          clear hB hK hs2
          go_wp2_with fail
          refine (rMix_any p hp s2 _).mono ?_
          rintro e v1 ⟨rfl, hb1⟩
          have HB1 := hb1.heap_some HB.out
          have d0 : v1.cell? ⟨n, 0, none⟩ = some (.int .u64 s2.a.toNat) := cell_of HB1 0
          have d1 : v1.cell? ⟨n, 1, none⟩ = some (.int .u64 s2.b.toNat) := cell_of HB1 1
          have d2 : v1.cell? ⟨n, 2, none⟩ = some (.int .u64 s2.c.toNat) := cell_of HB1 2
          have df : ∀ i, v1.frozen? ⟨n, i, none⟩ = false := fun i => frozen_of HB1 i
          have HB2 := hid HB1
          clear c0 c1 c2 HB1
          go_wp2
          go_roundw
          case rel =>
            refine ⟨r + 1, by omega, by go_num, ?_, ?_⟩
            · rw [heap_setCell_same (heap_setCell_same (heap_setCell_same HB2.out 0 _) 1 _) 2 _]
              have e : pRounds (r + 1) s = pMix s2 := by rw [HS2.out, HS1'.out]; rfl
              rw [e]; rfl
            · exact (((HK.out.ext hb1).setCell (.inl rfl) _).setCell (.inl rfl) _).setCell (.inl rfl) _
          case measure => simp [intOf]; omega
    · have hr : r = 8 := by omega
      subst hr
      have c0 : wr.cell? ⟨n, 0, none⟩ = some (.int .u64 (pRounds 8 s).a.toNat) := cell_of hB 0
      have c1 : wr.cell? ⟨n, 1, none⟩ = some (.int .u64 (pRounds 8 s).b.toNat) := cell_of hB 1
      have c2 : wr.cell? ⟨n, 2, none⟩ = some (.int .u64 (pRounds 8 s).c.toNat) := cell_of hB 2
      have HR := hK.heap_some (by omega) R1.out
      have d0 : wr.cell? ⟨n + 1, 0, none⟩ = some (.int .u64 0) := cell_of HR 0
      have d1 : wr.cell? ⟨n + 1, 1, none⟩ = some (.int .u64 0) := cell_of HR 1
      have d2 : wr.cell? ⟨n + 1, 2, none⟩ = some (.int .u64 0) := cell_of HR 2
      have df : ∀ i, wr.frozen? ⟨n + 1, i, none⟩ = false := fun i => frozen_of HR i
      have HK := hid hK
      have HR' := hid HR
      clear hB hK HR
      go_wp2
      have hB3 := heap_setCell_same (heap_setCell_same (heap_setCell_same HR'.out 0 (.int .u64 (pRounds 8 s).a.toNat)) 1 (.int .u64 (pRounds 8 s).b.toNat)) 2 (.int .u64 (pRounds 8 s).c.toNat)
      have r0 := cell_of hB3 0
      have r1 := cell_of hB3 1
      have r2 := cell_of hB3 2
      have hfin : Ext w (((wr.setCell ⟨n + 1, 0, none⟩ (.int .u64 (pRounds 8 s).a.toNat)).setCell ⟨n + 1, 1, none⟩ (.int .u64 (pRounds 8 s).b.toNat)).setCell ⟨n + 1, 2, none⟩ (.int .u64 (pRounds 8 s).c.toNat)) := by
        have hnn : w.heap.size ≤ n + 1 := by have := HN.out; omega
        exact (((E2.out.kp HK.out (by rintro k rfl; have := HN.out; omega)).setCell (p := ⟨n + 1, 0, none⟩) hnn _).setCell (p := ⟨n + 1, 1, none⟩) hnn _).setCell (p := ⟨n + 1, 2, none⟩) hnn _
      exact bodyPost_ret (v := (perm s).v) (by simp [results, Tryz.results132, go_sem, r0, r1, r2, perm]) rfl ⟨rfl, hfin⟩
attribute [local irreducible] perm
theorem rAdd_int (p : Int) (hp : IsBig p) (a b : UInt64) (B : Int) (hB : (b.toNat : Int) = B) (w : World) :
    Calls Tryz.prog 130 #[.int .u64 p, .int .u64 a.toNat, .int .u64 B] w fun e w' => e = .returned (.int .u64 (fAdd a b).toNat) ∧ Ext w w' := by
  subst hB; exact rAdd_any p hp a b w
theorem rMul_unit (p : Int) (hp : IsBig p) (a : UInt64) (w : World) :
    Calls Tryz.prog 131 #[.int .u64 p, .int .u64 a.toNat, .int .u64 65536] w fun e w' => e = .returned (.int .u64 (fMul a 65536).toNat) ∧ Ext w w' := rMul_any p hp a 65536 w
/-- The state s before element i of l; S in the end. -/
def AbI (l : List UInt64) (s0 S : S3) (i : Nat) (s : S3) : Prop := (i = 0 ∧ s = s0 ∧ (l = [] → S = perm s0)) ∨ (0 < i ∧ absorbAll s (l.drop i) = S)
theorem AbI.drop {l : List UInt64} {s0 S s : S3} {i : Nat} (h : AbI l s0 S i s) (h0 : l ≠ [] → absorbAll s0 l = S) (hi : i < l.length) : absorbAll s (l.drop i) = S := by
  rcases h with ⟨rfl, rfl, -⟩ | ⟨-, h⟩
  · exact h0 (by rintro rfl; simp at hi)
  · exact h
set_option maxRecDepth 100000 in
set_option maxHeartbeats 6400000 in
theorem rAbsorb_any (p : Int) (hp : IsBig p) (label : UInt64) (lv : Value) (l : List UInt64) (w : World) (hl : RdU w lv l) (hL : l.length ≤ 1000000000000) :
    Calls Tryz.prog 104 #[.int .u64 p, .int .u64 label.toNat, lv] w fun e w' => e = .returned (sponge label l).v ∧ Ext w w' := by
  have HL := hid hl
  obtain ⟨aa, ac, rfl, -⟩ := hl
  have hlen : l.length ≤ 9223372036854775807 := by omega
  have hL1 : (l.length : Int) ≤ 1000000000000 := by omega
  obtain ⟨x0, hx0⟩ : ∃ x0, x0 = labelOf label l.length := ⟨_, rfl⟩
  obtain ⟨S, hS⟩ : ∃ S, S = sponge label l := ⟨_, rfl⟩
  have hS0 : l ≠ [] → absorbAll ⟨0, 0, x0⟩ l = S := fun h => by rw [hS, hx0]; unfold sponge; rw [if_neg h]
  have hS1 : l = [] → S = perm ⟨0, 0, x0⟩ := fun h => by rw [hS, hx0]; unfold sponge; rw [if_pos h, h]; rfl
  rw [← hS]
  have HS0 := hid hS0
  have HS1 := hid hS1
  have HX0 := hid hx0
  clear hL hS hx0 hS0 hS1
  obtain ⟨n, hn⟩ : ∃ n, n = w.heap.size := ⟨_, rfl⟩
  obtain ⟨w0, hw0⟩ : ∃ w0, w0 = w.alloc (.cells #[.int .u64 0, .int .u64 0, .int .u64 0] 160) := ⟨_, rfl⟩
  have HXW := hid (show Ext w w0 by rw [hw0]; exact (Ext.refl _).alloc _)
  have HZ := hid (show w0.heap[n]? = some (.cells #[.int .u64 0, .int .u64 0, .int .u64 0] 160 (0, 0)) by rw [hw0, hn]; exact heap_new _ _)
  have HN := hid hn
  have HW0 := hid hw0
  clear hn hw0
  go_enter Tryz.func104, Tryz.ntmps104
  go_wp2_with fail
  rw [← HW0.out, ← HN.out]
  refine (rMul_unit p hp label _).mono ?_
  rintro e w1 ⟨rfl, hx1⟩
  have HX1 := hid (HXW.out.trans hx1)
  have HZ1 := hid (hx1.heap_some HZ.out)
  clear hx1
  go_wp2_with fail
  refine (rAdd_int p hp _ (UInt64.ofNat l.length) l.length (len_u hlen) _).mono ?_
  rintro e w2 ⟨rfl, hx2⟩
  have HX2 := hid (HX1.out.trans hx2)
  have HZ2 := hid (hx2.heap_some HZ1.out)
  clear hx2
  have hxx : fAdd (fMul label 65536) (UInt64.ofNat l.length) = x0 := by rw [HX0.out]; rfl
  rw [hxx]
  clear hxx
  go_wp2_with fail
  obtain ⟨g, hg⟩ : ∃ g, g = w2.heap.size := ⟨_, rfl⟩
  obtain ⟨w3, hw3⟩ : ∃ w3, w3 = w2.alloc (.cells #[.int .u64 0, .int .u64 0, .int .u64 x0.toNat] 160) := ⟨_, rfl⟩
  have hg3 : w3.heap[g]? = some (.cells #[.int .u64 0, .int .u64 0, .int .u64 x0.toNat] 160 (0, 0)) := by rw [hw3, hg]; exact heap_new _ _
  have hx3 : Ext w2 w3 := by rw [hw3]; exact (Ext.refl _).alloc _
  rw [← hw3, ← hg]
  have HGN := hid (show n < g ∧ w.heap.size ≤ g by have h1 := heap_lt HZ2.out; have h2 := HX2.out.size; omega)
  have HX3 := hid (HX2.out.trans hx3)
  have HZ3 := hid (hx3.heap_some HZ2.out)
  have HG3 := hid hg3
  have HL3 := hid (HL.out.ext HX3.out)
  clear hx3 hg3 hw3 hg
  go_loopw [8] (fun iv wr => ∃ (i : Nat) (t : S3), i ≤ l.length + 2 ∧ iv = .int .i64 i ∧ Hid (AbI l ⟨0, 0, x0⟩ S i t) ∧ Hid (wr.heap[g]? = some (.cells t.arr 160 (0, 0))) ∧ Hid (Kp (fun k => k = g) w3 wr)) (fun iv _ => (l.length + 2 - (intOf iv).toNat))
  case atStart => exact ⟨0, ⟨0, 0, x0⟩, by omega, rfl, hid (.inl ⟨rfl, rfl, HS1.out⟩), HG3, hid (Kp.refl _ _)⟩
  case round =>
    obtain ⟨i, t, hi, rfl, HI, HB, HK⟩ := hrel
    have hcl : ∀ (j : Nat) (x : UInt64), l[j]? = some x → ∃ ab ao, aa = some ⟨ab, ao, none⟩ ∧ ab ≠ g ∧ w3.cell? ⟨ab, ao + j, none⟩ = some (.int .u64 x.toNat) := fun j x hx => by
      obtain ⟨ab, ao, h1, h2⟩ := HL.out.at hx
      exact ⟨ab, ao, h1, by have := cell_lt h2; have := HGN.out.2; omega, HX3.out.cell_some h2⟩
    have HCL := hid hcl
    clear hcl
    by_cases hend : 0 < i ∧ l.length ≤ i
    · have e1 : ((i : Int) == 0) = false := by simp; omega
      have e2 : decide ((i : Int) < (l.length : Int)) = false := by simp; omega
      have e2' : decide (i < l.length) = false := by simp; omega
      have ht : t = S := by
        rcases HI.out with ⟨h1, -⟩ | ⟨-, h⟩
        · omega
        · rw [List.drop_eq_nil_of_le hend.2, absorb_nil] at h; exact h
      have c0 : wr.cell? ⟨g, 0, none⟩ = some (.int .u64 t.a.toNat) := cell_of HB.out 0
      have c1 : wr.cell? ⟨g, 1, none⟩ = some (.int .u64 t.b.toNat) := cell_of HB.out 1
      have c2 : wr.cell? ⟨g, 2, none⟩ = some (.int .u64 t.c.toNat) := cell_of HB.out 2
      have HR := HK.out.heap_some (by have := HGN.out; omega) HZ3.out
      have d0 : wr.cell? ⟨n, 0, none⟩ = some (.int .u64 0) := cell_of HR 0
      have d1 : wr.cell? ⟨n, 1, none⟩ = some (.int .u64 0) := cell_of HR 1
      have d2 : wr.cell? ⟨n, 2, none⟩ = some (.int .u64 0) := cell_of HR 2
      have df : ∀ i, wr.frozen? ⟨n, i, none⟩ = false := fun i => frozen_of HR i
      have HR' := hid HR
      have HT := hid ht
      clear HR ht hend hi
      go_wp2
      have hB3 := heap_setCell_same (heap_setCell_same (heap_setCell_same HR'.out 0 (.int .u64 t.a.toNat)) 1 (.int .u64 t.b.toNat)) 2 (.int .u64 t.c.toNat)
      have r0 := cell_of hB3 0
      have r1 := cell_of hB3 1
      have r2 := cell_of hB3 2
      have hnn : w.heap.size ≤ n := by have := HN.out; omega
      have hfin := (((HX3.out.kp HK.out (by rintro k rfl; exact HGN.out.2)).setCell (p := ⟨n, 0, none⟩) hnn (.int .u64 t.a.toNat)).setCell (p := ⟨n, 1, none⟩) hnn (.int .u64 t.b.toNat)).setCell (p := ⟨n, 2, none⟩) hnn (.int .u64 t.c.toNat)
      rw [← HT.out]
      exact bodyPost_ret (v := t.v) (by simp [results, Tryz.results104, go_sem, r0, r1, r2]) rfl ⟨rfl, hfin⟩
    · by_cases hlt : i < l.length
      · have e2 : decide ((i : Int) < (l.length : Int)) = true := by simp; omega
        have hx : l[i]? = some l[i] := List.getElem?_eq_getElem hlt
        have hdrop := HI.out.drop HS0.out hlt
        rw [List.drop_eq_getElem_cons hlt] at hdrop
        generalize l[i] = x at *
        obtain ⟨ab, ao, haa, hab, hca⟩ := HCL.out _ _ hx
        subst haa
        have hce : ∀ v, Ext wr v → v.cell? ⟨g, 0, none⟩ = some (.int .u64 t.a.toNat) ∧ v.cell? ⟨ab, ao + i, none⟩ = some (.int .u64 x.toNat) := fun v k => ⟨cell_of (k.heap_some HB.out) 0, k.cell_some (HK.out.cell_some (by omega) hca)⟩
        have HDR := hid hdrop
        have i1 : (i : Int) < (l.length : Int) := by omega
        have i0 : (0 : Int) ≤ (i : Int) := by omega
        have hiz : ∀ b : Bool, (bif ((i : Int) == 0) then true else true) = true := fun _ => by cases ((i : Int) == 0) <;> rfl
        have HEND := hid hend
        have HLT := hid hlt
        clear hx hdrop hca hend hlt
        cases hez : ((i : Int) == 0) with
        | false =>
          go_wp2_with fail
          refine wp_region_T (fun v => (v.cell? ⟨g, 0, none⟩ = some (.int .u64 t.a.toNat) ∧ v.cell? ⟨ab, ao + i, none⟩ = some (.int .u64 x.toNat)) ∧ Ext wr v) 7 [(0, true), (1, true), (2, true), (3, true), (4, true), (5, true), (6, true), (7, false), (8, false), (9, false)] (by kernel_rfl) (by kernel_rfl) (by intro c a d v w h; cases d <;> exact h) ?_
          intro ops hops
          have HR := (And.intro (hce _ (Ext.refl wr).drew) (Ext.refl wr).drew)
          iterate 7
            refine wpT_take (v := ?_) (by rw [hops, List.getElem?_toArray]; rfl) (by first | rfl | (rw [hops]; rfl)) ?_ HR ?_
            rotate_left
            · intro v h; go_simp; with_reducible rfl
            simp only [Act.put, List.getElem_toArray, List.getElem_cons_zero, List.getElem_cons_succ, List.setIfInBounds_toArray, List.set_cons_zero, List.set_cons_succ]
          have hxr := HR.2
          clear HR
          refine wpT_step (by rw [hops, List.getElem?_toArray]; rfl) (by first | rfl | (rw [hops]; rfl)) ?_
          intro K hK
          go_wp2_with fail
          refine (rAdd_any p hp t.a x _).mono ?_
          rintro e v1 ⟨rfl, hy1⟩
          have hb1 := (hxr.trans hy1).heap_some HB.out
          have hf1 := frozen_of hb1
          have hc1 : v1.cell? ⟨g, 0, none⟩ = some (.int .u64 t.a.toNat) := cell_of hb1 0
          have HY1 := hid (hxr.trans hy1)
          have HBB1 := hid hb1
          refine hK _ _ ⟨fun h => absurd h (by decide), ?_⟩
          clear hK K
          clear hy1 hxr hb1 hce
          refine wpT_step (by rw [hops, List.getElem?_toArray]; rfl) (by first | rfl | (rw [hops]; rfl)) ?_
          intro K hK
          go_wp2_with fail
          try (with_reducible refine ⟨fun h => absurd h (by decide), ?_⟩)
          try rw [← hops]
          refine wpT_step (by rw [hops, List.getElem?_toArray]; rfl) (by first | rfl | (rw [hops]; rfl)) ?_
          intro K hK
          go_wp2_with fail
          refine ⟨fun h => absurd h (by decide), ?_⟩
          rw [wpT_nil]
          clear hops ops
          clear hf1 hc1
          obtain ⟨v2, hv2⟩ : ∃ v2, v2 = v1.setCell ⟨g, 0, none⟩ (.int .u64 (fAdd t.a x).toNat) := ⟨_, rfl⟩
          have hbv2 : v2.heap[g]? = some (.cells (S3.mk (fAdd t.a x) t.b t.c).arr 160 (0, 0)) := by rw [hv2, heap_setCell_same HBB1.out 0 _]; rfl
          have hkv2 : Kp (fun k => k = g) w3 v2 := by rw [hv2]; exact (HK.out.ext HY1.out).setCell (.inl rfl) _
          rw [← hv2]
          have HBV2 := hid hbv2
          have HKV2 := hid hkv2
          clear hv2 hbv2 hkv2
          by_cases hlt1 : i + 1 < l.length
          · have e3 : decide ((i : Int) + 1 < (l.length : Int)) = true := by simp; omega
            have e4 : decide (i + 1 < l.length) = true := by simp; omega
            have hy : l[i + 1]? = some l[i + 1] := List.getElem?_eq_getElem hlt1
            have hdr2 : l.drop (i + 1) = l[i + 1] :: l.drop (i + 1 + 1) := List.drop_eq_getElem_cons hlt1
            generalize l[i + 1] = y at *
            obtain ⟨ab', ao', haa', hab', hca'⟩ := HCL.out _ _ hy
            simp only [Option.some.injEq, Addr.mk.injEq, and_true] at haa'
            obtain ⟨rfl, rfl⟩ := haa'
            have hce2 : ∀ v, Ext v2 v → v.cell? ⟨g, 1, none⟩ = some (.int .u64 t.b.toNat) ∧ v.cell? ⟨ab, ao + (i + 1), none⟩ = some (.int .u64 y.toNat) := fun v k => ⟨cell_of (k.heap_some HBV2.out) 1, k.cell_some (HKV2.out.cell_some (by omega) hca')⟩
            have HDR2 := hid hdr2
            have HLT1 := hid hlt1
            have i2 : (i : Int) + 1 < (l.length : Int) := by omega
            have i3 : (0 : Int) ≤ (i : Int) + 1 := by omega
            have hti : ((i : Int) + 1).toNat = i + 1 := by omega
            have hwr : IntKind.i64.wrap ((i : Int) + 1) = (i : Int) + 1 := IntWalk.i64_in _ (by omega)
            clear hy hdr2 hca'
            go_wp2_with fail
            refine wp_region_T (fun v => (v.cell? ⟨g, 1, none⟩ = some (.int .u64 t.b.toNat) ∧ v.cell? ⟨ab, ao + (i + 1), none⟩ = some (.int .u64 y.toNat)) ∧ Ext v2 v) 8 [(0, true), (1, true), (2, true), (3, true), (4, true), (5, true), (6, true), (7, true), (8, false), (9, false), (10, false)] (by kernel_rfl) (by kernel_rfl) (by intro c a d v w h; cases d <;> exact h) ?_
            intro ops hops
            have HR := (And.intro (hce2 _ (Ext.refl v2).drew) (Ext.refl v2).drew)
            iterate 8
              refine wpT_take (v := ?_) (by rw [hops, List.getElem?_toArray]; rfl) (by first | rfl | (rw [hops]; rfl)) ?_ HR ?_
              rotate_left
              · intro v h; go_simp; with_reducible rfl
              simp only [Act.put, List.getElem_toArray, List.getElem_cons_zero, List.getElem_cons_succ, List.setIfInBounds_toArray, List.set_cons_zero, List.set_cons_succ]
            have hxr := HR.2
            clear HR
            refine wpT_step (by rw [hops, List.getElem?_toArray]; rfl) (by first | rfl | (rw [hops]; rfl)) ?_
            intro K hK
            go_wp2_with fail
            refine (rAdd_any p hp t.b y _).mono ?_
            rintro e v3 ⟨rfl, hy3⟩
            have hb3 := (hxr.trans hy3).heap_some HBV2.out
            have hf3 := frozen_of hb3
            have hc3 : v3.cell? ⟨g, 1, none⟩ = some (.int .u64 t.b.toNat) := cell_of hb3 1
            have HY3 := hid (hxr.trans hy3)
            have HBB3 := hid hb3
            refine hK _ _ ⟨fun h => absurd h (by decide), ?_⟩
            clear hK K
            clear hy3 hxr hb3 hce2
            refine wpT_step (by rw [hops, List.getElem?_toArray]; rfl) (by first | rfl | (rw [hops]; rfl)) ?_
            intro K hK
            go_wp2_with fail
            try (with_reducible refine ⟨fun h => absurd h (by decide), ?_⟩)
            try rw [← hops]
            refine wpT_step (by rw [hops, List.getElem?_toArray]; rfl) (by first | rfl | (rw [hops]; rfl)) ?_
            intro K hK
            go_wp2_with fail
            refine ⟨fun h => absurd h (by decide), ?_⟩
            rw [wpT_nil]
            clear hops ops
            clear hf3 hc3
            obtain ⟨v4, hv4⟩ : ∃ v4, v4 = v3.setCell ⟨g, 1, none⟩ (.int .u64 (fAdd t.b y).toNat) := ⟨_, rfl⟩
            have hbv4 : v4.heap[g]? = some (.cells (S3.mk (fAdd t.a x) (fAdd t.b y) t.c).arr 160 (0, 0)) := by rw [hv4, heap_setCell_same HBB3.out 1 _]; rfl
            have hkv4 : Kp (fun k => k = g) w3 v4 := by rw [hv4]; exact (HKV2.out.ext HY3.out).setCell (.inl rfl) _
            rw [← hv4]
            have HBV4 := hid hbv4
            have HKV4 := hid hkv4
            clear hv4 hbv4 hkv4
            have c0 : v4.cell? ⟨g, 0, none⟩ = some (.int .u64 (fAdd t.a x).toNat) := cell_of HBV4.out 0
            have c1 : v4.cell? ⟨g, 1, none⟩ = some (.int .u64 (fAdd t.b y).toNat) := cell_of HBV4.out 1
            have c2 : v4.cell? ⟨g, 2, none⟩ = some (.int .u64 t.c.toNat) := cell_of HBV4.out 2
            go_wp2_with fail
            refine (rPermute_any p hp ⟨fAdd t.a x, fAdd t.b y, t.c⟩ _).mono ?_
            rintro e v5 ⟨rfl, hy5⟩
            have hb5 := hy5.heap_some HBV4.out
            have d0 : v5.cell? ⟨g, 0, none⟩ = some (.int .u64 (fAdd t.a x).toNat) := cell_of hb5 0
            have d1 : v5.cell? ⟨g, 1, none⟩ = some (.int .u64 (fAdd t.b y).toNat) := cell_of hb5 1
            have d2 : v5.cell? ⟨g, 2, none⟩ = some (.int .u64 t.c.toNat) := cell_of hb5 2
            have df := frozen_of hb5
            have HY5 := hid hy5
            have HB5 := hid hb5
            clear hy5 hb5 c0 c1 c2
            obtain ⟨t', ht'⟩ : ∃ t', t' = perm ⟨fAdd t.a x, fAdd t.b y, t.c⟩ := ⟨_, rfl⟩
            rw [← ht']
            have HT' := hid ht'
            clear ht'
            go_wp2
            go_roundw
            case rel =>
              refine ⟨i + 2, t', by have := HLT.out; omega, by go_num, hid (.inr ⟨by omega, ?_⟩), hid ?_, hid ((((HKV4.out.ext HY5.out).setCell (.inl rfl) _).setCell (.inl rfl) _).setCell (.inl rfl) _)⟩
              · have h1 := HDR.out; rw [HDR2.out, absorb_two, ← HT'.out] at h1; exact h1
              · rw [heap_setCell_same (heap_setCell_same (heap_setCell_same HB5.out 0 _) 1 _) 2 _]; rfl
            case measure => have := HLT.out; simp [intOf]; omega
          · have e3 : decide ((i : Int) + 1 < (l.length : Int)) = false := by simp; omega
            have e4 : decide (i + 1 < l.length) = false := by simp; omega
            have HLT1 := hid hlt1
            have c0 : v2.cell? ⟨g, 0, none⟩ = some (.int .u64 (fAdd t.a x).toNat) := cell_of HBV2.out 0
            have c1 : v2.cell? ⟨g, 1, none⟩ = some (.int .u64 t.b.toNat) := cell_of HBV2.out 1
            have c2 : v2.cell? ⟨g, 2, none⟩ = some (.int .u64 t.c.toNat) := cell_of HBV2.out 2
            clear hlt1
            go_wp2_with fail
            refine (rPermute_any p hp ⟨fAdd t.a x, t.b, t.c⟩ _).mono ?_
            rintro e v3 ⟨rfl, hy3⟩
            have hb3 := hy3.heap_some HBV2.out
            have d0 : v3.cell? ⟨g, 0, none⟩ = some (.int .u64 (fAdd t.a x).toNat) := cell_of hb3 0
            have d1 : v3.cell? ⟨g, 1, none⟩ = some (.int .u64 t.b.toNat) := cell_of hb3 1
            have d2 : v3.cell? ⟨g, 2, none⟩ = some (.int .u64 t.c.toNat) := cell_of hb3 2
            have df := frozen_of hb3
            have HY3 := hid hy3
            have HB3 := hid hb3
            clear hy3 hb3 c0 c1 c2
            obtain ⟨t', ht'⟩ : ∃ t', t' = perm ⟨fAdd t.a x, t.b, t.c⟩ := ⟨_, rfl⟩
            rw [← ht']
            have HT' := hid ht'
            clear ht'
            go_wp2
            go_roundw
            case rel =>
              refine ⟨i + 2, t', by have := HLT.out; omega, by go_num, hid (.inr ⟨by omega, ?_⟩), hid ?_, hid ((((HKV2.out.ext HY3.out).setCell (.inl rfl) _).setCell (.inl rfl) _).setCell (.inl rfl) _)⟩
              · have h1 := HDR.out
                have h2 : l.drop (i + 1) = [] := List.drop_eq_nil_of_le (by have := HLT1.out; omega)
                rw [h2, absorb_one, ← HT'.out] at h1
                rw [List.drop_eq_nil_of_le (by have := HLT1.out; omega), absorb_nil]; exact h1
              · rw [heap_setCell_same (heap_setCell_same (heap_setCell_same HB3.out 0 _) 1 _) 2 _]; rfl
            case measure => have := HLT.out; simp [intOf]; omega
        | true =>
          go_wp2_with fail
          refine wp_region_T (fun v => (v.cell? ⟨g, 0, none⟩ = some (.int .u64 t.a.toNat) ∧ v.cell? ⟨ab, ao + i, none⟩ = some (.int .u64 x.toNat)) ∧ Ext wr v) 7 [(0, true), (1, true), (2, true), (3, true), (4, true), (5, true), (6, true), (7, false), (8, false), (9, false)] (by kernel_rfl) (by kernel_rfl) (by intro c a d v w h; cases d <;> exact h) ?_
          intro ops hops
          have HR := (And.intro (hce _ (Ext.refl wr).drew) (Ext.refl wr).drew)
          iterate 7
            refine wpT_take (v := ?_) (by rw [hops, List.getElem?_toArray]; rfl) (by first | rfl | (rw [hops]; rfl)) ?_ HR ?_
            rotate_left
            · intro v h; go_simp; with_reducible rfl
            simp only [Act.put, List.getElem_toArray, List.getElem_cons_zero, List.getElem_cons_succ, List.setIfInBounds_toArray, List.set_cons_zero, List.set_cons_succ]
          have hxr := HR.2
          clear HR
          refine wpT_step (by rw [hops, List.getElem?_toArray]; rfl) (by first | rfl | (rw [hops]; rfl)) ?_
          intro K hK
          go_wp2_with fail
          refine (rAdd_any p hp t.a x _).mono ?_
          rintro e v1 ⟨rfl, hy1⟩
          have hb1 := (hxr.trans hy1).heap_some HB.out
          have hf1 := frozen_of hb1
          have hc1 : v1.cell? ⟨g, 0, none⟩ = some (.int .u64 t.a.toNat) := cell_of hb1 0
          have HY1 := hid (hxr.trans hy1)
          have HBB1 := hid hb1
          refine hK _ _ ⟨fun h => absurd h (by decide), ?_⟩
          clear hK K
          clear hy1 hxr hb1 hce
          refine wpT_step (by rw [hops, List.getElem?_toArray]; rfl) (by first | rfl | (rw [hops]; rfl)) ?_
          intro K hK
          go_wp2_with fail
          try (with_reducible refine ⟨fun h => absurd h (by decide), ?_⟩)
          try rw [← hops]
          refine wpT_step (by rw [hops, List.getElem?_toArray]; rfl) (by first | rfl | (rw [hops]; rfl)) ?_
          intro K hK
          go_wp2_with fail
          refine ⟨fun h => absurd h (by decide), ?_⟩
          rw [wpT_nil]
          clear hops ops
          clear hf1 hc1
          obtain ⟨v2, hv2⟩ : ∃ v2, v2 = v1.setCell ⟨g, 0, none⟩ (.int .u64 (fAdd t.a x).toNat) := ⟨_, rfl⟩
          have hbv2 : v2.heap[g]? = some (.cells (S3.mk (fAdd t.a x) t.b t.c).arr 160 (0, 0)) := by rw [hv2, heap_setCell_same HBB1.out 0 _]; rfl
          have hkv2 : Kp (fun k => k = g) w3 v2 := by rw [hv2]; exact (HK.out.ext HY1.out).setCell (.inl rfl) _
          rw [← hv2]
          have HBV2 := hid hbv2
          have HKV2 := hid hkv2
          clear hv2 hbv2 hkv2
          by_cases hlt1 : i + 1 < l.length
          · have e3 : decide ((i : Int) + 1 < (l.length : Int)) = true := by simp; omega
            have e4 : decide (i + 1 < l.length) = true := by simp; omega
            have hy : l[i + 1]? = some l[i + 1] := List.getElem?_eq_getElem hlt1
            have hdr2 : l.drop (i + 1) = l[i + 1] :: l.drop (i + 1 + 1) := List.drop_eq_getElem_cons hlt1
            generalize l[i + 1] = y at *
            obtain ⟨ab', ao', haa', hab', hca'⟩ := HCL.out _ _ hy
            simp only [Option.some.injEq, Addr.mk.injEq, and_true] at haa'
            obtain ⟨rfl, rfl⟩ := haa'
            have hce2 : ∀ v, Ext v2 v → v.cell? ⟨g, 1, none⟩ = some (.int .u64 t.b.toNat) ∧ v.cell? ⟨ab, ao + (i + 1), none⟩ = some (.int .u64 y.toNat) := fun v k => ⟨cell_of (k.heap_some HBV2.out) 1, k.cell_some (HKV2.out.cell_some (by omega) hca')⟩
            have HDR2 := hid hdr2
            have HLT1 := hid hlt1
            have i2 : (i : Int) + 1 < (l.length : Int) := by omega
            have i3 : (0 : Int) ≤ (i : Int) + 1 := by omega
            have hti : ((i : Int) + 1).toNat = i + 1 := by omega
            have hwr : IntKind.i64.wrap ((i : Int) + 1) = (i : Int) + 1 := IntWalk.i64_in _ (by omega)
            clear hy hdr2 hca'
            go_wp2_with fail
            refine wp_region_T (fun v => (v.cell? ⟨g, 1, none⟩ = some (.int .u64 t.b.toNat) ∧ v.cell? ⟨ab, ao + (i + 1), none⟩ = some (.int .u64 y.toNat)) ∧ Ext v2 v) 8 [(0, true), (1, true), (2, true), (3, true), (4, true), (5, true), (6, true), (7, true), (8, false), (9, false), (10, false)] (by kernel_rfl) (by kernel_rfl) (by intro c a d v w h; cases d <;> exact h) ?_
            intro ops hops
            have HR := (And.intro (hce2 _ (Ext.refl v2).drew) (Ext.refl v2).drew)
            iterate 8
              refine wpT_take (v := ?_) (by rw [hops, List.getElem?_toArray]; rfl) (by first | rfl | (rw [hops]; rfl)) ?_ HR ?_
              rotate_left
              · intro v h; go_simp; with_reducible rfl
              simp only [Act.put, List.getElem_toArray, List.getElem_cons_zero, List.getElem_cons_succ, List.setIfInBounds_toArray, List.set_cons_zero, List.set_cons_succ]
            have hxr := HR.2
            clear HR
            refine wpT_step (by rw [hops, List.getElem?_toArray]; rfl) (by first | rfl | (rw [hops]; rfl)) ?_
            intro K hK
            go_wp2_with fail
            refine (rAdd_any p hp t.b y _).mono ?_
            rintro e v3 ⟨rfl, hy3⟩
            have hb3 := (hxr.trans hy3).heap_some HBV2.out
            have hf3 := frozen_of hb3
            have hc3 : v3.cell? ⟨g, 1, none⟩ = some (.int .u64 t.b.toNat) := cell_of hb3 1
            have HY3 := hid (hxr.trans hy3)
            have HBB3 := hid hb3
            refine hK _ _ ⟨fun h => absurd h (by decide), ?_⟩
            clear hK K
            clear hy3 hxr hb3 hce2
            refine wpT_step (by rw [hops, List.getElem?_toArray]; rfl) (by first | rfl | (rw [hops]; rfl)) ?_
            intro K hK
            go_wp2_with fail
            try (with_reducible refine ⟨fun h => absurd h (by decide), ?_⟩)
            try rw [← hops]
            refine wpT_step (by rw [hops, List.getElem?_toArray]; rfl) (by first | rfl | (rw [hops]; rfl)) ?_
            intro K hK
            go_wp2_with fail
            refine ⟨fun h => absurd h (by decide), ?_⟩
            rw [wpT_nil]
            clear hops ops
            clear hf3 hc3
            obtain ⟨v4, hv4⟩ : ∃ v4, v4 = v3.setCell ⟨g, 1, none⟩ (.int .u64 (fAdd t.b y).toNat) := ⟨_, rfl⟩
            have hbv4 : v4.heap[g]? = some (.cells (S3.mk (fAdd t.a x) (fAdd t.b y) t.c).arr 160 (0, 0)) := by rw [hv4, heap_setCell_same HBB3.out 1 _]; rfl
            have hkv4 : Kp (fun k => k = g) w3 v4 := by rw [hv4]; exact (HKV2.out.ext HY3.out).setCell (.inl rfl) _
            rw [← hv4]
            have HBV4 := hid hbv4
            have HKV4 := hid hkv4
            clear hv4 hbv4 hkv4
            have c0 : v4.cell? ⟨g, 0, none⟩ = some (.int .u64 (fAdd t.a x).toNat) := cell_of HBV4.out 0
            have c1 : v4.cell? ⟨g, 1, none⟩ = some (.int .u64 (fAdd t.b y).toNat) := cell_of HBV4.out 1
            have c2 : v4.cell? ⟨g, 2, none⟩ = some (.int .u64 t.c.toNat) := cell_of HBV4.out 2
            go_wp2_with fail
            refine (rPermute_any p hp ⟨fAdd t.a x, fAdd t.b y, t.c⟩ _).mono ?_
            rintro e v5 ⟨rfl, hy5⟩
            have hb5 := hy5.heap_some HBV4.out
            have d0 : v5.cell? ⟨g, 0, none⟩ = some (.int .u64 (fAdd t.a x).toNat) := cell_of hb5 0
            have d1 : v5.cell? ⟨g, 1, none⟩ = some (.int .u64 (fAdd t.b y).toNat) := cell_of hb5 1
            have d2 : v5.cell? ⟨g, 2, none⟩ = some (.int .u64 t.c.toNat) := cell_of hb5 2
            have df := frozen_of hb5
            have HY5 := hid hy5
            have HB5 := hid hb5
            clear hy5 hb5 c0 c1 c2
            obtain ⟨t', ht'⟩ : ∃ t', t' = perm ⟨fAdd t.a x, fAdd t.b y, t.c⟩ := ⟨_, rfl⟩
            rw [← ht']
            have HT' := hid ht'
            clear ht'
            go_wp2
            go_roundw
            case rel =>
              refine ⟨i + 2, t', by have := HLT.out; omega, by go_num, hid (.inr ⟨by omega, ?_⟩), hid ?_, hid ((((HKV4.out.ext HY5.out).setCell (.inl rfl) _).setCell (.inl rfl) _).setCell (.inl rfl) _)⟩
              · have h1 := HDR.out; rw [HDR2.out, absorb_two, ← HT'.out] at h1; exact h1
              · rw [heap_setCell_same (heap_setCell_same (heap_setCell_same HB5.out 0 _) 1 _) 2 _]; rfl
            case measure => have := HLT.out; simp [intOf]; omega
          · have e3 : decide ((i : Int) + 1 < (l.length : Int)) = false := by simp; omega
            have e4 : decide (i + 1 < l.length) = false := by simp; omega
            have HLT1 := hid hlt1
            have c0 : v2.cell? ⟨g, 0, none⟩ = some (.int .u64 (fAdd t.a x).toNat) := cell_of HBV2.out 0
            have c1 : v2.cell? ⟨g, 1, none⟩ = some (.int .u64 t.b.toNat) := cell_of HBV2.out 1
            have c2 : v2.cell? ⟨g, 2, none⟩ = some (.int .u64 t.c.toNat) := cell_of HBV2.out 2
            clear hlt1
            go_wp2_with fail
            refine (rPermute_any p hp ⟨fAdd t.a x, t.b, t.c⟩ _).mono ?_
            rintro e v3 ⟨rfl, hy3⟩
            have hb3 := hy3.heap_some HBV2.out
            have d0 : v3.cell? ⟨g, 0, none⟩ = some (.int .u64 (fAdd t.a x).toNat) := cell_of hb3 0
            have d1 : v3.cell? ⟨g, 1, none⟩ = some (.int .u64 t.b.toNat) := cell_of hb3 1
            have d2 : v3.cell? ⟨g, 2, none⟩ = some (.int .u64 t.c.toNat) := cell_of hb3 2
            have df := frozen_of hb3
            have HY3 := hid hy3
            have HB3 := hid hb3
            clear hy3 hb3 c0 c1 c2
            obtain ⟨t', ht'⟩ : ∃ t', t' = perm ⟨fAdd t.a x, t.b, t.c⟩ := ⟨_, rfl⟩
            rw [← ht']
            have HT' := hid ht'
            clear ht'
            go_wp2
            go_roundw
            case rel =>
              refine ⟨i + 2, t', by have := HLT.out; omega, by go_num, hid (.inr ⟨by omega, ?_⟩), hid ?_, hid ((((HKV2.out.ext HY3.out).setCell (.inl rfl) _).setCell (.inl rfl) _).setCell (.inl rfl) _)⟩
              · have h1 := HDR.out
                have h2 : l.drop (i + 1) = [] := List.drop_eq_nil_of_le (by have := HLT1.out; omega)
                rw [h2, absorb_one, ← HT'.out] at h1
                rw [List.drop_eq_nil_of_le (by have := HLT1.out; omega), absorb_nil]; exact h1
              · rw [heap_setCell_same (heap_setCell_same (heap_setCell_same HB3.out 0 _) 1 _) 2 _]; rfl
            case measure => have := HLT.out; simp [intOf]; omega
      · have hi0 : i = 0 := by omega
        have hl0 : l = [] := List.length_eq_zero_iff.1 (by omega)
        have HL0 := hid hl0
        have htt : perm t = S := by
          rcases HI.out with ⟨-, h1, h2⟩ | ⟨h, -⟩
          · rw [h1]; exact (h2 hl0).symm
          · omega
        have HTT := hid htt
        have e1 : ((i : Int) == 0) = true := by simp; omega
        have e2 : decide ((i : Int) < (l.length : Int)) = false := by simp; omega
        have e2' : decide (i < l.length) = false := by simp; omega
        have e3 : decide ((i : Int) + 1 < (l.length : Int)) = false := by simp; omega
        have e4 : decide (i + 1 < l.length) = false := by simp; omega
        have HI0 := hid hi0
        clear hl0 htt hend hlt hi0
        have c0 : wr.cell? ⟨g, 0, none⟩ = some (.int .u64 (t.a).toNat) := cell_of HB.out 0
        have c1 : wr.cell? ⟨g, 1, none⟩ = some (.int .u64 (t.b).toNat) := cell_of HB.out 1
        have c2 : wr.cell? ⟨g, 2, none⟩ = some (.int .u64 t.c.toNat) := cell_of HB.out 2
        go_wp2_with fail
        refine (rPermute_any p hp ⟨t.a, t.b, t.c⟩ _).mono ?_
        rintro e v5 ⟨rfl, hy5⟩
        have hb5 := hy5.heap_some HB.out
        have d0 : v5.cell? ⟨g, 0, none⟩ = some (.int .u64 (t.a).toNat) := cell_of hb5 0
        have d1 : v5.cell? ⟨g, 1, none⟩ = some (.int .u64 (t.b).toNat) := cell_of hb5 1
        have d2 : v5.cell? ⟨g, 2, none⟩ = some (.int .u64 t.c.toNat) := cell_of hb5 2
        have df := frozen_of hb5
        have HY5 := hid hy5
        have HB5 := hid hb5
        clear hy5 hb5 c0 c1 c2
        obtain ⟨t', ht'⟩ : ∃ t', t' = perm ⟨t.a, t.b, t.c⟩ := ⟨_, rfl⟩
        rw [← ht']
        have HT' := hid ht'
        clear ht'
        go_wp2
        go_roundw
        case rel =>
          refine ⟨i + 2, t', by have := HI0.out; omega, by go_num, hid (.inr ⟨by omega, ?_⟩), hid ?_, hid ((((HK.out.ext HY5.out).setCell (.inl rfl) _).setCell (.inl rfl) _).setCell (.inl rfl) _)⟩
          · have h1 := HTT.out; rw [show perm t = t' from HT'.out.symm] at h1; rw [HL0.out, List.drop_nil, absorb_nil]; exact h1
          · rw [heap_setCell_same (heap_setCell_same (heap_setCell_same HB5.out 0 _) 1 _) 2 _]; rfl
        case measure => have := HI0.out; simp [intOf]; omega
set_option maxRecDepth 100000 in
set_option maxHeartbeats 800000 in
theorem rHash_any (p : Int) (hp : IsBig p) (label : UInt64) (lv : Value) (l : List UInt64) (w : World) (hl : RdU w lv l) (hL : l.length ≤ 1000000000000) :
    Calls Tryz.prog 64 #[.int .u64 p, .int .u64 label.toNat, lv] w fun e w' => e = .returned (.int .u64 (hashU label l).toNat) ∧ Ext w w' := by
  obtain ⟨s, hs⟩ : ∃ s, sponge label l = s := ⟨_, rfl⟩
  unfold hashU
  rw [hs]
  have HS := hid hs
  have HL := hid hl
  have HLL := hid hL
  clear hs hl hL
  go_enter Tryz.func64, Tryz.ntmps64
  go_wp2_with fail
  refine (rValid_any p hp _).mono ?_
  rintro e w1 ⟨rfl, hb1⟩
  have hab := rAbsorb_any p hp label lv l w1 (HL.out.ext hb1) HLL.out
  rw [HS.out] at hab
  have HAB := hid hab
  clear hab
  go_wp2_with fail
  refine HAB.out.mono ?_
  rintro e w2 ⟨rfl, hb2⟩
  have hix := index0 (.int .u64 s.a.toNat) (.int .u64 s.b.toNat) (.int .u64 s.c.toNat)
  go_wp2
  go_ret
  exact ⟨rfl, hb1.trans hb2⟩
end Go.Proofs.YtcikjcjfcanloaaGreat
