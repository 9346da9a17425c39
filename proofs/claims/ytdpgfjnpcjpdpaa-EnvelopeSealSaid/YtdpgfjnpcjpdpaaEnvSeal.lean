/- EnvelopeSeal returns true: the walk. -/
import Derived.Test.YtdpgfjnpcjpdpaaAsked
import Derived.Test.YtdpgfjnpcjpdpaaParcel
set_option linter.unusedSimpArgs false
namespace Go.Proofs.Ytdpgfjnpcjpdpaa
open Go.RowKit
attribute [local irreducible] perm fAdd fMul fPow fSub fNeg fRed hashU drawOf nextState cipSeal
/-- Where a round begins: i parcels have been sealed. -/
structure SR (w0 wr : World) (b B : Nat) (ideal : Bool) (i : Nat) (M MR : Orc) (F : Nat → Prop) (sv : Value) : Prop where
  ex : Ext w0 wr
  at' : OrcAt wr b M F
  new : ∀ k, F k → w0.heap.size ≤ k
  box : wr.heap[B]? = some (.cells #[.bool ideal, uv MR.state, .int .i64 (MR.draws : Int), .slice none 0 0, sv, .slice none 0 0] 95 (0, 0))
  bF : ¬ F B
  b0 : w0.heap.size ≤ B
  st : StS (fun k => k = B ∨ F k) wr sv MR.seals
  rel : Rel M MR
  qs : M.qs = []
  dr : M.draws ≤ 3 * i
  len : MR.seals.length ≤ i
  idl : M.ideal = ideal
  pl : ∀ s ∈ M.seals, s.plain.length = 2
  sl : ∀ s ∈ MR.seals, s.sealed.length = 3
set_option maxRecDepth 100000 in
set_option maxHeartbeats 12800000 in
theorem EnvelopeSeal_any {w : World} {ideal : Bool} {seed : UInt64} {lv : Value} {l : List Pc} (hl : RdP w lv l) :
    Calls Try.prog 9 #[.agg #[uv seed, .bool ideal], lv] w fun e w' => e = .returned (.bool true) ∧ Ext w w' := by
  obtain ⟨la, lc, rfl, hlc, hlm, -⟩ := id hl
  obtain ⟨N, hN⟩ : ∃ N, N = w.heap.size := ⟨_, rfl⟩
  obtain ⟨w0, hw0⟩ : ∃ w0, w0 = w.alloc (.cells #[uv seed, .bool ideal] 89) := ⟨_, rfl⟩
  have hx0 : Ext w w0 := by rw [hw0]; exact (Ext.refl w).alloc _
  have hb0 : w0.heap[N]? = some (.cells #[uv seed, .bool ideal] 89 (0, 0)) := by rw [hw0, hN]; exact heap_new _ _
  have HW := hid hw0
  have HX0 := hid hx0
  have HB0 := hid hb0
  have HL := hid (hl.ext hx0)
  have HA := hid awake35_any
  have HLM := hid (Nat.le_trans hlc hlm)
  clear hw0 hx0 hb0 hl hlc hlm
  go_enter Try.func9, Try.ntmps9
  go_upto_region 1 with fail
  rw [← HW.out, ← hN]
  clear hN
  go_wp2_with fail
  refine (HA.out _).mono ?_
  rintro e w1 ⟨rfl, hx⟩
  have HX1 := hid hx
  clear hx
  by_cases hs : l.length ≤ 5
  case neg =>
    have hd : decide ((5 : Int) < (l.length : Int)) = true := by simp; omega
    have hd2 : decide (5 < l.length) = true := by simp; omega
    clear hs
    go_wp2_with fail
    refine (HA.out _).mono ?_
    rintro e w2 ⟨rfl, hx⟩
    have HX2 := hid ((HX0.out.trans HX1.out).trans hx)
    clear hx
    go_wp2_with fail
    go_ret
    exact ⟨rfl, HX2.out⟩
  have hd : decide ((5 : Int) < (l.length : Int)) = false := by simp; omega
  have hd2 : decide (5 < l.length) = false := by simp; omega
  have HSM := hid hs
  obtain ⟨d0, d1⟩ := two_cells (HX1.out.heap_some HB0.out)
  clear hs HA
  go_wp2_with fail
  refine (oracles_any ideal seed _).mono ?_
  rintro e w3 ⟨b, F, rfl, hat, hx, hF⟩
  have HX3 := hid (HX1.out.trans hx)
  have HAT := hid hat
  have HFN : Hid (∀ k, F k → w0.heap.size ≤ k) := hid fun k hk => Nat.le_trans HX1.out.size (hF k hk)
  clear hx hat hF d0 d1 hd hd2
  generalize stP ideal seed = st at *
  go_upto_region 4 with fail
  obtain ⟨B, hB⟩ : ∃ B, B = w3.heap.size := ⟨_, rfl⟩
  obtain ⟨w4, hw4⟩ : ∃ w4, w4 = w3.alloc (.cells #[.bool ideal, uv st, .int .i64 0, .slice none 0 0, .slice none 0 0, .slice none 0 0] 95) := ⟨_, rfl⟩
  have hx4 : Ext w3 w4 := by rw [hw4]; exact (Ext.refl w3).alloc _
  have hb4 : w4.heap[B]? = some (.cells #[.bool ideal, uv st, .int .i64 0, .slice none 0 0, .slice none 0 0, .slice none 0 0] 95 (0, 0)) := by rw [hw4, hB]; exact heap_new _ _
  rw [← hw4, ← hB]
  have HR0 : Hid (SR w0 w4 b B ideal 0 (Orc.fresh ideal st) (Orc.fresh ideal st) F (.slice none 0 0)) := hid {
    ex := HX3.out.trans hx4
    at' := HAT.out.ext hx4
    new := HFN.out
    box := hb4
    bF := fun h => by have := HAT.out.foot_lt _ h; omega
    b0 := by rw [hB]; exact HX3.out.size
    st := StS.nil _ _
    rel := Rel.refl _
    qs := rfl
    dr := Nat.zero_le _
    len := Nat.zero_le _
    idl := rfl
    pl := fun s hs => by cases hs
    sl := fun s hs => by cases hs }
  clear hw4 hx4 hb4 hB
  go_wp2_with fail
  go_loopw [31] (fun iv wr => ∃ (i : Nat) (M MR : Orc) (F' : Nat → Prop) (sv : Value), i ≤ l.length ∧ iv = .int .i64 i ∧ Hid (SR w0 wr b B ideal i M MR F' sv)) (fun iv _ => l.length - (intOf iv).toNat)
  case atStart => exact ⟨0, _, _, F, _, by omega, rfl, HR0⟩
  case round =>
    clear HR0
    obtain ⟨i, M, MR, F', sv, hi, rfl, HR⟩ := hrel
    obtain ⟨sa, sc, rfl⟩ := HR.out.st.now.len
    by_cases hlt : i < l.length
    · have hltB : decide ((i : Int) < (l.length : Int)) = true := by simp; omega
      obtain ⟨x, hxi⟩ : ∃ x, l[i]? = some x := ⟨_, List.getElem?_eq_getElem hlt⟩
      obtain ⟨xb, xo, rfl, q0, q1, q2, q3, q4, q5, q6, q7, q8⟩ := (HL.out.ext HR.out.ex).at hxi
      have hil : (i : Int) < (l.length : Int) := by omega
      have hi0 : (0 : Int) ≤ (i : Int) := Int.natCast_nonneg _
      have hi5 : i < 5 := by have := HSM.out; omega
      clear hxi
      go_upto_region 9 with fail
      obtain ⟨P, hP⟩ : ∃ P, P = wr.heap.size := ⟨_, rfl⟩
      obtain ⟨w1, hw1⟩ : ∃ w1, w1 = wr.alloc (.cells #[.int .i64 x.num, uv x.owner, uv x.a.a, uv x.a.b, uv x.n.value, uv x.n.owner, uv x.n.rho, uv x.n.blind, uv x.e] 76) := ⟨_, rfl⟩
      have hx1 : Ext wr w1 := by rw [hw1]; exact (Ext.refl wr).alloc _
      have hb1 : w1.heap[P]? = some (.cells #[.int .i64 x.num, uv x.owner, uv x.a.a, uv x.a.b, uv x.n.value, uv x.n.owner, uv x.n.rho, uv x.n.blind, uv x.e] 76 (0, 0)) := by rw [hw1, hP]; exact heap_new _ _
      rw [← hw1, ← hP]
      have HY1 := hid hx1
      have HP1 := hid hb1
      have HPW : Hid (P = wr.heap.size) := hid hP
      clear hw1 hx1 hb1 q0 q1 q2 q3 q4 q5 q6 q7 q8 hP
      have nine : Hid (∀ v : World, v.heap[P]? = some (.cells #[.int .i64 x.num, uv x.owner, uv x.a.a, uv x.a.b, uv x.n.value, uv x.n.owner, uv x.n.rho, uv x.n.blind, uv x.e] 76 (0, 0)) → v.cell? ⟨P, 0, none⟩ = some (.int .i64 x.num) ∧ v.cell? ⟨P, 1, none⟩ = some (uv x.owner) ∧ v.cell? ⟨P, 2, none⟩ = some (uv x.a.a) ∧ v.cell? ⟨P, 3, none⟩ = some (uv x.a.b) ∧
        v.cell? ⟨P, 4, none⟩ = some (uv x.n.value) ∧ v.cell? ⟨P, 5, none⟩ = some (uv x.n.owner) ∧ v.cell? ⟨P, 6, none⟩ = some (uv x.n.rho) ∧ v.cell? ⟨P, 7, none⟩ = some (uv x.n.blind) ∧ v.cell? ⟨P, 8, none⟩ = some (uv x.e)) := hid fun v h => ⟨cell_of h 0, cell_of h 1, cell_of h 2, cell_of h 3, cell_of h 4, cell_of h 5, cell_of h 6, cell_of h 7, cell_of h 8⟩
      obtain ⟨p0, p1, p2, p3, p4, p5, p6, p7, p8⟩ := nine.out _ HP1.out
      have HSE := hid (envSeal_any (num := x.num) (owner := x.owner) (a := x.a) (n := x.n) (ex := x.e) (HR.out.at'.ext HY1.out) (by have := HR.out.dr; omega))
      have hrel := HR.out.rel.envSeal x.a x.n x.e
      have hadd := envSeal_adds M x.a x.n x.e
      obtain ⟨r, hr⟩ : ∃ r, r = M.envSeal x.a x.n x.e := ⟨_, rfl⟩
      rw [← hr] at HSE hrel hadd
      clear hr
      go_wp2_with fail
      refine (HSE.out).mono ?_
      rintro e w2 ⟨v, F2, rfl, hown, hto, hvn⟩
      obtain ⟨⟨q, c⟩, M2⟩ := r
      simp only at hown hto hvn hrel hadd ⊢
      obtain ⟨va, vc, rfl, -⟩ := ownsRow_rd hown
      have HTO := hid hto
      have HOW := hid hown
      have HVN := hid hvn
      have HREL := hid hrel
      have HADD := hid hadd
      have hP2 := hto.kp.heap_some (fun h => by have := HR.out.at'.foot_lt _ h; have := HPW.out; omega) HP1.out
      have hB2 := hto.kp.heap_some HR.out.bF (HY1.out.heap_some HR.out.box)
      have HP2 := hid hP2
      have HB2 := hid hB2
      clear hown hto hvn hrel hadd HSE p0 p1 p2 p3 p4 p5 p6 p7 p8 hP2 hB2
      go_upto_region 10 with fail
      obtain ⟨Q, hQ⟩ : ∃ Q, Q = w2.heap.size := ⟨_, rfl⟩
      obtain ⟨w3, hw3⟩ : ∃ w3, w3 = w2.alloc q.o := ⟨_, rfl⟩
      have hx3 : Ext w2 w3 := by rw [hw3]; exact (Ext.refl w2).alloc _
      have hb3 : w3.heap[Q]? = some q.o := by rw [hw3, hQ]; exact heap_new _ _
      rw [← hw3, ← hQ]
      have HY3 := hid hx3
      have HQ3 := hid hb3
      have HQW : Hid (Q = w2.heap.size) := hid hQ
      clear hw3 hx3 hb3 hQ
      have hkp13 : Kp F' wr w3 := ((Kp.of_ext HY1.out).trans HTO.out.kp).ext HY3.out
      have HKP := hid hkp13
      have hst3 := HR.out.st.grow (G' := fun k => k = B ∨ F2 k) (hkp13.mono fun k _ h => .inr h) (fun k h => by
        rcases h with h | h
        · exact .inl (.inl h)
        · rcases HTO.out.new k h with h | h
          · exact .inl (.inr h)
          · have := HY1.out.size; right; omega)
      have hBlt := heap_lt HB2.out
      have HRS := hid (rEnvSeal_any (G := fun k => k = B ∨ F2 k) (M := MR) (qv := .slice none 0 0) (pv := .slice none 0 0) (num := x.num) (owner := x.owner) (a := x.a) (n := x.n) (ex := x.e) ⟨_, _, _, rfl⟩ ⟨_, _, _, rfl⟩ hst3 (fun k h => by
        have := HY3.out.size
        rcases h with h | h
        · omega
        · have := HTO.out.at'.foot_lt k h; omega) (by have := HR.out.len; omega) (by have := HR.out.rel.draws; have := HR.out.dr; omega))
      obtain ⟨p0, p1, p2, p3, p4, p5, p6, p7, p8⟩ := nine.out _ (HY3.out.heap_some HP2.out)
      obtain ⟨d0, d1, d2, d3, d4, d5⟩ := six_cellsP (HY3.out.heap_some HB2.out)
      rw [show MR.ideal = ideal from HR.out.rel.ideal.trans HR.out.idl] at HRS
      have hra := rEnvSeal_adds MR x.a x.n x.e
      obtain ⟨r2, hr2⟩ : ∃ r2, r2 = MR.rEnvSeal x.a x.n x.e := ⟨_, rfl⟩
      have hrel := HREL.out
      rw [← hr2] at HRS hrel hra
      clear hr2 hkp13 hst3 hBlt
      go_wp2_with fail
      refine (HRS.out).mono ?_
      rintro e w4 ⟨v2, sv2, rfl, hst4, hrd4, hx4⟩
      obtain ⟨⟨q', c'⟩, MR2⟩ := r2
      simp only at hst4 hrd4 hrel hra ⊢
      obtain ⟨he, hrel⟩ := hrel
      injection he with he1 he2
      subst he1 he2
      rw [show MR2.ideal = ideal from hrel.ideal.trans (HADD.out.ideal.trans HR.out.idl)]
      obtain ⟨sa2, sc2, rfl⟩ := hst4.now.len
      obtain ⟨ua, uc, rfl, -⟩ := hrd4 w4 (Kp.refl _ _)
      have HST4 := hid hst4
      have HRD4 := hid hrd4
      have HY4 := hid hx4
      have HREL2 := hid hrel
      have HRA := hid hra
      clear hst4 hrd4 hx4 hrel hra HRS HREL p0 p1 p2 p3 p4 p5 p6 p7 p8 d0 d1 d2 d3 d4 d5
      go_upto_region 11 with fail
      obtain ⟨T, hT⟩ : ∃ T, T = w4.heap.size := ⟨_, rfl⟩
      obtain ⟨w5, hw5⟩ : ∃ w5, w5 = (w4.alloc q'.o).alloc (.cells #[.bool ideal, uv MR2.state, .int .i64 (MR2.draws : Int), .slice none 0 0, .slice sa2 MR2.seals.length sc2, .slice none 0 0] 95) := ⟨_, rfl⟩
      obtain ⟨a0, s0, x0⟩ := alloc_step w4 q'.o hT.symm
      obtain ⟨a1, s1, x1⟩ := alloc_step (w4.alloc q'.o) (.cells #[.bool ideal, uv MR2.state, .int .i64 (MR2.draws : Int), .slice none 0 0, .slice sa2 MR2.seals.length sc2, .slice none 0 0] 95) s0
      have hx5 := x0.trans x1
      have hb5 := x1.heap_some a0
      rw [← hw5] at hx5 hb5 a1 s1
      rw [← hw5, ← hT]
      have HY5 := hid hx5
      have HT5 := hid hb5
      have HT15 := hid a1
      have HTW : Hid (T = w4.heap.size) := hid hT
      clear hw5 a0 s0 x0 a1 s1 x1 hx5 hb5 hT
      have HB5 := hid ((HY3.out.trans (HY4.out.trans HY5.out)).heap_some HB2.out)
      obtain ⟨t0, t1, t2, t3, t4, t5⟩ := six_cellsP HT15.out
      obtain ⟨k0, k1, k2, k3, k4, k5⟩ := six_cellsP HB5.out
      have kf := frozen_of HB5.out
      obtain ⟨hb6, hk6⟩ := six_setP (d0 := .bool ideal) (d1 := uv MR2.state) (d2 := .int .i64 (MR2.draws : Int)) (d3 := .slice none 0 0) (d4 := .slice sa2 MR2.seals.length sc2) (d5 := .slice none 0 0) HB5.out
      have HB6 := hid hb6
      have HK6 := hid hk6
      clear hb6 hk6
      go_upto_region 12 with fail
      generalize ((((((w5.setCell ⟨B, 0, none⟩ (.bool ideal)).setCell ⟨B, 1, none⟩ (uv MR2.state)).setCell ⟨B, 2, none⟩ (.int .i64 (MR2.draws : Int))).setCell ⟨B, 3, none⟩ (.slice none 0 0)).setCell ⟨B, 4, none⟩ (.slice sa2 MR2.seals.length sc2)).setCell ⟨B, 5, none⟩ (.slice none 0 0)) = w6 at *
      clear t0 t1 t2 t3 t4 t5 k0 k1 k2 k3 k4 k5 kf
      have hBlt := heap_lt HB2.out
      have hqw := HQW.out
      have htw := HTW.out
      have hy3 := HY3.out.size
      have hy4 := HY4.out.size
      have HY25 := hid (HY3.out.trans (HY4.out.trans HY5.out))
      have HQ6 := hid (HK6.out.heap_some (by omega) ((HY4.out.trans HY5.out).heap_some HQ3.out))
      have HT6 := hid (HK6.out.heap_some (by omega) HT5.out)
      have hbF2 : ¬ F2 B := HTO.out.far (by have := heap_lt HR.out.box; have := HY1.out.size; omega) HR.out.bF
      have HAT6 := hid ((HTO.out.at'.ext HY25.out).kp HK6.out (fun k hk e => by subst e; exact hbF2 hk))
      have HEX6 : Hid (Ext w0 w6) := hid (((HR.out.ex.kp HKP.out HR.out.new).trans (HY4.out.trans HY5.out)).kp HK6.out (fun k h => by subst h; exact HR.out.b0))
      have HRC : Hid (RdU' w6 (.slice va c'.length vc) c') := hid (OwnU.rdu (ownsRow_kp (ownsRow_ext HOW.out HY25.out) HK6.out (fun k h e => by
        have := (HVN.out k h).1
        subst e
        have := heap_lt HR.out.box
        have := HY1.out.size
        omega))).weak
      have HRD6 : Hid (RdU' w6 (.slice ua c'.length uc) c') := hid (HRD4.out w6 ((Kp.of_ext HY5.out).trans (HK6.out.mono fun k _ h => .inl h))).weak
      have HST6 : Hid (StS (fun k => k = B ∨ F2 k) w6 (.slice sa2 MR2.seals.length sc2) MR2.seals) := hid (HST4.out.grow ((Kp.of_ext HY5.out).trans (HK6.out.mono fun k _ h => .inl h)) (fun k h => .inl h))
      have HBF2 := hid hbF2
      have HNX : Hid (∀ v, Ext w6 v → SR w0 v b B ideal (i + 1) M2 MR2 F2 (.slice sa2 MR2.seals.length sc2)) := hid fun v k => {
        ex := HEX6.out.trans k
        at' := HAT6.out.ext k
        new := fun j hj => by
          rcases HTO.out.new j hj with h | h
          · exact HR.out.new j h
          · have := HR.out.ex.size; have := HY1.out.size; omega
        box := k.heap_some HB6.out
        bF := HBF2.out
        b0 := HR.out.b0
        st := HST6.out.grow (.of_ext k) (fun j h => .inl h)
        rel := HREL2.out
        qs := HADD.out.qs.trans HR.out.qs
        dr := by have := HADD.out.draws; have := HR.out.dr; omega
        len := by have := HRA.out.len; have := HR.out.len; omega
        idl := HADD.out.ideal.trans HR.out.idl
        pl := fun s hs => by
          rcases HADD.out.seals s hs with h | h
          · exact HR.out.pl s h
          · omega
        sl := fun s hs => by
          rcases HRA.out.mem s hs with h | h
          · exact HR.out.sl s h
          · exact h }
      have HEQ : Hid ((Op.equalIn 10000 70 (.agg #[uv q'.a, uv q'.b]) (.agg #[uv q'.a, uv q'.b])).run Try.prog w6 = .ok true w6) := hid (by rw [e2Eq, E2.same_refl])
      obtain ⟨u0, u1⟩ := two_cells HQ6.out
      obtain ⟨z0, z1⟩ := two_cells HT6.out
      clear hBlt hqw htw hy3 hy4 hbF2
      have hc3 := HADD.out.len
      have HSM2 := hid (Same35_any _ _ c' c' w6 HRC.out HRD6.out (by omega) (by omega))
      rw [show (c' == c') = true by simp] at HSM2
      go_wp2_with fail
      rw [HEQ.out, Result.andThen_ok, Result.andThen_ok]
      clear u0 u1 z0 z1 hc3
      go_wp2_with fail
      refine (HSM2.out).mono ?_
      rintro e w7 ⟨rfl, hx7⟩
      have hb7 := hx7.heap_some HB6.out
      obtain ⟨d0, d1, d2, d3, d4, d5⟩ := six_cellsP hb7
      have hqs := HADD.out.qs.trans HR.out.qs
      have hask := asked_any (ideal := ideal) (st := MR2.state) (qa := none) (qc := 0) (sa := sa2) (sn := MR2.seals.length) (sc := sc2) (pa := none) (pn := 0) (pc := 0) (HAT6.out.ext hx7) (by rw [hqs]; simp) (by rw [hqs]; intro q hq; cases hq)
      rw [hqs, ← HREL2.out.draws] at hask
      have HASK := hid hask
      have HX7 := hid hx7
      clear hx7 hb7 hask hqs HSM2
      go_wp2_with fail
      refine (HASK.out).mono ?_
      rintro e w8 ⟨rfl, hx8⟩
      have HNX8 := hid (HNX.out _ (HX7.out.trans hx8))
      clear hx8 d0 d1 d2 d3 d4 d5
      go_wp2_with fail
      go_roundw
      case rel => exact ⟨i + 1, M2, MR2, F2, _, by omega, by go_num, HNX8⟩
      case measure => simp [intOf]; omega
    · obtain rfl : i = l.length := by omega
      have hltB : decide ((l.length : Int) < (l.length : Int)) = false := by simp
      go_wp2_with fail
      go_ret
      exact ⟨rfl, HX0.out.trans HR.out.ex⟩
end Go.Proofs.Ytdpgfjnpcjpdpaa
