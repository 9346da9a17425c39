/- EnvelopeInjective returns true: the walk. -/
import Derived.Test.YtdpgfjnpcjpdpaaAwk35
set_option linter.unusedSimpArgs false
namespace Go.Proofs.Ytdpgfjnpcjpdpaa
open Go.RowKit
attribute [local irreducible] perm fAdd fMul fPow fSub fNeg fRed hashU drawOf nextState cipSeal
theorem ownU_set {w : World} {a : Option Addr} {n c : Nat} {l : List UInt64} (h : OwnU w (.slice a n c) l) {i : Nat} {x : UInt64} (hx : l[i]? = some x) :
    ∃ g, a = some ⟨g, 0, none⟩ ∧ w.cell? ⟨g, i, none⟩ = some (uv x) ∧ (∀ o, w.frozen? ⟨g, o, none⟩ = false) ∧ ∀ y : UInt64, OwnU (w.setCell ⟨g, i, none⟩ (uv y)) (.slice a n c) (l.set i y) := by
  obtain ⟨hi, rfl⟩ := List.getElem?_eq_some_iff.1 hx
  obtain ⟨h1, ⟨h2, h3⟩ | ⟨g, cap, cur, he, h2, h3, h4, h5, h6, h7⟩⟩ := id h
  · simp at h3; subst h3; simp at hi
  · injection he with e1 e2 e3
    subst e1 e2 e3
    rw [Nat.mul_one] at h6 h7
    have hlt : i < cur.size := by omega
    refine ⟨g, rfl, ?_, frozen_of h3, fun y => ⟨by simp, .inr ⟨g, c, cur.setIfInBounds i (uv y), by simp, h2, heap_setCell_same h3 i _, by simpa using h4, h5, by simpa using h6, ?_⟩⟩⟩
    · rw [cell_of h3 i]
      have h8 : (cur.toList.take l.length)[i]? = some (uv l[i]) := by rw [h7]; simp [us, hi]
      rw [List.getElem?_take, if_pos hi] at h8
      simpa using h8
    · rw [Nat.mul_one, List.length_set]
      simp only [Array.toList_setIfInBounds]
      rw [List.take_set, h7]
      simp [us, List.map_set]
theorem real_seal {M : Orc} (hI : M.ideal = false) (a : E2) (n : Nt) (e : UInt64) : ((M.envSeal a n e).2 = M) ∧ (M.envSeal a n e).1.2.length ≤ 3 := by
  unfold Orc.envSeal
  split
  · unfold Orc.sealT
    rw [hI]
    refine ⟨rfl, ?_⟩
    simp only [Bool.false_eq_true, if_false]
    split
    · rw [cipSeal_length]; simp
    · simp
  · exact ⟨rfl, by simp⟩
set_option maxRecDepth 100000 in
set_option maxHeartbeats 6400000 in
theorem EnvelopeInjective_any {w : World} {num : Int} {owner ex view g0 g1 g2 : UInt64} {a : E2} {n : Nt} :
    Calls Try.prog 7 #[.agg #[.int .i64 num, uv owner, uv a.a, uv a.b, uv n.value, uv n.owner, uv n.rho, uv n.blind, uv ex], .agg #[uv g0, uv g1, uv g2], uv view] w fun e w' => e = .returned (.bool true) ∧ Ext w w' := by
  obtain ⟨N, hN⟩ : ∃ N, N = w.heap.size := ⟨_, rfl⟩
  obtain ⟨w0, hw0⟩ : ∃ w0, w0 = (w.alloc (.cells #[.int .i64 num, uv owner, uv a.a, uv a.b, uv n.value, uv n.owner, uv n.rho, uv n.blind, uv ex] 76)).alloc (.cells #[uv g0, uv g1, uv g2] 77) := ⟨_, rfl⟩
  have hx0 : Ext w w0 := by rw [hw0]; exact ((Ext.refl w).alloc _).alloc _
  have hb0 : w0.heap[N]? = some (.cells #[.int .i64 num, uv owner, uv a.a, uv a.b, uv n.value, uv n.owner, uv n.rho, uv n.blind, uv ex] 76 (0, 0)) := by rw [hw0, hN]; exact heap_alloc_some (heap_new _ _)
  have hb1 : w0.heap[N + 1]? = some (.cells #[uv g0, uv g1, uv g2] 77 (0, 0)) := by
    rw [hw0, hN]
    have := heap_new (w.alloc (.cells #[.int .i64 num, uv owner, uv a.a, uv a.b, uv n.value, uv n.owner, uv n.rho, uv n.blind, uv ex] 76)) (.cells #[uv g0, uv g1, uv g2] 77)
    simpa using this
  have HW := hid hw0
  have HX0 := hid hx0
  have HB0 := hid hb0
  have HB1 := hid hb1
  have HN := hid hN
  have HA := hid awake35_any
  have HRL := hid Real_any
  clear hw0 hx0 hb0 hb1
  go_enter Try.func7, Try.ntmps7
  go_upto_region 1 with fail
  rw [← HW.out, ← hN]
  clear hN
  go_wp2_with fail
  refine (HA.out _).mono ?_
  rintro e w1 ⟨rfl, hx⟩
  have HX1 := hid hx
  clear hx
  go_wp2_with fail
  refine (HRL.out _).mono ?_
  rintro e w2 ⟨b, F, rfl, hat, hx, hF⟩
  have HX2 := hid (HX1.out.trans hx)
  have HAT := hid hat
  have HF : Hid (∀ k, F k → w0.heap.size ≤ k) := hid fun k hk => Nat.le_trans HX1.out.size (hF k hk)
  have hb0 := HX2.out.heap_some HB0.out
  have p0 := cell_of hb0 0
  have p1 := cell_of hb0 1
  have p2 := cell_of hb0 2
  have p3 := cell_of hb0 3
  have p4 := cell_of hb0 4
  have p5 := cell_of hb0 5
  have p6 := cell_of hb0 6
  have p7 := cell_of hb0 7
  have p8 := cell_of hb0 8
  simp only [List.getElem?_toArray, List.getElem?_cons_zero, List.getElem?_cons_succ] at p0 p1 p2 p3 p4 p5 p6 p7 p8
  have HSE := hid (envSeal_any (num := num) (owner := owner) (a := a) (n := n) (ex := ex) hat (by show (0 : Nat) ≤ _; omega))
  clear hx hat hF hb0 HRL HA
  go_wp2_with fail
  refine (HSE.out).mono ?_
  rintro e w3 ⟨v, F3, rfl, hown, hto, hvn⟩
  have hrs := real_seal (M := Orc.fresh false 0) rfl a n ex
  obtain ⟨r, hr⟩ : ∃ r, r = (Orc.fresh false 0).envSeal a n ex := ⟨_, rfl⟩
  rw [← hr] at hown hto hrs ⊢
  clear hr HSE p0 p1 p2 p3 p4 p5 p6 p7 p8
  obtain ⟨⟨q, c⟩, M2⟩ := r
  simp only at hown hto hrs ⊢
  obtain ⟨rfl, hcl⟩ := hrs
  obtain ⟨va, vc, rfl, -⟩ := ownsRow_rd hown
  have HOWN := hid hown
  have HTO := hid hto
  have HVN := hid hvn
  have HX3 : Hid (Ext w0 w3) := hid (HX2.out.kp hto.kp HF.out)
  clear hown hto hvn
  go_upto_region 7 with fail
  obtain ⟨R, hR⟩ : ∃ R, R = w3.heap.size := ⟨_, rfl⟩
  obtain ⟨w4, hw4⟩ : ∃ w4, w4 = w3.alloc q.o := ⟨_, rfl⟩
  have hx4 : Ext w3 w4 := by rw [hw4]; exact (Ext.refl w3).alloc _
  have hb4 : w4.heap[R]? = some q.o := by rw [hw4, hR]; exact heap_new _ _
  rw [← hw4, ← hR]
  have HX4 := hid hx4
  have HB4 := hid hb4
  have HRN : Hid (R = w3.heap.size ∧ R < w4.heap.size) := hid ⟨hR, heap_lt hb4⟩
  clear hw4 hx4 hb4 hR
  obtain ⟨i0, hi1, hz0, hz1, hz2⟩ := info_parts Try.infoU
  have HI1 := hid (And.intro hi1 (And.intro hz0 (And.intro hz1 hz2)))
  have hx0 := (Ext.refl w4).alloc (.cells #[] 28)
  have HX40 := hid hx0
  have HOW : Hid ((w4.alloc (.cells #[] 28)).ownsRow 0 28 1 (.slice (some ⟨w4.heap.size, 0, none⟩) 0 0) 0 []) := hid ⟨rfl, .inr ⟨w4.heap.size, 0, #[], rfl, Nat.zero_le _, heap_new _ _, Nat.le_refl _, Nat.zero_le _, rfl, rfl⟩⟩
  have HR1 : Hid (RdU' (w4.alloc (.cells #[] 28)) (.slice va c.length vc) c) := hid (OwnU.rdu (ownsRow_ext HOWN.out (HX4.out.trans hx0))).weak
  clear hi1 hz0 hz1 hz2 hx0
  go_wp2_with (at_builtin; refine wpList_app' rfl _ _ 24 rfl 28 i0 (.int .u64 0) 1 8 Try.underlying24 HI1.out.1 HI1.out.2.1 HI1.out.2.2.1 HI1.out.2.2.2 rfl (by decide) _ 0 [] rfl HOW.out _ c.length (us c) rfl HR1.out (by simp) (us_one c) (by unfold maxLen; omega) (by omega) ?_)
  intro v5 w5 hown5 hk5 hb5
  have hu5 : OwnU w5 v5 c := by simpa using hown5
  have hx5 : Ext w4 w5 := HX40.out.kp hk5 (by intro k h; simp [Value.ownBlock] at h; omega)
  have hv5 : ∀ t, blk v5 = some t → w4.heap.size ≤ t := by
    intro t ht
    rcases hb5 with h | h
    · rw [h] at ht; simp [Value.ownBlock] at ht; omega
    · rw [h] at ht; simp at ht; omega
  obtain ⟨da, dc, rfl, -⟩ := ownsRow_rd hu5
  have HX5 := hid hx5
  have HV5 := hid hv5
  have HU5 := hid hu5
  have HCL := hid hcl
  have HCH : Hid (∀ (m : Nat), m < 3 → ∃ y : UInt64, ∀ v, Kp (fun k => some k = blk (.slice da c.length dc)) w5 v → v.cell? ⟨N + 1, m, none⟩ = some (uv y)) := hid fun m hm => by
    have hb := (HX3.out.trans (HX4.out.trans hx5)).heap_some HB1.out
    have hlt := heap_lt (HX3.out.heap_some HB1.out)
    have hne : ∀ k, k = N + 1 → ¬ (some k = blk (.slice da c.length dc)) := fun k h h' => by have := hv5 k h'.symm; have := HX4.out.size; omega
    match m, hm with
    | 0, _ => exact ⟨g0, fun v kk => cell_of (kk.heap_some (hne _ rfl) hb) 0⟩
    | 1, _ => exact ⟨g1, fun v kk => cell_of (kk.heap_some (hne _ rfl) hb) 1⟩
    | 2, _ => exact ⟨g2, fun v kk => cell_of (kk.heap_some (hne _ rfl) hb) 2⟩
  clear hown5 hk5 hb5 hu5 hx5 hv5 HOW HR1 HX40
  go_wp2_with fail
  go_loopw [39] (fun iv wr => ∃ (i : Nat) (l : List UInt64), i ≤ c.length ∧ iv = .int .i64 i ∧ Hid (l.length = c.length ∧ OwnU wr (.slice da c.length dc) l ∧ Kp (fun k => some k = blk (.slice da c.length dc)) w5 wr)) (fun iv _ => c.length - (intOf iv).toNat)
  case atStart => exact ⟨0, c, by omega, rfl, hid ⟨rfl, HU5.out, Kp.refl _ _⟩⟩
  case round =>
    obtain ⟨i, l, hi, rfl, HL⟩ := hrel
    by_cases hlt : i < c.length
    · have hltB : decide ((i : Int) < (c.length : Int)) = true := by simp; omega
      obtain ⟨x, hx⟩ : ∃ x, l[i]? = some x := ⟨_, List.getElem?_eq_getElem (by rw [HL.out.1]; exact hlt)⟩
      have hown := HL.out.2.1
      obtain ⟨g, rfl, hcx, hfr, -⟩ := ownU_set hown hx
      obtain ⟨g', he, -, -, hset⟩ := ownU_set (ownsRow_ext hown (Ext.refl wr).drew : OwnU wr.drew _ l) hx
      injection he with he
      injection he with he
      subst he
      obtain ⟨m, hm⟩ : ∃ m, m = i % 3 := ⟨_, rfl⟩
      obtain ⟨y, hy⟩ := HCH.out m (by omega)
      have htm : ((i : Int)).tmod 3 = (m : Int) := by rw [Int.tmod_eq_emod_of_nonneg (by omega)]; omega
      have htm2 : (i : Int) % 3 = (m : Int) := by omega
      have hwr : IntKind.u64.wrap ((x.toNat : Int) + (y.toNat : Int)) = ((x + y).toNat : Int) := by
        rw [UInt64.toNat_add]; simp [IntKind.wrap, IntKind.bits, IntKind.signed]
      have H2 : Hid (∀ v, Ext wr v → v.cell? ⟨g, i, none⟩ = some (uv x) ∧ v.cell? ⟨N + 1, m, none⟩ = some (uv y)) := hid fun v k => ⟨k.cell_some hcx, hy v (HL.out.2.2.ext k)⟩
      have HFR := hid (And.intro hfr hset)
      have hi0 : (0 : Int) ≤ (i : Int) := by omega
      have him : (m : Int) < 3 := by omega
      have hm0 : (0 : Int) ≤ (m : Int) := by omega
      clear hx hown hcx hfr hset hy hm htm2
      go_wp2_with fail
      refine wp_region_T (fun v => (v.cell? ⟨g, i, none⟩ = some (uv x) ∧ v.cell? ⟨N + 1, m, none⟩ = some (uv y)) ∧ Ext wr v) 8 [(0, true), (1, true), (2, true), (3, true), (4, true), (5, true), (6, true), (7, true), (8, false), (9, false), (10, false)] (by kernel_rfl) (by kernel_rfl) (by intro c a d v w h; cases d <;> exact h) ?_
      intro ops hops
      have HS := keep0 H2.out
      iterate 8
        refine wpT_take (v := ?_) (by rw [hops, List.getElem?_toArray]; rfl) (by first | rfl | (rw [hops]; rfl)) ?_ HS ?_
        rotate_left
        · intro v h; go_simp; with_reducible rfl
        simp only [Act.put, List.getElem_toArray, List.getElem_cons_zero, List.getElem_cons_succ, List.setIfInBounds_toArray, List.set_cons_zero, List.set_cons_succ]
      have kc := HS.1.1
      have kf : ∀ o, wr.drew.frozen? ⟨g, o, none⟩ = false := HFR.out.1
      refine wpT_step (by rw [hops, List.getElem?_toArray]; rfl) (by first | rfl | (rw [hops]; rfl)) ?_
      intro K hK
      go_wp2_with fail
      try (with_reducible refine ⟨fun h => absurd h (by decide), ?_⟩)
      try rw [← hops]
      refine wpT_step (by rw [hops, List.getElem?_toArray]; rfl) (by first | rfl | (rw [hops]; rfl)) ?_
      intro K hK
      go_wp2_with fail
      try (with_reducible refine ⟨fun h => absurd h (by decide), ?_⟩)
      try rw [← hops]
      refine wpT_step (by rw [hops, List.getElem?_toArray]; rfl) (by first | rfl | (rw [hops]; rfl)) ?_
      intro K hK
      go_wp2_with fail
      try (with_reducible refine ⟨fun h => absurd h (by decide), ?_⟩)
      try rw [wpT_nil]
      try clear hops ops
      clear HS kc kf
      go_wp2_with fail
      go_roundw
      case rel => exact ⟨i + 1, l.set i (x + y), by omega, by go_num, hid ⟨by rw [List.length_set]; exact HL.out.1, HFR.out.2 _, (HL.out.2.2.drew).setCell (p := ⟨g, i, none⟩) (.inl rfl) _⟩⟩
      case measure => simp [intOf]; omega
    · obtain rfl : i = c.length := by omega
      have hltB : decide ((c.length : Int) < (c.length : Int)) = false := by simp
      have hdk : ∀ k, some k = blk (.slice da c.length dc) → w4.heap.size ≤ k := fun k h => HV5.out k h.symm
      have HKP : Hid (Kp (fun k => some k = blk (.slice da c.length dc)) w5 wr) := hid HL.out.2.2
      have HX34 := hid (HX4.out.trans HX5.out)
      have HX4W : Hid (Ext w4 wr) := hid (HX5.out.kp HL.out.2.2 hdk)
      have hat := HTO.out.at'.ext (HX4.out.trans HX4W.out)
      have hcr : RdU wr (.slice va c.length vc) c := OwnU.rdu (ownsRow_ext HOWN.out (HX4.out.trans HX4W.out))
      have hlr := OwnU.rdu HL.out.2.1
      have HAT2 := hid hat
      have HLR := hid hlr
      have HLL := hid HL.out.1
      obtain ⟨r1, hr1⟩ : ∃ r1, r1 = (Orc.fresh false 0).envOpen view q c := ⟨_, rfl⟩
      obtain ⟨r2, hr2⟩ : ∃ r2, r2 = (Orc.fresh false 0).envOpen view q l := ⟨_, rfl⟩
      have HO1 := hid (envOpen_any (view := view) (commit := 0) (pt := q) hat hcr (by omega) (by intro s hs; cases hs))
      have HO2 : Hid (∀ v, Ext wr v → Calls Try.prog 42 #[.pointer (some ⟨b, 0, none⟩), uv view, .agg #[.int .u64 0, uv q.a, uv q.b, .slice da c.length dc]] v fun e w' => e = .returned (r3 r2) ∧ Ext v w') := hid fun v k => by
        rw [hr2]
        exact envOpen_any (view := view) (commit := 0) (pt := q) (HAT2.out.ext k) (by have := HLR.out.ext k; exact this) (by rw [HLL.out]; have := HCL.out; omega) (by intro s hs; cases hs)
      rw [← hr1] at HO1
      have HONE : Hid (∀ a b, r1 = (a, b, true) → r2 = (a, b, true) → c = l) := hid fun a b h1 h2 => real_one (M := Orc.fresh false 0) rfl (hr1.symm.trans h1) (hr2.symm.trans h2)
      have HCR := hid hcr
      obtain ⟨k0, k1⟩ := two_cells (HX4W.out.heap_some HB4.out)
      clear hr1 hr2 hat hcr hlr hdk hi hlt
      go_wp2_with fail
      refine (HO1.out).mono ?_
      rintro e w6 ⟨rfl, hx6⟩
      have HX6 := hid hx6
      clear hx6 HO1 k0 k1
      obtain ⟨a1, b1, o1⟩ := r1
      obtain ⟨a2, b2, o2⟩ := r2
      unfold r3 at HO2 ⊢
      simp only at HO2 ⊢
      obtain ⟨k0, k1⟩ := two_cells ((HX4W.out.trans HX6.out).heap_some HB4.out)
      go_wp2_with fail
      refine (HO2.out _ HX6.out).mono ?_
      rintro e w7 ⟨rfl, hx7⟩
      have HX7 := hid (HX6.out.trans hx7)
      have HXF := hid (HX0.out.trans (HX3.out.trans (HX4.out.trans (HX4W.out.trans HX7.out))))
      clear hx7 HO2 k0 k1
      cases o1 with
      | false => go_wp2_with fail; go_ret; exact ⟨rfl, HXF.out⟩
      | true =>
        cases o2 with
        | false => go_wp2_with fail; go_ret; exact ⟨rfl, HXF.out⟩
        | true =>
          by_cases ha : a1 = a2
          case neg =>
            have hne : ((a1.toNat : Int) != (a2.toNat : Int)) = true := by
              have : a1.toNat ≠ a2.toNat := fun h => ha (UInt64.toNat_inj.1 h)
              simp; omega
            clear ha
            go_wp2_with fail
            go_ret
            exact ⟨rfl, HXF.out⟩
          subst ha
          have hee : ((a1.toNat : Int) != (a1.toNat : Int)) = false := by simp
          by_cases hb : b1 = b2
          case neg =>
            have hne : ((b1.toNat : Int) != (b2.toNat : Int)) = true := by
              have : b1.toNat ≠ b2.toNat := fun h => hb (UInt64.toNat_inj.1 h)
              simp; omega
            clear hb
            go_wp2_with fail
            go_ret
            exact ⟨rfl, HXF.out⟩
          subst hb
          have hef : ((b1.toNat : Int) != (b1.toNat : Int)) = false := by simp
          have hcl2 := HONE.out a1 b1 rfl rfl
          subst hcl2
          have HSM := hid (Same35_any _ _ c c w7 (HCR.out.ext HX7.out).weak (HLR.out.ext HX7.out).weak (by have := HCL.out; omega) (by have := HCL.out; omega))
          rw [show (c == c) = true by simp] at HSM
          clear HONE
          go_wp2_with fail
          refine (HSM.out).mono ?_
          rintro e w8 ⟨rfl, hx8⟩
          have HX8 := hid (HXF.out.trans hx8)
          clear hx8
          go_wp2_with fail
          go_ret
          exact ⟨rfl, HX8.out⟩
end Go.Proofs.Ytdpgfjnpcjpdpaa
