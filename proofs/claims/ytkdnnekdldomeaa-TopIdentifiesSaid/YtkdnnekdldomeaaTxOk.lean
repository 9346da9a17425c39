/- Validity of transactions: slices.Contains, tx.validMarks, validOuts, validAmounts, Valid. -/
import Derived.Test.YtkdnnekdldomeaaTxMem
import Derived.Test.YtkdnnekdldomeaaPt
set_option linter.unusedSimpArgs false
namespace Go.Proofs.Ytkdnnekdldomeaa
open Go.RowKit
attribute [local irreducible] perm fAdd fMul fPow fSub fNeg fRed hashU
def IdxO (w : World) (l : List UInt64) (x : UInt64) (e : Ending) (w' : World) : Prop := (∃ r : Int, e = .returned (.int .i64 r) ∧ decide (0 ≤ r) = l.contains x) ∧ Ext w w'
set_option maxRecDepth 100000 in
set_option maxHeartbeats 800000 in
theorem Index_any (v : Value) (l : List UInt64) (x : UInt64) (w : World) (h : RdU' w v l) (hL : l.length ≤ 10000000000) :
    Calls Try.prog 71 #[v, uv x] w (IdxO w l x) := by
  obtain ⟨a, c, rfl, -⟩ := id h
  have HX := hid h
  have hL1 : (l.length : Int) ≤ 10000000000 := by omega
  clear h
  go_enter Try.func71, Try.ntmps71
  go_wp2_with fail
  go_loop [8] (fun iv => ∃ i : Nat, i ≤ l.length ∧ iv = .int .i64 i ∧ Hid ((l.take i).contains x = false)) (fun iv => l.length - (intOf iv).toNat)
  case atStart => exact ⟨0, by omega, rfl, hid rfl⟩
  case round =>
    obtain ⟨i, hi, rfl, HI⟩ := hrel
    by_cases hlt : i < l.length
    · have hltB : decide ((i : Int) < (l.length : Int)) = true := by simp; omega
      obtain ⟨y, hy⟩ : ∃ y, l[i]? = some y := ⟨_, List.getElem?_eq_getElem hlt⟩
      obtain ⟨b, o, rfl, hc⟩ := HX.out.uat hy
      have hi0 : (0 : Int) ≤ (i : Int) := Int.natCast_nonneg _
      have hil : (i : Int) < (l.length : Int) := by omega
      have HTK : Hid (l.take (i + 1) = l.take i ++ [y]) := hid (by rw [List.take_add_one, hy]; rfl)
      by_cases hxy : x = y
      · subst hxy
        have he : ((x.toNat : Int) == (x.toNat : Int)) = true := by simp
        have HR : Hid (decide ((0 : Int) ≤ (i : Int)) = l.contains x) := hid (by
          have h1 : l.contains x = true := by rw [List.contains_iff_mem]; exact List.mem_of_getElem? hy
          rw [h1]; simp)
        clear hy
        go_wp2_with fail
        go_ret
        exact ⟨⟨_, rfl, HR.out⟩, Ext.refl _⟩
      · have he : ((x.toNat : Int) == (y.toNat : Int)) = false := by
          have : x.toNat ≠ y.toNat := fun h => hxy (UInt64.toNat_inj.1 h)
          simp; omega
        have HN : Hid ((l.take (i + 1)).contains x = false) := hid (by
          rw [HTK.out]
          have := HI.out
          rw [List.contains_eq_mem] at this ⊢
          simp at this ⊢
          exact ⟨this, hxy⟩)
        clear hy hxy
        go_wp2_with fail
        go_round
        case rel => exact ⟨i + 1, by omega, by go_num, HN⟩
        case measure => simp [intOf]; omega
    · have hie : i = l.length := by omega
      subst hie
      have hltB : decide ((l.length : Int) < (l.length : Int)) = false := by simp
      have HR : Hid (decide ((0 : Int) ≤ -1) = l.contains x) := hid (by
        have := HI.out
        rw [List.take_length] at this
        rw [this]; rfl)
      go_wp2_with fail
      go_ret
      exact ⟨⟨_, rfl, HR.out⟩, Ext.refl _⟩
set_option maxHeartbeats 800000 in
theorem Contains_any (v : Value) (l : List UInt64) (x : UInt64) (w : World) (h : RdU' w v l) (hL : l.length ≤ 10000000000) :
    Calls Try.prog 64 #[v, uv x] w fun e w' => e = .returned (.bool (l.contains x)) ∧ Ext w w' := by
  have HI := hid (Index_any v l x w h hL)
  obtain ⟨a, c, rfl, -⟩ := h
  obtain ⟨cb, hcb⟩ : ∃ cb, cb = l.contains x := ⟨_, rfl⟩
  rw [← hcb]
  have HCB := hid hcb
  clear hL hcb
  go_enter Try.func64, Try.ntmps64
  go_wp2_with fail
  refine (HI.out).mono ?_
  rintro e w1 ⟨⟨r, rfl, hr⟩, hx⟩
  have HX := hid hx
  have HR := hid hr
  clear hx HI hr
  go_wp2_with fail
  go_ret
  exact ⟨ret_bool (HR.out.trans HCB.out.symm), HX.out⟩
theorem RdC'.heads {w : World} {b o n c : Nat} {l : List UInt64} (h : RdU' w (.slice (some ⟨b, o, none⟩) l.length c) l) (hn : n ≤ l.length) : RdU' w (.slice (some ⟨b, o, none⟩) n c) (l.take n) := by
  obtain ⟨a', c', he, h2, h3, h4, h5⟩ := h
  injection he with e1 e2 e3
  subst e1 e3
  have hl : (l.take n).length = n := List.length_take_of_le hn
  refine ⟨_, c, by rw [hl], by omega, h3, (fun h => by cases h), fun ad ha j u hu => ?_⟩
  have hj : j < n := by
    have := (List.getElem?_eq_some_iff.1 hu).1
    rw [List.length_map, hl] at this
    exact this
  refine h5 ad ha j u ?_
  rw [List.getElem?_map, List.getElem?_take_of_lt hj] at hu
  rw [List.getElem?_map]; exact hu
def marksOk (l : List UInt64) : Bool := decide (l.length ≤ 4) && (allE l && decide l.Nodup)
theorem nodup_snoc {l : List UInt64} {i : Nat} {x : UInt64} (hx : l[i]? = some x) : (l.take (i + 1)).Nodup ↔ (l.take i).Nodup ∧ (l.take i).contains x = false := by
  rw [List.take_add_one, hx, Option.toList_some, List.nodup_append]
  rw [List.contains_eq_mem]
  simp
  intro _
  constructor
  · intro h hm; exact h x hm rfl
  · intro h a ha he; subst he; exact h ha
theorem nodup_take {l : List UInt64} (i : Nat) (h : l.Nodup) : (l.take i).Nodup := List.Nodup.sublist (List.take_sublist i l) h
set_option maxRecDepth 100000 in
set_option maxHeartbeats 1600000 in
theorem validMarks_any (v : Value) (l : List UInt64) (w : World) (h : RdU' w v l) (hL : l.length ≤ 1000) :
    Calls Try.prog 55 #[v] w fun e w' => e = .returned (.bool (marksOk l)) ∧ Ext w w' := by
  obtain ⟨a, c, rfl, -⟩ := id h
  have HX := hid h
  have hL1 : (l.length : Int) ≤ 1000 := by omega
  obtain ⟨res, hres⟩ : ∃ res, res = marksOk l := ⟨_, rfl⟩
  rw [← hres]
  have HR := hid hres
  clear h hres
  go_enter Try.func55, Try.ntmps55
  by_cases h4 : l.length ≤ 4
  case neg =>
    have h4B : decide ((4 : Int) < (l.length : Int)) = true := by simp; omega
    have hr : res = false := by rw [HR.out]; unfold marksOk; rw [show decide (l.length ≤ 4) = false by simpa using h4, Bool.false_and]
    subst hr
    clear h4
    go_wp2_with fail
    go_ret
    exact ⟨rfl, Ext.refl _⟩
  have h4B : decide ((4 : Int) < (l.length : Int)) = false := by simp; omega
  have HR2 : Hid (res = (allE l && decide l.Nodup)) := hid (by rw [HR.out]; unfold marksOk; rw [show decide (l.length ≤ 4) = true by simpa using h4, Bool.true_and])
  clear HR h4
  go_wp2_with fail
  go_loopw [10] (fun iv wr => ∃ i : Nat, i ≤ l.length ∧ iv = .int .i64 i ∧ Hid ((l.take i).all (fun x => decide (x < big)) = true ∧ (l.take i).Nodup) ∧ Hid (Ext w wr)) (fun iv _ => l.length - (intOf iv).toNat)
  case atStart => exact ⟨0, by omega, rfl, hid ⟨rfl, by simp⟩, hid (Ext.refl _)⟩
  case round =>
    obtain ⟨i, hi, rfl, HI, HXR⟩ := hrel
    by_cases hlt : i < l.length
    · have hltB : decide ((i : Int) < (l.length : Int)) = true := by simp; omega
      obtain ⟨y, hy⟩ : ∃ y, l[i]? = some y := ⟨_, List.getElem?_eq_getElem hlt⟩
      obtain ⟨b, o, rfl, hc⟩ := (HX.out.ext HXR.out).uat hy
      have hi0 : (0 : Int) ≤ (i : Int) := Int.natCast_nonneg _
      have hil : (i : Int) < (l.length : Int) := by omega
      have HY := hid hy
      clear hy
      by_cases hb : y < big
      case neg =>
        have hd : decide ((18446744069414584321 : Int) ≤ (y.toNat : Int)) = true := by
          have h9 : ¬ (y.toNat : Int) < 18446744069414584321 := fun h => hb ((lt_big_iff y).2 h)
          simp; omega
        have hr : res = false := by rw [HR2.out, allE_bad HY.out hb, Bool.false_and]
        subst hr
        clear hb
        go_wp2_with fail
        go_ret
        exact ⟨rfl, HXR.out⟩
      have hd : decide ((18446744069414584321 : Int) ≤ (y.toNat : Int)) = false := by
        have := (lt_big_iff y).1 hb
        simp; omega
      have HA := hid (allE_snoc HY.out HI.out.1 hb)
      have hcc : l.length ≤ c ∧ c ≤ maxLen := by
        obtain ⟨a', c', he, h3, h4, -⟩ := HX.out
        injection he with e1 e2 e3
        subst e3
        exact ⟨h3, h4⟩
      have hlc : (i : Int) ≤ (c : Int) := by omega
      have hlcN : i ≤ c := by omega
      have HP := hid (Contains_any _ (l.take i) y wr ((HX.out.ext HXR.out).heads (n := i) (by omega)) (by rw [List.length_take]; omega))
      obtain ⟨cb, hcb⟩ : ∃ cb, cb = (l.take i).contains y := ⟨_, rfl⟩
      rw [← hcb] at HP
      have HCB := hid hcb
      clear hb hcc hcb
      go_wp2_with fail
      refine (HP.out).mono ?_
      rintro e w2 ⟨rfl, hx⟩
      have HX2 := hid (HXR.out.trans hx)
      clear hx hc HP
      cases cb with
      | true =>
        have hr : res = false := by
          rw [HR2.out]
          have : decide l.Nodup = false := by
            rw [decide_eq_false_iff_not]
            intro hn
            have := ((nodup_snoc HY.out).1 (nodup_take (i + 1) hn)).2
            rw [← HCB.out] at this
            cases this
          rw [this, Bool.and_false]
        subst hr
        go_wp2_with fail
        go_ret
        exact ⟨rfl, HX2.out⟩
      | false =>
        go_wp2_with fail
        go_roundw
        case rel => exact ⟨i + 1, by omega, by go_num, hid ⟨HA.out, (nodup_snoc HY.out).2 ⟨HI.out.2, HCB.out.symm⟩⟩, HX2⟩
        case measure => simp [intOf]; omega
    · have hie : i = l.length := by omega
      subst hie
      have hltB : decide ((l.length : Int) < (l.length : Int)) = false := by simp
      have hr : res = true := by
        have h1 := HI.out
        rw [List.take_length] at h1
        rw [HR2.out]
        unfold allE
        rw [h1.1, Bool.true_and]
        simpa using h1.2
      subst hr
      go_wp2_with fail
      go_ret
      exact ⟨rfl, HXR.out⟩
def outsOk (l : List OutT) : Bool := decide (l.length ≤ 4) && l.all outOk
theorem all_snoc {α : Type} {p : α → Bool} {l : List α} {i : Nat} {x : α} (hx : l[i]? = some x) (h : (l.take i).all p = true) (hp : p x = true) : (l.take (i + 1)).all p = true := by
  rw [List.take_add_one, hx]; simp only [List.all_append, h, Option.toList_some, List.all_cons, hp, List.all_nil, Bool.and_true, Bool.true_and]
theorem all_bad {α : Type} {p : α → Bool} {l : List α} {i : Nat} {x : α} (hx : l[i]? = some x) (hp : p x = false) : l.all p = false := by
  rw [List.all_eq_false]; exact ⟨x, List.mem_of_getElem? hx, by rw [hp]; simp⟩
set_option maxRecDepth 100000 in
set_option maxHeartbeats 3200000 in
theorem validOuts_any (v : Value) (l : List OutT) (w : World) (h : RdOs w v l) (hL : l.length ≤ 1000) (hC : ∀ o ∈ l, o.cipher.length ≤ 1000) :
    Calls Try.prog 56 #[v] w fun e w' => e = .returned (.bool (outsOk l)) ∧ Ext w w' := by
  obtain ⟨a, c, rfl, -⟩ := h.shape
  have HX := hid h
  have HC := hid hC
  have hL1 : (l.length : Int) ≤ 1000 := by omega
  obtain ⟨res, hres⟩ : ∃ res, res = outsOk l := ⟨_, rfl⟩
  rw [← hres]
  have HR := hid hres
  clear h hC hres
  go_enter Try.func56, Try.ntmps56
  by_cases h4 : l.length ≤ 4
  case neg =>
    have h4B : decide ((4 : Int) < (l.length : Int)) = true := by simp; omega
    have hr : res = false := by rw [HR.out]; unfold outsOk; rw [show decide (l.length ≤ 4) = false by simpa using h4, Bool.false_and]
    subst hr
    clear h4
    go_wp2_with fail
    go_ret
    exact ⟨rfl, Ext.refl _⟩
  have h4B : decide ((4 : Int) < (l.length : Int)) = false := by simp; omega
  have HR2 : Hid (res = l.all outOk) := hid (by rw [HR.out]; unfold outsOk; rw [show decide (l.length ≤ 4) = true by simpa using h4, Bool.true_and])
  clear HR h4
  go_wp2_with fail
  go_loopw [12] (fun iv wr => ∃ i : Nat, i ≤ l.length ∧ iv = .int .i64 i ∧ Hid ((l.take i).all outOk = true) ∧ Hid (Ext w wr)) (fun iv _ => l.length - (intOf iv).toNat)
  case atStart => exact ⟨0, by omega, rfl, hid rfl, hid (Ext.refl _)⟩
  case round =>
    obtain ⟨i, hi, rfl, HI, HXR⟩ := hrel
    by_cases hlt : i < l.length
    · have hltB : decide ((i : Int) < (l.length : Int)) = true := by simp; omega
      obtain ⟨x, hxi⟩ : ∃ x, l[i]? = some x := ⟨_, List.getElem?_eq_getElem hlt⟩
      obtain ⟨b, q, ca, cc, rfl, e0, e1, e2, e3, hrc⟩ := (HX.out.ext HXR.out).at hxi
      have hi0 : (0 : Int) ≤ (i : Int) := Int.natCast_nonneg _
      have hil : (i : Int) < (l.length : Int) := by omega
      have HXI := hid hxi
      have HCL : Hid (x.cipher.length ≤ 1000) := hid (HC.out x (List.mem_of_getElem? hxi))
      clear hxi
      go_upto_region 6 with fail
      clear e0 e1 e2 e3
      obtain ⟨P, hP⟩ : ∃ P, P = wr.heap.size := ⟨_, rfl⟩
      obtain ⟨w1, hw1⟩ : ∃ w1, w1 = wr.alloc (.cells #[uv x.commit, uv x.p.a, uv x.p.b, .slice ca x.cipher.length cc] 64) := ⟨_, rfl⟩
      have hx1 : Ext wr w1 := by rw [hw1]; exact (Ext.refl wr).alloc _
      have hb1 : w1.heap[P]? = some (.cells #[uv x.commit, uv x.p.a, uv x.p.b, .slice ca x.cipher.length cc] 64 (0, 0)) := by rw [hw1, hP]; exact heap_new _ _
      rw [← hw1, ← hP]
      obtain ⟨o0, o1, o2, o3⟩ := four_cellsO hb1
      have HX1 := hid hx1
      have HB1 := hid hb1
      have HRC := hid hrc
      have HV := hid (pValid_any x.p)
      obtain ⟨ok, hok⟩ : ∃ ok, ok = outOk x := ⟨_, rfl⟩
      have HOK := hid hok
      clear hw1 hx1 hb1 hP hrc hok
      by_cases hb : x.commit < big
      case neg =>
        have hd : decide ((18446744069414584321 : Int) ≤ (x.commit.toNat : Int)) = true := by
          have h9 : ¬ (x.commit.toNat : Int) < 18446744069414584321 := fun h => hb ((lt_big_iff _).2 h)
          simp; omega
        have hr : res = false := by
          rw [HR2.out]
          refine all_bad HXI.out ?_
          unfold outOk
          rw [show decide (x.commit < big) = false by simpa using hb]; rfl
        subst hr
        clear hb
        go_wp2_with fail
        go_ret
        exact ⟨rfl, HXR.out.trans HX1.out⟩
      have hd : decide ((18446744069414584321 : Int) ≤ (x.commit.toNat : Int)) = false := by
        have := (lt_big_iff _).1 hb
        simp; omega
      have HO1 : Hid (outOk x = (validP x.p && decide (x.cipher.length = 3) && allE x.cipher)) := hid (by
        unfold outOk
        rw [show decide (x.commit < big) = true by simpa using hb, Bool.true_and])
      clear hb
      go_wp2_with fail
      refine (HV.out _).mono ?_
      rintro e w2 ⟨rfl, hx⟩
      have HX2 := hid (HX1.out.trans hx)
      obtain ⟨p0, p1, p2, p3⟩ := four_cellsO (hx.heap_some HB1.out)
      clear hx o0 o1 o2 o3 HV
      obtain ⟨vp, hvp⟩ : ∃ vp, vp = validP x.p := ⟨_, rfl⟩
      rw [← hvp] at HO1 ⊢
      clear hvp
      cases vp with
      | false =>
        have hr : res = false := by rw [HR2.out]; exact all_bad HXI.out (by rw [HO1.out]; rfl)
        subst hr
        go_wp2_with fail
        go_ret
        exact ⟨rfl, HXR.out.trans HX2.out⟩
      | true =>
        by_cases h3 : x.cipher.length = 3
        case neg =>
          have h3B : ((x.cipher.length : Int) != 3) = true := by simp; omega
          have hr : res = false := by rw [HR2.out]; exact all_bad HXI.out (by rw [HO1.out, show decide (x.cipher.length = 3) = false by simpa using h3]; rfl)
          subst hr
          clear h3
          go_wp2_with fail
          go_ret
          exact ⟨rfl, HXR.out.trans HX2.out⟩
        have h3B : ((x.cipher.length : Int) != 3) = false := by simp; omega
        have HO2 : Hid (outOk x = allE x.cipher) := hid (by rw [HO1.out, show decide (x.cipher.length = 3) = true by simpa using h3]; simp)
        obtain ⟨L, hL3⟩ : ∃ L, L = x.cipher.length := ⟨_, rfl⟩
        rw [← hL3] at h3B p3 ⊢
        have HL3 := hid hL3
        have hLB : (L : Int) ≤ 1000 := by have := HCL.out; omega
        clear h3 hL3
        go_wp2_with fail
        go_loop [34] (fun jv => ∃ j : Nat, j ≤ L ∧ jv = .int .i64 j ∧ Hid ((x.cipher.take j).all (fun x => decide (x < big)) = true)) (fun jv => L - (intOf jv).toNat)
        case atStart => exact ⟨0, by omega, rfl, hid rfl⟩
        case round =>
          obtain ⟨j, hj, rfl, HJ⟩ := hrel
          by_cases hlj : j < L
          · have hljB : decide ((j : Int) < (L : Int)) = true := by simp; omega
            obtain ⟨y, hy⟩ : ∃ y, x.cipher[j]? = some y := ⟨_, List.getElem?_eq_getElem (by have := HL3.out; omega)⟩
            obtain ⟨b', o', rfl, hc⟩ := ((HRC.out.ext HX2.out)).uat hy
            have hj0 : (0 : Int) ≤ (j : Int) := Int.natCast_nonneg _
            have hjl : (j : Int) < (L : Int) := by omega
            have HY := hid hy
            clear hy
            by_cases hb : y < big
            · have hd' : decide ((18446744069414584321 : Int) ≤ (y.toNat : Int)) = false := by
                have := (lt_big_iff _).1 hb
                simp; omega
              have HA := hid (allE_snoc HY.out HJ.out hb)
              clear hb
              go_wp2_with fail
              go_round
              case rel => exact ⟨j + 1, by omega, by go_num, HA⟩
              case measure => simp [intOf]; omega
            · have hd' : decide ((18446744069414584321 : Int) ≤ (y.toNat : Int)) = true := by
                have h9 : ¬ (y.toNat : Int) < 18446744069414584321 := fun h => hb ((lt_big_iff _).2 h)
                simp; omega
              have hr : res = false := by rw [HR2.out]; exact all_bad HXI.out (by rw [HO2.out]; exact allE_bad HY.out hb)
              subst hr
              clear hb
              go_wp2_with fail
              go_ret
              exact ⟨rfl, HXR.out.trans HX2.out⟩
          · have hje : j = L := by omega
            subst hje
            have hljB : decide ((j : Int) < (j : Int)) = false := by simp
            have HN : Hid ((l.take (i + 1)).all outOk = true) := hid (all_snoc HXI.out HI.out (by
              rw [HO2.out]
              have := HJ.out
              rw [HL3.out, List.take_length] at this
              exact this))
            go_wp2_with fail
            go_roundw
            case rel => exact ⟨i + 1, by omega, by go_num, HN, hid (HXR.out.trans HX2.out)⟩
            case measure => simp [intOf]; omega
    · have hie : i = l.length := by omega
      subst hie
      have hltB : decide ((l.length : Int) < (l.length : Int)) = false := by simp
      have hr : res = true := by
        have h1 := HI.out
        rw [List.take_length] at h1
        rw [HR2.out, h1]
      subst hr
      go_wp2_with fail
      go_ret
      exact ⟨rfl, HXR.out⟩
/-! ## amounts -/
theorem gt_max (x : UInt64) : decide ((4294967295 : Int) < (x.toNat : Int)) = !decide (x.toNat ≤ 4294967295) := by
  by_cases h : x.toNat ≤ 4294967295
  · rw [show decide (x.toNat ≤ 4294967295) = true by simpa using h]; simp; omega
  · rw [show decide (x.toNat ≤ 4294967295) = false by simpa using h]; simp; omega
theorem ge_big (x : UInt64) : decide ((18446744069414584321 : Int) ≤ (x.toNat : Int)) = !decide (x < big) := by
  by_cases h : x < big
  · have h1 := (lt_big_iff x).1 h
    rw [show decide (x < big) = true by simpa using h]; simp; omega
  · have h1 : ¬ (x.toNat : Int) < 18446744069414584321 := fun h' => h ((lt_big_iff x).2 h')
    rw [show decide (x < big) = false by simpa using h]; simp; omega
theorem gt_zero (x : UInt64) : decide ((0 : Int) < (x.toNat : Int)) = decide (0 < x.toNat) := by
  rw [decide_eq_decide]; omega
theorem eq_zero (x : UInt64) : ((x.toNat : Int) == 0) = decide (x.toNat = 0) := by
  by_cases h : x.toNat = 0
  · rw [h]; rfl
  · rw [show decide (x.toNat = 0) = false by simpa using h]; simp; omega
theorem ne_zero' (x : UInt64) : ((x.toNat : Int) != 0) = !decide (x.toNat = 0) := by
  unfold bne; rw [eq_zero]
theorem len_zero {α : Type} (l : List α) : ((l.length : Int) == 0) = !decide (l.length ≠ 0) := by
  cases l with
  | nil => rfl
  | cons x r => simp; omega
theorem ne_nil' {α : Type} [DecidableEq α] (l : List α) : decide (l ≠ []) = decide (l.length ≠ 0) := by
  cases l <;> simp
def amtB (d1 d2 d3 al nl dp wz mn nz wp az : Bool) : Bool := d1 && d2 && d3 && al && nl && (if dp then wz else mn && nz && (wp || az))
theorem amtOk_B (t : TxT) : amtOk t = amtB (decide (t.deposit.toNat ≤ 4294967295)) (decide (t.withdraw.toNat ≤ 4294967295)) (decide (t.fee.toNat ≤ 4294967295)) (decide (t.account < big)) (decide (t.nonce < big))
    (decide (0 < t.deposit.toNat)) (decide (t.withdraw.toNat = 0)) (decide (t.marks.length ≠ 0)) (decide (t.nonce.toNat = 0)) (decide (0 < t.withdraw.toNat)) (decide (t.account.toNat = 0)) := by
  unfold amtOk amtB
  rw [ne_nil']
  by_cases h : 0 < t.deposit.toNat
  · rw [if_pos h, show decide (0 < t.deposit.toNat) = true by simpa using h]; rfl
  · rw [if_neg h, show decide (0 < t.deposit.toNat) = false by simpa using h]; rfl
set_option maxRecDepth 100000 in
set_option maxHeartbeats 1600000 in
theorem validAmounts_any (t : TxT) (ma oa pa : Option Addr) (mc oc pc on pn : Nat) (w : World) :
    Calls Try.prog 57 #[txVal t (.slice ma t.marks.length mc) (.slice oa on oc) (.slice pa pn pc)] w fun e w' => e = .returned (.bool (amtOk t)) ∧ Ext w w' := by
  rw [amtOk_B]
  have a1 := gt_max t.deposit
  have a2 := gt_max t.withdraw
  have a3 := gt_max t.fee
  have a4 := ge_big t.account
  have a5 := ge_big t.nonce
  have a6 := gt_zero t.deposit
  have a7 := eq_zero t.withdraw
  have a8 := len_zero t.marks
  have a9 := ne_zero' t.nonce
  have a10 := gt_zero t.withdraw
  have a11 := eq_zero t.account
  generalize decide (t.deposit.toNat ≤ 4294967295) = d1 at *
  generalize decide (t.withdraw.toNat ≤ 4294967295) = d2 at *
  generalize decide (t.fee.toNat ≤ 4294967295) = d3 at *
  generalize decide (t.account < big) = al at *
  generalize decide (t.nonce < big) = nl at *
  obtain ⟨dp, hdp⟩ : ∃ dp, decide (0 < t.deposit.toNat) = dp := ⟨_, rfl⟩
  rw [hdp] at a6 ⊢
  generalize decide (t.withdraw.toNat = 0) = wz at *
  generalize decide (t.marks.length ≠ 0) = mn at *
  generalize decide (t.nonce.toNat = 0) = nz at *
  obtain ⟨wp, hwp⟩ : ∃ wp, decide (0 < t.withdraw.toNat) = wp := ⟨_, rfl⟩
  rw [hwp] at a10 ⊢
  generalize decide (t.account.toNat = 0) = az at *
  obtain ⟨R, hR⟩ : ∃ R, R = amtB d1 d2 d3 al nl dp wz mn nz wp az := ⟨_, rfl⟩
  rw [← hR]
  have HR := hid hR
  clear hR
  have HE : Hid (∀ o, Ext w (w.alloc o)) := hid fun o => (Ext.refl w).alloc o
  go_enter Try.func57, Try.ntmps57
  cases d1 with
  | false =>
    have hr : R = false := HR.out
    subst hr
    go_wp2_with fail
    go_ret
    exact ⟨rfl, HE.out _⟩
  | true =>
  cases d2 with
  | false =>
    have hr : R = false := HR.out
    subst hr
    go_wp2_with fail
    go_ret
    exact ⟨rfl, HE.out _⟩
  | true =>
  cases d3 with
  | false =>
    have hr : R = false := HR.out
    subst hr
    go_wp2_with fail
    go_ret
    exact ⟨rfl, HE.out _⟩
  | true =>
  cases al with
  | false =>
    have hr : R = false := HR.out
    subst hr
    go_wp2_with fail
    go_ret
    exact ⟨rfl, HE.out _⟩
  | true =>
  cases nl with
  | false =>
    have hr : R = false := HR.out
    subst hr
    go_wp2_with fail
    go_ret
    exact ⟨rfl, HE.out _⟩
  | true =>
  cases dp with
  | true =>
    have hr : R = wz := HR.out
    subst hr
    go_wp2_with fail
    go_ret
    exact ⟨rfl, HE.out _⟩
  | false =>
  cases mn with
  | false =>
    have hr : R = false := HR.out
    subst hr
    go_wp2_with fail
    go_ret
    exact ⟨rfl, HE.out _⟩
  | true =>
  cases nz with
  | false =>
    have hr : R = false := HR.out
    subst hr
    go_wp2_with fail
    go_ret
    exact ⟨rfl, HE.out _⟩
  | true =>
  cases wp with
  | true =>
    have hr : R = true := HR.out
    subst hr
    go_wp2_with fail
    go_ret
    exact ⟨rfl, HE.out _⟩
  | false =>
    have hr : R = az := HR.out
    subst hr
    go_wp2_with fail
    go_ret
    exact ⟨rfl, HE.out _⟩
/-! ## tx.Valid -/
theorem txOk_B (t : TxT) : txOk t = (marksOk t.marks && (outsOk t.outs && (amtOk t && (decide (t.anchor < big) && (decide (0 ≤ t.expiry) && decide (t.expiry ≤ 1048576)))))) := by
  unfold txOk marksOk outsOk
  simp only [Bool.and_assoc]
/-- Short enough. -/
structure TSm (t : TxT) : Prop where
  m : t.marks.length ≤ 1000
  o : t.outs.length ≤ 1000
  c : ∀ o ∈ t.outs, o.cipher.length ≤ 1000
  p : t.proof.length ≤ 100000000
set_option maxRecDepth 100000 in
set_option maxHeartbeats 3200000 in
theorem txValid_any (t : TxT) (mv ov pv : Value) (w : World) (h : RdT w t mv ov pv) (hs : TSm t) :
    Calls Try.prog 40 #[txVal t mv ov pv] w fun e w' => e = .returned (.int .i64 (txV t)) ∧ Ext w w' := by
  obtain ⟨ma, mc, oa, oc, pa, pc, rfl, rfl, rfl⟩ := h.shape
  obtain ⟨R, hR⟩ : ∃ R, R = txV t := ⟨_, rfl⟩
  rw [← hR]
  have HR := hid hR
  unfold txV at HR
  rw [txOk_B] at HR
  have HM : Hid (∀ v, Ext w v → Calls Try.prog 55 #[.slice ma t.marks.length mc] v fun e w' => e = .returned (.bool (marksOk t.marks)) ∧ Ext v w') := hid fun v k => validMarks_any _ _ v (h.m.ext k) hs.m
  have HO : Hid (∀ v, Ext w v → Calls Try.prog 56 #[.slice oa t.outs.length oc] v fun e w' => e = .returned (.bool (outsOk t.outs)) ∧ Ext v w') := hid fun v k => validOuts_any _ _ v (h.o.ext k) hs.o hs.c
  have HA : Hid (∀ v, Calls Try.prog 57 #[txVal t (.slice ma t.marks.length mc) (.slice oa t.outs.length oc) (.slice pa t.proof.length pc)] v fun e w' => e = .returned (.bool (amtOk t)) ∧ Ext v w') := hid fun v => validAmounts_any t ma oa pa mc oc pc t.outs.length t.proof.length v
  have a1 := ge_big t.anchor
  have a2 : decide (t.expiry < 0) = !decide (0 ≤ t.expiry) := by
    by_cases h : 0 ≤ t.expiry
    · rw [show decide (0 ≤ t.expiry) = true by simpa using h]; simp; omega
    · rw [show decide (0 ≤ t.expiry) = false by simpa using h]; simp; omega
  have a3 : decide ((1048576 : Int) < t.expiry) = !decide (t.expiry ≤ 1048576) := by
    by_cases h : t.expiry ≤ 1048576
    · rw [show decide (t.expiry ≤ 1048576) = true by simpa using h]; simp; omega
    · rw [show decide (t.expiry ≤ 1048576) = false by simpa using h]; simp; omega
  have a4 : decide ((1048576 : Int) < (t.proof.length : Int)) = !decide (t.proof.length ≤ 1048576) := by
    by_cases h : t.proof.length ≤ 1048576
    · rw [show decide (t.proof.length ≤ 1048576) = true by simpa using h]; simp; omega
    · rw [show decide (t.proof.length ≤ 1048576) = false by simpa using h]; simp; omega
  have hpl : (if t.proof.length ≤ 1048576 then (0 : Int) else 3) = if decide (t.proof.length ≤ 1048576) then 0 else 3 := by
    by_cases h : t.proof.length ≤ 1048576
    · rw [if_pos h, show decide (t.proof.length ≤ 1048576) = true by simpa using h]; rfl
    · rw [if_neg h, show decide (t.proof.length ≤ 1048576) = false by simpa using h]; rfl
  rw [hpl] at HR
  clear hpl h hs hR
  generalize marksOk t.marks = b1 at *
  generalize outsOk t.outs = b2 at *
  generalize amtOk t = b3 at *
  generalize decide (t.anchor < big) = b4 at *
  generalize decide (0 ≤ t.expiry) = b5 at *
  generalize decide (t.expiry ≤ 1048576) = b6 at *
  generalize decide (t.proof.length ≤ 1048576) = b7 at *
  obtain ⟨N, hN⟩ : ∃ N, N = w.heap.size := ⟨_, rfl⟩
  obtain ⟨w0, hw0⟩ : ∃ w0, w0 = w.alloc (.cells #[uv t.anchor, .slice ma t.marks.length mc, .slice oa t.outs.length oc, uv t.deposit, uv t.withdraw, uv t.fee, uv t.account, uv t.nonce, .int .i64 t.expiry, .slice pa t.proof.length pc] 39) := ⟨_, rfl⟩
  have hx0 : Ext w w0 := by rw [hw0]; exact (Ext.refl w).alloc _
  have hb0 : w0.heap[N]? = some (.cells #[uv t.anchor, .slice ma t.marks.length mc, .slice oa t.outs.length oc, uv t.deposit, uv t.withdraw, uv t.fee, uv t.account, uv t.nonce, .int .i64 t.expiry, .slice pa t.proof.length pc] 39 (0, 0)) := by rw [hw0, hN]; exact heap_new _ _
  have HB := hid hb0
  have HW := hid hw0
  have HX0 := hid hx0
  obtain ⟨c0, c1, c2, c3, c4, c5, c6, c7, c8, c9⟩ := ten_cells hb0
  clear hw0 hx0 hb0
  go_enter Try.func40, Try.ntmps40
  go_upto_region 1 with fail
  rw [← HW.out, ← hN]
  clear hN
  go_wp2_with fail
  refine (HM.out _ HX0.out).mono ?_
  rintro e w1 ⟨rfl, hx⟩
  have HX1 := hid hx
  clear hx c0 c1 c2 c3 c4 c5 c6 c7 c8 c9
  cases b1 with
  | false =>
    have hr : R = 1 := HR.out
    subst hr
    go_wp2_with fail
    go_ret
    exact ⟨rfl, HX0.out.trans HX1.out⟩
  | true =>
  obtain ⟨c0, c1, c2, c3, c4, c5, c6, c7, c8, c9⟩ := ten_cells (HX1.out.heap_some HB.out)
  go_wp2_with fail
  refine (HO.out _ (HX0.out.trans HX1.out)).mono ?_
  rintro e w2 ⟨rfl, hx⟩
  have HX2 := hid (HX1.out.trans hx)
  clear hx c0 c1 c2 c3 c4 c5 c6 c7 c8 c9
  cases b2 with
  | false =>
    have hr : R = 1 := HR.out
    subst hr
    go_wp2_with fail
    go_ret
    exact ⟨rfl, HX0.out.trans HX2.out⟩
  | true =>
  obtain ⟨c0, c1, c2, c3, c4, c5, c6, c7, c8, c9⟩ := ten_cells (HX2.out.heap_some HB.out)
  go_wp2_with fail
  refine (HA.out _).mono ?_
  rintro e w3 ⟨rfl, hx⟩
  have HX3 := hid (HX2.out.trans hx)
  clear hx c0 c1 c2 c3 c4 c5 c6 c7 c8 c9 HM HO HA
  cases b3 with
  | false =>
    have hr : R = 1 := HR.out
    subst hr
    go_wp2_with fail
    go_ret
    exact ⟨rfl, HX0.out.trans HX3.out⟩
  | true =>
  obtain ⟨c0, c1, c2, c3, c4, c5, c6, c7, c8, c9⟩ := ten_cells (HX3.out.heap_some HB.out)
  have HXF := hid (HX0.out.trans HX3.out)
  cases b4 with
  | false =>
    have hr : R = 1 := HR.out
    subst hr
    go_wp2_with fail
    go_ret
    exact ⟨rfl, HXF.out⟩
  | true =>
  cases b5 with
  | false =>
    have hr : R = 1 := HR.out
    subst hr
    go_wp2_with fail
    go_ret
    exact ⟨rfl, HXF.out⟩
  | true =>
  cases b6 with
  | false =>
    have hr : R = 1 := HR.out
    subst hr
    go_wp2_with fail
    go_ret
    exact ⟨rfl, HXF.out⟩
  | true =>
  cases b7 with
  | false =>
    have hr : R = 3 := HR.out
    subst hr
    go_wp2_with fail
    go_ret
    exact ⟨rfl, HXF.out⟩
  | true =>
    have hr : R = 0 := HR.out
    subst hr
    go_wp2_with fail
    go_ret
    exact ⟨rfl, HXF.out⟩
end Go.Proofs.Ytkdnnekdldomeaa
