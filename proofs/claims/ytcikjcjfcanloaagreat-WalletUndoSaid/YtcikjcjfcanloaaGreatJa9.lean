/- Texts of this claim, joined: TxOk, Note2, Wal1, Log1, Log2. -/
import Derived.Test.YtcikjcjfcanloaaGreatJa4
import Derived.Test.YtcikjcjfcanloaaGreatJa5
import Derived.Test.YtcikjcjfcanloaaGreatJa8
set_option linter.unusedSimpArgs false
namespace Go.Proofs.YtcikjcjfcanloaaGreat
open Go.RowKit
attribute [local irreducible] perm fAdd fMul fPow fSub fNeg fRed hashU
def IdxO (w : World) (l : List UInt64) (x : UInt64) (e : Ending) (w' : World) : Prop := (∃ r : Int, e = .returned (.int .i64 r) ∧ decide (0 ≤ r) = l.contains x) ∧ Ext w w'
set_option maxRecDepth 100000 in
set_option maxHeartbeats 800000 in
theorem Index_any (v : Value) (l : List UInt64) (x : UInt64) (w : World) (h : RdU' w v l) (hL : l.length ≤ 10000000000) :
    Calls Tryz.prog 139 #[v, uv x] w (IdxO w l x) := by
  obtain ⟨a, c, rfl, -⟩ := id h
  have HX := hid h
  have hL1 : (l.length : Int) ≤ 10000000000 := by omega
  clear h
  go_enter Tryz.func139, Tryz.ntmps139
  go_wp2_with fail
  go_loop [8] (fun iv => ∃ i : Nat, i ≤ l.length ∧ iv = .int .i64 i ∧ Hid ((l.take i).contains x = false)) (fun iv => l.length - (intOf iv).toNat)
  case atStart => exact ⟨0, by omega, rfl, hid rfl⟩
  case round =>
    obtain ⟨i, hi, rfl, HI⟩ := hrel
    by_cases hlt : i < l.length
    · have hltB : decide ((i : Int) < (l.length : Int)) = true := by simp; omega
      obtain ⟨y, hy⟩ : ∃ y, l[i]? = some y := ⟨_, List.getElem?_eq_getElem hlt⟩
      obtain ⟨b, o, rfl, hc⟩ := HX.out.uat hy
      have hi0 : (0 : Int) ≤ (i : Int) := Int.natCast_nonneg _
      have hil : (i : Int) < (l.length : Int) := by omega
      have HTK : Hid (l.take (i + 1) = l.take i ++ [y]) := hid (by rw [List.take_add_one, hy]; rfl)
      by_cases hxy : x = y
      · subst hxy
        have he : ((x.toNat : Int) == (x.toNat : Int)) = true := by simp
        have HR : Hid (decide ((0 : Int) ≤ (i : Int)) = l.contains x) := hid (by
          have h1 : l.contains x = true := by rw [List.contains_iff_mem]; exact List.mem_of_getElem? hy
          rw [h1]; simp)
        clear hy
        go_wp2_with fail
        go_ret
        exact ⟨⟨_, rfl, HR.out⟩, Ext.refl _⟩
      · have he : ((x.toNat : Int) == (y.toNat : Int)) = false := by
          have : x.toNat ≠ y.toNat := fun h => hxy (UInt64.toNat_inj.1 h)
          simp; omega
        have HN : Hid ((l.take (i + 1)).contains x = false) := hid (by
          rw [HTK.out]
          have := HI.out
          rw [List.contains_eq_mem] at this ⊢
          simp at this ⊢
          exact ⟨this, hxy⟩)
        clear hy hxy
        go_wp2_with fail
        go_round
        case rel => exact ⟨i + 1, by omega, by go_num, HN⟩
        case measure => simp [intOf]; omega
    · have hie : i = l.length := by omega
      subst hie
      have hltB : decide ((l.length : Int) < (l.length : Int)) = false := by simp
      have HR : Hid (decide ((0 : Int) ≤ -1) = l.contains x) := hid (by
        have := HI.out
        rw [List.take_length] at this
        rw [this]; rfl)
      go_wp2_with fail
      go_ret
      exact ⟨⟨_, rfl, HR.out⟩, Ext.refl _⟩
set_option maxHeartbeats 800000 in
theorem Contains_any (v : Value) (l : List UInt64) (x : UInt64) (w : World) (h : RdU' w v l) (hL : l.length ≤ 10000000000) :
    Calls Tryz.prog 117 #[v, uv x] w fun e w' => e = .returned (.bool (l.contains x)) ∧ Ext w w' := by
  have HI := hid (Index_any v l x w h hL)
  obtain ⟨a, c, rfl, -⟩ := h
  obtain ⟨cb, hcb⟩ : ∃ cb, cb = l.contains x := ⟨_, rfl⟩
  rw [← hcb]
  have HCB := hid hcb
  clear hL hcb
  go_enter Tryz.func117, Tryz.ntmps117
  go_wp2_with fail
  refine (HI.out).mono ?_
  rintro e w1 ⟨⟨r, rfl, hr⟩, hx⟩
  have HX := hid hx
  have HR := hid hr
  clear hx HI hr
  go_wp2_with fail
  go_ret
  exact ⟨ret_bool (HR.out.trans HCB.out.symm), HX.out⟩
theorem RdC'.heads {w : World} {b o n c : Nat} {l : List UInt64} (h : RdU' w (.slice (some ⟨b, o, none⟩) l.length c) l) (hn : n ≤ l.length) : RdU' w (.slice (some ⟨b, o, none⟩) n c) (l.take n) := by
  obtain ⟨a', c', he, h2, h3, h4, h5⟩ := h
  injection he with e1 e2 e3
  subst e1 e3
  have hl : (l.take n).length = n := List.length_take_of_le hn
  refine ⟨_, c, by rw [hl], by omega, h3, (fun h => by cases h), fun ad ha j u hu => ?_⟩
  have hj : j < n := by
    have := (List.getElem?_eq_some_iff.1 hu).1
    rw [List.length_map, hl] at this
    exact this
  refine h5 ad ha j u ?_
  rw [List.getElem?_map, List.getElem?_take_of_lt hj] at hu
  rw [List.getElem?_map]; exact hu
def marksOk (l : List UInt64) : Bool := decide (l.length ≤ 4) && (allE l && decide l.Nodup)
theorem nodup_snoc {l : List UInt64} {i : Nat} {x : UInt64} (hx : l[i]? = some x) : (l.take (i + 1)).Nodup ↔ (l.take i).Nodup ∧ (l.take i).contains x = false := by
  rw [List.take_add_one, hx, Option.toList_some, List.nodup_append]
  rw [List.contains_eq_mem]
  simp
  intro _
  constructor
  · intro h hm; exact h x hm rfl
  · intro h a ha he; subst he; exact h ha
theorem nodup_take {l : List UInt64} (i : Nat) (h : l.Nodup) : (l.take i).Nodup := List.Nodup.sublist (List.take_sublist i l) h
set_option maxRecDepth 100000 in
set_option maxHeartbeats 1600000 in
theorem validMarks_any (v : Value) (l : List UInt64) (w : World) (h : RdU' w v l) (hL : l.length ≤ 1000) :
    Calls Tryz.prog 135 #[v] w fun e w' => e = .returned (.bool (marksOk l)) ∧ Ext w w' := by
  obtain ⟨a, c, rfl, -⟩ := id h
  have HX := hid h
  have hL1 : (l.length : Int) ≤ 1000 := by omega
  obtain ⟨res, hres⟩ : ∃ res, res = marksOk l := ⟨_, rfl⟩
  rw [← hres]
  have HR := hid hres
  clear h hres
  go_enter Tryz.func135, Tryz.ntmps135
  by_cases h4 : l.length ≤ 4
  case neg =>
    have h4B : decide ((4 : Int) < (l.length : Int)) = true := by simp; omega
    have hr : res = false := by rw [HR.out]; unfold marksOk; rw [show decide (l.length ≤ 4) = false by simpa using h4, Bool.false_and]
    subst hr
    clear h4
    go_wp2_with fail
    go_ret
    exact ⟨rfl, Ext.refl _⟩
  have h4B : decide ((4 : Int) < (l.length : Int)) = false := by simp; omega
  have HR2 : Hid (res = (allE l && decide l.Nodup)) := hid (by rw [HR.out]; unfold marksOk; rw [show decide (l.length ≤ 4) = true by simpa using h4, Bool.true_and])
  clear HR h4
  go_wp2_with fail
  go_loopw [10] (fun iv wr => ∃ i : Nat, i ≤ l.length ∧ iv = .int .i64 i ∧ Hid ((l.take i).all (fun x => decide (x < big)) = true ∧ (l.take i).Nodup) ∧ Hid (Ext w wr)) (fun iv _ => l.length - (intOf iv).toNat)
  case atStart => exact ⟨0, by omega, rfl, hid ⟨rfl, by simp⟩, hid (Ext.refl _)⟩
  case round =>
    obtain ⟨i, hi, rfl, HI, HXR⟩ := hrel
    by_cases hlt : i < l.length
    · have hltB : decide ((i : Int) < (l.length : Int)) = true := by simp; omega
      obtain ⟨y, hy⟩ : ∃ y, l[i]? = some y := ⟨_, List.getElem?_eq_getElem hlt⟩
      obtain ⟨b, o, rfl, hc⟩ := (HX.out.ext HXR.out).uat hy
      have hi0 : (0 : Int) ≤ (i : Int) := Int.natCast_nonneg _
      have hil : (i : Int) < (l.length : Int) := by omega
      have HY := hid hy
      clear hy
      by_cases hb : y < big
      case neg =>
        have hd : decide ((18446744069414584321 : Int) ≤ (y.toNat : Int)) = true := by
          have h9 : ¬ (y.toNat : Int) < 18446744069414584321 := fun h => hb ((lt_big_iff y).2 h)
          simp; omega
        have hr : res = false := by rw [HR2.out, allE_bad HY.out hb, Bool.false_and]
        subst hr
        clear hb
        go_wp2_with fail
        go_ret
        exact ⟨rfl, HXR.out⟩
      have hd : decide ((18446744069414584321 : Int) ≤ (y.toNat : Int)) = false := by
        have := (lt_big_iff y).1 hb
        simp; omega
      have HA := hid (allE_snoc HY.out HI.out.1 hb)
      have hcc : l.length ≤ c ∧ c ≤ maxLen := by
        obtain ⟨a', c', he, h3, h4, -⟩ := HX.out
        injection he with e1 e2 e3
        subst e3
        exact ⟨h3, h4⟩
      have hlc : (i : Int) ≤ (c : Int) := by omega
      have hlcN : i ≤ c := by omega
      have HP := hid (Contains_any _ (l.take i) y wr ((HX.out.ext HXR.out).heads (n := i) (by omega)) (by rw [List.length_take]; omega))
      obtain ⟨cb, hcb⟩ : ∃ cb, cb = (l.take i).contains y := ⟨_, rfl⟩
      rw [← hcb] at HP
      have HCB := hid hcb
      clear hb hcc hcb
      go_wp2_with fail
      refine (HP.out).mono ?_
      rintro e w2 ⟨rfl, hx⟩
      have HX2 := hid (HXR.out.trans hx)
      clear hx hc HP
      cases cb with
      | true =>
        have hr : res = false := by
          rw [HR2.out]
          have : decide l.Nodup = false := by
            rw [decide_eq_false_iff_not]
            intro hn
            have := ((nodup_snoc HY.out).1 (nodup_take (i + 1) hn)).2
            rw [← HCB.out] at this
            cases this
          rw [this, Bool.and_false]
        subst hr
        go_wp2_with fail
        go_ret
        exact ⟨rfl, HX2.out⟩
      | false =>
        go_wp2_with fail
        go_roundw
        case rel => exact ⟨i + 1, by omega, by go_num, hid ⟨HA.out, (nodup_snoc HY.out).2 ⟨HI.out.2, HCB.out.symm⟩⟩, HX2⟩
        case measure => simp [intOf]; omega
    · have hie : i = l.length := by omega
      subst hie
      have hltB : decide ((l.length : Int) < (l.length : Int)) = false := by simp
      have hr : res = true := by
        have h1 := HI.out
        rw [List.take_length] at h1
        rw [HR2.out]
        unfold allE
        rw [h1.1, Bool.true_and]
        simpa using h1.2
      subst hr
      go_wp2_with fail
      go_ret
      exact ⟨rfl, HXR.out⟩
def outsOk (l : List OutT) : Bool := decide (l.length ≤ 4) && l.all outOk
theorem all_snoc {α : Type} {p : α → Bool} {l : List α} {i : Nat} {x : α} (hx : l[i]? = some x) (h : (l.take i).all p = true) (hp : p x = true) : (l.take (i + 1)).all p = true := by
  rw [List.take_add_one, hx]; simp only [List.all_append, h, Option.toList_some, List.all_cons, hp, List.all_nil, Bool.and_true, Bool.true_and]
theorem all_bad {α : Type} {p : α → Bool} {l : List α} {i : Nat} {x : α} (hx : l[i]? = some x) (hp : p x = false) : l.all p = false := by
  rw [List.all_eq_false]; exact ⟨x, List.mem_of_getElem? hx, by rw [hp]; simp⟩
set_option maxRecDepth 100000 in
set_option maxHeartbeats 3200000 in
theorem validOuts_any (v : Value) (l : List OutT) (w : World) (h : RdOs w v l) (hL : l.length ≤ 1000) (hC : ∀ o ∈ l, o.cipher.length ≤ 1000) :
    Calls Tryz.prog 136 #[v] w fun e w' => e = .returned (.bool (outsOk l)) ∧ Ext w w' := by
  obtain ⟨a, c, rfl, -⟩ := h.shape
  have HX := hid h
  have HC := hid hC
  have hL1 : (l.length : Int) ≤ 1000 := by omega
  obtain ⟨res, hres⟩ : ∃ res, res = outsOk l := ⟨_, rfl⟩
  rw [← hres]
  have HR := hid hres
  clear h hC hres
  go_enter Tryz.func136, Tryz.ntmps136
  by_cases h4 : l.length ≤ 4
  case neg =>
    have h4B : decide ((4 : Int) < (l.length : Int)) = true := by simp; omega
    have hr : res = false := by rw [HR.out]; unfold outsOk; rw [show decide (l.length ≤ 4) = false by simpa using h4, Bool.false_and]
    subst hr
    clear h4
    go_wp2_with fail
    go_ret
    exact ⟨rfl, Ext.refl _⟩
  have h4B : decide ((4 : Int) < (l.length : Int)) = false := by simp; omega
  have HR2 : Hid (res = l.all outOk) := hid (by rw [HR.out]; unfold outsOk; rw [show decide (l.length ≤ 4) = true by simpa using h4, Bool.true_and])
  clear HR h4
  go_wp2_with fail
  go_loopw [12] (fun iv wr => ∃ i : Nat, i ≤ l.length ∧ iv = .int .i64 i ∧ Hid ((l.take i).all outOk = true) ∧ Hid (Ext w wr)) (fun iv _ => l.length - (intOf iv).toNat)
  case atStart => exact ⟨0, by omega, rfl, hid rfl, hid (Ext.refl _)⟩
  case round =>
    obtain ⟨i, hi, rfl, HI, HXR⟩ := hrel
    by_cases hlt : i < l.length
    · have hltB : decide ((i : Int) < (l.length : Int)) = true := by simp; omega
      obtain ⟨x, hxi⟩ : ∃ x, l[i]? = some x := ⟨_, List.getElem?_eq_getElem hlt⟩
      obtain ⟨b, q, ca, cc, rfl, e0, e1, e2, e3, hrc⟩ := (HX.out.ext HXR.out).at hxi
      have hi0 : (0 : Int) ≤ (i : Int) := Int.natCast_nonneg _
      have hil : (i : Int) < (l.length : Int) := by omega
      have HXI := hid hxi
      have HCL : Hid (x.cipher.length ≤ 1000) := hid (HC.out x (List.mem_of_getElem? hxi))
      clear hxi
      go_upto_region 6 with fail
      clear e0 e1 e2 e3
      obtain ⟨P, hP⟩ : ∃ P, P = wr.heap.size := ⟨_, rfl⟩
      obtain ⟨w1, hw1⟩ : ∃ w1, w1 = wr.alloc (.cells #[uv x.commit, uv x.p.a, uv x.p.b, .slice ca x.cipher.length cc] 103) := ⟨_, rfl⟩
      have hx1 : Ext wr w1 := by rw [hw1]; exact (Ext.refl wr).alloc _
      have hb1 : w1.heap[P]? = some (.cells #[uv x.commit, uv x.p.a, uv x.p.b, .slice ca x.cipher.length cc] 103 (0, 0)) := by rw [hw1, hP]; exact heap_new _ _
      rw [← hw1, ← hP]
      obtain ⟨o0, o1, o2, o3⟩ := four_cellsO hb1
      have HX1 := hid hx1
      have HB1 := hid hb1
      have HRC := hid hrc
      have HV := hid (pValid_any x.p)
      obtain ⟨ok, hok⟩ : ∃ ok, ok = outOk x := ⟨_, rfl⟩
      have HOK := hid hok
      clear hw1 hx1 hb1 hP hrc hok
      by_cases hb : x.commit < big
      case neg =>
        have hd : decide ((18446744069414584321 : Int) ≤ (x.commit.toNat : Int)) = true := by
          have h9 : ¬ (x.commit.toNat : Int) < 18446744069414584321 := fun h => hb ((lt_big_iff _).2 h)
          simp; omega
        have hr : res = false := by
          rw [HR2.out]
          refine all_bad HXI.out ?_
          unfold outOk
          rw [show decide (x.commit < big) = false by simpa using hb]; rfl
        subst hr
        clear hb
        go_wp2_with fail
        go_ret
        exact ⟨rfl, HXR.out.trans HX1.out⟩
      have hd : decide ((18446744069414584321 : Int) ≤ (x.commit.toNat : Int)) = false := by
        have := (lt_big_iff _).1 hb
        simp; omega
      have HO1 : Hid (outOk x = (validP x.p && decide (x.cipher.length = 3) && allE x.cipher)) := hid (by
        unfold outOk
        rw [show decide (x.commit < big) = true by simpa using hb, Bool.true_and])
      clear hb
      go_wp2_with fail
      refine (HV.out _).mono ?_
      rintro e w2 ⟨rfl, hx⟩
      have HX2 := hid (HX1.out.trans hx)
      obtain ⟨p0, p1, p2, p3⟩ := four_cellsO (hx.heap_some HB1.out)
      clear hx o0 o1 o2 o3 HV
      obtain ⟨vp, hvp⟩ : ∃ vp, vp = validP x.p := ⟨_, rfl⟩
      rw [← hvp] at HO1 ⊢
      clear hvp
      cases vp with
      | false =>
        have hr : res = false := by rw [HR2.out]; exact all_bad HXI.out (by rw [HO1.out]; rfl)
        subst hr
        go_wp2_with fail
        go_ret
        exact ⟨rfl, HXR.out.trans HX2.out⟩
      | true =>
        by_cases h3 : x.cipher.length = 3
        case neg =>
          have h3B : ((x.cipher.length : Int) != 3) = true := by simp; omega
          have hr : res = false := by rw [HR2.out]; exact all_bad HXI.out (by rw [HO1.out, show decide (x.cipher.length = 3) = false by simpa using h3]; rfl)
          subst hr
          clear h3
          go_wp2_with fail
          go_ret
          exact ⟨rfl, HXR.out.trans HX2.out⟩
        have h3B : ((x.cipher.length : Int) != 3) = false := by simp; omega
        have HO2 : Hid (outOk x = allE x.cipher) := hid (by rw [HO1.out, show decide (x.cipher.length = 3) = true by simpa using h3]; simp)
        obtain ⟨L, hL3⟩ : ∃ L, L = x.cipher.length := ⟨_, rfl⟩
        rw [← hL3] at h3B p3 ⊢
        have HL3 := hid hL3
        have hLB : (L : Int) ≤ 1000 := by have := HCL.out; omega
        clear h3 hL3
        go_wp2_with fail
        go_loop [34] (fun jv => ∃ j : Nat, j ≤ L ∧ jv = .int .i64 j ∧ Hid ((x.cipher.take j).all (fun x => decide (x < big)) = true)) (fun jv => L - (intOf jv).toNat)
        case atStart => exact ⟨0, by omega, rfl, hid rfl⟩
        case round =>
          obtain ⟨j, hj, rfl, HJ⟩ := hrel
          by_cases hlj : j < L
          · have hljB : decide ((j : Int) < (L : Int)) = true := by simp; omega
            obtain ⟨y, hy⟩ : ∃ y, x.cipher[j]? = some y := ⟨_, List.getElem?_eq_getElem (by have := HL3.out; omega)⟩
            obtain ⟨b', o', rfl, hc⟩ := ((HRC.out.ext HX2.out)).uat hy
            have hj0 : (0 : Int) ≤ (j : Int) := Int.natCast_nonneg _
            have hjl : (j : Int) < (L : Int) := by omega
            have HY := hid hy
            clear hy
            by_cases hb : y < big
            · have hd' : decide ((18446744069414584321 : Int) ≤ (y.toNat : Int)) = false := by
                have := (lt_big_iff _).1 hb
                simp; omega
              have HA := hid (allE_snoc HY.out HJ.out hb)
              clear hb
              go_wp2_with fail
              go_round
              case rel => exact ⟨j + 1, by omega, by go_num, HA⟩
              case measure => simp [intOf]; omega
            · have hd' : decide ((18446744069414584321 : Int) ≤ (y.toNat : Int)) = true := by
                have h9 : ¬ (y.toNat : Int) < 18446744069414584321 := fun h => hb ((lt_big_iff _).2 h)
                simp; omega
              have hr : res = false := by rw [HR2.out]; exact all_bad HXI.out (by rw [HO2.out]; exact allE_bad HY.out hb)
              subst hr
              clear hb
              go_wp2_with fail
              go_ret
              exact ⟨rfl, HXR.out.trans HX2.out⟩
          · have hje : j = L := by omega
            subst hje
            have hljB : decide ((j : Int) < (j : Int)) = false := by simp
            have HN : Hid ((l.take (i + 1)).all outOk = true) := hid (all_snoc HXI.out HI.out (by
              rw [HO2.out]
              have := HJ.out
              rw [HL3.out, List.take_length] at this
              exact this))
            go_wp2_with fail
            go_roundw
            case rel => exact ⟨i + 1, by omega, by go_num, HN, hid (HXR.out.trans HX2.out)⟩
            case measure => simp [intOf]; omega
    · have hie : i = l.length := by omega
      subst hie
      have hltB : decide ((l.length : Int) < (l.length : Int)) = false := by simp
      have hr : res = true := by
        have h1 := HI.out
        rw [List.take_length] at h1
        rw [HR2.out, h1]
      subst hr
      go_wp2_with fail
      go_ret
      exact ⟨rfl, HXR.out⟩
theorem gt_max (x : UInt64) : decide ((4294967295 : Int) < (x.toNat : Int)) = !decide (x.toNat ≤ 4294967295) := by
  by_cases h : x.toNat ≤ 4294967295
  · rw [show decide (x.toNat ≤ 4294967295) = true by simpa using h]; simp; omega
  · rw [show decide (x.toNat ≤ 4294967295) = false by simpa using h]; simp; omega
theorem ge_big (x : UInt64) : decide ((18446744069414584321 : Int) ≤ (x.toNat : Int)) = !decide (x < big) := by
  by_cases h : x < big
  · have h1 := (lt_big_iff x).1 h
    rw [show decide (x < big) = true by simpa using h]; simp; omega
  · have h1 : ¬ (x.toNat : Int) < 18446744069414584321 := fun h' => h ((lt_big_iff x).2 h')
    rw [show decide (x < big) = false by simpa using h]; simp; omega
theorem gt_zero (x : UInt64) : decide ((0 : Int) < (x.toNat : Int)) = decide (0 < x.toNat) := by
  rw [decide_eq_decide]; omega
theorem eq_zero (x : UInt64) : ((x.toNat : Int) == 0) = decide (x.toNat = 0) := by
  by_cases h : x.toNat = 0
  · rw [h]; rfl
  · rw [show decide (x.toNat = 0) = false by simpa using h]; simp; omega
theorem ne_zero' (x : UInt64) : ((x.toNat : Int) != 0) = !decide (x.toNat = 0) := by
  unfold bne; rw [eq_zero]
theorem len_zero {α : Type} (l : List α) : ((l.length : Int) == 0) = !decide (l.length ≠ 0) := by
  cases l with
  | nil => rfl
  | cons x r => simp; omega
theorem ne_nil' {α : Type} [DecidableEq α] (l : List α) : decide (l ≠ []) = decide (l.length ≠ 0) := by
  cases l <;> simp
def amtB (d1 d2 d3 al nl dp wz mn nz wp az : Bool) : Bool := d1 && d2 && d3 && al && nl && (if dp then wz else mn && nz && (wp || az))
theorem amtOk_B (t : TxT) : amtOk t = amtB (decide (t.deposit.toNat ≤ 4294967295)) (decide (t.withdraw.toNat ≤ 4294967295)) (decide (t.fee.toNat ≤ 4294967295)) (decide (t.account < big)) (decide (t.nonce < big))
    (decide (0 < t.deposit.toNat)) (decide (t.withdraw.toNat = 0)) (decide (t.marks.length ≠ 0)) (decide (t.nonce.toNat = 0)) (decide (0 < t.withdraw.toNat)) (decide (t.account.toNat = 0)) := by
  unfold amtOk amtB
  rw [ne_nil']
  by_cases h : 0 < t.deposit.toNat
  · rw [if_pos h, show decide (0 < t.deposit.toNat) = true by simpa using h]; rfl
  · rw [if_neg h, show decide (0 < t.deposit.toNat) = false by simpa using h]; rfl
set_option maxRecDepth 100000 in
set_option maxHeartbeats 1600000 in
theorem validAmounts_any (t : TxT) (ma oa pa : Option Addr) (mc oc pc on pn : Nat) (w : World) :
    Calls Tryz.prog 137 #[txVal t (.slice ma t.marks.length mc) (.slice oa on oc) (.slice pa pn pc)] w fun e w' => e = .returned (.bool (amtOk t)) ∧ Ext w w' := by
  rw [amtOk_B]
  have a1 := gt_max t.deposit
  have a2 := gt_max t.withdraw
  have a3 := gt_max t.fee
  have a4 := ge_big t.account
  have a5 := ge_big t.nonce
  have a6 := gt_zero t.deposit
  have a7 := eq_zero t.withdraw
  have a8 := len_zero t.marks
  have a9 := ne_zero' t.nonce
  have a10 := gt_zero t.withdraw
  have a11 := eq_zero t.account
  generalize decide (t.deposit.toNat ≤ 4294967295) = d1 at *
  generalize decide (t.withdraw.toNat ≤ 4294967295) = d2 at *
  generalize decide (t.fee.toNat ≤ 4294967295) = d3 at *
  generalize decide (t.account < big) = al at *
  generalize decide (t.nonce < big) = nl at *
  obtain ⟨dp, hdp⟩ : ∃ dp, decide (0 < t.deposit.toNat) = dp := ⟨_, rfl⟩
  rw [hdp] at a6 ⊢
  generalize decide (t.withdraw.toNat = 0) = wz at *
  generalize decide (t.marks.length ≠ 0) = mn at *
  generalize decide (t.nonce.toNat = 0) = nz at *
  obtain ⟨wp, hwp⟩ : ∃ wp, decide (0 < t.withdraw.toNat) = wp := ⟨_, rfl⟩
  rw [hwp] at a10 ⊢
  generalize decide (t.account.toNat = 0) = az at *
  obtain ⟨R, hR⟩ : ∃ R, R = amtB d1 d2 d3 al nl dp wz mn nz wp az := ⟨_, rfl⟩
  rw [← hR]
  have HR := hid hR
  clear hR
  have HE : Hid (∀ o, Ext w (w.alloc o)) := hid fun o => (Ext.refl w).alloc o
  go_enter Tryz.func137, Tryz.ntmps137
  cases d1 with
  | false =>
    have hr : R = false := HR.out
    subst hr
    go_wp2_with fail
    go_ret
    exact ⟨rfl, HE.out _⟩
  | true =>
  cases d2 with
  | false =>
    have hr : R = false := HR.out
    subst hr
    go_wp2_with fail
    go_ret
    exact ⟨rfl, HE.out _⟩
  | true =>
  cases d3 with
  | false =>
    have hr : R = false := HR.out
    subst hr
    go_wp2_with fail
    go_ret
    exact ⟨rfl, HE.out _⟩
  | true =>
  cases al with
  | false =>
    have hr : R = false := HR.out
    subst hr
    go_wp2_with fail
    go_ret
    exact ⟨rfl, HE.out _⟩
  | true =>
  cases nl with
  | false =>
    have hr : R = false := HR.out
    subst hr
    go_wp2_with fail
    go_ret
    exact ⟨rfl, HE.out _⟩
  | true =>
  cases dp with
  | true =>
    have hr : R = wz := HR.out
    subst hr
    go_wp2_with fail
    go_ret
    exact ⟨rfl, HE.out _⟩
  | false =>
  cases mn with
  | false =>
    have hr : R = false := HR.out
    subst hr
    go_wp2_with fail
    go_ret
    exact ⟨rfl, HE.out _⟩
  | true =>
  cases nz with
  | false =>
    have hr : R = false := HR.out
    subst hr
    go_wp2_with fail
    go_ret
    exact ⟨rfl, HE.out _⟩
  | true =>
  cases wp with
  | true =>
    have hr : R = true := HR.out
    subst hr
    go_wp2_with fail
    go_ret
    exact ⟨rfl, HE.out _⟩
  | false =>
    have hr : R = az := HR.out
    subst hr
    go_wp2_with fail
    go_ret
    exact ⟨rfl, HE.out _⟩
theorem txOk_B (t : TxT) : txOk t = (marksOk t.marks && (outsOk t.outs && (amtOk t && (decide (t.anchor < big) && (decide (0 ≤ t.expiry) && decide (t.expiry ≤ 1048576)))))) := by
  unfold txOk marksOk outsOk
  simp only [Bool.and_assoc]
/-- Short enough. -/
structure TSm (t : TxT) : Prop where
  m : t.marks.length ≤ 1000
  o : t.outs.length ≤ 1000
  c : ∀ o ∈ t.outs, o.cipher.length ≤ 1000
  p : t.proof.length ≤ 100000000
set_option maxRecDepth 100000 in
set_option maxHeartbeats 3200000 in
theorem txValid_any (t : TxT) (mv ov pv : Value) (w : World) (h : RdT w t mv ov pv) (hs : TSm t) :
    Calls Tryz.prog 115 #[txVal t mv ov pv] w fun e w' => e = .returned (.int .i64 (txV t)) ∧ Ext w w' := by
  obtain ⟨ma, mc, oa, oc, pa, pc, rfl, rfl, rfl⟩ := h.shape
  obtain ⟨R, hR⟩ : ∃ R, R = txV t := ⟨_, rfl⟩
  rw [← hR]
  have HR := hid hR
  unfold txV at HR
  rw [txOk_B] at HR
  have HM : Hid (∀ v, Ext w v → Calls Tryz.prog 135 #[.slice ma t.marks.length mc] v fun e w' => e = .returned (.bool (marksOk t.marks)) ∧ Ext v w') := hid fun v k => validMarks_any _ _ v (h.m.ext k) hs.m
  have HO : Hid (∀ v, Ext w v → Calls Tryz.prog 136 #[.slice oa t.outs.length oc] v fun e w' => e = .returned (.bool (outsOk t.outs)) ∧ Ext v w') := hid fun v k => validOuts_any _ _ v (h.o.ext k) hs.o hs.c
  have HA : Hid (∀ v, Calls Tryz.prog 137 #[txVal t (.slice ma t.marks.length mc) (.slice oa t.outs.length oc) (.slice pa t.proof.length pc)] v fun e w' => e = .returned (.bool (amtOk t)) ∧ Ext v w') := hid fun v => validAmounts_any t ma oa pa mc oc pc t.outs.length t.proof.length v
  have a1 := ge_big t.anchor
  have a2 : decide (t.expiry < 0) = !decide (0 ≤ t.expiry) := by
    by_cases h : 0 ≤ t.expiry
    · rw [show decide (0 ≤ t.expiry) = true by simpa using h]; simp; omega
    · rw [show decide (0 ≤ t.expiry) = false by simpa using h]; simp; omega
  have a3 : decide ((1048576 : Int) < t.expiry) = !decide (t.expiry ≤ 1048576) := by
    by_cases h : t.expiry ≤ 1048576
    · rw [show decide (t.expiry ≤ 1048576) = true by simpa using h]; simp; omega
    · rw [show decide (t.expiry ≤ 1048576) = false by simpa using h]; simp; omega
  have a4 : decide ((1048576 : Int) < (t.proof.length : Int)) = !decide (t.proof.length ≤ 1048576) := by
    by_cases h : t.proof.length ≤ 1048576
    · rw [show decide (t.proof.length ≤ 1048576) = true by simpa using h]; simp; omega
    · rw [show decide (t.proof.length ≤ 1048576) = false by simpa using h]; simp; omega
  have hpl : (if t.proof.length ≤ 1048576 then (0 : Int) else 3) = if decide (t.proof.length ≤ 1048576) then 0 else 3 := by
    by_cases h : t.proof.length ≤ 1048576
    · rw [if_pos h, show decide (t.proof.length ≤ 1048576) = true by simpa using h]; rfl
    · rw [if_neg h, show decide (t.proof.length ≤ 1048576) = false by simpa using h]; rfl
  rw [hpl] at HR
  clear hpl h hs hR
  generalize marksOk t.marks = b1 at *
  generalize outsOk t.outs = b2 at *
  generalize amtOk t = b3 at *
  generalize decide (t.anchor < big) = b4 at *
  generalize decide (0 ≤ t.expiry) = b5 at *
  generalize decide (t.expiry ≤ 1048576) = b6 at *
  generalize decide (t.proof.length ≤ 1048576) = b7 at *
  obtain ⟨N, hN⟩ : ∃ N, N = w.heap.size := ⟨_, rfl⟩
  obtain ⟨w0, hw0⟩ : ∃ w0, w0 = w.alloc (.cells #[uv t.anchor, .slice ma t.marks.length mc, .slice oa t.outs.length oc, uv t.deposit, uv t.withdraw, uv t.fee, uv t.account, uv t.nonce, .int .i64 t.expiry, .slice pa t.proof.length pc] 101) := ⟨_, rfl⟩
  have hx0 : Ext w w0 := by rw [hw0]; exact (Ext.refl w).alloc _
  have hb0 : w0.heap[N]? = some (.cells #[uv t.anchor, .slice ma t.marks.length mc, .slice oa t.outs.length oc, uv t.deposit, uv t.withdraw, uv t.fee, uv t.account, uv t.nonce, .int .i64 t.expiry, .slice pa t.proof.length pc] 101 (0, 0)) := by rw [hw0, hN]; exact heap_new _ _
  have HB := hid hb0
  have HW := hid hw0
  have HX0 := hid hx0
  obtain ⟨c0, c1, c2, c3, c4, c5, c6, c7, c8, c9⟩ := ten_cells hb0
  clear hw0 hx0 hb0
  go_enter Tryz.func115, Tryz.ntmps115
  go_upto_region 1 with fail
  rw [← HW.out, ← hN]
  clear hN
  go_wp2_with fail
  refine (HM.out _ HX0.out).mono ?_
  rintro e w1 ⟨rfl, hx⟩
  have HX1 := hid hx
  clear hx c0 c1 c2 c3 c4 c5 c6 c7 c8 c9
  cases b1 with
  | false =>
    have hr : R = 1 := HR.out
    subst hr
    go_wp2_with fail
    go_ret
    exact ⟨rfl, HX0.out.trans HX1.out⟩
  | true =>
  obtain ⟨c0, c1, c2, c3, c4, c5, c6, c7, c8, c9⟩ := ten_cells (HX1.out.heap_some HB.out)
  go_wp2_with fail
  refine (HO.out _ (HX0.out.trans HX1.out)).mono ?_
  rintro e w2 ⟨rfl, hx⟩
  have HX2 := hid (HX1.out.trans hx)
  clear hx c0 c1 c2 c3 c4 c5 c6 c7 c8 c9
  cases b2 with
  | false =>
    have hr : R = 1 := HR.out
    subst hr
    go_wp2_with fail
    go_ret
    exact ⟨rfl, HX0.out.trans HX2.out⟩
  | true =>
  obtain ⟨c0, c1, c2, c3, c4, c5, c6, c7, c8, c9⟩ := ten_cells (HX2.out.heap_some HB.out)
  go_wp2_with fail
  refine (HA.out _).mono ?_
  rintro e w3 ⟨rfl, hx⟩
  have HX3 := hid (HX2.out.trans hx)
  clear hx c0 c1 c2 c3 c4 c5 c6 c7 c8 c9 HM HO HA
  cases b3 with
  | false =>
    have hr : R = 1 := HR.out
    subst hr
    go_wp2_with fail
    go_ret
    exact ⟨rfl, HX0.out.trans HX3.out⟩
  | true =>
  obtain ⟨c0, c1, c2, c3, c4, c5, c6, c7, c8, c9⟩ := ten_cells (HX3.out.heap_some HB.out)
  have HXF := hid (HX0.out.trans HX3.out)
  cases b4 with
  | false =>
    have hr : R = 1 := HR.out
    subst hr
    go_wp2_with fail
    go_ret
    exact ⟨rfl, HXF.out⟩
  | true =>
  cases b5 with
  | false =>
    have hr : R = 1 := HR.out
    subst hr
    go_wp2_with fail
    go_ret
    exact ⟨rfl, HXF.out⟩
  | true =>
  cases b6 with
  | false =>
    have hr : R = 1 := HR.out
    subst hr
    go_wp2_with fail
    go_ret
    exact ⟨rfl, HXF.out⟩
  | true =>
  cases b7 with
  | false =>
    have hr : R = 3 := HR.out
    subst hr
    go_wp2_with fail
    go_ret
    exact ⟨rfl, HXF.out⟩
  | true =>
    have hr : R = 0 := HR.out
    subst hr
    go_wp2_with fail
    go_ret
    exact ⟨rfl, HXF.out⟩
end Go.Proofs.YtcikjcjfcanloaaGreat
namespace Go.Proofs.YtcikjcjfcanloaaGreat
open Go.RowKit
attribute [local irreducible] perm fAdd fMul fPow fSub fNeg fRed
def Orc.commit (M : Orc) (n : Nt) : UInt64 × Orc := if n.ok then M.hash 2 n.list else (0, M)
set_option maxRecDepth 100000 in
set_option maxHeartbeats 800000 in
/-- The origin of marks that begin with a small number is this number. -/
theorem Origin_one (lv : Value) (x : UInt64) (l : List UInt64) (w : World) (p q : Value) (h : RdU w lv (x :: l)) (hx : x < big) :
    Calls Tryz.prog 140 #[lv, p, q] w fun e w' => e = .returned (uv x) ∧ w' = w := by
  obtain ⟨a, c, rfl, -⟩ := id h
  obtain ⟨b, o, rfl, hc⟩ := h.at (i := 0) (x := x) rfl
  have hd : decide ((18446744069414584321 : Int) ≤ (x.toNat : Int)) = false := by have := (lt_big_iff x).1 hx; simp; omega
  have hn : decide ((0 : Int) < ((x :: l).length : Int)) = true := by simp
  have h1 : (0 : Int) < ((x :: l).length : Int) := by simp
  have hc0 : w.cell? ⟨b, o, none⟩ = some (.int .u64 x.toNat) := hc
  have h2 : decide (0 < (x :: l).length) = true := by simp
  generalize (x :: l).length = n at *
  clear h hx hc hn
  go_enter Tryz.func140, Tryz.ntmps140
  go_wp2
  go_ret
  exact ⟨rfl, rfl⟩
end Go.Proofs.YtcikjcjfcanloaaGreat
namespace Go.Proofs.YtcikjcjfcanloaaGreat
open Go.RowKit
attribute [local irreducible] perm fAdd fMul fPow fSub fNeg fRed hashU
theorem bigLe_dec (x : UInt64) : decide ((18446744069414584321 : Int) ≤ (x.toNat : Int)) = !decide (x < big) := by
  have h := lt_big_iff x
  by_cases hx : x < big
  · rw [decide_eq_true hx]
    have := h.1 hx
    simp; omega
  · rw [decide_eq_false hx]
    have : ¬ _ := fun e => hx (h.2 e)
    simp; omega
set_option maxRecDepth 100000 in
set_option maxHeartbeats 1600000 in
theorem index_any (lv : Value) (l : List UInt64) (x : UInt64) (w : World) (h : RdU' w lv l) (hl : l.length ≤ 1000) :
    Calls Tryz.prog 139 #[lv, uv x] w fun e w' => ∃ z : Int, e = .returned (.int .i64 z) ∧ decide (0 ≤ z) = l.contains x ∧ Ext w w' := by
  obtain ⟨a, c, rfl, -⟩ := id h
  have HX := hid h
  have hlI : (l.length : Int) ≤ 1000 := by omega
  clear h hl
  go_enter Tryz.func139, Tryz.ntmps139
  go_wp2_with fail
  go_loopw [8] (fun iv wr => ∃ i : Nat, i ≤ l.length ∧ iv = .int .i64 i ∧ Hid ((∀ j, j < i → l[j]? ≠ some x) ∧ Ext w wr)) (fun iv _ => l.length - (intOf iv).toNat)
  case atStart => exact ⟨0, by omega, rfl, hid ⟨fun j hj => by omega, Ext.refl w⟩⟩
  case round =>
    obtain ⟨i, hi, rfl, HI⟩ := hrel
    have hi0 : (0 : Int) ≤ (i : Int) := Int.natCast_nonneg _
    by_cases hlt : i < l.length
    · have hltB : decide ((i : Int) < (l.length : Int)) = true := by simp; omega
      have hil : (i : Int) < (l.length : Int) := by omega
      obtain ⟨y, hy⟩ : ∃ y, l[i]? = some y := ⟨_, List.getElem?_eq_getElem hlt⟩
      obtain ⟨b, o, rfl, hc⟩ := (HX.out.ext HI.out.2).uat hy
      have HY := hid hy
      clear hy
      by_cases hxy : x = y
      · subst hxy
        go_wp2_with fail
        go_ret
        exact ⟨_, rfl, by rw [decide_eq_true hi0]; exact (List.contains_iff_mem.2 (List.mem_of_getElem? HY.out)).symm, HI.out.2⟩
      · have hne2 : ((x.toNat : Int) == (y.toNat : Int)) = false := by rw [beq_eq_false_iff_ne]; exact fun h => hxy (UInt64.toNat_inj.1 (by omega))
        have hne3 : ¬ x.toNat = y.toNat := fun h => hxy (UInt64.toNat_inj.1 h)
        have HN := hid (And.intro (fun j (hj : j < i + 1) => show l[j]? ≠ some x from by
          by_cases hji : j = i
          · subst hji
            rw [HY.out]
            intro e
            exact hxy (Option.some.inj e).symm
          · exact HI.out.1 j (by omega)) HI.out.2)
        go_wp2_with fail
        go_roundw
        case rel => exact ⟨i + 1, by omega, by go_num, HN⟩
        case measure => simp [intOf]; omega
    · have hltB : decide ((i : Int) < (l.length : Int)) = false := by simp; omega
      go_wp2_with fail
      go_ret
      refine ⟨_, rfl, ?_, HI.out.2⟩
      have hni : l.contains x = false := by
        rw [Bool.eq_false_iff]
        intro h
        obtain ⟨j, hj, he⟩ := List.getElem_of_mem (List.contains_iff_mem.1 h)
        exact HI.out.1 j (by omega) (by rw [List.getElem?_eq_getElem hj, he])
      rw [hni]
      rfl
set_option maxRecDepth 100000 in
theorem contains_any (lv : Value) (l : List UInt64) (x : UInt64) (w : World) (h : RdU' w lv l) (hl : l.length ≤ 1000) :
    Calls Tryz.prog 117 #[lv, uv x] w fun e w' => e = .returned (.bool (l.contains x)) ∧ Ext w w' := by
  have HI := hid (index_any lv l x w h hl)
  generalize l.contains x = r at *
  clear h hl
  go_enter Tryz.func117, Tryz.ntmps117
  go_wp2_with fail
  refine (HI.out).mono ?_
  rintro e w1 ⟨z, rfl, hz, hx⟩
  have HX := hid hx
  have HZ := hid hz
  clear hx hz HI
  go_wp2_with fail
  go_ret
  exact ⟨ret_bool HZ.out, HX.out⟩
set_option maxRecDepth 100000 in
theorem noteRho_any (origin : UInt64) (i : Nat) (ho : origin < big) (hi : i ≤ 1000) (w : World) : Calls Tryz.prog 120 #[uv origin, .int .i64 (i : Int)] w fun e w' => e = .returned (uv (hashU 4 [origin, UInt64.ofNat i])) ∧ Ext w w' := by
  have hmm : ((UInt64.ofNat i).toNat : Int) = (i : Int) := by simp; omega
  have hwr : IntKind.u64.wrap (i : Int) = (i : Int) := by rw [← hmm]; exact wrap_uK _
  have hob := bigLe_dec origin
  rw [decide_eq_true ho] at hob
  have HH : Hid (∀ v : World, Calls Tryz.prog 133 #[.int .u64 18446744069414584321, .int .u64 4, .slice (some ⟨v.heap.size, 0, none⟩) 2 2] (v.alloc (.cells #[uv origin, .int .u64 (i : Int)] 22)) fun e w' => e = .returned (uv (hashU 4 [origin, UInt64.ofNat i])) ∧ Ext v w') := hid fun v => by
    have h := hash2_any 4 origin (UInt64.ofNat i) v
    rw [show uv (UInt64.ofNat i) = .int .u64 (i : Int) by unfold uv; rw [hmm]] at h
    exact h
  generalize hashU 4 [origin, UInt64.ofNat i] = k at *
  have hi0 : decide ((i : Int) < 0) = false := by simp
  clear hmm ho hi
  go_enter Tryz.func120, Tryz.ntmps120
  go_wp2_with fail
  refine (HH.out _).mono ?_
  rintro e w1 ⟨rfl, hx⟩
  have HX1 := hid hx
  clear hx HH
  go_wp2_with fail
  go_ret
  exact ⟨rfl, HX1.out⟩
def originU (m : List UInt64) (a n : UInt64) : UInt64 := match m with | x :: _ => x | [] => hashU 5 [a, n]
set_option maxRecDepth 100000 in
set_option maxHeartbeats 1600000 in
theorem noteOrigin_any (lv : Value) (m : List UInt64) (a n : UInt64) (w : World) (h : RdU' w lv m) (hm : ∀ x ∈ m, x < big) (ha : a < big) (hn : n < big) :
    Calls Tryz.prog 140 #[lv, uv a, uv n] w fun e w' => e = .returned (uv (originU m a n)) ∧ Ext w w' := by
  cases m with
  | nil =>
    obtain ⟨la, lc, rfl, -⟩ := id h
    have h1 := bigLe_dec a
    have h2 := bigLe_dec n
    rw [decide_eq_true ha] at h1
    rw [decide_eq_true hn] at h2
    have HH : Hid (∀ v : World, Calls Tryz.prog 133 #[.int .u64 18446744069414584321, .int .u64 5, .slice (some ⟨v.heap.size, 0, none⟩) 2 2] (v.alloc (.cells #[uv a, uv n] 22)) fun e w' => e = .returned (uv (originU [] a n)) ∧ Ext v w') := hid fun v => hash2_any 5 a n v
    generalize originU [] a n = k at *
    clear h ha hn hm
    go_enter Tryz.func140, Tryz.ntmps140
    go_wp2_with fail
    refine (HH.out _).mono ?_
    rintro e w1 ⟨rfl, hx⟩
    have HX1 := hid hx
    clear hx HH
    go_wp2_with fail
    go_ret
    exact ⟨rfl, HX1.out⟩
  | cons x r =>
    have := Origin_one lv x r w (uv a) (uv n) (h.rdu (by simp)) (hm x (by simp))
    exact this.mono fun e w' k => ⟨k.1, by rw [k.2]; exact Ext.refl w⟩
set_option maxRecDepth 100000 in
set_option maxHeartbeats 1600000 in
theorem txOrigin_any (t : TxT) (mv ov pv : Value) (w : World) (h : RdT w t mv ov pv) (hs : TSm t) :
    Calls Tryz.prog 118 #[txVal t mv ov pv] w fun e w' => e = .returned (uv (originT t)) ∧ Ext w w' := by
  have HV : Hid (∀ v, Ext w v → Calls Tryz.prog 115 #[txVal t mv ov pv] v fun e w' => e = .returned (.int .i64 (txV t)) ∧ Ext v w') := hid fun v k => txValid_any t mv ov pv v (h.ext k) hs
  have HO : Hid (txV t = 0 → ∀ v, Ext w v → Calls Tryz.prog 140 #[mv, uv t.account, uv t.nonce] v fun e w' => e = .returned (uv (originT t)) ∧ Ext v w') := hid fun hv v k => by
    have hk : txOk t = true := by
      unfold txV at hv
      split at hv
      · assumption
      · cases hv
    unfold txOk amtOk at hk
    simp only [Bool.and_eq_true, decide_eq_true_eq] at hk
    obtain ⟨⟨⟨⟨⟨⟨⟨⟨h1, h2⟩, h3⟩, h4⟩, h5⟩, ⟨⟨⟨⟨⟨h6, h7⟩, h8⟩, h9⟩, h10⟩, -⟩⟩, h12⟩, h13⟩, h14⟩ := hk
    have hm : ∀ x ∈ t.marks, x < big := fun x hx => by
      unfold allE at h2
      have := List.all_eq_true.1 h2 x hx
      simpa using this
    have := noteOrigin_any mv t.marks t.account t.nonce v (h.m.ext k) hm h9 h10
    unfold originT
    rw [if_pos hv]
    exact this
  have HZ : Hid (txV t ≠ 0 → originT t = 0) := hid fun hv => by unfold originT; rw [if_neg hv]
  obtain ⟨ma, mc, oa, oc, pa, pc, rfl, rfl, rfl⟩ := h.shape
  clear h hs
  generalize originT t = R at *
  generalize txV t = V at *
  obtain ⟨N, hN⟩ : ∃ N, N = w.heap.size := ⟨_, rfl⟩
  obtain ⟨w0, hw0⟩ : ∃ w0, w0 = w.alloc (.cells #[uv t.anchor, .slice ma t.marks.length mc, .slice oa t.outs.length oc, uv t.deposit, uv t.withdraw, uv t.fee, uv t.account, uv t.nonce, .int .i64 t.expiry, .slice pa t.proof.length pc] 101) := ⟨_, rfl⟩
  have hx0 : Ext w w0 := by rw [hw0]; exact (Ext.refl w).alloc _
  have hb0 : w0.heap[N]? = some (.cells #[uv t.anchor, .slice ma t.marks.length mc, .slice oa t.outs.length oc, uv t.deposit, uv t.withdraw, uv t.fee, uv t.account, uv t.nonce, .int .i64 t.expiry, .slice pa t.proof.length pc] 101 (0, 0)) := by rw [hw0, hN]; exact heap_new _ _
  have HX0 := hid hx0
  have HB0 := hid hb0
  have HW := hid hw0
  clear hx0 hb0 hw0
  go_enter Tryz.func118, Tryz.ntmps118
  go_upto_region 1 with fail
  rw [← HW.out, ← hN]
  clear hN HW
  obtain ⟨c0, c1, c2, c3, c4, c5, c6, c7, c8, c9⟩ := ten_cells HB0.out
  go_wp2_with fail
  refine (HV.out _ HX0.out).mono ?_
  rintro e w1 ⟨rfl, hx⟩
  have HX1 := hid (HX0.out.trans hx)
  clear c0 c1 c2 c3 c4 c5 c6 c7 c8 c9
  obtain ⟨c0, c1, c2, c3, c4, c5, c6, c7, c8, c9⟩ := ten_cells (hx.heap_some HB0.out)
  clear hx HV
  by_cases hv : V = 0
  · subst hv
    have HO2 := hid (HO.out (by trivial))
    go_wp2_with fail
    refine (HO2.out _ HX1.out).mono ?_
    rintro e w2 ⟨rfl, hx⟩
    have HX2 := hid (HX1.out.trans hx)
    clear hx HO
    go_wp2_with fail
    go_ret
    exact ⟨rfl, HX2.out⟩
  · have hvB : decide (V = 0) = false := decide_eq_false hv
    have hr := HZ.out hv
    subst hr
    go_wp2_with fail
    go_ret
    exact ⟨rfl, HX1.out⟩
end Go.Proofs.YtcikjcjfcanloaaGreat
namespace Go.Proofs.YtcikjcjfcanloaaGreat
open Go.RowKit
attribute [local irreducible] perm fAdd fMul fPow fSub fNeg fRed hashU
structure LogIn (w : World) (B LV d : Nat) (vs : List Value) (ls : List (List UInt64)) (F : Nat → Prop) : Prop where
  self : w.heap[B]? = some (.cells #[.int .i64 (d : Int), .slice (some ⟨LV, 0, none⟩) (d + 1) (d + 1)] 164 (0, 0))
  lv : w.heap[LV]? = some (.cells vs.toArray 57 (0, 0))
  vl : vs.length = d + 1
  ll : ls.length = d + 1
  own : ∀ (k : Nat) (v : Value) (l : List UInt64), vs[k]? = some v → ls[k]? = some l → OwnU w v l
  ne : B ≠ LV
  nb : ∀ (k : Nat) (v : Value) (i : Nat), vs[k]? = some v → blk v = some i → i ≠ B ∧ i ≠ LV
  ap : ∀ (j k : Nat) (v v' : Value) (i : Nat), j ≠ k → vs[j]? = some v → vs[k]? = some v' → blk v = some i → blk v' ≠ some i
  foot : F B ∧ F LV ∧ (∀ (k : Nat) (v : Value) (i : Nat), vs[k]? = some v → blk v = some i → F i) ∧ ∀ i, F i → i < w.heap.size
theorem LogIn.of {w w' : World} {B LV d : Nat} {vs : List Value} {ls : List (List UInt64)} {F G : Nat → Prop} (h : LogIn w B LV d vs ls F) (k : Kp G w w') (hG : ∀ i, F i → ¬ G i) : LogIn w' B LV d vs ls F where
  self := k.heap_some (hG _ h.foot.1) h.self
  lv := k.heap_some (hG _ h.foot.2.1) h.lv
  vl := h.vl
  ll := h.ll
  own j v l hv hl := ownsRow_kp (h.own j v l hv hl) k fun b hb => hG b (h.foot.2.2.1 j v b hv hb)
  ne := h.ne
  nb := h.nb
  ap := h.ap
  foot := ⟨h.foot.1, h.foot.2.1, h.foot.2.2.1, fun i hi => Nat.lt_of_lt_of_le (h.foot.2.2.2 i hi) k.size⟩
theorem LogIn.ext {w w' : World} {B LV d : Nat} {vs : List Value} {ls : List (List UInt64)} {F : Nat → Prop} (h : LogIn w B LV d vs ls F) (k : Ext w w') : LogIn w' B LV d vs ls F :=
  h.of (G := fun _ => False) (.of_ext k) fun _ _ e => e
theorem LogIn.cells {w : World} {B LV d : Nat} {vs : List Value} {ls : List (List UInt64)} {F : Nat → Prop} (h : LogIn w B LV d vs ls F) :
    w.cell? ⟨B, 0, none⟩ = some (.int .i64 (d : Int)) ∧ w.cell? ⟨B, 1, none⟩ = some (.slice (some ⟨LV, 0, none⟩) (d + 1) (d + 1)) := ⟨cell_of h.self 0, cell_of h.self 1⟩
/-- Level k: its slice, where it stands. -/
theorem LogIn.at {w : World} {B LV d : Nat} {vs : List Value} {ls : List (List UInt64)} {F : Nat → Prop} (h : LogIn w B LV d vs ls F) {k : Nat} (hk : k ≤ d) {l : List UInt64} (hl : ls[k]? = some l) :
    ∃ a c, vs[k]? = some (.slice a l.length c) ∧ w.cell? ⟨LV, k, none⟩ = some (.slice a l.length c) ∧ OwnU w (.slice a l.length c) l := by
  have hv : vs[k]? = some (vs[k]'(by rw [h.vl]; omega)) := List.getElem?_eq_getElem _
  have ho := h.own k _ _ hv hl
  obtain ⟨a, c, e, -⟩ := ownsRow_rd ho
  rw [e] at ho hv
  refine ⟨a, c, hv, ?_, ho⟩
  have hc := cell_of h.lv k
  rw [List.getElem?_toArray, hv] at hc
  exact hc
theorem own_at {w : World} {a : Option Addr} {n c : Nat} {l : List UInt64} (h : OwnU w (.slice a n c) l) {i : Nat} {x : UInt64} (hx : l[i]? = some x) : ∃ g, a = some ⟨g, 0, none⟩ ∧ w.cell? ⟨g, i, none⟩ = some (uv x) := by
  rcases h.2 with ⟨-, h2⟩ | ⟨g, cap, cur, h1, -⟩
  · rw [List.eq_nil_of_length_eq_zero h2] at hx
    cases hx
  · injection h1 with e1 e2 e3
    subst e1
    refine ⟨g, rfl, ?_⟩
    have := h.cells (g := g) rfl i (uv x) (by unfold us; rw [List.getElem?_map, hx]; rfl)
    rw [Addr.add_lit, Nat.zero_add] at this
    exact this
set_option maxRecDepth 100000 in
set_option maxHeartbeats 1600000 in
theorem logCount_any {w : World} {B LV d : Nat} {vs : List Value} {ls : List (List UInt64)} {F : Nat → Prop} (h : LogIn w B LV d vs ls F) (h1 : 1 ≤ d) {l : List UInt64} (hl : ls[0]? = some l) :
    Calls Tryz.prog 88 #[.pointer (some ⟨B, 0, none⟩)] w fun e w' => e = .returned (.int .i64 (l.length : Int)) ∧ Ext w w' := by
  obtain ⟨c0, c1⟩ := h.cells
  obtain ⟨a, c, -, c2, -⟩ := h.at (Nat.zero_le d) hl
  have hd1 : decide ((d : Int) < 1) = false := by simp; omega
  have hd2 : (0 : Int) < ((d + 1 : Nat) : Int) := by omega
  clear h
  go_enter Tryz.func88, Tryz.ntmps88
  go_wp2_with fail
  go_ret
  exact ⟨rfl, Ext.refl w⟩
set_option maxRecDepth 100000 in
set_option maxHeartbeats 3200000 in
theorem logDigest_any {w : World} {B LV d : Nat} {vs : List Value} {ls : List (List UInt64)} {F : Nat → Prop} (h : LogIn w B LV d vs ls F) (hd : d ≤ 12) {k : Nat} (hk : k ≤ d) {l : List UInt64} (hl : ls[k]? = some l) (p : Nat) :
    Calls Tryz.prog 109 #[.pointer (some ⟨B, 0, none⟩), .int .i64 (k : Int), .int .i64 (p : Int)] w fun e w' => e = .returned (uv (digU k l p)) ∧ Ext w w' := by
  obtain ⟨c0, c1⟩ := h.cells
  obtain ⟨a, c, -, c2, ho⟩ := h.at hk hl
  have hk0 : 0 ≤ (k : Int) := Int.natCast_nonneg _
  have hk1 : (k : Int) < ((d + 1 : Nat) : Int) := by omega
  have hp0 : 0 ≤ (p : Int) := Int.natCast_nonneg _
  have HE := hid (fun v => empty_any k (by omega) v)
  by_cases hlt : p < l.length
  · have hx : l[p]? = some l[p] := List.getElem?_eq_getElem hlt
    obtain ⟨g, rfl, c3⟩ := own_at ho hx
    have hr : digU k l p = l[p] := by unfold digU; rw [hx]; rfl
    rw [hr]
    generalize l[p] = x at *
    have hltB : decide ((p : Int) < (l.length : Int)) = true := by simp; omega
    have hltI : (p : Int) < (l.length : Int) := by omega
    clear h ho hx hr hl HE
    generalize l.length = n at *
    go_enter Tryz.func109, Tryz.ntmps109
    go_wp2_with fail
    go_ret
    exact ⟨rfl, Ext.refl w⟩
  · have hr : digU k l p = emptyU k := by unfold digU; rw [List.getElem?_eq_none (by omega)]; rfl
    rw [hr]
    generalize emptyU k = x at *
    have hltB : decide ((p : Int) < (l.length : Int)) = false := by simp; omega
    clear h ho hr hl
    generalize l.length = n at *
    go_enter Tryz.func109, Tryz.ntmps109
    go_wp2_with fail
    refine (HE.out _).mono ?_
    rintro e w1 ⟨rfl, hx⟩
    have HX1 := hid hx
    clear hx HE
    go_wp2_with fail
    go_ret
    exact ⟨rfl, HX1.out⟩
set_option maxRecDepth 100000 in
set_option maxHeartbeats 1600000 in
theorem logRoot_any {w : World} {B LV d : Nat} {vs : List Value} {ls : List (List UInt64)} {F : Nat → Prop} (h : LogIn w B LV d vs ls F) (h1 : 1 ≤ d) (hd : d ≤ 12) {l : List UInt64} (hl : ls[d]? = some l) :
    Calls Tryz.prog 79 #[.pointer (some ⟨B, 0, none⟩)] w fun e w' => e = .returned (uv (digU d l 0)) ∧ Ext w w' := by
  obtain ⟨c0, c1⟩ := h.cells
  have hd1 : decide ((d : Int) < 1) = false := by simp; omega
  have HD : Hid (Calls Tryz.prog 109 #[.pointer (some ⟨B, 0, none⟩), .int .i64 (d : Int), .int .i64 0] w fun e w' => e = .returned (uv (digU d l 0)) ∧ Ext w w') := hid (logDigest_any h hd (Nat.le_refl d) hl 0)
  generalize digU d l 0 = x at *
  clear h hl
  go_enter Tryz.func79, Tryz.ntmps79
  go_wp2_with fail
  refine (HD.out).mono ?_
  rintro e w1 ⟨rfl, hx⟩
  have HX1 := hid hx
  clear hx HD
  go_wp2_with fail
  go_ret
  exact ⟨rfl, HX1.out⟩
set_option maxRecDepth 100000 in
set_option maxHeartbeats 1600000 in
theorem logLeaf_any {w : World} {B LV d : Nat} {vs : List Value} {ls : List (List UInt64)} {F : Nat → Prop} (h : LogIn w B LV d vs ls F) (h1 : 1 ≤ d) {l : List UInt64} (hl : ls[0]? = some l) {p : Nat} {x : UInt64} (hx : l[p]? = some x) :
    Calls Tryz.prog 114 #[.pointer (some ⟨B, 0, none⟩), .int .i64 (p : Int)] w fun e w' => e = .returned (.tuple #[uv x, .bool true]) ∧ Ext w w' := by
  have HC : Hid (∀ v, Ext w v → Calls Tryz.prog 88 #[.pointer (some ⟨B, 0, none⟩)] v fun e w' => e = .returned (.int .i64 (l.length : Int)) ∧ Ext v w') := hid fun v k => logCount_any (h.ext k) h1 hl
  have hlt : p < l.length := (List.getElem?_eq_some_iff.1 hx).1
  have hp0 : 0 ≤ (p : Int) := Int.natCast_nonneg _
  have hp1 : decide ((p : Int) < 0) = false := by simp
  have hltB : decide ((l.length : Int) ≤ (p : Int)) = false := by simp; omega
  have hltI : (p : Int) < (l.length : Int) := by omega
  have hd2 : (0 : Int) < ((d + 1 : Nat) : Int) := by omega
  obtain ⟨-, b1⟩ := h.cells
  obtain ⟨a, c, -, b2, ho⟩ := h.at (Nat.zero_le d) hl
  obtain ⟨g, rfl, b3⟩ := own_at ho hx
  have HCL : Hid (∀ v, Ext w v → v.cell? ⟨B, 1, none⟩ = some (.slice (some ⟨LV, 0, none⟩) (d + 1) (d + 1)) ∧ v.cell? ⟨LV, 0, none⟩ = some (.slice (some ⟨g, 0, none⟩) l.length c) ∧ v.cell? ⟨g, p, none⟩ = some (uv x)) := hid fun v k => ⟨k.cell_some b1, k.cell_some b2, k.cell_some b3⟩
  clear h hl hx ho b1 b2 b3
  generalize l.length = n at *
  go_enter Tryz.func114, Tryz.ntmps114
  go_wp2_with fail
  refine (HC.out _ (Ext.refl w)).mono ?_
  rintro e w1 ⟨rfl, hx⟩
  have HX1 := hid hx
  obtain ⟨c1, c2, c3⟩ := HCL.out _ hx
  clear hx HC
  go_wp2_with fail
  go_ret2
  exact ⟨rfl, HX1.out⟩
end Go.Proofs.YtcikjcjfcanloaaGreat
namespace Go.Proofs.YtcikjcjfcanloaaGreat
open Go.RowKit
attribute [local irreducible] perm fAdd fMul fPow fSub fNeg fRed hashU
theorem own_setU {w : World} {g n c : Nat} {l : List UInt64} (h : OwnU w (.slice (some ⟨g, 0, none⟩) n c) l) (i : Nat) (x : UInt64) : OwnU (w.setCell ⟨g, i, none⟩ (uv x)) (.slice (some ⟨g, 0, none⟩) n c) (l.set i x) := by
  refine ⟨by show (us (l.set i x)).length = (l.set i x).length * 1; simp [us], .inr ?_⟩
  rcases h.2 with ⟨h1, -⟩ | ⟨g', cap, cur, h1, h2, h3, h4, h5, h6, h7⟩
  · cases h1
  · injection h1 with e1 e2 e3
    injection e1 with e1
    injection e1 with e1
    subst e1 e2 e3
    refine ⟨g, c, cur.setIfInBounds i (uv x), by rw [List.length_set], h2, heap_setCell_same h3 i _, by rw [List.length_set]; exact h4, h5, by rw [Array.size_setIfInBounds]; exact h6, ?_⟩
    rw [Nat.mul_one] at h7 ⊢
    rw [List.length_set, Array.toList_setIfInBounds, List.take_set, h7]
    unfold us
    rw [List.map_set]
/-- A level's slice is another one: in the old block, or in a new one. -/
theorem LogIn.put {w w' : World} {B LV d : Nat} {vs : List Value} {ls : List (List UInt64)} {F : Nat → Prop} (h : LogIn w B LV d vs ls F) {k : Nat} (hk : k ≤ d) {v v' : Value} {l' : List UInt64} (hv : vs[k]? = some v)
    (kp : Kp (fun i => blk v = some i) w w') (ho : OwnU w' v' l') (hb : ∀ i, blk v' = some i → blk v = some i ∨ w.heap.size ≤ i) :
    LogIn (w'.setCell ⟨LV, k, none⟩ v') B LV d (vs.set k v') (ls.set k l') (fun i => F i ∨ blk v' = some i) ∧ Kp (fun i => F i) w (w'.setCell ⟨LV, k, none⟩ v') := by
  have hF := h.foot
  have hvb : ∀ i, blk v = some i → F i := fun i hi => hF.2.2.1 k v i hv hi
  have hLV : w'.heap[LV]? = some (.cells vs.toArray 57 (0, 0)) := kp.heap_some (fun e => (h.nb k v _ hv e).2 rfl) h.lv
  have hBs : w'.heap[B]? = _ := kp.heap_some (fun e => (h.nb k v _ hv e).1 rfl) h.self
  have hkl : k < vs.length := by rw [h.vl]; omega
  have hkl2 : k < ls.length := by rw [h.ll]; omega
  have hkS : Kp (fun i => i = LV) w' (w'.setCell ⟨LV, k, none⟩ v') := (Kp.refl (fun i => i = LV) _).setCell (p := ⟨LV, k, none⟩) (.inl rfl) _
  have hsz := kp.size
  have hnb' : ∀ i, blk v' = some i → i ≠ B ∧ i ≠ LV := fun i hi => by
    rcases hb i hi with e | e
    · exact h.nb k v i hv e
    · have h1 := hF.2.2.2 B hF.1
      have h2 := hF.2.2.2 LV hF.2.1
      exact ⟨by omega, by omega⟩
  refine ⟨{ self := by rw [heap_setCell_ne h.ne]; exact hBs
            lv := by
              have := heap_setCell_same hLV k v'
              rwa [List.setIfInBounds_toArray] at this
            vl := by rw [List.length_set]; exact h.vl
            ll := by rw [List.length_set]; exact h.ll
            own := fun j u l hu hl => ?_
            ne := h.ne
            nb := fun j u i hu hi => ?_
            ap := fun i j u u' m hij hu hu' hm => ?_
            foot := ⟨.inl hF.1, .inl hF.2.1, fun j u i hu hi => ?_, fun i hi => ?_⟩ }, ?_⟩
  · by_cases hj : j = k
    · subst hj
      rw [List.getElem?_set_self hkl] at hu
      rw [List.getElem?_set_self hkl2] at hl
      obtain rfl := Option.some.inj hu
      obtain rfl := Option.some.inj hl
      exact ownsRow_kp ho hkS fun b hbb e => (hnb' b hbb).2 e
    · rw [List.getElem?_set_ne (fun e => hj e.symm)] at hu hl
      refine ownsRow_kp (ownsRow_kp (h.own j u l hu hl) kp fun b hbb e => h.ap j k u v b hj hu hv hbb e) hkS fun b hbb e => (h.nb j u b hu hbb).2 e
  · by_cases hj : j = k
    · subst hj
      rw [List.getElem?_set_self hkl] at hu
      obtain rfl := Option.some.inj hu
      exact hnb' i hi
    · rw [List.getElem?_set_ne (fun e => hj e.symm)] at hu
      exact h.nb j u i hu hi
  · intro hm'
    have key : ∀ (j : Nat) (u : Value) (m : Nat), j ≠ k → vs[j]? = some u → blk u = some m → blk v' = some m → False := fun j u m hj hu hm hm' => by
      rcases hb m hm' with e | e
      · exact h.ap j k u v m hj hu hv hm e
      · have := hF.2.2.2 m (hF.2.2.1 j u m hu hm); omega
    by_cases hi : i = k
    · subst hi
      rw [List.getElem?_set_self hkl] at hu
      obtain rfl := Option.some.inj hu
      rw [List.getElem?_set_ne hij] at hu'
      exact key j u' m (fun e => hij e.symm) hu' hm' hm
    · rw [List.getElem?_set_ne (fun e => hi e.symm)] at hu
      by_cases hj : j = k
      · subst hj
        rw [List.getElem?_set_self hkl] at hu'
        obtain rfl := Option.some.inj hu'
        exact key i u m hi hu hm hm'
      · rw [List.getElem?_set_ne (fun e => hj e.symm)] at hu'
        exact h.ap i j u u' m hij hu hu' hm hm'
  · by_cases hj : j = k
    · subst hj
      rw [List.getElem?_set_self hkl] at hu
      obtain rfl := Option.some.inj hu
      exact .inr hi
    · rw [List.getElem?_set_ne (fun e => hj e.symm)] at hu
      exact .inl (hF.2.2.1 j u i hu hi)
  · have hs2 := hkS.size
    rcases hi with hi | hi
    · have := hF.2.2.2 i hi; omega
    · have := ownsRow_lt ho hi; omega
  · exact (kp.mono fun i _ e => hvb i e).trans (hkS.mono fun i _ e => e ▸ hF.2.1)
/-- A digest of a level is another one. -/
theorem LogIn.write {w : World} {B LV d : Nat} {vs : List Value} {ls : List (List UInt64)} {F : Nat → Prop} (h : LogIn w B LV d vs ls F) {k g n c : Nat} {l : List UInt64} (hv : vs[k]? = some (.slice (some ⟨g, 0, none⟩) n c)) (hl : ls[k]? = some l) (i : Nat) (x : UInt64) :
    LogIn (w.setCell ⟨g, i, none⟩ (uv x)) B LV d vs (ls.set k (l.set i x)) F ∧ Kp (fun i => F i) w (w.setCell ⟨g, i, none⟩ (uv x)) := by
  have hF := h.foot
  have hg : blk (.slice (some ⟨g, 0, none⟩) n c) = some g := rfl
  have hb := h.nb k _ g hv hg
  have hkS : Kp (fun j => j = g) w (w.setCell ⟨g, i, none⟩ (uv x)) := (Kp.refl (fun j => j = g) _).setCell (p := ⟨g, i, none⟩) (.inl rfl) _
  have hkl2 : k < ls.length := (List.getElem?_eq_some_iff.1 hl).1
  refine ⟨{ h with
    self := by rw [heap_setCell_ne (fun e => hb.1 e.symm)]; exact h.self
    lv := by rw [heap_setCell_ne (fun e => hb.2 e.symm)]; exact h.lv
    ll := by rw [List.length_set]; exact h.ll
    own := fun j u l' hu hl' => ?_
    foot := ⟨hF.1, hF.2.1, hF.2.2.1, fun j hj => Nat.lt_of_lt_of_le (hF.2.2.2 j hj) hkS.size⟩ }, hkS.mono fun j _ e => by subst e; exact hF.2.2.1 k _ j hv hg⟩
  by_cases hj : j = k
  · subst hj
    rw [List.getElem?_set_self hkl2] at hl'
    obtain rfl := Option.some.inj hl'
    rw [hv] at hu
    obtain rfl := Option.some.inj hu
    exact own_setU (h.own j _ _ hv hl) i x
  · rw [List.getElem?_set_ne (fun e => hj e.symm)] at hl'
    exact ownsRow_kp (h.own j u l' hu hl') hkS fun b hbb e => by subst e; exact h.ap j k u _ b hj hu hv hbb hg
end Go.Proofs.YtcikjcjfcanloaaGreat
