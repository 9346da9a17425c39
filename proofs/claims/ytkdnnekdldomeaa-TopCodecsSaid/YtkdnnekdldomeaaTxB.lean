/- The bytes of transactions: tx.encode, Encode, Weight, ID. (Written by wip/tools/gen_txb.py.) -/
import Derived.Test.YtkdnnekdldomeaaTxOk
set_option linter.unusedSimpArgs false
namespace Go.Proofs.Ytkdnnekdldomeaa
open Go.RowKit
attribute [local irreducible] perm fAdd fMul fPow fSub fNeg fRed hashU
def FrO (w0 w : World) (m : List UInt8) (e : Ending) (w' : World) : Prop := ∃ v, e = .returned v ∧ FrB w0 w' v m ∧ Ext w w'
theorem NewB.fr {w0 w w' : World} {m : List UInt8} {e : Ending} (hx : Ext w0 w) (h : NewB w m e w') : FrO w0 w m e w' := by
  obtain ⟨v, rfl, h1, h2, h3⟩ := h
  exact ⟨v, rfl, ⟨h1, hx.trans h2, fun k hk => Nat.le_trans hx.size (h3 k hk)⟩, h2⟩
theorem FrB.sl {w v : World} {x : Value} {l : List UInt8} (h : FrB w v x l) : ∃ a c, x = .slice a l.length c := by
  obtain ⟨a, c, h1, -⟩ := ownsRow_rd h.1
  exact ⟨a, c, h1⟩
theorem wUint_fr {w0 w : World} {v : Value} {l : List UInt8} (x : UInt64) (h : FrB w0 w v l) (hL : l.length ≤ 1000000000) : Calls Try.prog 46 #[v, uv x] w (FrO w0 w (l ++ leB 8 x)) :=
  (wUint_any v l x w h.1.weak (by omega)).mono fun _ _ h' => h'.fr h.2.1
theorem wInt_fr {w0 w : World} {v : Value} {l : List UInt8} (n : Int) (h : FrB w0 w v l) (hL : l.length ≤ 1000000000) : Calls Try.prog 50 #[v, .int .i64 n] w (FrO w0 w (l ++ lenB n)) :=
  (wInt_any v l n w h.1.weak (by omega)).mono fun _ _ h' => h'.fr h.2.1
theorem wList_fr {w0 w : World} {v lv : Value} {l : List UInt8} {xs : List UInt64} (h : FrB w0 w v l) (hx : RdU' w lv xs) (hL : l.length ≤ 1000000000) (hX : xs.length ≤ 1000000) : Calls Try.prog 58 #[v, lv] w (FrO w0 w (l ++ listB xs)) :=
  (wList_any v l lv xs w h.1.weak hx (by omega) (by omega)).mono fun _ _ h' => h'.fr h.2.1
theorem wBytes_fr {w0 w : World} {v cv : Value} {l c : List UInt8} (h : FrB w0 w v l) (hc : RdB' w cv c) (hL : l.length ≤ 1000000000) (hC : c.length ≤ 100000000) : Calls Try.prog 33 #[v, cv] w (FrO w0 w (l ++ bytesB c)) :=
  (wBytes_any v l cv c w h.1.weak hc (by omega) (by omega)).mono fun _ _ h' => h'.fr h.2.1
theorem listB_length (xs : List UInt64) : (listB xs).length = 4 + 8 * xs.length := by unfold listB; rw [List.length_append, lenB_length, cat_length]
theorem outB_le {o : OutT} (h : o.cipher.length ≤ 1000) : (outB o).length ≤ 10000 := by
  unfold outB
  simp only [List.length_append, leB_length, listB_length]
  omega
theorem outsB_le : ∀ {l : List OutT}, (∀ o ∈ l, o.cipher.length ≤ 1000) → (outsB l).length ≤ 10000 * l.length
  | [], _ => by simp [outsB]
  | o :: r, h => by
    have h1 := outB_le (h o (by simp))
    have h2 := outsB_le (l := r) (fun o ho => h o (by simp [ho]))
    unfold outsB at h2 ⊢
    rw [List.flatMap_cons, List.length_append, List.length_cons]
    omega
theorem outsB_snoc {l : List OutT} {i : Nat} {o : OutT} (h : l[i]? = some o) : outsB (l.take (i + 1)) = outsB (l.take i) ++ outB o := by
  rw [List.take_add_one, h]; simp [outsB]
set_option maxRecDepth 100000 in
set_option maxHeartbeats 6400000 in
theorem txEnc_any (t : TxT) (mv ov pv : Value) (w : World) (h : RdT w t mv ov pv) (hs : TSm t) :
    Calls Try.prog 41 #[txVal t mv ov pv, pv] w (NewB w (txB t)) := by
  obtain ⟨ma, mc, oa, oc, pa, pc, rfl, rfl, rfl⟩ := h.shape
  obtain ⟨N, hN⟩ : ∃ N, N = w.heap.size := ⟨_, rfl⟩
  obtain ⟨w0, hw0⟩ : ∃ w0, w0 = w.alloc (.cells #[uv t.anchor, .slice ma t.marks.length mc, .slice oa t.outs.length oc, uv t.deposit, uv t.withdraw, uv t.fee, uv t.account, uv t.nonce, .int .i64 t.expiry, .slice pa t.proof.length pc] 39) := ⟨_, rfl⟩
  have hx0 : Ext w w0 := by rw [hw0]; exact (Ext.refl w).alloc _
  have hb0 : w0.heap[N]? = some (.cells #[uv t.anchor, .slice ma t.marks.length mc, .slice oa t.outs.length oc, uv t.deposit, uv t.withdraw, uv t.fee, uv t.account, uv t.nonce, .int .i64 t.expiry, .slice pa t.proof.length pc] 39 (0, 0)) := by rw [hw0, hN]; exact heap_new _ _
  have HB := hid hb0
  have HW := hid hw0
  have HX0 := hid hx0
  have HH := hid h
  have HS := hid hs
  have HOL : Hid ((t.outs.length : Int) ≤ 1000) := hid (by have := hs.o; omega)
  clear hw0 hx0 hb0 h hs
  have F0 : Hid (FrB w0 w0 (.slice none 0 0) []) := hid ⟨World.ownsRow_nil _ _ _ _, Ext.refl _, fun k h => by cases h⟩
  obtain ⟨c0, c1, c2, c3, c4, c5, c6, c7, c8, c9⟩ := ten_cells HB.out
  go_enter Try.func41, Try.ntmps41
  go_upto_region 1 with fail
  rw [← HW.out, ← hN]
  clear hN
  go_wp2_with fail
  refine (wUint_fr t.anchor F0.out (by simp)).mono ?_
  rintro e w1 ⟨v1, rfl, hf, -⟩
  obtain ⟨sa1, sc1, rfl⟩ := hf.sl
  obtain ⟨L1, hL1⟩ : ∃ L, L = ([] ++ leB 8 t.anchor : List UInt8) := ⟨_, rfl⟩
  rw [← hL1] at hf ⊢
  have F1 := hid hf
  have HL1 := hid hL1
  have B1 : Hid (L1.length ≤ 8) := hid (by rw [hL1]; simp [leB_length])
  clear c0 c1 c2 c3 c4 c5 c6 c7 c8 c9
  clear hf hL1
  obtain ⟨c0, c1, c2, c3, c4, c5, c6, c7, c8, c9⟩ := ten_cells ((F1.out.2.1).heap_some HB.out)
  go_wp2_with fail
  refine (wList_fr (xs := t.marks) F1.out (HH.out.m.ext (HX0.out.trans F1.out.2.1)) (by have := B1.out; omega) (by have := HS.out.m; omega)).mono ?_
  rintro e w2 ⟨v2, rfl, hf, -⟩
  obtain ⟨sa2, sc2, rfl⟩ := hf.sl
  obtain ⟨L2, hL2⟩ : ∃ L, L = L1 ++ listB t.marks := ⟨_, rfl⟩
  rw [← hL2] at hf ⊢
  have F2 := hid hf
  have HL2 := hid hL2
  have B2 : Hid (L2.length ≤ 10000) := hid (by rw [hL2]; rw [List.length_append, listB_length]; have := B1.out; have := HS.out.m; omega)
  clear c0 c1 c2 c3 c4 c5 c6 c7 c8 c9
  clear hf hL2
  obtain ⟨c0, c1, c2, c3, c4, c5, c6, c7, c8, c9⟩ := ten_cells ((F2.out.2.1).heap_some HB.out)
  go_wp2_with fail
  refine (wInt_fr (t.outs.length : Int) F2.out (by have := B2.out; omega)).mono ?_
  rintro e w3 ⟨v3, rfl, hf, -⟩
  obtain ⟨sa3, sc3, rfl⟩ := hf.sl
  obtain ⟨L3, hL3⟩ : ∃ L, L = L2 ++ lenB (t.outs.length : Int) := ⟨_, rfl⟩
  rw [← hL3] at hf ⊢
  have F3 := hid hf
  have HL3 := hid hL3
  have B3 : Hid (L3.length ≤ 20000) := hid (by rw [hL3]; rw [List.length_append, lenB_length]; have := B2.out; omega)
  clear c0 c1 c2 c3 c4 c5 c6 c7 c8 c9
  clear hf hL3
  obtain ⟨c0, c1, c2, c3, c4, c5, c6, c7, c8, c9⟩ := ten_cells ((F3.out.2.1).heap_some HB.out)
  go_wp2_with fail
  go_loopw [5, 23] (fun bv iv wr => ∃ i : Nat, i ≤ t.outs.length ∧ iv = .int .i64 i ∧ Hid (FrB w0 wr bv (L3 ++ outsB (t.outs.take i)))) (fun _ iv _ => t.outs.length - (intOf iv).toNat)
  case atStart => exact ⟨0, by omega, rfl, hid (by simpa [outsB] using F3.out)⟩
  case round =>
    clear c0 c1 c2 c3 c4 c5 c6 c7 c8 c9
    obtain ⟨i, hi, rfl, HI⟩ := hrel
    by_cases hlt : i < t.outs.length
    · have hltB : decide ((i : Int) < (t.outs.length : Int)) = true := by simp; omega
      obtain ⟨o, hoi⟩ : ∃ o, t.outs[i]? = some o := ⟨_, List.getElem?_eq_getElem hlt⟩
      obtain ⟨b, q, ca, cc, rfl, e0, e1, e2, e3, hrc⟩ := (HH.out.o.ext (HX0.out.trans HI.out.2.1)).at hoi
      have hi0 : (0 : Int) ≤ (i : Int) := Int.natCast_nonneg _
      have hil : (i : Int) < (t.outs.length : Int) := by omega
      have hol : (t.outs.length : Int) ≤ 1000 := HOL.out
      have hocl : o.cipher.length ≤ 1000 := HS.out.c o (List.mem_of_getElem? hoi)
      obtain ⟨C0, hC0⟩ : ∃ C, C = L3 ++ outsB (t.outs.take i) := ⟨_, rfl⟩
      have hC1 : L3 ++ outsB (t.outs.take (i + 1)) = C0 ++ outB o := by rw [outsB_snoc hoi, ← List.append_assoc, hC0]
      have hCl : C0.length ≤ 20000 + 10000 * 1000 := by
        rw [hC0, List.length_append]
        have h1 := B3.out
        have h2 := outsB_le (l := t.outs.take i) (fun o ho => HS.out.c o (List.mem_of_mem_take ho))
        have h3 : (t.outs.take i).length ≤ t.outs.length := by rw [List.length_take]; omega
        have h4 := HS.out.o
        omega
      rw [← hC0] at HI
      have HC := hid (And.intro hC1 (And.intro hCl hocl))
      have HN0 : Hid (C0.length ≤ 10020000) := hid (by omega)
      obtain ⟨ua, uc, rfl⟩ := HI.out.sl
      have HRC := hid hrc
      clear hoi hC0 hC1 hCl hrc hocl
      go_upto_region 7 with fail
      clear e0 e1 e2 e3
      obtain ⟨P, hP⟩ : ∃ P, P = wr.heap.size := ⟨_, rfl⟩
      obtain ⟨x0, hx0⟩ : ∃ x, x = wr.alloc (.cells #[uv o.commit, uv o.p.a, uv o.p.b, .slice ca o.cipher.length cc] 64) := ⟨_, rfl⟩
      have hy0 : Ext wr x0 := by rw [hx0]; exact (Ext.refl wr).alloc _
      have hbo : x0.heap[P]? = some (.cells #[uv o.commit, uv o.p.a, uv o.p.b, .slice ca o.cipher.length cc] 64 (0, 0)) := by rw [hx0, hP]; exact heap_new _ _
      rw [← hx0, ← hP]
      have HBO := hid hbo
      have HY0 := hid hy0
      have G0 := hid (HI.out.ext hy0)
      obtain ⟨o0, o1, o2, o3⟩ := four_cellsO hbo
      clear hx0 hy0 hbo hP
      go_wp2_with fail
      refine (wUint_fr o.commit G0.out (by have := HC.out.2.1; omega)).mono ?_
      rintro e x1 ⟨y1, rfl, hf, hx⟩
      obtain ⟨ta1, tc1, rfl⟩ := hf.sl
      obtain ⟨C1, hC1⟩ : ∃ C, C = C0 ++ leB 8 o.commit := ⟨_, rfl⟩
      rw [← hC1] at hf ⊢
      have G1 := hid hf
      have HC1 := hid hC1
      have HN1 : Hid (C1.length ≤ 10020008) := hid (by rw [hC1, List.length_append, leB_length]; have := HN0.out; omega)
      have K1 : Hid (Ext x0 x1) := hid hx
      clear hf hx hC1 o0 o1 o2 o3
      obtain ⟨o0, o1, o2, o3⟩ := four_cellsO (K1.out.heap_some HBO.out)
      go_wp2_with fail
      refine (wUint_fr o.p.a G1.out (by have := HN1.out; omega)).mono ?_
      rintro e x2 ⟨y2, rfl, hf, hx⟩
      obtain ⟨ta2, tc2, rfl⟩ := hf.sl
      obtain ⟨C2, hC2⟩ : ∃ C, C = C1 ++ leB 8 o.p.a := ⟨_, rfl⟩
      rw [← hC2] at hf ⊢
      have G2 := hid hf
      have HC2 := hid hC2
      have HN2 : Hid (C2.length ≤ 10020016) := hid (by rw [hC2, List.length_append, leB_length]; have := HN1.out; omega)
      have K2 : Hid (Ext x0 x2) := hid (K1.out.trans hx)
      clear hf hx hC2 o0 o1 o2 o3
      obtain ⟨o0, o1, o2, o3⟩ := four_cellsO (K2.out.heap_some HBO.out)
      go_wp2_with fail
      refine (wUint_fr o.p.b G2.out (by have := HN2.out; omega)).mono ?_
      rintro e x3 ⟨y3, rfl, hf, hx⟩
      obtain ⟨ta3, tc3, rfl⟩ := hf.sl
      obtain ⟨C3, hC3⟩ : ∃ C, C = C2 ++ leB 8 o.p.b := ⟨_, rfl⟩
      rw [← hC3] at hf ⊢
      have G3 := hid hf
      have HC3 := hid hC3
      have HN3 : Hid (C3.length ≤ 10020024) := hid (by rw [hC3, List.length_append, leB_length]; have := HN2.out; omega)
      have K3 : Hid (Ext x0 x3) := hid (K2.out.trans hx)
      clear hf hx hC3 o0 o1 o2 o3
      obtain ⟨o0, o1, o2, o3⟩ := four_cellsO (K3.out.heap_some HBO.out)
      go_wp2_with fail
      refine (wList_fr (xs := o.cipher) G3.out (HRC.out.ext (HY0.out.trans K3.out)) (by have := HN3.out; omega) (by have := HC.out.2.2; omega)).mono ?_
      rintro e x4 ⟨y4, rfl, hf, -⟩
      have G4 := hid hf
      clear hf o0 o1 o2 o3
      go_wp2_with fail
      go_roundw
      case rel => exact ⟨i + 1, by omega, by go_num, hid (by
        rw [HC.out.1]
        have := G4.out
        rw [HC3.out, HC2.out, HC1.out] at this
        unfold outB
        simpa only [List.append_assoc] using this)⟩
      case measure => simp [intOf]; omega
    · have hie : i = t.outs.length := by omega
      subst hie
      have hltB : decide ((t.outs.length : Int) < (t.outs.length : Int)) = false := by simp
      have hf := HI.out
      rw [List.take_length] at hf
      obtain ⟨L4, hL4⟩ : ∃ L, L = L3 ++ outsB t.outs := ⟨_, rfl⟩
      rw [← hL4] at hf
      obtain ⟨ua, uc, rfl⟩ := hf.sl
      have F4 := hid hf
      have HL4 := hid hL4
      have B4 : Hid (L4.length ≤ 20000000) := hid (by
        rw [hL4, List.length_append]
        have h1 := B3.out
        have h2 := outsB_le HS.out.c
        have h4 := HS.out.o
        omega)
      obtain ⟨c0, c1, c2, c3, c4, c5, c6, c7, c8, c9⟩ := ten_cells ((F4.out.2.1).heap_some HB.out)
      clear hf hL4 HI
      go_wp2_with fail
      refine (wUint_fr t.deposit F4.out (by have := B4.out; omega)).mono ?_
      rintro e w5 ⟨v5, rfl, hf, -⟩
      obtain ⟨sa5, sc5, rfl⟩ := hf.sl
      obtain ⟨L5, hL5⟩ : ∃ L, L = L4 ++ leB 8 t.deposit := ⟨_, rfl⟩
      rw [← hL5] at hf ⊢
      have F5 := hid hf
      have HL5 := hid hL5
      have B5 : Hid (L5.length ≤ 20000008) := hid (by rw [hL5]; rw [List.length_append, leB_length]; have := B4.out; omega)
      clear c0 c1 c2 c3 c4 c5 c6 c7 c8 c9
      clear hf hL5
      obtain ⟨c0, c1, c2, c3, c4, c5, c6, c7, c8, c9⟩ := ten_cells ((F5.out.2.1).heap_some HB.out)
      go_wp2_with fail
      refine (wUint_fr t.withdraw F5.out (by have := B5.out; omega)).mono ?_
      rintro e w6 ⟨v6, rfl, hf, -⟩
      obtain ⟨sa6, sc6, rfl⟩ := hf.sl
      obtain ⟨L6, hL6⟩ : ∃ L, L = L5 ++ leB 8 t.withdraw := ⟨_, rfl⟩
      rw [← hL6] at hf ⊢
      have F6 := hid hf
      have HL6 := hid hL6
      have B6 : Hid (L6.length ≤ 20000016) := hid (by rw [hL6]; rw [List.length_append, leB_length]; have := B5.out; omega)
      clear c0 c1 c2 c3 c4 c5 c6 c7 c8 c9
      clear hf hL6
      obtain ⟨c0, c1, c2, c3, c4, c5, c6, c7, c8, c9⟩ := ten_cells ((F6.out.2.1).heap_some HB.out)
      go_wp2_with fail
      refine (wUint_fr t.fee F6.out (by have := B6.out; omega)).mono ?_
      rintro e w7 ⟨v7, rfl, hf, -⟩
      obtain ⟨sa7, sc7, rfl⟩ := hf.sl
      obtain ⟨L7, hL7⟩ : ∃ L, L = L6 ++ leB 8 t.fee := ⟨_, rfl⟩
      rw [← hL7] at hf ⊢
      have F7 := hid hf
      have HL7 := hid hL7
      have B7 : Hid (L7.length ≤ 20000024) := hid (by rw [hL7]; rw [List.length_append, leB_length]; have := B6.out; omega)
      clear c0 c1 c2 c3 c4 c5 c6 c7 c8 c9
      clear hf hL7
      obtain ⟨c0, c1, c2, c3, c4, c5, c6, c7, c8, c9⟩ := ten_cells ((F7.out.2.1).heap_some HB.out)
      go_wp2_with fail
      refine (wUint_fr t.account F7.out (by have := B7.out; omega)).mono ?_
      rintro e w8 ⟨v8, rfl, hf, -⟩
      obtain ⟨sa8, sc8, rfl⟩ := hf.sl
      obtain ⟨L8, hL8⟩ : ∃ L, L = L7 ++ leB 8 t.account := ⟨_, rfl⟩
      rw [← hL8] at hf ⊢
      have F8 := hid hf
      have HL8 := hid hL8
      have B8 : Hid (L8.length ≤ 20000032) := hid (by rw [hL8]; rw [List.length_append, leB_length]; have := B7.out; omega)
      clear c0 c1 c2 c3 c4 c5 c6 c7 c8 c9
      clear hf hL8
      obtain ⟨c0, c1, c2, c3, c4, c5, c6, c7, c8, c9⟩ := ten_cells ((F8.out.2.1).heap_some HB.out)
      go_wp2_with fail
      refine (wUint_fr t.nonce F8.out (by have := B8.out; omega)).mono ?_
      rintro e w9 ⟨v9, rfl, hf, -⟩
      obtain ⟨sa9, sc9, rfl⟩ := hf.sl
      obtain ⟨L9, hL9⟩ : ∃ L, L = L8 ++ leB 8 t.nonce := ⟨_, rfl⟩
      rw [← hL9] at hf ⊢
      have F9 := hid hf
      have HL9 := hid hL9
      have B9 : Hid (L9.length ≤ 20000040) := hid (by rw [hL9]; rw [List.length_append, leB_length]; have := B8.out; omega)
      clear c0 c1 c2 c3 c4 c5 c6 c7 c8 c9
      clear hf hL9
      obtain ⟨c0, c1, c2, c3, c4, c5, c6, c7, c8, c9⟩ := ten_cells ((F9.out.2.1).heap_some HB.out)
      go_wp2_with fail
      refine (wInt_fr t.expiry F9.out (by have := B9.out; omega)).mono ?_
      rintro e w10 ⟨v10, rfl, hf, -⟩
      obtain ⟨sa10, sc10, rfl⟩ := hf.sl
      obtain ⟨L10, hL10⟩ : ∃ L, L = L9 ++ lenB t.expiry := ⟨_, rfl⟩
      rw [← hL10] at hf ⊢
      have F10 := hid hf
      have HL10 := hid hL10
      have B10 : Hid (L10.length ≤ 20000044) := hid (by rw [hL10]; rw [List.length_append, lenB_length]; have := B9.out; omega)
      clear c0 c1 c2 c3 c4 c5 c6 c7 c8 c9
      clear hf hL10
      go_wp2_with fail
      refine (wBytes_fr (c := t.proof) F10.out (HH.out.p.ext (HX0.out.trans F10.out.2.1)) (by have := B10.out; omega) HS.out.p).mono ?_
      rintro e w11 ⟨v11, rfl, hf, -⟩
      have F11 := hid hf
      clear hf
      go_wp2_with fail
      go_ret
      have hb : L10 ++ bytesB t.proof = txB t := by
        rw [HL10.out, HL9.out, HL8.out, HL7.out, HL6.out, HL5.out, HL4.out, HL3.out, HL2.out, HL1.out]
        unfold txB txTail
        simp [List.append_assoc]
      rw [← hb]
      exact ⟨_, rfl, F11.out.1, HX0.out.trans F11.out.2.1, fun k hk => Nat.le_trans HX0.out.size (F11.out.2.2 k hk)⟩
/-! ## Encode, Weight, ID -/
def EncO (w : World) (t : TxT) (e : Ending) (w' : World) : Prop := ∃ v, e = .returned (.tuple #[v, .int .i64 (txV t)]) ∧ FrB w w' v (if txV t = 0 then txB t else [])
theorem txV_ne {t : TxT} (h : txV t ≠ 0) : (txV t = 1 ∨ txV t = 3) := by
  unfold txV at h ⊢
  split
  · split
    · next h1 h2 => rw [if_pos h1, if_pos h2] at h; exact absurd rfl h
    · exact .inr rfl
  · exact .inl rfl
set_option maxRecDepth 100000 in
set_option maxHeartbeats 3200000 in
theorem txEncode_any (t : TxT) (mv ov pv : Value) (w : World) (h : RdT w t mv ov pv) (hs : TSm t) :
    Calls Try.prog 16 #[txVal t mv ov pv] w (EncO w t) := by
  have HV : Hid (∀ v, Ext w v → Calls Try.prog 40 #[txVal t mv ov pv] v fun e w' => e = .returned (.int .i64 (txV t)) ∧ Ext v w') := hid fun v k => txValid_any t mv ov pv v (h.ext k) hs
  have HE : Hid (∀ v, Ext w v → Calls Try.prog 41 #[txVal t mv ov pv, pv] v (NewB v (txB t))) := hid fun v k => txEnc_any t mv ov pv v (h.ext k) hs
  obtain ⟨ma, mc, oa, oc, pa, pc, rfl, rfl, rfl⟩ := h.shape
  unfold EncO
  obtain ⟨R, hR⟩ : ∃ R, R = txV t := ⟨_, rfl⟩
  rw [← hR] at HV ⊢
  have HR : Hid (R ≠ 0 → R = 1 ∨ R = 3) := hid (by rw [hR]; exact txV_ne)
  generalize txB t = B at *
  clear h hs hR
  obtain ⟨N, hN⟩ : ∃ N, N = w.heap.size := ⟨_, rfl⟩
  obtain ⟨w0, hw0⟩ : ∃ w0, w0 = w.alloc (.cells #[uv t.anchor, .slice ma t.marks.length mc, .slice oa t.outs.length oc, uv t.deposit, uv t.withdraw, uv t.fee, uv t.account, uv t.nonce, .int .i64 t.expiry, .slice pa t.proof.length pc] 39) := ⟨_, rfl⟩
  have hx0 : Ext w w0 := by rw [hw0]; exact (Ext.refl w).alloc _
  have hb0 : w0.heap[N]? = some (.cells #[uv t.anchor, .slice ma t.marks.length mc, .slice oa t.outs.length oc, uv t.deposit, uv t.withdraw, uv t.fee, uv t.account, uv t.nonce, .int .i64 t.expiry, .slice pa t.proof.length pc] 39 (0, 0)) := by rw [hw0, hN]; exact heap_new _ _
  have HB := hid hb0
  have HW := hid hw0
  have HX0 := hid hx0
  clear hw0 hx0 hb0
  obtain ⟨c0, c1, c2, c3, c4, c5, c6, c7, c8, c9⟩ := ten_cells HB.out
  go_enter Try.func16, Try.ntmps16
  go_upto_region 1 with fail
  rw [← HW.out, ← hN]
  clear hN
  go_wp2_with fail
  refine (HV.out _ HX0.out).mono ?_
  rintro e w1 ⟨rfl, hx⟩
  have HX1 := hid hx
  clear hx c0 c1 c2 c3 c4 c5 c6 c7 c8 c9
  by_cases h0 : R = 0
  · subst h0
    obtain ⟨c0, c1, c2, c3, c4, c5, c6, c7, c8, c9⟩ := ten_cells (HX1.out.heap_some HB.out)
    go_wp2_with fail
    refine (HE.out _ (HX0.out.trans HX1.out)).mono ?_
    rintro e w2 ⟨v2, rfl, h1, h2, h3⟩
    have G := hid (And.intro h1 (And.intro h2 h3))
    clear h1 h2 h3 c0 c1 c2 c3 c4 c5 c6 c7 c8 c9
    go_wp2_with fail
    refine bodyPost_ret (v := .tuple #[v2, .int .i64 0]) (by simp [results, Try.results16, go_sem]) rfl ⟨v2, rfl, ?_⟩
    try rw [if_pos rfl]
    exact ⟨G.out.1, (HX0.out.trans HX1.out).trans G.out.2.1, fun k hk => Nat.le_trans (HX0.out.trans HX1.out).size (G.out.2.2 k hk)⟩
  · have hne : (R != 0) = true := by simpa using h0
    have HN0 := hid h0
    clear h0
    go_wp2_with fail
    refine bodyPost_ret (v := .tuple #[.slice none 0 0, .int .i64 R]) (by simp [results, Try.results16, go_sem]) rfl ⟨_, rfl, ?_⟩
    try rw [if_neg HN0.out]
    exact ⟨World.ownsRow_nil _ _ _ _, HX0.out.trans HX1.out, fun k hk => by cases hk⟩
set_option maxRecDepth 100000 in
set_option maxHeartbeats 1600000 in
theorem txWeight_any (t : TxT) (mv ov pv : Value) (w : World) (h : RdT w t mv ov pv) (hs : TSm t) :
    Calls Try.prog 19 #[txVal t mv ov pv] w fun e w' => e = .returned (.int .i64 (((if txV t = 0 then txB t else []).length : Nat) : Int)) ∧ Ext w w' := by
  have HE : Hid (∀ v, Ext w v → Calls Try.prog 16 #[txVal t mv ov pv] v (EncO v t)) := hid fun v k => txEncode_any t mv ov pv v (h.ext k) hs
  obtain ⟨ma, mc, oa, oc, pa, pc, rfl, rfl, rfl⟩ := h.shape
  unfold EncO at HE
  obtain ⟨R, hR⟩ : ∃ R, R = txV t := ⟨_, rfl⟩
  rw [← hR] at HE ⊢
  generalize txB t = B at *
  clear h hs hR
  obtain ⟨N, hN⟩ : ∃ N, N = w.heap.size := ⟨_, rfl⟩
  obtain ⟨w0, hw0⟩ : ∃ w0, w0 = w.alloc (.cells #[uv t.anchor, .slice ma t.marks.length mc, .slice oa t.outs.length oc, uv t.deposit, uv t.withdraw, uv t.fee, uv t.account, uv t.nonce, .int .i64 t.expiry, .slice pa t.proof.length pc] 39) := ⟨_, rfl⟩
  have hx0 : Ext w w0 := by rw [hw0]; exact (Ext.refl w).alloc _
  have hb0 : w0.heap[N]? = some (.cells #[uv t.anchor, .slice ma t.marks.length mc, .slice oa t.outs.length oc, uv t.deposit, uv t.withdraw, uv t.fee, uv t.account, uv t.nonce, .int .i64 t.expiry, .slice pa t.proof.length pc] 39 (0, 0)) := by rw [hw0, hN]; exact heap_new _ _
  have HB := hid hb0
  have HW := hid hw0
  have HX0 := hid hx0
  clear hw0 hx0 hb0
  obtain ⟨c0, c1, c2, c3, c4, c5, c6, c7, c8, c9⟩ := ten_cells HB.out
  go_enter Try.func19, Try.ntmps19
  go_upto_region 1 with fail
  rw [← HW.out, ← hN]
  clear hN
  go_wp2_with fail
  refine (HE.out _ HX0.out).mono ?_
  rintro e w1 ⟨v1, rfl, hf⟩
  have HX1 := hid hf.2.1
  obtain ⟨sa, sc, rfl⟩ := hf.sl
  clear hf c0 c1 c2 c3 c4 c5 c6 c7 c8 c9
  by_cases h0 : R = 0
  · subst h0
    simp only [if_true]
    go_wp2_with fail
    go_ret
    exact ⟨rfl, HX0.out.trans HX1.out⟩
  · have hne : (R != 0) = true := by simpa using h0
    have HN0 := hid h0
    simp only [if_neg HN0.out]
    clear h0
    go_wp2_with fail
    go_ret
    exact ⟨rfl, HX0.out.trans HX1.out⟩
theorem txB_le {t : TxT} (hs : TSm t) : (txB t).length ≤ 200000000 := by
  unfold txB txTail bytesB
  have h1 := outsB_le hs.c
  have h2 := hs.m
  have h3 := hs.o
  have h4 := hs.p
  simp only [List.length_append, leB_length, lenB_length, listB_length]
  omega
set_option maxRecDepth 100000 in
set_option maxHeartbeats 1600000 in
theorem txID_any (t : TxT) (mv ov pv : Value) (w : World) (h : RdT w t mv ov pv) (hs : TSm t) :
    Calls Try.prog 12 #[txVal t mv ov pv] w fun e w' => e = .returned (uv (txId t)) ∧ Ext w w' := by
  have HE : Hid (∀ v, Ext w v → Calls Try.prog 16 #[txVal t mv ov pv] v (EncO v t)) := hid fun v k => txEncode_any t mv ov pv v (h.ext k) hs
  have hle := txB_le hs
  obtain ⟨ma, mc, oa, oc, pa, pc, rfl, rfl, rfl⟩ := h.shape
  unfold EncO at HE
  unfold txId
  have HH : Hid (∀ v x, RdB' v x (txB t) → Calls Try.prog 25 #[.int .u64 14, x] v fun e w' => e = .returned (uv (hashB 14 (txB t))) ∧ Ext v w') := hid fun v x hx => HashB_any 14 x (txB t) v hx (by omega)
  obtain ⟨R, hR⟩ : ∃ R, R = txV t := ⟨_, rfl⟩
  rw [← hR] at HE ⊢
  generalize hashB 14 (txB t) = hb at *
  generalize txB t = B at *
  clear h hs hR hle
  obtain ⟨N, hN⟩ : ∃ N, N = w.heap.size := ⟨_, rfl⟩
  obtain ⟨w0, hw0⟩ : ∃ w0, w0 = w.alloc (.cells #[uv t.anchor, .slice ma t.marks.length mc, .slice oa t.outs.length oc, uv t.deposit, uv t.withdraw, uv t.fee, uv t.account, uv t.nonce, .int .i64 t.expiry, .slice pa t.proof.length pc] 39) := ⟨_, rfl⟩
  have hx0 : Ext w w0 := by rw [hw0]; exact (Ext.refl w).alloc _
  have hb0 : w0.heap[N]? = some (.cells #[uv t.anchor, .slice ma t.marks.length mc, .slice oa t.outs.length oc, uv t.deposit, uv t.withdraw, uv t.fee, uv t.account, uv t.nonce, .int .i64 t.expiry, .slice pa t.proof.length pc] 39 (0, 0)) := by rw [hw0, hN]; exact heap_new _ _
  have HB := hid hb0
  have HW := hid hw0
  have HX0 := hid hx0
  clear hw0 hx0 hb0
  obtain ⟨c0, c1, c2, c3, c4, c5, c6, c7, c8, c9⟩ := ten_cells HB.out
  go_enter Try.func12, Try.ntmps12
  go_upto_region 1 with fail
  rw [← HW.out, ← hN]
  clear hN
  go_wp2_with fail
  refine (HE.out _ HX0.out).mono ?_
  rintro e w1 ⟨v1, rfl, hf⟩
  have HX1 := hid hf.2.1
  obtain ⟨sa, sc, rfl⟩ := hf.sl
  have HF := hid hf
  clear hf c0 c1 c2 c3 c4 c5 c6 c7 c8 c9
  by_cases h0 : R = 0
  · subst h0
    simp only [if_true] at HF ⊢
    go_wp2_with fail
    refine (HH.out _ _ HF.out.1.weak).mono ?_
    rintro e w2 ⟨rfl, hx⟩
    have HX2 := hid ((HX0.out.trans HX1.out).trans hx)
    clear hx
    go_wp2_with fail
    go_ret
    exact ⟨rfl, HX2.out⟩
  · have hne : (R != 0) = true := by simpa using h0
    have HN0 := hid h0
    simp only [if_neg HN0.out]
    clear h0
    go_wp2_with fail
    go_ret
    exact ⟨rfl, HX0.out.trans HX1.out⟩
end Go.Proofs.Ytkdnnekdldomeaa
