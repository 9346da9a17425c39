/- decrypt of the cipher. Open of the cipher. -/
import Derived.Test.YtgfmjfkdogcnhaaGreatCipSeal
import Derived.Test.YtgfmjfkdogcnhaaGreatTake
set_option linter.unusedSimpArgs false
namespace Go.Proofs.YtgfmjfkdogcnhaaGreat
open Go.RowKit
attribute [local irreducible] perm fAdd fMul fPow fSub fNeg fRed

/-- What the loop of decrypt keeps. -/
structure DecI (w : World) (nf g gp n i : Nat) (s : S3) (L : List UInt64) (v : World) : Prop where
  fld : v.heap[nf]? = some (.cells #[.int .u64 18446744069414584321] 135 (0, 0))
  st : v.heap[g]? = some (.cells s.arr 29 (0, 0))
  part : UPart v gp n i L
  ex : Ext w v
theorem DecI.ext {w v v' : World} {nf g gp n i : Nat} {s : S3} {L : List UInt64} (h : DecI w nf g gp n i s L v) (k : Ext v v') : DecI w nf g gp n i s L v' :=
  ⟨k.heap_some h.fld, k.heap_some h.st, h.part.kp (Kp.of_ext (F := fun _ => False) k) id, h.ex.trans k⟩
theorem DecI.set {w v : World} {nf g gp n i : Nat} {s : S3} {L : List UInt64} (h : DecI w nf g gp n i s L v) (hg : w.heap.size ≤ g) (o : Nat) (x : Value) (s' : S3) (hs : s.arr.setIfInBounds o x = s'.arr) : DecI w nf g gp n i s' L (v.setCell ⟨g, o, none⟩ x) where
  fld := (heap_setCell_ne (by rintro rfl; have h1 := h.fld; rw [h.st] at h1; injection h1 with h1; injection h1 with _ h1; exact absurd h1 (by decide)) o x).trans h.fld
  st := by rw [heap_setCell_same h.st o x, hs]
  part := h.part.kp ((Kp.refl (fun k => k = g) v).setCell (p := ⟨g, o, none⟩) (.inl rfl) x) (by
    rintro rfl
    obtain ⟨cur, h1, -⟩ := h.part
    rw [h.st] at h1; injection h1 with h1; injection h1 with _ h1; exact absurd h1 (by decide))
  ex := h.ex.setCell hg x
theorem DecI.more {w v : World} {nf g gp n i : Nat} {s : S3} {L : List UInt64} (h : DecI w nf g gp n i s L v) (hg : w.heap.size ≤ gp) {x : UInt64} (hx : L[i]? = some x) (hi : i < n) : DecI w nf g gp n (i + 1) s L (v.setCell ⟨gp, i, none⟩ (uv x)) where
  fld := (heap_setCell_ne (by rintro rfl; obtain ⟨cur, h1, -⟩ := h.part; rw [h.fld] at h1; injection h1 with h1; injection h1 with _ h1; exact absurd h1 (by decide)) i (uv x)).trans h.fld
  st := (heap_setCell_ne (by rintro rfl; obtain ⟨cur, h1, -⟩ := h.part; rw [h.st] at h1; injection h1 with h1; injection h1 with _ h1; exact absurd h1 (by decide)) i (uv x)).trans h.st
  part := h.part.more hx hi
  ex := h.ex.setCell hg (uv x)
theorem UPart.cell {v : World} {gp n i j : Nat} {L : List UInt64} (h : UPart v gp n i L) (hj : j < n) : (∃ u, v.cell? ⟨gp, j, none⟩ = some u) ∧ ∀ o, v.frozen? ⟨gp, o, none⟩ = false := by
  obtain ⟨cur, h1, h2, -⟩ := h
  exact ⟨⟨_, (cell_of h1 j).trans (Array.getElem?_eq_getElem (by omega))⟩, frozen_of h1⟩

def DecO (w : World) (r : List UInt64 × UInt64) (e : Ending) (w' : World) : Prop :=
  ∃ v, e = .returned (.tuple #[v, uv r.2]) ∧ OwnU w' v r.1 ∧ Ext w w' ∧ ∀ k, blk v = some k → w.heap.size ≤ k
set_option maxRecDepth 100000 in
set_option maxHeartbeats 3200000 in
theorem decrypt_any (key nonce : UInt64) (lv : Value) (l : List UInt64) (w : World) (hl : RdU w lv l) (hL : l.length ≤ 100000000) :
    Calls Tryz.prog 84 #[uv key, uv nonce, lv] w (DecO w (cipDec key nonce l)) := by
  obtain ⟨i0, hi, hz0, hz1, hz2⟩ := info_parts Tryz.infoU
  have HL := hid hl
  obtain ⟨la, lc, rfl, -⟩ := id hl
  obtain ⟨n, hn⟩ : ∃ n, n = l.length := ⟨_, rfl⟩
  have HN := hid hn
  have CS : Hid (∀ v, Calls Tryz.prog 97 #[uv key, uv nonce, .int .i64 (n : Int)] v fun e w' => e = .returned (cipStart key nonce n).v ∧ Ext v w') := hid fun v => start_any key nonce n (by omega) v
  have hCS : cipDec key nonce l = ((decL n 0 (cipStart key nonce n) l).2, (decL n 0 (cipStart key nonce n) l).1.a) := by rw [hn]; rfl
  have HCS := hid hCS
  have hDL : (decL n 0 (cipStart key nonce n) l).2.length = n := by rw [decL_length, hn]
  rw [← hn] at hL ⊢
  clear hl hn hCS
  generalize cipStart key nonce n = s0 at *
  obtain ⟨T, O, hTO⟩ : ∃ T O, decL n 0 s0 l = (T, O) := ⟨_, _, rfl⟩
  rw [hTO] at HCS hDL
  simp only at HCS hDL
  have HTO := hid hTO
  have HDL := hid hDL
  clear hTO hDL
  have hb1 : i0.bytes * n ≤ 281474976710656 := by rw [hz2]; omega
  have hb2 : n ≤ maxLen := by unfold maxLen; omega
  have B1 := hid hb1
  have B2 := hid hb2
  clear hb1 hb2
  go_enter Tryz.func84, Tryz.ntmps84
  go_wp2_with fail
  have hf1 := heap_new w (.cells #[.int .u64 18446744069414584321] 135)
  have hx1 := (Ext.refl w).alloc (.cells #[.int .u64 18446744069414584321] 135)
  generalize hw1 : w.alloc (.cells #[.int .u64 18446744069414584321] 135) = w1 at *
  refine (CS.out _).mono ?_
  rintro e w2 ⟨rfl, hx2⟩
  have hg2 := heap_new w2 (.cells s0.arr 29)
  have hx3 := hx2.alloc (.cells s0.arr 29)
  have HF3 := hid (hx3.heap_some hf1)
  have HG : Hid (w.heap.size ≤ w2.heap.size) := hid (hx1.trans hx2).size
  have HX3 := hid (hx1.trans hx3)
  have HG2 := hid hg2
  have hz3 : (w2.alloc (.cells s0.arr 29)).heap.size = w2.heap.size + 1 := World.size_alloc _ _
  have HGP : Hid (w.heap.size ≤ w2.heap.size + 1) := hid (by have := HG.out; omega)
  clear hf1 hx1 hw1 hx2 hg2 hx3
  go_wp2_with (at_make; refine wpList_make_full _ rfl _ _ 26 rfl 0 22 i0 (.int .u64 0) 1 (by kernel_rfl) hi hz0 hz1 _ _ _ _ n rfl rfl rfl rfl B1.out B2.out (Nat.zero_le _) ?_)
  intro w4 hown0 hgr
  generalize hw3 : w2.alloc (.cells s0.arr 29) = w3 at *
  have hE4 : Ext w3 w4 := (grown_kp hgr).toExt (by intro k h; cases h)
  have hp0 : UPart w4 (w2.heap.size + 1) n 0 O := by
    rcases hown0.2 with ⟨h, _⟩ | ⟨gq, cap, cur, h, _, h2, _, _, h3, _⟩
    · cases h
    · injection h with h h4 h5
      injection h with h
      injection h with h
      subst h
      exact ⟨cur, h2, by rw [h3, ← h5, Nat.mul_one], by simp⟩
  have I0 : Hid (DecI w w.heap.size w2.heap.size (w2.heap.size + 1) n 0 s0 O w4) := hid ⟨hE4.heap_some HF3.out, hE4.heap_some HG2.out, hp0, HX3.out.trans hE4⟩
  clear hown0 hgr hE4 hp0 hw3 HF3 HG2 HX3 B1 hz3
  go_wp2
  go_loopw [24] (fun iv wr => ∃ (i : Nat) (s : S3) (r out : List UInt64), i ≤ n ∧ iv = .int .i64 i ∧ Hid (l.drop i = r) ∧ Hid (∃ tl, decL n i s r = (T, tl) ∧ out ++ tl = O) ∧ Hid (out.length = i) ∧ Hid (DecI w w.heap.size w2.heap.size (w2.heap.size + 1) n i s O wr)) (fun iv _ => n - (intOf iv).toNat)
  case atStart => exact ⟨0, s0, l, [], by omega, rfl, hid rfl, hid ⟨O, HTO.out, rfl⟩, hid rfl, I0⟩
  case round =>
    obtain ⟨i, s, r, out, hin, rfl, HDR, HEN, HOL, HCI⟩ := hrel
    by_cases hlt : i < n
    · have hltB : decide ((i : Int) < (n : Int)) = true := by simp; omega
      have hi0' : (0 : Int) ≤ (i : Int) := Int.natCast_nonneg _
      have hil : (i : Int) < (n : Int) := by omega
      obtain ⟨c, r1, hr⟩ : ∃ x r1, r = x :: r1 := by
        cases r with
        | nil => have h := congrArg List.length HDR.out; rw [List.length_drop] at h; have := HN.out; simp at h; omega
        | cons x r1 => exact ⟨x, r1, rfl⟩
      subst hr
      obtain ⟨hx, hdr⟩ := drop_at HDR.out
      obtain ⟨b, o, hlaeq, hcx⟩ := (HL.out.ext HCI.out.ex).at hx
      subst hlaeq
      obtain ⟨tl, h1, h2⟩ := HEN.out
      rw [decL_cons] at h1
      injection h1 with h1 h3
      obtain ⟨tl', htl⟩ : ∃ tl', tl' = (decL n (i + 1) ((s.put i c).next n i) r1).2 := ⟨_, rfl⟩
      have hen' : ∃ tl, decL n (i + 1) ((s.put i c).next n i) r1 = (T, tl) ∧ (out ++ [fSub c (s.slot i)]) ++ tl = O := ⟨tl', by rw [← h1, htl], by rw [← h2, ← h3, ← htl]; simp⟩
      have hOi : O[i]? = some (fSub c (s.slot i)) := by
        rw [← h2, ← h3, List.getElem?_append_right (by rw [HOL.out]; exact Nat.le_refl _), HOL.out, Nat.sub_self]; rfl
      have HOI := hid hOi
      have HEN' := hid hen'
      have HDR' := hid hdr
      have HOL' : Hid ((out ++ [fSub c (s.slot i)]).length = i + 1) := hid (by rw [List.length_append, HOL.out]; rfl)
      have CA : Hid (∀ v, Calls Tryz.prog 100 #[.agg #[.int .u64 18446744069414584321], uv c, uv (s.slot i)] v fun e w' => e = .returned (uv (fSub c (s.slot i))) ∧ Ext v w') := hid fun v => Sub_any _ big_is c (s.slot i) v
      have HX := hid hcx
      clear h1 h2 h3 htl hen' hdr hx HDR HEN hcx hOi
      rcases Nat.mod_two_eq_zero_or_one i with hm | hm
      · have hmI : (i : Int) % 2 = 0 := by omega
        have hmT : (i : Int).tmod 2 = 0 := by rw [Int.tmod_eq_emod_of_nonneg hi0']; exact hmI
        have hslot : s.slot i = s.a := by unfold S3.slot; rw [hm]; rfl
        rw [hslot] at CA HEN' HOL' HOI
        obtain ⟨x, hx⟩ : ∃ x, x = fSub c s.a := ⟨_, rfl⟩
        rw [← hx] at CA HEN' HOL' HOI
        clear hx hslot
        obtain ⟨s1, hs1⟩ : ∃ s1, s1 = (⟨c, s.b, s.c⟩ : S3) := ⟨_, rfl⟩
        have hput : s.put i c = s1 := by rw [hs1]; unfold S3.put; rw [hm]; rfl
        rw [hput] at HEN'
        clear hput
        have HS1D := hid hs1
        clear hs1
        have H2 : Hid (∀ v, Ext wr v → v.cell? ⟨w2.heap.size, 0, none⟩ = some (uv s.a) ∧ v.cell? ⟨w.heap.size, 0, none⟩ = some (.int .u64 18446744069414584321)) := hid fun v k => ⟨cell_of (k.heap_some HCI.out.st) 0, cell_of (k.heap_some HCI.out.fld) 0⟩
        have cx := HX.out
        go_wp2_with fail
        refine wp_region_T (fun v => (v.cell? ⟨w2.heap.size, 0, none⟩ = some (uv s.a) ∧ v.cell? ⟨w.heap.size, 0, none⟩ = some (.int .u64 18446744069414584321)) ∧ Ext wr v) 9 [(0, true), (1, true), (2, true), (3, true), (4, true), (5, true), (6, true), (7, true), (8, false), (9, false), (10, false)] (by kernel_rfl) (by kernel_rfl) (by intro c a d v w h; cases d <;> exact h) ?_
        intro ops hops
        have HS : _ ∧ Ext wr wr.drew := ⟨H2.out _ (Ext.refl wr).drew, (Ext.refl wr).drew⟩
        iterate 8
          refine wpT_take (v := ?_) (by rw [hops, List.getElem?_toArray]; rfl) (by first | rfl | (rw [hops]; rfl)) ?_ HS ?_
          rotate_left
          · intro v h; go_simp; with_reducible rfl
          simp only [Act.put, List.getElem_toArray, List.getElem_cons_zero, List.getElem_cons_succ, List.setIfInBounds_toArray, List.set_cons_zero, List.set_cons_succ]
        refine wpT_step (by rw [hops, List.getElem?_toArray]; rfl) (by first | rfl | (rw [hops]; rfl)) ?_
        intro K hK
        go_wp2_with fail
        refine (CA.out _).mono ?_
        rintro e v1 ⟨rfl, hx1⟩
        have HC1 := hid (HCI.out.ext ((Ext.refl wr).drew.trans hx1))
        have hx1' := (Ext.refl wr).drew.trans hx1
        have HSS : _ ∧ Ext wr v1 := ⟨H2.out _ hx1', hx1'⟩
        obtain ⟨⟨u0, f0⟩, ff⟩ := HC1.out.part.cell hlt
        have ff' := ff i
        clear hx1 HS
        refine hK _ _ ⟨fun _ => HSS, ?_⟩
        clear hK K
        refine wpT_step (by rw [hops, List.getElem?_toArray]; rfl) (by first | rfl | (rw [hops]; rfl)) ?_
        intro K hK
        go_wp2_with fail
        refine ⟨fun h => absurd h (by decide), ?_⟩
        refine wpT_step (by rw [hops, List.getElem?_toArray]; rfl) (by first | rfl | (rw [hops]; rfl)) ?_
        intro K hK
        go_wp2_with fail
        refine ⟨fun h => absurd h (by decide), ?_⟩
        rw [wpT_nil]
        clear hops ops
        clear HSS hx1' f0 ff ff' cx
        have HC2 := hid (HC1.out.more HGP.out HOI.out hlt)
        clear HC1
        generalize v1.setCell ⟨w2.heap.size + 1, i, none⟩ (.int .u64 (x.toNat : Int)) = v2 at *
        have f0 : v2.cell? ⟨w2.heap.size, 0, none⟩ = some (uv s.a) := cell_of HC2.out.st 0
        have ff : ∀ i, v2.frozen? ⟨w2.heap.size, i, none⟩ = false := fun i => frozen_of HC2.out.st i
        have HC3 := hid (HC2.out.set HG.out 0 (uv c) s1 (by rw [HS1D.out]; rfl))
        have CP : Hid (∀ v, Calls Tryz.prog 99 #[.int .u64 18446744069414584321, .agg #[uv s1.a, uv s1.b, uv s1.c]] v fun e w' => e = .returned (perm s1).v ∧ Ext v w') := hid fun v => Permute_any _ big_is s1 v
        have hwn : IntKind.i64.wrap ((n : Int) - 1) = (n : Int) - 1 := IntWalk.i64_in _ (by omega)
        by_cases hl1 : i + 1 = n
        · have hq : ((i : Int) == (n : Int) - 1) = true := by simp; omega
          have hnx : s1.next n i = perm s1 := by unfold S3.next; rw [if_pos (.inr hl1)]
          rw [hnx] at HEN'
          clear hnx
          have c0 := cell_of HC3.out.st 0
          have c1 := cell_of HC3.out.st 1
          have c2 := cell_of HC3.out.st 2
          simp only [List.getElem?_toArray] at c0 c1 c2
          have c0 : (v2.setCell ⟨w2.heap.size, 0, none⟩ (.int .u64 (c.toNat : Int))).cell? ⟨w2.heap.size, 0, none⟩ = some (uv s1.a) := c0
          have c1 : (v2.setCell ⟨w2.heap.size, 0, none⟩ (.int .u64 (c.toNat : Int))).cell? ⟨w2.heap.size, 1, none⟩ = some (uv s1.b) := c1
          have c2 : (v2.setCell ⟨w2.heap.size, 0, none⟩ (.int .u64 (c.toNat : Int))).cell? ⟨w2.heap.size, 2, none⟩ = some (uv s1.c) := c2
          go_wp2_with fail
          refine (CP.out _).mono ?_
          rintro e w6 ⟨rfl, hx6⟩
          have HC4 := hid (HC3.out.ext hx6)
          clear hx6 c0 c1 c2 f0 ff
          have c0 : w6.cell? ⟨w2.heap.size, 0, none⟩ = some (uv s1.a) := cell_of HC4.out.st 0
          have c1 : w6.cell? ⟨w2.heap.size, 1, none⟩ = some (uv s1.b) := cell_of HC4.out.st 1
          have c2 : w6.cell? ⟨w2.heap.size, 2, none⟩ = some (uv s1.c) := cell_of HC4.out.st 2
          have ff : ∀ i, w6.frozen? ⟨w2.heap.size, i, none⟩ = false := fun i => frozen_of HC4.out.st i
          go_wp2
          go_roundw
          case rel =>
            refine ⟨i + 1, perm s1, r1, out ++ [x], by omega, by go_num, HDR', HEN', HOL', hid ?_⟩
            have k1 := HC4.out.set HG.out 0 (uv (perm s1).a) ⟨(perm s1).a, s1.b, s1.c⟩ rfl
            have k2 := k1.set HG.out 1 (uv (perm s1).b) ⟨(perm s1).a, (perm s1).b, s1.c⟩ rfl
            exact k2.set HG.out 2 (uv (perm s1).c) (perm s1) rfl
          case measure => simp [intOf]; omega
        · have hq : ((i : Int) == (n : Int) - 1) = false := by simp; omega
          have hnx : s1.next n i = s1 := by unfold S3.next; rw [if_neg (by rintro (h | h) <;> omega)]
          rw [hnx] at HEN'
          clear hnx
          go_wp2_with fail
          go_roundw
          case rel => exact ⟨i + 1, s1, r1, out ++ [x], by omega, by go_num, HDR', HEN', HOL', HC3⟩
          case measure => simp [intOf]; omega
      · have hmI : (i : Int) % 2 = 1 := by omega
        have hmT : (i : Int).tmod 2 = 1 := by rw [Int.tmod_eq_emod_of_nonneg hi0']; exact hmI
        have hslot : s.slot i = s.b := by unfold S3.slot; rw [hm]; rfl
        rw [hslot] at CA HEN' HOL' HOI
        obtain ⟨x, hx⟩ : ∃ x, x = fSub c s.b := ⟨_, rfl⟩
        rw [← hx] at CA HEN' HOL' HOI
        clear hx hslot
        obtain ⟨s1, hs1⟩ : ∃ s1, s1 = (⟨s.a, c, s.c⟩ : S3) := ⟨_, rfl⟩
        have hput : s.put i c = s1 := by rw [hs1]; unfold S3.put; rw [hm]; rfl
        rw [hput] at HEN'
        clear hput
        have HS1D := hid hs1
        clear hs1
        have H2 : Hid (∀ v, Ext wr v → v.cell? ⟨w2.heap.size, 1, none⟩ = some (uv s.b) ∧ v.cell? ⟨w.heap.size, 0, none⟩ = some (.int .u64 18446744069414584321)) := hid fun v k => ⟨cell_of (k.heap_some HCI.out.st) 1, cell_of (k.heap_some HCI.out.fld) 0⟩
        have cx := HX.out
        go_wp2_with fail
        refine wp_region_T (fun v => (v.cell? ⟨w2.heap.size, 1, none⟩ = some (uv s.b) ∧ v.cell? ⟨w.heap.size, 0, none⟩ = some (.int .u64 18446744069414584321)) ∧ Ext wr v) 9 [(0, true), (1, true), (2, true), (3, true), (4, true), (5, true), (6, true), (7, true), (8, false), (9, false), (10, false)] (by kernel_rfl) (by kernel_rfl) (by intro c a d v w h; cases d <;> exact h) ?_
        intro ops hops
        have HS : _ ∧ Ext wr wr.drew := ⟨H2.out _ (Ext.refl wr).drew, (Ext.refl wr).drew⟩
        iterate 8
          refine wpT_take (v := ?_) (by rw [hops, List.getElem?_toArray]; rfl) (by first | rfl | (rw [hops]; rfl)) ?_ HS ?_
          rotate_left
          · intro v h; go_simp; with_reducible rfl
          simp only [Act.put, List.getElem_toArray, List.getElem_cons_zero, List.getElem_cons_succ, List.setIfInBounds_toArray, List.set_cons_zero, List.set_cons_succ]
        refine wpT_step (by rw [hops, List.getElem?_toArray]; rfl) (by first | rfl | (rw [hops]; rfl)) ?_
        intro K hK
        go_wp2_with fail
        refine (CA.out _).mono ?_
        rintro e v1 ⟨rfl, hx1⟩
        have HC1 := hid (HCI.out.ext ((Ext.refl wr).drew.trans hx1))
        have hx1' := (Ext.refl wr).drew.trans hx1
        have HSS : _ ∧ Ext wr v1 := ⟨H2.out _ hx1', hx1'⟩
        obtain ⟨⟨u0, f0⟩, ff⟩ := HC1.out.part.cell hlt
        have ff' := ff i
        clear hx1 HS
        refine hK _ _ ⟨fun _ => HSS, ?_⟩
        clear hK K
        refine wpT_step (by rw [hops, List.getElem?_toArray]; rfl) (by first | rfl | (rw [hops]; rfl)) ?_
        intro K hK
        go_wp2_with fail
        refine ⟨fun h => absurd h (by decide), ?_⟩
        refine wpT_step (by rw [hops, List.getElem?_toArray]; rfl) (by first | rfl | (rw [hops]; rfl)) ?_
        intro K hK
        go_wp2_with fail
        refine ⟨fun h => absurd h (by decide), ?_⟩
        rw [wpT_nil]
        clear hops ops
        clear HSS hx1' f0 ff ff' cx
        have HC2 := hid (HC1.out.more HGP.out HOI.out hlt)
        clear HC1
        generalize v1.setCell ⟨w2.heap.size + 1, i, none⟩ (.int .u64 (x.toNat : Int)) = v2 at *
        have f0 : v2.cell? ⟨w2.heap.size, 1, none⟩ = some (uv s.b) := cell_of HC2.out.st 1
        have ff : ∀ i, v2.frozen? ⟨w2.heap.size, i, none⟩ = false := fun i => frozen_of HC2.out.st i
        have HC3 := hid (HC2.out.set HG.out 1 (uv c) s1 (by rw [HS1D.out]; rfl))
        have CP : Hid (∀ v, Calls Tryz.prog 99 #[.int .u64 18446744069414584321, .agg #[uv s1.a, uv s1.b, uv s1.c]] v fun e w' => e = .returned (perm s1).v ∧ Ext v w') := hid fun v => Permute_any _ big_is s1 v
        have hwn : IntKind.i64.wrap ((n : Int) - 1) = (n : Int) - 1 := IntWalk.i64_in _ (by omega)
        have hnx : s1.next n i = perm s1 := by unfold S3.next; rw [if_pos (.inl hm)]
        rw [hnx] at HEN'
        clear hnx
        have c0 := cell_of HC3.out.st 0
        have c1 := cell_of HC3.out.st 1
        have c2 := cell_of HC3.out.st 2
        simp only [List.getElem?_toArray] at c0 c1 c2
        have c0 : (v2.setCell ⟨w2.heap.size, 1, none⟩ (.int .u64 (c.toNat : Int))).cell? ⟨w2.heap.size, 0, none⟩ = some (uv s1.a) := c0
        have c1 : (v2.setCell ⟨w2.heap.size, 1, none⟩ (.int .u64 (c.toNat : Int))).cell? ⟨w2.heap.size, 1, none⟩ = some (uv s1.b) := c1
        have c2 : (v2.setCell ⟨w2.heap.size, 1, none⟩ (.int .u64 (c.toNat : Int))).cell? ⟨w2.heap.size, 2, none⟩ = some (uv s1.c) := c2
        go_wp2_with fail
        refine (CP.out _).mono ?_
        rintro e w6 ⟨rfl, hx6⟩
        have HC4 := hid (HC3.out.ext hx6)
        clear hx6 c0 c1 c2 f0 ff
        have c0 : w6.cell? ⟨w2.heap.size, 0, none⟩ = some (uv s1.a) := cell_of HC4.out.st 0
        have c1 : w6.cell? ⟨w2.heap.size, 1, none⟩ = some (uv s1.b) := cell_of HC4.out.st 1
        have c2 : w6.cell? ⟨w2.heap.size, 2, none⟩ = some (uv s1.c) := cell_of HC4.out.st 2
        have ff : ∀ i, w6.frozen? ⟨w2.heap.size, i, none⟩ = false := fun i => frozen_of HC4.out.st i
        go_wp2
        go_roundw
        case rel =>
          refine ⟨i + 1, perm s1, r1, out ++ [x], by omega, by go_num, HDR', HEN', HOL', hid ?_⟩
          have k1 := HC4.out.set HG.out 0 (uv (perm s1).a) ⟨(perm s1).a, s1.b, s1.c⟩ rfl
          have k2 := k1.set HG.out 1 (uv (perm s1).b) ⟨(perm s1).a, (perm s1).b, s1.c⟩ rfl
          exact k2.set HG.out 2 (uv (perm s1).c) (perm s1) rfl
        case measure => simp [intOf]; omega
    · have hii : i = n := by omega
      have hltB : decide ((i : Int) < (n : Int)) = false := by simp; omega
      have hr0 : r = [] := by
        have h := congrArg List.length HDR.out
        rw [List.length_drop] at h
        exact List.eq_nil_of_length_eq_zero (by have := HN.out; omega)
      subst hr0
      obtain ⟨tl, h1, h2⟩ := HEN.out
      rw [decL] at h1
      injection h1 with h1 h3
      subst h1 h3
      have hpart := HCI.out.part
      rw [hii] at hpart
      have HOWN := hid (hpart.own HDL.out B2.out)
      have H1 : Hid (∀ v, Ext wr v → v.cell? ⟨w2.heap.size, 0, none⟩ = some (uv s.a)) := hid fun v k => cell_of (k.heap_some HCI.out.st) 0
      clear HEN HDR h2 hpart I0
      go_wp2_with fail
      refine wp_region_T (fun v => v.cell? ⟨w2.heap.size, 0, none⟩ = some (uv s.a) ∧ Ext wr v) 4 [(0, true), (1, true), (2, true), (3, true), (4, false)] (by kernel_rfl) (by kernel_rfl) (by intro c a d v w h; cases d <;> exact h) ?_
      intro ops hops
      have HS : _ ∧ Ext wr wr.drew := ⟨H1.out _ (Ext.refl wr).drew, (Ext.refl wr).drew⟩
      iterate 4
        refine wpT_take (v := ?_) (by rw [hops, List.getElem?_toArray]; rfl) (by first | rfl | (rw [hops]; rfl)) ?_ HS ?_
        rotate_left
        · intro v h; go_simp; with_reducible rfl
        simp only [Act.put, List.getElem_toArray, List.getElem_cons_zero, List.getElem_cons_succ, List.setIfInBounds_toArray, List.set_cons_zero, List.set_cons_succ]
      refine wpT_step (by rw [hops, List.getElem?_toArray]; rfl) (by first | rfl | (rw [hops]; rfl)) ?_
      intro K hK
      go_wp2_with fail
      refine ⟨fun h => absurd h (by decide), ?_⟩
      rw [wpT_nil]
      clear hops ops
      clear HS
      go_wp2_with fail
      rw [HCS.out]
      exact bodyPost_ret (v := .tuple #[.slice (some ⟨w2.heap.size + 1, 0, none⟩) n n, uv s.a]) (by simp [results, Tryz.results84, go_sem]) rfl ⟨_, rfl, ownsRow_ext HOWN.out (Ext.refl wr).drew, HCI.out.ex.drew, fun k hk => by injection hk with hk; have := HGP.out; simp only at hk; omega⟩
end Go.Proofs.YtgfmjfkdogcnhaaGreat
namespace Go.Proofs.YtgfmjfkdogcnhaaGreat
open Go.RowKit
attribute [local irreducible] perm fAdd fMul fPow fSub fNeg fRed

/-- What Open hands back: the plain list, and whether the tag is right. -/
def cipOpen (key nonce : UInt64) (l : List UInt64) : List UInt64 × Bool :=
  if cipE key nonce l && (match l.getLast? with | some t => (cipDec key nonce l.dropLast).2 == t | none => false) then ((cipDec key nonce l.dropLast).1, true) else ([], false)
theorem cipOpen_nil (key nonce : UInt64) : cipOpen key nonce [] = ([], false) := by unfold cipOpen; simp
theorem cipOpen_bad {key nonce : UInt64} {l : List UInt64} (h : cipE key nonce l = false) : cipOpen key nonce l = ([], false) := by unfold cipOpen; rw [h]; rfl
theorem cipOpen_snoc {key nonce : UInt64} {l : List UInt64} {t : UInt64} (h : cipE key nonce (l ++ [t]) = true) : cipOpen key nonce (l ++ [t]) = if (cipDec key nonce l).2 == t then ((cipDec key nonce l).1, true) else ([], false) := by
  unfold cipOpen; rw [h]; simp
def OpenC (w : World) (r : List UInt64 × Bool) (e : Ending) (w' : World) : Prop :=
  ∃ v, e = .returned (.tuple #[v, .bool r.2]) ∧ OwnU w' v r.1 ∧ Ext w w' ∧ ∀ k, blk v = some k → w.heap.size ≤ k
theorem OpenC.none {w w' : World} (k : Ext w w') : OpenC w ([], false) (.returned (.tuple #[.slice none 0 0, .bool false])) w' := ⟨_, rfl, World.ownsRow_nil _ _ _ _, k, fun k h => by cases h⟩

set_option maxRecDepth 100000 in
set_option maxHeartbeats 3200000 in
theorem cipOpen_any (key nonce : UInt64) (lv : Value) (l : List UInt64) (w : World) (hl : RdU w lv l) (hL : l.length ≤ 100000000) :
    Calls Tryz.prog 55 #[uv key, uv nonce, lv] w (OpenC w (cipOpen key nonce l)) := by
  have HE := hid (cipElements_any key nonce lv l w hl (by omega))
  obtain ⟨la, lc, rfl, hlc, hlm, hnil, hcell⟩ := id hl
  have HL := hid hl
  rcases List.eq_nil_or_concat l with rfl | ⟨l0, t, rfl⟩
  · have HR := hid (cipOpen_nil key nonce)
    clear hl hcell HL hnil hlc hlm
    have h0 : (([] : List UInt64).length : Int) = 0 := rfl
    go_enter Tryz.func55, Tryz.ntmps55
    go_wp2_with fail
    rw [HR.out]
    exact bodyPost_ret (v := .tuple #[.slice none 0 0, .bool false]) (by simp [results, Tryz.results55, go_sem]) rfl (.none (Ext.refl _))
  · rw [List.concat_eq_append] at *
    obtain ⟨b, o, hla, hct⟩ := HL.out.at (i := l0.length) (x := t) (by simp)
    subst hla
    have hlen : (l0 ++ [t]).length = l0.length + 1 := by simp
    obtain ⟨n, hn⟩ : ∃ n, n = l0.length := ⟨_, rfl⟩
    have hr0 : RdU w (.slice (some ⟨b, o, none⟩) n lc) l0 := by
      refine ⟨_, lc, by rw [hn], by omega, hlm, (fun h => by cases h), fun ad ha => ⟨(hcell ad ha).1, fun i x hx => (hcell ad ha).2 i x ?_⟩⟩
      rw [List.getElem?_append_left ((List.getElem?_eq_some_iff.1 hx).1)]; exact hx
    rw [hlen, ← hn] at HE HL ⊢
    have hn1 : n ≤ 100000000 := by omega
    rw [← hn] at hct
    have CD : Hid (Calls Tryz.prog 84 #[uv key, uv nonce, .slice (some ⟨b, o, none⟩) n lc] w (DecO w (cipDec key nonce l0))) := hid (decrypt_any key nonce _ l0 w hr0 (by omega))
    have hnc : n + 1 ≤ lc := by omega
    have hz0 : (((n + 1 : Nat) : Int) == 0) = false := by simp; omega
    have hw1 : IntKind.i64.wrap (((n + 1 : Nat) : Int) - 1) = (n : Int) := by rw [IntWalk.i64_in _ (by omega)]; omega
    clear hl hcell hnil hlc hlen hr0 HL hn
    cases hE : cipE key nonce (l0 ++ [t]) with
    | false =>
      rw [hE] at HE
      have HR := hid (cipOpen_bad hE)
      clear hE
      go_enter Tryz.func55, Tryz.ntmps55
      go_wp2_with fail
      refine HE.out.mono ?_
      rintro e w1 ⟨rfl, rfl⟩
      go_wp2_with fail
      rw [HR.out]
      exact bodyPost_ret (v := .tuple #[.slice none 0 0, .bool false]) (by simp [results, Tryz.results55, go_sem]) rfl (.none (Ext.refl _))
    | true =>
      rw [hE] at HE
      have HR := hid (cipOpen_snoc hE)
      clear hE
      generalize cipDec key nonce l0 = pd at *
      obtain ⟨pl, tg⟩ := pd
      simp only at HR
      have hnn : (0 : Int) ≤ (n : Int) := Int.natCast_nonneg _
      have hnl : (n : Int) < ((n + 1 : Nat) : Int) := by omega
      have HCT := hid hct
      go_enter Tryz.func55, Tryz.ntmps55
      go_wp2_with fail
      refine HE.out.mono ?_
      rintro e w1 ⟨rfl, rfl⟩
      go_wp2_with fail
      refine CD.out.mono ?_
      rintro e w2 ⟨pv, rfl, hown, hx2, hfr⟩
      simp only at hown
      obtain ⟨pa, pc, rfl, -⟩ := ownsRow_rd hown
      have hct2 := hx2.cell_some HCT.out
      have HX2 := hid hx2
      have HOWN := hid hown
      have HFR := hid hfr
      clear hx2 hown hfr hct
      rcases htt : ((tg.toNat : Int) != (t.toNat : Int)) with _ | _
      · have htb : (tg == t) = true := by
          have h1 : (tg.toNat : Int) = (t.toNat : Int) := by simpa using htt
          have h2 : tg = t := UInt64.toNat_inj.1 (by omega)
          rw [h2]; simp
        rw [htb] at HR
        simp only [if_true] at HR
        go_wp2_with fail
        rw [HR.out]
        exact bodyPost_ret (v := .tuple #[.slice pa pl.length pc, .bool true]) (by simp [results, Tryz.results55, go_sem]) rfl ⟨_, rfl, HOWN.out, HX2.out, HFR.out⟩
      · have htb : (tg == t) = false := by
          rcases h : (tg == t) with _ | _
          · rfl
          · have h2 : tg = t := by simpa using h
            rw [h2] at htt; simp at htt
        rw [htb] at HR
        simp only [Bool.false_eq_true, if_false] at HR
        go_wp2_with fail
        rw [HR.out]
        exact bodyPost_ret (v := .tuple #[.slice none 0 0, .bool false]) (by simp [results, Tryz.results55, go_sem]) rfl (.none HX2.out)
end Go.Proofs.YtgfmjfkdogcnhaaGreat
