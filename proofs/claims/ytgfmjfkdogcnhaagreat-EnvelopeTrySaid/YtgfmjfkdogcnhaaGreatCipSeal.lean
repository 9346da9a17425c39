/- Seal of the cipher. -/
import Derived.Test.YtgfmjfkdogcnhaaGreatCip
set_option linter.unusedSimpArgs false
namespace Go.Proofs.YtgfmjfkdogcnhaaGreat
open Go.RowKit
attribute [local irreducible] perm fAdd fMul fPow fSub fNeg fRed

/-- What the loop of Seal keeps: the field at nf, the state at g, the sealed elements so far at sv. -/
structure CipI (w : World) (nf g : Nat) (s : S3) (sv : Value) (out : List UInt64) (v : World) : Prop where
  fld : v.heap[nf]? = some (.cells #[.int .u64 18446744069414584321] 135 (0, 0))
  st : v.heap[g]? = some (.cells s.arr 29 (0, 0))
  own : OwnU v sv out
  ex : Ext w v
  new : ∀ k, blk sv = some k → w.heap.size ≤ k
theorem CipI.ext {w v v' : World} {nf g : Nat} {s : S3} {sv : Value} {out : List UInt64} (h : CipI w nf g s sv out v) (k : Ext v v') : CipI w nf g s sv out v' :=
  ⟨k.heap_some h.fld, k.heap_some h.st, ownsRow_ext h.own k, h.ex.trans k, h.new⟩
theorem CipI.set {w v : World} {nf g : Nat} {s : S3} {sv : Value} {out : List UInt64} (h : CipI w nf g s sv out v) (hg : w.heap.size ≤ g) (o : Nat) (x : Value) (s' : S3) (hs : s.arr.setIfInBounds o x = s'.arr) : CipI w nf g s' sv out (v.setCell ⟨g, o, none⟩ x) where
  fld := (heap_setCell_ne (by rintro rfl; have h1 := h.fld; rw [h.st] at h1; injection h1 with h1; injection h1 with _ h1; exact absurd h1 (by decide)) o x).trans h.fld
  st := by rw [heap_setCell_same h.st o x, hs]
  own := ownsRow_kp h.own ((Kp.refl (fun k => k = g) v).setCell (p := ⟨g, o, none⟩) (.inl rfl) x) (by
    rintro k hk rfl
    obtain ⟨cs, h1⟩ := ownsRow_block h.own hk
    rw [h.st] at h1; injection h1 with h1; injection h1 with _ h1; exact absurd h1 (by decide))
  ex := h.ex.setCell hg x
  new := h.new
theorem CipI.app {w v v' : World} {nf g : Nat} {s : S3} {sv sv' : Value} {out out' : List UInt64} (h : CipI w nf g s sv out v) (ho : OwnU v' sv' out') (hk : Kp (fun k => some k = blk sv) v v') (hb : blk sv' = blk sv ∨ blk sv' = some v.heap.size) : CipI w nf g s sv' out' v' where
  fld := hk.heap_some (fun e => by obtain ⟨cs, h1⟩ := ownsRow_block h.own e.symm; rw [h.fld] at h1; injection h1 with h1; injection h1 with _ h1; exact absurd h1 (by decide)) h.fld
  st := hk.heap_some (fun e => by obtain ⟨cs, h1⟩ := ownsRow_block h.own e.symm; rw [h.st] at h1; injection h1 with h1; injection h1 with _ h1; exact absurd h1 (by decide)) h.st
  own := ho
  ex := h.ex.kp hk fun k e => h.new k e.symm
  new k hk' := by
    rcases hb with e | e
    · exact h.new k (e ▸ hk')
    · rw [e] at hk'; have := h.ex.size; injection hk' with hk'; omega
theorem drop_at {l r : List UInt64} {i : Nat} {x : UInt64} (h : l.drop i = x :: r) : l[i]? = some x ∧ l.drop (i + 1) = r := by
  constructor
  · rw [← List.head?_drop, h]; rfl
  · rw [← List.drop_drop, h]; rfl

set_option maxRecDepth 100000 in
set_option maxHeartbeats 3200000 in
theorem cipSeal_any (key nonce : UInt64) (lv : Value) (l : List UInt64) (w : World) (hl : RdU w lv l) (hL : l.length ≤ 100000000) :
    Calls Tryz.prog 81 #[uv key, uv nonce, lv] w (NewU w (if cipE key nonce l then cipSeal key nonce l else [])) := by
  obtain ⟨i0, hi, hz0, hz1, hz2⟩ := info_parts Tryz.infoU
  have HL := hid hl
  have HE := hid (cipElements_any key nonce lv l w hl (by omega))
  obtain ⟨la, lc, rfl, -⟩ := id hl
  obtain ⟨n, hn⟩ : ∃ n, n = l.length := ⟨_, rfl⟩
  have HN := hid hn
  have CS : Hid (∀ v, Calls Tryz.prog 97 #[uv key, uv nonce, .int .i64 (n : Int)] v fun e w' => e = .returned (cipStart key nonce n).v ∧ Ext v w') := hid fun v => start_any key nonce n (by omega) v
  have hCS : cipSeal key nonce l = (encL n 0 (cipStart key nonce n) l).2 ++ [(encL n 0 (cipStart key nonce n) l).1.a] := by rw [hn]; rfl
  have HCS := hid hCS
  rw [← hn] at HE hL ⊢
  clear hl hn hCS
  cases hE : cipE key nonce l with
  | false =>
    rw [hE] at HE
    simp only [Bool.false_eq_true, if_false]
    clear hE
    go_enter Tryz.func81, Tryz.ntmps81
    go_wp2_with fail
    refine HE.out.mono ?_
    rintro e w1 ⟨rfl, rfl⟩
    go_wp2_with fail
    go_ret
    exact ⟨_, rfl, World.ownsRow_nil _ _ _ _, Ext.refl _, fun k h => by cases h⟩
  | true =>
    rw [hE] at HE
    simp only [if_true]
    clear hE
    generalize cipStart key nonce n = s0 at *
    obtain ⟨T, O, hTO⟩ : ∃ T O, encL n 0 s0 l = (T, O) := ⟨_, _, rfl⟩
    rw [hTO] at HCS
    simp only at HCS
    have HTO := hid hTO
    clear hTO
    have hb1 : i0.bytes * (n + 1) ≤ 281474976710656 := by rw [hz2]; omega
    have hb2 : n + 1 ≤ maxLen := by unfold maxLen; omega
    have hb3 : (n : Int) + 1 = ((n + 1 : Nat) : Int) := by omega
    have B1 := hid hb1
    have B2 := hid hb2
    have B3 := hid hb3
    clear hb1 hb2 hb3
    go_enter Tryz.func81, Tryz.ntmps81
    go_wp2_with fail
    refine HE.out.mono ?_
    rintro e w1 ⟨rfl, rfl⟩
    go_wp2_with fail
    have hf1 := heap_new w (.cells #[.int .u64 18446744069414584321] 135)
    have hx1 := (Ext.refl w).alloc (.cells #[.int .u64 18446744069414584321] 135)
    generalize hw1 : w.alloc (.cells #[.int .u64 18446744069414584321] 135) = w1 at *
    have hsz : w1.heap.size = w.heap.size + 1 := by rw [← hw1, World.size_alloc]
    refine (CS.out _).mono ?_
    rintro e w2 ⟨rfl, hx2⟩
    have hg2 := heap_new w2 (.cells s0.arr 29)
    have hx3 := hx2.alloc (.cells s0.arr 29)
    have HF3 := hid (hx3.heap_some hf1)
    have HG : Hid (w.heap.size ≤ w2.heap.size) := hid (hx1.trans hx2).size
    have HX3 := hid (hx1.trans hx3)
    have HG2 := hid hg2
    clear hf1 hx1 hw1 hsz hx2 hg2 hx3
    go_wp2_with (at_make; refine wpList_make_own _ rfl _ _ 26 rfl 0 22 i0 (.int .u64 0) 1 Tryz.underlying26 hi hz0 hz1 _ _ _ (n + 1) rfl rfl B3.out B1.out B2.out (Nat.zero_le _) ?_)
    intro w4 hown0 hgr
    generalize hw3 : w2.alloc (.cells s0.arr 29) = w3 at *
    have hE4 : Ext w3 w4 := (grown_kp hgr).toExt (by intro k h; cases h)
    have hst3 : w3.heap[w2.heap.size]? = some (.cells s0.arr 29 (0, 0)) := HG2.out
    have I0 : Hid (CipI w w.heap.size w2.heap.size s0 (.slice (some ⟨w2.heap.size + 1, 0, none⟩) 0 (n + 1)) [] w4) := hid ⟨hE4.heap_some HF3.out, hE4.heap_some hst3, hown0, HX3.out.trans hE4, fun k hk => by injection hk with hk; have := HG.out; simp only at hk; omega⟩
    clear hown0 hgr hE4 hst3 hw3 HF3 HG2 HX3 B1 B2 B3
    go_wp2
    go_loopw [9, 29] (fun sv iv wr => ∃ (i : Nat) (s : S3) (r out : List UInt64), i ≤ n ∧ iv = .int .i64 i ∧ Hid (l.drop i = r) ∧ Hid (∃ tl, encL n i s r = (T, tl) ∧ out ++ tl = O) ∧ Hid (out.length = i) ∧ Hid (CipI w w.heap.size w2.heap.size s sv out wr)) (fun _ iv _ => n - (intOf iv).toNat)
    case atStart => exact ⟨0, s0, l, [], by omega, rfl, hid rfl, hid ⟨O, HTO.out, rfl⟩, hid rfl, I0⟩
    case round =>
      obtain ⟨i, s, r, out, hin, rfl, HDR, HEN, HOL, HCI⟩ := hrel
      by_cases hlt : i < n
      · have hltB : decide ((i : Int) < (n : Int)) = true := by simp; omega
        have hi0' : (0 : Int) ≤ (i : Int) := Int.natCast_nonneg _
        have hil : (i : Int) < (n : Int) := by omega
        obtain ⟨x, r1, hr⟩ : ∃ x r1, r = x :: r1 := by
          cases r with
          | nil => have h := congrArg List.length HDR.out; rw [List.length_drop] at h; have := HN.out; simp at h; omega
          | cons x r1 => exact ⟨x, r1, rfl⟩
        subst hr
        obtain ⟨hx, hdr⟩ := drop_at HDR.out
        obtain ⟨b, o, hlaeq, hcx⟩ := (HL.out.ext HCI.out.ex).at hx
        subst hlaeq
        obtain ⟨tl, h1, h2⟩ := HEN.out
        rw [encL_cons] at h1
        injection h1 with h1 h3
        obtain ⟨tl', htl⟩ : ∃ tl', tl' = (encL n (i + 1) ((s.put i (fAdd (s.slot i) x)).next n i) r1).2 := ⟨_, rfl⟩
        have hen' : ∃ tl, encL n (i + 1) ((s.put i (fAdd (s.slot i) x)).next n i) r1 = (T, tl) ∧ (out ++ [fAdd (s.slot i) x]) ++ tl = O := ⟨tl', by rw [← h1, htl], by rw [← h2, ← h3, ← htl]; simp⟩
        have HEN' := hid hen'
        have HDR' := hid hdr
        have HOL' : Hid ((out ++ [fAdd (s.slot i) x]).length = i + 1) := hid (by rw [List.length_append, HOL.out]; rfl)
        have CA : Hid (∀ v, Calls Tryz.prog 98 #[.agg #[.int .u64 18446744069414584321], uv (s.slot i), uv x] v fun e w' => e = .returned (uv (fAdd (s.slot i) x)) ∧ Ext v w') := hid fun v => Add_any _ big_is (s.slot i) x v
        have HX := hid hcx
        have HB1 : Hid ((out.length + 1) ≤ maxLen ∧ (out.length + 1) * 8 ≤ 140737488355328) := hid ⟨by have := HOL.out; unfold maxLen; omega, by have := HOL.out; omega⟩
        clear h1 h2 h3 htl hen' hdr hx HDR HEN hcx
        rcases Nat.mod_two_eq_zero_or_one i with hm | hm
        · have hmI : (i : Int) % 2 = 0 := by omega
          have hmT : (i : Int).tmod 2 = 0 := by rw [Int.tmod_eq_emod_of_nonneg hi0']; exact hmI
          have hslot : s.slot i = s.a := by unfold S3.slot; rw [hm]; rfl
          rw [hslot] at CA HEN' HOL'
          obtain ⟨c, hc⟩ : ∃ c, c = fAdd s.a x := ⟨_, rfl⟩
          rw [← hc] at CA HEN' HOL'
          clear hc hslot
          have hput : s.put i c = ⟨c, s.b, s.c⟩ := by unfold S3.put; rw [hm]; rfl
          rw [hput] at HEN'
          clear hput
          have H2 : Hid (∀ v, Ext wr v → v.cell? ⟨w2.heap.size, 0, none⟩ = some (uv s.a) ∧ v.cell? ⟨w.heap.size, 0, none⟩ = some (.int .u64 18446744069414584321)) := hid fun v k => ⟨cell_of (k.heap_some HCI.out.st) 0, cell_of (k.heap_some HCI.out.fld) 0⟩
          have cx := HX.out
          go_wp2_with fail
          refine wp_region_T (fun v => (v.cell? ⟨w2.heap.size, 0, none⟩ = some (uv s.a) ∧ v.cell? ⟨w.heap.size, 0, none⟩ = some (.int .u64 18446744069414584321)) ∧ Ext wr v) 9 [(0, true), (1, true), (2, true), (3, true), (4, true), (5, true), (6, true), (7, true), (8, false), (9, false), (10, false)] (by kernel_rfl) (by kernel_rfl) (by intro c a d v w h; cases d <;> exact h) ?_
          intro ops hops
          have HS : _ ∧ Ext wr wr.drew := ⟨H2.out _ (Ext.refl wr).drew, (Ext.refl wr).drew⟩
          iterate 8
            refine wpT_take (v := ?_) (by rw [hops, List.getElem?_toArray]; rfl) (by first | rfl | (rw [hops]; rfl)) ?_ HS ?_
            rotate_left
            · intro v h; go_simp; with_reducible rfl
            simp only [Act.put, List.getElem_toArray, List.getElem_cons_zero, List.getElem_cons_succ, List.setIfInBounds_toArray, List.set_cons_zero, List.set_cons_succ]
          refine wpT_step (by rw [hops, List.getElem?_toArray]; rfl) (by first | rfl | (rw [hops]; rfl)) ?_
          intro K hK
          go_wp2_with fail
          refine (CA.out _).mono ?_
          rintro e v1 ⟨rfl, hx1⟩
          have HC1 := hid (HCI.out.ext ((Ext.refl wr).drew.trans hx1))
          have f0 : v1.cell? ⟨w2.heap.size, 0, none⟩ = some (uv s.a) := cell_of HC1.out.st 0
          have ff : ∀ i, v1.frozen? ⟨w2.heap.size, i, none⟩ = false := fun i => frozen_of HC1.out.st i
          have hx1' := (Ext.refl wr).drew.trans hx1
          have HS1 : _ ∧ Ext wr v1 := ⟨H2.out _ hx1', hx1'⟩
          clear hx1 HS
          refine hK _ _ ⟨fun _ => HS1, ?_⟩
          clear hK K
          refine wpT_step (by rw [hops, List.getElem?_toArray]; rfl) (by first | rfl | (rw [hops]; rfl)) ?_
          intro K hK
          go_wp2_with fail
          refine ⟨fun h => absurd h (by decide), ?_⟩
          refine wpT_step (by rw [hops, List.getElem?_toArray]; rfl) (by first | rfl | (rw [hops]; rfl)) ?_
          intro K hK
          go_wp2_with fail
          refine ⟨fun h => absurd h (by decide), ?_⟩
          rw [wpT_nil]
          clear hops ops
          clear HS1 hx1'
          obtain ⟨s1, hs1⟩ : ∃ s1, s1 = (⟨c, s.b, s.c⟩ : S3) := ⟨_, rfl⟩
          have HC2 := hid (HC1.out.set HG.out 0 (uv c) (⟨c, s.b, s.c⟩ : S3) rfl)
          rw [← hs1] at HC2 HEN'
          have hsc : s1.a = c := by rw [hs1]
          clear f0 ff hs1 HC1
          generalize v1.setCell ⟨w2.heap.size, 0, none⟩ (.int .u64 (c.toNat : Int)) = v2 at *
          have dc : v2.cell? ⟨w2.heap.size, 0, none⟩ = some (uv c) := by have h := cell_of HC2.out.st 0; rw [← hsc]; exact h
          clear hsc
          obtain ⟨hm1, hm2⟩ := HB1.out
          have HOWNA := hid (ownsRow_ext HC2.out.own ((Ext.refl v2).alloc (.cells #[uv c] 22)))
          have hone : ∀ u ∈ [uv c], u.oneCell' = true := by simp [Value.oneCell']
          go_wp2_with (at_builtin; refine wpList_app rfl _ _ 26 rfl 22 i0 (.int .u64 0) 1 8 Tryz.underlying26 hi hz0 hz1 hz2 rfl (by decide) _ out.length (us out) rfl HOWNA.out _ 1 [uv c] rfl (RdC.new1 _ _ _) rfl hone hm1 hm2 ?_)
          intro v' w5 hown0 hk hb
          have hown : OwnU w5 v' (out ++ [c]) := by
            show w5.ownsRow 0 22 1 v' (out ++ [c]).length (us (out ++ [c]))
            rw [show (out ++ [c]).length = out.length + 1 from by simp, show us (out ++ [c]) = us out ++ [uv c] from by simp]
            exact hown0
          have HC3 := hid ((HC2.out.ext ((Ext.refl v2).alloc (.cells #[uv c] 22))).app hown hk (by rw [World.size_alloc]; exact hb))
          clear hown0 hown hk hb dc hm1 hm2 hone HOWNA HC2
          have CP : Hid (∀ v, Calls Tryz.prog 99 #[.int .u64 18446744069414584321, .agg #[uv s1.a, uv s1.b, uv s1.c]] v fun e w' => e = .returned (perm s1).v ∧ Ext v w') := hid fun v => Permute_any _ big_is s1 v
          have hwn : IntKind.i64.wrap ((n : Int) - 1) = (n : Int) - 1 := IntWalk.i64_in _ (by omega)
          by_cases hl1 : i + 1 = n
          · have hq : ((i : Int) == (n : Int) - 1) = true := by simp; omega
            have hnx : s1.next n i = perm s1 := by unfold S3.next; rw [if_pos (.inr hl1)]
            rw [hnx] at HEN'
            clear hnx
            have c0 : w5.cell? ⟨w2.heap.size, 0, none⟩ = some (uv s1.a) := cell_of HC3.out.st 0
            have c1 : w5.cell? ⟨w2.heap.size, 1, none⟩ = some (uv s1.b) := cell_of HC3.out.st 1
            have c2 : w5.cell? ⟨w2.heap.size, 2, none⟩ = some (uv s1.c) := cell_of HC3.out.st 2
            go_wp2_with fail
            refine (CP.out _).mono ?_
            rintro e w6 ⟨rfl, hx6⟩
            have HC4 := hid (HC3.out.ext hx6)
            clear hx6 c0 c1 c2
            have c0 : w6.cell? ⟨w2.heap.size, 0, none⟩ = some (uv s1.a) := cell_of HC4.out.st 0
            have c1 : w6.cell? ⟨w2.heap.size, 1, none⟩ = some (uv s1.b) := cell_of HC4.out.st 1
            have c2 : w6.cell? ⟨w2.heap.size, 2, none⟩ = some (uv s1.c) := cell_of HC4.out.st 2
            have ff : ∀ i, w6.frozen? ⟨w2.heap.size, i, none⟩ = false := fun i => frozen_of HC4.out.st i
            go_wp2
            go_roundw
            case rel =>
              refine ⟨i + 1, perm s1, r1, out ++ [c], by omega, by go_num, HDR', HEN', HOL', hid ?_⟩
              have k1 := HC4.out.set HG.out 0 (uv (perm s1).a) ⟨(perm s1).a, s1.b, s1.c⟩ rfl
              have k2 := k1.set HG.out 1 (uv (perm s1).b) ⟨(perm s1).a, (perm s1).b, s1.c⟩ rfl
              exact k2.set HG.out 2 (uv (perm s1).c) (perm s1) rfl
            case measure => simp [intOf]; omega
          · have hq : ((i : Int) == (n : Int) - 1) = false := by simp; omega
            have hnx : s1.next n i = s1 := by unfold S3.next; rw [if_neg (by rintro (h | h) <;> omega)]
            rw [hnx] at HEN'
            clear hnx
            go_wp2_with fail
            go_roundw
            case rel => exact ⟨i + 1, s1, r1, out ++ [c], by omega, by go_num, HDR', HEN', HOL', HC3⟩
            case measure => simp [intOf]; omega
        · have hmI : (i : Int) % 2 = 1 := by omega
          have hmT : (i : Int).tmod 2 = 1 := by rw [Int.tmod_eq_emod_of_nonneg hi0']; exact hmI
          have hslot : s.slot i = s.b := by unfold S3.slot; rw [hm]; rfl
          rw [hslot] at CA HEN' HOL'
          obtain ⟨c, hc⟩ : ∃ c, c = fAdd s.b x := ⟨_, rfl⟩
          rw [← hc] at CA HEN' HOL'
          clear hc hslot
          have hput : s.put i c = ⟨s.a, c, s.c⟩ := by unfold S3.put; rw [hm]; rfl
          rw [hput] at HEN'
          clear hput
          have H2 : Hid (∀ v, Ext wr v → v.cell? ⟨w2.heap.size, 1, none⟩ = some (uv s.b) ∧ v.cell? ⟨w.heap.size, 0, none⟩ = some (.int .u64 18446744069414584321)) := hid fun v k => ⟨cell_of (k.heap_some HCI.out.st) 1, cell_of (k.heap_some HCI.out.fld) 0⟩
          have cx := HX.out
          go_wp2_with fail
          refine wp_region_T (fun v => (v.cell? ⟨w2.heap.size, 1, none⟩ = some (uv s.b) ∧ v.cell? ⟨w.heap.size, 0, none⟩ = some (.int .u64 18446744069414584321)) ∧ Ext wr v) 9 [(0, true), (1, true), (2, true), (3, true), (4, true), (5, true), (6, true), (7, true), (8, false), (9, false), (10, false)] (by kernel_rfl) (by kernel_rfl) (by intro c a d v w h; cases d <;> exact h) ?_
          intro ops hops
          have HS : _ ∧ Ext wr wr.drew := ⟨H2.out _ (Ext.refl wr).drew, (Ext.refl wr).drew⟩
          iterate 8
            refine wpT_take (v := ?_) (by rw [hops, List.getElem?_toArray]; rfl) (by first | rfl | (rw [hops]; rfl)) ?_ HS ?_
            rotate_left
            · intro v h; go_simp; with_reducible rfl
            simp only [Act.put, List.getElem_toArray, List.getElem_cons_zero, List.getElem_cons_succ, List.setIfInBounds_toArray, List.set_cons_zero, List.set_cons_succ]
          refine wpT_step (by rw [hops, List.getElem?_toArray]; rfl) (by first | rfl | (rw [hops]; rfl)) ?_
          intro K hK
          go_wp2_with fail
          refine (CA.out _).mono ?_
          rintro e v1 ⟨rfl, hx1⟩
          have HC1 := hid (HCI.out.ext ((Ext.refl wr).drew.trans hx1))
          have f0 : v1.cell? ⟨w2.heap.size, 1, none⟩ = some (uv s.b) := cell_of HC1.out.st 1
          have ff : ∀ i, v1.frozen? ⟨w2.heap.size, i, none⟩ = false := fun i => frozen_of HC1.out.st i
          have hx1' := (Ext.refl wr).drew.trans hx1
          have HS1 : _ ∧ Ext wr v1 := ⟨H2.out _ hx1', hx1'⟩
          clear hx1 HS
          refine hK _ _ ⟨fun _ => HS1, ?_⟩
          clear hK K
          refine wpT_step (by rw [hops, List.getElem?_toArray]; rfl) (by first | rfl | (rw [hops]; rfl)) ?_
          intro K hK
          go_wp2_with fail
          refine ⟨fun h => absurd h (by decide), ?_⟩
          refine wpT_step (by rw [hops, List.getElem?_toArray]; rfl) (by first | rfl | (rw [hops]; rfl)) ?_
          intro K hK
          go_wp2_with fail
          refine ⟨fun h => absurd h (by decide), ?_⟩
          rw [wpT_nil]
          clear hops ops
          clear HS1 hx1'
          obtain ⟨s1, hs1⟩ : ∃ s1, s1 = (⟨s.a, c, s.c⟩ : S3) := ⟨_, rfl⟩
          have HC2 := hid (HC1.out.set HG.out 1 (uv c) (⟨s.a, c, s.c⟩ : S3) rfl)
          rw [← hs1] at HC2 HEN'
          have hsc : s1.b = c := by rw [hs1]
          clear f0 ff hs1 HC1
          generalize v1.setCell ⟨w2.heap.size, 1, none⟩ (.int .u64 (c.toNat : Int)) = v2 at *
          have dc : v2.cell? ⟨w2.heap.size, 1, none⟩ = some (uv c) := by have h := cell_of HC2.out.st 1; rw [← hsc]; exact h
          clear hsc
          obtain ⟨hm1, hm2⟩ := HB1.out
          have HOWNA := hid (ownsRow_ext HC2.out.own ((Ext.refl v2).alloc (.cells #[uv c] 22)))
          have hone : ∀ u ∈ [uv c], u.oneCell' = true := by simp [Value.oneCell']
          go_wp2_with (at_builtin; refine wpList_app rfl _ _ 26 rfl 22 i0 (.int .u64 0) 1 8 Tryz.underlying26 hi hz0 hz1 hz2 rfl (by decide) _ out.length (us out) rfl HOWNA.out _ 1 [uv c] rfl (RdC.new1 _ _ _) rfl hone hm1 hm2 ?_)
          intro v' w5 hown0 hk hb
          have hown : OwnU w5 v' (out ++ [c]) := by
            show w5.ownsRow 0 22 1 v' (out ++ [c]).length (us (out ++ [c]))
            rw [show (out ++ [c]).length = out.length + 1 from by simp, show us (out ++ [c]) = us out ++ [uv c] from by simp]
            exact hown0
          have HC3 := hid ((HC2.out.ext ((Ext.refl v2).alloc (.cells #[uv c] 22))).app hown hk (by rw [World.size_alloc]; exact hb))
          clear hown0 hown hk hb dc hm1 hm2 hone HOWNA HC2
          have CP : Hid (∀ v, Calls Tryz.prog 99 #[.int .u64 18446744069414584321, .agg #[uv s1.a, uv s1.b, uv s1.c]] v fun e w' => e = .returned (perm s1).v ∧ Ext v w') := hid fun v => Permute_any _ big_is s1 v
          have hwn : IntKind.i64.wrap ((n : Int) - 1) = (n : Int) - 1 := IntWalk.i64_in _ (by omega)
          have hnx : s1.next n i = perm s1 := by unfold S3.next; rw [if_pos (.inl hm)]
          rw [hnx] at HEN'
          clear hnx
          have c0 : w5.cell? ⟨w2.heap.size, 0, none⟩ = some (uv s1.a) := cell_of HC3.out.st 0
          have c1 : w5.cell? ⟨w2.heap.size, 1, none⟩ = some (uv s1.b) := cell_of HC3.out.st 1
          have c2 : w5.cell? ⟨w2.heap.size, 2, none⟩ = some (uv s1.c) := cell_of HC3.out.st 2
          go_wp2_with fail
          refine (CP.out _).mono ?_
          rintro e w6 ⟨rfl, hx6⟩
          have HC4 := hid (HC3.out.ext hx6)
          clear hx6 c0 c1 c2
          have c0 : w6.cell? ⟨w2.heap.size, 0, none⟩ = some (uv s1.a) := cell_of HC4.out.st 0
          have c1 : w6.cell? ⟨w2.heap.size, 1, none⟩ = some (uv s1.b) := cell_of HC4.out.st 1
          have c2 : w6.cell? ⟨w2.heap.size, 2, none⟩ = some (uv s1.c) := cell_of HC4.out.st 2
          have ff : ∀ i, w6.frozen? ⟨w2.heap.size, i, none⟩ = false := fun i => frozen_of HC4.out.st i
          go_wp2
          go_roundw
          case rel =>
            refine ⟨i + 1, perm s1, r1, out ++ [c], by omega, by go_num, HDR', HEN', HOL', hid ?_⟩
            have k1 := HC4.out.set HG.out 0 (uv (perm s1).a) ⟨(perm s1).a, s1.b, s1.c⟩ rfl
            have k2 := k1.set HG.out 1 (uv (perm s1).b) ⟨(perm s1).a, (perm s1).b, s1.c⟩ rfl
            exact k2.set HG.out 2 (uv (perm s1).c) (perm s1) rfl
          case measure => simp [intOf]; omega
      · have hii : i = n := by omega
        have hltB : decide ((i : Int) < (n : Int)) = false := by simp; omega
        have hr0 : r = [] := by
          have h := congrArg List.length HDR.out
          rw [List.length_drop] at h
          exact List.eq_nil_of_length_eq_zero (by have := HN.out; omega)
        subst hr0
        obtain ⟨tl, h1, h2⟩ := HEN.out
        rw [encL] at h1
        injection h1 with h1 h3
        subst h1 h3
        rw [List.append_nil] at h2
        subst h2
        have c0 : wr.cell? ⟨w2.heap.size, 0, none⟩ = some (uv s.a) := cell_of HCI.out.st 0
        have hm1 : out.length + 1 ≤ maxLen := by have := HOL.out; unfold maxLen; omega
        have hm2 : (out.length + 1) * 8 ≤ 140737488355328 := by have := HOL.out; omega
        have HOWNA := hid (ownsRow_ext HCI.out.own ((Ext.refl wr).alloc (.cells #[uv s.a] 22)))
        have hone : ∀ u ∈ [uv s.a], u.oneCell' = true := by simp [Value.oneCell']
        clear HEN HDR
        go_wp2_with (at_builtin; refine wpList_app rfl _ _ 26 rfl 22 i0 (.int .u64 0) 1 8 Tryz.underlying26 hi hz0 hz1 hz2 rfl (by decide) _ out.length (us out) rfl HOWNA.out _ 1 [uv s.a] rfl (RdC.new1 _ _ _) rfl hone hm1 hm2 ?_)
        intro v' w5 hown0 hk hb
        have hown : OwnU w5 v' (out ++ [s.a]) := by
          show w5.ownsRow 0 22 1 v' (out ++ [s.a]).length (us (out ++ [s.a]))
          rw [show (out ++ [s.a]).length = out.length + 1 from by simp, show us (out ++ [s.a]) = us out ++ [uv s.a] from by simp]
          exact hown0
        have HC3 := hid ((HCI.out.ext ((Ext.refl wr).alloc (.cells #[uv s.a] 22))).app hown hk (by rw [World.size_alloc]; exact hb))
        clear hown0 hown hk hb hm1 hm2 hone HOWNA c0
        go_wp2
        go_ret
        rw [HCS.out]
        exact ⟨v', rfl, HC3.out.own, HC3.out.ex, HC3.out.new⟩
end Go.Proofs.YtgfmjfkdogcnhaaGreat
