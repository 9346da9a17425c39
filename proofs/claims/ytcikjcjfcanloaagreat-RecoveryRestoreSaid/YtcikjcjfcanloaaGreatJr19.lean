/- Texts of this claim, joined: RefCip. -/
import Derived.Test.YtcikjcjfcanloaaGreatJr5
import Derived.Test.YtcikjcjfcanloaaGreatJr7
import Derived.Test.YtcikjcjfcanloaaGreatJr18
set_option linter.unusedSimpArgs false
namespace Go.Proofs.YtcikjcjfcanloaaGreat
open Go.RowKit
attribute [local irreducible] perm fAdd fMul fPow fSub fNeg fRed fAdd0 fMul0 fPow0
set_option maxRecDepth 100000 in
set_option maxHeartbeats 800000 in
theorem rReduce_any (p : Int) (hp : IsBig p) (a : UInt64) (w : World) : Calls Tryz.prog 149 #[.int .u64 p, .int .u64 a.toNat] w fun e w' => e = .returned (.int .u64 (fRed a).toNat) ∧ Ext w w' := by
  have HV := hid (rValid_any p hp)
  have hp0 := hp.pos
  have hpz : ¬ p = 0 := by omega
  have hz : (p == 0) = false := by simp; omega
  have h1 := tmod_p hp a
  have h2 := mod_p hp a
  go_enter Tryz.func149, Tryz.ntmps149
  go_wp2_with fail
  refine (HV.out _).mono ?_
  rintro e w1 ⟨rfl, hx⟩
  have HX := hid hx
  clear hx
  go_wp2
  go_ret
  exact ⟨by first | rfl | rw [h1] | rw [h2], HX.out⟩
set_option maxRecDepth 100000 in
set_option maxHeartbeats 800000 in
theorem rNeg_any (p : Int) (hp : IsBig p) (a : UInt64) (w : World) : Calls Tryz.prog 173 #[.int .u64 p, .int .u64 a.toNat] w fun e w' => e = .returned (.int .u64 (fNeg a).toNat) ∧ Ext w w' := by
  have hlt := fRed_lt hp a
  have hp1 := hp.lt
  have hnn := u_pos (fRed a)
  go_enter Tryz.func173, Tryz.ntmps173
  go_wp2_with fail
  refine (rReduce_any p hp a _).mono ?_
  rintro e w1 ⟨rfl, hb⟩
  have HB := hid hb
  clear hb
  by_cases hz : ((fRed a).toNat : Int) = 0
  · have hfin := neg_zero hz
    have hz1 : (((fRed a).toNat : Int) == 0) = true := by simp; omega
    have HF := hid hfin
    clear hz hfin
    go_wp2
    go_ret
    exact ⟨ret_int HF.out, HB.out⟩
  · have hfin := neg_pos hp hz
    have hz1 : (((fRed a).toNat : Int) == 0) = false := by simp; omega
    have HF := hid hfin
    have hw : IntKind.u64.wrap (p - ((fRed a).toNat : Int)) = p - ((fRed a).toNat : Int) := by simp [IntKind.wrap, IntKind.bits, IntKind.signed]; omega
    clear hz hfin
    go_wp2
    go_ret
    exact ⟨ret_int HF.out, HB.out⟩
set_option maxRecDepth 100000 in
set_option maxHeartbeats 800000 in
theorem rSub_any (p : Int) (hp : IsBig p) (a b : UInt64) (w : World) : Calls Tryz.prog 148 #[.int .u64 p, .int .u64 a.toNat, .int .u64 b.toNat] w fun e w' => e = .returned (.int .u64 (fSub a b).toNat) ∧ Ext w w' := by
  have hs : fSub a b = fAdd a (fNeg b) := by unfold fSub; rfl
  rw [hs]
  clear hs
  go_enter Tryz.func148, Tryz.ntmps148
  go_wp2_with fail
  refine (rNeg_any p hp b _).mono ?_
  rintro e w1 ⟨rfl, hb⟩
  have HB := hid hb
  clear hb
  go_wp2_with fail
  refine (rAdd_any p hp a (fNeg b) _).mono ?_
  rintro e w2 ⟨rfl, hb⟩
  have HB2 := hid (HB.out.trans hb)
  clear hb
  go_wp2
  go_ret
  exact ⟨rfl, HB2.out⟩
def runO (pl : Bool) (s : S3) (i : Nat) (x : UInt64) : UInt64 := if pl then fAdd (s.slot i) x else fSub x (s.slot i)
def runK (pl : Bool) (s : S3) (i : Nat) (x : UInt64) : UInt64 := if pl then fAdd (s.slot i) x else x
def runL (pl : Bool) (n : Nat) : Nat → S3 → List UInt64 → S3 × List UInt64
  | _, s, [] => (s, [])
  | i, s, x :: r => ((runL pl n (i + 1) ((s.put i (runK pl s i x)).next n i) r).1, runO pl s i x :: (runL pl n (i + 1) ((s.put i (runK pl s i x)).next n i) r).2)
theorem runL_cons (pl : Bool) (n i : Nat) (s : S3) (x : UInt64) (r : List UInt64) : runL pl n i s (x :: r) = ((runL pl n (i + 1) ((s.put i (runK pl s i x)).next n i) r).1, runO pl s i x :: (runL pl n (i + 1) ((s.put i (runK pl s i x)).next n i) r).2) := by rw [runL]
theorem runL_dec (n : Nat) : ∀ (l : List UInt64) (i : Nat) (s : S3), runL false n i s l = decL n i s l
  | [], _, _ => by rw [runL, decL]
  | x :: r, i, s => by rw [runL_cons, decL_cons, runL_dec n r]; rfl
theorem fAdd_commC (a b : UInt64) : fAdd a b = fAdd b a := by
  apply UInt64.toNat_inj.1
  rw [fAdd_nat, fAdd_nat, Nat.add_comm]
theorem start_786 {n : Nat} (hn : n ≤ 1000000000000) : IntKind.u64.wrap (786432 + (n : Int)) = ((fAdd 786432 (UInt64.ofNat n)).toNat : Int) := by
  rw [fAdd_nat, toNat_ofNat_lt (by omega)]
  have h1 : (UInt64.toNat 786432) = 786432 := rfl
  rw [h1, Nat.mod_eq_of_lt (by omega)]
  simp [IntKind.wrap, IntKind.bits, IntKind.signed]
  omega
structure RunI (w : World) (g : Nat) (s : S3) (sv : Value) (out : List UInt64) (v : World) : Prop where
  st : v.heap[g]? = some (.cells s.arr 160 (0, 0))
  own : OwnU v sv out
  ex : Ext w v
  new : ∀ k, blk sv = some k → w.heap.size ≤ k
  gw : w.heap.size ≤ g
theorem RunI.ext {w v v' : World} {g : Nat} {s : S3} {sv : Value} {out : List UInt64} (h : RunI w g s sv out v) (k : Ext v v') : RunI w g s sv out v' :=
  ⟨k.heap_some h.st, ownsRow_ext h.own k, h.ex.trans k, h.new, h.gw⟩
theorem RunI.ne {w v : World} {g : Nat} {s : S3} {sv : Value} {out : List UInt64} (h : RunI w g s sv out v) : blk sv ≠ some g := fun e => by
  obtain ⟨cs, h1⟩ := ownsRow_block h.own e
  rw [h.st] at h1; injection h1 with h1; injection h1 with _ h1; exact absurd h1 (by decide)
theorem RunI.set {w v v' : World} {g : Nat} {s s' : S3} {sv : Value} {out : List UInt64} (h : RunI w g s sv out v) (k : Kp (fun k => k = g) v v') (hb : v'.heap[g]? = some (.cells s'.arr 160 (0, 0))) : RunI w g s' sv out v' :=
  ⟨hb, ownsRow_kp h.own k (fun b hb' e => by subst e; exact h.ne hb'), h.ex.kp k (fun k e => by have := h.gw; omega), h.new, h.gw⟩
theorem RunI.app {w v v' : World} {g : Nat} {s : S3} {sv sv' : Value} {out out' : List UInt64} (h : RunI w g s sv out v) (ho : OwnU v' sv' out') (hk : Kp (fun k => some k = blk sv) v v') (hb : blk sv' = blk sv ∨ blk sv' = some v.heap.size) : RunI w g s sv' out' v' where
  st := hk.heap_some (fun e => h.ne e.symm) h.st
  own := ho
  ex := h.ex.kp hk fun k e => h.new k e.symm
  new k hk' := by
    rcases hb with e | e
    · exact h.new k (e ▸ hk')
    · rw [e] at hk'; have := h.ex.size; injection hk' with hk'; omega
  gw := h.gw
theorem arr_slot (s : S3) (i : Nat) : s.arr[i % 2]? = some (uv (s.slot i)) := by
  rcases Nat.mod_two_eq_zero_or_one i with h | h <;> rw [h] <;> unfold S3.slot <;> rw [h] <;> rfl
theorem arr_put (s : S3) (i : Nat) (x : UInt64) : s.arr.setIfInBounds (i % 2) (uv x) = (s.put i x).arr := by
  rcases Nat.mod_two_eq_zero_or_one i with h | h <;> rw [h] <;> unfold S3.put <;> rw [h] <;> rfl
theorem three_set {w : World} {b : Nat} {c0 c1 c2 d0 d1 d2 : Value} {T : TypeId} (h : w.heap[b]? = some (.cells #[c0, c1, c2] T (0, 0))) :
    (((w.setCell ⟨b, 0, none⟩ d0).setCell ⟨b, 1, none⟩ d1).setCell ⟨b, 2, none⟩ d2).heap[b]? = some (.cells #[d0, d1, d2] T (0, 0)) ∧ Kp (fun k => k = b) w (((w.setCell ⟨b, 0, none⟩ d0).setCell ⟨b, 1, none⟩ d1).setCell ⟨b, 2, none⟩ d2) :=
  ⟨heap_setCell_same (heap_setCell_same (heap_setCell_same h 0 d0) 1 d1) 2 d2, (((Kp.refl (fun k => k = b) w).setCell (p := ⟨b, 0, none⟩) (.inl rfl) _).setCell (p := ⟨b, 1, none⟩) (.inl rfl) _).setCell (p := ⟨b, 2, none⟩) (.inl rfl) _⟩
/-- Where a round begins. -/
structure RunR (w wr : World) (g : Nat) (pl : Bool) (l : List UInt64) (S : S3) (i : Nat) (s : S3) (sv : Value) (out : List UInt64) : Prop where
  I : RunI w g s sv out wr
  len : out.length = i
  il : i ≤ l.length
  spec : runL pl l.length 0 S l = ((runL pl l.length i s (l.drop i)).1, out ++ (runL pl l.length i s (l.drop i)).2)
theorem RunR.next {pl : Bool} {l : List UInt64} {S s : S3} {i : Nat} {out : List UInt64} {x : UInt64} (h : runL pl l.length 0 S l = ((runL pl l.length i s (l.drop i)).1, out ++ (runL pl l.length i s (l.drop i)).2)) (hx : l[i]? = some x) :
    runL pl l.length 0 S l = ((runL pl l.length (i + 1) ((s.put i (runK pl s i x)).next l.length i) (l.drop (i + 1))).1, (out ++ [runO pl s i x]) ++ (runL pl l.length (i + 1) ((s.put i (runK pl s i x)).next l.length i) (l.drop (i + 1))).2) := by
  obtain ⟨hi, rfl⟩ := List.getElem?_eq_some_iff.1 hx
  rw [h, List.drop_eq_getElem_cons hi, runL_cons]
  simp
def RunP (w : World) (r : S3 × List UInt64) (e : Ending) (w' : World) : Prop := ∃ v, e = .returned (.tuple #[v, uv r.1.a]) ∧ OwnU w' v r.2 ∧ Ext w w' ∧ ∀ k, blk v = some k → w.heap.size ≤ k
set_option maxRecDepth 100000 in
set_option maxHeartbeats 6400000 in
theorem run_any (key nonce : UInt64) (lv : Value) (l : List UInt64) (pl : Bool) (w : World) (hl : RdU' w lv l) (hL : l.length ≤ 100000000) :
    Calls Tryz.prog 125 #[uv key, uv nonce, lv, .bool pl] w (RunP w (runL pl l.length 0 (cipStart key nonce l.length) l)) := by
  obtain ⟨la, lc, rfl, -⟩ := id hl
  obtain ⟨i0, hi1, hz0, hz1, hz2⟩ := info_parts Tryz.infoU
  have HI1 := hid (And.intro hi1 (And.intro hz0 (And.intro hz1 hz2)))
  have HL := hid hl
  obtain ⟨S, hS⟩ : ∃ S, S = cipStart key nonce l.length := ⟨_, rfl⟩
  have HPS : Hid (∀ v, Calls Tryz.prog 132 #[.int .u64 18446744069414584321, .agg #[uv key, uv nonce, .int .u64 (fAdd 786432 (UInt64.ofNat l.length)).toNat]] v fun e w' => e = .returned S.v ∧ Ext v w') := hid fun v => by
    rw [hS]; exact rPermute_any _ isBig ⟨key, nonce, fAdd 786432 (UInt64.ofNat l.length)⟩ v
  rw [← hS]
  have h786 := start_786 (n := l.length) (by omega)
  have hcv : IntKind.u64.wrap (l.length : Int) = (l.length : Int) := by simp [IntKind.wrap, IntKind.bits, IntKind.signed]; omega
  clear hl hi1 hz0 hz1 hz2 hS
  go_enter Tryz.func125, Tryz.ntmps125
  go_wp2_with fail
  refine (HPS.out _).mono ?_
  rintro e w1 ⟨rfl, hx⟩
  have hE0 : OwnU (w.alloc (.cells #[] 22)) (.slice (some ⟨w.heap.size, 0, none⟩) 0 0) [] := ⟨rfl, .inr ⟨w.heap.size, 0, #[], rfl, Nat.zero_le _, heap_new _ _, Nat.le_refl _, Nat.zero_le _, rfl, rfl⟩⟩
  have hI0 : RunI w w1.heap.size S (.slice (some ⟨w.heap.size, 0, none⟩) 0 0) [] (w1.alloc (.cells S.arr 160)) := {
    st := heap_new _ _
    own := ownsRow_ext hE0 (hx.trans ((Ext.refl w1).alloc _))
    ex := (((Ext.refl w).alloc _).trans hx).alloc _
    new := fun k hk => by cases hk; exact Nat.le_refl _
    gw := (((Ext.refl w).alloc _).trans hx).size }
  have HI0 := hid hI0
  clear hE0 hI0 hx HPS h786
  go_wp2_with fail
  generalize w1.heap.size = g at *
  go_loopw [10, 12] (fun ov iv wr => ∃ (i : Nat) (s : S3) (out : List UInt64), iv = .int .i64 i ∧ Hid (RunR w wr g pl l S i s ov out)) (fun _ iv _ => l.length - (intOf iv).toNat)
  case atStart => exact ⟨0, S, [], rfl, hid ⟨HI0.out, rfl, Nat.zero_le _, by simp⟩⟩
  case round =>
    obtain ⟨i, s, out, rfl, HR⟩ := hrel
    obtain ⟨oa, oc, rfl, -⟩ := ownsRow_rd HR.out.I.own
    have hi := HR.out.il
    have hol := HR.out.len
    subst hol
    by_cases hlt : out.length < l.length
    · have hltB : decide ((out.length : Int) < (l.length : Int)) = true := by simp; omega
      obtain ⟨x, hx⟩ : ∃ x, l[out.length]? = some x := ⟨_, List.getElem?_eq_getElem hlt⟩
      obtain ⟨lb, lo, rfl, hcx⟩ := (HL.out.ext HR.out.I.ex).uat hx
      have hnx := RunR.next HR.out.spec hx
      have HNX := hid hnx
      obtain ⟨m, hm⟩ : ∃ m, m = out.length % 2 := ⟨_, rfl⟩
      have hm2 : m < 2 := by omega
      have htm : ((out.length : Int)).tmod 2 = (m : Int) := (Int.tmod_eq_emod_of_nonneg (by omega)).trans (by omega)
      have hsl : wr.cell? ⟨g, m, none⟩ = some (uv (s.slot out.length)) := by rw [cell_of HR.out.I.st m, hm]; exact arr_slot s out.length
      have hput := fun y => arr_put s out.length y
      rw [← hm] at hput
      have HPUT := hid hput
      have H8 : Hid (∀ v, Ext wr v → v.cell? ⟨lb, lo + out.length, none⟩ = some (uv x) ∧ v.cell? ⟨g, m, none⟩ = some (uv (s.slot out.length))) := hid fun v k => ⟨k.cell_some hcx, k.cell_some hsl⟩
      have hil : (out.length : Int) < (l.length : Int) := by omega
      have hi0 : (0 : Int) ≤ (out.length : Int) := by omega
      have hm0 : (0 : Int) ≤ (m : Int) := by omega
      have hm3 : (m : Int) < 3 := by omega
      have HM := hid hm
      have HXX := hid hx
      clear hx hcx hnx hsl hput hm
      cases pl with
      | true =>
        go_wp2_with fail
        refine wp_region_T (fun v => (v.cell? ⟨lb, lo + out.length, none⟩ = some (uv x) ∧ v.cell? ⟨g, m, none⟩ = some (uv (s.slot out.length))) ∧ Ext wr v) 10 [(0, true), (1, true), (2, true), (3, true), (4, true), (5, true), (6, true), (7, true), (8, false), (9, false), (10, false), (11, false)] (by kernel_rfl) (by kernel_rfl) (by intro c a d v w h; cases d <;> exact h) ?_
        intro ops hops
        have HS := keep0 H8.out
        iterate 8
          refine wpT_take (v := ?_) (by rw [hops, List.getElem?_toArray]; rfl) (by first | rfl | (rw [hops]; rfl)) ?_ HS ?_
          rotate_left
          · intro v h; go_simp; with_reducible rfl
          simp only [Act.put, List.getElem_toArray, List.getElem_cons_zero, List.getElem_cons_succ, List.setIfInBounds_toArray, List.set_cons_zero, List.set_cons_succ]
        refine wpT_step (by rw [hops, List.getElem?_toArray]; rfl) (by first | rfl | (rw [hops]; rfl)) ?_
        intro K hK
        go_wp2_with fail
        refine (rAdd_any _ isBig x (s.slot out.length) _).mono ?_
        rintro e w2 ⟨rfl, hx2⟩
        have HS1 := keepE H8.out HS hx2
        rw [show fAdd x (s.slot out.length) = runO true s out.length x from fAdd_commC _ _]
        have hk : runK true s out.length x = runO true s out.length x := rfl
        rw [hk] at HNX
        generalize runO true s out.length x = y at *
        clear HS hx2 hk
        refine hK _ _ ⟨fun _ => HS1, ?_⟩
        clear hK K
        refine wpT_step (by rw [hops, List.getElem?_toArray]; rfl) (by first | rfl | (rw [hops]; rfl)) ?_
        intro K hK
        go_wp2_with fail
        have HS2 := keepE H8.out HS1 ((Ext.refl w2).alloc (.cells #[uv y] 22))
        refine ⟨fun _ => HS2, ?_⟩
        have hI2 := HR.out.I.ext HS2.2
        have hone : RdC' (w2.alloc (.cells #[uv y] 22)) (.slice (some ⟨w2.heap.size, 0, none⟩) 1 1) 1 [uv y] := (RdC.block (heap_new _ _) (by unfold maxLen; omega)).weak
        refine wpT_step (by rw [hops, List.getElem?_toArray]; rfl) (by first | rfl | (rw [hops]; rfl)) ?_
        intro K hK
        refine wp_app' _ _ 57 rfl 22 i0 (.int .u64 0) 1 8 Tryz.underlying57 HI1.out.1 HI1.out.2.1 HI1.out.2.2.1 HI1.out.2.2.2 rfl (by decide) (.slice oa out.length oc) out.length (us out) rfl hI2.own (.slice (some ⟨w2.heap.size, 0, none⟩) 1 1) 1 [uv y] rfl hone rfl (by intro u hu; simp only [List.mem_singleton] at hu; subst hu; rfl) (by unfold maxLen; omega) (by omega) ?_
        intro v3 w3 hown3 hk3 hb3
        have hu3 : OwnU w3 v3 (out ++ [y]) := by
          show w3.ownsRow 0 22 1 v3 (out ++ [y]).length (us (out ++ [y]))
          rw [List.length_append, show us (out ++ [y]) = us out ++ [uv y] by simp [us]]
          exact hown3
        have hI3 := hI2.app hu3 hk3 hb3
        obtain ⟨oa3, oc3, rfl, -⟩ := ownsRow_rd hu3
        rw [show (out ++ [y]).length = out.length + 1 by simp] at hI3
        have HI3 := hid hI3
        obtain ⟨ob, oo, rfl, hcy⟩ := (OwnU.rdu hu3).at (show (out ++ [y])[out.length]? = some y by simp)
        have HCY := hid hcy
        clear hcy
        clear hI2 hone hown3 hk3 hb3 hu3 hI3 HS1 HS2
        refine hK _ _ ⟨fun h => absurd h (by decide), ?_⟩
        clear hK K
        refine wpT_step (by rw [hops, List.getElem?_toArray]; rfl) (by first | rfl | (rw [hops]; rfl)) ?_
        intro K hK
        go_wp2_with fail
        try (with_reducible refine ⟨fun h => absurd h (by decide), ?_⟩)
        try rw [wpT_nil]
        try clear hops ops
        have hcy := HCY.out
        have hgb := HI3.out.st
        have kc : w3.cell? ⟨g, m, none⟩ = some (uv (s.slot out.length)) := by rw [cell_of hgb m, HM.out]; exact arr_slot s out.length
        have kf := frozen_of hgb
        have hil2 : (out.length : Int) < ((out.length + 1 : Nat) : Int) := by omega
        have hil3 : (out.length : Int) < (out.length : Int) + 1 := by omega
        have hks : Kp (fun k => k = g) w3 (w3.setCell ⟨g, m, none⟩ (uv y)) := (Kp.refl (fun k => k = g) w3).setCell (p := ⟨g, m, none⟩) (.inl rfl) _
        have HI4 := hid (HI3.out.set hks (by rw [heap_setCell_same hgb m, HPUT.out]))
        clear hgb hks
        go_upto_region 12 with fail
        generalize w3.setCell ⟨g, m, none⟩ (uv y) = w4 at *
        clear kc kf hcy
        generalize s.put out.length y = s1 at *
        by_cases hm1 : m = 1
        · have hq1 : ((m : Int) == 1) = true := by simp; omega
          have hnxt : s1.next l.length out.length = perm s1 := by unfold S3.next; rw [if_pos (.inl (by rw [← HM.out]; exact hm1))]
          clear hm1
          rw [hnxt] at HNX
          have hgb := HI4.out.st
          obtain ⟨s1a, s1b, s1c⟩ := s1
          have k0 : w4.cell? ⟨g, 0, none⟩ = some (uv s1a) := cell_of hgb 0
          have k1 : w4.cell? ⟨g, 1, none⟩ = some (uv s1b) := cell_of hgb 1
          have k2 : w4.cell? ⟨g, 2, none⟩ = some (uv s1c) := cell_of hgb 2
          have HP := hid (rPermute_any _ isBig ⟨s1a, s1b, s1c⟩)
          clear hgb hnxt
          go_wp2_with fail
          refine (HP.out _).mono ?_
          rintro e w5 ⟨rfl, hx5⟩
          generalize perm ⟨s1a, s1b, s1c⟩ = s2 at *
          have hI5 := HI4.out.ext hx5
          have kf := frozen_of hI5.st
          have q0 : w5.cell? ⟨g, 0, none⟩ = some (uv s1a) := cell_of hI5.st 0
          have q1 : w5.cell? ⟨g, 1, none⟩ = some (uv s1b) := cell_of hI5.st 1
          have q2 : w5.cell? ⟨g, 2, none⟩ = some (uv s1c) := cell_of hI5.st 2
          obtain ⟨hb6, hk6⟩ := three_set (d0 := uv s2.a) (d1 := uv s2.b) (d2 := uv s2.c) hI5.st
          have HI6 := hid (hI5.set (s' := s2) hk6 hb6)
          clear hb6 hk6 hI5 hx5 k0 k1 k2 HP
          go_wp2_with fail
          go_roundw
          case rel => exact ⟨out.length + 1, s2, out ++ [y], by go_num, hid ⟨HI6.out, by simp, by omega, HNX.out⟩⟩
          case measure => simp [intOf]; omega
        · have hq1 : ((m : Int) == 1) = false := by simp; omega
          by_cases hlast : out.length + 1 = l.length
          · have hq2 : ((out.length : Int) == (l.length : Int) - 1) = true := by simp; omega
            have hnxt : s1.next l.length out.length = perm s1 := by unfold S3.next; rw [if_pos (.inr hlast)]
            clear hm1 hlast
            rw [hnxt] at HNX
            have hgb := HI4.out.st
            obtain ⟨s1a, s1b, s1c⟩ := s1
            have k0 : w4.cell? ⟨g, 0, none⟩ = some (uv s1a) := cell_of hgb 0
            have k1 : w4.cell? ⟨g, 1, none⟩ = some (uv s1b) := cell_of hgb 1
            have k2 : w4.cell? ⟨g, 2, none⟩ = some (uv s1c) := cell_of hgb 2
            have HP := hid (rPermute_any _ isBig ⟨s1a, s1b, s1c⟩)
            clear hgb hnxt
            go_wp2_with fail
            refine (HP.out _).mono ?_
            rintro e w5 ⟨rfl, hx5⟩
            generalize perm ⟨s1a, s1b, s1c⟩ = s2 at *
            have hI5 := HI4.out.ext hx5
            have kf := frozen_of hI5.st
            have q0 : w5.cell? ⟨g, 0, none⟩ = some (uv s1a) := cell_of hI5.st 0
            have q1 : w5.cell? ⟨g, 1, none⟩ = some (uv s1b) := cell_of hI5.st 1
            have q2 : w5.cell? ⟨g, 2, none⟩ = some (uv s1c) := cell_of hI5.st 2
            obtain ⟨hb6, hk6⟩ := three_set (d0 := uv s2.a) (d1 := uv s2.b) (d2 := uv s2.c) hI5.st
            have HI6 := hid (hI5.set (s' := s2) hk6 hb6)
            clear hb6 hk6 hI5 hx5 k0 k1 k2 HP
            go_wp2_with fail
            go_roundw
            case rel => exact ⟨out.length + 1, s2, out ++ [y], by go_num, hid ⟨HI6.out, by simp, by omega, HNX.out⟩⟩
            case measure => simp [intOf]; omega
          · have hq2 : ((out.length : Int) == (l.length : Int) - 1) = false := by simp; omega
            have hnxt : s1.next l.length out.length = s1 := by unfold S3.next; rw [if_neg (by rw [← HM.out]; omega)]
            clear hm1 hlast
            rw [hnxt] at HNX
            clear hnxt
            go_wp2_with fail
            go_roundw
            case rel => exact ⟨out.length + 1, s1, out ++ [y], by go_num, hid ⟨HI4.out, by simp, by omega, HNX.out⟩⟩
            case measure => simp [intOf]; omega
      | false =>
        go_wp2_with fail
        refine wp_region_T (fun v => (v.cell? ⟨lb, lo + out.length, none⟩ = some (uv x) ∧ v.cell? ⟨g, m, none⟩ = some (uv (s.slot out.length))) ∧ Ext wr v) 10 [(0, true), (1, true), (2, true), (3, true), (4, true), (5, true), (6, true), (7, true), (8, false), (9, false), (10, false), (11, false)] (by kernel_rfl) (by kernel_rfl) (by intro c a d v w h; cases d <;> exact h) ?_
        intro ops hops
        have HS := keep0 H8.out
        iterate 8
          refine wpT_take (v := ?_) (by rw [hops, List.getElem?_toArray]; rfl) (by first | rfl | (rw [hops]; rfl)) ?_ HS ?_
          rotate_left
          · intro v h; go_simp; with_reducible rfl
          simp only [Act.put, List.getElem_toArray, List.getElem_cons_zero, List.getElem_cons_succ, List.setIfInBounds_toArray, List.set_cons_zero, List.set_cons_succ]
        refine wpT_step (by rw [hops, List.getElem?_toArray]; rfl) (by first | rfl | (rw [hops]; rfl)) ?_
        intro K hK
        go_wp2_with fail
        refine (rSub_any _ isBig x (s.slot out.length) _).mono ?_
        rintro e w2 ⟨rfl, hx2⟩
        have HS1 := keepE H8.out HS hx2
        rw [show fSub x (s.slot out.length) = runO false s out.length x from rfl]
        have hk : runK false s out.length x = x := rfl
        rw [hk] at HNX
        generalize runO false s out.length x = y at *
        clear HS hx2 hk
        refine hK _ _ ⟨fun _ => HS1, ?_⟩
        clear hK K
        refine wpT_step (by rw [hops, List.getElem?_toArray]; rfl) (by first | rfl | (rw [hops]; rfl)) ?_
        intro K hK
        go_wp2_with fail
        have HS2 := keepE H8.out HS1 ((Ext.refl w2).alloc (.cells #[uv y] 22))
        refine ⟨fun _ => HS2, ?_⟩
        have hI2 := HR.out.I.ext HS2.2
        have hone : RdC' (w2.alloc (.cells #[uv y] 22)) (.slice (some ⟨w2.heap.size, 0, none⟩) 1 1) 1 [uv y] := (RdC.block (heap_new _ _) (by unfold maxLen; omega)).weak
        refine wpT_step (by rw [hops, List.getElem?_toArray]; rfl) (by first | rfl | (rw [hops]; rfl)) ?_
        intro K hK
        refine wp_app' _ _ 57 rfl 22 i0 (.int .u64 0) 1 8 Tryz.underlying57 HI1.out.1 HI1.out.2.1 HI1.out.2.2.1 HI1.out.2.2.2 rfl (by decide) (.slice oa out.length oc) out.length (us out) rfl hI2.own (.slice (some ⟨w2.heap.size, 0, none⟩) 1 1) 1 [uv y] rfl hone rfl (by intro u hu; simp only [List.mem_singleton] at hu; subst hu; rfl) (by unfold maxLen; omega) (by omega) ?_
        intro v3 w3 hown3 hk3 hb3
        have hu3 : OwnU w3 v3 (out ++ [y]) := by
          show w3.ownsRow 0 22 1 v3 (out ++ [y]).length (us (out ++ [y]))
          rw [List.length_append, show us (out ++ [y]) = us out ++ [uv y] by simp [us]]
          exact hown3
        have hI3 := hI2.app hu3 hk3 hb3
        obtain ⟨oa3, oc3, rfl, -⟩ := ownsRow_rd hu3
        rw [show (out ++ [y]).length = out.length + 1 by simp] at hI3
        have HI3 := hid hI3
        obtain ⟨lb', lo', hle, hcx3⟩ := (HL.out.ext hI3.ex).uat HXX.out
        injection hle with hle
        injection hle with hle1 hle2
        subst hle1 hle2
        have HCX := hid hcx3
        clear hcx3
        clear hI2 hone hown3 hk3 hb3 hu3 hI3 HS1 HS2
        refine hK _ _ ⟨fun h => absurd h (by decide), ?_⟩
        clear hK K
        refine wpT_step (by rw [hops, List.getElem?_toArray]; rfl) (by first | rfl | (rw [hops]; rfl)) ?_
        intro K hK
        go_wp2_with fail
        try (with_reducible refine ⟨fun h => absurd h (by decide), ?_⟩)
        try rw [wpT_nil]
        try clear hops ops
        have hcy := HCX.out
        have hgb := HI3.out.st
        have kc : w3.cell? ⟨g, m, none⟩ = some (uv (s.slot out.length)) := by rw [cell_of hgb m, HM.out]; exact arr_slot s out.length
        have kf := frozen_of hgb
        have hil2 : (out.length : Int) < ((out.length + 1 : Nat) : Int) := by omega
        have hil3 : (out.length : Int) < (out.length : Int) + 1 := by omega
        have hks : Kp (fun k => k = g) w3 (w3.setCell ⟨g, m, none⟩ (uv x)) := (Kp.refl (fun k => k = g) w3).setCell (p := ⟨g, m, none⟩) (.inl rfl) _
        have HI4 := hid (HI3.out.set hks (by rw [heap_setCell_same hgb m, HPUT.out]))
        clear hgb hks
        go_upto_region 12 with fail
        generalize w3.setCell ⟨g, m, none⟩ (uv x) = w4 at *
        clear kc kf hcy
        generalize s.put out.length x = s1 at *
        by_cases hm1 : m = 1
        · have hq1 : ((m : Int) == 1) = true := by simp; omega
          have hnxt : s1.next l.length out.length = perm s1 := by unfold S3.next; rw [if_pos (.inl (by rw [← HM.out]; exact hm1))]
          clear hm1
          rw [hnxt] at HNX
          have hgb := HI4.out.st
          obtain ⟨s1a, s1b, s1c⟩ := s1
          have k0 : w4.cell? ⟨g, 0, none⟩ = some (uv s1a) := cell_of hgb 0
          have k1 : w4.cell? ⟨g, 1, none⟩ = some (uv s1b) := cell_of hgb 1
          have k2 : w4.cell? ⟨g, 2, none⟩ = some (uv s1c) := cell_of hgb 2
          have HP := hid (rPermute_any _ isBig ⟨s1a, s1b, s1c⟩)
          clear hgb hnxt
          go_wp2_with fail
          refine (HP.out _).mono ?_
          rintro e w5 ⟨rfl, hx5⟩
          generalize perm ⟨s1a, s1b, s1c⟩ = s2 at *
          have hI5 := HI4.out.ext hx5
          have kf := frozen_of hI5.st
          have q0 : w5.cell? ⟨g, 0, none⟩ = some (uv s1a) := cell_of hI5.st 0
          have q1 : w5.cell? ⟨g, 1, none⟩ = some (uv s1b) := cell_of hI5.st 1
          have q2 : w5.cell? ⟨g, 2, none⟩ = some (uv s1c) := cell_of hI5.st 2
          obtain ⟨hb6, hk6⟩ := three_set (d0 := uv s2.a) (d1 := uv s2.b) (d2 := uv s2.c) hI5.st
          have HI6 := hid (hI5.set (s' := s2) hk6 hb6)
          clear hb6 hk6 hI5 hx5 k0 k1 k2 HP
          go_wp2_with fail
          go_roundw
          case rel => exact ⟨out.length + 1, s2, out ++ [y], by go_num, hid ⟨HI6.out, by simp, by omega, HNX.out⟩⟩
          case measure => simp [intOf]; omega
        · have hq1 : ((m : Int) == 1) = false := by simp; omega
          by_cases hlast : out.length + 1 = l.length
          · have hq2 : ((out.length : Int) == (l.length : Int) - 1) = true := by simp; omega
            have hnxt : s1.next l.length out.length = perm s1 := by unfold S3.next; rw [if_pos (.inr hlast)]
            clear hm1 hlast
            rw [hnxt] at HNX
            have hgb := HI4.out.st
            obtain ⟨s1a, s1b, s1c⟩ := s1
            have k0 : w4.cell? ⟨g, 0, none⟩ = some (uv s1a) := cell_of hgb 0
            have k1 : w4.cell? ⟨g, 1, none⟩ = some (uv s1b) := cell_of hgb 1
            have k2 : w4.cell? ⟨g, 2, none⟩ = some (uv s1c) := cell_of hgb 2
            have HP := hid (rPermute_any _ isBig ⟨s1a, s1b, s1c⟩)
            clear hgb hnxt
            go_wp2_with fail
            refine (HP.out _).mono ?_
            rintro e w5 ⟨rfl, hx5⟩
            generalize perm ⟨s1a, s1b, s1c⟩ = s2 at *
            have hI5 := HI4.out.ext hx5
            have kf := frozen_of hI5.st
            have q0 : w5.cell? ⟨g, 0, none⟩ = some (uv s1a) := cell_of hI5.st 0
            have q1 : w5.cell? ⟨g, 1, none⟩ = some (uv s1b) := cell_of hI5.st 1
            have q2 : w5.cell? ⟨g, 2, none⟩ = some (uv s1c) := cell_of hI5.st 2
            obtain ⟨hb6, hk6⟩ := three_set (d0 := uv s2.a) (d1 := uv s2.b) (d2 := uv s2.c) hI5.st
            have HI6 := hid (hI5.set (s' := s2) hk6 hb6)
            clear hb6 hk6 hI5 hx5 k0 k1 k2 HP
            go_wp2_with fail
            go_roundw
            case rel => exact ⟨out.length + 1, s2, out ++ [y], by go_num, hid ⟨HI6.out, by simp, by omega, HNX.out⟩⟩
            case measure => simp [intOf]; omega
          · have hq2 : ((out.length : Int) == (l.length : Int) - 1) = false := by simp; omega
            have hnxt : s1.next l.length out.length = s1 := by unfold S3.next; rw [if_neg (by rw [← HM.out]; omega)]
            clear hm1 hlast
            rw [hnxt] at HNX
            clear hnxt
            go_wp2_with fail
            go_roundw
            case rel => exact ⟨out.length + 1, s1, out ++ [y], by go_num, hid ⟨HI4.out, by simp, by omega, HNX.out⟩⟩
            case measure => simp [intOf]; omega
    · have hli : out.length = l.length := by omega
      have hltB : decide ((out.length : Int) < (l.length : Int)) = false := by simp; omega
      have hltN : decide (out.length < l.length) = false := by simp; omega
      have hsp := HR.out.spec
      rw [hli, List.drop_length, show ∀ (i : Nat) (t : S3), runL pl l.length i t [] = (t, []) from fun i t => by rw [runL], List.append_nil] at hsp
      have HSP := hid hsp
      have hgb := HR.out.I.st
      have H14 : Hid (∀ v, Ext wr v → v.cell? ⟨g, 0, none⟩ = some (uv s.a)) := hid fun v k => k.cell_some (cell_of hgb 0)
      clear hsp hgb hlt hli
      go_wp2_with fail
      refine wp_region_T (fun v => (v.cell? ⟨g, 0, none⟩ = some (uv s.a)) ∧ Ext wr v) 4 [(0, true), (1, true), (2, true), (3, true), (4, false)] (by kernel_rfl) (by kernel_rfl) (by intro c a d v w h; cases d <;> exact h) ?_
      intro ops hops
      have HS := keep0 H14.out
      iterate 4
        refine wpT_take (v := ?_) (by rw [hops, List.getElem?_toArray]; rfl) (by first | rfl | (rw [hops]; rfl)) ?_ HS ?_
        rotate_left
        · intro v h; go_simp; with_reducible rfl
        simp only [Act.put, List.getElem_toArray, List.getElem_cons_zero, List.getElem_cons_succ, List.setIfInBounds_toArray, List.set_cons_zero, List.set_cons_succ]
      clear HS
      refine wpT_step (by rw [hops, List.getElem?_toArray]; rfl) (by first | rfl | (rw [hops]; rfl)) ?_
      intro K hK
      go_wp2_with fail
      try (with_reducible refine ⟨fun h => absurd h (by decide), ?_⟩)
      try rw [wpT_nil]
      try clear hops ops
      go_wp2_with fail
      refine bodyPost_ret (v := .tuple #[.slice oa out.length oc, uv s.a]) (by simp [results, Tryz.results125, go_sem]) rfl ?_
      rw [HSP.out]
      exact ⟨_, rfl, ownsRow_ext HR.out.I.own (Ext.refl wr).drew, HR.out.I.ex.drew, HR.out.I.new⟩
theorem cipE_eq (key nonce : UInt64) (l : List UInt64) : cipE key nonce l = (decide (key < big) && (decide (nonce < big) && allE l)) := by unfold cipE; rw [Bool.and_assoc]
set_option maxRecDepth 100000 in
set_option maxHeartbeats 3200000 in
theorem rOpenC_any (key nonce : UInt64) (lv : Value) (l : List UInt64) (w : World) (hl : RdU' w lv l) (hL : l.length ≤ 100000000) :
    Calls Tryz.prog 108 #[uv key, uv nonce, lv] w (OpenC w (cipOpen key nonce l)) := by
  have HRD := hid (rReduced_any lv l w hl (by omega))
  obtain ⟨la, lc, rfl, hlc, hlm, hnil, hcell⟩ := id hl
  have HL := hid hl
  rcases List.eq_nil_or_concat l with rfl | ⟨l0, t, rfl⟩
  · have HR := hid (cipOpen_nil key nonce)
    clear hl hcell HL hnil hlc hlm
    have h0 : (([] : List UInt64).length : Int) = 0 := rfl
    go_enter Tryz.func108, Tryz.ntmps108
    go_wp2_with fail
    rw [HR.out]
    exact bodyPost_ret (v := .tuple #[.slice none 0 0, .bool false]) (by simp [results, Tryz.results108, go_sem]) rfl (.none (Ext.refl _))
  · rw [List.concat_eq_append] at *
    obtain ⟨b, o, hla, hct⟩ := HL.out.uat (i := l0.length) (x := t) (by simp)
    subst hla
    have hlen : (l0 ++ [t]).length = l0.length + 1 := by simp
    obtain ⟨n, hn⟩ : ∃ n, n = l0.length := ⟨_, rfl⟩
    have hr0 : RdU' w (.slice (some ⟨b, o, none⟩) n lc) l0 := by
      refine ⟨_, lc, by rw [hn], by omega, hlm, (fun h => by cases h), fun ad ha i x hx => hcell ad ha i x ?_⟩
      rw [show us (l0 ++ [t]) = us l0 ++ us [t] by simp [us], List.getElem?_append_left ((List.getElem?_eq_some_iff.1 hx).1)]; exact hx
    rw [hlen, ← hn] at HL HRD ⊢
    have hn1 : n ≤ 100000000 := by omega
    rw [← hn] at hct
    have HRUN := hid (fun v (k : Ext w v) => run_any key nonce (.slice (some ⟨b, o, none⟩) n lc) l0 false v (hr0.ext k) (by omega))
    have hnc : n + 1 ≤ lc := by omega
    have hw1 : IntKind.i64.wrap (((n + 1 : Nat) : Int) - 1) = (n : Int) := by rw [IntWalk.i64_in _ (by omega)]; omega
    have hw2 : ((n + 1 : Nat) : Int) - 1 = (n : Int) := by omega
    have hdec : cipDec key nonce l0 = ((runL false l0.length 0 (cipStart key nonce l0.length) l0).2, (runL false l0.length 0 (cipStart key nonce l0.length) l0).1.a) := by rw [runL_dec]; rfl
    generalize runL false l0.length 0 (cipStart key nonce l0.length) l0 = r at *
    obtain ⟨⟨ra, rb, rc⟩, ro⟩ := r
    simp only at HRUN hdec
    have hgk := ge_big_dec key
    have hgn := ge_big_dec nonce
    obtain ⟨R, hR⟩ : ∃ R, R = cipOpen key nonce (l0 ++ [t]) := ⟨_, rfl⟩
    have hbad := fun h => hR.trans (cipOpen_bad (key := key) (nonce := nonce) (l := l0 ++ [t]) h)
    have hgood := fun h => hR.trans (cipOpen_snoc (key := key) (nonce := nonce) (l := l0) (t := t) h)
    rw [hdec] at hgood
    rw [cipE_eq] at hbad hgood
    rw [← hR]
    have HBAD := hid hbad
    have HGOOD := hid hgood
    clear hl hcell hnil hlc hlen hr0 HL hn hR hbad hgood hdec
    generalize decide (key < big) = kb at *
    generalize decide (nonce < big) = nb at *
    generalize allE (l0 ++ [t]) = lb at *
    have hnn : decide ((n : Int) < 0) = false := by simp
    have hnl : (n : Int) < ((n + 1 : Nat) : Int) := by omega
    have hn0 : (0 : Int) ≤ (n : Int) := Int.natCast_nonneg _
    have no : Hid (∀ w', R = ([], false) → Ext w w' → OpenC w R (.returned (.tuple #[.slice none 0 0, .bool false])) w') := hid fun w' h k => by subst h; exact .none k
    have HCT := hid hct
    go_enter Tryz.func108, Tryz.ntmps108
    cases kb with
    | false =>
      go_wp2_with fail
      exact bodyPost_ret (v := .tuple #[.slice none 0 0, .bool false]) (by simp [results, Tryz.results108, go_sem]) rfl (no.out _ (HBAD.out rfl) (Ext.refl _))
    | true =>
      cases nb with
      | false =>
        go_wp2_with fail
        exact bodyPost_ret (v := .tuple #[.slice none 0 0, .bool false]) (by simp [results, Tryz.results108, go_sem]) rfl (no.out _ (HBAD.out rfl) (Ext.refl _))
      | true =>
        go_wp2_with fail
        refine HRD.out.mono ?_
        rintro e w1 ⟨rfl, hx⟩
        have HX1 := hid hx
        clear hx hgk hgn
        cases lb with
        | false =>
          go_wp2_with fail
          exact bodyPost_ret (v := .tuple #[.slice none 0 0, .bool false]) (by simp [results, Tryz.results108, go_sem]) rfl (no.out _ (HBAD.out rfl) HX1.out)
        | true =>
          have HG := hid (HGOOD.out rfl)
          clear HGOOD HBAD hct
          go_wp2_with fail
          refine (HRUN.out _ HX1.out).mono ?_
          rintro e w2 ⟨v, rfl, hown, hx, hfr⟩
          simp only at hown ⊢
          obtain ⟨oa, oc, rfl, -⟩ := ownsRow_rd hown
          have HX2 := hid (HX1.out.trans hx)
          have HOWN := hid hown
          have HFR : Hid (∀ k, blk (.slice oa ro.length oc) = some k → w.heap.size ≤ k) := hid fun k hk => Nat.le_trans HX1.out.size (hfr k hk)
          have hct2 := HX2.out.cell_some HCT.out
          clear hown hx hfr
          rcases htt : ((ra.toNat : Int) != (t.toNat : Int)) with _ | _
          · have htb : (ra == t) = true := by
              have h1 : (ra.toNat : Int) = (t.toNat : Int) := by simpa using htt
              have h2 : ra = t := UInt64.toNat_inj.1 (by omega)
              rw [h2]; simp
            have hr := HG.out
            simp only [htb, if_true] at hr
            have HRR := hid hr
            clear htb hr HG
            go_wp2_with fail
            rw [HRR.out]
            exact bodyPost_ret (v := .tuple #[.slice oa ro.length oc, .bool true]) (by simp [results, Tryz.results108, go_sem]) rfl ⟨_, rfl, HOWN.out, HX2.out, HFR.out⟩
          · have htb : (ra == t) = false := by
              rcases h : (ra == t) with _ | _
              · rfl
              · have h2 : ra = t := by simpa using h
                rw [h2] at htt; simp at htt
            have hr := HG.out
            simp only [htb, Bool.false_eq_true, if_false] at hr
            have HRR := hid hr
            clear htb hr HG
            go_wp2_with fail
            exact bodyPost_ret (v := .tuple #[.slice none 0 0, .bool false]) (by simp [results, Tryz.results108, go_sem]) rfl (no.out _ HRR.out HX2.out)
end Go.Proofs.YtcikjcjfcanloaaGreat
