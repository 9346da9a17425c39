/- Texts of this claim, joined: FieldSub, Cip, CipSeal, CipOpen, SealRO, Env, Note. -/
import Derived.Test.YtcikjcjfcanloaaGreatJr1
import Derived.Test.YtcikjcjfcanloaaGreatJr3
import Derived.Test.YtcikjcjfcanloaaGreatJr4
set_option linter.unusedSimpArgs false
namespace Go.Proofs.YtcikjcjfcanloaaGreat
open Go.RowKit
set_option maxHeartbeats 400000 in
theorem Neg_any (p : Int) (hp : IsBig p) (a : UInt64) (w : World) :
    Calls Tryz.prog 204 #[.agg #[.int .u64 p], .int .u64 a.toNat] w fun e w' => e = .returned (.int .u64 (fNeg a).toNat) ∧ Ext w w' := by
  have hlt := fRed_lt hp a
  have hp1 := hp.lt
  go_enter Tryz.func204, Tryz.ntmps204
  go_wp2_with fail
  refine (Reduce_any p hp a _).mono ?_
  rintro e w1 ⟨rfl, hb⟩
  have hcell : w1.cell? ⟨w.heap.size, 0, none⟩ = some (.int .u64 p) := hb.cell_some (by simp)
  by_cases hz : ((fRed a).toNat : Int) = 0
  · have hfin := neg_zero hz
    have hz1 : (((fRed a).toNat : Int) == 0) = true := by simp; omega
    have HF := hid hfin
    clear hz hfin
    go_wp2
    go_ret
    exact ⟨ret_int HF.out, ((Ext.refl _).alloc _).trans hb⟩
  · have hfin := neg_pos hp hz
    have hz1 : (((fRed a).toNat : Int) == 0) = false := by simp; omega
    have HF := hid hfin
    clear hz hfin
    go_wp2
    go_ret
    exact ⟨ret_int HF.out, ((Ext.refl _).alloc _).trans hb⟩
set_option maxHeartbeats 400000 in
theorem Sub_any (p : Int) (hp : IsBig p) (a b : UInt64) (w : World) :
    Calls Tryz.prog 202 #[.agg #[.int .u64 p], .int .u64 a.toNat, .int .u64 b.toNat] w fun e w' => e = .returned (.int .u64 (fSub a b).toNat) ∧ Ext w w' := by
  have hcell : (w.alloc (.cells #[.int .u64 p] 202)).cell? ⟨w.heap.size, 0, none⟩ = some (.int .u64 p) := by simp
  go_enter Tryz.func202, Tryz.ntmps202
  go_wp2_with fail
  have hE : Ext w (w.alloc (.cells #[.int .u64 p] 202)) := (Ext.refl _).alloc _
  generalize w.alloc (.cells #[.int .u64 p] 202) = w0 at *
  go_region_held3 (fun w' => w'.cell? ⟨w.heap.size, 0, none⟩ = some (.int .u64 p) ∧ Ext w0 w')
    (first | exact ⟨hcell, (Ext.refl _).drew⟩ | exact keep1 ‹_ ∧ _› hb2)
    (first | (go_at_call 204; refine (Neg_any p hp b _).mono ?_; rintro e w2 ⟨rfl, hb2⟩)
           | (go_at_call 177; refine (Add_any p hp a (fNeg b) _).mono ?_; rintro e w2 ⟨rfl, hb2⟩))
  go_wp2
  go_ret
  exact ⟨rfl, hE.trans (And.right ‹_ ∧ _›)⟩
end Go.Proofs.YtcikjcjfcanloaaGreat
namespace Go.Proofs.YtcikjcjfcanloaaGreat
open Go.RowKit
theorem big_nat : big.toNat = 18446744069414584321 := rfl
theorem fRed_nat (a : UInt64) : (fRed a).toNat = a.toNat % 18446744069414584321 := by unfold fRed; rw [UInt64.toNat_mod, big_nat]
theorem fAdd_nat (a b : UInt64) : (fAdd a b).toNat = (a.toNat + b.toNat) % 18446744069414584321 := by
  unfold fAdd; rw [fAdd0_toNat, fRed_nat, fRed_nat]; omega
theorem fAdd_lt_big (a b : UInt64) : fAdd a b < big := by rw [lt_big_iff, fAdd_nat]; omega
attribute [local irreducible] perm fAdd fMul fPow fSub fNeg fRed
def S3.slot (s : S3) (i : Nat) : UInt64 := if i % 2 = 0 then s.a else s.b
def S3.put (s : S3) (i : Nat) (x : UInt64) : S3 := if i % 2 = 0 then ⟨x, s.b, s.c⟩ else ⟨s.a, x, s.c⟩
def S3.next (s : S3) (n i : Nat) : S3 := if i % 2 = 1 ∨ i + 1 = n then perm s else s
def decL (n : Nat) : Nat → S3 → List UInt64 → S3 × List UInt64
  | _, s, [] => (s, [])
  | i, s, c :: r => ((decL n (i + 1) ((s.put i c).next n i) r).1, fSub c (s.slot i) :: (decL n (i + 1) ((s.put i c).next n i) r).2)
theorem decL_cons (n i : Nat) (s : S3) (c : UInt64) (r : List UInt64) : decL n i s (c :: r) =
    ((decL n (i + 1) ((s.put i c).next n i) r).1, fSub c (s.slot i) :: (decL n (i + 1) ((s.put i c).next n i) r).2) := by rw [decL]
theorem decL_length (n : Nat) : ∀ (l : List UInt64) (i : Nat) (s : S3), (decL n i s l).2.length = l.length
  | [], _, _ => by rw [decL]
  | x :: r, i, s => by rw [decL_cons]; simp only [List.length_cons]; rw [decL_length n r]
def cipStart (key nonce : UInt64) (n : Nat) : S3 := perm ⟨key, nonce, fAdd 786432 (UInt64.ofNat n)⟩
def cipE (key nonce : UInt64) (l : List UInt64) : Bool := decide (key < big) && decide (nonce < big) && allE l
def cipDec (key nonce : UInt64) (l : List UInt64) : List UInt64 × UInt64 := ((decL l.length 0 (cipStart key nonce l.length) l).2, (decL l.length 0 (cipStart key nonce l.length) l).1.a)
end Go.Proofs.YtcikjcjfcanloaaGreat
namespace Go.Proofs.YtcikjcjfcanloaaGreat
open Go.RowKit
attribute [local irreducible] perm fAdd fMul fPow fSub fNeg fRed
set_option maxRecDepth 100000 in
set_option maxHeartbeats 1600000 in
theorem cipElements_any (key nonce : UInt64) (lv : Value) (l : List UInt64) (w : World) (hl : RdU w lv l) (hL : l.length ≤ 1000000000000) :
    Calls Tryz.prog 194 #[uv key, uv nonce, lv] w fun e w' => e = .returned (.bool (cipE key nonce l)) ∧ w = w' := by
  obtain ⟨a, c, rfl, hlc, hcm, hnil, hcell⟩ := hl
  have hL1 : (l.length : Int) ≤ 1000000000000 := by omega
  have HC := hid hcell
  have HN := hid hnil
  clear hcell hnil hcm
  have HCE : Hid (∀ x y, decide (key < big) = x → decide (nonce < big) = y → cipE key nonce l = (x && y && allE l)) := hid (by rintro x y rfl rfl; rfl)
  cases hk : decide (key < big) with
  | false =>
    have d1 : decide ((18446744069414584321 : Int) ≤ (key.toNat : Int)) = true := by rw [ge_big_dec, hk]; rfl
    have HR := hid (HCE.out _ _ hk rfl)
    clear hk HCE
    go_enter Tryz.func194, Tryz.ntmps194
    go_wp2_with fail
    go_ret
    exact ⟨by rw [HR.out]; rfl, rfl⟩
  | true =>
    have d1 : decide ((18446744069414584321 : Int) ≤ (key.toNat : Int)) = false := by rw [ge_big_dec, hk]; rfl
    cases hn : decide (nonce < big) with
    | false =>
      have d2 : decide ((18446744069414584321 : Int) ≤ (nonce.toNat : Int)) = true := by rw [ge_big_dec, hn]; rfl
      have HR := hid (HCE.out _ _ hk hn)
      clear hk hn HCE
      go_enter Tryz.func194, Tryz.ntmps194
      go_wp2_with fail
      go_ret
      exact ⟨by rw [HR.out]; rfl, rfl⟩
    | true =>
      have d2 : decide ((18446744069414584321 : Int) ≤ (nonce.toNat : Int)) = false := by rw [ge_big_dec, hn]; rfl
      have HR := hid (HCE.out _ _ hk hn)
      clear hk hn HCE
      go_enter Tryz.func194, Tryz.ntmps194
      go_wp2
      go_loop [17] (fun iv => ∃ i : Nat, i ≤ l.length ∧ iv = .int .i64 i ∧ Hid ((l.take i).all (fun x => decide (x < big)) = true)) (fun iv => l.length - (intOf iv).toNat)
      case atStart => exact ⟨0, by omega, rfl, hid rfl⟩
      case round =>
        obtain ⟨i, hi, rfl, hI⟩ := hrel
        by_cases hlt : i < l.length
        · obtain ⟨b, o, rfl⟩ : ∃ b o, a = some ⟨b, o, none⟩ := by
            cases a with
            | none => have := HN.out rfl; omega
            | some ad => obtain ⟨h1, _⟩ := HC.out ad rfl; exact ⟨ad.block, ad.off, by cases ad; simp only at h1; subst h1; rfl⟩
          have hc := (HC.out _ rfl).2 i l[i] (List.getElem?_eq_getElem hlt)
          have hx : l[i]? = some l[i] := List.getElem?_eq_getElem hlt
          generalize l[i] = x at *
          have hc' : w.cell? ⟨b, o + i, none⟩ = some (.int .u64 x.toNat) := hc
          have HX := hid hx
          clear hc hx
          by_cases hb : x < big
          · have hbi := (lt_big_iff x).1 hb
            have hB := hid hb
            clear hb
            have hd : decide ((18446744069414584321 : Int) ≤ (x.toNat : Int)) = false := by simp; omega
            clear hbi
            go_wp2
            go_round
            case rel => exact ⟨i + 1, by omega, by go_num, hid (allE_snoc HX.out hI.out hB.out)⟩
            case measure => simp [intOf]; omega
          · have hbi : ¬ (x.toNat : Int) < 18446744069414584321 := fun h => hb ((lt_big_iff x).2 h)
            have hfin := allE_bad HX.out hb
            have HFIN := hid hfin
            have hd : decide ((18446744069414584321 : Int) ≤ (x.toNat : Int)) = true := by simp; omega
            clear hbi hfin hb
            go_wp2
            go_ret
            exact ⟨by rw [HR.out, HFIN.out]; rfl, rfl⟩
        · have hil : i = l.length := by omega
          have hall : allE l = true := by
            have := hI.out
            rw [hil, List.take_length] at this
            exact this
          have HALL := hid hall
          have hlB : decide ((i : Int) < (l.length : Int)) = false := by simp; omega
          clear hall
          go_wp2
          go_ret
          exact ⟨by rw [HR.out, HALL.out]; rfl, rfl⟩
theorem Add_786 (p : Int) (hp : IsBig p) (m : Nat) (hm : m ≤ 1000000000000) (w : World) :
    Calls Tryz.prog 177 #[.agg #[.int .u64 p], .int .u64 786432, .int .u64 (m : Int)] w fun e w' => e = .returned (uv (fAdd 786432 (UInt64.ofNat m))) ∧ Ext w w' := by
  have h := Add_any p hp 786432 (UInt64.ofNat m) w
  rw [toNat_ofNat_lt (by omega)] at h
  exact h
set_option maxRecDepth 100000 in
set_option maxHeartbeats 1600000 in
theorem start_any (key nonce : UInt64) (n : Nat) (hn : n ≤ 1000000000000) (w : World) :
    Calls Tryz.prog 201 #[uv key, uv nonce, .int .i64 (n : Int)] w fun e w' => e = .returned (cipStart key nonce n).v ∧ Ext w w' := by
  have hw : IntKind.u64.wrap (n : Int) = (n : Int) := by simp [IntKind.wrap, IntKind.bits, IntKind.signed]; omega
  have CA : Hid (∀ v, Calls Tryz.prog 177 #[.agg #[.int .u64 18446744069414584321], .int .u64 786432, .int .u64 (n : Int)] v fun e w' => e = .returned (uv (fAdd 786432 (UInt64.ofNat n))) ∧ Ext v w') := hid (Add_786 _ big_is n hn)
  obtain ⟨x, hx⟩ : ∃ x, x = fAdd 786432 (UInt64.ofNat n) := ⟨_, rfl⟩
  rw [← hx] at CA
  have CP : Hid (∀ v, Calls Tryz.prog 179 #[.int .u64 18446744069414584321, .agg #[uv key, uv nonce, uv x]] v fun e w' => e = .returned (cipStart key nonce n).v ∧ Ext v w') := hid fun v => by
    have := Permute_any 18446744069414584321 big_is ⟨key, nonce, x⟩ v
    unfold cipStart
    rw [← hx]
    exact this
  clear hx
  generalize cipStart key nonce n = r at *
  have hx1 := ((Ext.refl w).alloc (.cells #[.int .u64 0, .int .u64 0, .int .u64 0] 160)).alloc (.cells #[.int .u64 18446744069414584321] 202)
  have hb := heap_alloc_some (o' := .cells #[.int .u64 18446744069414584321] 202) (heap_new w (.cells #[.int .u64 0, .int .u64 0, .int .u64 0] 160))
  go_enter Tryz.func201, Tryz.ntmps201
  go_wp2_with fail
  generalize (w.alloc (.cells #[.int .u64 0, .int .u64 0, .int .u64 0] 160)).alloc (.cells #[.int .u64 18446744069414584321] 202) = w0 at *
  refine (CA.out _).mono ?_
  rintro e w1 ⟨rfl, hx2⟩
  have HB1 := hid (hx2.heap_some hb)
  have HX1 := hid (hx1.trans hx2)
  clear hx2 hb hx1
  go_wp2_with fail
  refine (CP.out _).mono ?_
  rintro e w2 ⟨rfl, hx3⟩
  have HB2 := hx3.heap_some HB1.out
  have d0 : w2.cell? ⟨w.heap.size, 0, none⟩ = some (.int .u64 0) := cell_of HB2 0
  have d1 : w2.cell? ⟨w.heap.size, 1, none⟩ = some (.int .u64 0) := cell_of HB2 1
  have d2 : w2.cell? ⟨w.heap.size, 2, none⟩ = some (.int .u64 0) := cell_of HB2 2
  have df : ∀ i, w2.frozen? ⟨w.heap.size, i, none⟩ = false := fun i => frozen_of HB2 i
  have HBB := hid HB2
  have HX3 := hid (HX1.out.trans hx3)
  clear HB2 hx3
  go_wp2
  have hB3 := heap_setCell_same (heap_setCell_same (heap_setCell_same HBB.out 0 (.int .u64 r.a.toNat)) 1 (.int .u64 r.b.toNat)) 2 (.int .u64 r.c.toNat)
  have r0 := cell_of hB3 0
  have r1 := cell_of hB3 1
  have r2 := cell_of hB3 2
  have hfin := ((HX3.out.setCell (p := ⟨w.heap.size, 0, none⟩) (Nat.le_refl _) (.int .u64 r.a.toNat)).setCell (p := ⟨w.heap.size, 1, none⟩) (Nat.le_refl _) (.int .u64 r.b.toNat)).setCell (p := ⟨w.heap.size, 2, none⟩) (Nat.le_refl _) (.int .u64 r.c.toNat)
  exact bodyPost_ret (v := r.v) (by simp [results, Tryz.results201, go_sem, r0, r1, r2]) rfl ⟨rfl, hfin⟩
end Go.Proofs.YtcikjcjfcanloaaGreat
namespace Go.Proofs.YtcikjcjfcanloaaGreat
open Go.RowKit
attribute [local irreducible] perm fAdd fMul fPow fSub fNeg fRed
theorem drop_at {l r : List UInt64} {i : Nat} {x : UInt64} (h : l.drop i = x :: r) : l[i]? = some x ∧ l.drop (i + 1) = r := by
  constructor
  · rw [← List.head?_drop, h]; rfl
  · rw [← List.drop_drop, h]; rfl
end Go.Proofs.YtcikjcjfcanloaaGreat
namespace Go.Proofs.YtcikjcjfcanloaaGreat
open Go.RowKit
attribute [local irreducible] perm fAdd fMul fPow fSub fNeg fRed
/-- What the loop of decrypt keeps. -/
structure DecI (w : World) (nf g gp n i : Nat) (s : S3) (L : List UInt64) (v : World) : Prop where
  fld : v.heap[nf]? = some (.cells #[.int .u64 18446744069414584321] 202 (0, 0))
  st : v.heap[g]? = some (.cells s.arr 160 (0, 0))
  part : UPart v gp n i L
  ex : Ext w v
theorem DecI.ext {w v v' : World} {nf g gp n i : Nat} {s : S3} {L : List UInt64} (h : DecI w nf g gp n i s L v) (k : Ext v v') : DecI w nf g gp n i s L v' :=
  ⟨k.heap_some h.fld, k.heap_some h.st, h.part.kp (Kp.of_ext (F := fun _ => False) k) id, h.ex.trans k⟩
theorem DecI.set {w v : World} {nf g gp n i : Nat} {s : S3} {L : List UInt64} (h : DecI w nf g gp n i s L v) (hg : w.heap.size ≤ g) (o : Nat) (x : Value) (s' : S3) (hs : s.arr.setIfInBounds o x = s'.arr) : DecI w nf g gp n i s' L (v.setCell ⟨g, o, none⟩ x) where
  fld := (heap_setCell_ne (by rintro rfl; have h1 := h.fld; rw [h.st] at h1; injection h1 with h1; injection h1 with _ h1; exact absurd h1 (by decide)) o x).trans h.fld
  st := by rw [heap_setCell_same h.st o x, hs]
  part := h.part.kp ((Kp.refl (fun k => k = g) v).setCell (p := ⟨g, o, none⟩) (.inl rfl) x) (by
    rintro rfl
    obtain ⟨cur, h1, -⟩ := h.part
    rw [h.st] at h1; injection h1 with h1; injection h1 with _ h1; exact absurd h1 (by decide))
  ex := h.ex.setCell hg x
theorem DecI.more {w v : World} {nf g gp n i : Nat} {s : S3} {L : List UInt64} (h : DecI w nf g gp n i s L v) (hg : w.heap.size ≤ gp) {x : UInt64} (hx : L[i]? = some x) (hi : i < n) : DecI w nf g gp n (i + 1) s L (v.setCell ⟨gp, i, none⟩ (uv x)) where
  fld := (heap_setCell_ne (by rintro rfl; obtain ⟨cur, h1, -⟩ := h.part; rw [h.fld] at h1; injection h1 with h1; injection h1 with _ h1; exact absurd h1 (by decide)) i (uv x)).trans h.fld
  st := (heap_setCell_ne (by rintro rfl; obtain ⟨cur, h1, -⟩ := h.part; rw [h.st] at h1; injection h1 with h1; injection h1 with _ h1; exact absurd h1 (by decide)) i (uv x)).trans h.st
  part := h.part.more hx hi
  ex := h.ex.setCell hg (uv x)
theorem UPart.cell {v : World} {gp n i j : Nat} {L : List UInt64} (h : UPart v gp n i L) (hj : j < n) : (∃ u, v.cell? ⟨gp, j, none⟩ = some u) ∧ ∀ o, v.frozen? ⟨gp, o, none⟩ = false := by
  obtain ⟨cur, h1, h2, -⟩ := h
  exact ⟨⟨_, (cell_of h1 j).trans (Array.getElem?_eq_getElem (by omega))⟩, frozen_of h1⟩
def DecO (w : World) (r : List UInt64 × UInt64) (e : Ending) (w' : World) : Prop :=
  ∃ v, e = .returned (.tuple #[v, uv r.2]) ∧ OwnU w' v r.1 ∧ Ext w w' ∧ ∀ k, blk v = some k → w.heap.size ≤ k
set_option maxRecDepth 100000 in
set_option maxHeartbeats 3200000 in
theorem decrypt_any (key nonce : UInt64) (lv : Value) (l : List UInt64) (w : World) (hl : RdU w lv l) (hL : l.length ≤ 100000000) :
    Calls Tryz.prog 195 #[uv key, uv nonce, lv] w (DecO w (cipDec key nonce l)) := by
  obtain ⟨i0, hi, hz0, hz1, hz2⟩ := info_parts Tryz.infoU
  have HL := hid hl
  obtain ⟨la, lc, rfl, -⟩ := id hl
  obtain ⟨n, hn⟩ : ∃ n, n = l.length := ⟨_, rfl⟩
  have HN := hid hn
  have CS : Hid (∀ v, Calls Tryz.prog 201 #[uv key, uv nonce, .int .i64 (n : Int)] v fun e w' => e = .returned (cipStart key nonce n).v ∧ Ext v w') := hid fun v => start_any key nonce n (by omega) v
  have hCS : cipDec key nonce l = ((decL n 0 (cipStart key nonce n) l).2, (decL n 0 (cipStart key nonce n) l).1.a) := by rw [hn]; rfl
  have HCS := hid hCS
  have hDL : (decL n 0 (cipStart key nonce n) l).2.length = n := by rw [decL_length, hn]
  rw [← hn] at hL ⊢
  clear hl hn hCS
  generalize cipStart key nonce n = s0 at *
  obtain ⟨T, O, hTO⟩ : ∃ T O, decL n 0 s0 l = (T, O) := ⟨_, _, rfl⟩
  rw [hTO] at HCS hDL
  simp only at HCS hDL
  have HTO := hid hTO
  have HDL := hid hDL
  clear hTO hDL
  have hb1 : i0.bytes * n ≤ 281474976710656 := by rw [hz2]; omega
  have hb2 : n ≤ maxLen := by unfold maxLen; omega
  have B1 := hid hb1
  have B2 := hid hb2
  clear hb1 hb2
  go_enter Tryz.func195, Tryz.ntmps195
  go_wp2_with fail
  have hf1 := heap_new w (.cells #[.int .u64 18446744069414584321] 202)
  have hx1 := (Ext.refl w).alloc (.cells #[.int .u64 18446744069414584321] 202)
  generalize hw1 : w.alloc (.cells #[.int .u64 18446744069414584321] 202) = w1 at *
  refine (CS.out _).mono ?_
  rintro e w2 ⟨rfl, hx2⟩
  have hg2 := heap_new w2 (.cells s0.arr 160)
  have hx3 := hx2.alloc (.cells s0.arr 160)
  have HF3 := hid (hx3.heap_some hf1)
  have HG : Hid (w.heap.size ≤ w2.heap.size) := hid (hx1.trans hx2).size
  have HX3 := hid (hx1.trans hx3)
  have HG2 := hid hg2
  have hz3 : (w2.alloc (.cells s0.arr 160)).heap.size = w2.heap.size + 1 := World.size_alloc _ _
  have HGP : Hid (w.heap.size ≤ w2.heap.size + 1) := hid (by have := HG.out; omega)
  clear hf1 hx1 hw1 hx2 hg2 hx3
  go_wp2_with (at_make; refine wpList_make_full _ rfl _ _ 57 rfl 0 22 i0 (.int .u64 0) 1 (by kernel_rfl) hi hz0 hz1 _ _ _ _ n rfl rfl rfl rfl B1.out B2.out (Nat.zero_le _) ?_)
  intro w4 hown0 hgr
  generalize hw3 : w2.alloc (.cells s0.arr 160) = w3 at *
  have hE4 : Ext w3 w4 := (grown_kp hgr).toExt (by intro k h; cases h)
  have hp0 : UPart w4 (w2.heap.size + 1) n 0 O := by
    rcases hown0.2 with ⟨h, _⟩ | ⟨gq, cap, cur, h, _, h2, _, _, h3, _⟩
    · cases h
    · injection h with h h4 h5
      injection h with h
      injection h with h
      subst h
      exact ⟨cur, h2, by rw [h3, ← h5, Nat.mul_one], by simp⟩
  have I0 : Hid (DecI w w.heap.size w2.heap.size (w2.heap.size + 1) n 0 s0 O w4) := hid ⟨hE4.heap_some HF3.out, hE4.heap_some HG2.out, hp0, HX3.out.trans hE4⟩
  clear hown0 hgr hE4 hp0 hw3 HF3 HG2 HX3 B1 hz3
  go_wp2
  go_loopw [24] (fun iv wr => ∃ (i : Nat) (s : S3) (r out : List UInt64), i ≤ n ∧ iv = .int .i64 i ∧ Hid (l.drop i = r) ∧ Hid (∃ tl, decL n i s r = (T, tl) ∧ out ++ tl = O) ∧ Hid (out.length = i) ∧ Hid (DecI w w.heap.size w2.heap.size (w2.heap.size + 1) n i s O wr)) (fun iv _ => n - (intOf iv).toNat)
  case atStart => exact ⟨0, s0, l, [], by omega, rfl, hid rfl, hid ⟨O, HTO.out, rfl⟩, hid rfl, I0⟩
  case round =>
    obtain ⟨i, s, r, out, hin, rfl, HDR, HEN, HOL, HCI⟩ := hrel
    by_cases hlt : i < n
    · have hltB : decide ((i : Int) < (n : Int)) = true := by simp; omega
      have hi0' : (0 : Int) ≤ (i : Int) := Int.natCast_nonneg _
      have hil : (i : Int) < (n : Int) := by omega
      obtain ⟨c, r1, hr⟩ : ∃ x r1, r = x :: r1 := by
        cases r with
        | nil => have h := congrArg List.length HDR.out; rw [List.length_drop] at h; have := HN.out; simp at h; omega
        | cons x r1 => exact ⟨x, r1, rfl⟩
      subst hr
      obtain ⟨hx, hdr⟩ := drop_at HDR.out
      obtain ⟨b, o, hlaeq, hcx⟩ := (HL.out.ext HCI.out.ex).at hx
      subst hlaeq
      obtain ⟨tl, h1, h2⟩ := HEN.out
      rw [decL_cons] at h1
      injection h1 with h1 h3
      obtain ⟨tl', htl⟩ : ∃ tl', tl' = (decL n (i + 1) ((s.put i c).next n i) r1).2 := ⟨_, rfl⟩
      have hen' : ∃ tl, decL n (i + 1) ((s.put i c).next n i) r1 = (T, tl) ∧ (out ++ [fSub c (s.slot i)]) ++ tl = O := ⟨tl', by rw [← h1, htl], by rw [← h2, ← h3, ← htl]; simp⟩
      have hOi : O[i]? = some (fSub c (s.slot i)) := by
        rw [← h2, ← h3, List.getElem?_append_right (by rw [HOL.out]; exact Nat.le_refl _), HOL.out, Nat.sub_self]; rfl
      have HOI := hid hOi
      have HEN' := hid hen'
      have HDR' := hid hdr
      have HOL' : Hid ((out ++ [fSub c (s.slot i)]).length = i + 1) := hid (by rw [List.length_append, HOL.out]; rfl)
      have CA : Hid (∀ v, Calls Tryz.prog 202 #[.agg #[.int .u64 18446744069414584321], uv c, uv (s.slot i)] v fun e w' => e = .returned (uv (fSub c (s.slot i))) ∧ Ext v w') := hid fun v => Sub_any _ big_is c (s.slot i) v
      have HX := hid hcx
      clear h1 h2 h3 htl hen' hdr hx HDR HEN hcx hOi
      rcases Nat.mod_two_eq_zero_or_one i with hm | hm
      · have hmI : (i : Int) % 2 = 0 := by omega
        have hmT : (i : Int).tmod 2 = 0 := by rw [Int.tmod_eq_emod_of_nonneg hi0']; exact hmI
        have hslot : s.slot i = s.a := by unfold S3.slot; rw [hm]; rfl
        rw [hslot] at CA HEN' HOL' HOI
        obtain ⟨x, hx⟩ : ∃ x, x = fSub c s.a := ⟨_, rfl⟩
        rw [← hx] at CA HEN' HOL' HOI
        clear hx hslot
        obtain ⟨s1, hs1⟩ : ∃ s1, s1 = (⟨c, s.b, s.c⟩ : S3) := ⟨_, rfl⟩
        have hput : s.put i c = s1 := by rw [hs1]; unfold S3.put; rw [hm]; rfl
        rw [hput] at HEN'
        clear hput
        have HS1D := hid hs1
        clear hs1
        have H2 : Hid (∀ v, Ext wr v → v.cell? ⟨w2.heap.size, 0, none⟩ = some (uv s.a) ∧ v.cell? ⟨w.heap.size, 0, none⟩ = some (.int .u64 18446744069414584321)) := hid fun v k => ⟨cell_of (k.heap_some HCI.out.st) 0, cell_of (k.heap_some HCI.out.fld) 0⟩
        have cx := HX.out
        go_wp2_with fail
        refine wp_region_T (fun v => (v.cell? ⟨w2.heap.size, 0, none⟩ = some (uv s.a) ∧ v.cell? ⟨w.heap.size, 0, none⟩ = some (.int .u64 18446744069414584321)) ∧ Ext wr v) 9 [(0, true), (1, true), (2, true), (3, true), (4, true), (5, true), (6, true), (7, true), (8, false), (9, false), (10, false)] (by kernel_rfl) (by kernel_rfl) (by intro c a d v w h; cases d <;> exact h) ?_
        intro ops hops
        have HS : _ ∧ Ext wr wr.drew := ⟨H2.out _ (Ext.refl wr).drew, (Ext.refl wr).drew⟩
        iterate 8
          refine wpT_take (v := ?_) (by rw [hops, List.getElem?_toArray]; rfl) (by first | rfl | (rw [hops]; rfl)) ?_ HS ?_
          rotate_left
          · intro v h; go_simp; with_reducible rfl
          simp only [Act.put, List.getElem_toArray, List.getElem_cons_zero, List.getElem_cons_succ, List.setIfInBounds_toArray, List.set_cons_zero, List.set_cons_succ]
        refine wpT_step (by rw [hops, List.getElem?_toArray]; rfl) (by first | rfl | (rw [hops]; rfl)) ?_
        intro K hK
        go_wp2_with fail
        refine (CA.out _).mono ?_
        rintro e v1 ⟨rfl, hx1⟩
        have HC1 := hid (HCI.out.ext ((Ext.refl wr).drew.trans hx1))
        have hx1' := (Ext.refl wr).drew.trans hx1
        have HSS : _ ∧ Ext wr v1 := ⟨H2.out _ hx1', hx1'⟩
        obtain ⟨⟨u0, f0⟩, ff⟩ := HC1.out.part.cell hlt
        have ff' := ff i
        clear hx1 HS
        refine hK _ _ ⟨fun _ => HSS, ?_⟩
        clear hK K
        refine wpT_step (by rw [hops, List.getElem?_toArray]; rfl) (by first | rfl | (rw [hops]; rfl)) ?_
        intro K hK
        go_wp2_with fail
        refine ⟨fun h => absurd h (by decide), ?_⟩
        refine wpT_step (by rw [hops, List.getElem?_toArray]; rfl) (by first | rfl | (rw [hops]; rfl)) ?_
        intro K hK
        go_wp2_with fail
        refine ⟨fun h => absurd h (by decide), ?_⟩
        rw [wpT_nil]
        clear hops ops
        clear HSS hx1' f0 ff ff' cx
        have HC2 := hid (HC1.out.more HGP.out HOI.out hlt)
        clear HC1
        generalize v1.setCell ⟨w2.heap.size + 1, i, none⟩ (.int .u64 (x.toNat : Int)) = v2 at *
        have f0 : v2.cell? ⟨w2.heap.size, 0, none⟩ = some (uv s.a) := cell_of HC2.out.st 0
        have ff : ∀ i, v2.frozen? ⟨w2.heap.size, i, none⟩ = false := fun i => frozen_of HC2.out.st i
        have HC3 := hid (HC2.out.set HG.out 0 (uv c) s1 (by rw [HS1D.out]; rfl))
        have CP : Hid (∀ v, Calls Tryz.prog 179 #[.int .u64 18446744069414584321, .agg #[uv s1.a, uv s1.b, uv s1.c]] v fun e w' => e = .returned (perm s1).v ∧ Ext v w') := hid fun v => Permute_any _ big_is s1 v
        have hwn : IntKind.i64.wrap ((n : Int) - 1) = (n : Int) - 1 := IntWalk.i64_in _ (by omega)
        by_cases hl1 : i + 1 = n
        · have hq : ((i : Int) == (n : Int) - 1) = true := by simp; omega
          have hnx : s1.next n i = perm s1 := by unfold S3.next; rw [if_pos (.inr hl1)]
          rw [hnx] at HEN'
          clear hnx
          have c0 := cell_of HC3.out.st 0
          have c1 := cell_of HC3.out.st 1
          have c2 := cell_of HC3.out.st 2
          simp only [List.getElem?_toArray] at c0 c1 c2
          have c0 : (v2.setCell ⟨w2.heap.size, 0, none⟩ (.int .u64 (c.toNat : Int))).cell? ⟨w2.heap.size, 0, none⟩ = some (uv s1.a) := c0
          have c1 : (v2.setCell ⟨w2.heap.size, 0, none⟩ (.int .u64 (c.toNat : Int))).cell? ⟨w2.heap.size, 1, none⟩ = some (uv s1.b) := c1
          have c2 : (v2.setCell ⟨w2.heap.size, 0, none⟩ (.int .u64 (c.toNat : Int))).cell? ⟨w2.heap.size, 2, none⟩ = some (uv s1.c) := c2
          go_wp2_with fail
          refine (CP.out _).mono ?_
          rintro e w6 ⟨rfl, hx6⟩
          have HC4 := hid (HC3.out.ext hx6)
          clear hx6 c0 c1 c2 f0 ff
          have c0 : w6.cell? ⟨w2.heap.size, 0, none⟩ = some (uv s1.a) := cell_of HC4.out.st 0
          have c1 : w6.cell? ⟨w2.heap.size, 1, none⟩ = some (uv s1.b) := cell_of HC4.out.st 1
          have c2 : w6.cell? ⟨w2.heap.size, 2, none⟩ = some (uv s1.c) := cell_of HC4.out.st 2
          have ff : ∀ i, w6.frozen? ⟨w2.heap.size, i, none⟩ = false := fun i => frozen_of HC4.out.st i
          go_wp2
          go_roundw
          case rel =>
            refine ⟨i + 1, perm s1, r1, out ++ [x], by omega, by go_num, HDR', HEN', HOL', hid ?_⟩
            have k1 := HC4.out.set HG.out 0 (uv (perm s1).a) ⟨(perm s1).a, s1.b, s1.c⟩ rfl
            have k2 := k1.set HG.out 1 (uv (perm s1).b) ⟨(perm s1).a, (perm s1).b, s1.c⟩ rfl
            exact k2.set HG.out 2 (uv (perm s1).c) (perm s1) rfl
          case measure => simp [intOf]; omega
        · have hq : ((i : Int) == (n : Int) - 1) = false := by simp; omega
          have hnx : s1.next n i = s1 := by unfold S3.next; rw [if_neg (by rintro (h | h) <;> omega)]
          rw [hnx] at HEN'
          clear hnx
          go_wp2_with fail
          go_roundw
          case rel => exact ⟨i + 1, s1, r1, out ++ [x], by omega, by go_num, HDR', HEN', HOL', HC3⟩
          case measure => simp [intOf]; omega
      · have hmI : (i : Int) % 2 = 1 := by omega
        have hmT : (i : Int).tmod 2 = 1 := by rw [Int.tmod_eq_emod_of_nonneg hi0']; exact hmI
        have hslot : s.slot i = s.b := by unfold S3.slot; rw [hm]; rfl
        rw [hslot] at CA HEN' HOL' HOI
        obtain ⟨x, hx⟩ : ∃ x, x = fSub c s.b := ⟨_, rfl⟩
        rw [← hx] at CA HEN' HOL' HOI
        clear hx hslot
        obtain ⟨s1, hs1⟩ : ∃ s1, s1 = (⟨s.a, c, s.c⟩ : S3) := ⟨_, rfl⟩
        have hput : s.put i c = s1 := by rw [hs1]; unfold S3.put; rw [hm]; rfl
        rw [hput] at HEN'
        clear hput
        have HS1D := hid hs1
        clear hs1
        have H2 : Hid (∀ v, Ext wr v → v.cell? ⟨w2.heap.size, 1, none⟩ = some (uv s.b) ∧ v.cell? ⟨w.heap.size, 0, none⟩ = some (.int .u64 18446744069414584321)) := hid fun v k => ⟨cell_of (k.heap_some HCI.out.st) 1, cell_of (k.heap_some HCI.out.fld) 0⟩
        have cx := HX.out
        go_wp2_with fail
        refine wp_region_T (fun v => (v.cell? ⟨w2.heap.size, 1, none⟩ = some (uv s.b) ∧ v.cell? ⟨w.heap.size, 0, none⟩ = some (.int .u64 18446744069414584321)) ∧ Ext wr v) 9 [(0, true), (1, true), (2, true), (3, true), (4, true), (5, true), (6, true), (7, true), (8, false), (9, false), (10, false)] (by kernel_rfl) (by kernel_rfl) (by intro c a d v w h; cases d <;> exact h) ?_
        intro ops hops
        have HS : _ ∧ Ext wr wr.drew := ⟨H2.out _ (Ext.refl wr).drew, (Ext.refl wr).drew⟩
        iterate 8
          refine wpT_take (v := ?_) (by rw [hops, List.getElem?_toArray]; rfl) (by first | rfl | (rw [hops]; rfl)) ?_ HS ?_
          rotate_left
          · intro v h; go_simp; with_reducible rfl
          simp only [Act.put, List.getElem_toArray, List.getElem_cons_zero, List.getElem_cons_succ, List.setIfInBounds_toArray, List.set_cons_zero, List.set_cons_succ]
        refine wpT_step (by rw [hops, List.getElem?_toArray]; rfl) (by first | rfl | (rw [hops]; rfl)) ?_
        intro K hK
        go_wp2_with fail
        refine (CA.out _).mono ?_
        rintro e v1 ⟨rfl, hx1⟩
        have HC1 := hid (HCI.out.ext ((Ext.refl wr).drew.trans hx1))
        have hx1' := (Ext.refl wr).drew.trans hx1
        have HSS : _ ∧ Ext wr v1 := ⟨H2.out _ hx1', hx1'⟩
        obtain ⟨⟨u0, f0⟩, ff⟩ := HC1.out.part.cell hlt
        have ff' := ff i
        clear hx1 HS
        refine hK _ _ ⟨fun _ => HSS, ?_⟩
        clear hK K
        refine wpT_step (by rw [hops, List.getElem?_toArray]; rfl) (by first | rfl | (rw [hops]; rfl)) ?_
        intro K hK
        go_wp2_with fail
        refine ⟨fun h => absurd h (by decide), ?_⟩
        refine wpT_step (by rw [hops, List.getElem?_toArray]; rfl) (by first | rfl | (rw [hops]; rfl)) ?_
        intro K hK
        go_wp2_with fail
        refine ⟨fun h => absurd h (by decide), ?_⟩
        rw [wpT_nil]
        clear hops ops
        clear HSS hx1' f0 ff ff' cx
        have HC2 := hid (HC1.out.more HGP.out HOI.out hlt)
        clear HC1
        generalize v1.setCell ⟨w2.heap.size + 1, i, none⟩ (.int .u64 (x.toNat : Int)) = v2 at *
        have f0 : v2.cell? ⟨w2.heap.size, 1, none⟩ = some (uv s.b) := cell_of HC2.out.st 1
        have ff : ∀ i, v2.frozen? ⟨w2.heap.size, i, none⟩ = false := fun i => frozen_of HC2.out.st i
        have HC3 := hid (HC2.out.set HG.out 1 (uv c) s1 (by rw [HS1D.out]; rfl))
        have CP : Hid (∀ v, Calls Tryz.prog 179 #[.int .u64 18446744069414584321, .agg #[uv s1.a, uv s1.b, uv s1.c]] v fun e w' => e = .returned (perm s1).v ∧ Ext v w') := hid fun v => Permute_any _ big_is s1 v
        have hwn : IntKind.i64.wrap ((n : Int) - 1) = (n : Int) - 1 := IntWalk.i64_in _ (by omega)
        have hnx : s1.next n i = perm s1 := by unfold S3.next; rw [if_pos (.inl hm)]
        rw [hnx] at HEN'
        clear hnx
        have c0 := cell_of HC3.out.st 0
        have c1 := cell_of HC3.out.st 1
        have c2 := cell_of HC3.out.st 2
        simp only [List.getElem?_toArray] at c0 c1 c2
        have c0 : (v2.setCell ⟨w2.heap.size, 1, none⟩ (.int .u64 (c.toNat : Int))).cell? ⟨w2.heap.size, 0, none⟩ = some (uv s1.a) := c0
        have c1 : (v2.setCell ⟨w2.heap.size, 1, none⟩ (.int .u64 (c.toNat : Int))).cell? ⟨w2.heap.size, 1, none⟩ = some (uv s1.b) := c1
        have c2 : (v2.setCell ⟨w2.heap.size, 1, none⟩ (.int .u64 (c.toNat : Int))).cell? ⟨w2.heap.size, 2, none⟩ = some (uv s1.c) := c2
        go_wp2_with fail
        refine (CP.out _).mono ?_
        rintro e w6 ⟨rfl, hx6⟩
        have HC4 := hid (HC3.out.ext hx6)
        clear hx6 c0 c1 c2 f0 ff
        have c0 : w6.cell? ⟨w2.heap.size, 0, none⟩ = some (uv s1.a) := cell_of HC4.out.st 0
        have c1 : w6.cell? ⟨w2.heap.size, 1, none⟩ = some (uv s1.b) := cell_of HC4.out.st 1
        have c2 : w6.cell? ⟨w2.heap.size, 2, none⟩ = some (uv s1.c) := cell_of HC4.out.st 2
        have ff : ∀ i, w6.frozen? ⟨w2.heap.size, i, none⟩ = false := fun i => frozen_of HC4.out.st i
        go_wp2
        go_roundw
        case rel =>
          refine ⟨i + 1, perm s1, r1, out ++ [x], by omega, by go_num, HDR', HEN', HOL', hid ?_⟩
          have k1 := HC4.out.set HG.out 0 (uv (perm s1).a) ⟨(perm s1).a, s1.b, s1.c⟩ rfl
          have k2 := k1.set HG.out 1 (uv (perm s1).b) ⟨(perm s1).a, (perm s1).b, s1.c⟩ rfl
          exact k2.set HG.out 2 (uv (perm s1).c) (perm s1) rfl
        case measure => simp [intOf]; omega
    · have hii : i = n := by omega
      have hltB : decide ((i : Int) < (n : Int)) = false := by simp; omega
      have hr0 : r = [] := by
        have h := congrArg List.length HDR.out
        rw [List.length_drop] at h
        exact List.eq_nil_of_length_eq_zero (by have := HN.out; omega)
      subst hr0
      obtain ⟨tl, h1, h2⟩ := HEN.out
      rw [decL] at h1
      injection h1 with h1 h3
      subst h1 h3
      have hpart := HCI.out.part
      rw [hii] at hpart
      have HOWN := hid (hpart.own HDL.out B2.out)
      have H1 : Hid (∀ v, Ext wr v → v.cell? ⟨w2.heap.size, 0, none⟩ = some (uv s.a)) := hid fun v k => cell_of (k.heap_some HCI.out.st) 0
      clear HEN HDR h2 hpart I0
      go_wp2_with fail
      refine wp_region_T (fun v => v.cell? ⟨w2.heap.size, 0, none⟩ = some (uv s.a) ∧ Ext wr v) 4 [(0, true), (1, true), (2, true), (3, true), (4, false)] (by kernel_rfl) (by kernel_rfl) (by intro c a d v w h; cases d <;> exact h) ?_
      intro ops hops
      have HS : _ ∧ Ext wr wr.drew := ⟨H1.out _ (Ext.refl wr).drew, (Ext.refl wr).drew⟩
      iterate 4
        refine wpT_take (v := ?_) (by rw [hops, List.getElem?_toArray]; rfl) (by first | rfl | (rw [hops]; rfl)) ?_ HS ?_
        rotate_left
        · intro v h; go_simp; with_reducible rfl
        simp only [Act.put, List.getElem_toArray, List.getElem_cons_zero, List.getElem_cons_succ, List.setIfInBounds_toArray, List.set_cons_zero, List.set_cons_succ]
      refine wpT_step (by rw [hops, List.getElem?_toArray]; rfl) (by first | rfl | (rw [hops]; rfl)) ?_
      intro K hK
      go_wp2_with fail
      refine ⟨fun h => absurd h (by decide), ?_⟩
      rw [wpT_nil]
      clear hops ops
      clear HS
      go_wp2_with fail
      rw [HCS.out]
      exact bodyPost_ret (v := .tuple #[.slice (some ⟨w2.heap.size + 1, 0, none⟩) n n, uv s.a]) (by simp [results, Tryz.results195, go_sem]) rfl ⟨_, rfl, ownsRow_ext HOWN.out (Ext.refl wr).drew, HCI.out.ex.drew, fun k hk => by injection hk with hk; have := HGP.out; simp only at hk; omega⟩
end Go.Proofs.YtcikjcjfcanloaaGreat
namespace Go.Proofs.YtcikjcjfcanloaaGreat
open Go.RowKit
attribute [local irreducible] perm fAdd fMul fPow fSub fNeg fRed
/-- What Open hands back: the plain list, and whether the tag is right. -/
def cipOpen (key nonce : UInt64) (l : List UInt64) : List UInt64 × Bool :=
  if cipE key nonce l && (match l.getLast? with | some t => (cipDec key nonce l.dropLast).2 == t | none => false) then ((cipDec key nonce l.dropLast).1, true) else ([], false)
theorem cipOpen_nil (key nonce : UInt64) : cipOpen key nonce [] = ([], false) := by unfold cipOpen; simp
theorem cipOpen_bad {key nonce : UInt64} {l : List UInt64} (h : cipE key nonce l = false) : cipOpen key nonce l = ([], false) := by unfold cipOpen; rw [h]; rfl
theorem cipOpen_snoc {key nonce : UInt64} {l : List UInt64} {t : UInt64} (h : cipE key nonce (l ++ [t]) = true) : cipOpen key nonce (l ++ [t]) = if (cipDec key nonce l).2 == t then ((cipDec key nonce l).1, true) else ([], false) := by
  unfold cipOpen; rw [h]; simp
def OpenC (w : World) (r : List UInt64 × Bool) (e : Ending) (w' : World) : Prop :=
  ∃ v, e = .returned (.tuple #[v, .bool r.2]) ∧ OwnU w' v r.1 ∧ Ext w w' ∧ ∀ k, blk v = some k → w.heap.size ≤ k
theorem OpenC.none {w w' : World} (k : Ext w w') : OpenC w ([], false) (.returned (.tuple #[.slice none 0 0, .bool false])) w' := ⟨_, rfl, World.ownsRow_nil _ _ _ _, k, fun k h => by cases h⟩
set_option maxRecDepth 100000 in
set_option maxHeartbeats 3200000 in
theorem cipOpen_any (key nonce : UInt64) (lv : Value) (l : List UInt64) (w : World) (hl : RdU w lv l) (hL : l.length ≤ 100000000) :
    Calls Tryz.prog 182 #[uv key, uv nonce, lv] w (OpenC w (cipOpen key nonce l)) := by
  have HE := hid (cipElements_any key nonce lv l w hl (by omega))
  obtain ⟨la, lc, rfl, hlc, hlm, hnil, hcell⟩ := id hl
  have HL := hid hl
  rcases List.eq_nil_or_concat l with rfl | ⟨l0, t, rfl⟩
  · have HR := hid (cipOpen_nil key nonce)
    clear hl hcell HL hnil hlc hlm
    have h0 : (([] : List UInt64).length : Int) = 0 := rfl
    go_enter Tryz.func182, Tryz.ntmps182
    go_wp2_with fail
    rw [HR.out]
    exact bodyPost_ret (v := .tuple #[.slice none 0 0, .bool false]) (by simp [results, Tryz.results182, go_sem]) rfl (.none (Ext.refl _))
  · rw [List.concat_eq_append] at *
    obtain ⟨b, o, hla, hct⟩ := HL.out.at (i := l0.length) (x := t) (by simp)
    subst hla
    have hlen : (l0 ++ [t]).length = l0.length + 1 := by simp
    obtain ⟨n, hn⟩ : ∃ n, n = l0.length := ⟨_, rfl⟩
    have hr0 : RdU w (.slice (some ⟨b, o, none⟩) n lc) l0 := by
      refine ⟨_, lc, by rw [hn], by omega, hlm, (fun h => by cases h), fun ad ha => ⟨(hcell ad ha).1, fun i x hx => (hcell ad ha).2 i x ?_⟩⟩
      rw [List.getElem?_append_left ((List.getElem?_eq_some_iff.1 hx).1)]; exact hx
    rw [hlen, ← hn] at HE HL ⊢
    have hn1 : n ≤ 100000000 := by omega
    rw [← hn] at hct
    have CD : Hid (Calls Tryz.prog 195 #[uv key, uv nonce, .slice (some ⟨b, o, none⟩) n lc] w (DecO w (cipDec key nonce l0))) := hid (decrypt_any key nonce _ l0 w hr0 (by omega))
    have hnc : n + 1 ≤ lc := by omega
    have hz0 : (((n + 1 : Nat) : Int) == 0) = false := by simp; omega
    have hw1 : IntKind.i64.wrap (((n + 1 : Nat) : Int) - 1) = (n : Int) := by rw [IntWalk.i64_in _ (by omega)]; omega
    clear hl hcell hnil hlc hlen hr0 HL hn
    cases hE : cipE key nonce (l0 ++ [t]) with
    | false =>
      rw [hE] at HE
      have HR := hid (cipOpen_bad hE)
      clear hE
      go_enter Tryz.func182, Tryz.ntmps182
      go_wp2_with fail
      refine HE.out.mono ?_
      rintro e w1 ⟨rfl, rfl⟩
      go_wp2_with fail
      rw [HR.out]
      exact bodyPost_ret (v := .tuple #[.slice none 0 0, .bool false]) (by simp [results, Tryz.results182, go_sem]) rfl (.none (Ext.refl _))
    | true =>
      rw [hE] at HE
      have HR := hid (cipOpen_snoc hE)
      clear hE
      generalize cipDec key nonce l0 = pd at *
      obtain ⟨pl, tg⟩ := pd
      simp only at HR
      have hnn : (0 : Int) ≤ (n : Int) := Int.natCast_nonneg _
      have hnl : (n : Int) < ((n + 1 : Nat) : Int) := by omega
      have HCT := hid hct
      go_enter Tryz.func182, Tryz.ntmps182
      go_wp2_with fail
      refine HE.out.mono ?_
      rintro e w1 ⟨rfl, rfl⟩
      go_wp2_with fail
      refine CD.out.mono ?_
      rintro e w2 ⟨pv, rfl, hown, hx2, hfr⟩
      simp only at hown
      obtain ⟨pa, pc, rfl, -⟩ := ownsRow_rd hown
      have hct2 := hx2.cell_some HCT.out
      have HX2 := hid hx2
      have HOWN := hid hown
      have HFR := hid hfr
      clear hx2 hown hfr hct
      rcases htt : ((tg.toNat : Int) != (t.toNat : Int)) with _ | _
      · have htb : (tg == t) = true := by
          have h1 : (tg.toNat : Int) = (t.toNat : Int) := by simpa using htt
          have h2 : tg = t := UInt64.toNat_inj.1 (by omega)
          rw [h2]; simp
        rw [htb] at HR
        simp only [if_true] at HR
        go_wp2_with fail
        rw [HR.out]
        exact bodyPost_ret (v := .tuple #[.slice pa pl.length pc, .bool true]) (by simp [results, Tryz.results182, go_sem]) rfl ⟨_, rfl, HOWN.out, HX2.out, HFR.out⟩
      · have htb : (tg == t) = false := by
          rcases h : (tg == t) with _ | _
          · rfl
          · have h2 : tg = t := by simpa using h
            rw [h2] at htt; simp at htt
        rw [htb] at HR
        simp only [Bool.false_eq_true, if_false] at HR
        go_wp2_with fail
        rw [HR.out]
        exact bodyPost_ret (v := .tuple #[.slice none 0 0, .bool false]) (by simp [results, Tryz.results182, go_sem]) rfl (.none HX2.out)
end Go.Proofs.YtcikjcjfcanloaaGreat
namespace Go.Proofs.YtcikjcjfcanloaaGreat
open Go.RowKit
attribute [local irreducible] perm fAdd fMul fPow fSub fNeg fRed hashU drawOf nextState
set_option maxRecDepth 100000 in
set_option maxHeartbeats 800000 in
theorem Open_real {w : World} {b : Nat} {M : Orc} {F : Nat → Prop} {key nonce : UInt64} {lv : Value} {l : List UInt64} (h : OrcAt w b M F) (hI : M.ideal = false) (hl : RdU w lv l) (hL : l.length ≤ 100000000) :
    Calls Tryz.prog 165 #[.pointer (some ⟨b, 0, none⟩), uv key, uv nonce, lv] w (OpenC w (cipOpen key nonce l)) := by
  obtain ⟨qv, mk, ms, mp, Q, S, hin⟩ := h
  have hs := hin.self
  rw [hI] at hs
  obtain ⟨c0, -⟩ := self_cells hs
  have CS := hid (cipOpen_any key nonce lv l w hl hL)
  clear hin hs hl hI
  generalize cipOpen key nonce l = r at *
  obtain ⟨pl, ok⟩ := r
  go_enter Tryz.func165, Tryz.ntmps165
  go_wp2_with fail
  refine CS.out.mono ?_
  rintro e w1 ⟨v, rfl, hown, hx, hfr⟩
  simp only at hown
  obtain ⟨va, vc, rfl, -⟩ := ownsRow_rd hown
  have HOWN := hid hown
  have HX := hid hx
  have HFR := hid hfr
  clear hown hx hfr
  go_wp2_with fail
  exact bodyPost_ret (v := .tuple #[.slice va pl.length vc, .bool ok]) (by simp [results, Tryz.results165, go_sem]) rfl ⟨_, rfl, HOWN.out, HX.out, HFR.out⟩
end Go.Proofs.YtcikjcjfcanloaaGreat
namespace Go.Proofs.YtcikjcjfcanloaaGreat
open Go.RowKit
attribute [local irreducible] perm fAdd fMul fPow fSub fNeg fRed hashU drawOf nextState
def openI (ss : List Sl) (k nc : UInt64) (l : List UInt64) : List UInt64 × Bool := (((findS ss k nc l).map (·.plain)).getD [], (findS ss k nc l).isSome)
def Orc.openT (M : Orc) (k nc : UInt64) (l : List UInt64) : List UInt64 × Bool := if M.ideal then openI M.seals k nc l else cipOpen k nc l
theorem openT_any {w : World} {b : Nat} {M : Orc} {F : Nat → Prop} {key nonce : UInt64} {lv : Value} {l : List UInt64} (h : OrcAt w b M F) (hl : RdU w lv l) (hL : l.length ≤ 100000000) (hP : ∀ s ∈ M.seals, s.plain.length ≤ 1000000000000) :
    Calls Tryz.prog 165 #[.pointer (some ⟨b, 0, none⟩), uv key, uv nonce, lv] w (OpenC w (M.openT key nonce l)) := by
  unfold Orc.openT
  cases hI : M.ideal with
  | true =>
    refine (Open_ideal h hI hl (by omega) hP).mono ?_
    rintro e w' ⟨v, rfl, h1, h2, h3⟩
    exact ⟨v, rfl, h1, h2, h3⟩
  | false => exact Open_real h hI hl hL
def envKey (s q : E2) : UInt64 := hashU 11 [s.a, s.b, q.a, q.b]
set_option maxRecDepth 100000 in
set_option maxHeartbeats 1600000 in
theorem envKey_any (s q : E2) (w : World) : Calls Tryz.prog 163 #[s.v, q.v] w fun e w' => e = .returned (uv (envKey s q)) ∧ Ext w w' := by
  obtain ⟨N, hN⟩ : ∃ N, N = w.heap.size := ⟨_, rfl⟩
  obtain ⟨w0, hw0⟩ : ∃ w0, w0 = (w.alloc s.o).alloc q.o := ⟨_, rfl⟩
  have hx0 : Ext w w0 := by rw [hw0]; exact ((Ext.refl w).alloc _).alloc _
  have hb0 : w0.heap[N]? = some s.o := by rw [hw0, hN]; exact heap_alloc_some (heap_new _ _)
  have hb1 : w0.heap[N + 1]? = some q.o := by
    rw [hw0, hN]
    have := heap_new (w.alloc s.o) q.o
    simpa using this
  obtain ⟨c0, c1⟩ := two_cells hb0
  obtain ⟨c2, c3⟩ := two_cells hb1
  have HW := hid hw0
  have HX0 := hid hx0
  have hrd : RdU (w0.alloc (.cells #[uv s.a, uv s.b, uv q.a, uv q.b] 22)) (.slice (some ⟨w0.heap.size, 0, none⟩) 4 4) [s.a, s.b, q.a, q.b] := (RdC.block (heap_new w0 _) (n := 4) (by unfold maxLen; omega)).rdu rfl
  have HH := hid (Hash_any _ big_isE 11 _ [s.a, s.b, q.a, q.b] _ hrd (by simp))
  obtain ⟨k, hk⟩ : ∃ k, k = envKey s q := ⟨_, rfl⟩
  have hk2 : hashU 11 [s.a, s.b, q.a, q.b] = k := by rw [hk]; rfl
  rw [hk2] at HH
  rw [← hk]
  clear hw0 hx0 hb0 hb1 hrd hk hk2
  go_enter Tryz.func163, Tryz.ntmps163
  go_upto_region 1 with fail
  rw [← HW.out, ← hN]
  clear hN
  go_wp2_with fail
  refine (HH.out).mono ?_
  rintro e w1 ⟨rfl, hx⟩
  have HX1 := hid ((HX0.out.alloc _).trans hx)
  clear hx c0 c1 c2 c3 HH
  go_wp2_with fail
  go_ret
  exact ⟨rfl, HX1.out⟩
def pick2 : List UInt64 × Bool → UInt64 × UInt64 × Bool
  | ([a, b], true) => (a, b, true)
  | _ => (0, 0, false)
theorem pick2_no (l : List UInt64) : pick2 (l, false) = (0, 0, false) := by
  unfold pick2
  split
  · next h => cases h
  · rfl
theorem pick2_len {l : List UInt64} {ok : Bool} (h : l.length ≠ 2) : pick2 (l, ok) = (0, 0, false) := by
  unfold pick2
  split
  · next h' => injection h' with h1 h2; subst h1; exact absurd rfl h
  · rfl
def Orc.envOpen (M : Orc) (view : UInt64) (pt : E2) (c : List UInt64) : UInt64 × UInt64 × Bool := if validP pt then pick2 (M.openT (envKey (pShared pt view) pt) 0 c) else (0, 0, false)
def r3 (r : UInt64 × UInt64 × Bool) : Value := .tuple #[uv r.1, uv r.2.1, .bool r.2.2]
theorem four_cells {w : World} {b : Nat} {c0 c1 c2 c3 : Value} {T : TypeId} (h : w.heap[b]? = some (.cells #[c0, c1, c2, c3] T (0, 0))) :
    w.cell? ⟨b, 0, none⟩ = some c0 ∧ w.cell? ⟨b, 1, none⟩ = some c1 ∧ w.cell? ⟨b, 2, none⟩ = some c2 ∧ w.cell? ⟨b, 3, none⟩ = some c3 := ⟨cell_of h 0, cell_of h 1, cell_of h 2, cell_of h 3⟩
set_option maxRecDepth 100000 in
set_option maxHeartbeats 3200000 in
theorem envOpen_any {w : World} {b : Nat} {M : Orc} {F : Nat → Prop} {view commit : UInt64} {pt : E2} {cv : Value} {c : List UInt64} (h : OrcAt w b M F) (hc : RdU w cv c) (hL : c.length ≤ 100000000) (hP : ∀ s ∈ M.seals, s.plain.length ≤ 1000000000000) :
    Calls Tryz.prog 141 #[.pointer (some ⟨b, 0, none⟩), uv view, .agg #[uv commit, uv pt.a, uv pt.b, cv]] w fun e w' => e = .returned (r3 (M.envOpen view pt c)) ∧ Ext w w' := by
  obtain ⟨ca, cc, rfl, -⟩ := id hc
  obtain ⟨N, hN⟩ : ∃ N, N = w.heap.size := ⟨_, rfl⟩
  obtain ⟨w0, hw0⟩ : ∃ w0, w0 = w.alloc (.cells #[uv commit, uv pt.a, uv pt.b, .slice ca c.length cc] 103) := ⟨_, rfl⟩
  have hx0 : Ext w w0 := by rw [hw0]; exact (Ext.refl w).alloc _
  have hb0 : w0.heap[N]? = some (.cells #[uv commit, uv pt.a, uv pt.b, .slice ca c.length cc] 103 (0, 0)) := by rw [hw0, hN]; exact heap_new _ _
  have H : Hid (∀ v, Ext w0 v → (v.cell? ⟨N, 0, none⟩ = some (uv commit) ∧ v.cell? ⟨N, 1, none⟩ = some (uv pt.a) ∧ v.cell? ⟨N, 2, none⟩ = some (uv pt.b) ∧ v.cell? ⟨N, 3, none⟩ = some (.slice ca c.length cc))) := hid fun v k => four_cells (k.heap_some hb0)
  have HW := hid hw0
  have HX0 := hid hx0
  have HH := hid h
  have HC := hid hc
  have HP := hid hP
  obtain ⟨c0, c1, c2, c3⟩ := H.out w0 (Ext.refl _)
  obtain ⟨res, hres⟩ : ∃ res, res = M.envOpen view pt c := ⟨_, rfl⟩
  rw [← hres]
  have HRES := hid hres
  clear hw0 hx0 hb0 h hc hP hres
  go_enter Tryz.func141, Tryz.ntmps141
  go_upto_region 1 with fail
  rw [← HW.out, ← hN]
  clear hN
  go_wp2_with fail
  refine (pValid_any pt _).mono ?_
  rintro e w1 ⟨rfl, hx⟩
  have HX1 := hid hx
  clear hx c0 c1 c2 c3
  cases hv : validP pt with
  | false =>
    have hr : res = (0, 0, false) := by rw [HRES.out]; unfold Orc.envOpen; rw [hv]; rfl
    subst hr
    clear hv
    go_wp2_with fail
    exact bodyPost_ret (v := .tuple #[uv 0, uv 0, .bool false]) (by simp [results, Tryz.results141, go_sem]) rfl ⟨rfl, HX0.out.trans HX1.out⟩
  | true =>
    have hr : res = pick2 (M.openT (envKey (pShared pt view) pt) 0 c) := by rw [HRES.out]; unfold Orc.envOpen; rw [hv]; rfl
    have HR := hid hr
    clear hv hr HRES
    have H1 : Hid (∀ v, Ext w1 v → (v.cell? ⟨N, 0, none⟩ = some (uv commit) ∧ v.cell? ⟨N, 1, none⟩ = some (uv pt.a) ∧ v.cell? ⟨N, 2, none⟩ = some (uv pt.b) ∧ v.cell? ⟨N, 3, none⟩ = some (.slice ca c.length cc))) := hid fun v k => H.out v (HX1.out.trans k)
    go_wp2_with fail
    refine wp_region_T (fun v => (v.cell? ⟨N, 0, none⟩ = some (uv commit) ∧ v.cell? ⟨N, 1, none⟩ = some (uv pt.a) ∧ v.cell? ⟨N, 2, none⟩ = some (uv pt.b) ∧ v.cell? ⟨N, 3, none⟩ = some (.slice ca c.length cc)) ∧ Ext w1 v) 6 [(0, true), (1, true), (2, true), (4, true), (5, true), (3, false), (6, false), (7, false)] (by kernel_rfl) (by kernel_rfl) (by intro c a d v w h; cases d <;> exact h) ?_
    intro ops hops
    have HS := keep0 H1.out
    iterate 5
      refine wpT_take (v := ?_) (by rw [hops, List.getElem?_toArray]; rfl) (by first | rfl | (rw [hops]; rfl)) ?_ HS ?_
      rotate_left
      · intro v h; go_simp; with_reducible rfl
      simp only [Act.put, List.getElem_toArray, List.getElem_cons_zero, List.getElem_cons_succ, List.setIfInBounds_toArray, List.set_cons_zero, List.set_cons_succ]
    refine wpT_step (by rw [hops, List.getElem?_toArray]; rfl) (by first | rfl | (rw [hops]; rfl)) ?_
    intro K hK
    go_wp2_with fail
    refine (Shared_any pt view _).mono ?_
    rintro e w2 ⟨rfl, hx⟩
    have HS1 := keepE H1.out HS hx
    clear HS hx
    refine hK _ _ ⟨fun _ => HS1, ?_⟩
    clear hK K
    refine wpT_step (by rw [hops, List.getElem?_toArray]; rfl) (by first | rfl | (rw [hops]; rfl)) ?_
    intro K hK
    go_wp2_with fail
    refine (envKey_any (pShared pt view) pt _).mono ?_
    rintro e w3 ⟨rfl, hx⟩
    have HX3 := hid (HX1.out.trans (HS1.2.trans hx))
    clear HS1 hx
    refine hK _ _ ⟨fun h => absurd h (by decide), ?_⟩
    clear hK K
    refine wpT_step (by rw [hops, List.getElem?_toArray]; rfl) (by first | rfl | (rw [hops]; rfl)) ?_
    intro K hK
    go_wp2_with fail
    try (with_reducible refine ⟨fun h => absurd h (by decide), ?_⟩)
    try rw [wpT_nil]
    try clear hops ops
    generalize envKey (pShared pt view) pt = k at *
    obtain ⟨c0, c1, c2, c3⟩ := H.out w3 HX3.out
    have HO := hid (openT_any (key := k) (nonce := 0) (HH.out.ext (HX0.out.trans HX3.out)) (HC.out.ext (HX0.out.trans HX3.out)) hL HP.out)
    generalize M.openT k 0 c = r at *
    obtain ⟨l, ok⟩ := r
    go_wp2_with fail
    refine (HO.out).mono ?_
    rintro e w4 ⟨v, rfl, hown, hx, -⟩
    simp only at hown ⊢
    obtain ⟨la, lc, rfl, -⟩ := ownsRow_rd hown
    have HX4 := hid (HX3.out.trans hx)
    have HOW := hid hown.rdu
    clear c0 c1 c2 c3 hown hx HO
    cases ok with
    | false =>
      have hr := HR.out
      rw [pick2_no] at hr
      subst hr
      clear HR
      go_wp2_with fail
      exact bodyPost_ret (v := .tuple #[uv 0, uv 0, .bool false]) (by simp [results, Tryz.results141, go_sem]) rfl ⟨rfl, HX0.out.trans HX4.out⟩
    | true =>
      by_cases hlen : l.length = 2
      case neg =>
        have hl2 : ((l.length : Int) != 2) = true := by simp; omega
        have hr := HR.out
        rw [pick2_len hlen] at hr
        subst hr
        clear HR hlen
        go_wp2_with fail
        exact bodyPost_ret (v := .tuple #[uv 0, uv 0, .bool false]) (by simp [results, Tryz.results141, go_sem]) rfl ⟨rfl, HX0.out.trans HX4.out⟩
      obtain ⟨x, y, rfl⟩ : ∃ x y, l = [x, y] := by
        match l, hlen with
        | [x, y], _ => exact ⟨x, y, rfl⟩
      have hr : res = (x, y, true) := HR.out
      subst hr
      simp only [List.length_cons, List.length_nil, Nat.zero_add, Nat.reduceAdd] at HOW ⊢
      obtain ⟨lb, lo, rfl, hcx⟩ := HOW.out.at (show ([x, y] : List UInt64)[0]? = some x from rfl)
      obtain ⟨lb', lo', he, hcy⟩ := HOW.out.at (show ([x, y] : List UInt64)[1]? = some y from rfl)
      injection he with he
      injection he with he1 he2
      subst he1 he2
      have HCC := hid (fun (v : World) (k : Ext w4 v) => And.intro (k.cell_some hcx) (k.cell_some hcy))
      clear HR hlen hcx hcy
      go_wp2_with fail
      refine wp_region_T (fun v => (v.cell? ⟨lb, lo, none⟩ = some (uv x) ∧ v.cell? ⟨lb, lo + 1, none⟩ = some (uv y)) ∧ Ext w4 v) 7 [(0, true), (1, true), (2, true), (3, true), (4, true), (5, true), (6, true), (7, false), (8, false)] (by kernel_rfl) (by kernel_rfl) (by intro c a d v w h; cases d <;> exact h) ?_
      intro ops hops
      have HS := keep0 HCC.out
      iterate 7
        refine wpT_take (v := ?_) (by rw [hops, List.getElem?_toArray]; rfl) (by first | rfl | (rw [hops]; rfl)) ?_ HS ?_
        rotate_left
        · intro v h; go_simp; with_reducible rfl
        simp only [Act.put, List.getElem_toArray, List.getElem_cons_zero, List.getElem_cons_succ, List.setIfInBounds_toArray, List.set_cons_zero, List.set_cons_succ]
      clear HS
      refine wpT_step (by rw [hops, List.getElem?_toArray]; rfl) (by first | rfl | (rw [hops]; rfl)) ?_
      intro K hK
      go_wp2_with fail
      try (with_reducible refine ⟨fun h => absurd h (by decide), ?_⟩)
      try rw [← hops]
      refine wpT_step (by rw [hops, List.getElem?_toArray]; rfl) (by first | rfl | (rw [hops]; rfl)) ?_
      intro K hK
      go_wp2_with fail
      try (with_reducible refine ⟨fun h => absurd h (by decide), ?_⟩)
      try rw [wpT_nil]
      try clear hops ops
      go_wp2_with fail
      exact bodyPost_ret (v := .tuple #[uv x, uv y, .bool true]) (by simp [results, Tryz.results141, go_sem]) rfl ⟨rfl, (HX0.out.trans HX4.out).drew⟩
end Go.Proofs.YtcikjcjfcanloaaGreat
namespace Go.Proofs.YtcikjcjfcanloaaGreat
open Go.RowKit
attribute [local irreducible] perm fAdd fMul fPow fSub fNeg fRed
set_option maxRecDepth 100000 in
set_option maxHeartbeats 1600000 in
theorem noteElements_any (n : Nt) (w : World) : Calls Tryz.prog 168 #[nv n] w (NewL w n.list) := by
  obtain ⟨a, b, c, d⟩ := n
  unfold nv
  simp only
  go_enter Tryz.func168, Tryz.ntmps168
  go_wp2
  go_ret
  have h := (Ext.refl w).alloc (.cells #[uv a, uv b, uv c, uv d] 37)
  have := newL_of (T := 22) (cs := #[uv a, uv b, uv c, uv d]) h (l := [a, b, c, d]) rfl (by simp)
  rw [World.size_alloc] at this
  exact this
end Go.Proofs.YtcikjcjfcanloaaGreat
