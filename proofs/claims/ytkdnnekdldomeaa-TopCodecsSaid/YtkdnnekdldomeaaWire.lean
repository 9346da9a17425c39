/- Bytes appended: wire.room, appendDigits, appendLength, Uint, Int, List, Bytes; moidoreref11.Digits, Int, List, Bytes. -/
import Derived.Test.YtkdnnekdldomeaaBlkLaw
import Derived.Laws.CopyOwn
set_option linter.unusedSimpArgs false
namespace Go.Proofs.Ytkdnnekdldomeaa
open Go.RowKit
attribute [local irreducible] perm fAdd fMul fPow fSub fNeg fRed
abbrev RdB' (w : World) (v : Value) (l : List UInt8) : Prop := RdC' w v l.length (bs l)
theorem OwnB.weak {w : World} {v : Value} {l : List UInt8} (h : OwnB w v l) : RdB' w v l := (ownsRow_rd h).weak
theorem bs_one (l : List UInt8) : ∀ u ∈ bs l, u.oneCell' = true := by
  intro u hu
  obtain ⟨_, _, rfl⟩ := List.mem_map.1 hu
  rfl
/-- A new list of bytes, nothing else turned. -/
def NewB (w : World) (l : List UInt8) (e : Ending) (w' : World) : Prop := ∃ v, e = .returned v ∧ OwnB w' v l ∧ Ext w w' ∧ ∀ k, blk v = some k → w.heap.size ≤ k
theorem wpList_make_cap {P : Program} (w : World) {ops : Array Oper} {rest : List Oper} {o : Oper} {a : Act} {Q : Exit → Act → World → Prop}
    (hg : o.guard = none) (l c : Operand) (t : TypeId) (hop : o.op = Op.makeSlice t l c)
    (e : TypeId) (i : TypeInfo) (z : Value) (bytes : Nat) (h1 : P.underlying t = some (.slice e)) (h2 : P.info? e = some i) (h3 : i.zero = some z) (h4 : i.size = 1) (h5 : i.bytes = bytes)
    (kl kc : IntKind) (L C : Int) (n m : Nat) (hl : a.eval l = .int kl L) (hc : a.eval c = .int kc C) (hL : L = (n : Int)) (hC : C = (m : Int)) (hnm : n ≤ m) (b2 : bytes * m ≤ 281474976710656) (b3 : m ≤ maxLen)
    (hK : wpList P ops Q rest (a.put o.dst (.slice (some ⟨w.heap.size, 0, none⟩) n m)) (w.alloc (.cells (madeCells z.cells m) e))) :
    wpList P ops Q (o :: rest) a w := by
  refine wpList_plain hg fun K hK' => ?_
  have hb' : (i.bytes : Int) * (m : Int) ≤ 281474976710656 := by
    have h : ((i.bytes * m : Nat) : Int) ≤ 281474976710656 := by rw [h5]; omega
    rwa [Int.natCast_mul] at h
  have hrun := run_make (P := P) w t e i z h1 h2 h3 kl kc (n : Int) (m : Int) (by omega) (by omega) hb' (by unfold maxLen at b3; omega)
  simp only [Int.toNat_natCast, h4, Nat.mul_one] at hrun
  subst hL hC
  unfold Oper.wp
  simp [execOp, hop, hl, hc, hrun, Result.andThen]
  exact hK' _ _ hK
def cap64 (n : Nat) : Prop := n ≤ 1000000000000
set_option maxRecDepth 100000 in
set_option maxHeartbeats 1600000 in
theorem room_any (v : Value) (l : List UInt8) (n : Nat) (w : World) (h : RdB' w v l) (hL : l.length ≤ 10000000000) (hn : n ≤ 10000000000) :
    Calls Try.prog 52 #[v, .int .i64 (n : Int)] w (NewB w l) := by
  obtain ⟨i0, hi, hz0, hz1, hz2⟩ := info_parts Try.infoB
  have h0 := h
  obtain ⟨a, c, rfl, hlc, hcm, hnil, hcell⟩ := h
  have HNIL := hid (And.intro hnil hlc)
  have HSUM : Hid (((l.length : Int) + (n : Int)) = ((l.length + n : Nat) : Int)) := hid (by omega)
  have HI := hid (And.intro hi (And.intro hz0 (And.intro hz1 hz2)))
  obtain ⟨g, hg⟩ : ∃ g, g = w.heap.size := ⟨_, rfl⟩
  obtain ⟨cur, hcur⟩ : ∃ cur : List Value, cur = (madeCells #[Value.int .u8 0] (l.length + n)).toList := ⟨_, rfl⟩
  obtain ⟨xs, hxs⟩ : ∃ xs, xs = bs l := ⟨_, rfl⟩
  have hcl : cur.length = l.length + n := by rw [hcur, Array.length_toList, size_madeCells]
  have hxl : xs.length = l.length := by rw [hxs, List.length_map]
  have hw : w.alloc (.cells (madeCells #[Value.int .u8 0] (l.length + n)) 5) = w.alloc (.cells cur.toArray 5) := by rw [hcur]
  obtain ⟨w1, hw1⟩ : ∃ w1, w1 = w.alloc (.cells cur.toArray 5) := ⟨_, rfl⟩
  rw [← hw1] at hw
  have hx1 : Ext w w1 := by rw [hw1]; exact (Ext.refl w).alloc _
  have hb1 : w1.heap[g]? = some (.cells cur.toArray 5 (0, 0)) := by rw [hw1, hg]; exact heap_new _ _
  have HRD := hid (h0.ext hx1)
  have HX1 := hid hx1
  have HB1 := hid hb1
  have HXS := hid hxs
  have HCL := hid (And.intro hcl hxl)
  have HW := hid hw
  have HG := hid hg
  clear hcell hnil hcm hlc hi hz0 hz1 hz2 hg hcur hxs hcl hxl hw hw1 hx1 hb1 h0
  have hL1 : (l.length : Int) ≤ 10000000000 := by omega
  have hn1 : (n : Int) ≤ 10000000000 := by omega
  go_enter Try.func52, Try.ntmps52
  go_upto_region 2 with (at_make; refine wpList_make_cap w rfl _ _ 33 rfl 5 i0 (.int .u8 0) 1 Try.underlying33 HI.out.1 HI.out.2.1 HI.out.2.2.1 HI.out.2.2.2 .i64 .i64 _ _ l.length (l.length + n) rfl rfl rfl HSUM.out (by omega) (by omega) (by unfold maxLen; omega) ?_)
  rw [HW.out, ← HG.out]
  go_wp2_with (refine wpList_copy_splice rfl _ _ 33 33 rfl 5 Try.underlying33 ?_ (some ⟨g, 0, none⟩) a l.length (l.length + n) l.length c rfl rfl g 0 cur 5 HB1.out xs ?_ ?_ ?_ ?_ w.heap.size w HX1.out ?_ ?_)
  · kernel_rfl
  · rw [HCL.out.2]; exact (Nat.min_self _).symm
  · intro hp
    cases a with
    | none => exact absurd (HNIL.out.1 rfl) (by have := HNIL.out.2; have := HCL.out.2; omega)
    | some ad =>
      refine ⟨ad, rfl, fun j u hu => ?_⟩
      obtain ⟨a', c', he, -, -, -, hc⟩ := HRD.out
      injection he with e1 _ _
      rw [HXS.out] at hu
      exact hc ad e1.symm j u hu
  · rw [HCL.out.1, HCL.out.2]; omega
  · rw [HXS.out]; exact bs_one l
  · rw [HG.out]; exact Nat.le_refl _
  intro w2 HG2 hB2
  have HB2 := hid hB2
  clear hB2
  go_wp2
  go_ret
  refine ⟨_, rfl, ⟨by simp, .inr ⟨g, l.length + n, (splice cur 0 xs).toArray, rfl, Nat.zero_le _, HG2.out, by omega, by unfold maxLen; omega, ?_, ?_⟩⟩, HB2.out, fun k hk => ?_⟩
  · have := length_splice cur 0 xs (by have := HCL.out; omega)
    rw [List.size_toArray, this, HCL.out.1, Nat.mul_one]
  · have h1 := HCL.out
    have h2 := HXS.out
    show ((splice cur 0 xs).toArray).toList.take (l.length * 1) = bs l
    rw [← h2]
    unfold splice
    simp [h1.2.symm]
  · have h1 : g = k := by
      change some g = some k at hk
      exact Option.some.inj hk
    rw [← h1, HG.out]
    exact Nat.le_refl _
/-! ## wire -/
theorem NewB.more {w w1 w2 : World} {m : List UInt8} {v : Value} {e : Ending} (hx : Ext w w1) (hn : ∀ k, blk v = some k → w.heap.size ≤ k) (h : MoreB w1 v m e w2) : NewB w m e w2 := by
  obtain ⟨v', rfl, h1, h2, h3⟩ := h
  refine ⟨v', rfl, h1, hx.kp h2 (fun k hk => hn k hk.symm), fun k hk => ?_⟩
  rcases h3 with h3 | ⟨j, h3, h4⟩
  · exact hn k (h3 ▸ hk)
  · rw [h3] at hk; injection hk with hk; have := hx.size; omega
set_option maxRecDepth 5000 in
set_option maxHeartbeats 1000000 in
theorem appendDigits_any (v : Value) (l : List UInt8) (x : UInt64) (size : Nat) (w : World) (hown : OwnB w v l) (hL : l.length ≤ 100000000000000) (hs : size ≤ 8) :
    Calls Try.prog 59 #[v, .int .u64 x.toNat, .int .i64 (size : Int)] w (MoreB w v (l ++ leB size x)) := by
  obtain ⟨i0, hi, hz0, hz1, hz2⟩ := info_parts Try.infoB
  obtain ⟨T, hT⟩ : ∃ T, T = l ++ leB size x := ⟨_, rfl⟩
  rw [← hT]
  have HT := hid hT
  have HO := hid hown
  clear hT hown
  go_enter Try.func59, Try.ntmps59
  go_wp2
  go_loopw [0, 1, 8] (fun vv xv kv wr => ∃ (k : Nat) (y : UInt64) (cur : List UInt8), k ≤ size ∧ kv = .int .i64 k ∧ xv = .int .u64 y.toNat ∧ Hid (cur ++ leB (size - k) y = T) ∧ lenOk cur.length k ∧ OwnB wr vv cur ∧ Kp (fun k => some k = blk v) w wr ∧ (blk vv = blk v ∨ ∃ k, blk vv = some k ∧ w.heap.size ≤ k)) (fun _ _ kv _ => size - (intOf kv).toNat)
  case atStart => exact ⟨0, x, l, by omega, rfl, rfl, hid HT.out.symm, by unfold lenOk; omega, HO.out, Kp.refl _ _, .inl rfl⟩
  case round =>
    obtain ⟨k, y, cur, hk, rfl, rfl, hcur, hlen0, how, hkp, hbl⟩ := hrel
    have H1 := hid how
    have H2 := hid hkp
    have H3 := hid hbl
    clear how hkp hbl
    by_cases hlt : k < size
    · obtain ⟨c, hc⟩ : ∃ c, c = y.toUInt8 := ⟨_, rfl⟩
      obtain ⟨z, hz⟩ : ∃ z, z = y / 256 := ⟨_, rfl⟩
      have hcv := byte_of y
      have hzv := div_of y
      rw [← hc] at hcv
      rw [← hz] at hzv
      have HC := hid hc
      have HZ := hid hz
      clear hc hz
      have hltB : decide ((k : Int) < (size : Int)) = true := by simp; omega
      have hlen : cur.length ≤ 100000000000000 + k := hlen0
      have hb1 : cur.length + 1 ≤ maxLen := by unfold maxLen; omega
      have hb2 : (cur.length + 1) * 1 ≤ 140737488355328 := by omega
      have hone : ∀ u ∈ [Value.int .u8 (c.toNat : Int)], u.oneCell' = true := by simp [Value.oneCell']
      have B1 := hid hb1
      have B2 := hid hb2
      have B3 := hid hone
      clear hb1 hb2 hone hlen hL
      go_wp2_with (at_builtin; refine wpList_app rfl _ _ 33 rfl 5 i0 (.int .u8 0) 1 1 Try.underlying33 hi hz0 hz1 hz2 rfl (by decide) _ cur.length (bs cur) rfl (ownsRow_ext H1.out ((Ext.refl _).alloc _)) _ 1 [.int .u8 c.toNat] rfl (RdC.new1 _ _ _) rfl B3.out B1.out B2.out ?_)
      intro v' w1 hown0 hk2 hb
      have hown : OwnB w1 v' (cur ++ [c]) := by
        show w1.ownsRow 0 5 1 v' (cur ++ [c]).length (bs (cur ++ [c]))
        rw [show (cur ++ [c]).length = cur.length + 1 from by simp, show bs (cur ++ [c]) = bs cur ++ [.int .u8 c.toNat] from by simp]
        exact hown0
      have hk3 : Kp (fun k => some k = blk v) w w1 := by
        refine (H2.out.alloc (.cells #[.int .u8 c.toNat] 5)).trans2 hk2 fun i hi he => ?_
        rcases H3.out with h | ⟨j, hj, hjl⟩
        · rw [← h]; exact he
        · rw [hj] at he; injection he with he; omega
      have hb3 : blk v' = blk v ∨ ∃ k, blk v' = some k ∧ w.heap.size ≤ k := by
        rcases hb with hb | hb
        · rw [hb]; exact H3.out
        · refine .inr ⟨_, hb, ?_⟩
          have := H2.out.size
          simp; omega
      have K1 := hid hown
      have K2 := hid hk3
      have K3 := hid hb3
      clear hown0 hown hk2 hb hk3 hb3
      go_wp2
      go_roundw
      case rel =>
        refine ⟨k + 1, z, cur ++ [c], by omega, by go_num, rfl, ?_, ?_, K1.out, K2.out, K3.out⟩
        · have := hcur.out
          rw [show size - k = (size - (k + 1)) + 1 from by omega] at this
          rw [← this, HC.out, HZ.out]
          simp [leB, Hid]
        · unfold lenOk at *; simp; omega
      case measure => simp [intOf]; omega
    · have hk8 : k = size := by omega
      have hltB : decide ((k : Int) < (size : Int)) = false := by simp; omega
      have hfin : cur = T := by have := hcur.out; rw [hk8, Nat.sub_self] at this; simpa [leB] using this
      have HF := hid hfin
      clear hfin
      go_wp2
      go_ret
      exact ⟨_, rfl, by rw [← HF.out]; exact H1.out, H2.out, H3.out⟩
def lenU (n : Int) : UInt64 := UInt64.ofNat (if 0 ≤ n ∧ n ≤ 4294967295 then n.toNat else 0)
theorem lenB_U (n : Int) : lenB n = leB 4 (lenU n) := rfl
set_option maxRecDepth 5000 in
set_option maxHeartbeats 1000000 in
theorem appendLength_any (v : Value) (l : List UInt8) (n : Int) (w : World) (hown : OwnB w v l) (hL : l.length ≤ 100000000000000) :
    Calls Try.prog 51 #[v, .int .i64 n] w (MoreB w v (l ++ lenB n)) := by
  rw [lenB_U]
  have HD := hid (appendDigits_any v l (lenU n) 4 w hown hL (by omega))
  by_cases h0 : 0 ≤ n
  · by_cases h1 : n ≤ 4294967295
    · have hu : ((lenU n).toNat : Int) = n := by
        unfold lenU
        rw [if_pos ⟨h0, h1⟩, UInt64.toNat_ofNat']
        omega
      rw [hu] at HD
      have d0 : decide (n < 0) = false := by simp; omega
      have d1 : decide ((4294967295 : Int) < n) = false := by simp; omega
      have hwr : IntKind.u64.wrap n = n := by rw [IntKind.wrap_u64]; omega
      clear hu hown hL
      go_enter Try.func51, Try.ntmps51
      go_wp2_with fail
      refine HD.out.mono ?_
      rintro e w1 ⟨v', rfl, g1, g2, g3⟩
      have G := hid (And.intro g1 (And.intro g2 g3))
      clear g1 g2 g3
      go_wp2_with fail
      go_ret
      exact ⟨v', rfl, G.out⟩
    · have hu : ((lenU n).toNat : Int) = 0 := by unfold lenU; rw [if_neg (by omega)]; rfl
      rw [hu] at HD
      have d0 : decide (n < 0) = false := by simp; omega
      have d1 : decide ((4294967295 : Int) < n) = true := by simp; omega
      clear hu hown hL
      go_enter Try.func51, Try.ntmps51
      go_wp2_with fail
      refine HD.out.mono ?_
      rintro e w1 ⟨v', rfl, g1, g2, g3⟩
      have G := hid (And.intro g1 (And.intro g2 g3))
      clear g1 g2 g3
      go_wp2_with fail
      go_ret
      exact ⟨v', rfl, G.out⟩
  · have hu : ((lenU n).toNat : Int) = 0 := by unfold lenU; rw [if_neg (by omega)]; rfl
    rw [hu] at HD
    have d0 : decide (n < 0) = true := by simp; omega
    clear hu hown hL
    go_enter Try.func51, Try.ntmps51
    go_wp2_with fail
    refine HD.out.mono ?_
    rintro e w1 ⟨v', rfl, g1, g2, g3⟩
    have G := hid (And.intro g1 (And.intro g2 g3))
    clear g1 g2 g3
    go_wp2_with fail
    go_ret
    exact ⟨v', rfl, G.out⟩
set_option maxHeartbeats 1000000 in
theorem wUint_any (v : Value) (l : List UInt8) (x : UInt64) (w : World) (h : RdB' w v l) (hL : l.length ≤ 10000000000) :
    Calls Try.prog 46 #[v, .int .u64 x.toNat] w (NewB w (l ++ leB 8 x)) := by
  have HR := hid (room_any v l 8 w h hL (by omega))
  obtain ⟨a, c, rfl, -⟩ := h
  go_enter Try.func46, Try.ntmps46
  go_wp2_with fail
  refine (HR.out).mono ?_
  rintro e w1 ⟨v1, rfl, h1, hx, hn⟩
  have HD := hid (appendDigits_any v1 l x 8 w1 h1 (by omega) (by omega))
  have HX := hid (And.intro hx hn)
  clear h1 hx hn HR
  go_wp2_with fail
  refine HD.out.mono ?_
  rintro e w2 hm
  obtain ⟨v2, rfl, g1, g2, g3⟩ := NewB.more HX.out.1 HX.out.2 hm
  have G := hid (And.intro g1 (And.intro g2 g3))
  clear g1 g2 g3 hm HD
  go_wp2_with fail
  go_ret
  exact ⟨v2, rfl, G.out⟩
set_option maxHeartbeats 1000000 in
theorem wInt_any (v : Value) (l : List UInt8) (n : Int) (w : World) (h : RdB' w v l) (hL : l.length ≤ 10000000000) :
    Calls Try.prog 50 #[v, .int .i64 n] w (NewB w (l ++ lenB n)) := by
  have HR := hid (room_any v l 4 w h hL (by omega))
  obtain ⟨a, c, rfl, -⟩ := h
  go_enter Try.func50, Try.ntmps50
  go_wp2_with fail
  refine (HR.out).mono ?_
  rintro e w1 ⟨v1, rfl, h1, hx, hn⟩
  have HD := hid (appendLength_any v1 l n w1 h1 (by omega))
  have HX := hid (And.intro hx hn)
  clear h1 hx hn HR
  go_wp2_with fail
  refine HD.out.mono ?_
  rintro e w2 hm
  obtain ⟨v2, rfl, g1, g2, g3⟩ := NewB.more HX.out.1 HX.out.2 hm
  have G := hid (And.intro g1 (And.intro g2 g3))
  clear g1 g2 g3 hm HD
  go_wp2_with fail
  go_ret
  exact ⟨v2, rfl, G.out⟩
set_option maxRecDepth 100000 in
set_option maxHeartbeats 1600000 in
theorem wList_any (v : Value) (l : List UInt8) (lv : Value) (xs : List UInt64) (w : World) (h : RdB' w v l) (hx : RdU' w lv xs) (hL : l.length ≤ 10000000000) (hX : xs.length ≤ 1000000000) :
    Calls Try.prog 58 #[v, lv] w (NewB w (l ++ listB xs)) := by
  have HR := room_any v l (4 + 8 * xs.length) w h hL (by omega)
  rw [show ((4 + 8 * xs.length : Nat) : Int) = 4 + 8 * (xs.length : Int) by omega] at HR
  have HR := hid HR
  obtain ⟨a, c, rfl, -⟩ := h
  obtain ⟨xa, xc, rfl, -⟩ := id hx
  have HX := hid hx
  have hX1 : (xs.length : Int) ≤ 1000000000 := by omega
  clear hx
  go_enter Try.func58, Try.ntmps58
  go_wp2_with fail
  refine (HR.out).mono ?_
  rintro e w1 ⟨v1, rfl, h1, hx1, hn1⟩
  have HD := hid (appendLength_any v1 l xs.length w1 h1 (by omega))
  have HE := hid (And.intro hx1 hn1)
  clear h1 hx1 hn1 HR
  go_wp2_with fail
  refine HD.out.mono ?_
  rintro e w2 hm
  obtain ⟨v2, rfl, g1, g2, g3⟩ := NewB.more HE.out.1 HE.out.2 hm
  have G := hid (And.intro g1 (And.intro g2 g3))
  clear g1 g2 g3 hm HD HE
  go_wp2_with fail
  go_loopw [5, 19] (fun bv iv wr => ∃ i : Nat, i ≤ xs.length ∧ iv = .int .i64 i ∧ Hid (OwnB wr bv (l ++ lenB xs.length ++ cat (xs.take i)) ∧ Ext w wr ∧ ∀ k, blk bv = some k → w.heap.size ≤ k)) (fun _ iv _ => xs.length - (intOf iv).toNat)
  case atStart => exact ⟨0, by omega, rfl, hid ⟨by simpa [cat] using G.out.1, G.out.2⟩⟩
  case round =>
    obtain ⟨i, hi, rfl, HI⟩ := hrel
    clear G
    by_cases hlt : i < xs.length
    · have hltB : decide ((i : Int) < (xs.length : Int)) = true := by simp; omega
      obtain ⟨x, hxi⟩ : ∃ x, xs[i]? = some x := ⟨_, List.getElem?_eq_getElem hlt⟩
      obtain ⟨b, o, rfl, hc⟩ := (HX.out.ext HI.out.2.1).uat hxi
      have htk : xs.take (i + 1) = xs.take i ++ [x] := by rw [List.take_add_one, hxi]; rfl
      have HTK := hid htk
      have hi0 : (0 : Int) ≤ (i : Int) := Int.natCast_nonneg _
      have hil : (i : Int) < (xs.length : Int) := by omega
      have HD := hid (appendDigits_any _ _ x 8 wr HI.out.1 (by simp only [List.length_append, lenB_length, cat_length, List.length_take]; omega) (by omega))
      clear hxi htk
      go_wp2_with fail
      refine HD.out.mono ?_
      rintro e w3 hm
      obtain ⟨v3, rfl, g1, g2, g3⟩ := NewB.more HI.out.2.1 HI.out.2.2 hm
      have G := hid (And.intro g1 (And.intro g2 g3))
      clear g1 g2 g3 hm HD hc
      go_wp2_with fail
      go_roundw
      case rel => exact ⟨i + 1, by omega, by go_num, hid ⟨by rw [HTK.out, cat_snoc, ← List.append_assoc]; exact G.out.1, G.out.2⟩⟩
      case measure => simp [intOf]; omega
    · have hie : i = xs.length := by omega
      subst hie
      have hltB : decide ((xs.length : Int) < (xs.length : Int)) = false := by simp
      have hfin := HI.out.1
      rw [List.take_length] at hfin
      have HF := hid hfin
      clear hfin
      go_wp2_with fail
      go_ret
      exact ⟨_, rfl, by unfold listB; rw [← List.append_assoc]; exact HF.out, HI.out.2⟩
/-- One's own list of bytes, new since w. -/
def FrB (w v : World) (x : Value) (l : List UInt8) : Prop := OwnB v x l ∧ Ext w v ∧ ∀ k, blk x = some k → w.heap.size ≤ k
theorem FrB.ext {w v v' : World} {x : Value} {l : List UInt8} (h : FrB w v x l) (k : Ext v v') : FrB w v' x l := ⟨ownsRow_ext h.1 k, h.2.1.trans k, h.2.2⟩
theorem FrB.app {w v v' : World} {x y : Value} {l m : List UInt8} (h : FrB w v x l) {n : Nat} {xs : List Value} (hown : v'.ownsRow 0 5 1 y n xs) (hk : Kp (fun k => some k = blk x) v v') (hb : blk y = blk x ∨ blk y = some v.heap.size) (hn : n = l.length + m.length) (hx : xs = bs l ++ bs m) : FrB w v' y (l ++ m) := by
  refine ⟨?_, h.2.1.kp hk (fun k e => h.2.2 k e.symm), fun k e => ?_⟩
  · show v'.ownsRow 0 5 1 y (l ++ m).length (bs (l ++ m))
    rw [List.length_append, show bs (l ++ m) = bs l ++ bs m from List.map_append, ← hn, ← hx]
    exact hown
  · rcases hb with hb | hb
    · exact h.2.2 k (hb ▸ e)
    · rw [hb] at e; injection e with e; have := h.2.1.size; omega
set_option maxRecDepth 100000 in
set_option maxHeartbeats 1600000 in
theorem wBytes_any (v : Value) (l : List UInt8) (cv : Value) (c : List UInt8) (w : World) (h : RdB' w v l) (hc : RdB' w cv c) (hL : l.length ≤ 10000000000) (hC : c.length ≤ 1000000000) :
    Calls Try.prog 33 #[v, cv] w (NewB w (l ++ bytesB c)) := by
  obtain ⟨i0, hi, hz0, hz1, hz2⟩ := info_parts Try.infoB
  have HI := hid (And.intro hi (And.intro hz0 (And.intro hz1 hz2)))
  have HR := room_any v l (4 + c.length) w h hL (by omega)
  rw [show ((4 + c.length : Nat) : Int) = 4 + (c.length : Int) by omega] at HR
  have HR := hid HR
  obtain ⟨a, k0, rfl, -⟩ := h
  obtain ⟨xa, xc, rfl, -⟩ := id hc
  have HX := hid hc
  have hX1 : (c.length : Int) ≤ 1000000000 := by omega
  clear hc hi hz0 hz1 hz2
  go_enter Try.func33, Try.ntmps33
  go_wp2_with fail
  refine (HR.out).mono ?_
  rintro e w1 ⟨v1, rfl, h1, hx1, hn1⟩
  have HD := hid (appendLength_any v1 l c.length w1 h1 (by omega))
  have HE := hid (And.intro hx1 hn1)
  clear h1 hx1 hn1 HR
  go_wp2_with fail
  refine HD.out.mono ?_
  rintro e w2 hm
  obtain ⟨v2, rfl, g1, g2, g3⟩ := NewB.more HE.out.1 HE.out.2 hm
  obtain ⟨cur, hcur⟩ : ∃ cur, cur = l ++ lenB (c.length : Int) := ⟨_, rfl⟩
  rw [← hcur] at g1
  have HCL : Hid (cur.length + c.length ≤ 100000000000) := hid (by rw [hcur, List.length_append, lenB_length]; omega)
  have HCUR := hid hcur
  have G : Hid (FrB w w2 v2 cur) := hid ⟨g1, g2, g3⟩
  clear g1 g2 g3 hm HD HE hcur
  go_wp2_with (at_builtin; refine wpList_app' rfl _ _ 33 rfl 5 i0 (.int .u8 0) 1 1 Try.underlying33 HI.out.1 HI.out.2.1 HI.out.2.2.1 HI.out.2.2.2 rfl (by decide) v2 cur.length (bs cur) rfl G.out.1 (.slice xa c.length xc) c.length (bs c) rfl (HX.out.ext G.out.2.1) (by simp) (bs_one c) (by have := HCL.out; unfold maxLen; omega) (by have := HCL.out; omega) ?_)
  intro v3 w3 hown hk hb
  have H3 := hid (G.out.app (m := c) hown hk hb rfl rfl)
  clear hown hk hb
  go_wp2_with fail
  go_ret
  exact ⟨v3, rfl, by unfold bytesB; rw [← List.append_assoc, ← HCUR.out]; exact H3.out⟩
/-! ## the reference -/
theorem tmod_byte (x : UInt64) : ((x.toNat : Int)).tmod 256 = ((x.toUInt8).toNat : Int) := by
  rw [Int.tmod_eq_emod_of_nonneg (by omega), UInt64.toNat_toUInt8]; omega
theorem tdiv_of (x : UInt64) : ((x.toNat : Int)).tdiv 256 = ((x / 256).toNat : Int) := by
  rw [Int.tdiv_eq_ediv_of_nonneg (by omega)]; exact div_of x
theorem wrap_zU (z : UInt64) : IntKind.u64.wrap (z.toNat : Int) = (z.toNat : Int) := by
  rw [IntKind.wrap_u64]; have := u_lt z; omega
theorem byte_wrap (c : UInt8) : IntKind.u8.wrap (c.toNat : Int) = (c.toNat : Int) := by
  rw [IntKind.wrap_u8]; have := c.toNat_lt; omega
set_option maxRecDepth 5000 in
set_option maxHeartbeats 1000000 in
theorem rDigits_any (x : UInt64) (size : Nat) (w : World) (hs : size ≤ 8) :
    Calls Try.prog 27 #[.int .u64 x.toNat, .int .i64 (size : Int)] w (NewB w (leB size x)) := by
  obtain ⟨i0, hi, hz0, hz1, hz2⟩ := info_parts Try.infoB
  obtain ⟨T, hT⟩ : ∃ T, T = leB size x := ⟨_, rfl⟩
  rw [← hT]
  have HT := hid hT
  clear hT
  go_enter Try.func27, Try.ntmps27
  go_wp2
  go_loopw [0, 5, 6] (fun xv vv kv wr => ∃ (k : Nat) (y : UInt64) (cur : List UInt8), k ≤ size ∧ kv = .int .i64 k ∧ xv = .int .u64 y.toNat ∧ cur.length = k ∧ Hid (cur ++ leB (size - k) y = T) ∧ Hid (OwnB wr vv cur ∧ Ext w wr ∧ ∀ k, blk vv = some k → w.heap.size ≤ k)) (fun _ _ kv _ => size - (intOf kv).toNat)
  case atStart => exact ⟨0, x, [], by omega, rfl, rfl, rfl, hid (by simpa using HT.out.symm), hid ⟨World.ownsRow_nil _ _ _ _, Ext.refl _, fun k h => by cases h⟩⟩
  case round =>
    obtain ⟨k, y, cur, hk, rfl, rfl, hcl, hcur, H⟩ := hrel
    by_cases hlt : k < size
    · obtain ⟨c, hc⟩ : ∃ c, c = y.toUInt8 := ⟨_, rfl⟩
      obtain ⟨z, hz⟩ : ∃ z, z = y / 256 := ⟨_, rfl⟩
      have hcv := tmod_byte y
      have hzv := tdiv_of y
      rw [← hc] at hcv
      rw [← hz] at hzv
      have hcw := byte_wrap c
      have hzw := wrap_zU z
      have HC := hid hc
      have HZ := hid hz
      clear hc hz
      have hltB : decide ((k : Int) < (size : Int)) = true := by simp; omega
      have hb1 : cur.length + 1 ≤ maxLen := by unfold maxLen; omega
      have hb2 : (cur.length + 1) * 1 ≤ 140737488355328 := by omega
      have hone : ∀ u ∈ [Value.int .u8 (c.toNat : Int)], u.oneCell' = true := by simp [Value.oneCell']
      have B1 := hid hb1
      have B2 := hid hb2
      have B3 := hid hone
      have HCL := hid hcl
      clear hb1 hb2 hone hcl
      go_wp2_with (at_builtin; refine wpList_app rfl _ _ 33 rfl 5 i0 (.int .u8 0) 1 1 Try.underlying33 hi hz0 hz1 hz2 rfl (by decide) _ cur.length (bs cur) rfl (ownsRow_ext H.out.1 ((Ext.refl _).alloc _)) _ 1 [.int .u8 c.toNat] rfl (RdC.new1 _ _ _) rfl B3.out B1.out B2.out ?_)
      intro v' w1 hown0 hk2 hb
      have hown : OwnB w1 v' (cur ++ [c]) := by
        show w1.ownsRow 0 5 1 v' (cur ++ [c]).length (bs (cur ++ [c]))
        rw [show (cur ++ [c]).length = cur.length + 1 from by simp, show bs (cur ++ [c]) = bs cur ++ [.int .u8 c.toNat] from by simp]
        exact hown0
      have hk3 : Ext w w1 := (H.out.2.1.alloc (.cells #[.int .u8 c.toNat] 5)).kp hk2 (fun k h => H.out.2.2 k h.symm)
      have hb3 : ∀ k, blk v' = some k → w.heap.size ≤ k := fun k h => by
        rcases hb with hb | hb
        · exact H.out.2.2 k (hb ▸ h)
        · rw [hb] at h; injection h with h; have := H.out.2.1.size; have : wr.heap.size ≤ (wr.alloc (.cells #[.int .u8 c.toNat] 5)).heap.size := ((Ext.refl wr).alloc _).size; simp only [World.size_alloc] at *; omega
      have K := hid (And.intro hown (And.intro hk3 hb3))
      clear hown0 hown hk2 hb hk3 hb3
      go_wp2
      go_roundw
      case rel =>
        refine ⟨k + 1, z, cur ++ [c], by omega, by go_num, rfl, by have := HCL.out; simp; omega, hid ?_, K⟩
        have := hcur.out
        rw [show size - k = (size - (k + 1)) + 1 from by omega] at this
        rw [← this, HC.out, HZ.out]
        simp [leB]
      case measure => simp [intOf]; omega
    · have hk8 : k = size := by omega
      have hltB : decide ((k : Int) < (size : Int)) = false := by simp; omega
      have hfin : cur = T := by have := hcur.out; rw [hk8, Nat.sub_self] at this; simpa [leB] using this
      have HF := hid hfin
      clear hfin hcl
      go_wp2
      go_ret
      exact ⟨_, rfl, by rw [← HF.out]; exact H.out.1, H.out.2⟩
set_option maxHeartbeats 1000000 in
theorem rLen_any (n : Int) (w : World) : Calls Try.prog 30 #[.int .i64 n] w (NewB w (lenB n)) := by
  rw [lenB_U]
  have HD := hid (rDigits_any (lenU n) 4 w (by omega))
  by_cases h0 : 0 ≤ n
  · by_cases h1 : n ≤ 4294967295
    · have hu : ((lenU n).toNat : Int) = n := by
        unfold lenU
        rw [if_pos ⟨h0, h1⟩, UInt64.toNat_ofNat']
        omega
      rw [hu] at HD
      have d0 : decide (n < 0) = false := by simp; omega
      have d1 : decide ((4294967296 : Int) ≤ n) = false := by simp; omega
      have hwr : IntKind.u64.wrap n = n := by rw [IntKind.wrap_u64]; omega
      clear hu
      go_enter Try.func30, Try.ntmps30
      go_wp2_with fail
      refine HD.out.mono ?_
      rintro e w1 ⟨v', rfl, g1, g2, g3⟩
      have G := hid (And.intro g1 (And.intro g2 g3))
      clear g1 g2 g3
      go_wp2_with fail
      go_ret
      exact ⟨v', rfl, G.out⟩
    · have hu : ((lenU n).toNat : Int) = 0 := by unfold lenU; rw [if_neg (by omega)]; rfl
      rw [hu] at HD
      have d0 : decide (n < 0) = false := by simp; omega
      have d1 : decide ((4294967296 : Int) ≤ n) = true := by simp; omega
      clear hu
      go_enter Try.func30, Try.ntmps30
      go_wp2_with fail
      refine HD.out.mono ?_
      rintro e w1 ⟨v', rfl, g1, g2, g3⟩
      have G := hid (And.intro g1 (And.intro g2 g3))
      clear g1 g2 g3
      go_wp2_with fail
      go_ret
      exact ⟨v', rfl, G.out⟩
  · have hu : ((lenU n).toNat : Int) = 0 := by unfold lenU; rw [if_neg (by omega)]; rfl
    rw [hu] at HD
    have d0 : decide (n < 0) = true := by simp; omega
    clear hu
    go_enter Try.func30, Try.ntmps30
    go_wp2_with fail
    refine HD.out.mono ?_
    rintro e w1 ⟨v', rfl, g1, g2, g3⟩
    have G := hid (And.intro g1 (And.intro g2 g3))
    clear g1 g2 g3
    go_wp2_with fail
    go_ret
    exact ⟨v', rfl, G.out⟩
set_option maxRecDepth 100000 in
set_option maxHeartbeats 1600000 in
theorem rList_any (lv : Value) (xs : List UInt64) (w : World) (hx : RdU' w lv xs) (hX : xs.length ≤ 1000000000) :
    Calls Try.prog 29 #[lv] w (NewB w (listB xs)) := by
  obtain ⟨i0, hi, hz0, hz1, hz2⟩ := info_parts Try.infoB
  have HI0 := hid (And.intro hi (And.intro hz0 (And.intro hz1 hz2)))
  obtain ⟨xa, xc, rfl, -⟩ := id hx
  have HX := hid hx
  have hX1 : (xs.length : Int) ≤ 1000000000 := by omega
  have HR := hid (rLen_any (xs.length : Int) w)
  clear hx hi hz0 hz1 hz2
  go_enter Try.func29, Try.ntmps29
  go_wp2_with fail
  refine (HR.out).mono ?_
  rintro e w1 ⟨v1, rfl, g1, g2, g3⟩
  have G : Hid (FrB w w1 v1 (lenB xs.length)) := hid ⟨g1, g2, g3⟩
  clear g1 g2 g3 HR
  go_wp2_with fail
  go_loopw [3, 4] (fun bv iv wr => ∃ i : Nat, i ≤ xs.length ∧ iv = .int .i64 i ∧ Hid (FrB w wr bv (lenB xs.length ++ cat (xs.take i)))) (fun _ iv _ => xs.length - (intOf iv).toNat)
  case atStart => exact ⟨0, by omega, rfl, hid (by simpa [cat] using G.out)⟩
  case round =>
    obtain ⟨i, hi, rfl, HI⟩ := hrel
    clear G
    by_cases hlt : i < xs.length
    · have hltB : decide ((i : Int) < (xs.length : Int)) = true := by simp; omega
      obtain ⟨x, hxi⟩ : ∃ x, xs[i]? = some x := ⟨_, List.getElem?_eq_getElem hlt⟩
      obtain ⟨b, o, rfl, hc⟩ := (HX.out.ext HI.out.2.1).uat hxi
      have htk : xs.take (i + 1) = xs.take i ++ [x] := by rw [List.take_add_one, hxi]; rfl
      have HTK := hid htk
      have hi0 : (0 : Int) ≤ (i : Int) := Int.natCast_nonneg _
      have hil : (i : Int) < (xs.length : Int) := by omega
      have HD := hid (rDigits_any x 8 wr (by omega))
      have HLEN : Hid ((lenB xs.length ++ cat (xs.take i)).length + 8 ≤ 100000000000) := hid (by simp only [List.length_append, lenB_length, cat_length, List.length_take]; omega)
      obtain ⟨cur, hcur⟩ : ∃ cur, cur = lenB xs.length ++ cat (xs.take i) := ⟨_, rfl⟩
      rw [← hcur] at HI HLEN
      have HCUR := hid hcur
      clear hxi htk hcur
      go_wp2_with fail
      refine (HD.out).mono ?_
      rintro e w2 ⟨v2, rfl, g1, g2, g3⟩
      have H2 := hid (And.intro (HI.out.ext g2) g1)
      clear g1 g2 g3 HD hc
      go_wp2_with (at_builtin; refine wpList_app rfl _ _ 33 rfl 5 i0 (.int .u8 0) 1 1 Try.underlying33 HI0.out.1 HI0.out.2.1 HI0.out.2.2.1 HI0.out.2.2.2 rfl (by decide) _ cur.length (bs cur) rfl H2.out.1.1 v2 8 (bs (leB 8 x)) rfl (ownsRow_rd H2.out.2) rfl (bs_one _) (by have := HLEN.out; unfold maxLen; omega) (by have := HLEN.out; omega) ?_)
      intro v3 w3 hown hk hb
      have H3 := hid (H2.out.1.app (m := leB 8 x) hown hk hb (by rw [leB_length]) rfl)
      clear hown hk hb
      go_wp2_with fail
      go_roundw
      case rel => exact ⟨i + 1, by omega, by go_num, hid (by rw [HTK.out, cat_snoc, ← List.append_assoc, ← HCUR.out]; exact H3.out)⟩
      case measure => simp [intOf]; omega
    · have hie : i = xs.length := by omega
      subst hie
      have hltB : decide ((xs.length : Int) < (xs.length : Int)) = false := by simp
      have hfin := HI.out
      rw [List.take_length] at hfin
      have HF := hid hfin
      clear hfin
      go_wp2_with fail
      go_ret
      exact ⟨_, rfl, HF.out⟩
set_option maxRecDepth 100000 in
set_option maxHeartbeats 1600000 in
theorem rBytes_any (cv : Value) (c : List UInt8) (w : World) (hc : RdB' w cv c) (hC : c.length ≤ 1000000000) :
    Calls Try.prog 31 #[cv] w (NewB w (bytesB c)) := by
  obtain ⟨i0, hi, hz0, hz1, hz2⟩ := info_parts Try.infoB
  have HI0 := hid (And.intro hi (And.intro hz0 (And.intro hz1 hz2)))
  obtain ⟨xa, xc, rfl, -⟩ := id hc
  have HX := hid hc
  have HC := hid hC
  have HR := hid (rLen_any (c.length : Int) w)
  obtain ⟨cur, hcur⟩ : ∃ cur, cur = lenB (c.length : Int) := ⟨_, rfl⟩
  have hcl : cur.length = 4 := by rw [hcur, lenB_length]
  have HCL := hid hcl
  rw [← hcur] at HR
  have HCUR := hid hcur
  clear hc hi hz0 hz1 hz2 hcur hcl
  go_enter Try.func31, Try.ntmps31
  go_wp2_with fail
  refine (HR.out).mono ?_
  rintro e w1 ⟨v1, rfl, g1, g2, g3⟩
  have G : Hid (FrB w w1 v1 cur) := hid ⟨g1, g2, g3⟩
  clear g1 g2 g3 HR
  go_wp2_with (at_builtin; refine wpList_app' rfl _ _ 33 rfl 5 i0 (.int .u8 0) 1 1 Try.underlying33 HI0.out.1 HI0.out.2.1 HI0.out.2.2.1 HI0.out.2.2.2 rfl (by decide) v1 cur.length (bs cur) rfl G.out.1 (.slice xa c.length xc) c.length (bs c) rfl (HX.out.ext G.out.2.1) (by simp) (bs_one c) (by have := HCL.out; have := HC.out; unfold maxLen; omega) (by have := HCL.out; have := HC.out; omega) ?_)
  intro v3 w3 hown hk hb
  have H3 := hid (G.out.app (m := c) hown hk hb rfl rfl)
  clear hown hk hb
  go_wp2_with fail
  go_ret
  exact ⟨_, rfl, by unfold bytesB; rw [← HCUR.out]; exact H3.out⟩
end Go.Proofs.Ytkdnnekdldomeaa
