/- The oracle's helpers: elements, copied, appendNumber, key, sealedName: what they return; they change nothing that was there. key: the bytes of some numbers and a list; they determine both. -/
import Derived.Test.YtgfmjfkdogcnhaaGreatSponge
import Derived.Test.YtgfmjfkdogcnhaaGreatSlice
namespace Go.Proofs.YtgfmjfkdogcnhaaGreat
open Go.RowKit
attribute [local irreducible] perm fAdd fMul fPow fSub fNeg fRed

abbrev us (l : List UInt64) : List Value := l.map fun x => Value.int .u64 (x.toNat : Int)
theorem RdU.rdc {w : World} {v : Value} {l : List UInt64} (h : RdU w v l) : RdC w v l.length (us l) := by
  obtain ⟨a, c, h1, h2, h3, h4, h5⟩ := h
  refine ⟨a, c, h1, h2, h3, h4, fun ad ha => ⟨(h5 ad ha).1, fun j u hu => ?_⟩⟩
  simp only [us, List.getElem?_map, Option.map_eq_some_iff] at hu
  obtain ⟨x, hx, rfl⟩ := hu
  exact (h5 ad ha).2 j x hx
theorem RdC.rdu {w : World} {v : Value} {l : List UInt64} {n : Nat} (h : RdC w v n (us l)) (hn : n = l.length) : RdU w v l := by
  subst hn
  obtain ⟨a, c, h1, h2, h3, h4, h5⟩ := h
  refine ⟨a, c, h1, h2, h3, h4, fun ad ha => ⟨(h5 ad ha).1, fun j x hx => ?_⟩⟩
  exact (h5 ad ha).2 j _ (by simp [us, hx])
theorem RdU.ext {w w' : World} {v : Value} {l : List UInt64} (h : RdU w v l) (k : Ext w w') : RdU w' v l := (h.rdc.ext k).rdu rfl
theorem RdU.kp {F : Nat → Prop} {w w' : World} {v : Value} {l : List UInt64} (h : RdU w v l) (k : Kp F w w') (hF : ∀ b, blk v = some b → ¬ F b) : RdU w' v l := (h.rdc.kp k hF).rdu rfl
theorem us_one (l : List UInt64) : ∀ u ∈ us l, u.oneCell' = true := by
  intro u hu
  obtain ⟨_, _, rfl⟩ := List.mem_map.1 hu
  rfl
/-- A list of numbers that a slice of the call's own holds. -/
abbrev OwnU (w : World) (v : Value) (l : List UInt64) : Prop := w.ownsRow 0 22 1 v l.length (us l)
theorem OwnU.rdu {w : World} {v : Value} {l : List UInt64} (h : OwnU w v l) : RdU w v l := (ownsRow_rd h).rdu rfl

theorem Tryz.infoU : (Tryz.prog.info? 22).map (fun i => (i.zero, i.size, i.bytes)) = some (some (.int .u64 0), 1, 8) := by kernel_rfl
theorem Tryz.infoB : (Tryz.prog.info? 5).map (fun i => (i.zero, i.size, i.bytes)) = some (some (.int .u8 0), 1, 1) := by kernel_rfl

/-! ## elements -/
def allE (l : List UInt64) : Bool := l.all fun x => decide (x < big)
theorem lt_big_iff (x : UInt64) : x < big ↔ (x.toNat : Int) < 18446744069414584321 := by
  rw [UInt64.lt_iff_toNat_lt]
  show x.toNat < 18446744069414584321 ↔ _
  omega
theorem allE_snoc {l : List UInt64} {i : Nat} {x : UInt64} (hx : l[i]? = some x) (h : (l.take i).all (fun x => decide (x < big)) = true) (hb : x < big) : (l.take (i + 1)).all (fun x => decide (x < big)) = true := by
  have hi : i < l.length := (List.getElem?_eq_some_iff.1 hx).1
  rw [List.take_add_one, hx]
  simp only [List.all_append, h, Option.toList_some, List.all_cons, List.all_nil, Bool.and_true, Bool.true_and]
  simpa using hb
theorem allE_bad {l : List UInt64} {i : Nat} {x : UInt64} (hx : l[i]? = some x) (hb : ¬ x < big) : allE l = false := by
  unfold allE
  rw [List.all_eq_false]
  exact ⟨x, List.mem_of_getElem? hx, by simpa using hb⟩

set_option maxRecDepth 100000 in
set_option maxHeartbeats 800000 in
theorem elements_any (lv : Value) (l : List UInt64) (w : World) (hl : RdU w lv l) (hL : l.length ≤ 1000000000000) :
    Calls Tryz.prog 69 #[lv] w fun e w' => e = .returned (.bool (allE l)) ∧ w = w' := by
  obtain ⟨a, c, rfl, hlc, hcm, hnil, hcell⟩ := hl
  have hL1 : (l.length : Int) ≤ 1000000000000 := by omega
  have HC := hid hcell
  have HN := hid hnil
  clear hcell hnil hcm
  go_enter Tryz.func69, Tryz.ntmps69
  go_wp2
  go_loop [7] (fun iv => ∃ i : Nat, i ≤ l.length ∧ iv = .int .i64 i ∧ Hid ((l.take i).all (fun x => decide (x < big)) = true)) (fun iv => l.length - (intOf iv).toNat)
  case atStart => exact ⟨0, by omega, rfl, hid rfl⟩
  case round =>
    obtain ⟨i, hi, rfl, hI⟩ := hrel
    by_cases hlt : i < l.length
    · obtain ⟨b, o, rfl⟩ : ∃ b o, a = some ⟨b, o, none⟩ := by
        cases a with
        | none => have := HN.out rfl; omega
        | some ad => obtain ⟨h1, _⟩ := HC.out ad rfl; exact ⟨ad.block, ad.off, by cases ad; simp only at h1; subst h1; rfl⟩
      have hc := (HC.out _ rfl).2 i l[i] (List.getElem?_eq_getElem hlt)
      have hx : l[i]? = some l[i] := List.getElem?_eq_getElem hlt
      generalize l[i] = x at *
      have hc' : w.cell? ⟨b, o + i, none⟩ = some (.int .u64 x.toNat) := hc
      have HX := hid hx
      clear hc hx
      obtain ⟨pb, hpb⟩ : ∃ pb : Int, pb = 18446744069414584321 := ⟨_, rfl⟩
      by_cases hb : x < big
      · have hbi := (lt_big_iff x).1 hb
        have hB := hid hb
        clear hb
        have hd : decide ((18446744069414584321 : Int) ≤ (x.toNat : Int)) = false := by simp; omega
        clear hbi hpb
        go_wp2
        go_round
        case rel => exact ⟨i + 1, by omega, by go_num, hid (allE_snoc HX.out hI.out hB.out)⟩
        case measure => simp [intOf]; omega
      · have hbi : ¬ (x.toNat : Int) < 18446744069414584321 := fun h => hb ((lt_big_iff x).2 h)
        have hfin := allE_bad HX.out hb
        have HF := hid hfin
        have hd : decide ((18446744069414584321 : Int) ≤ (x.toNat : Int)) = true := by simp; omega
        clear hbi hb hfin hpb
        go_wp2
        go_ret
        exact ⟨ret_bool HF.out.symm, rfl⟩
    · have hfin : allE l = true := by
        have := hI.out
        rwa [List.take_of_length_le (by omega)] at this
      have HF := hid hfin
      clear hfin
      go_wp2
      go_ret
      exact ⟨ret_bool HF.out.symm, rfl⟩

/-! ## copied -/
/-- A new list that reads as l, nothing else turned. -/
def NewU (w : World) (l : List UInt64) (e : Ending) (w' : World) : Prop := ∃ v, e = .returned v ∧ OwnU w' v l ∧ Ext w w' ∧ (∀ k, blk v = some k → w.heap.size ≤ k)
set_option maxHeartbeats 400000 in
theorem copied_any (lv : Value) (l : List UInt64) (w : World) (hl : RdU w lv l) (hL : l.length ≤ 1000000000000) :
    Calls Tryz.prog 57 #[lv] w (NewU w l) := by
  obtain ⟨i0, hi, hz0, hz1, hz2⟩ := info_parts Tryz.infoU
  go_enter Tryz.func57, Tryz.ntmps57
  go_wp2_with (at_builtin; refine wpList_app rfl _ _ 26 rfl 22 i0 (.int .u64 0) 1 8 Tryz.underlying26 hi hz0 hz1 hz2 rfl (by decide) _ 0 [] rfl (World.ownsRow_nil _ _ _ _) _ l.length (us l) rfl hl.rdc (by simp) (us_one l) (by unfold maxLen; omega) (by omega) ?_)
  intro v' w1 hown0 hk hb
  have hown : OwnU w1 v' l := by simpa using hown0
  clear hown0
  have hE := hk.toExt (by intro k h; simp [Value.ownBlock] at h)
  have hfr : ∀ k, blk v' = some k → w.heap.size ≤ k := by
    intro k h
    rcases hb with hb | hb
    · rw [hb] at h; simp [Value.ownBlock] at h
    · rw [hb] at h; simp at h; omega
  have H1 := hid hown
  have H2 := hid hE
  have H3 := hid hfr
  clear hown hk hb hE hfr
  go_wp2
  go_ret
  exact ⟨v', rfl, H1.out, H2.out, H3.out⟩

/-! ## appendNumber -/
abbrev bs (l : List UInt8) : List Value := l.map fun x => Value.int .u8 (x.toNat : Int)
abbrev OwnB (w : World) (v : Value) (l : List UInt8) : Prop := w.ownsRow 0 5 1 v l.length (bs l)
def leB : Nat → UInt64 → List UInt8
  | 0, _ => []
  | n + 1, x => x.toUInt8 :: leB n (x / 256)
theorem leB_length (n : Nat) (x : UInt64) : (leB n x).length = n := by
  induction n generalizing x with
  | zero => rfl
  | succ n ih => simp [leB, ih]
def lenOk (n k : Nat) : Prop := n ≤ 100000000000000 + k
/-- The list has become m, in the old block or in a new one. -/
def MoreB (w : World) (v : Value) (m : List UInt8) (e : Ending) (w' : World) : Prop :=
  ∃ v', e = .returned v' ∧ OwnB w' v' m ∧ Kp (fun k => some k = blk v) w w' ∧ (blk v' = blk v ∨ ∃ k, blk v' = some k ∧ w.heap.size ≤ k)
theorem byte_of (x : UInt64) : IntKind.u8.wrap (x.toNat : Int) = ((x.toUInt8).toNat : Int) := by
  rw [IntKind.wrap_u8, UInt64.toNat_toUInt8]; omega
theorem div_of (x : UInt64) : (x.toNat : Int) / 256 = ((x / 256).toNat : Int) := by
  rw [UInt64.toNat_div]; rfl

set_option maxRecDepth 5000 in
set_option maxHeartbeats 1000000 in
theorem appendNumber_any (v : Value) (l : List UInt8) (x : UInt64) (w : World) (hown : OwnB w v l) (hL : l.length ≤ 100000000000000) :
    Calls Tryz.prog 88 #[v, .int .u64 x.toNat] w (MoreB w v (l ++ leB 8 x)) := by
  obtain ⟨i0, hi, hz0, hz1, hz2⟩ := info_parts Tryz.infoB
  obtain ⟨T, hT⟩ : ∃ T, T = l ++ leB 8 x := ⟨_, rfl⟩
  rw [← hT]
  have HT := hid hT
  have HO := hid hown
  clear hT hown
  go_enter Tryz.func88, Tryz.ntmps88
  go_wp2
  go_loopw [0, 1, 5] (fun vv xv kv wr => ∃ (k : Nat) (y : UInt64) (cur : List UInt8), k ≤ 8 ∧ kv = .int .i64 k ∧ xv = .int .u64 y.toNat ∧ Hid (cur ++ leB (8 - k) y = T) ∧ lenOk cur.length k ∧ OwnB wr vv cur ∧ Kp (fun k => some k = blk v) w wr ∧ (blk vv = blk v ∨ ∃ k, blk vv = some k ∧ w.heap.size ≤ k)) (fun _ _ kv _ => 8 - (intOf kv).toNat)
  case atStart => exact ⟨0, x, l, by omega, rfl, rfl, hid HT.out.symm, by unfold lenOk; omega, HO.out, Kp.refl _ _, .inl rfl⟩
  case round =>
    obtain ⟨k, y, cur, hk, rfl, rfl, hcur, hlen0, how, hkp, hbl⟩ := hrel
    have H1 := hid how
    have H2 := hid hkp
    have H3 := hid hbl
    clear how hkp hbl
    by_cases hlt : k < 8
    · obtain ⟨c, hc⟩ : ∃ c, c = y.toUInt8 := ⟨_, rfl⟩
      obtain ⟨z, hz⟩ : ∃ z, z = y / 256 := ⟨_, rfl⟩
      have hcv := byte_of y
      have hzv := div_of y
      rw [← hc] at hcv
      rw [← hz] at hzv
      have HC := hid hc
      have HZ := hid hz
      clear hc hz
      have hlen : cur.length ≤ 100000000000000 + k := hlen0
      have hb1 : cur.length + 1 ≤ maxLen := by unfold maxLen; omega
      have hb2 : (cur.length + 1) * 1 ≤ 140737488355328 := by omega
      have hone : ∀ u ∈ [Value.int .u8 (c.toNat : Int)], u.oneCell' = true := by simp [Value.oneCell']
      have B1 := hid hb1
      have B2 := hid hb2
      have B3 := hid hone
      clear hb1 hb2 hone hlen hL
      go_wp2_with (at_builtin; refine wpList_app rfl _ _ 132 rfl 5 i0 (.int .u8 0) 1 1 Tryz.underlying132 hi hz0 hz1 hz2 rfl (by decide) _ cur.length (bs cur) rfl (ownsRow_ext H1.out ((Ext.refl _).alloc _)) _ 1 [.int .u8 c.toNat] rfl (RdC.new1 _ _ _) rfl B3.out B1.out B2.out ?_)
      intro v' w1 hown0 hk2 hb
      have hown : OwnB w1 v' (cur ++ [c]) := by
        show w1.ownsRow 0 5 1 v' (cur ++ [c]).length (bs (cur ++ [c]))
        rw [show (cur ++ [c]).length = cur.length + 1 from by simp, show bs (cur ++ [c]) = bs cur ++ [.int .u8 c.toNat] from by simp]
        exact hown0
      have hk3 : Kp (fun k => some k = blk v) w w1 := by
        refine (H2.out.alloc (.cells #[.int .u8 c.toNat] 5)).trans2 hk2 fun i hi he => ?_
        rcases H3.out with h | ⟨j, hj, hjl⟩
        · rw [← h]; exact he
        · rw [hj] at he; injection he with he; omega
      have hb3 : blk v' = blk v ∨ ∃ k, blk v' = some k ∧ w.heap.size ≤ k := by
        rcases hb with hb | hb
        · rw [hb]; exact H3.out
        · refine .inr ⟨_, hb, ?_⟩
          have := H2.out.size
          simp; omega
      have K1 := hid hown
      have K2 := hid hk3
      have K3 := hid hb3
      clear hown0 hown hk2 hb hk3 hb3
      go_wp2
      go_roundw
      case rel =>
        refine ⟨k + 1, z, cur ++ [c], by omega, by go_num, rfl, ?_, ?_, K1.out, K2.out, K3.out⟩
        · have := hcur.out
          rw [show 8 - k = (8 - (k + 1)) + 1 from by omega] at this
          rw [← this, HC.out, HZ.out]
          simp [leB, Hid]
        · unfold lenOk at *; simp; omega
      case measure => simp [intOf]; omega
    · have hk8 : k = 8 := by omega
      subst hk8
      have hfin : cur = T := by have := hcur.out; simpa [leB] using this
      have HF := hid hfin
      clear hfin
      go_wp2
      go_ret
      exact ⟨_, rfl, by rw [← HF.out]; exact H1.out, H2.out, H3.out⟩
end Go.Proofs.YtgfmjfkdogcnhaaGreat
namespace Go.Proofs.YtgfmjfkdogcnhaaGreat
open Go.RowKit
attribute [local irreducible] perm fAdd fMul fPow fSub fNeg fRed

def cat (l : List UInt64) : List UInt8 := l.flatMap (leB 8)
def keyS (ns l : List UInt64) : ByteArray := ⟨(cat ns ++ cat l).toArray⟩
theorem cat_length (l : List UInt64) : (cat l).length = 8 * l.length := by
  induction l with
  | nil => rfl
  | cons x r ih => simp only [cat, List.flatMap_cons, List.length_append, leB_length, List.length_cons] at *; omega
theorem cat_snoc (l : List UInt64) (x : UInt64) : cat (l ++ [x]) = cat l ++ leB 8 x := by simp [cat]

theorem div_mod_256 {x y : UInt64} (h1 : x.toUInt8 = y.toUInt8) (h2 : x / 256 = y / 256) : x = y := by
  have e1 : x.toNat % 256 = y.toNat % 256 := by rw [← UInt64.toNat_toUInt8, ← UInt64.toNat_toUInt8, h1]
  have e2 : x.toNat / 256 = y.toNat / 256 := by
    have a := congrArg UInt64.toNat h2
    rw [UInt64.toNat_div, UInt64.toNat_div] at a; exact a
  apply UInt64.toNat_inj.1; omega
theorem leB_small : ∀ (n : Nat) (x y : UInt64), x.toNat < 256 ^ n → y.toNat < 256 ^ n → leB n x = leB n y → x = y
  | 0, x, y, hx, hy, _ => by apply UInt64.toNat_inj.1; simp at hx hy; rw [hx, hy]
  | n + 1, x, y, hx, hy, h => by
    simp only [leB, List.cons.injEq] at h
    refine div_mod_256 h.1 (leB_small n _ _ ?_ ?_ h.2)
    · rw [UInt64.toNat_div]; show x.toNat / 256 < _; rw [Nat.pow_succ] at hx; omega
    · rw [UInt64.toNat_div]; show y.toNat / 256 < _; rw [Nat.pow_succ] at hy; omega
theorem leB_inj {x y : UInt64} (h : leB 8 x = leB 8 y) : x = y := leB_small 8 x y (by have := x.toNat_lt; omega) (by have := y.toNat_lt; omega) h
theorem cat_inj : ∀ {l m : List UInt64}, cat l = cat m → l = m
  | [], [], _ => rfl
  | [], y :: m, h => by have := congrArg List.length h; simp [cat_length] at this
  | x :: l, [], h => by have := congrArg List.length h; simp [cat_length] at this
  | x :: l, y :: m, h => by
    simp only [cat, List.flatMap_cons] at h
    have h2 := List.append_inj h (by simp [leB_length])
    rw [leB_inj h2.1, cat_inj (l := l) (m := m) h2.2]
theorem keyS_inj {ns ms l m : List UInt64} (hn : ns.length = ms.length) (h : keyS ns l = keyS ms m) : ns = ms ∧ l = m := by
  unfold keyS at h
  injection h with h
  have h1 : cat ns ++ cat l = cat ms ++ cat m := by simpa using congrArg Array.toList h
  have h2 := List.append_inj h1 (by simp [cat_length, hn])
  exact ⟨cat_inj h2.1, cat_inj h2.2⟩

set_option maxRecDepth 100000 in
theorem run_str (w : World) (v : Value) (l : List UInt8) (h : OwnB w v l) : (convert 132 9 v).run Tryz.prog w = .ok (.string ⟨l.toArray⟩) w := by
  have hd : Tryz.prog.underlying 9 = some .string := Tryz.underlying9
  rcases h.2 with ⟨rfl, h0⟩ | ⟨g, cap, cur, rfl, _, hg, hnc, _⟩
  · rw [run_convert_bytes_nil w _ _ Tryz.underlying132 Tryz.underlying5 _ _ _ hd]
    obtain rfl : l = [] := List.eq_nil_of_length_eq_zero h0
    simp [ByteArray.empty, ByteArray.emptyWithCapacity]
    rfl
  · have hr := run_convert_bytes_arg (P := Tryz.prog) w 132 5 Tryz.underlying132 Tryz.underlying5 g 0 l.length cap (l.map fun x => (x.toNat : Int)) (by simp) (fun i hi => by
      have hget : (bs l)[i]? = some (.int .u8 ((l[i]).toNat : Int)) := by rw [List.getElem?_map, List.getElem?_eq_getElem hi]; rfl
      have h2 := h.cells (g := g) rfl i _ hget
      rw [Addr.add_lit] at h2
      rw [h2, List.getD_eq_getElem?_getD, List.getElem?_map, List.getElem?_eq_getElem hi]; rfl) _ hd
    rw [hr]
    congr 2
    unfold strOfNums
    congr 1
    rw [List.map_map]
    congr 1
    refine (List.map_congr_left (g := id) fun x _ => ?_).trans (List.map_id l)
    show UInt8.ofNat ((x.toNat : Int)).toNat = x
    rw [Int.toNat_natCast]
    exact UInt8.ofNat_toNat

abbrev NewOf (w : World) (v : Value) : Prop := ∃ k, blk v = some k ∧ w.heap.size ≤ k
def lenK (a b : Nat) : Prop := a ≤ 8 * b
set_option maxRecDepth 100000 in
set_option maxHeartbeats 1000000 in
theorem key_any (lv nv : Value) (l ns : List UInt64) (w : World) (hl : RdU w lv l) (hn : RdU w nv ns) (hL : l.length ≤ 1000000000000) (hN : ns.length ≤ 1000) :
    Calls Tryz.prog 70 #[lv, nv] w fun e w' => e = .returned (.string (keyS ns l)) ∧ Ext w w' := by
  obtain ⟨i0, hi, hz0, hz1, hz2⟩ := info_parts Tryz.infoB
  have hl0 := hid hl
  have hn0 := hid hn
  obtain ⟨a1, c1, rfl, hlc1, hcm1, hnil1, hcell1⟩ := hl
  obtain ⟨a2, c2, rfl, hlc2, hcm2, hnil2, hcell2⟩ := hn
  have hL1 : (l.length : Int) ≤ 1000000000000 := by omega
  have hN1 : (ns.length : Int) ≤ 1000 := by omega
  have HC1 := hid hcell1
  have HC2 := hid hcell2
  have HI1 := hid hnil1
  have HI2 := hid hnil2
  clear hcell1 hcell2 hnil1 hnil2 hcm1 hcm2
  have hb1 : i0.bytes * (8 * (ns.length + l.length)) ≤ 281474976710656 := by rw [hz2]; omega
  have hb2 : 8 * (ns.length + l.length) ≤ maxLen := by unfold maxLen; omega
  have hb3 : 8 * ((ns.length : Int) + (l.length : Int)) = ((8 * (ns.length + l.length) : Nat) : Int) := by omega
  have B1 := hid hb1
  have B2 := hid hb2
  have B3 := hid hb3
  clear hb1 hb2 hb3
  go_enter Tryz.func70, Tryz.ntmps70
  go_wp2_with (at_make; refine wpList_make_own _ rfl _ _ 132 rfl 0 5 i0 (.int .u8 0) 1 Tryz.underlying132 hi hz0 hz1 _ _ _ (8 * (ns.length + l.length)) rfl rfl B3.out B1.out B2.out (Nat.zero_le _) ?_)
  intro w1 hown0 hg
  have hown : OwnB w1 (.slice (some ⟨w.heap.size, 0, none⟩) 0 (8 * (ns.length + l.length))) [] := hown0
  have hE : Ext w w1 := (grown_kp hg).toExt (by intro k h; cases h)
  have hnew : NewOf w (.slice (some ⟨w.heap.size, 0, none⟩) 0 (8 * (ns.length + l.length))) := ⟨_, rfl, Nat.le_refl _⟩
  have H1 := hid hown
  have H2 := hid hE
  have H3 := hid hnew
  clear hown0 hown hg hE hnew
  go_wp2
  go_loopw [5, 19] (fun bv iv wr => ∃ i : Nat, i ≤ ns.length ∧ iv = .int .i64 i ∧ OwnB wr bv (cat (ns.take i)) ∧ Ext w wr ∧ NewOf w bv) (fun _ iv _ => ns.length - (intOf iv).toNat)
  case atStart => exact ⟨0, by omega, rfl, H1.out, H2.out, H3.out⟩
  case round =>
    obtain ⟨i, hin, rfl, how, hE, hnew⟩ := hrel
    have G1 := hid how
    have G2 := hid hE
    have G3 := hid hnew
    clear how hE hnew
    by_cases hlt : i < ns.length
    · obtain ⟨b, o, rfl⟩ : ∃ b o, a2 = some ⟨b, o, none⟩ := by
        cases a2 with
        | none => have := HI2.out rfl; omega
        | some ad => obtain ⟨h1, _⟩ := HC2.out ad rfl; exact ⟨ad.block, ad.off, by cases ad; simp only at h1; subst h1; rfl⟩
      have hx : ns[i]? = some ns[i] := List.getElem?_eq_getElem hlt
      have hc : wr.cell? ⟨b, o + i, none⟩ = some (.int .u64 (ns[i]).toNat) := G2.out.cell_some ((HC2.out _ rfl).2 i ns[i] hx)
      have htk : ns.take (i + 1) = ns.take i ++ [ns[i]] := by rw [List.take_add_one, hx]; rfl
      generalize ns[i] = x at *
      have HTK := hid htk
      have hlen : (cat (ns.take i)).length ≤ 100000000000000 := by rw [cat_length, List.length_take]; omega
      have HLEN := hid hlen
      clear hx htk hlen
      go_wp2_with fail
      refine (appendNumber_any _ _ x _ G1.out HLEN.out).mono ?_
      rintro e w2 ⟨v2, rfl, ho2, hk2, hb2⟩
      have hE2 : Ext w w2 := G2.out.kp hk2 (by
        intro k h
        obtain ⟨k', h1, h2⟩ := G3.out
        rw [h1] at h; injection h with h; omega)
      have hn2 : NewOf w v2 := by
        rcases hb2 with h | ⟨k, h1, h2⟩
        · rw [NewOf, h]; exact G3.out
        · exact ⟨k, h1, Nat.le_trans G2.out.size h2⟩
      have K1 := hid ho2
      have K2 := hid hE2
      have K3 := hid hn2
      clear ho2 hk2 hb2 hE2 hn2 hc
      go_wp2
      go_roundw
      case rel => exact ⟨i + 1, by omega, by go_num, by rw [HTK.out, cat_snoc]; exact K1.out, K2.out, K3.out⟩
      case measure => simp [intOf]; omega
    · have G4 : Hid (OwnB wr u5 (cat ns)) := by
        have := G1.out
        rw [List.take_of_length_le (by omega)] at this; exact this
      clear G1
      have HW := G2
      have HV := G3
      clear G2 G3
      go_wp2_with fail
      clear hlt
      obtain ⟨wo, rfl⟩ : ∃ wo : World, wo = wr := ⟨_, rfl⟩
      go_loopw [5, 29] (fun bv iv wr => ∃ i : Nat, i ≤ l.length ∧ iv = .int .i64 i ∧ OwnB wr bv (cat ns ++ cat (l.take i)) ∧ Ext w wr ∧ NewOf w bv) (fun _ iv _ => l.length - (intOf iv).toNat)
      case atStart => exact ⟨0, by omega, rfl, by simpa [cat] using G4.out, HW.out, HV.out⟩
      case round =>
        obtain ⟨j, hjn, rfl, how, hE, hnew⟩ := hrel
        have G1 := hid how
        have G2 := hid hE
        have G3 := hid hnew
        clear how hE hnew G4
        by_cases hlt : j < l.length
        · obtain ⟨b, o, rfl⟩ : ∃ b o, a1 = some ⟨b, o, none⟩ := by
            cases a1 with
            | none => have := HI1.out rfl; omega
            | some ad => obtain ⟨h1, _⟩ := HC1.out ad rfl; exact ⟨ad.block, ad.off, by cases ad; simp only at h1; subst h1; rfl⟩
          have hx : l[j]? = some l[j] := List.getElem?_eq_getElem hlt
          have hc : wr.cell? ⟨b, o + j, none⟩ = some (.int .u64 (l[j]).toNat) := G2.out.cell_some ((HC1.out _ rfl).2 j l[j] hx)
          have htk : l.take (j + 1) = l.take j ++ [l[j]] := by rw [List.take_add_one, hx]; rfl
          generalize l[j] = x at *
          have HTK := hid htk
          have hlen : (cat ns ++ cat (l.take j)).length ≤ 100000000000000 := by rw [List.length_append, cat_length, cat_length, List.length_take]; omega
          have HLEN := hid hlen
          clear hx htk hlen
          go_wp2_with fail
          refine (appendNumber_any _ _ x _ G1.out HLEN.out).mono ?_
          rintro e w2 ⟨v2, rfl, ho2, hk2, hb2⟩
          have hE2 : Ext w w2 := G2.out.kp hk2 (by
            intro k h
            obtain ⟨k', h1, h2⟩ := G3.out
            rw [h1] at h; injection h with h; omega)
          have hn2 : NewOf w v2 := by
            rcases hb2 with h | ⟨k, h1, h2⟩
            · rw [NewOf, h]; exact G3.out
            · exact ⟨k, h1, Nat.le_trans G2.out.size h2⟩
          have K1 := hid ho2
          have K2 := hid hE2
          have K3 := hid hn2
          clear ho2 hk2 hb2 hE2 hn2 hc
          go_wp2
          go_roundw
          case rel => exact ⟨j + 1, by omega, by go_num, by rw [HTK.out, cat_snoc, ← List.append_assoc]; exact K1.out, K2.out, K3.out⟩
          case measure => simp [intOf]; omega
        · have G5 : Hid (OwnB wr u5 (cat ns ++ cat l)) := by
            have := G1.out
            rw [List.take_of_length_le (by omega)] at this; exact this
          have hcv := run_str wr _ _ G5.out
          have hks : (⟨(cat ns ++ cat l).toArray⟩ : ByteArray) = keyS ns l := rfl
          rw [hks] at hcv
          clear G1 G5 hks
          go_wp2
          go_ret
          exact ⟨rfl, G2.out⟩
end Go.Proofs.YtgfmjfkdogcnhaaGreat
