/- The oracle's helpers: elements, copied, appendNumber, key, sealedName: what they return; they change nothing that was there. -/
import Derived.Test.YtdpgfjnpcjpdpaaSponge
import Derived.Test.YtdpgfjnpcjpdpaaSlice
namespace Go.Proofs.Ytdpgfjnpcjpdpaa
open Go.RowKit
attribute [local irreducible] perm fAdd fMul fPow fSub fNeg fRed

abbrev us (l : List UInt64) : List Value := l.map fun x => Value.int .u64 (x.toNat : Int)
theorem RdU.rdc {w : World} {v : Value} {l : List UInt64} (h : RdU w v l) : RdC w v l.length (us l) := by
  obtain ⟨a, c, h1, h2, h3, h4, h5⟩ := h
  refine ⟨a, c, h1, h2, h3, h4, fun ad ha => ⟨(h5 ad ha).1, fun j u hu => ?_⟩⟩
  simp only [us, List.getElem?_map, Option.map_eq_some_iff] at hu
  obtain ⟨x, hx, rfl⟩ := hu
  exact (h5 ad ha).2 j x hx
theorem RdC.rdu {w : World} {v : Value} {l : List UInt64} {n : Nat} (h : RdC w v n (us l)) (hn : n = l.length) : RdU w v l := by
  subst hn
  obtain ⟨a, c, h1, h2, h3, h4, h5⟩ := h
  refine ⟨a, c, h1, h2, h3, h4, fun ad ha => ⟨(h5 ad ha).1, fun j x hx => ?_⟩⟩
  exact (h5 ad ha).2 j _ (by simp [us, hx])
theorem RdU.ext {w w' : World} {v : Value} {l : List UInt64} (h : RdU w v l) (k : Ext w w') : RdU w' v l := (h.rdc.ext k).rdu rfl
theorem RdU.kp {F : Nat → Prop} {w w' : World} {v : Value} {l : List UInt64} (h : RdU w v l) (k : Kp F w w') (hF : ∀ b, blk v = some b → ¬ F b) : RdU w' v l := (h.rdc.kp k hF).rdu rfl
theorem us_one (l : List UInt64) : ∀ u ∈ us l, u.oneCell' = true := by
  intro u hu
  obtain ⟨_, _, rfl⟩ := List.mem_map.1 hu
  rfl
/-- A list of numbers that a slice of the call's own holds. -/
abbrev OwnU (w : World) (v : Value) (l : List UInt64) : Prop := w.ownsRow 0 28 1 v l.length (us l)
theorem OwnU.rdu {w : World} {v : Value} {l : List UInt64} (h : OwnU w v l) : RdU w v l := (ownsRow_rd h).rdu rfl

theorem Try.infoU : (Try.prog.info? 28).map (fun i => (i.zero, i.size, i.bytes)) = some (some (.int .u64 0), 1, 8) := by kernel_rfl
theorem Try.infoB : (Try.prog.info? 5).map (fun i => (i.zero, i.size, i.bytes)) = some (some (.int .u8 0), 1, 1) := by kernel_rfl

/-! ## elements -/
def allE (l : List UInt64) : Bool := l.all fun x => decide (x < big)
theorem lt_big_iff (x : UInt64) : x < big ↔ (x.toNat : Int) < 18446744069414584321 := by
  rw [UInt64.lt_iff_toNat_lt]
  show x.toNat < 18446744069414584321 ↔ _
  omega
theorem allE_snoc {l : List UInt64} {i : Nat} {x : UInt64} (hx : l[i]? = some x) (h : (l.take i).all (fun x => decide (x < big)) = true) (hb : x < big) : (l.take (i + 1)).all (fun x => decide (x < big)) = true := by
  have hi : i < l.length := (List.getElem?_eq_some_iff.1 hx).1
  rw [List.take_add_one, hx]
  simp only [List.all_append, h, Option.toList_some, List.all_cons, List.all_nil, Bool.and_true, Bool.true_and]
  simpa using hb
theorem allE_bad {l : List UInt64} {i : Nat} {x : UInt64} (hx : l[i]? = some x) (hb : ¬ x < big) : allE l = false := by
  unfold allE
  rw [List.all_eq_false]
  exact ⟨x, List.mem_of_getElem? hx, by simpa using hb⟩

set_option maxRecDepth 100000 in
set_option maxHeartbeats 800000 in
theorem elements_any (lv : Value) (l : List UInt64) (w : World) (hl : RdU w lv l) (hL : l.length ≤ 1000000000000) :
    Calls Try.prog 86 #[lv] w fun e w' => e = .returned (.bool (allE l)) ∧ w = w' := by
  obtain ⟨a, c, rfl, hlc, hcm, hnil, hcell⟩ := hl
  have hL1 : (l.length : Int) ≤ 1000000000000 := by omega
  have HC := hid hcell
  have HN := hid hnil
  clear hcell hnil hcm
  go_enter Try.func86, Try.ntmps86
  go_wp2
  go_loop [7] (fun iv => ∃ i : Nat, i ≤ l.length ∧ iv = .int .i64 i ∧ Hid ((l.take i).all (fun x => decide (x < big)) = true)) (fun iv => l.length - (intOf iv).toNat)
  case atStart => exact ⟨0, by omega, rfl, hid rfl⟩
  case round =>
    obtain ⟨i, hi, rfl, hI⟩ := hrel
    by_cases hlt : i < l.length
    · obtain ⟨b, o, rfl⟩ : ∃ b o, a = some ⟨b, o, none⟩ := by
        cases a with
        | none => have := HN.out rfl; omega
        | some ad => obtain ⟨h1, _⟩ := HC.out ad rfl; exact ⟨ad.block, ad.off, by cases ad; simp only at h1; subst h1; rfl⟩
      have hc := (HC.out _ rfl).2 i l[i] (List.getElem?_eq_getElem hlt)
      have hx : l[i]? = some l[i] := List.getElem?_eq_getElem hlt
      generalize l[i] = x at *
      have hc' : w.cell? ⟨b, o + i, none⟩ = some (.int .u64 x.toNat) := hc
      have HX := hid hx
      clear hc hx
      obtain ⟨pb, hpb⟩ : ∃ pb : Int, pb = 18446744069414584321 := ⟨_, rfl⟩
      by_cases hb : x < big
      · have hbi := (lt_big_iff x).1 hb
        have hB := hid hb
        clear hb
        have hd : decide ((18446744069414584321 : Int) ≤ (x.toNat : Int)) = false := by simp; omega
        clear hbi hpb
        go_wp2
        go_round
        case rel => exact ⟨i + 1, by omega, by go_num, hid (allE_snoc HX.out hI.out hB.out)⟩
        case measure => simp [intOf]; omega
      · have hbi : ¬ (x.toNat : Int) < 18446744069414584321 := fun h => hb ((lt_big_iff x).2 h)
        have hfin := allE_bad HX.out hb
        have HF := hid hfin
        have hd : decide ((18446744069414584321 : Int) ≤ (x.toNat : Int)) = true := by simp; omega
        clear hbi hb hfin hpb
        go_wp2
        go_ret
        exact ⟨ret_bool HF.out.symm, rfl⟩
    · have hfin : allE l = true := by
        have := hI.out
        rwa [List.take_of_length_le (by omega)] at this
      have HF := hid hfin
      clear hfin
      go_wp2
      go_ret
      exact ⟨ret_bool HF.out.symm, rfl⟩

/-! ## copied -/
/-- A new list that reads as l, nothing else turned. -/
def NewU (w : World) (l : List UInt64) (e : Ending) (w' : World) : Prop := ∃ v, e = .returned v ∧ OwnU w' v l ∧ Ext w w' ∧ (∀ k, blk v = some k → w.heap.size ≤ k)
set_option maxHeartbeats 400000 in
theorem copied_any (lv : Value) (l : List UInt64) (w : World) (hl : RdU w lv l) (hL : l.length ≤ 1000000000000) :
    Calls Try.prog 89 #[lv] w (NewU w l) := by
  obtain ⟨i0, hi, hz0, hz1, hz2⟩ := info_parts Try.infoU
  go_enter Try.func89, Try.ntmps89
  go_wp2_with (at_builtin; refine wpList_app rfl _ _ 24 rfl 28 i0 (.int .u64 0) 1 8 Try.underlying24 hi hz0 hz1 hz2 rfl (by decide) _ 0 [] rfl (World.ownsRow_nil _ _ _ _) _ l.length (us l) rfl hl.rdc (by simp) (us_one l) (by unfold maxLen; omega) (by omega) ?_)
  intro v' w1 hown0 hk hb
  have hown : OwnU w1 v' l := by simpa using hown0
  clear hown0
  have hE := hk.toExt (by intro k h; simp [Value.ownBlock] at h)
  have hfr : ∀ k, blk v' = some k → w.heap.size ≤ k := by
    intro k h
    rcases hb with hb | hb
    · rw [hb] at h; simp [Value.ownBlock] at h
    · rw [hb] at h; simp at h; omega
  have H1 := hid hown
  have H2 := hid hE
  have H3 := hid hfr
  clear hown hk hb hE hfr
  go_wp2
  go_ret
  exact ⟨v', rfl, H1.out, H2.out, H3.out⟩

/-! ## appendNumber -/
abbrev bs (l : List UInt8) : List Value := l.map fun x => Value.int .u8 (x.toNat : Int)
abbrev OwnB (w : World) (v : Value) (l : List UInt8) : Prop := w.ownsRow 0 5 1 v l.length (bs l)
def leB : Nat → UInt64 → List UInt8
  | 0, _ => []
  | n + 1, x => x.toUInt8 :: leB n (x / 256)
theorem leB_length (n : Nat) (x : UInt64) : (leB n x).length = n := by
  induction n generalizing x with
  | zero => rfl
  | succ n ih => simp [leB, ih]
def lenOk (n k : Nat) : Prop := n ≤ 100000000000000 + k
/-- The list has become m, in the old block or in a new one. -/
def MoreB (w : World) (v : Value) (m : List UInt8) (e : Ending) (w' : World) : Prop :=
  ∃ v', e = .returned v' ∧ OwnB w' v' m ∧ Kp (fun k => some k = blk v) w w' ∧ (blk v' = blk v ∨ ∃ k, blk v' = some k ∧ w.heap.size ≤ k)
theorem byte_of (x : UInt64) : IntKind.u8.wrap (x.toNat : Int) = ((x.toUInt8).toNat : Int) := by
  rw [IntKind.wrap_u8, UInt64.toNat_toUInt8]; omega
theorem div_of (x : UInt64) : (x.toNat : Int) / 256 = ((x / 256).toNat : Int) := by
  rw [UInt64.toNat_div]; rfl

set_option maxRecDepth 5000 in
set_option maxHeartbeats 1000000 in
theorem appendNumber_any (v : Value) (l : List UInt8) (x : UInt64) (w : World) (hown : OwnB w v l) (hL : l.length ≤ 100000000000000) :
    Calls Try.prog 133 #[v, .int .u64 x.toNat] w (MoreB w v (l ++ leB 8 x)) := by
  obtain ⟨i0, hi, hz0, hz1, hz2⟩ := info_parts Try.infoB
  obtain ⟨T, hT⟩ : ∃ T, T = l ++ leB 8 x := ⟨_, rfl⟩
  rw [← hT]
  have HT := hid hT
  have HO := hid hown
  clear hT hown
  go_enter Try.func133, Try.ntmps133
  go_wp2
  go_loopw [0, 1, 5] (fun vv xv kv wr => ∃ (k : Nat) (y : UInt64) (cur : List UInt8), k ≤ 8 ∧ kv = .int .i64 k ∧ xv = .int .u64 y.toNat ∧ Hid (cur ++ leB (8 - k) y = T) ∧ lenOk cur.length k ∧ OwnB wr vv cur ∧ Kp (fun k => some k = blk v) w wr ∧ (blk vv = blk v ∨ ∃ k, blk vv = some k ∧ w.heap.size ≤ k)) (fun _ _ kv _ => 8 - (intOf kv).toNat)
  case atStart => exact ⟨0, x, l, by omega, rfl, rfl, hid HT.out.symm, by unfold lenOk; omega, HO.out, Kp.refl _ _, .inl rfl⟩
  case round =>
    obtain ⟨k, y, cur, hk, rfl, rfl, hcur, hlen0, how, hkp, hbl⟩ := hrel
    have H1 := hid how
    have H2 := hid hkp
    have H3 := hid hbl
    clear how hkp hbl
    by_cases hlt : k < 8
    · obtain ⟨c, hc⟩ : ∃ c, c = y.toUInt8 := ⟨_, rfl⟩
      obtain ⟨z, hz⟩ : ∃ z, z = y / 256 := ⟨_, rfl⟩
      have hcv := byte_of y
      have hzv := div_of y
      rw [← hc] at hcv
      rw [← hz] at hzv
      have HC := hid hc
      have HZ := hid hz
      clear hc hz
      have hlen : cur.length ≤ 100000000000000 + k := hlen0
      have hb1 : cur.length + 1 ≤ maxLen := by unfold maxLen; omega
      have hb2 : (cur.length + 1) * 1 ≤ 140737488355328 := by omega
      have hone : ∀ u ∈ [Value.int .u8 (c.toNat : Int)], u.oneCell' = true := by simp [Value.oneCell']
      have B1 := hid hb1
      have B2 := hid hb2
      have B3 := hid hone
      clear hb1 hb2 hone hlen hL
      go_wp2_with (at_builtin; refine wpList_app rfl _ _ 194 rfl 5 i0 (.int .u8 0) 1 1 Try.underlying194 hi hz0 hz1 hz2 rfl (by decide) _ cur.length (bs cur) rfl (ownsRow_ext H1.out ((Ext.refl _).alloc _)) _ 1 [.int .u8 c.toNat] rfl (RdC.new1 _ _ _) rfl B3.out B1.out B2.out ?_)
      intro v' w1 hown0 hk2 hb
      have hown : OwnB w1 v' (cur ++ [c]) := by
        show w1.ownsRow 0 5 1 v' (cur ++ [c]).length (bs (cur ++ [c]))
        rw [show (cur ++ [c]).length = cur.length + 1 from by simp, show bs (cur ++ [c]) = bs cur ++ [.int .u8 c.toNat] from by simp]
        exact hown0
      have hk3 : Kp (fun k => some k = blk v) w w1 := by
        refine (H2.out.alloc (.cells #[.int .u8 c.toNat] 5)).trans2 hk2 fun i hi he => ?_
        rcases H3.out with h | ⟨j, hj, hjl⟩
        · rw [← h]; exact he
        · rw [hj] at he; injection he with he; omega
      have hb3 : blk v' = blk v ∨ ∃ k, blk v' = some k ∧ w.heap.size ≤ k := by
        rcases hb with hb | hb
        · rw [hb]; exact H3.out
        · refine .inr ⟨_, hb, ?_⟩
          have := H2.out.size
          simp; omega
      have K1 := hid hown
      have K2 := hid hk3
      have K3 := hid hb3
      clear hown0 hown hk2 hb hk3 hb3
      go_wp2
      go_roundw
      case rel =>
        refine ⟨k + 1, z, cur ++ [c], by omega, by go_num, rfl, ?_, ?_, K1.out, K2.out, K3.out⟩
        · have := hcur.out
          rw [show 8 - k = (8 - (k + 1)) + 1 from by omega] at this
          rw [← this, HC.out, HZ.out]
          simp [leB, Hid]
        · unfold lenOk at *; simp; omega
      case measure => simp [intOf]; omega
    · have hk8 : k = 8 := by omega
      subst hk8
      have hfin : cur = T := by have := hcur.out; simpa [leB] using this
      have HF := hid hfin
      clear hfin
      go_wp2
      go_ret
      exact ⟨_, rfl, by rw [← HF.out]; exact H1.out, H2.out, H3.out⟩
end Go.Proofs.Ytdpgfjnpcjpdpaa
