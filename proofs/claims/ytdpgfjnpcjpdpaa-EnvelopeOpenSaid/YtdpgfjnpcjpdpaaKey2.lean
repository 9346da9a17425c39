/- key: the bytes of some numbers and a list; they determine both. -/
import Derived.Test.YtdpgfjnpcjpdpaaKey
namespace Go.Proofs.Ytdpgfjnpcjpdpaa
open Go.RowKit
attribute [local irreducible] perm fAdd fMul fPow fSub fNeg fRed

def cat (l : List UInt64) : List UInt8 := l.flatMap (leB 8)
def keyS (ns l : List UInt64) : ByteArray := ⟨(cat ns ++ cat l).toArray⟩
theorem cat_length (l : List UInt64) : (cat l).length = 8 * l.length := by
  induction l with
  | nil => rfl
  | cons x r ih => simp only [cat, List.flatMap_cons, List.length_append, leB_length, List.length_cons] at *; omega
theorem cat_snoc (l : List UInt64) (x : UInt64) : cat (l ++ [x]) = cat l ++ leB 8 x := by simp [cat]

theorem div_mod_256 {x y : UInt64} (h1 : x.toUInt8 = y.toUInt8) (h2 : x / 256 = y / 256) : x = y := by
  have e1 : x.toNat % 256 = y.toNat % 256 := by rw [← UInt64.toNat_toUInt8, ← UInt64.toNat_toUInt8, h1]
  have e2 : x.toNat / 256 = y.toNat / 256 := by
    have a := congrArg UInt64.toNat h2
    rw [UInt64.toNat_div, UInt64.toNat_div] at a; exact a
  apply UInt64.toNat_inj.1; omega
theorem leB_small : ∀ (n : Nat) (x y : UInt64), x.toNat < 256 ^ n → y.toNat < 256 ^ n → leB n x = leB n y → x = y
  | 0, x, y, hx, hy, _ => by apply UInt64.toNat_inj.1; simp at hx hy; rw [hx, hy]
  | n + 1, x, y, hx, hy, h => by
    simp only [leB, List.cons.injEq] at h
    refine div_mod_256 h.1 (leB_small n _ _ ?_ ?_ h.2)
    · rw [UInt64.toNat_div]; show x.toNat / 256 < _; rw [Nat.pow_succ] at hx; omega
    · rw [UInt64.toNat_div]; show y.toNat / 256 < _; rw [Nat.pow_succ] at hy; omega
theorem leB_inj {x y : UInt64} (h : leB 8 x = leB 8 y) : x = y := leB_small 8 x y (by have := x.toNat_lt; omega) (by have := y.toNat_lt; omega) h
theorem cat_inj : ∀ {l m : List UInt64}, cat l = cat m → l = m
  | [], [], _ => rfl
  | [], y :: m, h => by have := congrArg List.length h; simp [cat_length] at this
  | x :: l, [], h => by have := congrArg List.length h; simp [cat_length] at this
  | x :: l, y :: m, h => by
    simp only [cat, List.flatMap_cons] at h
    have h2 := List.append_inj h (by simp [leB_length])
    rw [leB_inj h2.1, cat_inj (l := l) (m := m) h2.2]
theorem keyS_inj {ns ms l m : List UInt64} (hn : ns.length = ms.length) (h : keyS ns l = keyS ms m) : ns = ms ∧ l = m := by
  unfold keyS at h
  injection h with h
  have h1 : cat ns ++ cat l = cat ms ++ cat m := by simpa using congrArg Array.toList h
  have h2 := List.append_inj h1 (by simp [cat_length, hn])
  exact ⟨cat_inj h2.1, cat_inj h2.2⟩

set_option maxRecDepth 100000 in
theorem run_str (w : World) (v : Value) (l : List UInt8) (h : OwnB w v l) : (convert 194 9 v).run Try.prog w = .ok (.string ⟨l.toArray⟩) w := by
  have hd : Try.prog.underlying 9 = some .string := Try.underlying9
  rcases h.2 with ⟨rfl, h0⟩ | ⟨g, cap, cur, rfl, _, hg, hnc, _⟩
  · rw [run_convert_bytes_nil w _ _ Try.underlying194 Try.underlying5 _ _ _ hd]
    obtain rfl : l = [] := List.eq_nil_of_length_eq_zero h0
    simp [ByteArray.empty, ByteArray.emptyWithCapacity]
    rfl
  · have hr := run_convert_bytes_arg (P := Try.prog) w 194 5 Try.underlying194 Try.underlying5 g 0 l.length cap (l.map fun x => (x.toNat : Int)) (by simp) (fun i hi => by
      have hget : (bs l)[i]? = some (.int .u8 ((l[i]).toNat : Int)) := by rw [List.getElem?_map, List.getElem?_eq_getElem hi]; rfl
      have h2 := h.cells (g := g) rfl i _ hget
      rw [Addr.add_lit] at h2
      rw [h2, List.getD_eq_getElem?_getD, List.getElem?_map, List.getElem?_eq_getElem hi]; rfl) _ hd
    rw [hr]
    congr 2
    unfold strOfNums
    congr 1
    rw [List.map_map]
    congr 1
    refine (List.map_congr_left (g := id) fun x _ => ?_).trans (List.map_id l)
    show UInt8.ofNat ((x.toNat : Int)).toNat = x
    rw [Int.toNat_natCast]
    exact UInt8.ofNat_toNat

abbrev NewOf (w : World) (v : Value) : Prop := ∃ k, blk v = some k ∧ w.heap.size ≤ k
def lenK (a b : Nat) : Prop := a ≤ 8 * b
set_option maxRecDepth 100000 in
set_option maxHeartbeats 1000000 in
theorem key_any (lv nv : Value) (l ns : List UInt64) (w : World) (hl : RdU w lv l) (hn : RdU w nv ns) (hL : l.length ≤ 1000000000000) (hN : ns.length ≤ 1000) :
    Calls Try.prog 110 #[lv, nv] w fun e w' => e = .returned (.string (keyS ns l)) ∧ Ext w w' := by
  obtain ⟨i0, hi, hz0, hz1, hz2⟩ := info_parts Try.infoB
  have hl0 := hid hl
  have hn0 := hid hn
  obtain ⟨a1, c1, rfl, hlc1, hcm1, hnil1, hcell1⟩ := hl
  obtain ⟨a2, c2, rfl, hlc2, hcm2, hnil2, hcell2⟩ := hn
  have hL1 : (l.length : Int) ≤ 1000000000000 := by omega
  have hN1 : (ns.length : Int) ≤ 1000 := by omega
  have HC1 := hid hcell1
  have HC2 := hid hcell2
  have HI1 := hid hnil1
  have HI2 := hid hnil2
  clear hcell1 hcell2 hnil1 hnil2 hcm1 hcm2
  have hb1 : i0.bytes * (8 * (ns.length + l.length)) ≤ 281474976710656 := by rw [hz2]; omega
  have hb2 : 8 * (ns.length + l.length) ≤ maxLen := by unfold maxLen; omega
  have hb3 : 8 * ((ns.length : Int) + (l.length : Int)) = ((8 * (ns.length + l.length) : Nat) : Int) := by omega
  have B1 := hid hb1
  have B2 := hid hb2
  have B3 := hid hb3
  clear hb1 hb2 hb3
  go_enter Try.func110, Try.ntmps110
  go_wp2_with (at_make; refine wpList_make_own _ rfl _ _ 194 rfl 0 5 i0 (.int .u8 0) 1 Try.underlying194 hi hz0 hz1 _ _ _ (8 * (ns.length + l.length)) rfl rfl B3.out B1.out B2.out (Nat.zero_le _) ?_)
  intro w1 hown0 hg
  have hown : OwnB w1 (.slice (some ⟨w.heap.size, 0, none⟩) 0 (8 * (ns.length + l.length))) [] := hown0
  have hE : Ext w w1 := (grown_kp hg).toExt (by intro k h; cases h)
  have hnew : NewOf w (.slice (some ⟨w.heap.size, 0, none⟩) 0 (8 * (ns.length + l.length))) := ⟨_, rfl, Nat.le_refl _⟩
  have H1 := hid hown
  have H2 := hid hE
  have H3 := hid hnew
  clear hown0 hown hg hE hnew
  go_wp2
  go_loopw [5, 19] (fun bv iv wr => ∃ i : Nat, i ≤ ns.length ∧ iv = .int .i64 i ∧ OwnB wr bv (cat (ns.take i)) ∧ Ext w wr ∧ NewOf w bv) (fun _ iv _ => ns.length - (intOf iv).toNat)
  case atStart => exact ⟨0, by omega, rfl, H1.out, H2.out, H3.out⟩
  case round =>
    obtain ⟨i, hin, rfl, how, hE, hnew⟩ := hrel
    have G1 := hid how
    have G2 := hid hE
    have G3 := hid hnew
    clear how hE hnew
    by_cases hlt : i < ns.length
    · obtain ⟨b, o, rfl⟩ : ∃ b o, a2 = some ⟨b, o, none⟩ := by
        cases a2 with
        | none => have := HI2.out rfl; omega
        | some ad => obtain ⟨h1, _⟩ := HC2.out ad rfl; exact ⟨ad.block, ad.off, by cases ad; simp only at h1; subst h1; rfl⟩
      have hx : ns[i]? = some ns[i] := List.getElem?_eq_getElem hlt
      have hc : wr.cell? ⟨b, o + i, none⟩ = some (.int .u64 (ns[i]).toNat) := G2.out.cell_some ((HC2.out _ rfl).2 i ns[i] hx)
      have htk : ns.take (i + 1) = ns.take i ++ [ns[i]] := by rw [List.take_add_one, hx]; rfl
      generalize ns[i] = x at *
      have HTK := hid htk
      have hlen : (cat (ns.take i)).length ≤ 100000000000000 := by rw [cat_length, List.length_take]; omega
      have HLEN := hid hlen
      clear hx htk hlen
      go_wp2_with fail
      refine (appendNumber_any _ _ x _ G1.out HLEN.out).mono ?_
      rintro e w2 ⟨v2, rfl, ho2, hk2, hb2⟩
      have hE2 : Ext w w2 := G2.out.kp hk2 (by
        intro k h
        obtain ⟨k', h1, h2⟩ := G3.out
        rw [h1] at h; injection h with h; omega)
      have hn2 : NewOf w v2 := by
        rcases hb2 with h | ⟨k, h1, h2⟩
        · rw [NewOf, h]; exact G3.out
        · exact ⟨k, h1, Nat.le_trans G2.out.size h2⟩
      have K1 := hid ho2
      have K2 := hid hE2
      have K3 := hid hn2
      clear ho2 hk2 hb2 hE2 hn2 hc
      go_wp2
      go_roundw
      case rel => exact ⟨i + 1, by omega, by go_num, by rw [HTK.out, cat_snoc]; exact K1.out, K2.out, K3.out⟩
      case measure => simp [intOf]; omega
    · have G4 : Hid (OwnB wr u5 (cat ns)) := by
        have := G1.out
        rw [List.take_of_length_le (by omega)] at this; exact this
      clear G1
      have HW := G2
      have HV := G3
      clear G2 G3
      go_wp2_with fail
      clear hlt
      obtain ⟨wo, rfl⟩ : ∃ wo : World, wo = wr := ⟨_, rfl⟩
      go_loopw [5, 29] (fun bv iv wr => ∃ i : Nat, i ≤ l.length ∧ iv = .int .i64 i ∧ OwnB wr bv (cat ns ++ cat (l.take i)) ∧ Ext w wr ∧ NewOf w bv) (fun _ iv _ => l.length - (intOf iv).toNat)
      case atStart => exact ⟨0, by omega, rfl, by simpa [cat] using G4.out, HW.out, HV.out⟩
      case round =>
        obtain ⟨j, hjn, rfl, how, hE, hnew⟩ := hrel
        have G1 := hid how
        have G2 := hid hE
        have G3 := hid hnew
        clear how hE hnew G4
        by_cases hlt : j < l.length
        · obtain ⟨b, o, rfl⟩ : ∃ b o, a1 = some ⟨b, o, none⟩ := by
            cases a1 with
            | none => have := HI1.out rfl; omega
            | some ad => obtain ⟨h1, _⟩ := HC1.out ad rfl; exact ⟨ad.block, ad.off, by cases ad; simp only at h1; subst h1; rfl⟩
          have hx : l[j]? = some l[j] := List.getElem?_eq_getElem hlt
          have hc : wr.cell? ⟨b, o + j, none⟩ = some (.int .u64 (l[j]).toNat) := G2.out.cell_some ((HC1.out _ rfl).2 j l[j] hx)
          have htk : l.take (j + 1) = l.take j ++ [l[j]] := by rw [List.take_add_one, hx]; rfl
          generalize l[j] = x at *
          have HTK := hid htk
          have hlen : (cat ns ++ cat (l.take j)).length ≤ 100000000000000 := by rw [List.length_append, cat_length, cat_length, List.length_take]; omega
          have HLEN := hid hlen
          clear hx htk hlen
          go_wp2_with fail
          refine (appendNumber_any _ _ x _ G1.out HLEN.out).mono ?_
          rintro e w2 ⟨v2, rfl, ho2, hk2, hb2⟩
          have hE2 : Ext w w2 := G2.out.kp hk2 (by
            intro k h
            obtain ⟨k', h1, h2⟩ := G3.out
            rw [h1] at h; injection h with h; omega)
          have hn2 : NewOf w v2 := by
            rcases hb2 with h | ⟨k, h1, h2⟩
            · rw [NewOf, h]; exact G3.out
            · exact ⟨k, h1, Nat.le_trans G2.out.size h2⟩
          have K1 := hid ho2
          have K2 := hid hE2
          have K3 := hid hn2
          clear ho2 hk2 hb2 hE2 hn2 hc
          go_wp2
          go_roundw
          case rel => exact ⟨j + 1, by omega, by go_num, by rw [HTK.out, cat_snoc, ← List.append_assoc]; exact K1.out, K2.out, K3.out⟩
          case measure => simp [intOf]; omega
        · have G5 : Hid (OwnB wr u5 (cat ns ++ cat l)) := by
            have := G1.out
            rw [List.take_of_length_le (by omega)] at this; exact this
          have hcv := run_str wr _ _ G5.out
          have hks : (⟨(cat ns ++ cat l).toArray⟩ : ByteArray) = keyS ns l := rfl
          rw [hks] at hcv
          clear G1 G5 hks
          go_wp2
          go_ret
          exact ⟨rfl, G2.out⟩
end Go.Proofs.Ytdpgfjnpcjpdpaa
