/- Keys of a wallet by the reference: moidoreref33's Spend, View, Owner. -/
import Derived.Test.YtgfmjfkdogcnhaaGreatKeys
import Derived.Test.YtgfmjfkdogcnhaaGreatRec
import Derived.Test.YtgfmjfkdogcnhaaGreatRefHash
set_option linter.unusedSimpArgs false
namespace Go.Proofs.YtgfmjfkdogcnhaaGreat
open Go.RowKit
attribute [local irreducible] perm fAdd fMul fPow fSub fNeg fRed hashU drawOf nextState
theorem rNumber_any (n : Int) (w : World) : Calls Tryz.prog 37 #[.int .i64 n] w fun e w' => e = .returned (.bool (isNumK n)) ∧ Ext w w' := by
  unfold isNumK
  by_cases h0 : 0 ≤ n
  · by_cases h4 : n < 4
    · have d0 : decide (0 ≤ n) = true := by simp [h0]
      have d4 : decide (n < 4) = true := by simp [h4]
      rw [d0, d4]
      go_enter Tryz.func37, Tryz.ntmps37
      go_wp2_with fail
      go_ret
      exact ⟨rfl, Ext.refl _⟩
    · have d0 : decide (0 ≤ n) = true := by simp [h0]
      have d4 : decide (n < 4) = false := by simp [h4]
      rw [d0, d4]
      go_enter Tryz.func37, Tryz.ntmps37
      go_wp2_with fail
      go_ret
      exact ⟨rfl, Ext.refl _⟩
  · have d0 : decide (0 ≤ n) = false := by simp [h0]
    rw [d0, Bool.false_and]
    go_enter Tryz.func37, Tryz.ntmps37
    go_wp2_with fail
    go_ret
    exact ⟨rfl, Ext.refl _⟩
set_option maxRecDepth 100000 in
set_option maxHeartbeats 3200000 in
theorem rKeysHash_any (label : UInt64) (lv : Value) (l : List UInt64) (w : World) (hl : RdU w lv l) (hL : l.length ≤ 1000000000) :
    Calls Tryz.prog 66 #[uv label, lv] w fun e w' => e = .returned (uv (hashU label l)) ∧ Ext w w' := by
  have HL := hid hl
  obtain ⟨la, lc, rfl, -⟩ := hl
  obtain ⟨i0, hi1, hz0, hz1, hz2⟩ := info_parts Tryz.infoU
  have HI1 := hid (And.intro hi1 (And.intro hz0 (And.intro hz1 hz2)))
  have HOW : Hid (OwnU (w.alloc (.cells #[] 22)) (.slice (some ⟨w.heap.size, 0, none⟩) 0 0) []) := hid ⟨rfl, .inr ⟨w.heap.size, 0, #[], rfl, Nat.zero_le _, heap_new _ _, Nat.le_refl _, Nat.zero_le _, rfl, rfl⟩⟩
  have hx0 := hid ((Ext.refl w).alloc (.cells #[] 22))
  clear hi1 hz0 hz1 hz2
  go_enter Tryz.func66, Tryz.ntmps66
  go_wp2_with fail
  go_loopw [5, 6] (fun xv iv wr => ∃ (i : Nat) (m : List UInt64) (xa : Option Addr) (xc : Nat), i ≤ l.length ∧ iv = .int .i64 i ∧ xv = .slice xa m.length xc ∧ Hid (m = (l.take i).map fRed) ∧ Hid (OwnU wr (.slice xa m.length xc) m) ∧ Hid (Ext w wr) ∧ Hid (∀ t, blk (.slice xa m.length xc) = some t → w.heap.size ≤ t)) (fun _ iv _ => l.length - (intOf iv).toNat)
  case atStart => exact ⟨0, [], some ⟨w.heap.size, 0, none⟩, 0, by omega, rfl, rfl, hid rfl, HOW, hx0, hid (fun t h => by first | (simp [Value.ownBlock] at h; omega) | (simp [Value.ownBlock] at h) | (have h' : some w.heap.size = some t := h; injection h' with h'; omega))⟩
  case round =>
    obtain ⟨i, m, xa, xc, hi, rfl, rfl, HM, HO, HX, HN⟩ := hrel
    by_cases hlt : i < l.length
    · have hltB : decide ((i : Int) < (l.length : Int)) = true := by simp; omega
      obtain ⟨x, hx⟩ : ∃ x, l[i]? = some x := ⟨_, List.getElem?_eq_getElem hlt⟩
      obtain ⟨b, o, rfl, hcx⟩ := (HL.out.ext HX.out).at hx
      have hxi := hid hx
      have hil : (i : Int) < (l.length : Int) := by omega
      have hi0 : (0 : Int) ≤ (i : Int) := Int.natCast_nonneg _
      have hm : ((x.toNat : Int)).tmod 18446744069414584321 = ((fRed x).toNat : Int) := by rw [Int.tmod_eq_emod_of_nonneg (Int.natCast_nonneg _), fRed_toNat]; rfl
      have hml : m.length = i := by rw [HM.out, List.length_map, List.length_take]; omega
      have HML := hid hml
      have HOWNA := hid (ownsRow_ext HO.out ((Ext.refl wr).alloc (.cells #[uv (fRed x)] 22)))
      have hone : ∀ u ∈ [uv (fRed x)], u.oneCell' = true := by simp [Value.oneCell']
      have hm1 : m.length + 1 ≤ maxLen := by unfold maxLen; omega
      have HM1 := hid hm1
      have HML2 : Hid (m.length ≤ 1000000000) := hid (by omega)
      clear hx hml hm1
      go_wp2_with (at_builtin; refine wpList_app rfl _ _ 26 rfl 22 i0 (.int .u64 0) 1 8 Tryz.underlying26 HI1.out.1 HI1.out.2.1 HI1.out.2.2.1 HI1.out.2.2.2 rfl (by decide) (.slice xa m.length xc) m.length (us m) rfl HOWNA.out _ 1 [uv (fRed x)] rfl (RdC.new1 _ _ _) rfl hone (by have := HML2.out; unfold maxLen; omega) (by have := HML2.out; omega) ?_)
      intro v' w5 hown0 hk hb
      have hown : OwnU w5 v' (m ++ [fRed x]) := by
        show w5.ownsRow 0 22 1 v' (m ++ [fRed x]).length (us (m ++ [fRed x]))
        rw [show (m ++ [fRed x]).length = m.length + 1 from by simp, show us (m ++ [fRed x]) = us m ++ [uv (fRed x)] from by simp]
        exact hown0
      have hx5 : Ext w w5 := ((HX.out.alloc (.cells #[uv (fRed x)] 22))).kp hk (fun k h => HN.out k h.symm)
      have hn5 : ∀ t, blk v' = some t → w.heap.size ≤ t := by
        intro t ht
        have := HX.out.size
        rcases hb with h | h
        · exact HN.out t (by rw [← h]; exact ht)
        · rw [h] at ht; simp at ht; omega
      obtain ⟨xa', xc', rfl, -⟩ := ownsRow_rd hown
      obtain ⟨m', hm'⟩ : ∃ m', m' = m ++ [fRed x] := ⟨_, rfl⟩
      rw [← hm'] at hown hn5
      have HM' : Hid (m' = (l.take (i + 1)).map fRed) := hid (by rw [hm', HM.out, List.take_add_one, hxi.out]; simp)
      have hlen : m'.length = m.length + 1 := by rw [hm']; simp
      rw [show (m ++ [fRed x]).length = m'.length by rw [hm']]
      have HO' := hid hown
      have HX' := hid hx5
      have HN' := hid hn5
      clear hown0 hown hk hb hx5 hn5 hm' hlen hone hm HOWNA
      go_wp2_with fail
      go_roundw
      case rel => exact ⟨i + 1, m', xa', xc', by omega, by go_num, rfl, HM', HO', HX', HN'⟩
      case measure => simp [intOf]; omega
    · obtain rfl : i = l.length := by omega
      have hltB : decide ((l.length : Int) < (l.length : Int)) = false := by simp
      have hm : m = l.map fRed := by have := HM.out; rwa [List.take_length] at this
      have hlm : m.length = l.length := by rw [hm, List.length_map]
      have h := rHash_any _ isBig label (.slice xa m.length xc) m wr (OwnU.rdu HO.out) (by omega)
      have hk : hashU label m = hashU label l := by rw [hm, hashU_red]
      rw [hk] at h
      obtain ⟨k, hk0⟩ : ∃ k, k = hashU label l := ⟨_, rfl⟩
      rw [← hk0] at h
      have HH := hid h
      have HK := hid hk0
      clear h hk hm hlm hk0
      go_wp2_with fail
      refine (HH.out).mono ?_
      rintro e w6 ⟨rfl, hx⟩
      have HX6 := hid (HX.out.trans hx)
      clear hx HH
      go_wp2_with fail
      go_ret
      exact ⟨by rw [← HK.out]; rfl, HX6.out⟩
theorem rkSpend_any (seed : UInt64) (w : World) : Calls Tryz.prog 33 #[uv seed] w fun e w' => e = .returned (uv (kSpend seed)) ∧ Ext w w' := by
  have hrd : RdU (w.alloc (.cells #[uv seed] 22)) (.slice (some ⟨w.heap.size, 0, none⟩) 1 1) [seed] := (RdC.block (heap_new w _) (n := 1) (by unfold maxLen; omega)).rdu rfl
  have HH := hid (rKeysHash_any 8 _ [seed] _ hrd (by simp))
  obtain ⟨k, hk⟩ : ∃ k, k = kSpend seed := ⟨_, rfl⟩
  have hk2 : hashU 8 [seed] = k := by rw [hk]; rfl
  rw [hk2] at HH
  rw [← hk]
  clear hrd hk hk2
  go_enter Tryz.func33, Tryz.ntmps33
  go_wp2_with fail
  refine (HH.out).mono ?_
  rintro e w1 ⟨rfl, hx⟩
  have HX1 := hid (((Ext.refl w).alloc _).trans hx)
  clear hx HH
  go_wp2_with fail
  go_ret
  exact ⟨rfl, HX1.out⟩
theorem rkView_in (seed : UInt64) (m : Nat) (hm : m < 4) (w : World) : Calls Tryz.prog 31 #[uv seed, .int .i64 (m : Int)] w fun e w' => e = .returned (uv (hashU 10 [seed, UInt64.ofNat m])) ∧ Ext w w' := by
  have hN : isNumK (m : Int) = true := by unfold isNumK; simp; omega
  have hmm : ((UInt64.ofNat m).toNat : Int) = (m : Int) := by simp; omega
  have hwr : IntKind.u64.wrap (m : Int) = (m : Int) := by rw [← hmm]; exact wrap_u _
  have HN := hid (rNumber_any (m : Int) w)
  rw [hN] at HN
  have HH : Hid (∀ v : World, Calls Tryz.prog 66 #[.int .u64 10, .slice (some ⟨v.heap.size, 0, none⟩) 2 2] (v.alloc (.cells #[uv seed, .int .u64 (m : Int)] 22)) fun e w' => e = .returned (uv (hashU 10 [seed, UInt64.ofNat m])) ∧ Ext (v.alloc (.cells #[uv seed, .int .u64 (m : Int)] 22)) w') := hid fun v => by
    have hrd : RdU (v.alloc (.cells #[uv seed, uv (UInt64.ofNat m)] 22)) (.slice (some ⟨v.heap.size, 0, none⟩) 2 2) [seed, UInt64.ofNat m] := (RdC.block (heap_new v _) (n := 2) (by unfold maxLen; omega)).rdu rfl
    have h := rKeysHash_any 10 _ [seed, UInt64.ofNat m] _ hrd (by simp)
    rw [show uv (UInt64.ofNat m) = .int .u64 (m : Int) by unfold uv; rw [hmm]] at h
    exact h
  generalize hashU 10 [seed, UInt64.ofNat m] = k at *
  clear hN hmm
  go_enter Tryz.func31, Tryz.ntmps31
  go_wp2_with fail
  refine (HN.out).mono ?_
  rintro e w1 ⟨rfl, hx⟩
  have HX1 := hid hx
  clear hx HN
  go_wp2_with fail
  refine (HH.out _).mono ?_
  rintro e w2 ⟨rfl, hx⟩
  have HX2 := hid ((HX1.out.alloc _).trans hx)
  clear hx HH
  go_wp2_with fail
  go_ret
  exact ⟨rfl, HX2.out⟩
theorem rkView_any (seed : UInt64) (n : Int) (w : World) : Calls Tryz.prog 31 #[uv seed, .int .i64 n] w fun e w' => e = .returned (uv (kView seed n)) ∧ Ext w w' := by
  unfold kView
  by_cases h : isNumK n = true
  · rw [if_pos h]
    obtain ⟨m, rfl⟩ : ∃ m : Nat, n = (m : Int) := ⟨n.toNat, by unfold isNumK at h; simp at h; omega⟩
    exact rkView_in seed m (by unfold isNumK at h; simp at h; omega) w
  · rw [if_neg h]
    have HN := hid (rNumber_any n w)
    rw [Bool.not_eq_true] at h
    rw [h] at HN
    clear h
    go_enter Tryz.func31, Tryz.ntmps31
    go_wp2_with fail
    refine (HN.out).mono ?_
    rintro e w1 ⟨rfl, hx⟩
    have HX1 := hid hx
    clear hx HN
    go_wp2_with fail
    go_ret
    exact ⟨rfl, HX1.out⟩
theorem rkOwner_in (key : UInt64) (m : Nat) (hm : m < 4) (w : World) : Calls Tryz.prog 32 #[uv key, .int .i64 (m : Int)] w fun e w' => e = .returned (uv (hashU 1 [key, UInt64.ofNat m])) ∧ Ext w w' := by
  have hN : isNumK (m : Int) = true := by unfold isNumK; simp; omega
  have hmm : ((UInt64.ofNat m).toNat : Int) = (m : Int) := by simp; omega
  have hwr : IntKind.u64.wrap (m : Int) = (m : Int) := by rw [← hmm]; exact wrap_u _
  have HN := hid (rNumber_any (m : Int) w)
  rw [hN] at HN
  have HH : Hid (∀ v : World, Calls Tryz.prog 66 #[.int .u64 1, .slice (some ⟨v.heap.size, 0, none⟩) 2 2] (v.alloc (.cells #[uv key, .int .u64 (m : Int)] 22)) fun e w' => e = .returned (uv (hashU 1 [key, UInt64.ofNat m])) ∧ Ext (v.alloc (.cells #[uv key, .int .u64 (m : Int)] 22)) w') := hid fun v => by
    have hrd : RdU (v.alloc (.cells #[uv key, uv (UInt64.ofNat m)] 22)) (.slice (some ⟨v.heap.size, 0, none⟩) 2 2) [key, UInt64.ofNat m] := (RdC.block (heap_new v _) (n := 2) (by unfold maxLen; omega)).rdu rfl
    have h := rKeysHash_any 1 _ [key, UInt64.ofNat m] _ hrd (by simp)
    rw [show uv (UInt64.ofNat m) = .int .u64 (m : Int) by unfold uv; rw [hmm]] at h
    exact h
  generalize hashU 1 [key, UInt64.ofNat m] = k at *
  clear hN hmm
  go_enter Tryz.func32, Tryz.ntmps32
  go_wp2_with fail
  refine (HN.out).mono ?_
  rintro e w1 ⟨rfl, hx⟩
  have HX1 := hid hx
  clear hx HN
  go_wp2_with fail
  refine (HH.out _).mono ?_
  rintro e w2 ⟨rfl, hx⟩
  have HX2 := hid ((HX1.out.alloc _).trans hx)
  clear hx HH
  go_wp2_with fail
  go_ret
  exact ⟨rfl, HX2.out⟩
theorem rkOwner_any (key : UInt64) (n : Int) (w : World) : Calls Tryz.prog 32 #[uv key, .int .i64 n] w fun e w' => e = .returned (uv (kOwner key n)) ∧ Ext w w' := by
  unfold kOwner
  by_cases h : isNumK n = true
  · rw [if_pos h]
    obtain ⟨m, rfl⟩ : ∃ m : Nat, n = (m : Int) := ⟨n.toNat, by unfold isNumK at h; simp at h; omega⟩
    exact rkOwner_in key m (by unfold isNumK at h; simp at h; omega) w
  · rw [if_neg h]
    have HN := hid (rNumber_any n w)
    rw [Bool.not_eq_true] at h
    rw [h] at HN
    clear h
    go_enter Tryz.func32, Tryz.ntmps32
    go_wp2_with fail
    refine (HN.out).mono ?_
    rintro e w1 ⟨rfl, hx⟩
    have HX1 := hid hx
    clear hx HN
    go_wp2_with fail
    go_ret
    exact ⟨rfl, HX1.out⟩
end Go.Proofs.YtgfmjfkdogcnhaaGreat
