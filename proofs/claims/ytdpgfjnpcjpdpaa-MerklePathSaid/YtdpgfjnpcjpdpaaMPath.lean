/- MerklePath returns true for every list of levels. -/
import Derived.Test.YtdpgfjnpcjpdpaaAwk12
set_option linter.unusedSimpArgs false
namespace Go.Proofs.Ytdpgfjnpcjpdpaa
open Go.RowKit
attribute [local irreducible] perm fAdd fMul fPow fSub fNeg fRed hashU drawOf nextState awT

set_option maxRecDepth 100000 in
set_option maxHeartbeats 3200000 in
theorem MerklePath_any (lv : Value) (ls : Lv) (i : Int) (w : World) (hl : RdL w lv ls) : Calls Try.prog 3 #[lv, .int .i64 i] w fun e w' => e = .returned (.bool true) ∧ Ext w w' := by
  obtain ⟨a, c, rfl, hlc, hcm, -⟩ := hl.shape
  have HL := hid hl
  have HA := hid awake12_any
  clear hl hlc hcm
  by_cases h8 : 8 < ls.length
  · have hd : decide (8 < ls.length) = true := by simp; omega
    go_enter Try.func3, Try.ntmps3
    go_wp2_with fail
    refine (HA.out _).mono ?_
    rintro e w1 ⟨rfl, hx1⟩
    have HX1 := hid hx1
    clear hx1
    go_wp2_with fail
    refine (HA.out _).mono ?_
    rintro e w2 ⟨rfl, hx2⟩
    have HX2 := hid hx2
    clear hx2
    go_wp2_with fail
    go_ret
    exact ⟨rfl, HX1.out.trans HX2.out⟩
  · have hd : decide (8 < ls.length) = false := by simp; omega
    go_enter Try.func3, Try.ntmps3
    go_wp2_with fail
    refine (HA.out _).mono ?_
    rintro e w1 ⟨rfl, hx1⟩
    have HX1 := hid hx1
    have hl1 := HL.out.ext hx1
    have HL1 := hid hl1
    clear hx1 hl1
    go_wp2_with fail
    go_loop [18] (fun iv => ∃ k : Nat, k ≤ ls.length ∧ iv = .int .i64 k ∧ Hid (∀ j, j < k → ∀ l, ls[j]? = some l → l.length ≤ 64)) (fun iv => ls.length - (intOf iv).toNat)
    case atStart => exact ⟨0, by omega, rfl, hid (fun j hj => by omega)⟩
    case round =>
      obtain ⟨k, hk, rfl, hI⟩ := hrel
      by_cases hlt : k < ls.length
      · obtain ⟨l, hkk⟩ : ∃ l, ls[k]? = some l := ⟨_, List.getElem?_eq_getElem hlt⟩
        obtain ⟨b, o, y, d, rfl, hc, -, -⟩ := HL1.out.at hkk
        have HKK := hid hkk
        have hk0 : (0 : Int) ≤ (k : Int) := by omega
        clear hkk
        by_cases h64 : 64 < l.length
        · have hd2 : decide (64 < l.length) = true := by simp; omega
          go_wp2_with fail
          go_ret
          exact ⟨rfl, HX1.out⟩
        · have hd2 : decide (64 < l.length) = false := by simp; omega
          have H64 := hid h64
          go_wp2_with fail
          go_round
          case rel =>
            refine ⟨k + 1, by omega, by go_num, hid (fun j hj l' hl' => ?_)⟩
            rcases Nat.lt_or_ge j k with h | h
            · exact hI.out j h l' hl'
            · obtain rfl : j = k := by omega
              rw [HKK.out] at hl'
              cases hl'
              have := H64.out; omega
          case measure => simp [intOf]; omega
      · obtain rfl : k = ls.length := by omega
        have hE : ∀ l ∈ ls, l.length ≤ 64 := by
          intro l hl
          obtain ⟨j, hj⟩ := List.mem_iff_getElem?.1 hl
          exact hI.out j (List.getElem?_eq_some_iff.1 hj).1 l hj
        have HE := hid hE
        have HLI := hid (list_any _ ls w1 HL1.out (by omega) (fun l hl => by have := hE l hl; omega))
        have hsz : ls.length ≤ 8 := by omega
        have HSZ := hid hsz
        clear hE hlt hI
        go_wp2_with fail
        refine HLI.out.mono ?_
        rintro e w2 ⟨v, L, rfl, hL, hown, hx2, -, -⟩
        have hrl := hown.rdl
        rw [hL] at hrl
        obtain ⟨va, vc, rfl, -⟩ := hrl.shape
        have hx3 := (Ext.refl w2).alloc (.cells #[.slice va ls.length vc] 27)
        have hb3 := heap_new w2 (.cells #[.slice va ls.length vc] 27)
        have ht0 : (w2.alloc (.cells #[.slice va ls.length vc] 27)).cell? ⟨w2.heap.size, 0, none⟩ = some (.slice va ls.length vc) := cell_of hb3 0
        have HX3 := hid (HX1.out.trans (hx2.trans hx3))
        have HB3 := hid hb3
        have hrl3 := hrl.ext hx3
        have HRL3 := hid hrl3
        have HL3 := hid (HL1.out.ext (hx2.trans hx3))
        clear hL hown hx2 hrl hx3 hb3 hrl3
        go_wp2_with fail
        refine (mRoot_any _ ls _ HRL3.out (by omega) (fun l hl => by have := HE.out l hl; omega)).mono ?_
        rintro e w4 ⟨rfl, hx4⟩
        have hb4 := hx4.heap_some HB3.out
        have ht4 : w4.cell? ⟨w2.heap.size, 0, none⟩ = some (.slice va ls.length vc) := cell_of hb4 0
        have HX4 := hid (HX3.out.trans hx4)
        have HL4 := hid (HL3.out.ext hx4)
        have HRL4 := hid (HRL3.out.ext hx4)
        have HB4 := hid hb4
        clear hx4 hb4 ht0
        go_wp2_with fail
        refine (refRoot_any _ ls _ HL4.out (by omega) (fun l hl => by have := HE.out l hl; omega)).mono ?_
        rintro e w5 ⟨rfl, hx5⟩
        have hb5 := hx5.heap_some HB4.out
        have ht5 : w5.cell? ⟨w2.heap.size, 0, none⟩ = some (.slice va ls.length vc) := cell_of hb5 0
        have HX5 := hid (HX4.out.trans hx5)
        have HL5 := hid (HL4.out.ext hx5)
        have HRL5 := hid (HRL4.out.ext hx5)
        clear hx5 hb5 ht4
        go_wp2_with fail
        refine (mPath_any _ ls i _ HRL5.out (by omega) (fun l hl => by have := HE.out l hl; omega)).mono ?_
        rintro e w6 ⟨pv, rfl, hpv, hx6, -⟩
        have HX6 := hid (HX5.out.trans hx6)
        have HL6 := hid (HL5.out.ext hx6)
        have HPV := hid hpv
        clear hpv hx6 ht5
        go_wp2_with fail
        refine (refPath_any _ ls i _ HL6.out (by omega) (fun l hl => by have := HE.out l hl; omega)).mono ?_
        rintro e w7 ⟨qv, rfl, hqv, hx7, -⟩
        have HX7 := hid (HX6.out.trans hx7)
        have hpl : (pathL ls i).length ≤ 8 := by
          unfold pathL
          split
          · rw [pathN_length]; have := HSZ.out; omega
          · simp
        have HSA := hid (Same_any pv qv (pathL ls i) (pathL ls i) w7 (OwnU.rdu (ownsRow_ext HPV.out hx7)) hqv.rdu (by omega) (by omega))
        clear hqv hx7 hpl
        go_wp2_with fail
        refine HSA.out.mono ?_
        rintro e w8 ⟨rfl, hx8⟩
        have HX8 := hid (HX7.out.trans hx8)
        rw [show (pathL ls i == pathL ls i) = true from by simp]
        clear hx8
        go_wp2_with fail
        go_ret
        exact ⟨rfl, HX8.out⟩
end Go.Proofs.Ytdpgfjnpcjpdpaa
