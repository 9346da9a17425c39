/- Worlds of the laws of merkle: in memory; Few; Short; begin. -/
import Derived.Test.YtdpgfjnpcjpdpaaOwn12
import Derived.Test.YtdpgfjnpcjpdpaaGiven12
set_option linter.unusedSimpArgs false
namespace Go.Proofs.Ytdpgfjnpcjpdpaa
open Go.RowKit
attribute [local irreducible] perm fAdd fMul fPow fSub fNeg fRed hashU drawOf nextState

/-- A slice that reads as a list of questions, their elements weakly. -/
def RdQ' (w : World) (v : Value) (l : List Qn) : Prop :=
  ∃ a c, v = .slice a l.length c ∧ l.length ≤ c ∧ c ≤ maxLen ∧ (a = none → c = 0) ∧
    ∀ ad, a = some ad → ad.spot = none ∧ ∀ (i : Nat) (q : Qn), l[i]? = some q → ∃ u, w.cell? ⟨ad.block, ad.off + i * 3, none⟩ = some (uv q.label) ∧ w.cell? ⟨ad.block, ad.off + i * 3 + 1, none⟩ = some u ∧
      w.cell? ⟨ad.block, ad.off + i * 3 + 2, none⟩ = some (uv q.answer) ∧ RdU' w u q.elems
theorem RdQ'.ext {w w' : World} {v : Value} {l : List Qn} (h : RdQ' w v l) (k : Ext w w') : RdQ' w' v l := by
  obtain ⟨a, c, rfl, h2, h3, h4, h5⟩ := h
  refine ⟨a, c, rfl, h2, h3, h4, fun ad ha => ⟨(h5 ad ha).1, fun i n hn => ?_⟩⟩
  obtain ⟨u, e0, e1, e2, e3⟩ := (h5 ad ha).2 i n hn
  exact ⟨u, k.cell_some e0, k.cell_some e1, k.cell_some e2, e3.ext k⟩
theorem RdQ'.at {w : World} {a : Option Addr} {n c : Nat} {l : List Qn} (h : RdQ' w (.slice a n c) l) {i : Nat} {x : Qn} (hx : l[i]? = some x) : ∃ b o u, a = some ⟨b, o, none⟩ ∧
    w.cell? ⟨b, o + i * 3, none⟩ = some (uv x.label) ∧ w.cell? ⟨b, o + i * 3 + 1, none⟩ = some u ∧ w.cell? ⟨b, o + i * 3 + 2, none⟩ = some (uv x.answer) ∧ RdU' w u x.elems := by
  obtain ⟨a', c', he, hlc, _, hnil, hcell⟩ := h
  injection he with h1 h2 h3
  subst h1
  have hi : i < l.length := (List.getElem?_eq_some_iff.1 hx).1
  cases a with
  | none => have := hnil rfl; omega
  | some ad =>
    obtain ⟨hs, hc⟩ := hcell ad rfl
    obtain ⟨b, o, s⟩ := ad
    simp only at hs
    subst hs
    obtain ⟨u, hu⟩ := hc i x hx
    exact ⟨b, o, u, rfl, hu⟩

def fewW (Q : List Qn) : Bool := Q.all (fun q => decide (q.elems.length ≤ 20)) && decide (Q.length ≤ 40)
theorem fewW_parts {Q : List Qn} (h : fewW Q = true) : (∀ q ∈ Q, q.elems.length ≤ 20) ∧ Q.length ≤ 40 := by
  unfold fewW at h
  simp only [Bool.and_eq_true, decide_eq_true_eq, List.all_eq_true] at h
  exact h
theorem fewW_no {Q : List Qn} {i : Nat} {q : Qn} (hq : Q[i]? = some q) (h : 20 < q.elems.length) : fewW Q = false := by
  cases hf : fewW Q with
  | false => rfl
  | true => have := (fewW_parts hf).1 q (List.mem_of_getElem? hq); omega
set_option maxRecDepth 100000 in
set_option maxHeartbeats 1600000 in
theorem Few_any {w : World} {real : Bool} {seed : UInt64} {qv : Value} {Q : List Qn} (hq : RdQ' w qv Q) :
    Calls Try.prog 37 #[.agg #[.bool real, uv seed, qv]] w fun e w' => e = .returned (.bool (fewW Q)) ∧ Ext w w' := by
  obtain ⟨a, c, rfl, hlc, hcm, -⟩ := id hq
  have hx : Ext w (w.alloc (.cells #[.bool real, uv seed, .slice a Q.length c] 66)) := (Ext.refl w).alloc _
  have hb := heap_new w (.cells #[.bool real, uv seed, .slice a Q.length c] 66)
  have HQ := hid (hq.ext hx)
  have HX := hid hx
  have d2 : (w.alloc (.cells #[.bool real, uv seed, .slice a Q.length c] 66)).cell? ⟨w.heap.size, 2, none⟩ = some (.slice a Q.length c) := cell_of hb 2
  have hm : Q.length ≤ maxLen := Nat.le_trans hlc hcm
  have HM := hid hm
  clear hq hx hb hlc hcm hm
  go_enter Try.func37, Try.ntmps37
  go_wp2_with fail
  go_loop [3] (fun iv => ∃ i : Nat, i ≤ Q.length ∧ iv = .int .i64 i ∧ Hid (∀ j, j < i → ∀ q, Q[j]? = some q → q.elems.length ≤ 20)) (fun iv => Q.length - (intOf iv).toNat)
  case atStart => exact ⟨0, by omega, rfl, hid (fun j hj => by omega)⟩
  case round =>
    obtain ⟨i, hi, rfl, hI⟩ := hrel
    by_cases hlt : i < Q.length
    · obtain ⟨q, hqq⟩ : ∃ q, Q[i]? = some q := ⟨_, List.getElem?_eq_getElem hlt⟩
      obtain ⟨b, o, u, rfl, e0, e1, e2, hr⟩ := HQ.out.at hqq
      obtain ⟨ua, uc, rfl, -⟩ := hr
      have hi0 : (0 : Int) ≤ (i : Int) := by omega
      have hiq : (i : Int) < (Q.length : Int) := by omega
      have hwr : IntKind.i64.wrap ((i : Int) + 1) = (i : Int) + 1 := IntWalk.i64_in _ (by have := HM.out; unfold maxLen at this; omega)
      have HQQ := hid hqq
      clear hqq e0 e2
      by_cases h20 : 20 < q.elems.length
      · have hfin := fewW_no HQQ.out h20
        have HF := hid hfin
        have hd : decide ((20 : Int) < (q.elems.length : Int)) = true := by simp; omega
        clear hfin h20
        go_wp2_with fail
        go_ret
        exact ⟨ret_bool HF.out.symm, HX.out⟩
      · have H20 := hid h20
        have hd : decide ((20 : Int) < (q.elems.length : Int)) = false := by simp; omega
        clear h20
        go_wp2_with fail
        go_round
        case rel =>
          refine ⟨i + 1, by omega, by go_num, hid (fun j hj q' hq' => ?_)⟩
          rcases Nat.lt_or_ge j i with h | h
          · exact hI.out j h q' hq'
          · obtain rfl : j = i := by omega
            rw [HQQ.out] at hq'
            cases hq'
            have := H20.out; omega
        case measure => simp [intOf]; omega
    · obtain rfl : i = Q.length := by omega
      have hfin : fewW Q = decide ((Q.length : Int) ≤ 40) := by
        unfold fewW
        rw [List.all_eq_true.2 (fun q hq => by
          obtain ⟨j, hj⟩ := List.mem_iff_getElem?.1 hq
          exact decide_eq_true (hI.out j (List.getElem?_eq_some_iff.1 hj).1 q hj))]
        simp [decide_eq_decide]; omega
      have HF := hid hfin
      clear hfin
      go_wp2_with fail
      go_ret
      exact ⟨ret_bool HF.out.symm, HX.out⟩
end Go.Proofs.Ytdpgfjnpcjpdpaa
