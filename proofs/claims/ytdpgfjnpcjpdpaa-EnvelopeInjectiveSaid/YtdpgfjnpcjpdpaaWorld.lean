/- Comparisons with the prime. Program of the oracle. Worlds of the laws of merkle: in memory; Few; Short; begin. Short; begin. -/
import Derived.Test.YtdpgfjnpcjpdpaaSame
import Derived.Test.YtdpgfjnpcjpdpaaQs
import Derived.Test.YtdpgfjnpcjpdpaaOwn12
set_option linter.unusedSimpArgs false
namespace Go.Proofs.Ytdpgfjnpcjpdpaa
open Go.RowKit
theorem ge_big_dec (x : UInt64) : decide ((18446744069414584321 : Int) ≤ (x.toNat : Int)) = !decide (x < big) := by
  rw [← lt_big_dec]
  by_cases h : (x.toNat : Int) < 18446744069414584321
  · rw [decide_eq_true h, decide_eq_false (by omega)]; rfl
  · rw [decide_eq_false h, decide_eq_true (by omega)]; rfl
end Go.Proofs.Ytdpgfjnpcjpdpaa
namespace Go.Proofs.Ytdpgfjnpcjpdpaa
open Go.RowKit
attribute [local irreducible] perm fAdd fMul fPow fSub fNeg fRed

def ProgO (w : World) (b : Nat) (M : Orc) (F : Nat → Prop) (label : UInt64) (l : List UInt64) (a : UInt64) (e : Ending) (w' : World) : Prop :=
  e = .returned (.bool (M.prog label l a).1) ∧ ∃ F', OrcTo w b F (M.prog label l a).2 w' F'
theorem prog_no {M : Orc} {label : UInt64} {l : List UInt64} {a : UInt64} (h : (M.ideal && decide (a < big) && allE l && (findQ M.qs label l).isNone) = false) : M.prog label l a = (false, M) := by
  unfold Orc.prog; rw [h]; rfl
theorem prog_yes {M : Orc} {label : UInt64} {l : List UInt64} {a : UInt64} (h : (M.ideal && decide (a < big) && allE l && (findQ M.qs label l).isNone) = true) : M.prog label l a = (true, M.add label l a) := by
  unfold Orc.prog; rw [h]; rfl

set_option maxRecDepth 100000 in
set_option maxHeartbeats 1600000 in
theorem Program_any {w : World} {b : Nat} {M : Orc} {F : Nat → Prop} {label a : UInt64} {lv : Value} {l : List UInt64} (h : OrcAt w b M F) (hl : RdU w lv l) (hlf : ∀ k, blk lv = some k → ¬ F k)
    (hL : l.length ≤ 1000000000000) (hq : M.qs.length ≤ 1000000000) :
    Calls Try.prog 77 #[.pointer (some ⟨b, 0, none⟩), uv label, lv, uv a] w (ProgO w b M F label l a) := by
  have HH := hid h
  have HL := hid hl
  have HLF := hid hlf
  have HLL := hid hL
  have HQ := hid hq
  clear h hl hlf hL hq
  obtain ⟨qv, mk, ms, mp, Q, S, hin0⟩ := HH.out
  obtain ⟨c0, -⟩ := self_cells hin0.self
  clear hin0
  cases hI : M.ideal with
  | false =>
    rw [hI] at c0
    have HM := hid (prog_no (label := label) (l := l) (a := a) (M := M) (by rw [hI]; rfl))
    clear hI
    go_enter Try.func77, Try.ntmps77
    go_wp2_with fail
    go_ret
    unfold ProgO
    rw [HM.out]
    exact ⟨rfl, F, .of_ext HH.out (Ext.refl _)⟩
  | true =>
    rw [hI] at c0
    cases ha : decide (a < big) with
    | false =>
      have d1 : decide ((18446744069414584321 : Int) ≤ (a.toNat : Int)) = true := by rw [ge_big_dec, ha]; rfl
      have HM := hid (prog_no (label := label) (l := l) (a := a) (M := M) (by rw [hI, ha]; rfl))
      clear hI ha
      go_enter Try.func77, Try.ntmps77
      go_wp2_with fail
      go_ret
      unfold ProgO
      rw [HM.out]
      exact ⟨rfl, F, .of_ext HH.out (Ext.refl _)⟩
    | true =>
      have d1 : decide ((18446744069414584321 : Int) ≤ (a.toNat : Int)) = false := by rw [ge_big_dec, ha]; rfl
      have HAB := hid ha
      have HI := hid hI
      clear hI ha
      go_enter Try.func77, Try.ntmps77
      go_wp2_with fail
      refine (elements_any lv l _ HL.out HLL.out).mono ?_
      rintro e w' ⟨rfl, rfl⟩
      cases hE : allE l with
      | false =>
        have HM := hid (prog_no (label := label) (l := l) (a := a) (M := M) (by rw [HI.out, HAB.out, hE]; rfl))
        clear hE
        go_wp2_with fail
        go_ret
        unfold ProgO
        rw [HM.out]
        exact ⟨rfl, F, .of_ext HH.out (Ext.refl _)⟩
      | true =>
        have HE := hid hE
        clear hE c0
        go_wp2_with fail
        have hk1 : RdU (w.alloc (.cells #[uv label] 28)) (.slice (some ⟨w.heap.size, 0, none⟩) 1 1) [label] := (RdC.new1 w (uv label) 28).rdu rfl
        refine (key_any _ _ l [label] _ (HL.out.ext ((Ext.refl _).alloc _)) hk1 HLL.out (by simp)).mono ?_
        rintro e w1 ⟨rfl, hx0⟩
        have hx := ((Ext.refl w).alloc (.cells #[uv label] 28)).trans hx0
        clear hx0 hk1
        obtain ⟨qv, mk, ms, mp, Q, S, hin⟩ := HH.out.ext hx
        obtain ⟨-, -, -, -, c4, -⟩ := self_cells hin.self
        have HX := hid hx
        have HIN := hid hin
        clear hx hin
        go_wp2_with fail
        have hlk := run_lookup (P := Try.prog) keyStr w1 136 9 3 (.int .i64 0) (by kernel_rfl) (by kernel_rfl) (zero_int w1) mk _ HIN.out.known (keyS [label] l)
        rw [assoc_knownL] at hlk
        cases hf : findQ M.qs label l with
        | some i =>
          simp only [hf, Option.map_some, Option.getD_some, Option.isSome_some] at hlk
          rw [hlk]
          have HM := hid (prog_no (label := label) (l := l) (a := a) (M := M) (by rw [HI.out, HAB.out, HE.out, hf]; rfl))
          clear hf hlk
          go_wp2_with fail
          go_ret
          unfold ProgO
          rw [HM.out]
          exact ⟨rfl, F, .of_ext HH.out HX.out⟩
        | none =>
          simp only [hf, Option.map_none, Option.getD_none, Option.isSome_none] at hlk
          rw [hlk]
          have HM := hid (prog_yes (label := label) (l := l) (a := a) (M := M) (by rw [HI.out, HAB.out, HE.out, hf]; rfl))
          have hnew : assoc (knownL M.qs) (keyS [label] l) = none := by rw [assoc_knownL, hf]; rfl
          have HN := hid hnew
          clear hf hlk hnew c4
          go_wp2_with fail
          refine (record_any ⟨qv, mk, ms, mp, Q, S, HIN.out⟩ (HL.out.ext HX.out) HLF.out HLL.out HQ.out HN.out).mono ?_
          rintro e w3 ⟨rfl, F', hto⟩
          have HTO := hid hto
          clear hto
          go_wp2_with fail
          go_ret
          unfold ProgO
          rw [HM.out]
          exact ⟨rfl, F', HTO.out.pre HX.out⟩
end Go.Proofs.Ytdpgfjnpcjpdpaa
namespace Go.Proofs.Ytdpgfjnpcjpdpaa
open Go.RowKit
attribute [local irreducible] perm fAdd fMul fPow fSub fNeg fRed hashU drawOf nextState

/-- A slice that reads as a list of questions, their elements weakly. -/
def RdQ' (w : World) (v : Value) (l : List Qn) : Prop :=
  ∃ a c, v = .slice a l.length c ∧ l.length ≤ c ∧ c ≤ maxLen ∧ (a = none → c = 0) ∧
    ∀ ad, a = some ad → ad.spot = none ∧ ∀ (i : Nat) (q : Qn), l[i]? = some q → ∃ u, w.cell? ⟨ad.block, ad.off + i * 3, none⟩ = some (uv q.label) ∧ w.cell? ⟨ad.block, ad.off + i * 3 + 1, none⟩ = some u ∧
      w.cell? ⟨ad.block, ad.off + i * 3 + 2, none⟩ = some (uv q.answer) ∧ RdU' w u q.elems
theorem RdQ'.ext {w w' : World} {v : Value} {l : List Qn} (h : RdQ' w v l) (k : Ext w w') : RdQ' w' v l := by
  obtain ⟨a, c, rfl, h2, h3, h4, h5⟩ := h
  refine ⟨a, c, rfl, h2, h3, h4, fun ad ha => ⟨(h5 ad ha).1, fun i n hn => ?_⟩⟩
  obtain ⟨u, e0, e1, e2, e3⟩ := (h5 ad ha).2 i n hn
  exact ⟨u, k.cell_some e0, k.cell_some e1, k.cell_some e2, e3.ext k⟩
theorem RdQ'.at {w : World} {a : Option Addr} {n c : Nat} {l : List Qn} (h : RdQ' w (.slice a n c) l) {i : Nat} {x : Qn} (hx : l[i]? = some x) : ∃ b o u, a = some ⟨b, o, none⟩ ∧
    w.cell? ⟨b, o + i * 3, none⟩ = some (uv x.label) ∧ w.cell? ⟨b, o + i * 3 + 1, none⟩ = some u ∧ w.cell? ⟨b, o + i * 3 + 2, none⟩ = some (uv x.answer) ∧ RdU' w u x.elems := by
  obtain ⟨a', c', he, hlc, _, hnil, hcell⟩ := h
  injection he with h1 h2 h3
  subst h1
  have hi : i < l.length := (List.getElem?_eq_some_iff.1 hx).1
  cases a with
  | none => have := hnil rfl; omega
  | some ad =>
    obtain ⟨hs, hc⟩ := hcell ad rfl
    obtain ⟨b, o, s⟩ := ad
    simp only at hs
    subst hs
    obtain ⟨u, hu⟩ := hc i x hx
    exact ⟨b, o, u, rfl, hu⟩

def fewW (Q : List Qn) : Bool := Q.all (fun q => decide (q.elems.length ≤ 20)) && decide (Q.length ≤ 40)
theorem fewW_parts {Q : List Qn} (h : fewW Q = true) : (∀ q ∈ Q, q.elems.length ≤ 20) ∧ Q.length ≤ 40 := by
  unfold fewW at h
  simp only [Bool.and_eq_true, decide_eq_true_eq, List.all_eq_true] at h
  exact h
theorem fewW_no {Q : List Qn} {i : Nat} {q : Qn} (hq : Q[i]? = some q) (h : 20 < q.elems.length) : fewW Q = false := by
  cases hf : fewW Q with
  | false => rfl
  | true => have := (fewW_parts hf).1 q (List.mem_of_getElem? hq); omega
set_option maxRecDepth 100000 in
set_option maxHeartbeats 1600000 in
theorem Few_any {w : World} {real : Bool} {seed : UInt64} {qv : Value} {Q : List Qn} (hq : RdQ' w qv Q) :
    Calls Try.prog 37 #[.agg #[.bool real, uv seed, qv]] w fun e w' => e = .returned (.bool (fewW Q)) ∧ Ext w w' := by
  obtain ⟨a, c, rfl, hlc, hcm, -⟩ := id hq
  have hx : Ext w (w.alloc (.cells #[.bool real, uv seed, .slice a Q.length c] 66)) := (Ext.refl w).alloc _
  have hb := heap_new w (.cells #[.bool real, uv seed, .slice a Q.length c] 66)
  have HQ := hid (hq.ext hx)
  have HX := hid hx
  have d2 : (w.alloc (.cells #[.bool real, uv seed, .slice a Q.length c] 66)).cell? ⟨w.heap.size, 2, none⟩ = some (.slice a Q.length c) := cell_of hb 2
  have hm : Q.length ≤ maxLen := Nat.le_trans hlc hcm
  have HM := hid hm
  clear hq hx hb hlc hcm hm
  go_enter Try.func37, Try.ntmps37
  go_wp2_with fail
  go_loop [3] (fun iv => ∃ i : Nat, i ≤ Q.length ∧ iv = .int .i64 i ∧ Hid (∀ j, j < i → ∀ q, Q[j]? = some q → q.elems.length ≤ 20)) (fun iv => Q.length - (intOf iv).toNat)
  case atStart => exact ⟨0, by omega, rfl, hid (fun j hj => by omega)⟩
  case round =>
    obtain ⟨i, hi, rfl, hI⟩ := hrel
    by_cases hlt : i < Q.length
    · obtain ⟨q, hqq⟩ : ∃ q, Q[i]? = some q := ⟨_, List.getElem?_eq_getElem hlt⟩
      obtain ⟨b, o, u, rfl, e0, e1, e2, hr⟩ := HQ.out.at hqq
      obtain ⟨ua, uc, rfl, -⟩ := hr
      have hi0 : (0 : Int) ≤ (i : Int) := by omega
      have hiq : (i : Int) < (Q.length : Int) := by omega
      have hwr : IntKind.i64.wrap ((i : Int) + 1) = (i : Int) + 1 := IntWalk.i64_in _ (by have := HM.out; unfold maxLen at this; omega)
      have HQQ := hid hqq
      clear hqq e0 e2
      by_cases h20 : 20 < q.elems.length
      · have hfin := fewW_no HQQ.out h20
        have HF := hid hfin
        have hd : decide ((20 : Int) < (q.elems.length : Int)) = true := by simp; omega
        clear hfin h20
        go_wp2_with fail
        go_ret
        exact ⟨ret_bool HF.out.symm, HX.out⟩
      · have H20 := hid h20
        have hd : decide ((20 : Int) < (q.elems.length : Int)) = false := by simp; omega
        clear h20
        go_wp2_with fail
        go_round
        case rel =>
          refine ⟨i + 1, by omega, by go_num, hid (fun j hj q' hq' => ?_)⟩
          rcases Nat.lt_or_ge j i with h | h
          · exact hI.out j h q' hq'
          · obtain rfl : j = i := by omega
            rw [HQQ.out] at hq'
            cases hq'
            have := H20.out; omega
        case measure => simp [intOf]; omega
    · obtain rfl : i = Q.length := by omega
      have hfin : fewW Q = decide ((Q.length : Int) ≤ 40) := by
        unfold fewW
        rw [List.all_eq_true.2 (fun q hq => by
          obtain ⟨j, hj⟩ := List.mem_iff_getElem?.1 hq
          exact decide_eq_true (hI.out j (List.getElem?_eq_some_iff.1 hj).1 q hj))]
        simp [decide_eq_decide]; omega
      have HF := hid hfin
      clear hfin
      go_wp2_with fail
      go_ret
      exact ⟨ret_bool HF.out.symm, HX.out⟩
end Go.Proofs.Ytdpgfjnpcjpdpaa
namespace Go.Proofs.Ytdpgfjnpcjpdpaa
open Go.RowKit
attribute [local irreducible] perm fAdd fMul fPow fSub fNeg fRed hashU drawOf nextState

def shortL (ls : Lv) (salts : List UInt64) : Bool := ls.all (fun l => decide (l.length ≤ 10)) && (decide (ls.length ≤ 16) && decide (salts.length ≤ 20))
theorem shortL_parts {ls : Lv} {salts : List UInt64} (h : shortL ls salts = true) : (∀ l ∈ ls, l.length ≤ 10) ∧ ls.length ≤ 16 ∧ salts.length ≤ 20 := by
  unfold shortL at h
  simp only [Bool.and_eq_true, decide_eq_true_eq, List.all_eq_true] at h
  exact h
theorem shortL_no {ls : Lv} {salts : List UInt64} {i : Nat} {l : List UInt64} (hl : ls[i]? = some l) (h : 10 < l.length) : shortL ls salts = false := by
  cases hf : shortL ls salts with
  | false => rfl
  | true => have := (shortL_parts hf).1 l (List.mem_of_getElem? hl); omega
set_option maxRecDepth 100000 in
set_option maxHeartbeats 1600000 in
theorem Short_any {w : World} {lv : Value} {ls : Lv} {salts : List UInt64} {sa : Option Addr} {sc : Nat} (hl : RdL w lv ls) :
    Calls Try.prog 38 #[lv, .slice sa salts.length sc] w fun e w' => e = .returned (.bool (shortL ls salts)) ∧ w = w' := by
  obtain ⟨a, c, rfl, hlc, hcm, -⟩ := hl.shape
  have HL := hid hl
  have hm : ls.length ≤ maxLen := Nat.le_trans hlc hcm
  have HM := hid hm
  clear hl hlc hcm hm
  go_enter Try.func38, Try.ntmps38
  go_wp2_with fail
  go_loop [5] (fun iv => ∃ i : Nat, i ≤ ls.length ∧ iv = .int .i64 i ∧ Hid (∀ j, j < i → ∀ l, ls[j]? = some l → l.length ≤ 10)) (fun iv => ls.length - (intOf iv).toNat)
  case atStart => exact ⟨0, by omega, rfl, hid (fun j hj => by omega)⟩
  case round =>
    obtain ⟨i, hi, rfl, hI⟩ := hrel
    by_cases hlt : i < ls.length
    · obtain ⟨l, hll⟩ : ∃ l, ls[i]? = some l := ⟨_, List.getElem?_eq_getElem hlt⟩
      obtain ⟨b, o, y, d, rfl, hc, -, -⟩ := HL.out.at hll
      have hi0 : (0 : Int) ≤ (i : Int) := by omega
      have hiq : (i : Int) < (ls.length : Int) := by omega
      have hwr : IntKind.i64.wrap ((i : Int) + 1) = (i : Int) + 1 := IntWalk.i64_in _ (by have := HM.out; unfold maxLen at this; omega)
      have HLL := hid hll
      clear hll
      by_cases h20 : 10 < l.length
      · have hfin := shortL_no (salts := salts) HLL.out h20
        have HF := hid hfin
        have hd : decide ((10 : Int) < (l.length : Int)) = true := by simp; omega
        clear hfin h20
        go_wp2_with fail
        go_ret
        exact ⟨ret_bool HF.out.symm, rfl⟩
      · have H20 := hid h20
        have hd : decide ((10 : Int) < (l.length : Int)) = false := by simp; omega
        clear h20
        go_wp2_with fail
        go_round
        case rel =>
          refine ⟨i + 1, by omega, by go_num, hid (fun j hj l' hl' => ?_)⟩
          rcases Nat.lt_or_ge j i with h | h
          · exact hI.out j h l' hl'
          · obtain rfl : j = i := by omega
            rw [HLL.out] at hl'
            cases hl'
            have := H20.out; omega
        case measure => simp [intOf]; omega
    · obtain rfl : i = ls.length := by omega
      have hfin : shortL ls salts = (decide ((ls.length : Int) ≤ 16) && decide ((salts.length : Int) ≤ 20)) := by
        unfold shortL
        rw [List.all_eq_true.2 (fun q hq => by
          obtain ⟨j, hj⟩ := List.mem_iff_getElem?.1 hq
          exact decide_eq_true (hI.out j (List.getElem?_eq_some_iff.1 hj).1 q hj)), Bool.true_and]
        congr 1 <;> simp [decide_eq_decide] <;> omega
      have HF := hid hfin
      clear hfin
      cases h1 : decide ((ls.length : Int) ≤ 16)
      all_goals cases h2 : decide ((salts.length : Int) ≤ 20)
      all_goals rw [h1, h2] at HF
      all_goals go_wp2_with fail
      all_goals go_ret
      all_goals exact ⟨ret_bool (by rw [HF.out]; rfl), rfl⟩

/-! ## begin -/
def Orc.progs (M : Orc) : List Qn → Orc
  | [] => M
  | q :: r => (M.prog q.label q.elems q.answer).2.progs r
theorem progs_snoc : ∀ (l : List Qn) (M : Orc) (q : Qn), M.progs (l ++ [q]) = ((M.progs l).prog q.label q.elems q.answer).2
  | [], _, _ => rfl
  | _ :: r, _, q => progs_snoc r _ q
theorem progs_take {l : List Qn} {i : Nat} {q : Qn} (h : l[i]? = some q) (M : Orc) : M.progs (l.take (i + 1)) = ((M.progs (l.take i)).prog q.label q.elems q.answer).2 := by
  rw [List.take_add_one, h]
  exact progs_snoc _ _ _
theorem prog_cases (M : Orc) (a : UInt64) (l : List UInt64) (x : UInt64) : (M.prog a l x).2 = M ∨ ((M.prog a l x).2 = M.add a l x ∧ x < big ∧ allE l = true) := by
  by_cases h : (M.ideal && decide (x < big) && allE l && (findQ M.qs a l).isNone) = true
  · right
    have h' := h
    simp only [Bool.and_eq_true, decide_eq_true_eq] at h'
    rw [prog_yes h]; exact ⟨rfl, h'.1.1.2, h'.1.2⟩
  · left; rw [prog_no (Bool.eq_false_iff.2 h)]
theorem prog_qs_le (M : Orc) (a : UInt64) (l : List UInt64) (x : UInt64) : (M.prog a l x).2.qs.length ≤ M.qs.length + 1 := by
  rcases prog_cases M a l x with h | ⟨h, _⟩ <;> rw [h]
  · omega
  · rw [add_qs]; simp
theorem progs_qs_le : ∀ (l : List Qn) (M : Orc), (M.progs l).qs.length ≤ M.qs.length + l.length
  | [], _ => Nat.le_refl _
  | q :: r, M => by
    have h1 := progs_qs_le r (M.prog q.label q.elems q.answer).2
    have h2 := prog_qs_le M q.label q.elems q.answer
    show ((M.prog q.label q.elems q.answer).2.progs r).qs.length ≤ _
    rw [List.length_cons]; omega
def beginM (real : Bool) (seed : UInt64) (Q : List Qn) : Orc := if real then Orc.fresh false 0 else (Orc.fresh true seed).progs Q

set_option maxRecDepth 100000 in
set_option maxHeartbeats 3200000 in
theorem begin_any {w : World} {real : Bool} {seed : UInt64} {qv : Value} {Q : List Qn} (hq : RdQ' w qv Q) (hf : fewW Q = true) :
    Calls Try.prog 39 #[.agg #[.bool real, uv seed, qv]] w (NewO w (beginM real seed Q)) := by
  obtain ⟨a, c, rfl, hlc, hcm, -⟩ := id hq
  have hx : Ext w (w.alloc (.cells #[.bool real, uv seed, .slice a Q.length c] 66)) := (Ext.refl w).alloc _
  have hb := heap_new w (.cells #[.bool real, uv seed, .slice a Q.length c] 66)
  have HQ := hid hq
  have HX := hid hx
  have HB := hid hb
  obtain ⟨hf1, hf2⟩ := fewW_parts hf
  have HF1 := hid hf1
  have d0 : (w.alloc (.cells #[.bool real, uv seed, .slice a Q.length c] 66)).cell? ⟨w.heap.size, 0, none⟩ = some (.bool real) := cell_of hb 0
  have d1 : (w.alloc (.cells #[.bool real, uv seed, .slice a Q.length c] 66)).cell? ⟨w.heap.size, 1, none⟩ = some (uv seed) := cell_of hb 1
  clear hq hx hb hlc hcm hf hf1
  cases real with
  | true =>
    have HR := hid (Real_any (w.alloc (.cells #[.bool true, uv seed, .slice a Q.length c] 66)))
    go_enter Try.func39, Try.ntmps39
    go_wp2_with fail
    refine HR.out.mono ?_
    rintro e w1 ⟨b, F, rfl, hat, hx1, hF⟩
    have H := hid (And.intro hat (And.intro (HX.out.trans hx1) (fun k hk => Nat.le_trans HX.out.size (hF k hk) : ∀ k, F k → w.heap.size ≤ k)))
    clear hat hx1 hF
    go_wp2_with fail
    go_ret
    exact ⟨b, F, rfl, H.out⟩
  | false =>
    have HI := hid (Ideal_any seed (w.alloc (.cells #[.bool false, uv seed, .slice a Q.length c] 66)))
    go_enter Try.func39, Try.ntmps39
    go_wp2_with fail
    refine HI.out.mono ?_
    rintro e w1 ⟨b, F, rfl, hat, hx1, hF⟩
    have hF0 : ∀ k, F k → w.heap.size ≤ k := fun k hk => Nat.le_trans HX.out.size (hF k hk)
    have hb1 := hx1.heap_some HB.out
    have d2 : w1.cell? ⟨w.heap.size, 2, none⟩ = some (.slice a Q.length c) := cell_of hb1 2
    have HAT := hid hat
    have HX1 := hid (HX.out.trans hx1)
    have HF0 := hid hF0
    obtain ⟨i0, hi, hz0, hz1, hz2⟩ := info_parts Try.infoU
    have HI0 := hid hi
    have HZ0 := hid hz0
    have HZ1 := hid hz1
    have HZ2 := hid hz2
    clear hat hx1 hF hF0 hb1 hi hz0 hz1 hz2 d0 d1
    go_wp2_with fail
    go_loopw [17] (fun iv wr => ∃ (i : Nat) (F' : Nat → Prop), i ≤ Q.length ∧ iv = .int .i64 i ∧ Hid (OrcTo w1 b F ((Orc.fresh true seed).progs (Q.take i)) wr F')) (fun iv _ => Q.length - (intOf iv).toNat)
    case atStart => exact ⟨0, F, by omega, rfl, hid (by rw [List.take_zero]; exact .of_ext HAT.out (Ext.refl _))⟩
    case round =>
      obtain ⟨i, F', hi, rfl, HT⟩ := hrel
      have hxr : Ext w wr := HX1.out.kp HT.out.kp HF0.out
      by_cases hlt : i < Q.length
      · obtain ⟨q, hqq⟩ : ∃ q, Q[i]? = some q := ⟨_, List.getElem?_eq_getElem hlt⟩
        obtain ⟨b', o', u, rfl, e0, e1, e2, hr⟩ := (HQ.out.ext hxr).at hqq
        obtain ⟨ua, uc, rfl, -⟩ := id hr
        have hi0 : (0 : Int) ≤ (i : Int) := by omega
        have hiq : (i : Int) < (Q.length : Int) := by omega
        have hql := HF1.out q (List.mem_of_getElem? hqq)
        have HQQ := hid hqq
        have HR := hid hr
        have HXR := hid hxr
        have hxa := (Ext.refl wr).alloc (.cells #[uv q.label, .slice ua q.elems.length uc, uv q.answer] 49)
        have hba := heap_new wr (.cells #[uv q.label, .slice ua q.elems.length uc, uv q.answer] 49)
        have hcs : ∀ v, Ext (wr.alloc (.cells #[uv q.label, .slice ua q.elems.length uc, uv q.answer] 49)) v → v.cell? ⟨wr.heap.size, 0, none⟩ = some (uv q.label) ∧ v.cell? ⟨wr.heap.size, 1, none⟩ = some (.slice ua q.elems.length uc) ∧ v.cell? ⟨wr.heap.size, 2, none⟩ = some (uv q.answer) :=
          fun v k => ⟨k.cell_some (cell_of hba 0), k.cell_some (cell_of hba 1), k.cell_some (cell_of hba 2)⟩
        have HCS := hid hcs
        have HXA := hid hxa
        clear hqq hr hxr hxa hba hcs
        have hpq := progs_take HQQ.out (Orc.fresh true seed)
        have HPQ := hid hpq
        have hqs : ((Orc.fresh true seed).progs (Q.take i)).qs.length ≤ 1000000000 := by
          have h1 := progs_qs_le (Q.take i) (Orc.fresh true seed)
          have h2 : (Q.take i).length ≤ i := List.length_take_le _ _
          have h3 : (Orc.fresh true seed).qs.length = 0 := rfl
          omega
        have HQS := hid hqs
        clear hpq hqs
        go_wp2_with fail
        refine wp_region_T (fun v => (v.cell? ⟨wr.heap.size, 0, none⟩ = some (uv q.label) ∧ v.cell? ⟨wr.heap.size, 1, none⟩ = some (.slice ua q.elems.length uc) ∧ v.cell? ⟨wr.heap.size, 2, none⟩ = some (uv q.answer)) ∧ Ext (wr.alloc (.cells #[uv q.label, .slice ua q.elems.length uc, uv q.answer] 49)) v) 9 [(0, true), (1, true), (2, true), (4, true), (5, true), (7, true), (8, true), (3, false), (6, false), (9, false)] (by kernel_rfl) (by kernel_rfl) (by intro c a d v w h; cases d <;> exact h) ?_
        intro ops hops
        have HS := keep0 HCS.out
        iterate 7
          refine wpT_take (v := ?_) (by rw [hops, List.getElem?_toArray]; rfl) (by first | rfl | (rw [hops]; rfl)) ?_ HS ?_
          rotate_left
          · intro v h; go_simp; with_reducible rfl
          simp only [Act.put, List.getElem_toArray, List.getElem_cons_zero, List.getElem_cons_succ, List.setIfInBounds_toArray, List.set_cons_zero, List.set_cons_succ]
        refine wpT_step (by rw [hops, List.getElem?_toArray]; rfl) (by first | rfl | (rw [hops]; rfl)) ?_
        intro K hK
        go_wp2_with fail
        have hx1 := HS.2.alloc (.cells #[] 28)
        have HS1 := add_four HCS.out hx1
        refine ⟨fun _ => HS1, ?_⟩
        have ho1 := own_empty (wr.alloc (.cells #[uv q.label, .slice ua q.elems.length uc, uv q.answer] 49)).drew
        refine wpT_step (by rw [hops, List.getElem?_toArray]; rfl) (by first | rfl | (rw [hops]; rfl)) ?_
        intro K hK
        refine wp_app' _ _ 24 rfl 28 i0 (.int .u64 0) 1 8 Try.underlying24 HI0.out HZ0.out HZ1.out HZ2.out rfl (by decide) (.slice (some ⟨(wr.alloc (.cells #[uv q.label, .slice ua q.elems.length uc, uv q.answer] 49)).drew.heap.size, 0, none⟩) 0 0) 0 [] (by simp [Act.eval]) ho1 (.slice ua q.elems.length uc) q.elems.length (us q.elems) rfl (HR.out.ext (HXA.out.trans hx1)) (by simp) (us_one _) (by unfold maxLen; omega) (by omega) ?_
        intro v1 w3 hown1 hk1 hb1
        have h1 := app_new hx1 (Nat.le_refl _) (by simp) hown1 hk1 hb1
        have HS2 := add_four HCS.out h1.2.1
        obtain ⟨xa, xc, rfl, -⟩ := ownsRow_rd h1.1
        have hx3 : Ext wr w3 := HXA.out.trans h1.2.1
        have HPR := hid (Program_any (label := q.label) (a := q.answer) (HT.out.at'.ext hx3) h1.1.rdu (fun k hk hf => by
          have h2 := h1.2.2.2 k hk
          have h3 := HT.out.at'.foot_lt k hf
          simp at h2; omega) (by omega) HQS.out)
        have HX3 := hid hx3
        refine hK _ _ ⟨fun _ => HS2, ?_⟩
        clear hK K
        clear hown1 hk1 hb1 h1 hx3 HS HS1 hx1 ho1
        refine wpT_step (by rw [hops, List.getElem?_toArray]; rfl) (by first | rfl | (rw [hops]; rfl)) ?_
        intro K hK
        go_wp2_with fail
        refine HPR.out.mono ?_
        rintro e w4 ⟨rfl, F2, ht⟩
        have hto := HT.out.trans (ht.pre HX3.out)
        rw [← HPQ.out] at hto
        have HTO := hid hto
        clear hto ht
        refine hK _ _ ⟨fun h => absurd h (by decide), ?_⟩
        clear hK K
        rw [wpT_nil]
        clear hops ops
        clear HS2
        go_wp2_with fail
        go_roundw
        case rel => exact ⟨i + 1, F2, by omega, by go_num, HTO⟩
        case measure => simp [intOf]; omega
      · obtain rfl : i = Q.length := by omega
        go_wp2_with fail
        go_ret
        have hat := HT.out.at'
        rw [List.take_length] at hat
        refine ⟨b, F', rfl, hat, hxr, fun k hk => ?_⟩
        rcases HT.out.new k hk with h | h
        · exact HF0.out k h
        · have := HX1.out.size; omega
end Go.Proofs.Ytdpgfjnpcjpdpaa
