/- Commitment trees in memory: numbers of leaves, well-formed levels, root and path, of the program and of the reference. Well-formed levels, root and path: the program's walks. The root and the path of a commitment tree: the program's walks. -/
import Derived.Test.YtdpgfjnpcjpdpaaWeak
import Derived.Test.YtdpgfjnpcjpdpaaSame
set_option linter.unusedSimpArgs false
namespace Go.Proofs.Ytdpgfjnpcjpdpaa
open Go.RowKit
attribute [local irreducible] perm fAdd fMul fPow fSub fNeg fRed

set_option maxHeartbeats 800000 in
theorem isNumber_any (n : Int) (w : World) : Calls Try.prog 68 #[.int .i64 n] w fun e w' => e = .returned (.bool (numI n)) ∧ w = w' := by
  have H : Hid (numI n = (decide (1 ≤ n) && (decide (n ≤ 1024) && (bits .and .i64 n (n - 1) == 0)))) := hid rfl
  by_cases h1 : 1 ≤ n
  · by_cases h2 : n ≤ 1024
    · go_enter Try.func68, Try.ntmps68
      go_wp2
      go_ret
      exact ⟨ret_bool (by rw [H.out, decide_eq_true h1, decide_eq_true h2]; simp), rfl⟩
    · go_enter Try.func68, Try.ntmps68
      go_wp2
      go_ret
      exact ⟨ret_bool (by rw [H.out, decide_eq_false (show ¬ n ≤ 1024 by omega)]; simp), rfl⟩
  · go_enter Try.func68, Try.ntmps68
    go_wp2
    go_ret
    exact ⟨ret_bool (by rw [H.out, decide_eq_false (show ¬ 1 ≤ n by omega)]; simp), rfl⟩
set_option maxHeartbeats 800000 in
theorem Count_any (n : Int) (w : World) : Calls Try.prog 99 #[.int .i64 n] w fun e w' => e = .returned (.bool (numI n)) ∧ w = w' := by
  have H : Hid (numI n = (decide (1 ≤ n) && (decide (n ≤ 1024) && (bits .and .i64 n (n - 1) == 0)))) := hid rfl
  by_cases h1 : 1 ≤ n
  · by_cases h2 : n ≤ 1024
    · go_enter Try.func99, Try.ntmps99
      go_wp2
      go_ret
      exact ⟨ret_bool (by rw [H.out, decide_eq_true h1, decide_eq_true h2]; simp), rfl⟩
    · go_enter Try.func99, Try.ntmps99
      go_wp2
      go_ret
      exact ⟨ret_bool (by rw [H.out, decide_eq_false (show ¬ n ≤ 1024 by omega)]; simp), rfl⟩
  · go_enter Try.func99, Try.ntmps99
    go_wp2
    go_ret
    exact ⟨ret_bool (by rw [H.out, decide_eq_false (show ¬ 1 ≤ n by omega)]; simp), rfl⟩
theorem isNumber_len (n : Nat) (w : World) : Calls Try.prog 68 #[.int .i64 (n : Int)] w fun e w' => e = .returned (.bool (isNum n)) ∧ w = w' := by
  rw [← numI_nat]; exact isNumber_any n w
theorem Count_len (n : Nat) (w : World) : Calls Try.prog 99 #[.int .i64 (n : Int)] w fun e w' => e = .returned (.bool (isNum n)) ∧ w = w' := by
  rw [← numI_nat]; exact Count_any n w

theorem RdC'.uat {w : World} {a : Option Addr} {c : Nat} {l : List UInt64} (h : RdU' w (.slice a l.length c) l) {i : Nat} {x : UInt64} (hx : l[i]? = some x) : ∃ b o, a = some ⟨b, o, none⟩ ∧ w.cell? ⟨b, o + i, none⟩ = some (.int .u64 x.toNat) :=
  (h.rdu (by rintro rfl; simp at hx)).at hx
set_option maxRecDepth 100000 in
set_option maxHeartbeats 800000 in
theorem melements_any (lv : Value) (l : List UInt64) (w : World) (hl : RdU' w lv l) (hL : l.length ≤ 1000000000000) :
    Calls Try.prog 69 #[lv] w fun e w' => e = .returned (.bool (allE l)) ∧ w = w' := by
  have HW := hid hl
  obtain ⟨a, c, rfl, -⟩ := hl
  have hL1 : (l.length : Int) ≤ 1000000000000 := by omega
  go_enter Try.func69, Try.ntmps69
  go_wp2
  go_loop [7] (fun iv => ∃ i : Nat, i ≤ l.length ∧ iv = .int .i64 i ∧ Hid ((l.take i).all (fun x => decide (x < big)) = true)) (fun iv => l.length - (intOf iv).toNat)
  case atStart => exact ⟨0, by omega, rfl, hid rfl⟩
  case round =>
    obtain ⟨i, hi, rfl, hI⟩ := hrel
    by_cases hlt : i < l.length
    · have hx : l[i]? = some l[i] := List.getElem?_eq_getElem hlt
      generalize l[i] = x at *
      obtain ⟨b, o, rfl, hc'⟩ := HW.out.uat hx
      have HX := hid hx
      clear hx
      by_cases hb : x < big
      · have hbi := (lt_big_iff x).1 hb
        have hB := hid hb
        clear hb
        have hd : decide ((18446744069414584321 : Int) ≤ (x.toNat : Int)) = false := by simp; omega
        clear hbi
        go_wp2
        go_round
        case rel => exact ⟨i + 1, by omega, by go_num, hid (allE_snoc HX.out hI.out hB.out)⟩
        case measure => simp [intOf]; omega
      · have hbi : ¬ (x.toNat : Int) < 18446744069414584321 := fun h => hb ((lt_big_iff x).2 h)
        have hfin := allE_bad HX.out hb
        have HF := hid hfin
        have hd : decide ((18446744069414584321 : Int) ≤ (x.toNat : Int)) = true := by simp; omega
        clear hbi hb hfin
        go_wp2
        go_ret
        exact ⟨ret_bool HF.out.symm, rfl⟩
    · have hfin : allE l = true := by
        have := hI.out
        rwa [List.take_of_length_le (by omega)] at this
      have HF := hid hfin
      clear hfin
      go_wp2
      go_ret
      exact ⟨ret_bool HF.out.symm, rfl⟩

set_option maxRecDepth 100000 in
set_option maxHeartbeats 800000 in
theorem salted_any (lv : Value) (salt : UInt64) (l : List UInt64) (w : World) (hl : RdU' w lv l) (hL : l.length ≤ 100000000000) :
    Calls Try.prog 70 #[uv salt, lv] w (NewU w (salt :: l)) := by
  obtain ⟨i0, hi, hz0, hz1, hz2⟩ := info_parts Try.infoU
  have hx0 := (Ext.refl w).alloc (.cells #[uv salt] 28)
  have hl1 := hl.ext hx0
  have hb := heap_new w (.cells #[uv salt] 28)
  have how : (w.alloc (.cells #[uv salt] 28)).ownsRow 0 28 1 (.slice (some ⟨w.heap.size, 0, none⟩) 1 1) 1 [uv salt] := ⟨rfl, .inr ⟨w.heap.size, 1, #[uv salt], rfl, Nat.zero_le _, hb, Nat.le_refl _, by unfold maxLen; omega, rfl, rfl⟩⟩
  go_enter Try.func70, Try.ntmps70
  go_wp2_with (at_builtin; refine wpList_app' rfl _ _ 24 rfl 28 i0 (.int .u64 0) 1 8 Try.underlying24 hi hz0 hz1 hz2 rfl (by decide) _ 1 [uv salt] rfl how _ l.length (us l) rfl hl1 (by simp) (us_one l) (by unfold maxLen; omega) (by omega) ?_)
  intro v' w1 hown0 hk hb
  have hown : OwnU w1 v' (salt :: l) := by
    have := hown0
    rw [Nat.add_comm] at this
    exact this
  clear hown0
  have hE : Ext w w1 := hx0.kp hk (by intro k h; simp [Value.ownBlock] at h; omega)
  have hfr : ∀ k, blk v' = some k → w.heap.size ≤ k := by
    intro k h
    rcases hb with hb | hb
    · rw [hb] at h; simp [Value.ownBlock] at h; omega
    · rw [hb] at h; simp at h; omega
  have H1 := hid hown
  have H2 := hid hE
  have H3 := hid hfr
  clear hown hk hb hE hfr
  go_wp2
  go_ret
  exact ⟨v', rfl, H1.out, H2.out, H3.out⟩
end Go.Proofs.Ytdpgfjnpcjpdpaa
namespace Go.Proofs.Ytdpgfjnpcjpdpaa
open Go.RowKit
attribute [local irreducible] perm fAdd fMul fPow fSub fNeg fRed

theorem formed_step {ls : Lv} {i size : Nat} {l : List UInt64} (h : ls[i]? = some l) (h0 : size ≠ 0) (h1 : l.length = size) : formedFrom size (ls.drop i) = formedFrom (size / 2) (ls.drop (i + 1)) := by
  obtain ⟨hi, rfl⟩ := List.getElem?_eq_some_iff.1 h
  rw [List.drop_eq_getElem_cons hi, formedFrom, h1]
  simp [h0]
theorem formed_bad {ls : Lv} {i size : Nat} {l : List UInt64} (h : ls[i]? = some l) (h0 : size = 0 ∨ l.length ≠ size) : formedFrom size (ls.drop i) = false := by
  obtain ⟨hi, rfl⟩ := List.getElem?_eq_some_iff.1 h
  rw [List.drop_eq_getElem_cons hi, formedFrom]
  rcases h0 with h0 | h0 <;> simp [h0]
theorem int_eqB (a b : Nat) : ((a : Int) == (b : Int)) = decide (a = b) := by
  by_cases h : a = b
  · subst h; simp
  · rw [decide_eq_false h]; simp; omega
theorem nat_beq0 (n : Nat) : ((n : Int) == 0) = (n == 0) := by
  cases n with
  | zero => rfl
  | succ n => simp; omega

set_option maxRecDepth 100000 in
set_option maxHeartbeats 1600000 in
theorem wellFormed_any (lv : Value) (ls : Lv) (w : World) (hl : RdL w lv ls) (hL : ls.length ≤ 1000000000000) (hE : ∀ l ∈ ls, l.length ≤ 1000000000000) :
    Calls Try.prog 62 #[.agg #[lv]] w fun e w' => e = .returned (.bool (formed ls)) ∧ Ext w w' := by
  obtain ⟨a, c, rfl, -⟩ := hl.shape
  have HL := hid hl
  have HE := hid hE
  have hx : Ext w (w.alloc (.cells #[.slice a ls.length c] 27)) := (Ext.refl w).alloc _
  have hl1 := hl.ext hx
  have HL1 := hid hl1
  have HX := hid hx
  cases ls with
  | nil =>
    have h0 : (((([] : Lv).length : Nat) : Int) == 0) = true := rfl
    clear hE hl hx hl1
    go_enter Try.func62, Try.ntmps62
    go_wp2
    go_ret
    exact ⟨rfl, HX.out⟩
  | cons l r =>
    obtain ⟨b, o, x, d, rfl, hc, hr, -⟩ := hl1.at (i := 0) (l := l) rfl
    have hle := hE l (by simp)
    obtain ⟨ls, hls⟩ : ∃ ls, ls = l :: r := ⟨_, rfl⟩
    have h0 : (((l :: r).length : Int) == 0) = false := by simp; omega
    have hp : 0 < (l :: r).length := by simp
    have hf : formed (l :: r) = (isNum l.length && formedFrom l.length ls) := by rw [hls]; rfl
    have HF := hid hf
    rw [← hls] at HL HE HL1 HX h0 hp hc hL ⊢
    have HLS := hid hls
    have hc0 : (w.alloc (.cells #[.slice (some ⟨b, o, none⟩) ls.length c] 27)).cell? ⟨b, o, none⟩ = some (.slice x l.length d) := hc
    clear hf hls hl hE hl1 hx hc
    go_enter Try.func62, Try.ntmps62
    go_wp2_with fail
    refine (isNumber_len _ _).mono ?_
    rintro e w' ⟨rfl, rfl⟩
    cases hn : isNum l.length with
    | false =>
      have hfin : formed ls = false := by rw [HLS.out, HF.out, hn]; rfl
      have HFIN := hid hfin
      clear hn hfin
      go_wp2_with fail
      go_ret
      exact ⟨ret_bool HFIN.out.symm, HX.out⟩
    | true =>
      have hfin : formed ls = formedFrom l.length ls := by rw [← HLS.out] at HF; rw [HF.out, hn]; rfl
      have HFIN := hid hfin
      have HN := hid hn
      clear hn hfin
      go_wp2_with fail
      go_loop [3, 27] (fun s iv => ∃ i size : Nat, i ≤ ls.length ∧ size ≤ 1024 ∧ iv = .int .i64 i ∧ s = .int .i64 size ∧ Hid (formed ls = formedFrom size (ls.drop i))) (fun _ iv => ls.length - (intOf iv).toNat)
      case atStart => exact ⟨0, l.length, by omega, (isNum_pos HN.out).2, rfl, rfl, hid (by rw [List.drop_zero]; exact HFIN.out)⟩
      case round =>
        obtain ⟨i, size, hi, hsz, rfl, rfl, hI⟩ := hrel
        by_cases hlt : i < ls.length
        · have hx : ls[i]? = some ls[i] := List.getElem?_eq_getElem hlt
          generalize ls[i] = l' at *
          obtain ⟨b', o', x', d', he, hc', hr', -⟩ := HL1.out.at hx
          injection he with he
          injection he with he1 he2
          subst he1 he2
          have hle' := HE.out l' (List.mem_of_getElem? hx)
          have HXI := hid hx
          clear hx hr'
          by_cases hz : size = 0
          · have hfin : formed ls = false := by rw [hI.out]; exact formed_bad HXI.out (.inl hz)
            have HFI := hid hfin
            have hz' : ((size : Int) == 0) = true := by simp [hz]
            clear hfin hz
            go_wp2
            go_ret
            exact ⟨ret_bool HFI.out.symm, HX.out⟩
          · have hz' : ((size : Int) == 0) = false := by simp; omega
            by_cases hq : l'.length = size
            · have hq' : ((l'.length : Int) != (size : Int)) = false := by simp [hq]
              have hnext := formed_step HXI.out hz hq
              have HNX := hid (hI.out.trans hnext)
              clear hnext hq hz
              go_wp2
              go_round
              case rel => exact ⟨i + 1, size / 2, by omega, by omega, by go_num, by go_num, HNX⟩
              case measure => simp [intOf]; omega
            · have hfin : formed ls = false := by rw [hI.out]; exact formed_bad HXI.out (.inr hq)
              have HFI := hid hfin
              have hq' : ((l'.length : Int) != (size : Int)) = true := by simp; omega
              clear hfin hz hq
              go_wp2
              go_ret
              exact ⟨ret_bool HFI.out.symm, HX.out⟩
        · have hfin : formed ls = (size == 0) := by
            rw [hI.out, List.drop_eq_nil_of_le (by omega)]; rfl
          have HFI := hid hfin
          clear hfin
          go_wp2
          go_ret
          exact ⟨ret_bool (by rw [HFI.out, ← nat_beq0]), HX.out⟩
end Go.Proofs.Ytdpgfjnpcjpdpaa
namespace Go.Proofs.Ytdpgfjnpcjpdpaa
open Go.RowKit
attribute [local irreducible] perm fAdd fMul fPow fSub fNeg fRed

theorem xor1_i64 (m : Nat) (h : m < 2048) : bits .xor .i64 (m : Int) 1 = ((m ^^^ 1 : Nat) : Int) := by
  have key : ∀ k : Fin 2048, bits .xor .i64 (k.val : Int) 1 = ((k.val ^^^ 1 : Nat) : Int) := by decide +kernel
  exact key ⟨m, h⟩
theorem at2_of {ls : Lv} {k i : Nat} {l : List UInt64} {x : UInt64} (h : ls[k]? = some l) (hx : l[i]? = some x) : at2 ls k i = x := by
  have e : ls.getD k [] = l := by rw [List.getD_eq_getElem?_getD, h]; rfl
  unfold at2
  rw [e, List.getD_eq_getElem?_getD, hx]; rfl
theorem lnAt_of {ls : Lv} {k : Nat} {l : List UInt64} (h : ls[k]? = some l) : lnAt ls k = l.length := by
  unfold lnAt
  rw [List.getD_eq_getElem?_getD, h]; rfl

set_option maxRecDepth 100000 in
set_option maxHeartbeats 1600000 in
theorem mRoot_any (lv : Value) (ls : Lv) (w : World) (hl : RdL w lv ls) (hL : ls.length ≤ 1000000000000) (hE : ∀ l ∈ ls, l.length ≤ 1000000000000) :
    Calls Try.prog 17 #[.agg #[lv]] w fun e w' => e = .returned (uv (rootL ls)) ∧ Ext w w' := by
  obtain ⟨a, c, rfl, hc1, hc2, -⟩ := hl.shape
  have hx : Ext w (w.alloc (.cells #[.slice a ls.length c] 27)) := (Ext.refl w).alloc _
  have HWF := hid (wellFormed_any _ ls (w.alloc (.cells #[.slice a ls.length c] 27)) (hl.ext hx) hL hE)
  have HL := hid hl
  have HX := hid hx
  have HC := hid hc1
  have hb := heap_new w (.cells #[.slice a ls.length c] 27)
  have HB := hid hb
  clear hl hE hx hb hc1 hc2
  go_enter Try.func17, Try.ntmps17
  go_wp2_with fail
  refine HWF.out.mono ?_
  rintro e w1 ⟨rfl, hx1⟩
  cases hf : formed ls with
  | false =>
    have hr : rootL ls = 0 := by unfold rootL; rw [hf]; rfl
    have HR := hid hr
    have HX1 := hid (HX.out.trans hx1)
    clear hr hf hx1
    go_wp2_with fail
    go_ret
    exact ⟨by rw [HR.out]; rfl, HX1.out⟩
  | true =>
    have hr : rootL ls = at2 ls (ls.length - 1) 0 := by unfold rootL; rw [hf]; rfl
    have hne := formed_ne hf
    have hlast := formed_last hf
    have hlen : 0 < ls.length := List.length_pos_iff.2 hne
    have hk : ls[ls.length - 1]? = some ls[ls.length - 1] := List.getElem?_eq_getElem (by omega)
    generalize ls[ls.length - 1] = l at *
    rw [lnAt_of hk] at hlast
    have hx0 : l[0]? = some l[0] := List.getElem?_eq_getElem (by omega)
    generalize l[0] = x at *
    rw [at2_of hk hx0] at hr
    have HX1 := hid (HX.out.trans hx1)
    have hb1 := hx1.heap_some HB.out
    have hd0 : w1.cell? ⟨w.heap.size, 0, none⟩ = some (.slice a ls.length c) := cell_of hb1 0
    obtain ⟨b, o, y, d, rfl, hcell, hrd, hld, -⟩ := (HL.out.ext HX1.out).at hk
    obtain ⟨b', o', rfl, hcell'⟩ := hrd.uat hx0
    rw [hlast] at hcell hld
    have hidx : ((ls.length - 1 : Nat) : Int) = (ls.length : Int) - 1 := by omega
    have HR := hid hr
    have h1 : (1 : Int) ≤ (ls.length : Int) := by omega
    have hcell0 : w1.cell? ⟨b', o', none⟩ = some (.int .u64 x.toNat) := hcell'
    obtain ⟨m, hm⟩ : ∃ m, ls.length = m + 1 := ⟨ls.length - 1, by omega⟩
    rw [hm] at hcell hd0 h1 hL ⊢
    rw [Nat.add_sub_cancel] at hcell
    clear hr hf hx1 hne hlast hlen hk hx0 hb1 hrd hidx hcell' hm
    have e1 : ((m + 1 : Nat) : Int) - 1 = (m : Int) := by omega
    go_wp2_with fail
    go_ret
    exact ⟨by rw [HR.out]; rfl, HX1.out⟩
end Go.Proofs.Ytdpgfjnpcjpdpaa
