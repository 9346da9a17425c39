/- Well-formed levels, root and path: the program's walks. -/
import Derived.Test.YtdpgfjnpcjpdpaaTree
set_option linter.unusedSimpArgs false
namespace Go.Proofs.Ytdpgfjnpcjpdpaa
open Go.RowKit
attribute [local irreducible] perm fAdd fMul fPow fSub fNeg fRed

theorem formed_step {ls : Lv} {i size : Nat} {l : List UInt64} (h : ls[i]? = some l) (h0 : size ≠ 0) (h1 : l.length = size) : formedFrom size (ls.drop i) = formedFrom (size / 2) (ls.drop (i + 1)) := by
  obtain ⟨hi, rfl⟩ := List.getElem?_eq_some_iff.1 h
  rw [List.drop_eq_getElem_cons hi, formedFrom, h1]
  simp [h0]
theorem formed_bad {ls : Lv} {i size : Nat} {l : List UInt64} (h : ls[i]? = some l) (h0 : size = 0 ∨ l.length ≠ size) : formedFrom size (ls.drop i) = false := by
  obtain ⟨hi, rfl⟩ := List.getElem?_eq_some_iff.1 h
  rw [List.drop_eq_getElem_cons hi, formedFrom]
  rcases h0 with h0 | h0 <;> simp [h0]
theorem int_eqB (a b : Nat) : ((a : Int) == (b : Int)) = decide (a = b) := by
  by_cases h : a = b
  · subst h; simp
  · rw [decide_eq_false h]; simp; omega
theorem nat_beq0 (n : Nat) : ((n : Int) == 0) = (n == 0) := by
  cases n with
  | zero => rfl
  | succ n => simp; omega

set_option maxRecDepth 100000 in
set_option maxHeartbeats 1600000 in
theorem wellFormed_any (lv : Value) (ls : Lv) (w : World) (hl : RdL w lv ls) (hL : ls.length ≤ 1000000000000) (hE : ∀ l ∈ ls, l.length ≤ 1000000000000) :
    Calls Try.prog 62 #[.agg #[lv]] w fun e w' => e = .returned (.bool (formed ls)) ∧ Ext w w' := by
  obtain ⟨a, c, rfl, -⟩ := hl.shape
  have HL := hid hl
  have HE := hid hE
  have hx : Ext w (w.alloc (.cells #[.slice a ls.length c] 27)) := (Ext.refl w).alloc _
  have hl1 := hl.ext hx
  have HL1 := hid hl1
  have HX := hid hx
  cases ls with
  | nil =>
    have h0 : (((([] : Lv).length : Nat) : Int) == 0) = true := rfl
    clear hE hl hx hl1
    go_enter Try.func62, Try.ntmps62
    go_wp2
    go_ret
    exact ⟨rfl, HX.out⟩
  | cons l r =>
    obtain ⟨b, o, x, d, rfl, hc, hr, -⟩ := hl1.at (i := 0) (l := l) rfl
    have hle := hE l (by simp)
    obtain ⟨ls, hls⟩ : ∃ ls, ls = l :: r := ⟨_, rfl⟩
    have h0 : (((l :: r).length : Int) == 0) = false := by simp; omega
    have hp : 0 < (l :: r).length := by simp
    have hf : formed (l :: r) = (isNum l.length && formedFrom l.length ls) := by rw [hls]; rfl
    have HF := hid hf
    rw [← hls] at HL HE HL1 HX h0 hp hc hL ⊢
    have HLS := hid hls
    have hc0 : (w.alloc (.cells #[.slice (some ⟨b, o, none⟩) ls.length c] 27)).cell? ⟨b, o, none⟩ = some (.slice x l.length d) := hc
    clear hf hls hl hE hl1 hx hc
    go_enter Try.func62, Try.ntmps62
    go_wp2_with fail
    refine (isNumber_len _ _).mono ?_
    rintro e w' ⟨rfl, rfl⟩
    cases hn : isNum l.length with
    | false =>
      have hfin : formed ls = false := by rw [HLS.out, HF.out, hn]; rfl
      have HFIN := hid hfin
      clear hn hfin
      go_wp2_with fail
      go_ret
      exact ⟨ret_bool HFIN.out.symm, HX.out⟩
    | true =>
      have hfin : formed ls = formedFrom l.length ls := by rw [← HLS.out] at HF; rw [HF.out, hn]; rfl
      have HFIN := hid hfin
      have HN := hid hn
      clear hn hfin
      go_wp2_with fail
      go_loop [3, 27] (fun s iv => ∃ i size : Nat, i ≤ ls.length ∧ size ≤ 1024 ∧ iv = .int .i64 i ∧ s = .int .i64 size ∧ Hid (formed ls = formedFrom size (ls.drop i))) (fun _ iv => ls.length - (intOf iv).toNat)
      case atStart => exact ⟨0, l.length, by omega, (isNum_pos HN.out).2, rfl, rfl, hid (by rw [List.drop_zero]; exact HFIN.out)⟩
      case round =>
        obtain ⟨i, size, hi, hsz, rfl, rfl, hI⟩ := hrel
        by_cases hlt : i < ls.length
        · have hx : ls[i]? = some ls[i] := List.getElem?_eq_getElem hlt
          generalize ls[i] = l' at *
          obtain ⟨b', o', x', d', he, hc', hr', -⟩ := HL1.out.at hx
          injection he with he
          injection he with he1 he2
          subst he1 he2
          have hle' := HE.out l' (List.mem_of_getElem? hx)
          have HXI := hid hx
          clear hx hr'
          by_cases hz : size = 0
          · have hfin : formed ls = false := by rw [hI.out]; exact formed_bad HXI.out (.inl hz)
            have HFI := hid hfin
            have hz' : ((size : Int) == 0) = true := by simp [hz]
            clear hfin hz
            go_wp2
            go_ret
            exact ⟨ret_bool HFI.out.symm, HX.out⟩
          · have hz' : ((size : Int) == 0) = false := by simp; omega
            by_cases hq : l'.length = size
            · have hq' : ((l'.length : Int) != (size : Int)) = false := by simp [hq]
              have hnext := formed_step HXI.out hz hq
              have HNX := hid (hI.out.trans hnext)
              clear hnext hq hz
              go_wp2
              go_round
              case rel => exact ⟨i + 1, size / 2, by omega, by omega, by go_num, by go_num, HNX⟩
              case measure => simp [intOf]; omega
            · have hfin : formed ls = false := by rw [hI.out]; exact formed_bad HXI.out (.inr hq)
              have HFI := hid hfin
              have hq' : ((l'.length : Int) != (size : Int)) = true := by simp; omega
              clear hfin hz hq
              go_wp2
              go_ret
              exact ⟨ret_bool HFI.out.symm, HX.out⟩
        · have hfin : formed ls = (size == 0) := by
            rw [hI.out, List.drop_eq_nil_of_le (by omega)]; rfl
          have HFI := hid hfin
          clear hfin
          go_wp2
          go_ret
          exact ⟨ret_bool (by rw [HFI.out, ← nat_beq0]), HX.out⟩
end Go.Proofs.Ytdpgfjnpcjpdpaa
