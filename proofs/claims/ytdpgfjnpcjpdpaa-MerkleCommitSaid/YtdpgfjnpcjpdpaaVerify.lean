/- possible, Verify. -/
import Derived.Test.YtdpgfjnpcjpdpaaFollow2
set_option linter.unusedSimpArgs false
namespace Go.Proofs.Ytdpgfjnpcjpdpaa
open Go.RowKit
attribute [local irreducible] perm fAdd fMul fPow fSub fNeg fRed hashU drawOf nextState

theorem big_dec (x : UInt64) : decide ((x.toNat : Int) < 18446744069414584321) = decide (x < big) := by
  by_cases h : x < big
  · rw [decide_eq_true h, decide_eq_true ((lt_big_iff x).1 h)]
  · rw [decide_eq_false h, decide_eq_false (fun e => h ((lt_big_iff x).2 e))]
set_option maxRecDepth 1000000 in
set_option maxHeartbeats 3200000 in
theorem possible_any {w : World} {root : UInt64} {n i : Int} {lf pv : Value} {x : Opn} (hl : RdU' w lf x.leaf) (hp : RdU' w pv x.path) (hpl : x.path.length ≤ 40) (hL : x.leaf.length ≤ 1000000000) :
    Calls Try.prog 72 #[uv root, .int .i64 n, .int .i64 i, .agg #[lf, uv x.salt, pv]] w fun e w' => e = .returned (.bool (possible root n i x)) ∧ Ext w w' := by
  obtain ⟨la, lc, rfl, -⟩ := id hl
  obtain ⟨pa, pc, rfl, -⟩ := id hp
  have hx : Ext w (w.alloc (.cells #[.slice la x.leaf.length lc, uv x.salt, .slice pa x.path.length pc] 59)) := (Ext.refl w).alloc _
  have HEL := hid (melements_any _ x.leaf _ (hl.ext hx) (by omega))
  have HEP := hid (melements_any _ x.path _ (hp.ext hx) (by omega))
  have HN := hid (isNumber_any n)
  have hdef : possible root n i x = (numI n && (decide (0 ≤ i) && (decide (i < n) && ((((2 ^ x.path.length : Nat) : Int) == n) && (decide (root < big) && (decide (x.salt < big) && (allE x.leaf && allE x.path))))))) := rfl
  have HX := hid hx
  have hr := big_dec root
  have hs := big_dec x.salt
  have HR := hid hr
  have HS := hid hs
  obtain ⟨P, hP⟩ : ∃ P, P = possible root n i x := ⟨_, rfl⟩
  rw [← hP] at hdef ⊢
  have HD := hid hdef
  have HPL := hid hpl
  clear hl hp hx hdef hr hs hP hL hpl
  cases hn : numI n with
  | false =>
    have HN' := HN.out
    rw [hn] at HN'
    have HNN := hid HN'
    clear HN' HN
    have hfin : P = false := by rw [HD.out, hn]; rfl
    have HFIN := hid hfin
    clear hn hfin
    go_enter Try.func72, Try.ntmps72
    go_wp2_with fail
    refine (HNN.out _).mono ?_
    rintro e w1 ⟨rfl, rfl⟩
    go_wp2_with fail
    go_ret
    exact ⟨ret_bool HFIN.out.symm, HX.out⟩
  | true =>
    have HN' := HN.out
    rw [hn] at HN'
    have HNN := hid HN'
    clear HN' HN
    have HNT := hid hn
    clear hn
    by_cases hi : 0 ≤ i ∧ i < n
    case neg =>
      have hfin : P = false := by
        rw [HD.out]
        by_cases h0 : 0 ≤ i
        · rw [decide_eq_false (fun h => hi ⟨h0, h⟩)]; simp
        · rw [decide_eq_false h0]; simp
      have HFIN := hid hfin
      clear hfin
      by_cases h0 : i < 0
      · clear hi
        go_enter Try.func72, Try.ntmps72
        go_wp2_with fail
        refine (HNN.out _).mono ?_
        rintro e w1 ⟨rfl, rfl⟩
        go_wp2_with fail
        go_ret
        exact ⟨ret_bool HFIN.out.symm, HX.out⟩
      · have h1 : ¬ i < n := fun h => hi ⟨by omega, h⟩
        clear hi
        go_enter Try.func72, Try.ntmps72
        go_wp2_with fail
        refine (HNN.out _).mono ?_
        rintro e w1 ⟨rfl, rfl⟩
        go_wp2_with fail
        go_ret
        exact ⟨ret_bool HFIN.out.symm, HX.out⟩
    obtain ⟨h0, h1⟩ := hi
    have H0 := hid h0
    have H1 := hid h1
    obtain ⟨K, hK⟩ : ∃ K : Int, K = ((2 ^ x.path.length : Nat) : Int) := ⟨_, rfl⟩
    have hsh : ∀ yk : IntKind, Op.shift .shl .i64 1 yk (x.path.length : Int) = pure (.int .i64 K) := by
      intro yk
      have h1 := HPL.out
      have h2 : 2 ^ x.path.length ≤ 2 ^ 40 := Nat.pow_le_pow_right (by omega) h1
      have h3 : ((2 : Int) ^ x.path.length) = ((2 ^ x.path.length : Nat) : Int) := by simp
      have e : IntKind.i64.wrap (1 * 2 ^ ((x.path.length : Int)).toNat) = K := by
        rw [show ((x.path.length : Int)).toNat = x.path.length from Int.toNat_natCast _, Int.one_mul, h3, hK]
        generalize 2 ^ x.path.length = y at *
        exact IntWalk.i64_in _ (by omega)
      rw [shift_shl_i64 yk 1 _ (by omega) (by omega), e]
    have HK := hid hK
    clear hK h0 h1
    have h0 : decide (i < 0) = false := by have := H0.out; simp; omega
    have h1 : decide (n ≤ i) = false := by have := H1.out; simp; omega
    cases hkn : (K == n) with
    | false =>
      have hkn2 : (K != n) = true := by simp [bne, hkn]
      have hfin : P = false := by rw [HD.out, ← HK.out, hkn]; simp
      have HFIN := hid hfin
      clear hfin
      go_enter Try.func72, Try.ntmps72
      go_wp2_with fail
      refine (HNN.out _).mono ?_
      rintro e w1 ⟨rfl, rfl⟩
      go_wp2_with fail
      go_ret
      exact ⟨ret_bool HFIN.out.symm, HX.out⟩
    | true =>
      have hkn2 : (K != n) = false := by simp [bne, hkn]
      have hgen : P = (decide (root < big) && (decide (x.salt < big) && (allE x.leaf && allE x.path))) := by
        rw [HD.out, HNT.out, ← HK.out, hkn, decide_eq_true H0.out, decide_eq_true H1.out]; simp
      have HG := hid hgen
      clear hgen
      cases hrb : decide (root < big) with
      | false =>
        have hr1 : decide ((root.toNat : Int) < 18446744069414584321) = false := by rw [HR.out]; exact hrb
        have hfin : P = false := by rw [HG.out, hrb]; rfl
        have HFIN := hid hfin
        clear hfin hrb
        go_enter Try.func72, Try.ntmps72
        go_wp2_with fail
        refine (HNN.out _).mono ?_
        rintro e w1 ⟨rfl, rfl⟩
        go_wp2_with fail
        go_ret
        exact ⟨ret_bool HFIN.out.symm, HX.out⟩
      | true =>
        have hr1 : decide ((root.toNat : Int) < 18446744069414584321) = true := by rw [HR.out]; exact hrb
        have HRB := hid hrb
        clear hrb
        cases hsb : decide (x.salt < big) with
        | false =>
          have hs1 : decide ((x.salt.toNat : Int) < 18446744069414584321) = false := by rw [HS.out]; exact hsb
          have hfin : P = false := by rw [HG.out, hsb]; simp
          have HFIN := hid hfin
          clear hfin hsb
          go_enter Try.func72, Try.ntmps72
          go_wp2_with fail
          refine (HNN.out _).mono ?_
          rintro e w1 ⟨rfl, rfl⟩
          go_wp2_with fail
          go_ret
          exact ⟨ret_bool HFIN.out.symm, HX.out⟩
        | true =>
          have hs1 : decide ((x.salt.toNat : Int) < 18446744069414584321) = true := by rw [HS.out]; exact hsb
          have hfin : P = (allE x.leaf && allE x.path) := by rw [HG.out, hsb, HRB.out]; rfl
          have HFIN := hid hfin
          clear hfin hsb
          cases hal : allE x.leaf with
          | false =>
            have HEL' := HEL.out
            rw [hal] at HEL' HFIN
            have HELL := hid HEL'
            clear HEL' hal
            go_enter Try.func72, Try.ntmps72
            go_wp2_with fail
            refine (HNN.out _).mono ?_
            rintro e w1 ⟨rfl, rfl⟩
            go_wp2_with fail
            refine HELL.out.mono ?_
            rintro e w1 ⟨rfl, rfl⟩
            go_wp2_with fail
            go_ret
            exact ⟨ret_bool HFIN.out.symm, HX.out⟩
          | true =>
            have HEL' := HEL.out
            rw [hal] at HEL' HFIN
            have HELL := hid HEL'
            clear HEL' hal
            go_enter Try.func72, Try.ntmps72
            go_wp2_with fail
            refine (HNN.out _).mono ?_
            rintro e w1 ⟨rfl, rfl⟩
            go_wp2_with fail
            refine HELL.out.mono ?_
            rintro e w1 ⟨rfl, rfl⟩
            go_wp2_with fail
            refine HEP.out.mono ?_
            rintro e w1 ⟨rfl, rfl⟩
            go_wp2_with fail
            go_ret
            exact ⟨ret_bool (by rw [HFIN.out]; rfl), HX.out⟩

structure PossR (root : UInt64) (n i : Int) (x : Opn) (j : Nat) : Prop where
  eq : i = (j : Int)
  num : numI n = true
  lt : (j : Int) < n
  len : ((2 ^ x.path.length : Nat) : Int) = n
  l10 : x.path.length ≤ 10
  j1024 : j ≤ 1024
  root : root < big
  salt : x.salt < big
  leaf : allE x.leaf = true
  path : allE x.path = true
theorem possible_parts {root : UInt64} {n i : Int} {x : Opn} (h : possible root n i x = true) : ∃ j, PossR root n i x j := by
  unfold possible at h
  simp only [Bool.and_eq_true, decide_eq_true_eq, beq_iff_eq] at h
  obtain ⟨h1, h2, h3, h4, h5, h6, h7, h8⟩ := h
  have hn : n ≤ 1024 := by
    unfold numI at h1
    simp only [Bool.and_eq_true, decide_eq_true_eq] at h1
    exact h1.2.1
  have hl : x.path.length ≤ 10 := by
    rcases Nat.lt_or_ge x.path.length 11 with h | h
    · omega
    · have := Nat.pow_le_pow_right (show 0 < 2 by omega) h
      omega
  exact ⟨i.toNat, by omega, h1, by omega, h4, hl, by omega, h5, h6, h7, h8⟩
def VerO (w : World) (b : Nat) (F : Nat → Prop) (r : Bool × Orc) (e : Ending) (w' : World) : Prop := e = .returned (.bool r.1) ∧ ∃ F', OrcTo w b F r.2 w' F'
set_option maxRecDepth 100000 in
set_option maxHeartbeats 3200000 in
theorem mVerify_any {w : World} {b : Nat} {M : Orc} {F : Nat → Prop} {root : UInt64} {n i : Int} {lf pv : Value} {x : Opn} (h : OrcAt w b M F) (hl : Stays F w fun v => RdU' v lf x.leaf) (hp : Stays F w fun v => RdU' v pv x.path)
    (hpl : x.path.length ≤ 40) (hL : x.leaf.length ≤ 1000000000) (hq : M.qs.length ≤ 100000000) (hd : M.draws ≤ 100000000) :
    Calls Try.prog 33 #[.pointer (some ⟨b, 0, none⟩), uv root, .int .i64 n, .int .i64 i, .agg #[lf, uv x.salt, pv]] w (VerO w b F (M.verify root n i x)) := by
  obtain ⟨la, lc, rfl, -⟩ := id (hl w (Kp.refl F w))
  obtain ⟨pa, pc, rfl, -⟩ := id (hp w (Kp.refl F w))
  have hx1 : Ext w (w.alloc (.cells #[.pointer (some ⟨b, 0, none⟩)] 38)) := (Ext.refl w).alloc _
  have hx2 : Ext w ((w.alloc (.cells #[.pointer (some ⟨b, 0, none⟩)] 38)).alloc (.cells #[.slice la x.leaf.length lc, uv x.salt, .slice pa x.path.length pc] 59)) := hx1.alloc _
  have HPO := hid (possible_any (root := root) (n := n) (i := i) (x := x) (hl _ (Kp.of_ext hx2)) (hp _ (Kp.of_ext hx2)) (by omega) hL)
  have hb1 : ((w.alloc (.cells #[.pointer (some ⟨b, 0, none⟩)] 38)).alloc (.cells #[.slice la x.leaf.length lc, uv x.salt, .slice pa x.path.length pc] 59)).heap[w.heap.size]? = some (.cells #[.pointer (some ⟨b, 0, none⟩)] 38 (0, 0)) := heap_alloc_some (heap_new w _)
  have hb2 : ((w.alloc (.cells #[.pointer (some ⟨b, 0, none⟩)] 38)).alloc (.cells #[.slice la x.leaf.length lc, uv x.salt, .slice pa x.path.length pc] 59)).heap[w.heap.size + 1]? = some (.cells #[.slice la x.leaf.length lc, uv x.salt, .slice pa x.path.length pc] 59 (0, 0)) := by
    have := heap_new (w.alloc (.cells #[.pointer (some ⟨b, 0, none⟩)] 38)) (.cells #[.slice la x.leaf.length lc, uv x.salt, .slice pa x.path.length pc] 59)
    rwa [World.size_alloc] at this
  have hmf : ∀ (fn : Fn) (first cap : Array Value) (w : World), (Instr.makeFunc fn first cap).run Try.prog w = .ok (.func fn first cap) w := fun _ _ _ _ => rfl
  have hvd : M.verify root n i x = if possible root n i x then (folOk (M.fol (if M.ideal then peekF else hashF) i.toNat x) root, (M.fol (if M.ideal then peekF else hashF) i.toNat x).2) else (false, M) := rfl
  have HV := hid hvd
  have HX2 := hid hx2
  have HB1 := hid hb1
  have HB2 := hid hb2
  have HH := hid h
  have HL := hid hl
  have HP := hid hp
  have HLL := hid hL
  have HQ := hid hq
  have HD := hid hd
  clear h hl hp hpl hL hq hd hx1 hx2 hb1 hb2 hvd
  cases hpo : possible root n i x with
  | false =>
    have HPO' := HPO.out
    rw [hpo] at HPO'
    have HPP := hid HPO'
    have hv : M.verify root n i x = (false, M) := by rw [HV.out, hpo]; rfl
    rw [hv]
    clear HPO' HPO hpo hv hmf
    go_enter Try.func33, Try.ntmps33
    go_wp2_with fail
    refine HPP.out.mono ?_
    rintro e w1 ⟨rfl, hx⟩
    have HX := hid hx
    clear hx
    go_wp2_with fail
    go_ret
    exact ⟨rfl, F, .of_ext HH.out (HX2.out.trans HX.out)⟩
  | true =>
    obtain ⟨j, hj⟩ := possible_parts hpo
    have HPO' := HPO.out
    rw [hpo] at HPO'
    have HPP := hid HPO'
    obtain rfl := hj.eq
    have hv : M.verify root n j x = (folOk (M.fol (if M.ideal then peekF else hashF) j x) root, (M.fol (if M.ideal then peekF else hashF) j x).2) := by rw [HV.out, hpo]; rfl
    have HJ := hid hj
    cases hI : M.ideal with
    | true =>
      rw [hI] at hv
      simp only [if_true] at hv
      rw [hv]
      have HI := hid hI
      clear HPO' HPO hpo hv hj hI
      go_enter Try.func33, Try.ntmps33
      go_wp2_with fail
      refine HPP.out.mono ?_
      rintro e w1 ⟨rfl, hx⟩
      have hat := HH.out.ext (HX2.out.trans hx)
      have c1 : w1.cell? ⟨w.heap.size, 0, none⟩ = some (.pointer (some ⟨b, 0, none⟩)) := cell_of (hx.heap_some HB1.out) 0
      have h2 := hx.heap_some HB2.out
      have e0 : w1.cell? ⟨w.heap.size + 1, 0, none⟩ = some (.slice la x.leaf.length lc) := cell_of h2 0
      have e1 : w1.cell? ⟨w.heap.size + 1, 1, none⟩ = some (uv x.salt) := cell_of h2 1
      have e2 : w1.cell? ⟨w.heap.size + 1, 2, none⟩ = some (.slice pa x.path.length pc) := cell_of h2 2
      have hpre := HX2.out.trans hx
      have HPR := hid hpre
      have HAT := hid hat
      have hid1 := IsIdeal_any hat
      rw [HI.out] at hid1
      have HID := hid hid1
      have HFO := hid (follow_peek (root := root) (i := j) (x := x) hat (lf := .slice la x.leaf.length lc) (pv := .slice pa x.path.length pc) (fun w' k => HL.out w' ((Kp.of_ext hpre).trans k)) (fun w' k => HP.out w' ((Kp.of_ext hpre).trans k)) HJ.out.l10 HJ.out.j1024 HLL.out HQ.out HD.out)
      clear hx h2 hpre hat hid1
      go_wp2_with fail
      refine HID.out.mono ?_
      rintro e w2 ⟨rfl, rfl⟩
      go_wp2_with fail
      refine HFO.out.mono ?_
      rintro e w3 ⟨v, A, F', rfl, ht, -⟩
      have HT := hid ht
      clear ht
      go_wp2_with fail
      go_ret
      exact ⟨rfl, F', HT.out.pre HPR.out⟩
    | false =>
      rw [hI] at hv
      simp only [Bool.false_eq_true, if_false] at hv
      rw [hv]
      have HI := hid hI
      clear HPO' HPO hpo hv hj hI
      go_enter Try.func33, Try.ntmps33
      go_wp2_with fail
      refine HPP.out.mono ?_
      rintro e w1 ⟨rfl, hx⟩
      have hat := HH.out.ext (HX2.out.trans hx)
      have c1 : w1.cell? ⟨w.heap.size, 0, none⟩ = some (.pointer (some ⟨b, 0, none⟩)) := cell_of (hx.heap_some HB1.out) 0
      have h2 := hx.heap_some HB2.out
      have e0 : w1.cell? ⟨w.heap.size + 1, 0, none⟩ = some (.slice la x.leaf.length lc) := cell_of h2 0
      have e1 : w1.cell? ⟨w.heap.size + 1, 1, none⟩ = some (uv x.salt) := cell_of h2 1
      have e2 : w1.cell? ⟨w.heap.size + 1, 2, none⟩ = some (.slice pa x.path.length pc) := cell_of h2 2
      have hpre := HX2.out.trans hx
      have HPR := hid hpre
      have hbx : BoxAt w.heap.size b w1 F := ⟨hx.heap_some HB1.out, fun hf => by have := HH.out.foot_lt _ hf; omega⟩
      have hid1 := IsIdeal_any hat
      rw [HI.out] at hid1
      have HID := hid hid1
      have HFO := hid (follow_hash (root := root) (i := j) (x := x) hat hbx (lf := .slice la x.leaf.length lc) (pv := .slice pa x.path.length pc) (fun w' k => HL.out w' ((Kp.of_ext hpre).trans k)) (fun w' k => HP.out w' ((Kp.of_ext hpre).trans k)) HJ.out.l10 HJ.out.j1024 HLL.out HQ.out HD.out)
      clear hx h2 hpre hat hid1 hbx
      go_wp2_with fail
      refine HID.out.mono ?_
      rintro e w2 ⟨rfl, rfl⟩
      go_wp2_with fail
      refine HFO.out.mono ?_
      rintro e w3 ⟨v, A, F', rfl, ht, -⟩
      have HT := hid ht
      clear ht
      go_wp2_with fail
      go_ret
      exact ⟨rfl, F', HT.out.pre HPR.out⟩
end Go.Proofs.Ytdpgfjnpcjpdpaa
