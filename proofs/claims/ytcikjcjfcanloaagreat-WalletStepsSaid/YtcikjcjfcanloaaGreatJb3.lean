/- Texts of this claim, joined: L49Stp. -/
import Derived.Test.YtcikjcjfcanloaaGreatJa24
import Derived.Test.YtcikjcjfcanloaaGreatJa25
import Derived.Test.YtcikjcjfcanloaaGreatJb1
set_option linter.unusedSimpArgs false
namespace Go.Proofs.YtcikjcjfcanloaaGreat
open Go.RowKit
attribute [local irreducible] perm fAdd fMul fPow fSub fNeg fRed hashU drawOf nextState cipSeal
set_option maxRecDepth 100000 in
set_option maxHeartbeats 25600000 in
theorem walletSteps_any (seed : UInt64) (d : Int) (ov : Value) (ops : List OpT) (w : World) (h : RdWops w ov ops) :
    Calls Tryz.prog 6 #[uv seed, .agg #[.int .i64 d, ov]] w fun e w' => e = .returned (.bool true) ∧ Ext w w' := by
  have HH := hid h
  have AW := hid awake49_any
  have SM : Hid (∀ u, Ext w u → Calls Tryz.prog 19 #[.int .i64 d, ov] u fun e w' => e = .returned (.bool (smallW d ops)) ∧ Ext u w') := hid fun u k => small49_any d ov ops u (h.ext k)
  obtain ⟨oa, oc, rfl, -⟩ := h.shape
  obtain ⟨N, hN⟩ : ∃ N, N = w.heap.size := ⟨_, rfl⟩
  obtain ⟨w0, hw0⟩ : ∃ w0, w0 = w.alloc (.cells #[.int .i64 d, .slice oa ops.length oc] 25) := ⟨_, rfl⟩
  have hx0 : Ext w w0 := by rw [hw0]; exact (Ext.refl w).alloc _
  have hb0 : w0.heap[N]? = some (.cells #[.int .i64 d, .slice oa ops.length oc] 25 (0, 0)) := by rw [hw0, hN]; exact heap_new _ _
  have HB := hid hb0
  have HX0 := hid hx0
  have HW := hid hw0
  obtain ⟨S, hS⟩ : ∃ S, S = smallW d ops := ⟨_, rfl⟩
  rw [← hS] at SM
  have HS := hid hS
  have HC : Hid (∀ u, Ext w0 u → u.cell? ⟨N, 0, none⟩ = some (.int .i64 d) ∧ u.cell? ⟨N, 1, none⟩ = some (.slice oa ops.length oc)) := hid fun u k => ⟨cell_of (k.heap_some HB.out) 0, cell_of (k.heap_some HB.out) 1⟩
  clear h hw0 hx0 hb0 hS
  go_enter Tryz.func6, Tryz.ntmps6
  go_upto_region 1 with fail
  rw [← HW.out, ← hN]
  clear hN HW
  go_wp2_with fail
  refine (AW.out _).mono ?_
  rintro e w1 ⟨rfl, hx⟩
  have X1 := hid hx
  clear hx
  obtain ⟨c0, c1⟩ := HC.out w1 X1.out
  go_wp2_with fail
  refine (SM.out _ (HX0.out.trans X1.out)).mono ?_
  rintro e w2 ⟨rfl, hx⟩
  have X2 := hid (X1.out.trans hx)
  clear hx SM c0 c1
  cases S with
  | false =>
    go_wp2_with fail
    refine (AW.out _).mono ?_
    rintro e w3 ⟨rfl, hx⟩
    have X3 := hid (X2.out.trans hx)
    clear hx AW
    go_wp2_with fail
    go_ret
    exact ⟨rfl, HX0.out.trans X3.out⟩
  | true =>
    obtain ⟨n, rfl, h1, h6, h8, hbs⟩ := small_facts HS.out.symm
    have HD := hid (And.intro h1 h6)
    by_cases h4 : ops.length ≤ 4
    case neg =>
      have hB : decide ((4 : Int) < (ops.length : Int)) = true := decide_eq_true (by omega)
      have hB2 : decide (4 < ops.length) = true := decide_eq_true (by omega)
      obtain ⟨c0, c1⟩ := HC.out w2 X2.out
      clear h4
      go_wp2_with fail
      refine (AW.out _).mono ?_
      rintro e w3 ⟨rfl, hx⟩
      have X3 := hid (X2.out.trans hx)
      clear hx AW c0 c1
      go_wp2_with fail
      go_ret
      exact ⟨rfl, HX0.out.trans X3.out⟩
    have hB : decide ((4 : Int) < (ops.length : Int)) = false := decide_eq_false (by omega)
    have hB2 : decide (4 < ops.length) = false := decide_eq_false (by omega)
    have HB4 := hid h4
    have HBS := hid hbs
    have ho8 : (ops.length : Int) ≤ 8 := by omega
    have hcc : ops.length ≤ oc := by
      obtain ⟨a', c', e, g2, g3⟩ := HH.out.shape
      injection e with e1 e2 e3
      omega
    have hccI : (ops.length : Int) ≤ (oc : Int) := by omega
    obtain ⟨c0, c1⟩ := HC.out w2 X2.out
    clear AW h4 hbs h1 h6 h8 hcc
    go_wp2_with fail
    clear hB hB2 c0 c1
    go_loopw [29] (fun iv wr => ∃ i : Nat, i ≤ ops.length ∧ iv = .int .i64 i ∧ Hid (Ext w0 wr)) (fun iv _ => ops.length - (intOf iv).toNat)
    case atStart => exact ⟨0, by omega, rfl, X2⟩
    case round =>
      obtain ⟨i, hi, rfl, HX⟩ := hrel
      have hi0 : (0 : Int) ≤ (i : Int) := Int.natCast_nonneg _
      by_cases hlt : i < ops.length
      · have hltB : decide ((i : Int) < (ops.length : Int)) = true := by simp; omega
        have hil : (i : Int) < (ops.length : Int) := by omega
        have hii : (i : Int) + 1 ≤ (ops.length : Int) := by omega
        obtain ⟨ad, rfl⟩ : ∃ ad, oa = some ad := by
          cases oa with
          | none =>
            obtain ⟨X, -, ⟨a', c', e, g2, -, g4, -⟩, -⟩ := HH.out
            injection e with e1 e2 e3
            have := g4 e1.symm
            omega
          | some ad => exact ⟨ad, rfl⟩
        have HLT := hid hlt
        have TL : Hid ((ops.take (i + 1)).length = i + 1) := hid (by rw [List.length_take]; omega)
        have PL : Hid (∀ u, Ext w0 u → Calls Tryz.prog 22 #[.int .i64 (n : Int), uv seed, .slice (some ad) (i + 1) oc] u fun e w' => ∃ W lv, e = .returned (.tuple #[.pointer (some ⟨W, 0, none⟩), lv, .bool true]) ∧ PlI u w' W n (fRed seed) (playW n (ops.take (i + 1))) lv) := hid fun u k => play49_any n HD.out.1 (by have := HD.out.2; omega) seed (.slice (some ad) (i + 1) oc) (ops.take (i + 1)) u ((HH.out.ext (HX0.out.trans k)).take (by omega)) (fun o ho => HBS.out o (List.mem_of_mem_take ho)) (by have := TL.out; have := HB4.out; omega)
        have HOK := hid (playW_ok n (ops.take (i + 1)))
        have HLE : Hid ((playW n (ops.take (i + 1))).length ≤ 8) := hid (by have h1 := playW_len (d := n) (ops := ops.take (i + 1)); have := TL.out; have := HB4.out; omega)
        have HMB : Hid (∀ b ∈ playW n (ops.take (i + 1)), BSm b) := hid fun b hb => by
          obtain ⟨o, ho, rfl⟩ := playW_mem hb
          exact HBS.out o (List.mem_of_mem_take ho)
        obtain ⟨l, hl⟩ : ∃ l, l = playW n (ops.take (i + 1)) := ⟨_, rfl⟩
        rw [← hl] at PL HOK HLE HMB
        have HS0 := HC.out _ (HX.out.trans (Ext.refl wr).drew)
        have HXD : Ext w0 wr.drew := HX.out.trans (Ext.refl wr).drew
        have HSP : Hid (∀ u, Ext w0 u → (u.cell? ⟨N, 0, none⟩ = some (.int .i64 (n : Int)) ∧ u.cell? ⟨N, 1, none⟩ = some (.slice (some ad) ops.length oc)) ∧ Ext w0 u) := hid fun u k => ⟨HC.out u k, k⟩
        clear hl HS0
        go_wp2_with fail
        refine wp_region_T (fun u => (u.cell? ⟨N, 0, none⟩ = some (.int .i64 (n : Int)) ∧ u.cell? ⟨N, 1, none⟩ = some (.slice (some ad) ops.length oc)) ∧ Ext w0 u) 15 [(0, true), (1, true), (2, true), (3, true), (4, true), (5, true), (6, true), (7, false), (8, false), (9, true), (10, true), (11, true), (12, true), (13, true), (14, true), (15, false)] (by kernel_rfl) (by kernel_rfl) (by intro c a d v w h; cases d <;> exact h) ?_
        intro ops hops
        have HS0 := HSP.out _ HXD
        iterate 7
          refine wpT_take (v := ?_) (by rw [hops, List.getElem?_toArray]; rfl) (by first | rfl | (rw [hops]; rfl)) ?_ HS0 ?_
          rotate_left
          · intro v h; go_simp; with_reducible rfl
          simp only [Act.put, List.getElem_toArray, List.getElem_cons_zero, List.getElem_cons_succ, List.setIfInBounds_toArray, List.set_cons_zero, List.set_cons_succ]
        refine wpT_step (by rw [hops, List.getElem?_toArray]; rfl) (by first | rfl | (rw [hops]; rfl)) ?_
        intro K hK
        go_wp2_with fail
        refine ⟨fun _ => HSP.out _ HXD, ?_⟩
        try rw [← hops]
        refine wpT_step (by rw [hops, List.getElem?_toArray]; rfl) (by first | rfl | (rw [hops]; rfl)) ?_
        intro K hK
        go_wp2_with fail
        refine (PL.out _ HXD).mono ?_
        rintro e w3 ⟨W, lv, rfl, G, hwal, hgn, hrd, hng, hx⟩
        obtain ⟨la, lc, rfl, -⟩ := hrd.shape
        have X3 := hid (HXD.trans hx)
        have HWAL := hid (And.intro hwal (hrd.old hx))
        have HS1 := HSP.out _ X3.out
        clear hwal hgn hrd hng hx HS0 PL HXD
        refine hK _ _ ⟨fun _ => HS1, ?_⟩
        clear hK K
        iterate 6
          refine wpT_take (v := ?_) (by rw [hops, List.getElem?_toArray]; rfl) (by first | rfl | (rw [hops]; rfl)) ?_ HS1 ?_
          rotate_left
          · intro v h; go_simp; with_reducible rfl
          simp only [Act.put, List.getElem_toArray, List.getElem_cons_zero, List.getElem_cons_succ, List.setIfInBounds_toArray, List.set_cons_zero, List.set_cons_succ]
        refine wpT_step (by rw [hops, List.getElem?_toArray]; rfl) (by first | rfl | (rw [hops]; rfl)) ?_
        intro K hK
        go_wp2_with fail
        try (with_reducible refine ⟨fun h => absurd h (by decide), ?_⟩)
        try rw [wpT_nil]
        try clear hops ops
        have SAME : Hid (∀ u, Ext w3 u → Calls Tryz.prog 31 #[.pointer (some ⟨W, 0, none⟩), .int .i64 (n : Int), uv seed, .slice la l.length lc] u fun e w' => e = .returned (.bool true) ∧ Ext u w') := hid fun u k => same49_any (HWAL.out.1.ext k) HOK.out _ ((HWAL.out.2.ext k).old k) (by have := HLE.out; omega) HMB.out
        obtain ⟨⟨c0, c1⟩, -⟩ := HS1
        go_wp2_with fail
        refine (SAME.out _ (Ext.refl w3)).mono ?_
        rintro e w4 ⟨rfl, hx⟩
        have X4 := hid (X3.out.trans hx)
        clear hx SAME c0 c1
        go_wp2_with fail
        go_roundw
        case rel => exact ⟨i + 1, by omega, by go_num, X4⟩
        case measure => simp [intOf]; omega
      · have hltB : decide ((i : Int) < (ops.length : Int)) = false := by simp; omega
        obtain rfl : i = ops.length := by omega
        go_wp2_with fail
        go_ret
        exact ⟨rfl, HX0.out.trans HX.out⟩
end Go.Proofs.YtcikjcjfcanloaaGreat
