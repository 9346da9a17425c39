/- Texts of this claim, joined: L49Enc, OpenB, OpenQ. -/
import Derived.Deep.Slices
import Derived.ProofKit
import Derived.Lib.SmallJoins
import Derived.Deep.Strs
import Derived.Test.YtcikjcjfcanloaaGreatJa8
import Derived.Test.YtcikjcjfcanloaaGreatJa16
import Derived.Test.YtcikjcjfcanloaaGreatJa23
set_option linter.unusedSimpArgs false
namespace Go.Proofs.YtcikjcjfcanloaaGreat
open Go.RowKit
attribute [local irreducible] perm fAdd fMul fPow fSub fNeg fRed hashU drawOf nextState cipSeal
theorem small_facts {d : Int} {ops : List OpT} (h : smallW d ops = true) : ∃ n : Nat, d = (n : Int) ∧ 1 ≤ n ∧ n ≤ 6 ∧ ops.length ≤ 8 ∧ ∀ o ∈ ops, BSm o.b := by
  unfold smallW at h
  simp only [Bool.and_eq_true, decide_eq_true_eq] at h
  obtain ⟨h1, h2, h3, h4⟩ := h
  refine ⟨d.toNat, by omega, by omega, by omega, h4, fun o ho => ?_⟩
  have h5 := List.all_eq_true.1 h1 o ho
  unfold opSm at h5
  simp only [Bool.and_eq_true, decide_eq_true_eq] at h5
  exact ⟨by omega, fun t ht => (smTx_sm (by omega) (List.all_eq_true.1 h5.1 t ht)).1⟩
theorem playW_ok (d : Nat) (ops : List OpT) : okAll d (playW d ops) := by rw [← playTo_all]; exact playTo_ok d ops _
theorem playW_len {d : Nat} {ops : List OpT} : (playW d ops).length ≤ ops.length := by rw [← playTo_all]; exact playTo_len _
theorem playW_mem {d : Nat} {ops : List OpT} {b : BlkT} (h : b ∈ playW d ops) : ∃ o ∈ ops, o.b = b := by rw [← playTo_all] at h; exact playTo_mem _ h
set_option maxRecDepth 100000 in
set_option maxHeartbeats 12800000 in
theorem walletEncode_any (seed : UInt64) (d : Int) (ov : Value) (ops : List OpT) (w : World) (h : RdWops w ov ops) :
    Calls Tryz.prog 8 #[uv seed, .agg #[.int .i64 d, ov]] w fun e w' => e = .returned (.bool true) ∧ Ext w w' := by
  have HH := hid h
  have AW := hid awake49_any
  have SM : Hid (∀ u, Ext w u → Calls Tryz.prog 19 #[.int .i64 d, ov] u fun e w' => e = .returned (.bool (smallW d ops)) ∧ Ext u w') := hid fun u k => small49_any d ov ops u (h.ext k)
  obtain ⟨oa, oc, rfl, -⟩ := h.shape
  obtain ⟨N, hN⟩ : ∃ N, N = w.heap.size := ⟨_, rfl⟩
  obtain ⟨w0, hw0⟩ : ∃ w0, w0 = w.alloc (.cells #[.int .i64 d, .slice oa ops.length oc] 25) := ⟨_, rfl⟩
  have hx0 : Ext w w0 := by rw [hw0]; exact (Ext.refl w).alloc _
  have hb0 : w0.heap[N]? = some (.cells #[.int .i64 d, .slice oa ops.length oc] 25 (0, 0)) := by rw [hw0, hN]; exact heap_new _ _
  have HB := hid hb0
  have HX0 := hid hx0
  have HW := hid hw0
  obtain ⟨S, hS⟩ : ∃ S, S = smallW d ops := ⟨_, rfl⟩
  rw [← hS] at SM
  have HS := hid hS
  have HC : Hid (∀ u, Ext w0 u → u.cell? ⟨N, 0, none⟩ = some (.int .i64 d) ∧ u.cell? ⟨N, 1, none⟩ = some (.slice oa ops.length oc)) := hid fun u k => ⟨cell_of (k.heap_some HB.out) 0, cell_of (k.heap_some HB.out) 1⟩
  clear h hw0 hx0 hb0 hS
  go_enter Tryz.func8, Tryz.ntmps8
  go_upto_region 1 with fail
  rw [← HW.out, ← hN]
  clear hN HW
  go_wp2_with fail
  refine (AW.out _).mono ?_
  rintro e w1 ⟨rfl, hx⟩
  have X1 := hid hx
  clear hx
  obtain ⟨c0, c1⟩ := HC.out w1 X1.out
  go_wp2_with fail
  refine (SM.out _ (HX0.out.trans X1.out)).mono ?_
  rintro e w2 ⟨rfl, hx⟩
  have X2 := hid (X1.out.trans hx)
  clear hx SM c0 c1
  cases S with
  | false =>
    go_wp2_with fail
    refine (AW.out _).mono ?_
    rintro e w3 ⟨rfl, hx⟩
    have X3 := hid (X2.out.trans hx)
    clear hx AW
    go_wp2_with fail
    go_ret
    exact ⟨rfl, HX0.out.trans X3.out⟩
  | true =>
    clear AW
    obtain ⟨n, rfl, h1, h6, h8, hbs⟩ := small_facts HS.out.symm
    have PL := hid (play49_any n h1 (by omega) seed (.slice oa ops.length oc) ops w2 (HH.out.ext (HX0.out.trans X2.out)) hbs (by omega))
    have HOK := hid (playW_ok n ops)
    have HLE : Hid ((playW n ops).length ≤ 8) := hid (Nat.le_trans playW_len h8)
    have HMB : Hid (∀ b ∈ playW n ops, BSm b) := hid fun b hb => by
      obtain ⟨o, ho, rfl⟩ := playW_mem hb
      exact hbs o ho
    have HVL := hid (okAll_valid (playW_ok n ops))
    have HLN : Hid ((stW seed (playW n ops)).leaves.length ≤ 10000) := hid (by
      have h2 := fitsAll_stW ((okAll_fits (seed := seed)).2 (playW_ok n ops))
      have h3 := pow12 (d := n) (by omega)
      omega)
    obtain ⟨l, hl⟩ : ∃ l, l = playW n ops := ⟨_, rfl⟩
    rw [← hl] at PL HOK HLE HMB HVL HLN
    obtain ⟨c0, c1⟩ := HC.out w2 X2.out
    clear hl h1 h6 h8 hbs HH
    go_wp2_with fail
    refine (PL.out).mono ?_
    rintro e w3 ⟨W, lv, rfl, G, hwal, hgn, hrd, hng, hx⟩
    have HWAL := hid (And.intro hwal hrd)
    have HXW := hid (HX0.out.trans (X2.out.trans hx))
    have HXR := hid hx
    have HENC : Hid (∀ u, Ext w3 u → Calls Tryz.prog 39 #[.pointer (some ⟨W, 0, none⟩)] u (NewB u (walB l.length (stW seed l).leaves (stW seed l).notes))) := hid fun u k => by
      have := wEncode_any (HWAL.out.1.ext k) HOK.out
      rw [stW_red] at this
      exact this
    have HREF : Hid (∀ u, Ext w3 u → Calls Tryz.prog 40 #[uv seed, lv] u (NewB u (walB l.length (stW seed l).leaves (stW seed l).notes))) := hid fun u k => rEncodeW_any seed lv l u ((HWAL.out.2.ext k).old (HXR.out.trans k)) (by have := HLE.out; omega) HMB.out HVL.out HLN.out
    obtain ⟨la, lc, rfl, -⟩ := hrd.shape
    generalize walB l.length (stW seed l).leaves (stW seed l).notes = B at *
    clear hwal hgn hrd hng hx c0 c1 PL
    go_wp2_with fail
    refine wp_region_N (fun u => Ext w3 u) 9 12 (by kernel_rfl) (by kernel_rfl) ?_
    intro ops hops
    have HS0 : Ext w3 w3.drew := (Ext.refl w3).drew
    refine N_take (i := 0) (v := ?_) (by rw [hops, List.getElem?_toArray]; rfl) (by rw [hops]; kernel_rfl) (by intro c a d v w h; cases d <;> exact h) (by first | rfl | (rw [hops]; rfl)) ?_ HS0 ?_
    rotate_left
    · intro v h; go_simp; with_reducible rfl
    simp only [Act.put, List.getElem_toArray, List.getElem_cons_zero, List.getElem_cons_succ, List.setIfInBounds_toArray, List.set_cons_zero, List.set_cons_succ]
    refine N_take (i := 1) (v := ?_) (by rw [hops, List.getElem?_toArray]; rfl) (by rw [hops]; kernel_rfl) (by intro c a d v w h; cases d <;> exact h) (by first | rfl | (rw [hops]; rfl)) ?_ HS0 ?_
    rotate_left
    · intro v h; go_simp; with_reducible rfl
    simp only [Act.put, List.getElem_toArray, List.getElem_cons_zero, List.getElem_cons_succ, List.setIfInBounds_toArray, List.set_cons_zero, List.set_cons_succ]
    refine N_take (i := 2) (v := ?_) (by rw [hops, List.getElem?_toArray]; rfl) (by rw [hops]; kernel_rfl) (by intro c a d v w h; cases d <;> exact h) (by first | rfl | (rw [hops]; rfl)) ?_ HS0 ?_
    rotate_left
    · intro v h; go_simp; with_reducible rfl
    simp only [Act.put, List.getElem_toArray, List.getElem_cons_zero, List.getElem_cons_succ, List.setIfInBounds_toArray, List.set_cons_zero, List.set_cons_succ]
    refine N_take (i := 5) (v := ?_) (by rw [hops, List.getElem?_toArray]; rfl) (by rw [hops]; kernel_rfl) (by intro c a d v w h; cases d <;> exact h) (by first | rfl | (rw [hops]; rfl)) ?_ HS0 ?_
    rotate_left
    · intro v h; go_simp; with_reducible rfl
    simp only [Act.put, List.getElem_toArray, List.getElem_cons_zero, List.getElem_cons_succ, List.setIfInBounds_toArray, List.set_cons_zero, List.set_cons_succ]
    refine N_take (i := 6) (v := ?_) (by rw [hops, List.getElem?_toArray]; rfl) (by rw [hops]; kernel_rfl) (by intro c a d v w h; cases d <;> exact h) (by first | rfl | (rw [hops]; rfl)) ?_ HS0 ?_
    rotate_left
    · intro v h; go_simp; with_reducible rfl
    simp only [Act.put, List.getElem_toArray, List.getElem_cons_zero, List.getElem_cons_succ, List.setIfInBounds_toArray, List.set_cons_zero, List.set_cons_succ]
    refine N_one (i := 3) (by rw [hops, List.getElem?_toArray]; rfl) (by rw [hops]; kernel_rfl) (by first | rfl | (rw [hops]; rfl)) ?_
    intro K hK
    go_wp2_with fail
    refine (HENC.out _ HS0).mono ?_
    rintro e y1 ⟨v1, rfl, ho1, hx1, -⟩
    have HS1 : Ext w3 y1 := HS0.trans hx1
    have O1 := hid ho1
    clear ho1 hx1 HS0 HENC
    refine hK _ _ ⟨fun _ => HS1, ?_⟩
    clear hK K
    refine N_two (i := 4) (k := 7) (by rw [hops]; rfl) (by rw [hops, List.getElem?_toArray]; rfl) (by rw [hops]; kernel_rfl) (by first | rfl | (rw [hops]; rfl)) (by first | rfl | (rw [hops]; rfl)) ?_ ?_
    · have hcv := run_str y1 _ _ O1.out
      intro K hK
      go_wp2_with fail
      clear hcv
      refine ⟨fun _ => HS1, ?_⟩
      try rw [← hops]
      refine N_one (i := 7) (by rw [hops, List.getElem?_toArray]; rfl) (by rw [hops]; kernel_rfl) (by first | rfl | (rw [hops]; rfl)) ?_
      intro K hK
      go_wp2_with fail
      refine (HREF.out _ HS1).mono ?_
      rintro e y2 ⟨v2, rfl, ho2, hx2, -⟩
      have HS2 : Ext w3 y2 := HS1.trans hx2
      have hcv := run_str y2 _ _ ho2
      have HXE := hid HS2
      clear ho2 hx2 HS1 HREF
      refine hK _ _ ⟨fun _ => HS2, ?_⟩
      clear hK K
      refine N_one (i := 8) (by rw [hops, List.getElem?_toArray]; rfl) (by rw [hops]; kernel_rfl) (by first | rfl | (rw [hops]; rfl)) ?_
      intro K hK
      go_wp2_with fail
      refine ⟨fun _ => HS2, ?_⟩
      try rw [← hops]
      clear hcv HS2
      refine N_one (i := 9) (by rw [hops, List.getElem?_toArray]; rfl) (by rw [hops]; kernel_rfl) (by first | rfl | (rw [hops]; rfl)) ?_
      intro K hK
      go_wp2_with fail
      refine ⟨fun h => absurd h (by decide), ?_⟩
      try rw [← hops]
      refine N_one (i := 10) (by rw [hops, List.getElem?_toArray]; rfl) (by rw [hops]; kernel_rfl) (by first | rfl | (rw [hops]; rfl)) ?_
      intro K hK
      go_wp2_with fail
      refine ⟨fun h => absurd h (by decide), ?_⟩
      try rw [← hops]
      refine N_one (i := 11) (by rw [hops, List.getElem?_toArray]; rfl) (by rw [hops]; kernel_rfl) (by first | rfl | (rw [hops]; rfl)) ?_
      intro K hK
      go_wp2_with fail
      refine ⟨fun h => absurd h (by decide), ?_⟩
      try rw [← hops]
      refine N_done (by rw [hops]; kernel_rfl) ?_
      clear hops ops
      go_wp2_with fail
      go_ret
      exact ⟨rfl, HXW.out.trans HXE.out⟩
    · intro K hK
      go_wp2_with fail
      refine (HREF.out _ HS1).mono ?_
      rintro e y2 ⟨v2, rfl, ho2, hx2, -⟩
      have HS2 : Ext w3 y2 := HS1.trans hx2
      have HXE := hid HS2
      have hcv := run_str y2 _ _ (ownsRow_ext O1.out hx2)
      have hcv2 := run_str y2 _ _ ho2
      clear ho2 hx2 HS1 HREF
      refine hK _ _ ⟨fun _ => HS2, ?_⟩
      clear hK K
      refine N_two (i := 4) (k := 8) (by rw [hops]; rfl) (by rw [hops, List.getElem?_toArray]; rfl) (by rw [hops]; kernel_rfl) (by first | rfl | (rw [hops]; rfl)) (by first | rfl | (rw [hops]; rfl)) ?_ ?_
      · intro K hK
        go_wp2_with fail
        refine ⟨fun _ => HS2, ?_⟩
        try rw [← hops]
        refine N_one (i := 8) (by rw [hops, List.getElem?_toArray]; rfl) (by rw [hops]; kernel_rfl) (by first | rfl | (rw [hops]; rfl)) ?_
        intro K hK
        go_wp2_with fail
        refine ⟨fun _ => HS2, ?_⟩
        try rw [← hops]
        clear hcv hcv2 HS2
        refine N_one (i := 9) (by rw [hops, List.getElem?_toArray]; rfl) (by rw [hops]; kernel_rfl) (by first | rfl | (rw [hops]; rfl)) ?_
        intro K hK
        go_wp2_with fail
        refine ⟨fun h => absurd h (by decide), ?_⟩
        try rw [← hops]
        refine N_one (i := 10) (by rw [hops, List.getElem?_toArray]; rfl) (by rw [hops]; kernel_rfl) (by first | rfl | (rw [hops]; rfl)) ?_
        intro K hK
        go_wp2_with fail
        refine ⟨fun h => absurd h (by decide), ?_⟩
        try rw [← hops]
        refine N_one (i := 11) (by rw [hops, List.getElem?_toArray]; rfl) (by rw [hops]; kernel_rfl) (by first | rfl | (rw [hops]; rfl)) ?_
        intro K hK
        go_wp2_with fail
        refine ⟨fun h => absurd h (by decide), ?_⟩
        try rw [← hops]
        refine N_done (by rw [hops]; kernel_rfl) ?_
        clear hops ops
        go_wp2_with fail
        go_ret
        exact ⟨rfl, HXW.out.trans HXE.out⟩
      · intro K hK
        go_wp2_with fail
        refine ⟨fun _ => HS2, ?_⟩
        try rw [← hops]
        refine N_one (i := 4) (by rw [hops, List.getElem?_toArray]; rfl) (by rw [hops]; kernel_rfl) (by first | rfl | (rw [hops]; rfl)) ?_
        intro K hK
        go_wp2_with fail
        refine ⟨fun _ => HS2, ?_⟩
        try rw [← hops]
        clear hcv hcv2 HS2
        refine N_one (i := 9) (by rw [hops, List.getElem?_toArray]; rfl) (by rw [hops]; kernel_rfl) (by first | rfl | (rw [hops]; rfl)) ?_
        intro K hK
        go_wp2_with fail
        refine ⟨fun h => absurd h (by decide), ?_⟩
        try rw [← hops]
        refine N_one (i := 10) (by rw [hops, List.getElem?_toArray]; rfl) (by rw [hops]; kernel_rfl) (by first | rfl | (rw [hops]; rfl)) ?_
        intro K hK
        go_wp2_with fail
        refine ⟨fun h => absurd h (by decide), ?_⟩
        try rw [← hops]
        refine N_one (i := 11) (by rw [hops, List.getElem?_toArray]; rfl) (by rw [hops]; kernel_rfl) (by first | rfl | (rw [hops]; rfl)) ?_
        intro K hK
        go_wp2_with fail
        refine ⟨fun h => absurd h (by decide), ?_⟩
        try rw [← hops]
        refine N_done (by rw [hops]; kernel_rfl) ?_
        clear hops ops
        go_wp2_with fail
        go_ret
        exact ⟨rfl, HXW.out.trans HXE.out⟩
end Go.Proofs.YtcikjcjfcanloaaGreat
namespace Go.Proofs.YtcikjcjfcanloaaGreat
open Go.ChangeShapes Go.WideShapes Go.ChangeAt Go.RowKit Go.Joins
theorem own : ownKnob Tryz.prog.godebug = none := by kernel_rfl
theorem laidOut : laidOutB Tryz.prog = true := by kernel_rfl
theorem u64_back {a : Int} (h : (Lit.int .u64 a).wf = true) : ∃ x : UInt64, a = (x.toNat : Int) := by
  simp [Lit.wf, IntKind.min, IntKind.max, IntKind.signed, IntKind.bits] at h
  exact ⟨UInt64.ofNat a.toNat, by rw [toNat_ofNat_lt (by omega)]; omega⟩
theorem u8_back {a : Int} (h : (Lit.int .u8 a).wf = true) : ∃ x : UInt8, a = (x.toNat : Int) := by
  simp [Lit.wf, IntKind.min, IntKind.max, IntKind.signed, IntKind.bits] at h
  exact ⟨UInt8.ofNat a.toNat, by rw [UInt8.toNat_ofNat']; omega⟩
theorem choose_list {α : Type} {p : Nat → α → Prop} : ∀ (n : Nat), (∀ i, i < n → ∃ x, p i x) → ∃ l : List α, l.length = n ∧ ∀ i x, l[i]? = some x → p i x
  | 0, _ => ⟨[], rfl, by simp⟩
  | n + 1, h => by
    obtain ⟨l, hl, hp⟩ := choose_list n fun i hi => h i (by omega)
    obtain ⟨x, hx⟩ := h n (by omega)
    refine ⟨l ++ [x], by simp [hl], fun i y hy => ?_⟩
    rcases Nat.lt_or_ge i n with hi | hi
    · rw [List.getElem?_append_left (by omega)] at hy; exact hp i y hy
    · have hlt := (List.getElem?_eq_some_iff.1 hy).1
      have : i = n := by simp at hlt; omega
      subst this
      rw [List.getElem?_append_right (by omega), hl] at hy
      simp at hy
      subst hy
      exact hx
theorem u64_cell1 : Tryz.prog.cellsOf 22 = 1 := by kernel_rfl
theorem u8_cell1 : Tryz.prog.cellsOf 5 = 1 := by kernel_rfl
theorem int_cell1 : Tryz.prog.cellsOf 3 = 1 := by kernel_rfl
theorem u64s_cell1 : Tryz.prog.cellsOf 57 = 1 := by kernel_rfl
theorem u8s_cell1 : Tryz.prog.cellsOf 69 = 1 := by kernel_rfl
theorem outs_cell1 : Tryz.prog.cellsOf 99 = 1 := by kernel_rfl
theorem txs_cell1 : Tryz.prog.cellsOf 73 = 1 := by kernel_rfl
theorem arr2_cells : Tryz.prog.cellsOf 94 = 2 := by kernel_rfl
theorem out_cells4 : Tryz.prog.cellsOf 103 = 4 := by kernel_rfl
theorem tx_cells10 : Tryz.prog.cellsOf 101 = 10 := by kernel_rfl
theorem blk_cells6 : Tryz.prog.cellsOf 75 = 6 := by kernel_rfl
section
variable {H : Type} {enc : TypeId × Value → H} {W : World} {base : Nat} {sp : Nat → Bool} {held : Bool}
theorem open_u64 {n : Nat} {v : Value} {x : DataW H × List MemPlace} (h : DataW.trod enc Tryz.prog W base sp held n 22 [v] = some x) : ∃ a : UInt64, v = uv a := by
  obtain ⟨a, e0, hd0, wa⟩ := DataW.trod_int Tryz.underlying22 h
  simp only [List.cons.injEq, and_true] at e0
  subst e0
  obtain ⟨a, rfl⟩ := u64_back wa
  exact ⟨a, rfl⟩
theorem open_u8 {n : Nat} {v : Value} {x : DataW H × List MemPlace} (h : DataW.trod enc Tryz.prog W base sp held n 5 [v] = some x) : ∃ a : UInt8, v = .int .u8 (a.toNat : Int) := by
  obtain ⟨a, e0, hd0, wa⟩ := DataW.trod_int Tryz.underlying5 h
  simp only [List.cons.injEq, and_true] at e0
  subst e0
  obtain ⟨a, rfl⟩ := u8_back wa
  exact ⟨a, rfl⟩
theorem open_int {n : Nat} {v : Value} {x : DataW H × List MemPlace} (h : DataW.trod enc Tryz.prog W base sp held n 3 [v] = some x) : ∃ a : Int, v = .int .i64 a := by
  obtain ⟨a, e0, hd0, wa⟩ := DataW.trod_int Tryz.underlying3 h
  simp only [List.cons.injEq, and_true] at e0
  exact ⟨a, e0⟩
set_option maxRecDepth 100000 in
theorem open_rows {α : Type} {f : α → List Value} {R : α → Prop} {k : Nat} {t e : TypeId} (ht : Tryz.prog.underlying t = some (.slice e)) (hk : Tryz.prog.cellsOf e = k) (hk0 : 0 < k) (hf : ∀ x, (f x).length = k)
    (hel : ∀ (n : Nat) (cs : List Value) (x : DataW H × List MemPlace), cs.length = k → DataW.trod enc Tryz.prog W base sp held n e cs = some x → ∃ y : α, cs = f y ∧ R y)
    {n : Nat} {v : Value} {x : DataW H × List MemPlace} (h : DataW.trod enc Tryz.prog W base sp held n t [v] = some x) : ∃ X : List α, RdC' W v X.length (X.flatMap f) ∧ ∀ x ∈ X, R x := by
  rcases Go.Deep.open_slice ht h with ⟨hc, -⟩ | ⟨a, len, cap, m, n', D, Pl, hc, hb, hl, hm, hmm, -, hx⟩
  · simp only [List.cons.injEq, and_true] at hc
    subst hc
    exact ⟨[], (RdC.nil W).weak, by simp⟩
  · simp only [List.cons.injEq, and_true] at hc
    subst hc
    have hlm : len ≤ m := by rw [hmm]; split <;> omega
    obtain ⟨X, hX, hp⟩ := choose_list (α := α) (p := fun i y => R y ∧ ∀ j, j < k → W.cell? (a.add (i * k + j)) = (f y)[j]?) len (fun i hi => by
      obtain ⟨cs', hcs, htr⟩ := hx i (by omega)
      rw [hk] at hcs
      obtain ⟨_, hlen, hcell⟩ := World.cells?_some hcs
      obtain ⟨y, rfl, hy⟩ := hel _ _ _ hlen htr
      refine ⟨y, hy, fun j hj => ?_⟩
      rw [← hcell j hj, Addr.add_add])
    subst hX
    refine ⟨X, ⟨some a, cap, rfl, hl, hm, (fun h => by cases h), fun ad ha j u hu => ?_⟩, fun x hx => ?_⟩
    · injection ha with ha
      subst ha
      have hj : j < X.length * k := by
        have := (List.getElem?_eq_some_iff.1 hu).1
        rwa [flat_len hf] at this
      have hi : j / k < X.length := Nat.div_lt_of_lt_mul (by rw [Nat.mul_comm]; exact hj)
      have hr : j % k < k := Nat.mod_lt _ hk0
      have he : j / k * k + j % k = j := by rw [Nat.mul_comm]; exact Nat.div_add_mod j k
      have h1 := (hp (j / k) _ (List.getElem?_eq_getElem hi)).2 (j % k) hr
      have h2 := flat_at hf X (j / k) (List.getElem?_eq_getElem hi) (j % k) hr
      rw [he] at h1 h2
      rw [h1, ← h2, hu]
    · obtain ⟨i, hi, rfl⟩ := List.getElem_of_mem hx
      exact (hp i _ (List.getElem?_eq_getElem hi)).1
theorem flat1 {α : Type} (g : α → Value) (X : List α) : X.flatMap (fun x => [g x]) = X.map g := by
  induction X with
  | nil => rfl
  | cons x r ih => rw [List.flatMap_cons, ih]; rfl
theorem open_u64s {n : Nat} {v : Value} {x : DataW H × List MemPlace} (h : DataW.trod enc Tryz.prog W base sp held n 57 [v] = some x) : ∃ l : List UInt64, RdU' W v l := by
  obtain ⟨X, h1, -⟩ := open_rows (f := fun x : UInt64 => [uv x]) (R := fun _ => True) Tryz.underlying57 u64_cell1 (by omega) (fun _ => rfl) (fun n cs x hl hx => by
    match cs, hl with
    | [c], _ => obtain ⟨a, rfl⟩ := open_u64 hx; exact ⟨a, rfl, trivial⟩) h
  rw [flat1] at h1
  exact ⟨X, h1⟩
theorem open_u8s {n : Nat} {v : Value} {x : DataW H × List MemPlace} (h : DataW.trod enc Tryz.prog W base sp held n 69 [v] = some x) : ∃ l : List UInt8, RdB' W v l := by
  obtain ⟨X, h1, -⟩ := open_rows (f := fun x : UInt8 => [.int .u8 (x.toNat : Int)]) (R := fun _ => True) Tryz.underlying69 u8_cell1 (by omega) (fun _ => rfl) (fun n cs x hl hx => by
    match cs, hl with
    | [c], _ => obtain ⟨a, rfl⟩ := open_u8 hx; exact ⟨a, rfl, trivial⟩) h
  rw [flat1] at h1
  exact ⟨X, h1⟩
set_option maxRecDepth 100000 in
theorem e2_of_cells {n : Nat} {c0 c1 : Value} {x : DataW H × List MemPlace} (h : DataW.trod enc Tryz.prog W base sp held n 94 [c0, c1] = some x) : ∃ y : E2, c0 = uv y.a ∧ c1 = uv y.b := by
  have ht : Tryz.prog.underlying 94 = some (.array 2 22) := by kernel_rfl
  obtain ⟨xs, m, -, -, -, hl, hx⟩ := DataW.trod_array ht h
  have h0 := hx 0 (by omega)
  have h1 := hx 1 (by omega)
  rw [u64_cell1, List.getElem?_eq_getElem (by omega)] at h0 h1
  obtain ⟨a, rfl⟩ := open_u64 (v := c0) (by simpa [Value.cells] using h0)
  obtain ⟨b, rfl⟩ := open_u64 (v := c1) (by simpa [Value.cells] using h1)
  exact ⟨⟨a, b⟩, rfl, rfl⟩
set_option maxRecDepth 100000 in
theorem out_of_cells {n : Nat} {cs : List Value} {x : DataW H × List MemPlace} (hl : cs.length = 4) (h : DataW.trod enc Tryz.prog W base sp held n 103 cs = some x) : ∃ y : OutT × Value, cs = outCells y ∧ RdU' W y.2 y.1.cipher := by
  obtain ⟨y0, y1, y2, m, -, -, h0, h1, h2⟩ := Go.Deep.trod_struct3 Tryz.underlying103 h
  match cs, hl with
  | [c0, c1, c2, c3], _ =>
    simp only [u64_cell1, arr2_cells, u64s_cell1] at h0 h1 h2
    obtain ⟨a, rfl⟩ := open_u64 (v := c0) h0
    obtain ⟨p, rfl, rfl⟩ := e2_of_cells (c0 := c1) (c1 := c2) h1
    obtain ⟨l, hl⟩ := open_u64s (v := c3) h2
    exact ⟨(⟨a, p, l⟩, c3), rfl, hl⟩
set_option maxRecDepth 100000 in
theorem open_outs {n : Nat} {v : Value} {x : DataW H × List MemPlace} (h : DataW.trod enc Tryz.prog W base sp held n 99 [v] = some x) : ∃ l : List OutT, RdOs W v l := by
  obtain ⟨X, h1, h2⟩ := open_rows (f := outCells) (R := fun y => RdU' W y.2 y.1.cipher) Tryz.underlying99 out_cells4 (by omega) outCells_len (fun n cs x hl hx => out_of_cells hl hx) h
  exact ⟨X.map (·.1), X, rfl, by rw [List.length_map]; exact h1, h2⟩
theorem fld {fs : Array Field} {cs : List Value} {xs : List (DataW H × List MemPlace)} {m : Nat} (hf : ∀ (i : Nat) (f : Field), fs[i]? = some f → DataW.trod enc Tryz.prog W base sp held m f.type ((cs.drop f.offset).take (Tryz.prog.cellsOf f.type)) = xs[i]?)
    (i : Nat) {f : Field} (hi : fs[i]? = some f) (hx : i < xs.length) (ty : TypeId) (off k : Nat) (h1 : f.type = ty) (h2 : f.offset = off) (hk : Tryz.prog.cellsOf ty = k) : DataW.trod enc Tryz.prog W base sp held m ty ((cs.drop off).take k) = some xs[i] := by
  subst h1 h2 hk
  rw [hf i f hi, List.getElem?_eq_getElem hx]
set_option maxRecDepth 100000 in
set_option maxHeartbeats 1000000 in
theorem tx_of_cells {n : Nat} {cs : List Value} {x : DataW H × List MemPlace} (hl : cs.length = 10) (h : DataW.trod enc Tryz.prog W base sp held n 101 cs = some x) : ∃ y : TxM, cs = txCells y ∧ RdT W y.1 y.2.1 y.2.2.1 y.2.2.2 := by
  obtain ⟨xs, m, -, -, -, hxs, hf⟩ := DataW.trod_struct Tryz.underlying101 h
  have hxl : xs.length = 10 := hxs
  match cs, hl with
  | [c0, c1, c2, c3, c4, c5, c6, c7, c8, c9], _ =>
    have h0 := fld hf 0 rfl (by omega) 22 0 1 rfl rfl u64_cell1
    have h1 := fld hf 1 rfl (by omega) 57 1 1 rfl rfl u64s_cell1
    have h2 := fld hf 2 rfl (by omega) 99 2 1 rfl rfl outs_cell1
    have h3 := fld hf 3 rfl (by omega) 22 3 1 rfl rfl u64_cell1
    have h4 := fld hf 4 rfl (by omega) 22 4 1 rfl rfl u64_cell1
    have h5 := fld hf 5 rfl (by omega) 22 5 1 rfl rfl u64_cell1
    have h6 := fld hf 6 rfl (by omega) 22 6 1 rfl rfl u64_cell1
    have h7 := fld hf 7 rfl (by omega) 22 7 1 rfl rfl u64_cell1
    have h8 := fld hf 8 rfl (by omega) 3 8 1 rfl rfl int_cell1
    have h9 := fld hf 9 rfl (by omega) 69 9 1 rfl rfl u8s_cell1
    obtain ⟨a0, rfl⟩ := open_u64 (v := c0) h0
    obtain ⟨a1, m1⟩ := open_u64s (v := c1) h1
    obtain ⟨a2, m2⟩ := open_outs (v := c2) h2
    obtain ⟨a3, rfl⟩ := open_u64 (v := c3) h3
    obtain ⟨a4, rfl⟩ := open_u64 (v := c4) h4
    obtain ⟨a5, rfl⟩ := open_u64 (v := c5) h5
    obtain ⟨a6, rfl⟩ := open_u64 (v := c6) h6
    obtain ⟨a7, rfl⟩ := open_u64 (v := c7) h7
    obtain ⟨a8, rfl⟩ := open_int (v := c8) h8
    obtain ⟨a9, m9⟩ := open_u8s (v := c9) h9
    exact ⟨(⟨a0, a1, a2, a3, a4, a5, a6, a7, a8, a9⟩, c1, c2, c9), rfl, ⟨m1, m2, m9⟩⟩
set_option maxRecDepth 100000 in
theorem open_txs {n : Nat} {v : Value} {x : DataW H × List MemPlace} (h : DataW.trod enc Tryz.prog W base sp held n 73 [v] = some x) : ∃ l : List TxT, RdTs W v l := by
  obtain ⟨X, h1, h2⟩ := open_rows (f := txCells) (R := fun y => RdT W y.1 y.2.1 y.2.2.1 y.2.2.2) Tryz.underlying73 tx_cells10 (by omega) txCells_len (fun n cs x hl hx => tx_of_cells hl hx) h
  exact ⟨X.map (·.1), X, rfl, by rw [List.length_map]; exact h1, h2⟩
end
end Go.Proofs.YtcikjcjfcanloaaGreat
namespace Go.Proofs.YtcikjcjfcanloaaGreat
open Go.ChangeShapes Go.WideShapes Go.ChangeAt Go.RowKit Go.Joins
theorem bool_cell1q : Tryz.prog.cellsOf 4 = 1 := by kernel_rfl
theorem op_cells7 : Tryz.prog.cellsOf 78 = 7 := by kernel_rfl
theorem ops_cell1 : Tryz.prog.cellsOf 23 = 1 := by kernel_rfl
theorem case_cells2 : Tryz.prog.cellsOf 25 = 2 := by kernel_rfl
section
variable {H : Type} {enc : TypeId × Value → H} {W : World} {base : Nat} {sp : Nat → Bool} {held : Bool}
set_option maxRecDepth 100000 in
theorem blk_of_cells {n : Nat} {cs : List Value} {x : DataW H × List MemPlace} (hl : cs.length = 6) (h : DataW.trod enc Tryz.prog W base sp held n 75 cs = some x) : ∃ y : BlkT × Value, cs = blkCells y ∧ RdTs W y.2 y.1.txs := by
  obtain ⟨xs, m, -, -, -, hxs, hf⟩ := DataW.trod_struct Tryz.underlying75 h
  have hxl : xs.length = 6 := hxs
  match cs, hl with
  | [c0, c1, c2, c3, c4, c5], _ =>
    have h0 := fld hf 0 rfl (by omega) 22 0 1 rfl rfl u64_cell1
    have h1 := fld hf 1 rfl (by omega) 3 1 1 rfl rfl int_cell1
    have h2 := fld hf 2 rfl (by omega) 22 2 1 rfl rfl u64_cell1
    have h3 := fld hf 3 rfl (by omega) 22 3 1 rfl rfl u64_cell1
    have h4 := fld hf 4 rfl (by omega) 22 4 1 rfl rfl u64_cell1
    have h5 := fld hf 5 rfl (by omega) 73 5 1 rfl rfl txs_cell1
    obtain ⟨a0, rfl⟩ := open_u64 (v := c0) h0
    obtain ⟨a1, rfl⟩ := open_int (v := c1) h1
    obtain ⟨a2, rfl⟩ := open_u64 (v := c2) h2
    obtain ⟨a3, rfl⟩ := open_u64 (v := c3) h3
    obtain ⟨a4, rfl⟩ := open_u64 (v := c4) h4
    obtain ⟨a5, m5⟩ := open_txs (v := c5) h5
    exact ⟨(⟨a0, a1, a2, a3, a4, a5⟩, c5), rfl, m5⟩
set_option maxRecDepth 100000 in
theorem op_of_cells {n : Nat} {cs : List Value} {x : DataW H × List MemPlace} (hl : cs.length = 7) (h : DataW.trod enc Tryz.prog W base sp held n 78 cs = some x) : ∃ y : OpT × Value, cs = opCells y ∧ RdTs W y.2 y.1.b.txs := by
  obtain ⟨xs, m, -, -, -, hxs, hf⟩ := DataW.trod_struct Tryz.underlying78 h
  have hxl : xs.length = 2 := hxs
  match cs, hl with
  | [c0, c1, c2, c3, c4, c5, c6], _ =>
    have h0 := fld hf 0 rfl (by omega) 4 0 1 rfl rfl bool_cell1q
    have h1 := fld hf 1 rfl (by omega) 75 1 6 rfl rfl blk_cells6
    obtain ⟨u, e0, -⟩ := DataW.trod_bool (cs := [c0]) Tryz.underlying4 h0
    simp only [List.cons.injEq, and_true] at e0
    subst e0
    obtain ⟨⟨b, tv⟩, e1, h2⟩ := blk_of_cells (cs := [c1, c2, c3, c4, c5, c6]) rfl h1
    simp only [blkCells, List.cons.injEq, and_true] at e1
    obtain ⟨rfl, rfl, rfl, rfl, rfl, rfl⟩ := e1
    exact ⟨(⟨u, b⟩, _), rfl, h2⟩
set_option maxRecDepth 100000 in
theorem open_wops {n : Nat} {v : Value} {x : DataW H × List MemPlace} (h : DataW.trod enc Tryz.prog W base sp held n 23 [v] = some x) : ∃ l : List OpT, RdWops W v l := by
  obtain ⟨X, h1, h2⟩ := open_rows (f := opCells) (R := fun y => RdTs W y.2 y.1.b.txs) Tryz.underlying23 op_cells7 (by omega) opCells_len (fun n cs x hl hx => op_of_cells hl hx) h
  exact ⟨X.map (·.1), X, rfl, by rw [List.length_map]; exact h1, h2⟩
set_option maxRecDepth 100000 in
theorem open_case {r : Reach} {v : Value} {d : DataW H} {p : List MemPlace} {b0 : Nat} (hv : Value.okWide Tryz.prog W r b0 25 v) {b' : Nat} (h : DataW.Trod enc Tryz.prog W b' sp held 25 v d p) :
    ∃ (d : Int) (ov : Value) (ops : List OpT), v = .agg #[.int .i64 d, ov] ∧ RdWops W ov ops := by
  obtain ⟨cs, rfl, hsz⟩ := okWide_struct Tryz.underlying25 hv
  rw [case_cells2] at hsz
  obtain ⟨fuel, hf⟩ := h
  obtain ⟨cl⟩ := cs
  obtain ⟨xs, m, -, -, -, hxs, hf⟩ := DataW.trod_struct Tryz.underlying25 hf
  have hxl : xs.length = 2 := hxs
  match cl, hsz with
  | [c0, c1], _ =>
    have h0 := fld hf 0 rfl (by omega) 3 0 1 rfl rfl int_cell1
    have h1 := fld hf 1 rfl (by omega) 23 1 1 rfl rfl ops_cell1
    obtain ⟨a0, rfl⟩ := open_int (v := c0) h0
    obtain ⟨a1, m1⟩ := open_wops (v := c1) h1
    exact ⟨a0, c1, a1, rfl, m1⟩
set_option maxRecDepth 100000 in
theorem open_uv {r : Reach} {v : Value} {d : DataW H} {p : List MemPlace} {b0 : Nat} (hv : Value.okWide Tryz.prog W r b0 22 v) {b' : Nat} (h : DataW.Trod enc Tryz.prog W b' sp held 22 v d p) : ∃ a : UInt64, v = uv a := by
  obtain ⟨n0, hf0⟩ := h
  obtain ⟨c0, rfl⟩ := okWide_int Tryz.underlying22 hv
  exact open_u64 hf0
end
end Go.Proofs.YtcikjcjfcanloaaGreat
