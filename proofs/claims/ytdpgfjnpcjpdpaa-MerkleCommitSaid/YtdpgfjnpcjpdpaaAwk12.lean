/- The examples of the chapter merkle hold: awake of moidorelaw12. -/
import Derived.Test.YtdpgfjnpcjpdpaaVerify
import Derived.Test.YtdpgfjnpcjpdpaaCommitLaw
import Derived.Test.YtdpgfjnpcjpdpaaTree5
set_option linter.unusedSimpArgs false
namespace Go.Proofs.Ytdpgfjnpcjpdpaa
open Go.RowKit
attribute [local irreducible] perm fAdd fMul fPow fSub fNeg fRed hashU drawOf nextState awT

theorem rdu_block {w : World} {g n : Nat} {cs : Array Value} {T : TypeId} {l : List UInt64} (h : w.heap[g]? = some (.cells cs T (0, 0))) (hc : cs.toList = us l) (hl : n = l.length) (hm : n ≤ 1000000) : RdU w (.slice (some ⟨g, 0, none⟩) n n) l := by
  subst hl
  have := RdC.block h (n := l.length) (by unfold maxLen; omega)
  rw [hc] at this
  exact this.rdu rfl
/-- A list of lists that lies in blocks of its own. -/
theorem rdl_blocks {w : World} {g : Nat} {n : Nat} {vs : List Value} {T : TypeId} {ls : Lv} (h : w.heap[g]? = some (.cells vs.toArray T (0, 0))) (hn : n = ls.length) (hv : vs.length = ls.length) (hm : n ≤ 1000000) (hi : ∀ (i : Nat) (x : Value) (l : List UInt64), vs[i]? = some x → ls[i]? = some l → RdU w x l) : RdL w (.slice (some ⟨g, 0, none⟩) n n) ls := by
  subst hn
  have := RdC.block h (n := ls.length) (by unfold maxLen; omega)
  exact ⟨vs, hv, by simpa using this, fun i x l hx hl => (hi i x l hx hl).weak⟩
def AwArgs (n : Nat) (w : World) : Prop :=
  w.heap[n]? = some (.cells #[.int .u64 1] 28 (0, 0)) ∧ w.heap[n + 1]? = some (.cells #[.int .u64 2] 28 (0, 0)) ∧ w.heap[n + 2]? = some (.cells #[.int .u64 3] 28 (0, 0)) ∧ w.heap[n + 3]? = some (.cells #[.int .u64 4] 28 (0, 0)) ∧
  w.heap[n + 4]? = some (.cells #[.slice (some ⟨n, 0, none⟩) 1 1, .slice (some ⟨n + 1, 0, none⟩) 1 1, .slice (some ⟨n + 2, 0, none⟩) 1 1, .slice (some ⟨n + 3, 0, none⟩) 1 1] 24 (0, 0)) ∧
  w.heap[n + 5]? = some (.cells #[.int .u64 5, .int .u64 6, .int .u64 7, .int .u64 8] 28 (0, 0))
theorem AwArgs.rdl {n : Nat} {w : World} (h : AwArgs n w) : RdL w (.slice (some ⟨n + 4, 0, none⟩) 4 4) awL := by
  obtain ⟨h0, h1, h2, h3, h4, -⟩ := h
  refine rdl_blocks (vs := [.slice (some ⟨n, 0, none⟩) 1 1, .slice (some ⟨n + 1, 0, none⟩) 1 1, .slice (some ⟨n + 2, 0, none⟩) 1 1, .slice (some ⟨n + 3, 0, none⟩) 1 1]) h4 rfl rfl (by omega) ?_
  intro i x l hx hl
  match i with
  | 0 => cases hx; cases hl; exact rdu_block h0 rfl rfl (by omega)
  | 1 => cases hx; cases hl; exact rdu_block h1 rfl rfl (by omega)
  | 2 => cases hx; cases hl; exact rdu_block h2 rfl rfl (by omega)
  | 3 => cases hx; cases hl; exact rdu_block h3 rfl rfl (by omega)
  | i + 4 => simp at hx
theorem AwArgs.rdu {n : Nat} {w : World} (h : AwArgs n w) : RdU w (.slice (some ⟨n + 5, 0, none⟩) 4 4) awS := rdu_block h.2.2.2.2.2 rfl rfl (by omega)
theorem AwArgs.kp {F : Nat → Prop} {n : Nat} {w w' : World} (h : AwArgs n w) (k : Kp F w w') (hF : ∀ i, F i → i < n) : AwArgs n w' := by
  obtain ⟨h0, h1, h2, h3, h4, h5⟩ := h
  exact ⟨k.heap_some (fun h => by have := hF _ h; omega) h0, k.heap_some (fun h => by have := hF _ h; omega) h1, k.heap_some (fun h => by have := hF _ h; omega) h2, k.heap_some (fun h => by have := hF _ h; omega) h3, k.heap_some (fun h => by have := hF _ h; omega) h4, k.heap_some (fun h => by have := hF _ h; omega) h5⟩
theorem heap_new_at (w : World) (o : Obj) {n : Nat} (h : w.heap.size = n) : (w.alloc o).heap[n]? = some o := by subst h; exact heap_new w o
theorem awArgs_made (w : World) : AwArgs w.heap.size ((((((w.alloc (.cells #[.int .u64 1] 28)).alloc (.cells #[.int .u64 2] 28)).alloc (.cells #[.int .u64 3] 28)).alloc (.cells #[.int .u64 4] 28)).alloc
    (.cells #[.slice (some ⟨w.heap.size, 0, none⟩) 1 1, .slice (some ⟨w.heap.size + 1, 0, none⟩) 1 1, .slice (some ⟨w.heap.size + 2, 0, none⟩) 1 1, .slice (some ⟨w.heap.size + 3, 0, none⟩) 1 1] 24)).alloc (.cells #[.int .u64 5, .int .u64 6, .int .u64 7, .int .u64 8] 28)) := by
  refine ⟨?_, ?_, ?_, ?_, ?_, ?_⟩
  · exact heap_alloc_some (heap_alloc_some (heap_alloc_some (heap_alloc_some (heap_alloc_some (heap_new _ _)))))
  · exact heap_alloc_some (heap_alloc_some (heap_alloc_some (heap_alloc_some (heap_new_at _ _ (by simp)))))
  · exact heap_alloc_some (heap_alloc_some (heap_alloc_some (heap_new_at _ _ (by simp))))
  · exact heap_alloc_some (heap_alloc_some (heap_new_at _ _ (by simp)))
  · exact heap_alloc_some (heap_new_at _ _ (by simp))
  · exact heap_new_at _ _ (by simp)

theorem aw_parts : ∃ d3 b0 l0 l1 l2, awT.1 = [l0, l1, l2] ∧ l0.length = 4 ∧ l1.length = 2 ∧ l0[3]? = some d3 ∧ l1[0]? = some b0 ∧ at2 awT.1 0 3 = d3 ∧ at2 awT.1 1 0 = b0 := by
  have hl := aw_lens
  generalize awT.1 = T at *
  cases T with
  | nil => simp at hl
  | cons l0 t =>
    cases t with
    | nil => simp at hl
    | cons l1 t =>
      cases t with
      | nil => simp at hl
      | cons l2 t =>
        cases t with
        | cons l3 t => simp at hl
        | nil =>
          simp only [List.map_cons, List.map_nil, List.cons.injEq, and_true] at hl
          obtain ⟨d3, h3⟩ : ∃ x, l0[3]? = some x := ⟨_, List.getElem?_eq_getElem (by omega)⟩
          obtain ⟨b0, h0⟩ : ∃ x, l1[0]? = some x := ⟨_, List.getElem?_eq_getElem (by omega)⟩
          exact ⟨d3, b0, l0, l1, l2, rfl, hl.1, hl.2.1, h3, h0, at2_of (ls := [l0, l1, l2]) (k := 0) rfl h3, at2_of (ls := [l0, l1, l2]) (k := 1) rfl h0⟩

theorem BesideL.stays {w0 w : World} {F : Nat → Prop} {v : Value} {L : List (List UInt64 × Value)} (h : BesideL w0 w F v L) : Stays F w fun w' => RdL w' v (L.map (·.1)) := fun _ k =>
  (h.kpOther k fun i hi => ⟨fun e => (h.no i e).1 hi, fun x hx e => (h.nos x hx i e).1 hi⟩).own.rdl
theorem Stays.to {w w' : World} {b : Nat} {M : Orc} {F F' : Nat → Prop} {C : World → Prop} (h : Stays F w C) (t : OrcTo w b F M w' F') : Stays F' w' C := fun _ k =>
  h _ (t.kp.trans2 k fun i hi hF => by
    rcases t.new i hF with h1 | h1
    · exact h1
    · omega)
theorem RdU.stays {w : World} {F : Nat → Prop} {v : Value} {l : List UInt64} (h : RdU w v l) (hF : ∀ k, blk v = some k → ¬ F k) : Stays F w fun w' => RdU w' v l := fun _ k => h.kp k hF
theorem OrcAt.draws12 {w : World} {b : Nat} {M : Orc} {F : Nat → Prop} (h : OrcAt w b M F) : Calls Try.prog 35 #[.pointer (some ⟨b, 0, none⟩)] w (fun e w' => e = .returned (.int .i64 (M.draws : Int)) ∧ w' = w) := by
  obtain ⟨qv, mk, ms, mp, Q, S, hin⟩ := h
  exact Draws_any hin.self
theorem aw_rel {w3 wx : World} {g a p : Nat} {d3 b0 : UInt64} (hx : Ext w3 wx) (hg : wx.heap[g]? = some (.cells #[.slice (some ⟨a, 0, none⟩) 1 1, .int .u64 7, .slice (some ⟨p, 0, none⟩) 2 2] 59 (0, 0)))
    (ha : wx.heap[a]? = some (.cells #[.int .u64 3] 28 (0, 0))) (hp : wx.heap[p]? = some (.cells #[.int .u64 d3.toNat, .int .u64 b0.toNat] 28 (0, 0))) (h1 : w3.heap.size ≤ g) (h2 : w3.heap.size ≤ a) (h3 : w3.heap.size ≤ p) :
    ∃ (g' : Nat) (lf pv : Value), Value.pointer (some ⟨g, 0, none⟩) = .pointer (some ⟨g', 0, none⟩) ∧ wx.heap[g']? = some (.cells #[lf, .int .u64 7, pv] 59 (0, 0)) ∧ RdU wx lf [3] ∧ RdU wx pv [d3, b0] ∧ Ext w3 wx ∧ w3.heap.size ≤ g' ∧ (∀ k, blk lf = some k → w3.heap.size ≤ k) ∧ ∀ k, blk pv = some k → w3.heap.size ≤ k :=
  ⟨g, _, _, rfl, hg, rdu_block ha rfl rfl (by omega), rdu_block hp rfl rfl (by omega), hx, h1, (fun k hk => by cases hk; exact h2), fun k hk => by cases hk; exact h3⟩
theorem three0 (w : World) (A B C : Obj) : (((w.alloc A).alloc B).alloc C).drew.heap[w.heap.size]? = some A := heap_alloc_some (heap_alloc_some (heap_new w A))
theorem three1 (w : World) (A B C : Obj) : (((w.alloc A).alloc B).alloc C).drew.heap[w.heap.size + 1]? = some B := heap_alloc_some (heap_new_at _ _ (by simp))
theorem three2 (w : World) (A B C : Obj) : (((w.alloc A).alloc B).alloc C).drew.heap[w.heap.size + 1 + 1]? = some C := heap_new_at _ _ (by simp)
theorem threeE (w : World) (A B C : Obj) : Ext w (((w.alloc A).alloc B).alloc C).drew := ((((Ext.refl w).alloc A).alloc B).alloc C).drew

set_option maxRecDepth 100000 in
set_option maxHeartbeats 6400000 in
theorem awake12_any (w : World) : Calls Try.prog 15 #[] w fun e w' => e = .returned (.bool true) ∧ Ext w w' := by
  have HI := hid (Ideal_any 1)
  obtain ⟨d3, b0, l0, l1, l2, hT, hl0, hl1, h03, h10, hd3, hb0⟩ := aw_parts
  have HT := hid hT
  have HL0 := hid hl0
  have HL1 := hid hl1
  have H03 := hid h03
  have H10 := hid h10
  have HD3 := hid hd3
  have HB0 := hid hb0
  clear hT hl0 hl1 h03 h10 hd3 hb0
  go_enter Try.func15, Try.ntmps15
  go_wp2_with fail
  refine (HI.out _).mono ?_
  rintro e w1 ⟨b, F, rfl, hat, hx1, hF⟩
  have HAT := hid hat
  have HX1 := hid hx1
  have HF := hid hF
  clear hat hx1 hF HI
  go_wp2_with fail
  have hargs := awArgs_made w1
  have hx2 : Ext w1 ((((((w1.alloc (.cells #[.int .u64 1] 28)).alloc (.cells #[.int .u64 2] 28)).alloc (.cells #[.int .u64 3] 28)).alloc (.cells #[.int .u64 4] 28)).alloc
    (.cells #[.slice (some ⟨w1.heap.size, 0, none⟩) 1 1, .slice (some ⟨w1.heap.size + 1, 0, none⟩) 1 1, .slice (some ⟨w1.heap.size + 2, 0, none⟩) 1 1, .slice (some ⟨w1.heap.size + 3, 0, none⟩) 1 1] 24)).alloc (.cells #[.int .u64 5, .int .u64 6, .int .u64 7, .int .u64 8] 28)) := ((((((Ext.refl w1).alloc _).alloc _).alloc _).alloc _).alloc _).alloc _
  refine (mCommit_any (M := Orc.fresh true 1) (leaves := awL) (salts := awS) (HAT.out.ext hx2) (fun w' k => (hargs.kp k (HAT.out.foot_lt)).rdl) (fun w' k => (hargs.kp k (HAT.out.foot_lt)).rdu.weak) (by decide) (by decide) (by decide) (by decide) (by decide)).mono ?_
  rintro e w2 ⟨v, L, rfl, hL, F', ht, hbes⟩
  rw [aw_ok]
  rw [awT_eq] at hL ht
  have hto := ht.pre hx2
  have hbl := hbes.own.rdl
  rw [hL] at hbl
  obtain ⟨va, vc, rfl, hvl, hvm, -⟩ := hbl.shape
  have h3 : awT.1.length = 3 := by rw [HT.out]; rfl
  rw [h3] at hvl hbes ⊢
  have HTO := hid hto
  have HBES := hid hbes
  have HL := hid hL
  have HZ2 : Hid (w1.heap.size ≤ w2.heap.size) := hid hto.kp.size
  have HF2 := hid hto.at'.foot_lt
  have hbx := heap_new w2 (.cells #[.slice va 3 vc] 27)
  have hx3 := (Ext.refl w2).alloc (.cells #[.slice va 3 vc] 27)
  have HBX := hid hbx
  have HX3 := hid hx3
  have hE : ∀ l ∈ awT.1, l.length ≤ 1000000000000 := by
    intro l hl
    have h4 := aw_lens
    have h5 : l.length ∈ awT.1.map List.length := List.mem_map_of_mem hl
    rw [h4] at h5
    simp at h5; omega
  have HE := hid hE
  have hfo := refFormed_any (.slice va 3 vc) awT.1 (w2.alloc (.cells #[.slice va 3 vc] 27)) (by rw [← hL]; rw [← hL] at hbl; have := hbl.ext hx3; rw [show (L.map (·.1)).length = 3 from by rw [hL]; exact h3] at this; exact this) (by rw [h3]; omega) hE
  rw [aw_formed] at hfo
  have HFO := hid hfo
  clear hto hbl hbes hL ht hx2 hargs hbx hx3 hE hfo hvl hvm
  go_wp2_with fail
  refine HFO.out.mono ?_
  rintro e w3 ⟨rfl, hx4⟩
  have hbx4 := hx4.heap_some HBX.out
  have ht0 : w3.cell? ⟨w2.heap.size, 0, none⟩ = some (.slice va 3 vc) := cell_of hbx4 0
  have hb4 := HBES.out.ext (HX3.out.trans hx4)
  have hrl := hb4.own.rdl
  rw [HL.out] at hrl
  have k0 : awT.1[0]? = some l0 := by rw [HT.out]; rfl
  have k1 : awT.1[1]? = some l1 := by rw [HT.out]; rfl
  obtain ⟨lb, lo, x0, e0, rfl, c0, r0, -⟩ := hrl.at k0
  obtain ⟨lb', lo', x1, e1, he, c1, r1, -⟩ := hrl.at k1
  injection he with he
  injection he with he1 he2
  subst he1 he2
  obtain ⟨b0', o0', rfl, f0⟩ := r0.uat H03.out
  obtain ⟨b1', o1', rfl, f1⟩ := r1.uat H10.out
  rw [HL0.out] at c0
  rw [HL1.out] at c1
  have c0' : w3.cell? ⟨lb, lo, none⟩ = some (.slice (some ⟨b0', o0', none⟩) 4 e0) := c0
  have f1' : w3.cell? ⟨b1', o1', none⟩ = some (.int .u64 b0.toNat) := f1
  have HX4 := hid (HX3.out.trans hx4)
  have HB4 := hid hbx4
  have HBE4 := hid hb4
  have HRL := hid hrl
  have HTO4 := hid (HTO.out.ext (HX3.out.trans hx4))
  clear hx4 hbx4 hb4 hrl k0 k1 r0 r1 c0 f1 HFO HBES HTO
  go_upto_region 7 with fail
  go_cut [4] (fun s4 wx => ∃ (g : Nat) (lf pv : Value), s4 = .pointer (some ⟨g, 0, none⟩) ∧ wx.heap[g]? = some (.cells #[lf, .int .u64 7, pv] 59 (0, 0)) ∧ RdU wx lf [3] ∧ RdU wx pv [d3, b0] ∧ Ext w3 wx ∧ w3.heap.size ≤ g ∧ (∀ k, blk lf = some k → w3.heap.size ≤ k) ∧ ∀ k, blk pv = some k → w3.heap.size ≤ k)
  case first =>
    have y1 := cell_lt ht0
    have y2 := cell_lt c1
    have y3 := cell_lt f0
    have y4 := cell_lt f1'
    go_wp2_with fail
    go_region
    all_goals go_wp2_with fail
    all_goals go_meet
    all_goals exact aw_rel (threeE _ _ _ _) (by first | exact three0 _ _ _ _ | exact three1 _ _ _ _ | exact three2 _ _ _ _) (by first | exact three0 _ _ _ _ | exact three1 _ _ _ _ | exact three2 _ _ _ _) (by first | exact three0 _ _ _ _ | exact three1 _ _ _ _ | exact three2 _ _ _ _) (by omega) (by omega) (by omega)
  case rest =>
    obtain ⟨g, lf, pv, rfl, hg, hlf, hpv, hE2, hg0, hlf0, hpv0⟩ := hcut
    have hz23 := cell_lt ht0
    have hat := HTO4.out.ext hE2
    have htree := hE2.heap_some HB4.out
    have hbes := HBE4.out.ext hE2
    have hst := hbes.stays
    rw [HL.out] at hst
    have hFt : ¬ F' w2.heap.size := fun hf => by have := HF2.out _ hf; omega
    have hFg : ¬ F' g := fun hf => by have := HF2.out _ hf; omega
    have hsl := hlf.stays (F := F') fun k hk hf => by have := hlf0 k hk; have := HF2.out _ hf; omega
    have hsp := hpv.stays (F := F') fun k hk hf => by have := hpv0 k hk; have := HF2.out _ hf; omega
    have hcs : ∀ v, Kp F' wc v → v.cell? ⟨w2.heap.size, 0, none⟩ = some (.slice (some ⟨lb, lo, none⟩) 3 vc) ∧ v.cell? ⟨g, 0, none⟩ = some lf ∧ v.cell? ⟨g, 1, none⟩ = some (.int .u64 7) ∧ v.cell? ⟨g, 2, none⟩ = some pv := fun v k =>
      ⟨k.cell_some hFt (cell_of htree 0), k.cell_some hFg (cell_of hg 0), k.cell_some hFg (cell_of hg 1), k.cell_some hFg (cell_of hg 2)⟩
    have HCS := hid hcs
    have HST := hid hst
    have HSL := hid hsl
    have HSP := hid hsp
    have HT8 := hid hat
    have HEX : Hid (Ext w w1 ∧ ∀ k, F k → w.heap.size ≤ k) := hid ⟨HX1.out, HF.out⟩
    have hyes := aw_yes
    have hno := aw_no
    have hpath := aw_path
    rw [HD3.out, HB0.out] at hyes hno hpath
    have HYES := hid hyes
    have HNO := hid hno
    have HPATH := hid hpath
    have hlen3 : awT.1.length = 3 := by rw [HT.out]; rfl
    have HROOT : Hid (∀ v, Kp F' wc v → Calls Try.prog 17 #[.agg #[.slice (some ⟨lb, lo, none⟩) 3 vc]] v fun e v' => e = .returned (uv (rootL awT.1)) ∧ Ext v v') := hid fun v k => mRoot_any _ awT.1 v (HST.out v k) (by rw [hlen3]; omega) HE.out
    have HPT : Hid (∀ v, Kp F' wc v → Calls Try.prog 20 #[.agg #[.slice (some ⟨lb, lo, none⟩) 3 vc], .int .i64 2] v (NewP v [d3, b0])) := hid fun v k => by
      have := mPath_any _ awT.1 2 v (HST.out v k) (by rw [hlen3]; omega) HE.out
      rw [HPATH.out] at this
      exact this
    have HVER : Hid (∀ (i : Int) v F1, OrcTo w1 b F awT.2 v F1 → OrcTo wc b F' awT.2 v F1 → Calls Try.prog 33 #[.pointer (some ⟨b, 0, none⟩), uv (rootL awT.1), .int .i64 4, .int .i64 i, .agg #[lf, .int .u64 7, pv]] v
        fun e v' => e = .returned (.bool (awT.2.verify (rootL awT.1) 4 i ⟨[3], 7, [d3, b0]⟩).1) ∧ ∃ F2, OrcTo v b F1 awT.2 v' F2) := hid fun i v F1 h k => by
      have h1 := mVerify_any (root := rootL awT.1) (n := 4) (i := i) (x := ⟨[3], 7, [d3, b0]⟩) (lf := lf) (pv := pv) h.at' (fun w' k' => ((HSL.out.to k) w' k').weak) (fun w' k' => ((HSP.out.to k) w' k').weak) (by simp) (by simp) (by rw [aw_qs]; omega) (by rw [aw_draws]; omega)
      refine h1.mono ?_
      rintro e v' ⟨he, F2, ht⟩
      rw [verify_ideal aw_ideal] at ht
      exact ⟨he, F2, ht⟩
    clear hg hlf hpv hE2 hg0 hlf0 hpv0 hz23 hat htree hbes hst hFt hFg hsl hsp hcs hyes hno hpath hlen3 ht0 c1 f0 c0' f1'
    generalize rootL awT.1 = rt at *
    go_wp2_with fail
    refine wp_region_T (fun v => (v.cell? ⟨w2.heap.size, 0, none⟩ = some (.slice (some ⟨lb, lo, none⟩) 3 vc) ∧ v.cell? ⟨g, 0, none⟩ = some lf ∧ v.cell? ⟨g, 1, none⟩ = some (.int .u64 7) ∧ v.cell? ⟨g, 2, none⟩ = some pv) ∧ Kp F' wc v) 18 [(0, true), (1, true), (3, true), (2, false), (4, false), (5, true), (6, true), (7, true), (9, true), (8, false), (10, false), (11, true), (12, true), (13, true), (14, true), (16, true), (17, true), (15, false), (18, false), (19, false), (20, false), (21, false), (22, false), (23, false), (24, false), (25, false)] (by kernel_rfl) (by kernel_rfl) (by intro c a d v w h; cases d <;> exact h) ?_
    intro ops hops
    have HS := keepKs HCS.out (Kp.refl _ wc).drew
    iterate 3
      refine wpT_take (v := ?_) (by rw [hops, List.getElem?_toArray]; rfl) (by first | rfl | (rw [hops]; rfl)) ?_ HS ?_
      rotate_left
      · intro v h; go_simp; with_reducible rfl
      simp only [Act.put, List.getElem_toArray, List.getElem_cons_zero, List.getElem_cons_succ, List.setIfInBounds_toArray, List.set_cons_zero, List.set_cons_succ]
    refine wpT_step (by rw [hops, List.getElem?_toArray]; rfl) (by first | rfl | (rw [hops]; rfl)) ?_
    intro K hK
    go_wp2_with fail
    refine (HROOT.out _ HS.2).mono ?_
    rintro e v1 ⟨rfl, hx1⟩
    have HS1 := keepK HCS.out HS hx1
    have T1 : Hid (OrcTo wc b F' awT.2 v1 F') := hid (.of_ext HT8.out.at' ((Ext.refl wc).drew.trans hx1))
    refine hK _ _ ⟨fun _ => HS1, ?_⟩
    clear hK K
    refine wpT_step (by rw [hops, List.getElem?_toArray]; rfl) (by first | rfl | (rw [hops]; rfl)) ?_
    intro K hK
    go_wp2_with fail
    refine (HVER.out 2 _ _ (HT8.out.trans T1.out) T1.out).mono ?_
    rintro e v2 ⟨rfl, F2, ht⟩
    have T2 := hid (T1.out.trans ht)
    have HS2 := keepKs HCS.out T2.out.kp
    rw [HYES.out]
    refine hK _ _ ⟨fun _ => HS2, ?_⟩
    clear hK K
    clear HS HS1 hx1 ht
    iterate 4
      refine wpT_take (v := ?_) (by rw [hops, List.getElem?_toArray]; rfl) (by first | rfl | (rw [hops]; rfl)) ?_ HS2 ?_
      rotate_left
      · intro v h; go_simp; with_reducible rfl
      simp only [Act.put, List.getElem_toArray, List.getElem_cons_zero, List.getElem_cons_succ, List.setIfInBounds_toArray, List.set_cons_zero, List.set_cons_succ]
    refine wpT_step (by rw [hops, List.getElem?_toArray]; rfl) (by first | rfl | (rw [hops]; rfl)) ?_
    intro K hK
    go_wp2_with fail
    refine (HROOT.out _ HS2.2).mono ?_
    rintro e v3 ⟨rfl, hx3⟩
    have HS3 := keepK HCS.out HS2 hx3
    have T3 := hid (T2.out.ext hx3)
    refine hK _ _ ⟨fun _ => HS3, ?_⟩
    clear hK K
    refine wpT_step (by rw [hops, List.getElem?_toArray]; rfl) (by first | rfl | (rw [hops]; rfl)) ?_
    intro K hK
    go_wp2_with fail
    refine (HVER.out 3 _ _ (HT8.out.trans T3.out) T3.out).mono ?_
    rintro e v4 ⟨rfl, F4, ht⟩
    have T4 := hid (T3.out.trans ht)
    have HS4 := keepKs HCS.out T4.out.kp
    rw [HNO.out]
    refine hK _ _ ⟨fun _ => HS4, ?_⟩
    clear hK K
    clear HS2 HS3 hx3 ht
    iterate 6
      refine wpT_take (v := ?_) (by rw [hops, List.getElem?_toArray]; rfl) (by first | rfl | (rw [hops]; rfl)) ?_ HS4 ?_
      rotate_left
      · intro v h; go_simp; with_reducible rfl
      simp only [Act.put, List.getElem_toArray, List.getElem_cons_zero, List.getElem_cons_succ, List.setIfInBounds_toArray, List.set_cons_zero, List.set_cons_succ]
    refine wpT_step (by rw [hops, List.getElem?_toArray]; rfl) (by first | rfl | (rw [hops]; rfl)) ?_
    intro K hK
    go_wp2_with fail
    refine (HPT.out _ HS4.2).mono ?_
    rintro e v5 ⟨pv2, rfl, hpo, hx5, hpn⟩
    have HS5 := keepK HCS.out HS4 hx5
    have T5 := hid (T4.out.ext hx5)
    have HSAME := hid (Same_any pv2 pv [d3, b0] [d3, b0] v5 hpo.rdu (HSP.out _ HS5.2) (by simp) (by simp))
    refine hK _ _ ⟨fun _ => HS5, ?_⟩
    clear hK K
    clear hpo hpn HS4 hx5 HS5
    refine wpT_step (by rw [hops, List.getElem?_toArray]; rfl) (by first | rfl | (rw [hops]; rfl)) ?_
    intro K hK
    go_wp2_with fail
    refine HSAME.out.mono ?_
    rintro e v6 ⟨rfl, hx6⟩
    have T6 := hid (T5.out.ext hx6)
    rw [show ([d3, b0] == [d3, b0]) = true from by simp]
    refine hK _ _ ⟨fun h => absurd h (by decide), ?_⟩
    clear hK K
    clear hx6
    refine wpT_step (by rw [hops, List.getElem?_toArray]; rfl) (by first | rfl | (rw [hops]; rfl)) ?_
    intro K hK
    go_wp2_with fail
    try (with_reducible refine ⟨fun h => absurd h (by decide), ?_⟩)
    try rw [← hops]
    refine wpT_step (by rw [hops, List.getElem?_toArray]; rfl) (by first | rfl | (rw [hops]; rfl)) ?_
    intro K hK
    go_wp2_with fail
    try (with_reducible refine ⟨fun h => absurd h (by decide), ?_⟩)
    try rw [← hops]
    refine wpT_step (by rw [hops, List.getElem?_toArray]; rfl) (by first | rfl | (rw [hops]; rfl)) ?_
    intro K hK
    go_wp2_with fail
    try (with_reducible refine ⟨fun h => absurd h (by decide), ?_⟩)
    try rw [← hops]
    refine wpT_step (by rw [hops, List.getElem?_toArray]; rfl) (by first | rfl | (rw [hops]; rfl)) ?_
    intro K hK
    go_wp2_with fail
    refine (HT8.out.trans T6.out).at'.draws12.mono ?_
    rintro e v7 ⟨rfl, rfl⟩
    rw [aw_draws]
    refine hK _ _ ⟨fun h => absurd h (by decide), ?_⟩
    clear hK K
    refine wpT_step (by rw [hops, List.getElem?_toArray]; rfl) (by first | rfl | (rw [hops]; rfl)) ?_
    intro K hK
    go_wp2_with fail
    try (with_reducible refine ⟨fun h => absurd h (by decide), ?_⟩)
    try rw [← hops]
    refine wpT_step (by rw [hops, List.getElem?_toArray]; rfl) (by first | rfl | (rw [hops]; rfl)) ?_
    intro K hK
    go_wp2_with fail
    try (with_reducible refine ⟨fun h => absurd h (by decide), ?_⟩)
    try rw [← hops]
    refine wpT_step (by rw [hops, List.getElem?_toArray]; rfl) (by first | rfl | (rw [hops]; rfl)) ?_
    intro K hK
    go_wp2_with fail
    try (with_reducible refine ⟨fun h => absurd h (by decide), ?_⟩)
    try rw [← hops]
    rw [wpT_nil]
    clear hops ops
    go_wp2_with fail
    go_ret
    exact ⟨rfl, HEX.out.1.kp (HT8.out.trans T6.out).kp HEX.out.2⟩
end Go.Proofs.Ytdpgfjnpcjpdpaa
