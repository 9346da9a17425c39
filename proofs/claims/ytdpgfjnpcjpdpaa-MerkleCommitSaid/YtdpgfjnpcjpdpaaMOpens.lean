/- MerkleOpens returns true. MerkleOpens returns true: the walk. -/
import Derived.Test.YtdpgfjnpcjpdpaaAwk12
import Derived.Test.YtdpgfjnpcjpdpaaWorld
import Derived.Test.YtdpgfjnpcjpdpaaOpensLaw
set_option linter.unusedSimpArgs false
namespace Go.Proofs.Ytdpgfjnpcjpdpaa
open Go.RowKit
attribute [local irreducible] perm fAdd fMul fPow fSub fNeg fRed hashU drawOf nextState awT

theorem Good.progs : ∀ (l : List Qn) {M : Orc}, Good M → Good (M.progs l)
  | [], _, h => h
  | q :: r, M, h => by
    show Good ((M.prog q.label q.elems q.answer).2.progs r)
    refine Good.progs r ?_
    rcases prog_cases M q.label q.elems q.answer with h1 | ⟨h1, h2, _⟩
    · rw [h1]; exact h
    · rw [h1]
      intro x hx
      rw [add_qs] at hx
      rcases List.mem_append.1 hx with h3 | h3
      · exact h x h3
      · rw [List.mem_singleton] at h3; subst h3; exact h2
theorem good_begin (real : Bool) (seed : UInt64) (Q : List Qn) : Good (beginM real seed Q) := by
  unfold beginM
  split
  · intro q hq; cases hq
  · exact Good.progs Q (fun q hq => by cases hq)
theorem progs_draws : ∀ (l : List Qn) (M : Orc), (M.progs l).draws = M.draws
  | [], _ => rfl
  | q :: r, M => by
    show ((M.prog q.label q.elems q.answer).2.progs r).draws = _
    rw [progs_draws r]
    rcases prog_cases M q.label q.elems q.answer with h1 | ⟨h1, _⟩ <;> rw [h1]
    rw [add_draws]
theorem begin_small (real : Bool) (seed : UInt64) (Q : List Qn) (h : Q.length ≤ 40) : (beginM real seed Q).qs.length ≤ 40 ∧ (beginM real seed Q).draws = 0 := by
  unfold beginM
  split
  · exact ⟨Nat.zero_le _, rfl⟩
  · refine ⟨?_, progs_draws _ _⟩
    have := progs_qs_le Q (Orc.fresh true seed)
    have h0 : (Orc.fresh true seed).qs.length = 0 := rfl
    omega
theorem climb_small : ∀ (k : Nat) (M : Orc) (level : List UInt64), (M.climb k level).2.qs.length ≤ M.qs.length + level.length ∧ (M.climb k level).2.draws ≤ M.draws + level.length
  | 0, M, level => by rw [Orc.climb]; exact ⟨Nat.le_add_right _ _, Nat.le_add_right _ _⟩
  | k + 1, M, level => by
    by_cases h : level.length ≤ 1
    · rw [climb_stop M (k + 1) level h]; exact ⟨Nat.le_add_right _ _, Nat.le_add_right _ _⟩
    · rw [climb_go M k level h]
      have ih := climb_small k (M.asks (branchQ level)).2 (M.asks (branchQ level)).1
      have h1 := asks_qs_le (branchQ level) M
      have h2 := asks_draws_le (branchQ level) M
      rw [asks_length, branchQ_length] at ih
      rw [branchQ_length] at h1 h2
      simp only
      omega
theorem commit_small (M : Orc) (leaves : Lv) (salts : List UInt64) : (M.commitT leaves salts).2.qs.length ≤ M.qs.length + 2 * leaves.length ∧ (M.commitT leaves salts).2.draws ≤ M.draws + 2 * leaves.length := by
  unfold Orc.commitT
  split
  · unfold Orc.tree
    have ih := climb_small 10 (M.asks (leafQ leaves salts)).2 (M.asks (leafQ leaves salts)).1
    have h1 := asks_qs_le (leafQ leaves salts) M
    have h2 := asks_draws_le (leafQ leaves salts) M
    rw [asks_length] at ih
    have h3 : (leafQ leaves salts).length ≤ leaves.length := by unfold leafQ; simp; omega
    omega
  · exact ⟨Nat.le_add_right _ _, Nat.le_add_right _ _⟩
theorem commitT_lens {M : Orc} {leaves : Lv} {salts : List UInt64} (hg : Good M) (hok : commitOk leaves salts = true) : formed (M.commitT leaves salts).1 = true ∧ lnAt (M.commitT leaves salts).1 0 = leaves.length := by
  have hok' := hok
  unfold commitOk at hok'
  simp only [Bool.and_eq_true, beq_iff_eq] at hok'
  have hC : M.commitT leaves salts = M.tree leaves salts := by unfold Orc.commitT; rw [hok]; rfl
  have hA : (M.asks (leafQ leaves salts)).1.length = leaves.length := by rw [asks_length, leafQ_length hok'.2.1]
  have hn1 := isNum_pos hok'.1
  obtain ⟨-, -, ⟨r, hr⟩, hf⟩ := climb_ok 10 (M.asks (leafQ leaves salts)).2 (M.asks (leafQ leaves salts)).1 (Good.asks _ hg) (asks_lt _ hg) (by rw [hA]; exact hok'.1) (by rw [hA]; exact hn1.2)
  rw [hC]
  unfold Orc.tree
  refine ⟨hf, ?_⟩
  rw [hr]; exact hA
theorem formed_small {ls : Lv} (h : formed ls = true) : ls.length ≤ 11 ∧ ∀ l ∈ ls, l.length ≤ 1024 := by
  constructor
  · have hne := List.length_pos_iff.2 (formed_ne h)
    have h1 := formed_pow h (ls.length - 1) (by omega)
    rw [formed_last h] at h1
    have h2 := (isNum_pos (formed_first h)).2
    rcases Nat.lt_or_ge (ls.length - 1) 11 with h3 | h3
    · omega
    · have := Nat.pow_le_pow_right (show 0 < 2 by omega) h3
      omega
  · intro l hl
    obtain ⟨j, hj⟩ := List.mem_iff_getElem?.1 hl
    have h1 := formed_lens h j (List.getElem?_eq_some_iff.1 hj).1
    rw [lnAt_of hj] at h1
    exact (isNum_pos h1).2
end Go.Proofs.Ytdpgfjnpcjpdpaa
namespace Go.Proofs.Ytdpgfjnpcjpdpaa
open Go.RowKit
attribute [local irreducible] perm fAdd fMul fPow fSub fNeg fRed hashU drawOf nextState awT

set_option maxRecDepth 100000 in
set_option maxHeartbeats 6400000 in
theorem MerkleOpens_any {w : World} {real : Bool} {seed : UInt64} {qv lv sv : Value} {Q : List Qn} {leaves : Lv} {salts : List UInt64} (hq : RdQ' w qv Q) (hl : RdL w lv leaves) (hs : RdU w sv salts) :
    Calls Try.prog 6 #[.agg #[.bool real, uv seed, qv], lv, sv] w fun e w' => e = .returned (.bool true) ∧ Ext w w' := by
  obtain ⟨qa, qc, rfl, -⟩ := id hq
  obtain ⟨la, lc, rfl, hlc, -⟩ := hl.shape
  obtain ⟨sa, sc, rfl, -⟩ := id hs
  have hx0 := (Ext.refl w).alloc (.cells #[.bool real, uv seed, .slice qa Q.length qc] 66)
  have hb0 := heap_new w (.cells #[.bool real, uv seed, .slice qa Q.length qc] 66)
  have HX0 := hid hx0
  have HB0 := hid hb0
  have HQ := hid hq
  have HL := hid hl
  have HS := hid hs
  have HA := hid awake12_any
  clear hx0 hb0 hq hl hs
  go_enter Try.func6, Try.ntmps6
  go_wp2_with fail
  refine (HA.out _).mono ?_
  rintro e w1 ⟨rfl, hx1⟩
  have hb1 := hx1.heap_some HB0.out
  have c0 : w1.cell? ⟨w.heap.size, 0, none⟩ = some (.bool real) := cell_of hb1 0
  have c1 : w1.cell? ⟨w.heap.size, 1, none⟩ = some (uv seed) := cell_of hb1 1
  have c2 : w1.cell? ⟨w.heap.size, 2, none⟩ = some (.slice qa Q.length qc) := cell_of hb1 2
  have HX1 := hid (HX0.out.trans hx1)
  have HB1 := hid hb1
  clear hx1 hb1
  go_wp2_with fail
  refine (Few_any (HQ.out.ext HX1.out)).mono ?_
  rintro e w2 ⟨rfl, hx2⟩
  have HX2 := hid (HX1.out.trans hx2)
  have HB2 := hid (hx2.heap_some HB1.out)
  have HSH := hid (Short_any (sa := sa) (sc := sc) (salts := salts) (HL.out.ext HX2.out))
  clear hx2 c0 c1 c2
  cases hf : fewW Q with
  | false =>
    clear hf
    go_wp2_with fail
    refine (HA.out _).mono ?_
    rintro e w3 ⟨rfl, hx3⟩
    have HX3 := hid (HX2.out.trans hx3)
    clear hx3
    go_wp2_with fail
    go_ret
    exact ⟨rfl, HX3.out⟩
  | true =>
    have HFW := hid hf
    clear hf
    go_wp2_with fail
    refine HSH.out.mono ?_
    rintro e w3 ⟨rfl, rfl⟩
    cases hsh : shortL leaves salts with
    | false =>
      clear hsh
      go_wp2_with fail
      refine (HA.out _).mono ?_
      rintro e w3 ⟨rfl, hx3⟩
      have HX3 := hid (HX2.out.trans hx3)
      clear hx3
      go_wp2_with fail
      go_ret
      exact ⟨rfl, HX3.out⟩
    | true =>
      have HSP := hid (shortL_parts hsh)
      clear hsh
      have c0 : w2.cell? ⟨w.heap.size, 0, none⟩ = some (.bool real) := cell_of HB2.out 0
      have c1 : w2.cell? ⟨w.heap.size, 1, none⟩ = some (uv seed) := cell_of HB2.out 1
      have c2 : w2.cell? ⟨w.heap.size, 2, none⟩ = some (.slice qa Q.length qc) := cell_of HB2.out 2
      go_wp2_with fail
      refine (begin_any (HQ.out.ext HX2.out) HFW.out).mono ?_
      rintro e w3 ⟨b, F, rfl, hat, hx3, hF⟩
      have hFw : ∀ k, F k → w.heap.size ≤ k := fun k hk => Nat.le_trans HX2.out.size (hF k hk)
      have hx3' := HX2.out.trans hx3
      have HX3 := hid hx3'
      have HF := hid hFw
      have hsm := begin_small real seed Q (fewW_parts HFW.out).2
      have hgd := good_begin real seed Q
      obtain ⟨M, hM⟩ : ∃ M, M = beginM real seed Q := ⟨_, rfl⟩
      rw [← hM] at hat hsm hgd
      have HAT := hid hat
      have HSM := hid hsm
      have HGD := hid hgd
      have hstl : Stays F w3 fun v => RdL v (.slice la leaves.length lc) leaves := Stays.of_new (w0 := w) (fun v k => HL.out.ext k) hx3' hFw
      have hsts : Stays F w3 fun v => RdU v (.slice sa salts.length sc) salts := Stays.of_new (w0 := w) (fun v k => HS.out.ext k) hx3' hFw
      have HSTL := hid hstl
      have HSTS := hid hsts
      have HCO := hid (mCommit_any hat hstl (fun v k => (hsts v k).weak) (by have := HSP.out.2.1; omega) (fun l hl => by have := HSP.out.1 l hl; omega) (by have := HSP.out.2.2; omega) (by omega) (by omega))
      clear c0 c1 c2 hat hx3 hF hFw hx3' hsm hgd hM hstl hsts
      go_wp2_with fail
      refine HCO.out.mono ?_
      rintro e w4 ⟨v, L, rfl, hL, F', ht, hbes⟩
      obtain ⟨va, vc, rfl, -⟩ := ownsRow_rd hbes.own.1
      cases hck : commitOk leaves salts with
      | false =>
        have HX4 := hid (HX3.out.kp ht.kp HF.out)
        clear hck ht hbes hL
        go_wp2_with fail
        go_ret
        exact ⟨rfl, HX4.out.alloc _⟩
      | true =>
        have hopen := fun (i : Nat) (l : List UInt64) (s : UInt64) (h1 : leaves[i]? = some l) (h2 : salts[i]? = some s) => opens_fit HGD.out hck h1 h2
        have hlens := commitT_lens HGD.out hck
        have hcs := commit_small M leaves salts
        have hslen : salts.length = leaves.length := by
          have := hck
          unfold commitOk at this
          simp only [Bool.and_eq_true, beq_iff_eq] at this
          exact this.2.1
        generalize (M.commitT leaves salts).2 = MT at *
        generalize (M.commitT leaves salts).1 = TL at *
        have hstay := hbes.stays
        rw [hL] at hstay
        have hfs := formed_small hlens.1
        have hFt : ¬ F' w4.heap.size := fun hf => by have := ht.at'.foot_lt _ hf; omega
        have hbt := heap_new w4 (.cells #[.slice va L.length vc] 27)
        have hx5 := (Ext.refl w4).alloc (.cells #[.slice va L.length vc] 27)
        have HOP := hid hopen
        have HSTAY := hid hstay
        have HFS := hid hfs
        have HT4 := hid ht
        have HCS := hid hcs
        have HSL := hid hslen
        have HBT := hid hbt
        have HX5 := hid hx5
        have HFT := hid hFt
        have hn16 : leaves.length ≤ 16 := HSP.out.2.1
        have HN16 := hid hn16
        have hlm : (leaves.length : Int) ≤ 16 := by omega
        clear hopen hlens hcs hslen hstay hfs hFt hbt hx5 ht hbes hL hck hn16 HCO HSH
        go_wp2_with fail
        go_loopw [40] (fun iv wr => ∃ (i : Nat) (F2 : Nat → Prop), i ≤ leaves.length ∧ iv = .int .i64 i ∧ Hid (OrcTo w4 b F' MT wr F2) ∧ Hid (wr.heap[w4.heap.size]? = some (.cells #[.slice va L.length vc] 27 (0, 0)) ∧ ¬ F2 w4.heap.size)) (fun iv _ => leaves.length - (intOf iv).toNat)
        case atStart => exact ⟨0, F', by omega, rfl, hid (.of_ext HT4.out.at' HX5.out), hid ⟨HBT.out, HFT.out⟩⟩
        case round =>
          obtain ⟨i, F2, hi, rfl, HTR, HTB⟩ := hrel
          have hto3 := HT4.out.trans HTR.out
          have hxr : Ext w wr := HX3.out.kp hto3.kp HF.out
          have hF2w : ∀ k, F2 k → w.heap.size ≤ k := fun k hk => by
            rcases hto3.new k hk with h | h
            · exact HF.out k h
            · exact Nat.le_trans HX3.out.size h
          by_cases hlt : i < leaves.length
          · obtain ⟨l, hll⟩ : ∃ l, leaves[i]? = some l := ⟨_, List.getElem?_eq_getElem hlt⟩
            obtain ⟨s, hss⟩ : ∃ s, salts[i]? = some s := ⟨_, List.getElem?_eq_getElem (by rw [HSL.out]; exact hlt)⟩
            obtain ⟨lb, lo, y, d, rfl, hcl, hrl, -⟩ := HL.out.at hll
            obtain ⟨sb, so, rfl, hcsl⟩ := HS.out.at hss
            have hlbF : ¬ F2 lb := fun hf => by have := hF2w _ hf; have := cell_lt hcl; omega
            have hsbF : ¬ F2 sb := fun hf => by have := hF2w _ hf; have := cell_lt hcsl; omega
            have hcells : ∀ v, Kp F2 wr v → v.cell? ⟨w4.heap.size, 0, none⟩ = some (.slice va L.length vc) ∧ v.cell? ⟨lb, lo + i, none⟩ = some (.slice y l.length d) ∧ v.cell? ⟨sb, so + i, none⟩ = some (uv s) := fun v k =>
              ⟨k.cell_some HTB.out.2 (cell_of HTB.out.1 0), k.cell_some hlbF (hxr.cell_some hcl), k.cell_some hsbF (hxr.cell_some hcsl)⟩
            have HCELLS := hid hcells
            have hlev : ∀ v, Kp F2 wr v → RdL v (.slice va L.length vc) TL := fun v k => (HSTAY.out.to HTR.out) v k
            have HLEV := hid hlev
            have hleaf : Stays F2 wr fun v => RdU' v (.slice y l.length d) l := Stays.of_new (w0 := w) (fun v k => hrl.ext k) hxr hF2w
            have HLEAF := hid hleaf
            have hle := HSP.out.1 l (List.mem_of_getElem? hll)
            have hop := HOP.out i l s hll hss
            have HOPI := hid hop
            have hi0 : (0 : Int) ≤ (i : Int) := by omega
            have hi1 : (i : Int) < (leaves.length : Int) := by omega
            have hi2 : (i : Int) < (salts.length : Int) := by rw [HSL.out]; exact hi1
            have HXR := hid hxr
            clear hll hss hcl hrl hcsl hlbF hsbF hcells hlev hleaf hop hxr hF2w hto3
            go_wp2_with fail
            refine wp_region_T (fun v => (v.cell? ⟨w4.heap.size, 0, none⟩ = some (.slice va L.length vc) ∧ v.cell? ⟨lb, lo + i, none⟩ = some (.slice y l.length d) ∧ v.cell? ⟨sb, so + i, none⟩ = some (uv s)) ∧ Kp F2 wr v) 18 [(0, true), (1, true), (3, true), (4, true), (5, true), (6, true), (7, true), (8, true), (9, true), (10, true), (11, true), (12, true), (13, true), (14, true), (15, true), (2, false), (16, false), (17, true), (18, false), (19, false)] (by kernel_rfl) (by kernel_rfl) (by intro c a d v w h; cases d <;> exact h) ?_
            intro ops hops
            have HS0 := keepKs HCELLS.out (Kp.refl _ wr).drew
            iterate 15
              refine wpT_take (v := ?_) (by rw [hops, List.getElem?_toArray]; rfl) (by first | rfl | (rw [hops]; rfl)) ?_ HS0 ?_
              rotate_left
              · intro v h; go_simp; with_reducible rfl
              simp only [Act.put, List.getElem_toArray, List.getElem_cons_zero, List.getElem_cons_succ, List.setIfInBounds_toArray, List.set_cons_zero, List.set_cons_succ]
            refine wpT_step (by rw [hops, List.getElem?_toArray]; rfl) (by first | rfl | (rw [hops]; rfl)) ?_
            intro K hK
            go_wp2_with fail
            refine (mRoot_any _ TL _ (HLEV.out _ HS0.2) (by have := HFS.out.1; omega) (fun l hl => by have := HFS.out.2 l hl; omega)).mono ?_
            rintro e v1 ⟨rfl, hy1⟩
            have HS1 := keepK HCELLS.out HS0 hy1
            refine hK _ _ ⟨fun _ => HS1, ?_⟩
            clear hK K
            refine wpT_step (by rw [hops, List.getElem?_toArray]; rfl) (by first | rfl | (rw [hops]; rfl)) ?_
            intro K hK
            go_wp2_with fail
            refine (mPath_any _ TL i _ (HLEV.out _ HS1.2) (by have := HFS.out.1; omega) (fun l hl => by have := HFS.out.2 l hl; omega)).mono ?_
            rintro e v2 ⟨pv, rfl, hpo, hy2, hpn⟩
            have HS2 := keepK HCELLS.out HS1 hy2
            obtain ⟨pa, pc, rfl, -⟩ := ownsRow_rd hpo
            have hT2 : OrcTo w4 b F' MT v2 F2 := (HTR.out.ext ((Ext.refl wr).drew.trans hy1)).ext hy2
            have hplen : (pathL TL i).length ≤ 11 := by
              unfold pathL
              split
              · rw [pathN_length]; have := HFS.out.1; omega
              · simp
            have hpst : Stays F2 v2 fun v => RdU' v (.slice pa (pathL TL i).length pc) (pathL TL i) := fun w' k => (OwnU.rdu (ownsRow_kp hpo k (fun j hj hf => by
              have h1 := hpn j hj
              have h2 := (HTR.out.at'.ext ((Ext.refl wr).drew.trans hy1)).foot_lt j hf
              omega))).weak
            have HVE := hid (mVerify_any (root := rootL TL) (n := leaves.length) (i := i) (x := ⟨l, s, pathL TL i⟩) (lf := .slice y l.length d) (pv := .slice pa (pathL TL i).length pc) hT2.at' (fun w' k => HLEAF.out w' (HS2.2.trans k)) hpst (by simp; omega) (by simp; omega) (by have := HCS.out.1; have := HSM.out.1; have := HN16.out; omega) (by have := HCS.out.2; have := HSM.out.2; have := HN16.out; omega))
            rw [HOPI.out] at HVE
            have HT2 := hid hT2
            refine hK _ _ ⟨fun _ => HS2, ?_⟩
            clear hK K
            clear hpo hpn hy2 hpst hplen HS0 HS1 hy1 hT2
            iterate 1
              refine wpT_take (v := ?_) (by rw [hops, List.getElem?_toArray]; rfl) (by first | rfl | (rw [hops]; rfl)) ?_ HS2 ?_
              rotate_left
              · intro v h; go_simp; with_reducible rfl
              simp only [Act.put, List.getElem_toArray, List.getElem_cons_zero, List.getElem_cons_succ, List.setIfInBounds_toArray, List.set_cons_zero, List.set_cons_succ]
            refine wpT_step (by rw [hops, List.getElem?_toArray]; rfl) (by first | rfl | (rw [hops]; rfl)) ?_
            intro K hK
            go_wp2_with fail
            refine HVE.out.mono ?_
            rintro e v3 ⟨rfl, F3, ht3⟩
            have HT3 := hid (HT2.out.trans ht3)
            have hb3 := ht3.kp.heap_some HTB.out.2 (HS2.2.heap_some HTB.out.2 HTB.out.1)
            have hF3 : ¬ F3 w4.heap.size := ht3.apart (heap_lt (HS2.2.heap_some HTB.out.2 HTB.out.1)) HTB.out.2
            have HTB3 := hid (And.intro hb3 hF3)
            clear ht3 hb3 hF3 HS2
            refine hK _ _ ⟨fun h => absurd h (by decide), ?_⟩
            clear hK K
            refine wpT_step (by rw [hops, List.getElem?_toArray]; rfl) (by first | rfl | (rw [hops]; rfl)) ?_
            intro K hK
            go_wp2_with fail
            try (with_reducible refine ⟨fun h => absurd h (by decide), ?_⟩)
            try rw [← hops]
            rw [wpT_nil]
            clear hops ops
            go_wp2_with fail
            go_roundw
            case rel => exact ⟨i + 1, F3, by omega, by go_num, HT3, HTB3⟩
            case measure => simp [intOf]; omega
          · have HXR := hid hxr
            clear hxr hto3
            go_wp2_with fail
            go_ret
            exact ⟨rfl, HXR.out⟩
end Go.Proofs.Ytdpgfjnpcjpdpaa
