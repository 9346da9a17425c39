/- The transcript; the reference's lists of package 01 and 09. -/
import Derived.Test.YtdpgfjnpcjpdpaaMOpens
import Derived.Test.YtdpgfjnpcjpdpaaSame
import Derived.Test.YtdpgfjnpcjpdpaaRefHash
set_option linter.unusedSimpArgs false
namespace Go.Proofs.Ytdpgfjnpcjpdpaa
open Go.RowKit
attribute [local irreducible] perm fAdd fMul fPow fSub fNeg fRed hashU drawOf nextState awT

set_option maxHeartbeats 400000 in
theorem tNew_any (label : UInt64) (w : World) : Calls Try.prog 27 #[uv label] w fun e w' => e = .returned (.agg #[uv label, .int .u64 0]) ∧ Ext w w' := by
  go_enter Try.func27, Try.ntmps27
  go_wp2
  exact bodyPost_ret (v := .agg #[uv label, .int .u64 0]) (by simp [results, Try.results27, go_sem]) rfl ⟨rfl, (Ext.refl _).alloc _⟩
set_option maxRecDepth 100000 in
set_option maxHeartbeats 800000 in
theorem Same01_any (av bv : Value) (a b : List UInt64) (w : World) (ha : RdU w av a) (hb : RdU w bv b) (hA : a.length ≤ 1000000000000) (hB : b.length ≤ 1000000000000) :
    Calls Try.prog 30 #[av, bv] w fun e w' => e = .returned (.bool (a == b)) ∧ Ext w w' := by
  have HA := hid ha
  have HB := hid hb
  obtain ⟨aa, ac, rfl, -⟩ := ha
  obtain ⟨ba, bc, rfl, -⟩ := hb
  have hA1 : (a.length : Int) ≤ 1000000000000 := by omega
  go_enter Try.func30, Try.ntmps30
  by_cases hlen : a.length = b.length
  · have hlB : ((a.length : Int) != (b.length : Int)) = false := by simp [hlen]
    have HL := hid hlen
    clear hlen
    go_wp2
    go_loopw [5] (fun iv wr => ∃ i : Nat, i ≤ a.length ∧ iv = .int .i64 i ∧ Hid (a.take i = b.take i) ∧ Ext w wr) (fun iv _ => a.length - (intOf iv).toNat)
    case atStart => exact ⟨0, by omega, rfl, hid rfl, Ext.refl _⟩
    case round =>
      obtain ⟨i, hi, rfl, hI, hE⟩ := hrel
      have HE := hid hE
      clear hE
      by_cases hlt : i < a.length
      · have hlt2 : i < b.length := by rw [← HL.out]; exact hlt
        have hx : a[i]? = some a[i] := List.getElem?_eq_getElem hlt
        have hy : b[i]? = some b[i] := List.getElem?_eq_getElem hlt2
        generalize a[i] = x at *
        generalize b[i] = y at *
        obtain ⟨ab, ao, rfl, hca⟩ := HA.out.at hx
        obtain ⟨bb, bo, rfl, hcb⟩ := HB.out.at hy
        have HX := hid hx
        have HY := hid hy
        have H : ∀ v, Ext w v → v.cell? ⟨ab, ao + i, none⟩ = some (.int .u64 x.toNat) ∧ v.cell? ⟨bb, bo + i, none⟩ = some (.int .u64 y.toNat) := fun v k => ⟨k.cell_some hca, k.cell_some hcb⟩
        have hd : decide ((i : Int) < (a.length : Int)) = true := by simp; omega
        have HS0 : (wr.drew.cell? ⟨ab, ao + i, none⟩ = some (.int .u64 x.toNat) ∧ wr.drew.cell? ⟨bb, bo + i, none⟩ = some (.int .u64 y.toNat)) ∧ Ext w wr.drew := ⟨H _ HE.out.drew, HE.out.drew⟩
        have HH := hid H
        have i1 : (i : Int) < (a.length : Int) := by omega
        have i2 : (i : Int) < (b.length : Int) := by omega
        clear hx hy hca hcb H
        go_wp2_with fail
        refine wp_region_T (fun v => (v.cell? ⟨ab, ao + i, none⟩ = some (.int .u64 x.toNat) ∧ v.cell? ⟨bb, bo + i, none⟩ = some (.int .u64 y.toNat)) ∧ Ext w v) 8 [(0, true), (1, true), (2, true), (3, true), (4, true), (5, true), (6, true), (7, true), (8, false)] (by kernel_rfl) (by kernel_rfl) (by intro c a d v w h; cases d <;> exact h) ?_
        intro ops hops
        iterate 8
          refine wpT_take (v := ?_) (by rw [hops, List.getElem?_toArray]; rfl) (by first | rfl | (rw [hops]; rfl)) ?_ HS0 ?_
          rotate_left
          · intro v h; go_simp; with_reducible rfl
          simp only [Act.put, List.getElem_toArray, List.getElem_cons_zero, List.getElem_cons_succ, List.setIfInBounds_toArray, List.set_cons_zero, List.set_cons_succ]
        by_cases hxy : x = y
        · have hd2 : ((x.toNat : Int) != (y.toNat : Int)) = false := by simp [hxy]
          have HXY := hid hxy
          clear hxy
          refine wpT_step (by rw [hops, List.getElem?_toArray]; rfl) (by first | rfl | (rw [hops]; rfl)) ?_
          intro K hK
          go_wp2_with fail
          refine ⟨fun h => absurd h (by decide), ?_⟩
          rw [wpT_nil]
          clear hops ops
          have hE2 := HS0.2
          have HE2 := hid hE2
          clear hE2 HS0
          go_wp2
          go_roundw
          case rel => exact ⟨i + 1, by omega, by go_num, hid (same_snoc HX.out HY.out hI.out HXY.out), HE2.out⟩
          case measure => simp [intOf]; omega
        · have hd2 : ((x.toNat : Int) != (y.toNat : Int)) = true := by
            simp only [bne_iff_ne, ne_eq]
            intro h; exact hxy (UInt64.toNat_inj.1 (by omega))
          have hfin : (a == b) = false := by
            rw [beq_eq_false_iff_ne]; rintro rfl
            have h1 := HX.out
            rw [HY.out] at h1
            exact hxy (Option.some.inj h1).symm
          have HF := hid hfin
          clear hfin hxy
          refine wpT_step (by rw [hops, List.getElem?_toArray]; rfl) (by first | rfl | (rw [hops]; rfl)) ?_
          intro K hK
          go_wp2_with fail
          refine ⟨fun h => absurd h (by decide), ?_⟩
          rw [wpT_nil]
          clear hops ops
          have hE2 := HS0.2
          have HE2 := hid hE2
          clear hE2 HS0
          go_wp2
          go_ret
          exact ⟨ret_bool HF.out.symm, HE2.out⟩
      · have hi' : i = a.length := by omega
        have hfin : (a == b) = true := by
          have h1 := hI.out
          rw [hi', List.take_length] at h1
          have h2 := HL.out
          rw [h2, List.take_length] at h1
          simpa using h1
        have HF := hid hfin
        have hd : decide ((i : Int) < (a.length : Int)) = false := by simp; omega
        clear hfin
        go_wp2
        go_ret
        exact ⟨ret_bool HF.out.symm, HE.out⟩
  · have hlB : ((a.length : Int) != (b.length : Int)) = true := by simp; omega
    have hfin : (a == b) = false := by
      rw [beq_eq_false_iff_ne]; rintro rfl; exact hlen rfl
    have HF := hid hfin
    clear hfin hlen
    go_wp2
    go_ret
    exact ⟨ret_bool HF.out.symm, Ext.refl _⟩

theorem us_two (a b : UInt64) (l : List UInt64) : [uv a, uv b] ++ us l = us (a :: b :: l) := rfl
def TrO (w : World) (b : Nat) (F : Nat → Prop) (r : UInt64 × Orc) (e : Ending) (w' : World) : Prop := e = .returned (.agg #[uv r.1, .int .u64 0]) ∧ ∃ F', OrcTo w b F r.2 w' F'
set_option maxRecDepth 100000 in
set_option maxHeartbeats 1600000 in
theorem tAbsorb_any {w : World} {b : Nat} {M : Orc} {F : Nat → Prop} {st cnt tag : UInt64} {lv : Value} {l : List UInt64} (h : OrcAt w b M F) (hl : RdU' w lv l) (hL : l.length ≤ 100000000) (hq : M.qs.length ≤ 100000000) (hd : M.draws ≤ 100000000) :
    Calls Try.prog 26 #[.pointer (some ⟨b, 0, none⟩), .agg #[uv st, uv cnt], uv tag, lv] w (TrO w b F (M.hash 18 (st :: tag :: l))) := by
  obtain ⟨i0, hi, hz0, hz1, hz2⟩ := info_parts Try.infoU
  obtain ⟨n, hn⟩ : ∃ n, n = w.heap.size := ⟨_, rfl⟩
  obtain ⟨w0, hw0⟩ : ∃ w0, w0 = (w.alloc (.cells #[uv st, uv cnt] 44)).alloc (.cells #[.int .u64 0, .int .u64 0] 44) := ⟨_, rfl⟩
  have hx0 : Ext w w0 := by rw [hw0]; exact ((Ext.refl _).alloc _).alloc _
  have hz : w0.heap[n + 1]? = some (.cells #[.int .u64 0, .int .u64 0] 44 (0, 0)) := by
    rw [hw0, hn]
    have := heap_new (w.alloc (.cells #[uv st, uv cnt] 44)) (.cells #[.int .u64 0, .int .u64 0] 44)
    rwa [World.size_alloc] at this
  have hsz : w0.heap.size = n + 1 + 1 := by rw [hw0, hn]; simp
  obtain ⟨w1, hw1⟩ : ∃ w1, w1 = w0.alloc (.cells #[uv st, uv tag] 28) := ⟨_, rfl⟩
  have hx1 : Ext w0 w1 := by rw [hw1]; exact (Ext.refl _).alloc _
  have hb : w1.heap[n + 1 + 1]? = some (.cells #[uv st, uv tag] 28 (0, 0)) := by rw [hw1, ← hsz]; exact heap_new _ _
  have how : w1.ownsRow 0 28 1 (.slice (some ⟨n + 1 + 1, 0, none⟩) 2 2) 2 [uv st, uv tag] := ⟨rfl, .inr ⟨n + 1 + 1, 2, #[uv st, uv tag], rfl, Nat.zero_le _, hb, Nat.le_refl _, by unfold maxLen; omega, rfl, rfl⟩⟩
  have hl1 := hl.ext (hx0.trans hx1)
  have hz1' := hx1.heap_some hz
  have HX := hid (hx0.trans hx1)
  have HZ := hid hz1'
  have HN := hid hn
  have HH := hid h
  have HLEN := hid hL
  have HQ := hid hq
  have HD := hid hd
  have HW0 := hid hw0
  have HW1 := hid hw1
  have c0 : True := trivial
  have HOUT : Ext w w1 := hx0.trans hx1
  clear hx0 hx1 hz hz1' hb h hq hd hl c0
  subst hn
  rw [hw1, hw0] at how hl1
  go_enter Try.func26, Try.ntmps26
  go_wp2_with (at_builtin; refine wpList_app' rfl _ _ 24 rfl 28 i0 (.int .u64 0) 1 8 Try.underlying24 hi hz0 hz1 hz2 rfl (by decide) _ 2 [uv st, uv tag] rfl how _ l.length (us l) rfl hl1 (by simp) (us_one l) (by unfold maxLen; omega) (by omega) ?_)
  intro v' w2 hown0 hk0 hbk0
  have hk : Kp (fun k => some k = some (w.heap.size + 1 + 1)) w1 w2 := by rw [hw1, hw0]; exact hk0
  have hbk : blk v' = some (w.heap.size + 1 + 1) ∨ blk v' = some w1.heap.size := by
    rcases hbk0 with hb | hb
    · exact .inl hb
    · exact .inr (hb.trans (by rw [hw1, hw0]; simp))
  clear hk0 hbk0
  have hown : OwnU w2 v' (st :: tag :: l) := by
    have := hown0
    rw [Nat.add_comm] at this
    exact this
  have hsz1 : w1.heap.size = w.heap.size + 1 + 1 + 1 := by rw [hw1, World.size_alloc, hsz]
  have hE : Ext w w2 := HOUT.kp hk (by intro k h; simp at h; omega)
  have hfr : ∀ k, blk v' = some k → w.heap.size ≤ k := by
    intro k h
    rcases hbk with hb | hb
    · rw [hb] at h; simp at h; omega
    · rw [hb] at h; simp at h; omega
  have hz2' := hk.heap_some (by intro h; simp at h) HZ.out
  obtain ⟨va, vc, rfl, -⟩ := ownsRow_rd hown
  have hft := HH.out.foot_lt
  have HC := hid (Hash_orc (label := 18) (HH.out.ext hE) (OwnU.rdu hown) (fun k hk hf => by have := hfr k hk; have := hft k hf; omega) (by simp; have := HLEN.out; omega) (by have := HQ.out; omega) (by have := HD.out; omega))
  have hFn : ¬ F (w.heap.size + 1) := fun hf => by have := hft _ hf; omega
  have HFN := hid hFn
  have HE := hid hE
  have HZ2 := hid hz2'
  clear hown0 hown hk hbk hsz1 hE hfr hz2' hft hFn how hl1 hsz hw0 hw1 HOUT hz0 hz1 hz2 hi
  go_wp2_with fail
  refine HC.out.mono ?_
  rintro e w3 ⟨rfl, F', ht⟩
  have hz3 := ht.kp.heap_some HFN.out HZ2.out
  have hFn3 := ht.apart (heap_lt HZ2.out) HFN.out
  have z0 : w3.cell? ⟨w.heap.size + 1, 0, none⟩ = some (.int .u64 0) := cell_of hz3 0
  have z1 : w3.cell? ⟨w.heap.size + 1, 1, none⟩ = some (.int .u64 0) := cell_of hz3 1
  have zf := frozen_of hz3
  have HT := hid (OrcTo.pre HE.out ht)
  have HZ3 := hid hz3
  have HFN3 := hid hFn3
  obtain ⟨r, hr⟩ : ∃ r, r = M.hash 18 (st :: tag :: l) := ⟨_, rfl⟩
  rw [← hr] at HT ⊢
  have HR := hid hr
  clear hz3 hFn3 ht hr
  go_wp2_with fail
  have hB := heap_setCell_same (heap_setCell_same HZ3.out 0 (uv r.1)) 1 (.int .u64 0)
  have r0 := cell_of hB 0
  have r1 := cell_of hB 1
  have hto := (HT.out.setOther (g := w.heap.size + 1) (Nat.le_succ _) HFN3.out 0 (uv r.1)).setOther (g := w.heap.size + 1) (Nat.le_succ _) HFN3.out 1 (.int .u64 0)
  clear z0 z1 zf
  exact bodyPost_ret (v := .agg #[uv r.1, .int .u64 0]) (by simp [results, Try.results26, go_sem, r0, r1]) rfl ⟨by rw [← HR.out], F', by rw [← HR.out]; exact hto⟩

/-! ## the reference's lists -/
theorem allE_take_snoc {l : List UInt64} {i : Nat} {x : UInt64} (h : l[i]? = some x) (hx : x < big) (ha : allE (l.take i) = true) : allE (l.take (i + 1)) = true := by
  rw [List.take_add_one, h]
  simp only [allE, List.all_append, Option.toList_some, List.all_cons, List.all_nil, Bool.and_true, Bool.and_eq_true, decide_eq_true_eq] at ha ⊢
  exact ⟨ha, hx⟩
theorem allE_no {l : List UInt64} {i : Nat} {x : UInt64} (h : l[i]? = some x) (hx : ¬ x < big) : allE l = false := by
  rcases hb : allE l with _ | _
  · rfl
  · unfold allE at hb
    rw [List.all_eq_true] at hb
    have := hb x (List.mem_of_getElem? h)
    simp at this
    exact absurd this hx
set_option maxRecDepth 100000 in
set_option maxHeartbeats 800000 in
theorem rReduced_any (lv : Value) (l : List UInt64) (w : World) (hl : RdU' w lv l) (hL : l.length ≤ 1000000000000) :
    Calls Try.prog 44 #[lv] w fun e w' => e = .returned (.bool (allE l)) ∧ Ext w w' := by
  have HL := hid hl
  obtain ⟨aa, ac, rfl, -⟩ := hl
  have hA1 : (l.length : Int) ≤ 1000000000000 := by omega
  go_enter Try.func44, Try.ntmps44
  go_wp2
  go_loopw [3] (fun iv wr => ∃ i : Nat, i ≤ l.length ∧ iv = .int .i64 i ∧ Hid (allE (l.take i) = true) ∧ Hid (Ext w wr)) (fun iv _ => l.length - (intOf iv).toNat)
  case atStart => exact ⟨0, by omega, rfl, hid rfl, hid (Ext.refl _)⟩
  case round =>
    obtain ⟨i, hi, rfl, HI, HE⟩ := hrel
    by_cases hlt : i < l.length
    · have hx : l[i]? = some l[i] := List.getElem?_eq_getElem hlt
      generalize l[i] = x at *
      obtain ⟨ab, ao, rfl, hca⟩ := (HL.out.rdu (by rintro rfl; simp at hlt)).at hx
      have hd : decide ((i : Int) < (l.length : Int)) = true := by simp; omega
      have i1 : (i : Int) < (l.length : Int) := by omega
      have i0 : (0 : Int) ≤ (i : Int) := by omega
      have hc := HE.out.cell_some hca
      have HX := hid hx
      have HB := hid (big_dec x)
      clear hx hca
      by_cases hb : x < big
      · have hbd : decide ((18446744069414584321 : Int) ≤ (x.toNat : Int)) = false := by rw [ge_big_dec]; simp [hb]
        have H1 := hid (allE_take_snoc HX.out hb HI.out)
        clear hb
        go_wp2
        go_roundw
        case rel => exact ⟨i + 1, by omega, by go_num, H1, HE⟩
        case measure => simp [intOf]; omega
      · have hbd : decide ((18446744069414584321 : Int) ≤ (x.toNat : Int)) = true := by rw [ge_big_dec]; simp [hb]
        have H1 := hid (allE_no HX.out hb)
        clear hb
        go_wp2
        go_ret
        exact ⟨ret_bool H1.out.symm, HE.out⟩
    · have hi' : i = l.length := by omega
      have hd : decide ((i : Int) < (l.length : Int)) = false := by simp; omega
      have HF : Hid (allE l = true) := by have := HI.out; rw [hi', List.take_length] at this; exact hid this
      clear hi'
      go_wp2
      go_ret
      exact ⟨ret_bool HF.out.symm, HE.out⟩
set_option maxRecDepth 100000 in
set_option maxHeartbeats 800000 in
theorem Same01W_any (av bv : Value) (a b : List UInt64) (w : World) (ha : RdU' w av a) (hb : RdU' w bv b) (hA : a.length ≤ 1000000000000) (hB : b.length ≤ 1000000000000) :
    Calls Try.prog 30 #[av, bv] w fun e w' => e = .returned (.bool (a == b)) ∧ Ext w w' := by
  by_cases hlen : a.length = b.length
  · cases a with
    | nil =>
      obtain rfl : b = [] := List.length_eq_zero_iff.1 hlen.symm
      obtain ⟨aa, ac, rfl, -⟩ := ha
      obtain ⟨ba, bc, rfl, -⟩ := hb
      go_enter Try.func30, Try.ntmps30
      go_wp2
      go_loopw [5] (fun iv wr => iv = .int .i64 0 ∧ wr = w) (fun _ _ => 0)
      case atStart => exact ⟨rfl, rfl⟩
      case round =>
        obtain ⟨rfl, rfl⟩ := hrel
        go_wp2
        go_ret
        exact ⟨rfl, Ext.refl _⟩
    | cons x r =>
      cases b with
      | nil => simp at hlen
      | cons y s => exact Same01_any av bv _ _ w (ha.rdu (by simp)) (hb.rdu (by simp)) hA hB
  · obtain ⟨aa, ac, rfl, -⟩ := ha
    obtain ⟨ba, bc, rfl, -⟩ := hb
    have hlB : ((a.length : Int) != (b.length : Int)) = true := by simp; omega
    have hfin : (a == b) = false := by
      rw [beq_eq_false_iff_ne]; rintro rfl; exact hlen rfl
    have HF := hid hfin
    clear hfin hlen
    go_enter Try.func30, Try.ntmps30
    go_wp2
    go_ret
    exact ⟨ret_bool HF.out.symm, Ext.refl _⟩
end Go.Proofs.Ytdpgfjnpcjpdpaa
