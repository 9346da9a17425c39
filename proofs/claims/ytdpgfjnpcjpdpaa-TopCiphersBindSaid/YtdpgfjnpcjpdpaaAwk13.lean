/- The examples of the stages 7 to 13 hold: awake13. -/
import Derived.Test.YtdpgfjnpcjpdpaaTrans
import Derived.Test.YtdpgfjnpcjpdpaaSealRO
import Derived.Test.YtdpgfjnpcjpdpaaTwo
import Derived.Test.YtdpgfjnpcjpdpaaAwk12
set_option linter.unusedSimpArgs false
namespace Go.Proofs.Ytdpgfjnpcjpdpaa
open Go.RowKit
def aw13 : Lv × Orc := (Orc.fresh false 0).commitT [[5]] [7]
theorem aw13_eq : (Orc.fresh false 0).commitT [[5]] [7] = aw13 := rfl
theorem aw13_ok : commitOk [[5]] [7] = true := by decide +kernel
theorem aw13_root : rootL aw13.1 = hashU 16 [7, 5] := by decide +kernel
theorem aw13_len : aw13.1.length = 1 := by decide +kernel
theorem aw13_lens : aw13.1.map List.length = [1] := by decide +kernel
theorem aw13_qs : aw13.2.qs.length = 1 ∧ aw13.2.draws = 0 ∧ aw13.2.ideal = false := by decide +kernel
theorem aw13_chal : (aw13.2.hash 19 [5, 0]).1 = hashU 19 [5, 0] := by decide +kernel
theorem aw13_ideal : (aw13.2.hash 19 [5, 0]).2.ideal = false := by decide +kernel
theorem aw13_cip : (if cipE 3 4 [1, 5] then cipSeal 3 4 [1, 5] else []) = cipSeal 3 4 [1, 5] := by decide +kernel
theorem aw13_open : cipOpen 3 4 (cipSeal 3 4 [1, 5]) = ([1, 5], true) := by decide +kernel
theorem aw13_seal : (cipSeal 3 4 [1, 5]).length = 3 := by decide +kernel
def awi : UInt64 × Orc := (Orc.fresh true 1).hash 1 []
theorem awi_eq : (Orc.fresh true 1).hash 1 [] = awi := rfl
theorem awi_two : (awi.2.hash 1 []).1 = awi.1 := by decide +kernel
theorem awi_draws : (awi.2.hash 1 []).2.draws = 1 := by decide +kernel
theorem awi_qs : awi.2.qs.length = 1 ∧ awi.2.draws = 1 := by decide +kernel
attribute [local irreducible] perm fAdd fMul fPow fSub fNeg fRed hashU drawOf nextState awT aw13 awi cipSeal cipOpen
def ChO (w : World) (b : Nat) (F : Nat → Prop) (st : UInt64) (r : UInt64 × Orc) (e : Ending) (w' : World) : Prop := ∃ y, e = .returned (.tuple #[uv r.1, .agg #[uv st, .int .u64 y]]) ∧ ∃ F', OrcTo w b F r.2 w' F'
set_option maxRecDepth 100000 in
set_option maxHeartbeats 1600000 in
theorem tChal_any {w : World} {b : Nat} {M : Orc} {F : Nat → Prop} {st cnt : UInt64} {p : Int} (hp : IsBig p) (h : OrcAt w b M F) (hq : M.qs.length ≤ 100000000) (hd : M.draws ≤ 100000000) (hx : (M.hash 19 [st, cnt]).1 < big) :
    Calls Try.prog 63 #[.pointer (some ⟨b, 0, none⟩), .agg #[uv st, uv cnt], .int .u64 p] w (ChO w b F st (M.hash 19 [st, cnt])) := by
  obtain ⟨n, hn⟩ : ∃ n, n = w.heap.size := ⟨_, rfl⟩
  obtain ⟨w0, hw0⟩ : ∃ w0, w0 = (w.alloc (.cells #[uv st, uv cnt] 44)).alloc (.cells #[.int .u64 0, .int .u64 0] 44) := ⟨_, rfl⟩
  have hx0 : Ext w w0 := by rw [hw0]; exact ((Ext.refl _).alloc _).alloc _
  have ha : w0.heap[n]? = some (.cells #[uv st, uv cnt] 44 (0, 0)) := by rw [hw0, hn]; exact heap_alloc_some (heap_new _ _)
  have hz : w0.heap[n + 1]? = some (.cells #[.int .u64 0, .int .u64 0] 44 (0, 0)) := by
    rw [hw0, hn]
    have := heap_new (w.alloc (.cells #[uv st, uv cnt] 44)) (.cells #[.int .u64 0, .int .u64 0] 44)
    rwa [World.size_alloc] at this
  obtain ⟨w1, hw1⟩ : ∃ w1, w1 = w0.alloc (.cells #[uv st, uv cnt] 28) := ⟨_, rfl⟩
  have hx1 : Ext w0 w1 := by rw [hw1]; exact (Ext.refl _).alloc _
  have hsl : RdU w1 (.slice (some ⟨w0.heap.size, 0, none⟩) 2 2) [st, cnt] := pair_rdu (by rw [hw1]; exact heap_new _ _)
  have hft := h.foot_lt
  have HX := hid (hx0.trans hx1)
  have HA := hid (hx1.heap_some ha)
  have HZ := hid (hx1.heap_some hz)
  have HC := hid (Hash_orc (label := 19) (h.ext (hx0.trans hx1)) hsl (fun k hk hf => by have h1 := hft k hf; have h2 := hx0.size; have h3 : w0.heap.size = k := Option.some.inj hk; omega) (by simp) (by omega) (by omega))
  have HN := hid hn
  have HH := hid h
  have HW0 := hid hw0
  have HW1 := hid hw1
  have hp0 := hp.pos
  have hp1 := hp.lt
  have hpz : (p == 0) = false := by simp; omega
  have hpz' : ¬ p = 0 := by omega
  have hsz : w0.heap.size = n + 1 + 1 := by rw [hw0, hn]; simp
  have c0 : w0.cell? ⟨n, 0, none⟩ = some (uv st) := cell_of ha 0
  have c1 : w0.cell? ⟨n, 1, none⟩ = some (uv cnt) := cell_of ha 1
  have hmod : (((M.hash 19 [st, cnt]).1.toNat : Int)).tmod p = ((M.hash 19 [st, cnt]).1.toNat : Int) := by
    rw [Int.tmod_eq_emod_of_nonneg (u_pos _)]
    exact Int.emod_eq_of_lt (u_pos _) (by rw [hp]; exact (lt_big_iff _).1 hx)
  obtain ⟨r, hr⟩ : ∃ r, r = M.hash 19 [st, cnt] := ⟨_, rfl⟩
  rw [← hr] at hmod ⊢
  unfold HashO at HC
  have HR := hid hr
  have HSZ := hid hsz
  clear hx0 hx1 ha hz hsl hn hw0 hw1 hft h hq hd hx hr hsz
  go_enter Try.func63, Try.ntmps63
  go_wp2_with fail
  rw [← HW0.out, ← HN.out]
  go_wp2_with fail
  rw [← HSZ.out, ← HW1.out]
  refine HC.out.mono ?_
  rintro e w2 ⟨rfl, F', ht⟩
  have hft := HH.out.foot_lt
  have ha2 := ht.kp.heap_some (fun hf => by have := hft _ hf; have := HN.out; omega) HA.out
  have hz2 := ht.kp.heap_some (fun hf => by have := hft _ hf; have := HN.out; omega) HZ.out
  have hnz := ht.apart (heap_lt HZ.out) (fun hf => by have := hft _ hf; have := HN.out; omega)
  have hna := ht.apart (heap_lt HA.out) (fun hf => by have := hft _ hf; have := HN.out; omega)
  have HT := hid (OrcTo.pre HX.out ht)
  have HA2 := hid ha2
  have HZ2 := hid hz2
  have HNZ := hid hnz
  rw [← HR.out] at HT ⊢
  clear ht ha2 hz2 hnz hna hft c0 c1
  have hce : ∀ v, Ext w2 v → v.cell? ⟨n, 0, none⟩ = some (uv st) ∧ v.cell? ⟨n, 1, none⟩ = some (uv cnt) := fun v k => ⟨cell_of (k.heap_some HA2.out) 0, cell_of (k.heap_some HA2.out) 1⟩
  have HCE := hid hce
  clear hce
  go_wp2_with fail
  refine wp_region_T (fun v => (v.cell? ⟨n, 0, none⟩ = some (uv st) ∧ v.cell? ⟨n, 1, none⟩ = some (uv cnt)) ∧ Ext w2 v) 10 [(0, true), (1, true), (2, true), (3, true), (4, true), (5, true), (6, true), (7, true), (8, true), (9, true), (10, false)] (by kernel_rfl) (by kernel_rfl) (by intro c a d v w h; cases d <;> exact h) ?_
  intro ops hops
  have HS := (And.intro (HCE.out _ (Ext.refl w2).drew) (Ext.refl w2).drew)
  iterate 2
    refine wpT_take (v := ?_) (by rw [hops, List.getElem?_toArray]; rfl) (by first | rfl | (rw [hops]; rfl)) ?_ HS ?_
    rotate_left
    · intro v h; go_simp; with_reducible rfl
    simp only [Act.put, List.getElem_toArray, List.getElem_cons_zero, List.getElem_cons_succ, List.setIfInBounds_toArray, List.set_cons_zero, List.set_cons_succ]
  refine wpT_take (v := .int .u64 (r.1.toNat : Int)) (by rw [hops, List.getElem?_toArray]; rfl) (by first | rfl | (rw [hops]; rfl)) ?_ HS ?_
  · intro v h; go_simp; (first | done | rw [hmod] | rfl)
  simp only [Act.put, List.getElem_toArray, List.getElem_cons_zero, List.getElem_cons_succ, List.setIfInBounds_toArray, List.set_cons_zero, List.set_cons_succ]
  iterate 7
    refine wpT_take (v := ?_) (by rw [hops, List.getElem?_toArray]; rfl) (by first | rfl | (rw [hops]; rfl)) ?_ HS ?_
    rotate_left
    · intro v h; go_simp; with_reducible rfl
    simp only [Act.put, List.getElem_toArray, List.getElem_cons_zero, List.getElem_cons_succ, List.setIfInBounds_toArray, List.set_cons_zero, List.set_cons_succ]
  have hx3 := HS.2
  clear HS
  generalize w2.drew = w3 at *
  have hz3 := hx3.heap_some HZ2.out
  have z0 : w3.cell? ⟨n + 1, 0, none⟩ = some (.int .u64 0) := cell_of hz3 0
  have z1 : w3.cell? ⟨n + 1, 1, none⟩ = some (.int .u64 0) := cell_of hz3 1
  have zf := frozen_of hz3
  have HX3 := hid hx3
  have HZ3 := hid hz3
  clear hx3 hz3
  obtain ⟨y, hy⟩ : ∃ y : Int, y = IntKind.u64.wrap ((cnt.toNat : Int) + 1) := ⟨_, rfl⟩
  try rw [← hy]
  refine wpT_step (by rw [hops, List.getElem?_toArray]; rfl) (by first | rfl | (rw [hops]; rfl)) ?_
  intro K hK
  go_wp2_with fail
  refine ⟨fun h => absurd h (by decide), ?_⟩
  rw [wpT_nil]
  clear hops ops
  go_wp2_with fail
  have hB := heap_setCell_same (heap_setCell_same HZ3.out 0 (uv st)) 1 (.int .u64 (IntKind.u64.wrap ((cnt.toNat : Int) + 1)))
  have r0 := cell_of hB 0
  have r1 := cell_of hB 1
  have hnn : w.heap.size ≤ n + 1 := by have := HN.out; omega
  have hto := ((HT.out.ext HX3.out).setOther (g := n + 1) hnn HNZ.out 0 (uv st)).setOther (g := n + 1) hnn HNZ.out 1 (.int .u64 (IntKind.u64.wrap ((cnt.toNat : Int) + 1)))
  clear z0 z1 zf
  exact bodyPost_ret (v := .tuple #[uv r.1, .agg #[uv st, .int .u64 (IntKind.u64.wrap ((cnt.toNat : Int) + 1))]]) (by simp [results, Try.results63, go_sem, r0, r1]) rfl ⟨_, rfl, F', hto⟩

theorem aw13_le : ∀ l ∈ aw13.1, l.length ≤ 1000000000000 := by
  intro l hl
  have h4 := aw13_lens
  have h5 : l.length ∈ aw13.1.map List.length := List.mem_map_of_mem hl
  rw [h4] at h5
  simp at h5; omega
theorem hash_lens (M : Orc) (a : UInt64) (l : List UInt64) (h : M.qs.length ≤ 1 ∧ M.draws ≤ 1) : (M.hash a l).2.qs.length ≤ 2 ∧ (M.hash a l).2.draws ≤ 2 := ⟨Nat.le_trans (hash_qs_le M a l) (by omega), Nat.le_trans (hash_draws_le M a l) (by omega)⟩
theorem one_rdu (w : World) (c : Value) (x : UInt64) (h : c = uv x) (T : TypeId) : RdU (w.alloc (.cells #[c] T)) (.slice (some ⟨w.heap.size, 0, none⟩) 1 1) [x] := by
  subst h; exact rdu_block (heap_new w _) rfl rfl (by omega)
theorem two_rdu (w : World) (c d : Value) (x y : UInt64) (h : c = uv x) (h' : d = uv y) (T : TypeId) : RdU (w.alloc (.cells #[c, d] T)) (.slice (some ⟨w.heap.size, 0, none⟩) 2 2) [x, y] := by
  subst h h'; exact rdu_block (heap_new w _) rfl rfl (by omega)
set_option maxRecDepth 100000 in
set_option maxHeartbeats 6400000 in
theorem awake13_any (w : World) : Calls Try.prog 22 #[] w fun e w' => e = .returned (.bool true) ∧ Ext w w' := by
  have HRL := hid Real_any
  have HID := hid (Ideal_any 1)
  go_enter Try.func22, Try.ntmps22
  go_wp2_with fail
  refine (HRL.out _).mono ?_
  rintro e w1 ⟨b1, F1, rfl, hat1, hx1, hF1⟩
  have HAT1 := hid hat1
  have HX1 := hid hx1
  have HF1 := hid hF1
  clear hat1 hx1 hF1 HRL
  go_wp2_with fail
  refine (HID.out _).mono ?_
  rintro e w2 ⟨b2, F2, rfl, hat2, hx2, hF2⟩
  have htwo : Two w w2 b1 b2 (Orc.fresh false 0) (Orc.fresh true 1) F1 F2 := ⟨HAT1.out.ext hx2, hat2, fun k h1 h2 => by have := HAT1.out.foot_lt k h1; have := hF2 k h2; omega, fun k hk => by
    rcases hk with hk | hk
    · exact HF1.out k hk
    · exact Nat.le_trans HX1.out.size (hF2 k hk), HX1.out.trans hx2⟩
  have HTW := hid htwo
  clear hat2 hx2 hF2 HID htwo
  go_wp2_with fail
  have hx3 := (((Ext.refl w2).alloc (.cells #[.int .u64 5] 28)).alloc (.cells #[.slice (some ⟨w2.heap.size, 0, none⟩) 1 1] 24)).alloc (.cells #[.int .u64 7] 28)
  obtain ⟨w3, hw3⟩ : ∃ w3, w3 = ((w2.alloc (.cells #[.int .u64 5] 28)).alloc (.cells #[.slice (some ⟨w2.heap.size, 0, none⟩) 1 1] 24)).alloc (.cells #[.int .u64 7] 28) := ⟨_, rfl⟩
  have hb0 : w3.heap[w2.heap.size]? = some (.cells #[.int .u64 5] 28 (0, 0)) := by rw [hw3]; exact heap_alloc_some (heap_alloc_some (heap_new _ _))
  have hb1 : w3.heap[w2.heap.size + 1]? = some (.cells #[.slice (some ⟨w2.heap.size, 0, none⟩) 1 1] 24 (0, 0)) := by rw [hw3]; exact heap_alloc_some (heap_new_at _ _ (by simp))
  have hb2 : w3.heap[w2.heap.size + 1 + 1]? = some (.cells #[.int .u64 7] 28 (0, 0)) := by rw [hw3]; exact heap_new_at _ _ (by simp)
  rw [← hw3] at hx3 ⊢
  have htw3 := HTW.out.ext hx3
  have hft : ∀ k, F1 k → k < w2.heap.size := HTW.out.o.foot_lt
  have hnf : ∀ j, w2.heap.size ≤ j → ¬ F1 j := fun j hj hf => by have := hft j hf; omega
  have HCO := hid (mCommit_any (M := Orc.fresh false 0) (lv := .slice (some ⟨w2.heap.size + 1, 0, none⟩) 1 1) (sv := .slice (some ⟨w2.heap.size + 1 + 1, 0, none⟩) 1 1) (leaves := [[5]]) (salts := [7]) htw3.o
    (fun w' k => rdl_blocks (n := 1) (ls := [[5]]) (vs := [.slice (some ⟨w2.heap.size, 0, none⟩) 1 1]) (k.heap_some (hnf (w2.heap.size + 1) (by omega)) hb1) rfl rfl (by omega) (fun i x l hx hl => by
      match i with
      | 0 => cases hx; cases hl; exact rdu_block (k.heap_some (hnf w2.heap.size (by omega)) hb0) rfl rfl (by omega)
      | i + 1 => simp at hx))
    (fun w' k => (rdu_block (n := 1) (l := [7]) (k.heap_some (hnf (w2.heap.size + 1 + 1) (by omega)) hb2) rfl rfl (by omega)).weak) (by decide) (by decide) (by decide) (by decide) (by decide))
  have HTW3 := hid htw3
  clear hx3 hw3 hb0 hb1 hb2 htw3 hft hnf
  refine HCO.out.mono ?_
  rintro e w4 ⟨v, L, rfl, hL, F4, ht4, hbes⟩
  rw [aw13_ok]
  rw [aw13_eq] at hL ht4
  obtain ⟨va, vc, rfl, -⟩ := ownsRow_rd hbes.own.1
  have htw4 := HTW3.out.left ht4
  have hst := hbes.stays
  rw [hL] at hst
  have HTW4 := hid htw4
  have HST := hid hst
  clear htw4 hst hL ht4 hbes HCO
  go_wp2_with fail
  obtain ⟨g, hg⟩ : ∃ g, g = w4.heap.size := ⟨_, rfl⟩
  obtain ⟨w5, hw5⟩ : ∃ w5, w5 = w4.alloc (.cells #[.slice va L.length vc] 27) := ⟨_, rfl⟩
  have hg5 : w5.heap[g]? = some (.cells #[.slice va L.length vc] 27 (0, 0)) := by rw [hw5, hg]; exact heap_new _ _
  have hx5 : Ext w4 w5 := by rw [hw5]; exact (Ext.refl _).alloc _
  rw [← hw5]
  have hgF : ¬ F4 g := fun hf => by have := HTW4.out.o.foot_lt _ hf; omega
  have HTW5 := hid (HTW4.out.ext hx5)
  have HST5 : Hid (Stays F4 w5 fun v => RdL v (.slice va L.length vc) aw13.1 ∧ v.heap[g]? = some (.cells #[.slice va L.length vc] 27 (0, 0))) := hid fun v k => ⟨HST.out v ((Kp.of_ext hx5).trans k), k.heap_some hgF hg5⟩
  try rw [← hg]
  clear hw5 hg5 hx5 hgF hg HST
  refine (tNew_any 5 _).mono ?_
  rintro e w6 ⟨rfl, hx6⟩
  have HTW6 := hid (HTW5.out.ext hx6)
  have HST6 : Hid (Stays F4 w6 fun v => RdL v (.slice va L.length vc) aw13.1 ∧ v.heap[g]? = some (.cells #[.slice va L.length vc] 27 (0, 0))) := hid fun v k => HST5.out v ((Kp.of_ext hx6).trans k)
  clear hx6
  go_wp2_with fail
  have hchx : (aw13.2.hash 19 [5, 0]).1 < big := by rw [aw13_chal]; exact hashU_lt _ _
  refine (tChal_any (st := 5) (cnt := 0) isBig HTW6.out.o (by rw [aw13_qs.1]; omega) (by rw [aw13_qs.2.1]; omega) hchx).mono ?_
  rintro e w7 ⟨yy, rfl, F7, ht7⟩
  rw [aw13_chal]
  have hM2 := hash_lens aw13.2 19 [5, 0] (by rw [aw13_qs.1, aw13_qs.2.1]; omega)
  have hI2 := aw13_ideal
  generalize (aw13.2.hash 19 [5, 0]).2 = M2 at *
  have HTW7 := hid (HTW6.out.left ht7)
  have HST7 := hid (Stays.to HST6.out ht7)
  have HM2 := hid hM2
  have HI2 := hid hI2
  clear ht7 hM2 hI2 hchx
  go_wp2_with fail
  obtain ⟨w8, hw8⟩ : ∃ w8, w8 = (w7.alloc (.cells #[uv 5, .int .u64 yy] 44)).alloc (.cells #[.int .u64 1, .int .u64 5] 28) := ⟨_, rfl⟩
  have hx8 : Ext w7 w8 := by rw [hw8]; exact ((Ext.refl _).alloc _).alloc _
  have hr8 : RdU w8 (.slice (some ⟨w7.heap.size + 1, 0, none⟩) 2 2) [1, 5] := by
    have := two_rdu (w7.alloc (.cells #[uv 5, .int .u64 yy] 44)) (.int .u64 1) (.int .u64 5) 1 5 rfl rfl 28
    rw [World.size_alloc] at this
    rw [hw8]; exact this
  have hw8' : w8 = (w7.alloc (.cells #[.int .u64 5, .int .u64 yy] 44)).alloc (.cells #[.int .u64 1, .int .u64 5] 28) := hw8
  try rw [← hw8']
  try rw [← hw8]
  have HTW8 := hid (HTW7.out.ext hx8)
  have HST8 : Hid (Stays F7 w8 fun v => RdL v (.slice va L.length vc) aw13.1 ∧ v.heap[g]? = some (.cells #[.slice va L.length vc] 27 (0, 0))) := hid fun v k => HST7.out v ((Kp.of_ext hx8).trans k)
  have HSE := hid (Seal_real (key := 3) (nonce := 4) HTW8.out.o HI2.out hr8 (by simp))
  clear hw8 hw8' hx8 hr8
  refine HSE.out.mono ?_
  rintro e w9 ⟨v9, F9, rfl, ho9, ht9, hn9⟩
  rw [aw13_cip] at ho9
  have HTW9 := hid (HTW8.out.left ht9)
  have HST9 := hid (Stays.to HST8.out ht9)
  have hs9 := aw13_seal
  have hop := aw13_open
  generalize cipSeal 3 4 [1, 5] = sl at *
  have ho9' : OwnU w9 v9 sl := ho9
  have HOE := hid (Open_real (l := sl) (key := 3) (nonce := 4) HTW9.out.o HI2.out (OwnU.rdu ho9') (by omega))
  rw [hop] at HOE
  obtain ⟨v9a, v9c, rfl, -⟩ := ownsRow_rd ho9'
  clear ho9 ho9' ht9 hn9 hs9 hop HSE
  go_wp2_with fail
  refine HOE.out.mono ?_
  rintro e w10 ⟨v10, rfl, ho10, hx10, hn10⟩
  obtain ⟨v10a, v10c, rfl, -⟩ := ownsRow_rd ho10
  have HTW10 := hid (HTW9.out.ext hx10)
  have hst10 := HST9.out w10 (Kp.of_ext hx10)
  have HO10 := hid (OwnU.rdu ho10)
  have g0 : w10.cell? ⟨g, 0, none⟩ = some (.slice va L.length vc) := cell_of hst10.2 0
  have HRT := hid (mRoot_any _ aw13.1 w10 hst10.1 (by rw [aw13_len]; omega) aw13_le)
  rw [aw13_root] at HRT
  clear ho10 hx10 hn10 hst10 HOE
  go_wp2_with fail
  refine HRT.out.mono ?_
  rintro e w11 ⟨rfl, hx11⟩
  have HTW11 := hid (HTW10.out.ext hx11)
  have HO11 := hid (HO10.out.ext hx11)
  clear hx11 g0 HRT
  go_wp2_with fail
  refine (rHash_any _ isBig 16 _ [7, 5] _ (two_rdu w11 (.int .u64 7) (.int .u64 5) 7 5 rfl rfl 28) (by simp)).mono ?_
  rintro e w12 ⟨rfl, hx12⟩
  have HTW12 := hid (HTW11.out.ext (((Ext.refl w11).alloc _).trans hx12))
  have HO12 := hid (HO11.out.ext (((Ext.refl w11).alloc _).trans hx12))
  clear hx12
  go_wp2_with fail
  refine (rHash_any _ isBig 19 _ [5, 0] _ (two_rdu w12 (.int .u64 5) (.int .u64 0) 5 0 rfl rfl 28) (by simp)).mono ?_
  rintro e w13 ⟨rfl, hx13⟩
  have HTW13 := hid (HTW12.out.ext (((Ext.refl w12).alloc _).trans hx13))
  have HO13 := hid (HO12.out.ext (((Ext.refl w12).alloc _).trans hx13))
  clear hx13
  go_wp2_with fail
  refine (Same01_any _ _ [1, 5] [1, 5] _ (HO13.out.ext ((Ext.refl w13).alloc _)) (two_rdu w13 (.int .u64 1) (.int .u64 5) 1 5 rfl rfl 28) (by simp) (by simp)).mono ?_
  rintro e w14 ⟨rfl, hx14⟩
  have HTW14 := hid (HTW13.out.ext (((Ext.refl w13).alloc _).trans hx14))
  clear hx14
  rw [show (([1, 5] : List UInt64) == [1, 5]) = true from by decide]
  have hnil : ∀ v : World, RdU v (.slice none 0 0) [] := fun v => (RdC.nil v).rdu rfl
  have HH1 := hid (Hash_orc (label := 1) (l := []) (lv := .slice none 0 0) HTW14.out.q (hnil _) (fun k hk => by cases hk) (by simp) (by simp [Orc.fresh]) (by simp [Orc.fresh]))
  have HNIL := hid hnil
  clear hnil
  go_wp2_with fail
  refine HH1.out.mono ?_
  rintro e w15 ⟨rfl, F15, ht15⟩
  rw [awi_eq] at ht15
  rw [awi_eq]
  have HTW15 := hid (HTW14.out.right ht15)
  have HH2 := hid (Hash_orc (label := 1) (l := []) (lv := .slice none 0 0) HTW15.out.q (HNIL.out _) (fun k hk => by cases hk) (by simp) (by rw [awi_qs.1]; omega) (by rw [awi_qs.2]; omega))
  clear ht15 HH1
  go_wp2_with fail
  refine HH2.out.mono ?_
  rintro e w16 ⟨rfl, F16, ht16⟩
  have hdr := awi_draws
  have HTW16 := hid (HTW15.out.right ht16)
  rw [awi_two]
  generalize (awi.2.hash 1 []).2 = MF at *
  generalize awi.1 = aa at *
  have hdw := HTW16.out.q.draws12
  rw [hdr] at hdw
  have HDW := hid hdw
  clear ht16 HH2 hdr hdw
  go_wp2_with fail
  refine HDW.out.mono ?_
  rintro e w17 ⟨rfl, rfl⟩
  go_wp2_with fail
  go_ret
  exact ⟨rfl, HTW16.out.ex⟩
end Go.Proofs.Ytdpgfjnpcjpdpaa
