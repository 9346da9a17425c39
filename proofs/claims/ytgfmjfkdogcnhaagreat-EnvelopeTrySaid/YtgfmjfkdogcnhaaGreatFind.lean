/- The note package: Commit. An address by the reference; the law's note. -/
import Derived.Test.YtgfmjfkdogcnhaaGreatNote
import Derived.Test.YtgfmjfkdogcnhaaGreatRefKeys
import Derived.Test.YtgfmjfkdogcnhaaGreatRefSeal
import Derived.Test.YtgfmjfkdogcnhaaGreatRefExt
import Derived.Test.YtgfmjfkdogcnhaaGreatRefCommitP
import Derived.Test.YtgfmjfkdogcnhaaGreatTry
set_option linter.unusedSimpArgs false
namespace Go.Proofs.YtgfmjfkdogcnhaaGreat
open Go.RowKit
attribute [local irreducible] perm fAdd fMul fPow fSub fNeg fRed

def Orc.commit (M : Orc) (n : Nt) : UInt64 × Orc := if n.ok then M.hash 2 n.list else (0, M)
def CommitO (w : World) (b : Nat) (M : Orc) (F : Nat → Prop) (n : Nt) (e : Ending) (w' : World) : Prop :=
  e = .returned (uv (M.commit n).1) ∧ ∃ F', OrcTo w b F (M.commit n).2 w' F'

theorem new_apart {w : World} {b : Nat} {M : Orc} {F : Nat → Prop} (h : OrcAt w b M F) {v : Value} (hv : ∀ k, blk v = some k → w.heap.size ≤ k) : ∀ k, blk v = some k → ¬ F k := by
  intro k hk hf
  have h1 := h.foot_lt k hf
  have h2 := hv k hk
  omega

set_option maxRecDepth 100000 in
set_option maxHeartbeats 1600000 in
theorem Commit_any {w : World} {b : Nat} {M : Orc} {F : Nat → Prop} {n : Nt} (h : OrcAt w b M F) (hq : M.qs.length ≤ 1000000000) (hn : M.draws ≤ 1000000000000) :
    Calls Tryz.prog 14 #[.pointer (some ⟨b, 0, none⟩), nv n] w (CommitO w b M F n) := by
  have HH := hid h
  have HQ := hid hq
  have HD := hid hn
  have HV := hid (noteValid_any n)
  have HE := hid (noteElements_any n)
  have HC : Hid (∀ ok, n.ok = ok → M.commit n = if ok then M.hash 2 n.list else (0, M)) := hid (by rintro ok rfl; rfl)
  have HLN : Hid (n.list.length ≤ 1000000000000) := hid (by simp [Nt.list])
  clear h hq hn
  obtain ⟨l, hl⟩ : ∃ l, l = n.list := ⟨_, rfl⟩
  rw [← hl] at HE HC HLN
  clear hl
  cases hok : n.ok with
  | false =>
    rw [hok] at HV
    have hc : M.commit n = (0, M) := by rw [HC.out _ hok]; rfl
    have HC' := hid hc
    obtain ⟨a, b', c, d⟩ := n
    unfold nv at HV ⊢
    simp only at HV ⊢
    clear hok HC HE hc
    go_enter Tryz.func14, Tryz.ntmps14
    go_wp2_with fail
    refine (HV.out _).mono ?_
    rintro e w1 ⟨rfl, hx⟩
    have hx1 := ((Ext.refl w).alloc (.cells #[uv a, uv b', uv c, uv d] 42)).trans hx
    have HX := hid hx1
    clear hx hx1
    go_wp2
    go_ret
    unfold CommitO
    rw [HC'.out]
    exact ⟨rfl, F, .of_ext HH.out HX.out⟩
  | true =>
    rw [hok] at HV
    have hc : M.commit n = M.hash 2 l := by rw [HC.out _ hok]; rfl
    have HC' := hid hc
    obtain ⟨a, b', c, d⟩ := n
    unfold nv at HV HE ⊢
    simp only at HV HE ⊢
    clear hok HC hc
    go_enter Tryz.func14, Tryz.ntmps14
    go_wp2_with fail
    refine (HV.out _).mono ?_
    rintro e w1 ⟨rfl, hx⟩
    have hx0 := (Ext.refl w).alloc (.cells #[uv a, uv b', uv c, uv d] 42)
    have hb1 := hx.heap_some (heap_new w (.cells #[uv a, uv b', uv c, uv d] 42))
    have d0 : w1.cell? ⟨w.heap.size, 0, none⟩ = some (uv a) := cell_of hb1 0
    have d1 : w1.cell? ⟨w.heap.size, 1, none⟩ = some (uv b') := cell_of hb1 1
    have d2 : w1.cell? ⟨w.heap.size, 2, none⟩ = some (uv c) := cell_of hb1 2
    have d3 : w1.cell? ⟨w.heap.size, 3, none⟩ = some (uv d) := cell_of hb1 3
    have hx1 := hx0.trans hx
    have HX := hid hx1
    clear hx hx0 hb1 hx1
    go_wp2_with fail
    refine (HE.out _).mono ?_
    rintro e w2 ⟨lv, rfl, hrd, hx2, hnb⟩
    have hat : OrcAt w2 b M F := HH.out.ext (HX.out.trans hx2)
    have hap := new_apart (HH.out.ext HX.out) hnb
    have HX2 := hid (HX.out.trans hx2)
    have HRD := hid hrd
    have HAP := hid hap
    have HAT := hid hat
    clear hrd hap hat hx2 hnb d0 d1 d2 d3
    go_wp2_with fail
    refine (Hash_orc (label := 2) HAT.out HRD.out HAP.out HLN.out HQ.out HD.out).mono ?_
    rintro e w3 ⟨rfl, F', hto⟩
    have HTO := hid hto
    clear hto
    go_wp2
    go_ret
    unfold CommitO
    rw [HC'.out]
    exact ⟨rfl, F', HTO.out.pre HX2.out⟩
end Go.Proofs.YtgfmjfkdogcnhaaGreat
namespace Go.Proofs.YtgfmjfkdogcnhaaGreat
open Go.RowKit
attribute [local irreducible] perm fAdd fMul fPow fSub fNeg fRed hashU drawOf nextState cipSeal
def adrV (n : Int) (o : UInt64) (p : E2) : Value := .agg #[.int .i64 n, uv o, uv p.a, uv p.b]
set_option maxRecDepth 100000 in
set_option maxHeartbeats 3200000 in
theorem rkAddress_any (seed : UInt64) (n : Int) (w : World) : Calls Tryz.prog 11 #[uv seed, .int .i64 n] w fun e w' => e = .returned (.tuple #[if isNumK n then adrV n (kOwner (kSpend seed) n) (pPublic (kView seed n)) else .agg #[.int .i64 0, .int .u64 0, .int .u64 0, .int .u64 0], .int .i64 (if isNumK n then 0 else 8)]) ∧ Ext w w' := by
  obtain ⟨N, hN⟩ : ∃ N, N = w.heap.size := ⟨_, rfl⟩
  obtain ⟨w0, hw0⟩ : ∃ w0, w0 = w.alloc (.cells #[.int .i64 0, .int .u64 0, .int .u64 0, .int .u64 0] 51) := ⟨_, rfl⟩
  have hx0 : Ext w w0 := by rw [hw0]; exact (Ext.refl w).alloc _
  have hb0 : w0.heap[N]? = some (.cells #[.int .i64 0, .int .u64 0, .int .u64 0, .int .u64 0] 51 (0, 0)) := by rw [hw0, hN]; exact heap_new _ _
  have HEND : Hid (∀ (v : World) (d0 d1 d2 d3 : Value), Ext w0 v → ((((v.setCell ⟨N, 0, none⟩ d0).setCell ⟨N, 1, none⟩ d1).setCell ⟨N, 2, none⟩ d2).setCell ⟨N, 3, none⟩ d3).heap[N]? = some (.cells #[d0, d1, d2, d3] 51 (0, 0)) ∧
      Ext w ((((v.setCell ⟨N, 0, none⟩ d0).setCell ⟨N, 1, none⟩ d1).setCell ⟨N, 2, none⟩ d2).setCell ⟨N, 3, none⟩ d3)) := hid fun v d0 d1 d2 d3 k => by
    obtain ⟨h1, h2⟩ := four_setN (d0 := d0) (d1 := d1) (d2 := d2) (d3 := d3) (k.heap_some hb0)
    exact ⟨h1, (hx0.trans k).kp h2 fun i hi => by rw [hi, hN]; omega⟩
  have HB0 := hid hb0
  have HW := hid hw0
  have HN := hid (rNumber_any n)
  have HSP := hid (rkSpend_any seed)
  have HOW := hid (rkOwner_any (kSpend seed) n)
  have HV := hid (rkView_any seed n)
  have HPU := hid (rPublic_any (kView seed n))
  generalize isNumK n = isn at *
  generalize kOwner (kSpend seed) n = own at *
  generalize kSpend seed = spend at *
  generalize pPublic (kView seed n) = p at *
  generalize kView seed n = view at *
  obtain ⟨pa, pb⟩ := p
  clear hw0 hx0 hb0
  go_enter Tryz.func11, Tryz.ntmps11
  go_upto_region 1 with fail
  rw [← HW.out, ← hN]
  clear hN
  go_wp2_with fail
  refine (HN.out _).mono ?_
  rintro e w1 ⟨rfl, hx⟩
  have HX1 := hid hx
  clear hx
  cases isn with
  | false =>
    obtain ⟨z0, z1, z2, z3⟩ := four_cells (HX1.out.heap_some HB0.out)
    have zf := frozen_of (HX1.out.heap_some HB0.out)
    have HE := hid (HEND.out w1 (.int .i64 0) (.int .u64 0) (.int .u64 0) (.int .u64 0) HX1.out)
    clear HEND HN HSP HOW HV HPU
    go_wp2_with fail
    obtain ⟨hE1, hE2⟩ := HE.out
    obtain ⟨r0, r1, r2, r3⟩ := four_cells hE1
    generalize (((w1.setCell ⟨N, 0, none⟩ (.int .i64 0)).setCell ⟨N, 1, none⟩ (.int .u64 0)).setCell ⟨N, 2, none⟩ (.int .u64 0)).setCell ⟨N, 3, none⟩ (.int .u64 0) = W at *
    exact bodyPost_ret (v := .tuple #[.agg #[.int .i64 0, .int .u64 0, .int .u64 0, .int .u64 0], .int .i64 8]) (by simp [results, Tryz.results11, go_sem, r0, r1, r2, r3]) rfl ⟨rfl, hE2⟩
  | true =>
    go_wp2_with fail
    refine (HSP.out _).mono ?_
    rintro e w2 ⟨rfl, hx⟩
    have HX2 := hid (HX1.out.trans hx)
    clear hx
    go_wp2_with fail
    refine (HOW.out _).mono ?_
    rintro e w3 ⟨rfl, hx⟩
    have HX3 := hid (HX2.out.trans hx)
    clear hx
    go_wp2_with fail
    refine (HV.out _).mono ?_
    rintro e w4 ⟨rfl, hx⟩
    have HX4 := hid (HX3.out.trans hx)
    clear hx
    go_wp2_with fail
    refine (HPU.out _).mono ?_
    rintro e w5 ⟨rfl, hx⟩
    have HX5 := hid (HX4.out.trans hx)
    clear hx
    obtain ⟨z0, z1, z2, z3⟩ := four_cells (HX5.out.heap_some HB0.out)
    have zf := frozen_of (HX5.out.heap_some HB0.out)
    have HE := hid (HEND.out w5 (.int .i64 n) (uv own) (uv pa) (uv pb) HX5.out)
    clear HEND HN HSP HOW HV HPU
    go_wp2_with fail
    obtain ⟨hE1, hE2⟩ := HE.out
    obtain ⟨r0, r1, r2, r3⟩ := four_cells hE1
    generalize (((w5.setCell ⟨N, 0, none⟩ (.int .i64 n)).setCell ⟨N, 1, none⟩ (uv own)).setCell ⟨N, 2, none⟩ (uv pa)).setCell ⟨N, 3, none⟩ (uv pb) = W at *
    exact bodyPost_ret (v := .tuple #[.agg #[.int .i64 n, uv own, uv pa, uv pb], .int .i64 0]) (by simp [results, Tryz.results11, go_sem, r0, r1, r2, r3]) rfl ⟨rfl, hE2⟩
set_option maxRecDepth 100000 in
set_option maxHeartbeats 3200000 in
theorem findNote_any (seed : UInt64) (num : Int) (n : Nt) (ex : UInt64) (ask : Bool) (w : World) : Calls Tryz.prog 12 #[.agg #[uv seed, .int .i64 num, uv n.value, uv n.owner, uv n.rho, uv n.blind, uv ex, .bool ask]] w fun e w' => e = .returned (.agg #[uv n.value, uv (kOwner (kSpend seed) num), uv n.rho, uv n.blind]) ∧ Ext w w' := by
  obtain ⟨N, hN⟩ : ∃ N, N = w.heap.size := ⟨_, rfl⟩
  obtain ⟨w0, hw0⟩ : ∃ w0, w0 = ((w.alloc (.cells #[uv seed, .int .i64 num, uv n.value, uv n.owner, uv n.rho, uv n.blind, uv ex, .bool ask] 49)).alloc (.cells #[.int .u64 0, .int .u64 0, .int .u64 0, .int .u64 0] 42)).alloc (.cells #[uv n.value, uv n.owner, uv n.rho, uv n.blind] 42) := ⟨_, rfl⟩
  obtain ⟨a0, s0, x0⟩ := alloc_step w (.cells #[uv seed, .int .i64 num, uv n.value, uv n.owner, uv n.rho, uv n.blind, uv ex, .bool ask] 49) hN.symm
  obtain ⟨a1, s1, x1⟩ := alloc_step (w.alloc (.cells #[uv seed, .int .i64 num, uv n.value, uv n.owner, uv n.rho, uv n.blind, uv ex, .bool ask] 49)) (.cells #[.int .u64 0, .int .u64 0, .int .u64 0, .int .u64 0] 42) s0
  obtain ⟨a2, s2, x2⟩ := alloc_step ((w.alloc (.cells #[uv seed, .int .i64 num, uv n.value, uv n.owner, uv n.rho, uv n.blind, uv ex, .bool ask] 49)).alloc (.cells #[.int .u64 0, .int .u64 0, .int .u64 0, .int .u64 0] 42)) (.cells #[uv n.value, uv n.owner, uv n.rho, uv n.blind] 42) s1
  have hx0 := (x0.trans x1).trans x2
  have hb0 := x2.heap_some (x1.heap_some a0)
  have hb1 := x2.heap_some a1
  rw [← hw0] at hx0 hb0 hb1 a2 s2
  have H : Hid (∀ v, Ext w0 v → (v.cell? ⟨N, 0, none⟩ = some (uv seed) ∧ v.cell? ⟨N, 1, none⟩ = some (.int .i64 num))) := hid fun v k => ⟨cell_of (k.heap_some hb0) 0, cell_of (k.heap_some hb0) 1⟩
  have HB1 := hid hb1
  have HB2 := hid a2
  have HX0 := hid hx0
  have HW := hid hw0
  have HS2 := hid s2
  have HNN := hid hN
  have HSP := hid (rkSpend_any seed)
  have HOW := hid (rkOwner_any (kSpend seed) num)
  generalize kOwner (kSpend seed) num = own at *
  generalize kSpend seed = spend at *
  clear hw0 hx0 hb0 hb1 a0 a1 a2 s0 s1 s2 x0 x1 x2
  go_enter Tryz.func12, Tryz.ntmps12
  go_upto_region 2 with fail
  rw [← HW.out, ← hN]
  clear hN
  refine wp_region_T (fun v => (v.cell? ⟨N, 0, none⟩ = some (uv seed) ∧ v.cell? ⟨N, 1, none⟩ = some (.int .i64 num)) ∧ Ext w0 v) 5 [(0, true), (1, true), (3, true), (4, true), (2, false), (5, false), (6, false), (7, false)] (by kernel_rfl) (by kernel_rfl) (by intro c a d v w h; cases d <;> exact h) ?_
  intro ops hops
  have HS := keep0 H.out
  iterate 4
    refine wpT_take (v := ?_) (by rw [hops, List.getElem?_toArray]; rfl) (by first | rfl | (rw [hops]; rfl)) ?_ HS ?_
    rotate_left
    · intro v h; go_simp; with_reducible rfl
    simp only [Act.put, List.getElem_toArray, List.getElem_cons_zero, List.getElem_cons_succ, List.setIfInBounds_toArray, List.set_cons_zero, List.set_cons_succ]
  refine wpT_step (by rw [hops, List.getElem?_toArray]; rfl) (by first | rfl | (rw [hops]; rfl)) ?_
  intro K hK
  go_wp2_with fail
  refine (HSP.out _).mono ?_
  rintro e w1 ⟨rfl, hx⟩
  have HS1 := keepE H.out HS hx
  clear HS hx
  refine hK _ _ ⟨fun _ => HS1, ?_⟩
  clear hK K
  refine wpT_step (by rw [hops, List.getElem?_toArray]; rfl) (by first | rfl | (rw [hops]; rfl)) ?_
  intro K hK
  go_wp2_with fail
  refine (HOW.out _).mono ?_
  rintro e w2 ⟨rfl, hx⟩
  have HX2 := hid (HS1.2.trans hx)
  clear HS1 hx
  refine hK _ _ ⟨fun h => absurd h (by decide), ?_⟩
  clear hK K
  have hb2 := HX2.out.heap_some HB2.out
  have hb1 := HX2.out.heap_some HB1.out
  obtain ⟨q0, q1, q2, q3⟩ := four_cells hb2
  have qf := frozen_of hb2
  have hb3 : (w2.setCell ⟨N + 1 + 1, 1, none⟩ (uv own)).heap[N + 1 + 1]? = some (.cells #[uv n.value, uv own, uv n.rho, uv n.blind] 42 (0, 0)) := heap_setCell_same hb2 1 (uv own)
  have hb13 := (heap_setCell_ne (w := w2) (b := N + 1 + 1) (b' := N + 1) (by omega) 1 (uv own)).trans hb1
  obtain ⟨hz, hk⟩ := four_setN (d0 := uv n.value) (d1 := uv own) (d2 := uv n.rho) (d3 := uv n.blind) hb13
  have hext := (HX0.out.trans HX2.out).kp (((Kp.refl (fun k => N ≤ k) w2).setCell (p := ⟨N + 1 + 1, 1, none⟩) (.inl (by show N ≤ N + 1 + 1; omega)) (uv own)).trans (hk.mono (G := fun k => N ≤ k) (fun k _ h => by omega))) (fun k hk => by have := HNN.out; omega)
  have HE := hid (And.intro hb3 (And.intro hb13 (And.intro hz hext)))
  clear hb1 hb2 hb3 hb13 hz hk hext HOW HSP
  refine wpT_step (by rw [hops, List.getElem?_toArray]; rfl) (by first | rfl | (rw [hops]; rfl)) ?_
  intro K hK
  go_wp2_with fail
  try (with_reducible refine ⟨fun h => absurd h (by decide), ?_⟩)
  try rw [← hops]
  refine wpT_step (by rw [hops, List.getElem?_toArray]; rfl) (by first | rfl | (rw [hops]; rfl)) ?_
  intro K hK
  go_wp2_with fail
  try (with_reducible refine ⟨fun h => absurd h (by decide), ?_⟩)
  try rw [wpT_nil]
  try clear hops ops
  obtain ⟨hb3, hb13, -⟩ := HE.out
  clear q0 q1 q2 q3 qf
  obtain ⟨g0, g1, g2, g3⟩ := four_cells hb3
  obtain ⟨z0, z1, z2, z3⟩ := four_cells hb13
  have zf := frozen_of hb13
  have zf3 := frozen_of hb3
  clear hb3 hb13
  go_wp2_with fail
  obtain ⟨-, -, hz, hext⟩ := HE.out
  obtain ⟨r0, r1, r2, r3⟩ := four_cells hz
  generalize ((((w2.setCell ⟨N + 1 + 1, 1, none⟩ (uv own)).setCell ⟨N + 1, 0, none⟩ (uv n.value)).setCell ⟨N + 1, 1, none⟩ (uv own)).setCell ⟨N + 1, 2, none⟩ (uv n.rho)).setCell ⟨N + 1, 3, none⟩ (uv n.blind) = W at *
  exact bodyPost_ret (v := .agg #[uv n.value, uv own, uv n.rho, uv n.blind]) (by simp [results, Tryz.results12, go_sem, r0, r1, r2, r3]) rfl ⟨rfl, hext⟩
end Go.Proofs.YtgfmjfkdogcnhaaGreat
