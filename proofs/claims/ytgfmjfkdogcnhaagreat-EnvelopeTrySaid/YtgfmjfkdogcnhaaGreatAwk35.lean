/- The reference's Key and Same of the chapter envelope; the law's awake. -/
import Derived.Test.YtgfmjfkdogcnhaaGreatEnvLaw
import Derived.Test.YtgfmjfkdogcnhaaGreatRefHash
import Derived.Test.YtgfmjfkdogcnhaaGreatRefM
import Derived.ChangeKeysEq
set_option linter.unusedSimpArgs false
namespace Go.Proofs.YtgfmjfkdogcnhaaGreat
open Go.RowKit
attribute [local irreducible] perm fAdd fMul fPow fSub fNeg fRed hashU drawOf nextState cipSeal
theorem ub_eq (x y : UInt64) : ((x.toNat : Int) == (y.toNat : Int)) = (x == y) := by
  rw [Bool.eq_iff_iff]
  simp only [beq_iff_eq]
  constructor
  · intro h; exact UInt64.toNat_inj.1 (by omega)
  · rintro rfl; rfl
theorem infoE_u64 : (Tryz.prog.info? 22).isSome = true := by kernel_rfl
theorem arrE_under : Tryz.prog.underlying 25 = some (.array 2 22) := by kernel_rfl
theorem u64E_cells : Tryz.prog.cellsOf 22 = 1 := by kernel_rfl
def E2.same (x y : E2) : Bool := x.a == y.a && x.b == y.b
theorem e2Eq (x y : E2) (w : World) : (Op.equalIn 10000 25 (.agg #[uv x.a, uv x.b]) (.agg #[uv y.a, uv y.b])).run Tryz.prog w = .ok (x.same y) w := by
  unfold E2.same
  obtain ⟨i, hi⟩ := Option.isSome_iff_exists.1 infoE_u64
  rw [show (10000 : Nat) = 9999 + 1 from rfl, run_equalIn_array w 9999 _ _ arrE_under hi, u64E_cells, show List.range 2 = [0, 1] from rfl]
  have hu : Tryz.prog.underlying 22 = some (.int .u64) := Tryz.underlying22
  simp [Op.eqItems, go_sem, hu, ub_eq]
  by_cases h0 : x.a = y.a <;> by_cases h1 : x.b = y.b <;> simp [h0, h1]
theorem E2.same_refl (x : E2) : x.same x = true := by unfold E2.same; simp
set_option maxRecDepth 100000 in
set_option maxHeartbeats 1600000 in
theorem rKey_any (s q : E2) (w : World) : Calls Tryz.prog 22 #[s.v, q.v] w fun e w' => e = .returned (uv (envKey s q)) ∧ Ext w w' := by
  obtain ⟨N, hN⟩ : ∃ N, N = w.heap.size := ⟨_, rfl⟩
  obtain ⟨w0, hw0⟩ : ∃ w0, w0 = (w.alloc s.o).alloc q.o := ⟨_, rfl⟩
  have hx0 : Ext w w0 := by rw [hw0]; exact ((Ext.refl w).alloc _).alloc _
  have hb0 : w0.heap[N]? = some s.o := by rw [hw0, hN]; exact heap_alloc_some (heap_new _ _)
  have hb1 : w0.heap[N + 1]? = some q.o := by
    rw [hw0, hN]
    have := heap_new (w.alloc s.o) q.o
    simpa using this
  obtain ⟨c0, c1⟩ := two_cells hb0
  obtain ⟨c2, c3⟩ := two_cells hb1
  have HW := hid hw0
  have HX0 := hid hx0
  have hrd : RdU (w0.alloc (.cells #[uv s.a, uv s.b, uv q.a, uv q.b] 22)) (.slice (some ⟨w0.heap.size, 0, none⟩) 4 4) [s.a, s.b, q.a, q.b] := (RdC.block (heap_new w0 _) (n := 4) (by unfold maxLen; omega)).rdu rfl
  have HH := hid (rHash_any _ big_isE 11 _ [s.a, s.b, q.a, q.b] _ hrd (by simp))
  obtain ⟨k, hk⟩ : ∃ k, k = envKey s q := ⟨_, rfl⟩
  have hk2 : hashU 11 [s.a, s.b, q.a, q.b] = k := by rw [hk]; rfl
  rw [hk2] at HH
  rw [← hk]
  clear hw0 hx0 hb0 hb1 hrd hk hk2
  go_enter Tryz.func22, Tryz.ntmps22
  go_upto_region 1 with fail
  rw [← HW.out, ← hN]
  clear hN
  go_wp2_with fail
  refine (HH.out).mono ?_
  rintro e w1 ⟨rfl, hx⟩
  have HX1 := hid ((HX0.out.alloc _).trans hx)
  clear hx c0 c1 c2 c3 HH
  go_wp2_with fail
  go_ret
  exact ⟨rfl, HX1.out⟩
set_option maxRecDepth 100000 in
set_option maxHeartbeats 800000 in
theorem Same35_any (av bv : Value) (a b : List UInt64) (w : World) (ha : RdU' w av a) (hb : RdU' w bv b) (hA : a.length ≤ 1000000000000) (hB : b.length ≤ 1000000000000) :
    Calls Tryz.prog 23 #[av, bv] w fun e w' => e = .returned (.bool (a == b)) ∧ Ext w w' := by
  have HS := hid (SameV_any av bv a b w ha hb hA hB)
  generalize (a == b) = r at *
  clear ha hb
  go_enter Tryz.func23, Tryz.ntmps23
  go_wp2_with fail
  refine (HS.out).mono ?_
  rintro e w1 ⟨rfl, hx⟩
  have HX := hid hx
  clear hx
  go_wp2
  go_ret
  exact ⟨rfl, HX.out⟩
set_option maxRecDepth 100000 in
set_option maxHeartbeats 3200000 in
theorem awake35_any (w : World) : Calls Tryz.prog 5 #[] w fun e w' => e = .returned (.bool true) ∧ Ext w w' := by
  have HRL := hid Real_any
  have HPB : Hid (∀ (b : Nat) (F : Nat → Prop) (v : World), OrcAt v b (Orc.fresh false 0) F → Calls Tryz.prog 20 #[.pointer (some ⟨b, 0, none⟩), .agg #[.int .i64 0, .int .u64 0, .int .u64 2, .int .u64 1], .agg #[.int .u64 5, .int .u64 0, .int .u64 0, .int .u64 3], .int .u64 0] v (EnvSealO v b F ((eOne, awC), Orc.fresh false 0))) := hid fun b F v h => by
    have := envSeal_any (num := 0) (owner := 0) (a := pBase) (n := awN) (ex := 0) h (by show (0 : Nat) ≤ _; omega)
    rw [aw_seal] at this
    exact this
  obtain ⟨k, hk⟩ : ∃ k, k = envKey eOne eOne := ⟨_, rfl⟩
  have HKY : Hid (∀ v, Calls Tryz.prog 22 #[.agg #[.int .u64 1, .int .u64 0], .agg #[.int .u64 1, .int .u64 0]] v fun e w' => e = .returned (uv k) ∧ Ext v w') := hid fun v => by rw [hk]; exact rKey_any eOne eOne v
  have HOP : Hid (∀ (b : Nat) (F : Nat → Prop) (lv : Value) (v : World), OrcAt v b (Orc.fresh false 0) F → RdU v lv awC → Calls Tryz.prog 21 #[.pointer (some ⟨b, 0, none⟩), uv k, .int .u64 0, lv] v (OpenC v ([5, 3], true))) := hid fun b F lv v h hl => by
    have := openT_any (key := k) (nonce := 0) h hl (by rw [awC_len]; omega) (by intro s hs; cases hs)
    rw [hk, aw_open] at this
    rw [hk]
    exact this
  clear hk
  go_enter Tryz.func5, Tryz.ntmps5
  go_wp2_with fail
  refine (HRL.out _).mono ?_
  rintro e w1 ⟨b, F, rfl, hat, hx1, hF⟩
  have HAT := hid hat
  have HX1 := hid hx1
  have HF := hid hF
  clear hat hx1 hF HRL
  go_upto_region 5 with fail
  generalize hw2 : w1.alloc (.cells #[.int .i64 0, .int .u64 0, .int .u64 2, .int .u64 1] 51) = w2
  have hx2 : Ext w1 w2 := by rw [← hw2]; exact (Ext.refl w1).alloc _
  have hb2 : w2.heap[w1.heap.size]? = some (.cells #[.int .i64 0, .int .u64 0, .int .u64 2, .int .u64 1] 51 (0, 0)) := by rw [← hw2]; exact heap_new _ _
  obtain ⟨c0, c1, c2, c3⟩ := four_cells hb2
  have HX2 := hid hx2
  clear hw2 hx2 hb2
  go_wp2_with fail
  refine (HPB.out b F _ (HAT.out.ext HX2.out)).mono ?_
  rintro e w3 ⟨v, F3, rfl, hown, hto, hvn⟩
  simp only at hown hto ⊢
  obtain ⟨va, vc, rfl, -⟩ := ownsRow_rd hown
  simp only [E2.v, show ((eOne.a.toNat : Nat) : Int) = 1 from rfl, show ((eOne.b.toNat : Nat) : Int) = 0 from rfl]
  have HOWN := hid hown
  have HTO := hid hto
  have HVN := hid hvn
  clear c0 c1 c2 c3 hown hto hvn HPB
  rw [awC_len]
  obtain ⟨R, hR⟩ : ∃ R, R = w3.heap.size := ⟨_, rfl⟩
  obtain ⟨w4, hw4⟩ : ∃ w4, w4 = w3.alloc eOne.o := ⟨_, rfl⟩
  have hx4 : Ext w3 w4 := by rw [hw4]; exact (Ext.refl w3).alloc _
  have hb4 : w4.heap[R]? = some (.cells #[.int .u64 1, .int .u64 0] 25 (0, 0)) := by rw [hw4, hR]; exact heap_new _ _
  have HX4 := hid hx4
  have HB4 := hid hb4
  have HW4 := hid hw4
  have HR := hid hR
  clear hx4 hb4 hw4 hR
  go_upto_region 6 with fail
  rw [show w3.alloc (.cells #[.int .u64 1, .int .u64 0] 25) = w4 from HW4.out.symm, ← HR.out]
  go_wp2_with fail
  refine (HKY.out _).mono ?_
  rintro e w5 ⟨rfl, hx5⟩
  have HX5 := hid (HX4.out.trans hx5)
  have HX45 := hid hx5
  clear hx5 HKY
  have hop := HOP.out b F3 (.slice va 3 vc) w5 (HTO.out.at'.ext HX5.out) (by have h1 : OwnU w5 (.slice va awC.length vc) awC := ownsRow_ext HOWN.out HX5.out; have h2 := OwnU.rdu h1; rwa [awC_len] at h2)
  have HOP2 := hid hop
  clear hop HOP
  go_wp2_with fail
  refine (HOP2.out).mono ?_
  rintro e w6 ⟨v2, rfl, hown2, hx6, -⟩
  simp only at hown2 ⊢
  obtain ⟨va2, vc2, rfl, -⟩ := ownsRow_rd hown2
  have HX6 := hid (HX5.out.trans hx6)
  have HOW2 := hid hown2
  obtain ⟨k0, k1⟩ := two_cells ((HX45.out.trans hx6).heap_some HB4.out)
  clear hown2 hx6 HOP2
  have HEQ : Hid ((Op.equalIn 10000 25 (.agg #[.int .u64 1, .int .u64 0]) (.agg #[.int .u64 1, .int .u64 0])).run Tryz.prog w6 = .ok true w6) := hid (e2Eq eOne eOne w6)
  go_wp2_with fail
  rw [HEQ.out, Result.andThen_ok, Result.andThen_ok]
  have HR53 := hid (RdC.block (heap_new w6 (.cells #[.int .u64 5, .int .u64 3] 22)) (n := 2) (by unfold maxLen; omega))
  have HSM : Hid (∀ (bv : Value) (v : World), Ext w6 v → RdU' v bv [5, 3] → Calls Tryz.prog 23 #[.slice va2 2 vc2, bv] v fun e w' => e = .returned (.bool true) ∧ Ext v w') := hid fun bv v k h => by
    have h1 : OwnU v (.slice va2 2 vc2) [5, 3] := ownsRow_ext HOW2.out k
    have := Same35_any _ bv [5, 3] [5, 3] v h1.rdu.weak h (by simp) (by simp)
    exact this
  go_wp2_with fail
  refine (HSM.out _ _ ((Ext.refl w6).alloc _) (RdC.weak HR53.out)).mono ?_
  rintro e w7 ⟨rfl, hx7⟩
  have HX7 := hid (((HX1.out.trans HX2.out).kp HTO.out.kp HF.out).trans (HX6.out.trans (((Ext.refl w6).alloc _).trans hx7)))
  clear hx7
  go_wp2_with fail
  go_ret
  exact ⟨rfl, HX7.out⟩
end Go.Proofs.YtgfmjfkdogcnhaaGreat
