/- Texts of this claim, joined: Keys, Ref, Same, Ask, NoteV, Pt, Ext, Take, SealI. -/
import Derived.Deep.Cut
import Derived.Test.YtcikjcjfcanloaaGreatJr1
import Derived.Test.YtcikjcjfcanloaaGreatJr2
import Derived.Test.YtcikjcjfcanloaaGreatJr3
set_option linter.unusedSimpArgs false
namespace Go.Proofs.YtcikjcjfcanloaaGreat
open Go.RowKit
theorem fAdd_fRed (a b : UInt64) : fAdd a (fRed b) = fAdd a b := by
  unfold fAdd
  have : fRed (fRed b) = fRed b := by
    apply UInt64.toNat_inj.1
    rw [fRed_toNat, fRed_toNat, Nat.mod_mod]
  rw [this]
theorem absorbAll_red (s : S3) (l : List UInt64) : absorbAll s (l.map fRed) = absorbAll s l := by
  induction s, l using absorbAll.induct with
  | case1 => rfl
  | case2 => rw [List.map_cons, List.map_nil, absorb_one, absorb_one, fAdd_fRed]
  | case3 s x y r ih => rw [List.map_cons, List.map_cons, absorb_two, absorb_two, fAdd_fRed, fAdd_fRed, ih]
theorem hashU_red (label : UInt64) (l : List UInt64) : hashU label (l.map fRed) = hashU label l := by
  unfold hashU sponge
  rw [List.length_map]
  by_cases h : l = []
  · subst h; rfl
  · rw [if_neg h, if_neg (by simpa using h), absorbAll_red]
/-- the numbers of a wallet's addresses -/
def isNumK (n : Int) : Bool := decide (0 ≤ n) && decide (n < 4)
def kSpend (seed : UInt64) : UInt64 := hashU 8 [seed]
def kView (seed : UInt64) (n : Int) : UInt64 := if isNumK n then hashU 10 [seed, UInt64.ofNat n.toNat] else 0
def kOwner (key : UInt64) (n : Int) : UInt64 := if isNumK n then hashU 1 [key, UInt64.ofNat n.toNat] else 0
end Go.Proofs.YtcikjcjfcanloaaGreat
namespace Go.Proofs.YtcikjcjfcanloaaGreat
open Go.RowKit
attribute [local irreducible] perm fAdd fMul fPow fSub fNeg fRed hashU drawOf nextState
theorem wrap_uK (z : UInt64) : IntKind.u64.wrap (z.toNat : Int) = (z.toNat : Int) := by
  rw [IntKind.wrap_u64]; have := u_lt z; omega
theorem isNumK_any (n : Int) (w : World) : Calls Tryz.prog 166 #[.int .i64 n] w fun e w' => e = .returned (.bool (isNumK n)) ∧ Ext w w' := by
  unfold isNumK
  by_cases h0 : 0 ≤ n
  · by_cases h4 : n < 4
    · have d0 : decide (0 ≤ n) = true := by simp [h0]
      have d4 : decide (n < 4) = true := by simp [h4]
      rw [d0, d4]
      go_enter Tryz.func166, Tryz.ntmps166
      go_wp2_with fail
      go_ret
      exact ⟨rfl, Ext.refl _⟩
    · have d0 : decide (0 ≤ n) = true := by simp [h0]
      have d4 : decide (n < 4) = false := by simp [h4]
      rw [d0, d4]
      go_enter Tryz.func166, Tryz.ntmps166
      go_wp2_with fail
      go_ret
      exact ⟨rfl, Ext.refl _⟩
  · have d0 : decide (0 ≤ n) = false := by simp [h0]
    rw [d0, Bool.false_and]
    go_enter Tryz.func166, Tryz.ntmps166
    go_wp2_with fail
    go_ret
    exact ⟨rfl, Ext.refl _⟩
theorem keysHash_any (label : UInt64) (lv : Value) (l : List UInt64) (w : World) (hl : RdU w lv l) (hL : l.length ≤ 1000000000000000) :
    Calls Tryz.prog 106 #[uv label, lv] w fun e w' => e = .returned (uv (hashU label l)) ∧ Ext w w' := by
  have HH := hid (Hash_any _ isBig label lv l w hl hL)
  obtain ⟨la, lc, rfl, -⟩ := hl
  obtain ⟨k, hk⟩ : ∃ k, k = hashU label l := ⟨_, rfl⟩
  rw [← hk] at HH ⊢
  clear hk hL
  go_enter Tryz.func106, Tryz.ntmps106
  go_wp2_with fail
  refine (HH.out).mono ?_
  rintro e w1 ⟨rfl, hx⟩
  have HX1 := hid hx
  clear hx HH
  go_wp2_with fail
  go_ret
  exact ⟨rfl, HX1.out⟩
theorem kSpend_any (seed : UInt64) (w : World) : Calls Tryz.prog 69 #[uv seed] w fun e w' => e = .returned (uv (kSpend seed)) ∧ Ext w w' := by
  have hrd : RdU (w.alloc (.cells #[uv seed] 22)) (.slice (some ⟨w.heap.size, 0, none⟩) 1 1) [seed] := (RdC.block (heap_new w _) (n := 1) (by unfold maxLen; omega)).rdu rfl
  have HH := hid (keysHash_any 8 _ [seed] _ hrd (by simp))
  obtain ⟨k, hk⟩ : ∃ k, k = kSpend seed := ⟨_, rfl⟩
  have hk2 : hashU 8 [seed] = k := by rw [hk]; rfl
  rw [hk2] at HH
  rw [← hk]
  clear hrd hk hk2
  go_enter Tryz.func69, Tryz.ntmps69
  go_wp2_with fail
  refine (HH.out).mono ?_
  rintro e w1 ⟨rfl, hx⟩
  have HX1 := hid (((Ext.refl w).alloc _).trans hx)
  clear hx HH
  go_wp2_with fail
  go_ret
  exact ⟨rfl, HX1.out⟩
theorem kView_in (seed : UInt64) (m : Nat) (hm : m < 4) (w : World) : Calls Tryz.prog 142 #[uv seed, .int .i64 (m : Int)] w fun e w' => e = .returned (uv (hashU 10 [seed, UInt64.ofNat m])) ∧ Ext w w' := by
  have hN : isNumK (m : Int) = true := by unfold isNumK; simp; omega
  have hmm : ((UInt64.ofNat m).toNat : Int) = (m : Int) := by simp; omega
  have hwr : IntKind.u64.wrap (m : Int) = (m : Int) := by rw [← hmm]; exact wrap_uK _
  have HN := hid (isNumK_any (m : Int) w)
  rw [hN] at HN
  have HH : Hid (∀ v : World, Calls Tryz.prog 106 #[.int .u64 10, .slice (some ⟨v.heap.size, 0, none⟩) 2 2] (v.alloc (.cells #[uv seed, .int .u64 (m : Int)] 22)) fun e w' => e = .returned (uv (hashU 10 [seed, UInt64.ofNat m])) ∧ Ext (v.alloc (.cells #[uv seed, .int .u64 (m : Int)] 22)) w') := hid fun v => by
    have hrd : RdU (v.alloc (.cells #[uv seed, uv (UInt64.ofNat m)] 22)) (.slice (some ⟨v.heap.size, 0, none⟩) 2 2) [seed, UInt64.ofNat m] := (RdC.block (heap_new v _) (n := 2) (by unfold maxLen; omega)).rdu rfl
    have h := keysHash_any 10 _ [seed, UInt64.ofNat m] _ hrd (by simp)
    rw [show uv (UInt64.ofNat m) = .int .u64 (m : Int) by unfold uv; rw [hmm]] at h
    exact h
  generalize hashU 10 [seed, UInt64.ofNat m] = k at *
  clear hN hmm
  go_enter Tryz.func142, Tryz.ntmps142
  go_wp2_with fail
  refine (HN.out).mono ?_
  rintro e w1 ⟨rfl, hx⟩
  have HX1 := hid hx
  clear hx HN
  go_wp2_with fail
  refine (HH.out _).mono ?_
  rintro e w2 ⟨rfl, hx⟩
  have HX2 := hid ((HX1.out.alloc _).trans hx)
  clear hx HH
  go_wp2_with fail
  go_ret
  exact ⟨rfl, HX2.out⟩
theorem kView_any (seed : UInt64) (n : Int) (w : World) : Calls Tryz.prog 142 #[uv seed, .int .i64 n] w fun e w' => e = .returned (uv (kView seed n)) ∧ Ext w w' := by
  unfold kView
  by_cases h : isNumK n = true
  · rw [if_pos h]
    obtain ⟨m, rfl⟩ : ∃ m : Nat, n = (m : Int) := ⟨n.toNat, by unfold isNumK at h; simp at h; omega⟩
    exact kView_in seed m (by unfold isNumK at h; simp at h; omega) w
  · rw [if_neg h]
    have HN := hid (isNumK_any n w)
    rw [Bool.not_eq_true] at h
    rw [h] at HN
    clear h
    go_enter Tryz.func142, Tryz.ntmps142
    go_wp2_with fail
    refine (HN.out).mono ?_
    rintro e w1 ⟨rfl, hx⟩
    have HX1 := hid hx
    clear hx HN
    go_wp2_with fail
    go_ret
    exact ⟨rfl, HX1.out⟩
theorem kOwner_in (key : UInt64) (m : Nat) (hm : m < 4) (w : World) : Calls Tryz.prog 143 #[uv key, .int .i64 (m : Int)] w fun e w' => e = .returned (uv (hashU 1 [key, UInt64.ofNat m])) ∧ Ext w w' := by
  have hN : isNumK (m : Int) = true := by unfold isNumK; simp; omega
  have hmm : ((UInt64.ofNat m).toNat : Int) = (m : Int) := by simp; omega
  have hwr : IntKind.u64.wrap (m : Int) = (m : Int) := by rw [← hmm]; exact wrap_uK _
  have HN := hid (isNumK_any (m : Int) w)
  rw [hN] at HN
  have HH : Hid (∀ v : World, Calls Tryz.prog 106 #[.int .u64 1, .slice (some ⟨v.heap.size, 0, none⟩) 2 2] (v.alloc (.cells #[uv key, .int .u64 (m : Int)] 22)) fun e w' => e = .returned (uv (hashU 1 [key, UInt64.ofNat m])) ∧ Ext (v.alloc (.cells #[uv key, .int .u64 (m : Int)] 22)) w') := hid fun v => by
    have hrd : RdU (v.alloc (.cells #[uv key, uv (UInt64.ofNat m)] 22)) (.slice (some ⟨v.heap.size, 0, none⟩) 2 2) [key, UInt64.ofNat m] := (RdC.block (heap_new v _) (n := 2) (by unfold maxLen; omega)).rdu rfl
    have h := keysHash_any 1 _ [key, UInt64.ofNat m] _ hrd (by simp)
    rw [show uv (UInt64.ofNat m) = .int .u64 (m : Int) by unfold uv; rw [hmm]] at h
    exact h
  generalize hashU 1 [key, UInt64.ofNat m] = k at *
  clear hN hmm
  go_enter Tryz.func143, Tryz.ntmps143
  go_wp2_with fail
  refine (HN.out).mono ?_
  rintro e w1 ⟨rfl, hx⟩
  have HX1 := hid hx
  clear hx HN
  go_wp2_with fail
  refine (HH.out _).mono ?_
  rintro e w2 ⟨rfl, hx⟩
  have HX2 := hid ((HX1.out.alloc _).trans hx)
  clear hx HH
  go_wp2_with fail
  go_ret
  exact ⟨rfl, HX2.out⟩
theorem kOwner_any (key : UInt64) (n : Int) (w : World) : Calls Tryz.prog 143 #[uv key, .int .i64 n] w fun e w' => e = .returned (uv (kOwner key n)) ∧ Ext w w' := by
  unfold kOwner
  by_cases h : isNumK n = true
  · rw [if_pos h]
    obtain ⟨m, rfl⟩ : ∃ m : Nat, n = (m : Int) := ⟨n.toNat, by unfold isNumK at h; simp at h; omega⟩
    exact kOwner_in key m (by unfold isNumK at h; simp at h; omega) w
  · rw [if_neg h]
    have HN := hid (isNumK_any n w)
    rw [Bool.not_eq_true] at h
    rw [h] at HN
    clear h
    go_enter Tryz.func143, Tryz.ntmps143
    go_wp2_with fail
    refine (HN.out).mono ?_
    rintro e w1 ⟨rfl, hx⟩
    have HX1 := hid hx
    clear hx HN
    go_wp2_with fail
    go_ret
    exact ⟨rfl, HX1.out⟩
end Go.Proofs.YtcikjcjfcanloaaGreat
namespace Go.Proofs.YtcikjcjfcanloaaGreat
open Go.RowKit
attribute [local irreducible] perm fAdd fMul fPow fSub fNeg fRed
theorem lt_big_dec (x : UInt64) : decide ((x.toNat : Int) < 18446744069414584321) = decide (x < big) := by
  rw [decide_eq_decide]; exact (lt_big_iff x).symm
theorem ge_big_dec (x : UInt64) : decide ((18446744069414584321 : Int) ≤ (x.toNat : Int)) = !decide (x < big) := by
  rw [← lt_big_dec]
  by_cases h : (x.toNat : Int) < 18446744069414584321
  · rw [decide_eq_true h, decide_eq_false (by omega)]; rfl
  · rw [decide_eq_false h, decide_eq_true (by omega)]; rfl
end Go.Proofs.YtcikjcjfcanloaaGreat
namespace Go.Proofs.YtcikjcjfcanloaaGreat
open Go.RowKit
attribute [local irreducible] perm fAdd fMul fPow fSub fNeg fRed
theorem same_snoc {a b : List UInt64} {i : Nat} {x y : UInt64} (ha : a[i]? = some x) (hb : b[i]? = some y) (h : a.take i = b.take i) (he : x = y) : a.take (i + 1) = b.take (i + 1) := by
  rw [List.take_add_one, List.take_add_one, ha, hb, h, he]
end Go.Proofs.YtcikjcjfcanloaaGreat
namespace Go.Proofs.YtcikjcjfcanloaaGreat
open Go.RowKit
attribute [local irreducible] perm fAdd fMul fPow fSub fNeg fRed
theorem qCells_at : ∀ (Q : List (Qn × Value)) (i : Nat) (q : Qn) (v : Value), Q[i]? = some (q, v) → (qCells Q)[i * 3]? = some (uv q.label) ∧ (qCells Q)[i * 3 + 1]? = some v ∧ (qCells Q)[i * 3 + 2]? = some (uv q.answer)
  | [], i, q, v, h => by simp at h
  | x :: r, 0, q, v, h => by
    simp only [List.getElem?_cons_zero, Option.some.injEq] at h
    subst h
    simp [qCells]
  | x :: r, i + 1, q, v, h => by
    have := qCells_at r i q v (by simpa using h)
    have e : qCells (x :: r) = uv x.1.label :: x.2 :: uv x.1.answer :: qCells r := rfl
    rw [e, show (i + 1) * 3 = i * 3 + 1 + 1 + 1 from by omega, show i * 3 + 1 + 1 + 1 + 1 = (i * 3 + 1) + 1 + 1 + 1 from by omega, show i * 3 + 1 + 1 + 1 + 2 = (i * 3 + 2) + 1 + 1 + 1 from by omega]
    simp only [List.getElem?_cons_succ]
    exact this
/-- The cells of question number i. -/
theorem OrcIn.q_at {w : World} {b : Nat} {M : Orc} {F : Nat → Prop} {qv : Value} {mk ms mp : Nat} {Q : List (Qn × Value)} {S : List (Sl × Value)} (h : OrcIn w b M F qv mk ms mp Q S) {i : Nat} {q : Qn} {v : Value} (hq : Q[i]? = some (q, v)) :
    ∃ g cap, qv = .slice (some ⟨g, 0, none⟩) Q.length cap ∧ Q.length ≤ cap ∧ cap ≤ maxLen ∧ w.cell? ⟨g, i * 3, none⟩ = some (uv q.label) ∧ w.cell? ⟨g, i * 3 + 1, none⟩ = some v ∧ w.cell? ⟨g, i * 3 + 2, none⟩ = some (uv q.answer) := by
  have hi : i < Q.length := (List.getElem?_eq_some_iff.1 hq).1
  rcases h.qown.2 with ⟨_, h0⟩ | ⟨g, cap, cur, rfl, _, hg, hnc, hcm, hcs, ht⟩
  · omega
  · obtain ⟨h1, h2, h3⟩ := qCells_at Q i q v hq
    have key : ∀ j u, j < Q.length * 3 → (qCells Q)[j]? = some u → w.cell? ⟨g, j, none⟩ = some u := by
      intro j u hj hu
      rw [cell_of hg]
      rw [← ht, List.getElem?_take, if_pos hj] at hu
      simpa using hu
    exact ⟨g, cap, rfl, hnc, hcm, key _ _ (by omega) h1, key _ _ (by omega) h2, key _ _ (by omega) h3⟩
theorem le15 {n : Nat} (h : n ≤ 1000000000000) : n ≤ 1000000000000000 := by omega
theorem big_is : IsBig 18446744069414584321 := rfl
theorem zero_int (w : World) : (zeroValue 3).run Tryz.prog w = .ok (.int .i64 0) w := by
  have h : (Tryz.prog.info? 3).map (fun i => i.zero) = some (some (.int .i64 0)) := by kernel_rfl
  obtain ⟨i, hi, hz⟩ := Option.map_eq_some_iff.1 h
  simp [zeroValue, typeInfo, Sem.run_bind, hi, hz, go_sem]
end Go.Proofs.YtcikjcjfcanloaaGreat
namespace Go.Proofs.YtcikjcjfcanloaaGreat
open Go.RowKit
attribute [local irreducible] perm fAdd fMul fPow fSub fNeg fRed
structure Nt where
  value : UInt64
  owner : UInt64
  rho : UInt64
  blind : UInt64
def nv (n : Nt) : Value := .agg #[.int .u64 n.value.toNat, .int .u64 n.owner.toNat, .int .u64 n.rho.toNat, .int .u64 n.blind.toNat]
def Nt.ok (n : Nt) : Bool := decide ((n.value.toNat : Int) ≤ 4294967295) && decide ((n.owner.toNat : Int) < 18446744069414584321) && decide ((n.rho.toNat : Int) < 18446744069414584321) && decide ((n.blind.toNat : Int) < 18446744069414584321)
def Nt.list (n : Nt) : List UInt64 := [n.value, n.owner, n.rho, n.blind]
set_option maxRecDepth 100000 in
set_option maxHeartbeats 1600000 in
theorem noteValid_any (n : Nt) (w : World) : Calls Tryz.prog 167 #[nv n] w fun e w' => e = .returned (.bool n.ok) ∧ Ext w w' := by
  obtain ⟨a, b, c, d⟩ := n
  unfold nv Nt.ok
  simp only
  cases h1 : decide ((a.toNat : Int) ≤ 4294967295)
  all_goals cases h2 : decide ((b.toNat : Int) < 18446744069414584321)
  all_goals cases h3 : decide ((c.toNat : Int) < 18446744069414584321)
  all_goals cases h4 : decide ((d.toNat : Int) < 18446744069414584321)
  all_goals go_enter Tryz.func167, Tryz.ntmps167
  all_goals go_wp2
  all_goals go_ret
  all_goals exact ⟨rfl, (Ext.refl _).alloc _⟩
/-- A new list of numbers. -/
def NewL (w : World) (l : List UInt64) (e : Ending) (w' : World) : Prop := ∃ v, e = .returned v ∧ RdU w' v l ∧ Ext w w' ∧ (∀ k, blk v = some k → w.heap.size ≤ k)
theorem newL_of {w w0 : World} {l : List UInt64} {cs : Array Value} {T : TypeId} (h : Ext w w0) (hl : cs.toList = us l) (hm : l.length ≤ 1000) : NewL w l (.returned (.slice (some ⟨w0.heap.size, 0, none⟩) l.length l.length)) (w0.alloc (.cells cs T)) := by
  have := RdC.block (heap_new w0 (.cells cs T)) (n := l.length) (by unfold maxLen; omega)
  rw [hl] at this
  exact ⟨_, rfl, this.rdu rfl, h.alloc _, by intro k hk; cases hk; exact h.size⟩
end Go.Proofs.YtcikjcjfcanloaaGreat
namespace Go.Proofs.YtcikjcjfcanloaaGreat
open Go.RowKit
attribute [local irreducible] fAdd fMul fPow fSub fNeg fRed fAdd0 fMul0 fPow0
structure E2 where
  a : UInt64
  b : UInt64
def E2.red (x : E2) : Prop := x.a.toNat < 18446744069414584321 ∧ x.b.toNat < 18446744069414584321
abbrev E2.v (x : E2) : Value := .agg #[.int .u64 x.a.toNat, .int .u64 x.b.toNat]
abbrev E2.o (x : E2) : Obj := .cells #[.int .u64 x.a.toNat, .int .u64 x.b.toNat] 94
abbrev zero2 : Obj := .cells #[.int .u64 0, .int .u64 0] 94
theorem two_cells {w : World} {b : Nat} {c0 c1 : Value} {T : TypeId} (h : w.heap[b]? = some (.cells #[c0, c1] T (0, 0))) : w.cell? ⟨b, 0, none⟩ = some c0 ∧ w.cell? ⟨b, 1, none⟩ = some c1 := ⟨cell_of h 0, cell_of h 1⟩
theorem two_set {w : World} {b : Nat} {c0 c1 d0 d1 : Value} {T : TypeId} (h : w.heap[b]? = some (.cells #[c0, c1] T (0, 0))) :
    ((w.setCell ⟨b, 0, none⟩ d0).setCell ⟨b, 1, none⟩ d1).heap[b]? = some (.cells #[d0, d1] T (0, 0)) ∧ Kp (fun k => k = b) w ((w.setCell ⟨b, 0, none⟩ d0).setCell ⟨b, 1, none⟩ d1) :=
  ⟨heap_setCell_same (heap_setCell_same h 0 d0) 1 d1, ((Kp.refl (fun k => k = b) w).setCell (p := ⟨b, 0, none⟩) (.inl rfl) _).setCell (p := ⟨b, 1, none⟩) (.inl rfl) _⟩
def validP (x : E2) : Bool := decide (x.a < big) && (decide (x.b < big) && (!(x.a == 0) || !(x.b == 0)))
theorem validP_red {x : E2} (h : validP x = true) : x.red := by
  unfold validP at h
  simp only [Bool.and_eq_true, decide_eq_true_eq] at h
  exact ⟨by have := UInt64.lt_iff_toNat_lt.1 h.1; exact this, by have := UInt64.lt_iff_toNat_lt.1 h.2.1; exact this⟩
theorem lt_bigE (x : UInt64) : decide ((x.toNat : Int) < 18446744069414584321) = decide (x < big) := by
  rw [decide_eq_decide, UInt64.lt_iff_toNat_lt, show big.toNat = 18446744069414584321 from rfl]
  omega
theorem ne_zeroE (x : UInt64) : ((x.toNat : Int) != 0) = !(x == 0) := by
  cases h : x == 0 with
  | true => rw [beq_iff_eq] at h; subst h; rfl
  | false =>
    rw [beq_eq_false_iff_ne] at h
    have : x.toNat ≠ 0 := fun h0 => h (UInt64.toNat_inj.1 h0)
    simp; omega
theorem pos_E (x : UInt64) : decide ((0 : Int) < (x.toNat : Int)) = !(x == 0) := by
  rw [← ne_zeroE]
  cases h : (x.toNat : Int) != 0 with
  | true => simp at h ⊢; omega
  | false => simp at h ⊢; omega
set_option maxRecDepth 100000 in
set_option maxHeartbeats 1600000 in
theorem pValid_any (x : E2) (w : World) : Calls Tryz.prog 160 #[x.v] w fun e w' => e = .returned (.bool (validP x)) ∧ Ext w w' := by
  have hA := lt_bigE x.a
  have hB := lt_bigE x.b
  have z1 := ne_zeroE x.a
  have z2 := ne_zeroE x.b
  unfold validP
  generalize (x.a == 0) = a0 at *
  generalize (x.b == 0) = b0 at *
  generalize decide (x.a < big) = al at *
  generalize decide (x.b < big) = bl at *
  go_enter Tryz.func160, Tryz.ntmps160
  cases al with
  | false => go_wp2; go_ret; exact ⟨rfl, (Ext.refl w).alloc _⟩
  | true =>
    cases bl with
    | false => go_wp2; go_ret; exact ⟨rfl, (Ext.refl w).alloc _⟩
    | true =>
      cases a0 with
      | false => go_wp2; go_ret; exact ⟨rfl, (Ext.refl w).alloc _⟩
      | true =>
        cases b0 with
        | false => go_wp2; go_ret; exact ⟨rfl, (Ext.refl w).alloc _⟩
        | true => go_wp2; go_ret; exact ⟨rfl, (Ext.refl w).alloc _⟩
set_option maxRecDepth 100000 in
set_option maxHeartbeats 1600000 in
theorem rpValid_int (A B : Int) (al bl ap bp : Bool) (hA : decide (A < 18446744069414584321) = al) (hB : decide (B < 18446744069414584321) = bl) (z1 : decide (0 < A) = ap) (z2 : decide (0 < B) = bp) (w : World) :
    Calls Tryz.prog 126 #[.agg #[.int .u64 A, .int .u64 B]] w fun e w' => e = .returned (.bool (al && (bl && (ap || bp)))) ∧ Ext w w' := by
  go_enter Tryz.func126, Tryz.ntmps126
  cases al with
  | false => go_wp2; go_ret; exact ⟨rfl, (Ext.refl w).alloc _⟩
  | true =>
    cases bl with
    | false => go_wp2; go_ret; exact ⟨rfl, (Ext.refl w).alloc _⟩
    | true =>
      cases ap with
      | true => go_wp2; go_ret; exact ⟨rfl, (Ext.refl w).alloc _⟩
      | false =>
        cases bp with
        | true => go_wp2; go_ret; exact ⟨rfl, (Ext.refl w).alloc _⟩
        | false => go_wp2; go_ret; exact ⟨rfl, (Ext.refl w).alloc _⟩
theorem rpValid_any (x : E2) (w : World) : Calls Tryz.prog 126 #[x.v] w fun e w' => e = .returned (.bool (validP x)) ∧ Ext w w' :=
  rpValid_int x.a.toNat x.b.toNat _ _ _ _ (lt_bigE x.a) (lt_bigE x.b) (pos_E x.a) (pos_E x.b) w
end Go.Proofs.YtcikjcjfcanloaaGreat
namespace Go.Proofs.YtcikjcjfcanloaaGreat
open Go.RowKit
def PB : Nat := 18446744069414584321
theorem PB_eq : PB = 18446744069414584321 := rfl
instance : NeZero PB := ⟨by rw [PB_eq]; decide⟩
def eOne : E2 := ⟨1, 0⟩
def eMul (x y : E2) : E2 := ⟨fAdd (fMul x.a y.a) (fMul 7 (fMul x.b y.b)), fAdd (fMul x.a y.b) (fMul x.b y.a)⟩
def toF (x : UInt64) : Fin PB := Fin.ofNat PB x.toNat
theorem toF_val (x : UInt64) : (toF x).val = x.toNat % PB := rfl
theorem fMul_toNat (a b : UInt64) : (fMul a b).toNat = a.toNat * b.toNat % 18446744069414584321 := by
  unfold fMul
  rw [fMul0_toNat, fRed_toNat, fRed_toNat, ← Nat.mul_mod]
theorem fAdd_toNat (a b : UInt64) : (fAdd a b).toNat = (a.toNat + b.toNat) % 18446744069414584321 := by
  unfold fAdd
  rw [fAdd0_toNat, fRed_toNat, fRed_toNat, ← Nat.add_mod]
theorem toF_mul (a b : UInt64) : toF (fMul a b) = toF a * toF b := by
  apply Fin.ext
  rw [Fin.val_mul, toF_val, toF_val, toF_val, fMul_toNat, ← PB_eq, Nat.mod_mod, ← Nat.mul_mod]
theorem toF_add (a b : UInt64) : toF (fAdd a b) = toF a + toF b := by
  apply Fin.ext
  rw [Fin.val_add, toF_val, toF_val, toF_val, fAdd_toNat, ← PB_eq, Nat.mod_mod, ← Nat.add_mod]
theorem toF_inj {a b : UInt64} (ha : a.toNat < 18446744069414584321) (hb : b.toNat < 18446744069414584321) (h : toF a = toF b) : a = b := by
  have h1 := congrArg Fin.val h
  rw [toF_val, toF_val, PB_eq, Nat.mod_eq_of_lt ha, Nat.mod_eq_of_lt hb] at h1
  exact UInt64.toNat_inj.1 h1
theorem eMul_red (x y : E2) : (eMul x y).red := ⟨by show (fAdd _ _).toNat < _; rw [fAdd_toNat]; exact mod_big_lt _, by show (fAdd _ _).toNat < _; rw [fAdd_toNat]; exact mod_big_lt _⟩
theorem eOne_red : eOne.red := ⟨by decide, by decide⟩
theorem e2_ext {x y : E2} (hx : x.red) (hy : y.red) (h1 : toF x.a = toF y.a) (h2 : toF x.b = toF y.b) : x = y := by
  obtain ⟨xa, xb⟩ := x
  obtain ⟨ya, yb⟩ := y
  have e1 := toF_inj hx.1 hy.1 h1
  have e2 := toF_inj hx.2 hy.2 h2
  simp only at e1 e2
  rw [e1, e2]
theorem eMul_a (x y : E2) : toF (eMul x y).a = toF x.a * toF y.a + toF 7 * (toF x.b * toF y.b) := by
  show toF (fAdd _ _) = _
  rw [toF_add, toF_mul, toF_mul, toF_mul]
theorem eMul_b (x y : E2) : toF (eMul x y).b = toF x.a * toF y.b + toF x.b * toF y.a := by
  show toF (fAdd _ _) = _
  rw [toF_add, toF_mul, toF_mul]
theorem assoc_a {n : Nat} [NeZero n] (a0 a1 b0 b1 c0 c1 g : Fin n) : (a0 * b0 + g * (a1 * b1)) * c0 + g * ((a0 * b1 + a1 * b0) * c1) = a0 * (b0 * c0 + g * (b1 * c1)) + g * (a1 * (b0 * c1 + b1 * c0)) := by grind
theorem assoc_b {n : Nat} [NeZero n] (a0 a1 b0 b1 c0 c1 g : Fin n) : (a0 * b0 + g * (a1 * b1)) * c1 + (a0 * b1 + a1 * b0) * c0 = a0 * (b0 * c1 + b1 * c0) + a1 * (b0 * c0 + g * (b1 * c1)) := by grind
theorem comm_a {n : Nat} [NeZero n] (a0 a1 b0 b1 g : Fin n) : a0 * b0 + g * (a1 * b1) = b0 * a0 + g * (b1 * a1) := by grind
theorem comm_b {n : Nat} [NeZero n] (a0 a1 b0 b1 : Fin n) : a0 * b1 + a1 * b0 = b0 * a1 + b1 * a0 := by grind
theorem one_a {n : Nat} [NeZero n] (a0 a1 g o z : Fin n) (ho : o = 1) (hz : z = 0) : o * a0 + g * (z * a1) = a0 := by subst ho hz; grind
theorem one_b {n : Nat} [NeZero n] (a0 a1 o z : Fin n) (ho : o = 1) (hz : z = 0) : o * a1 + z * a0 = a1 := by subst ho hz; grind
theorem eMul_assoc (x y z : E2) : eMul (eMul x y) z = eMul x (eMul y z) := by
  refine e2_ext (eMul_red _ _) (eMul_red _ _) ?_ ?_
  · rw [eMul_a, eMul_a, eMul_b, eMul_a, eMul_a, eMul_b]; exact assoc_a _ _ _ _ _ _ _
  · rw [eMul_b, eMul_a, eMul_b, eMul_b, eMul_a, eMul_b]; exact assoc_b _ _ _ _ _ _ _
theorem eMul_comm (x y : E2) : eMul x y = eMul y x := by
  refine e2_ext (eMul_red _ _) (eMul_red _ _) ?_ ?_
  · rw [eMul_a, eMul_a]; exact comm_a _ _ _ _ _
  · rw [eMul_b, eMul_b]; exact comm_b _ _ _ _
theorem toF_one : toF 1 = 1 := by apply Fin.ext; decide +kernel
theorem toF_zero : toF 0 = 0 := by apply Fin.ext; decide +kernel
theorem one_eMul {x : E2} (hx : x.red) : eMul eOne x = x := by
  refine e2_ext (eMul_red _ _) hx ?_ ?_
  · rw [eMul_a]; exact one_a _ _ _ _ _ toF_one toF_zero
  · rw [eMul_b]; exact one_b _ _ _ _ toF_one toF_zero
theorem eMul_one {x : E2} (hx : x.red) : eMul x eOne = x := by rw [eMul_comm, one_eMul hx]
def eRep (x : E2) : Nat → E2
  | 0 => eOne
  | n + 1 => eMul (eRep x n) x
theorem eRep_red (x : E2) : ∀ n, (eRep x n).red
  | 0 => eOne_red
  | _ + 1 => eMul_red _ _
theorem eRep_add (x : E2) (m : Nat) : ∀ n, eMul (eRep x m) (eRep x n) = eRep x (m + n)
  | 0 => eMul_one (eRep_red x m)
  | n + 1 => by
    show eMul (eRep x m) (eMul (eRep x n) x) = eMul (eRep x (m + n)) x
    rw [← eMul_assoc, eRep_add x m n]
theorem eRep_one {x : E2} (hx : x.red) : eRep x 1 = x := one_eMul hx
theorem eRep_sq {x : E2} (hx : x.red) : ∀ n, eRep (eMul x x) n = eRep x (2 * n)
  | 0 => rfl
  | n + 1 => by
    show eMul (eRep (eMul x x) n) (eMul x x) = _
    rw [eRep_sq hx n, ← eMul_assoc]
    show eRep x (2 * n + 1 + 1) = _
    rfl
def ePow (x : E2) (e : UInt64) : E2 := eRep x e.toNat
/-- From the lowest bit upwards. -/
def upInv (x : E2) (e : UInt64) (r a : E2) (y : Nat) : Prop := r.red ∧ a.red ∧ eMul r (eRep a y) = ePow x e
theorem up_start {x : E2} (hx : x.red) (e : UInt64) : upInv x e eOne x e.toNat := ⟨eOne_red, hx, one_eMul (eRep_red _ _)⟩
theorem up_odd {x : E2} {e : UInt64} {r a : E2} {y : Nat} (h : upInv x e r a y) (ho : y % 2 = 1) : upInv x e (eMul r a) (eMul a a) (y / 2) := by
  refine ⟨eMul_red _ _, eMul_red _ _, ?_⟩
  rw [eRep_sq h.2.1, eMul_assoc]
  have h1 := eRep_add a 1 (2 * (y / 2))
  rw [eRep_one h.2.1] at h1
  rw [h1, show 1 + 2 * (y / 2) = y by omega]
  exact h.2.2
theorem up_even {x : E2} {e : UInt64} {r a : E2} {y : Nat} (h : upInv x e r a y) (ho : y % 2 = 0) : upInv x e r (eMul a a) (y / 2) := by
  refine ⟨h.1, eMul_red _ _, ?_⟩
  rw [eRep_sq h.2.1, show 2 * (y / 2) = y by omega]
  exact h.2.2
theorem up_end {x : E2} {e : UInt64} {r a : E2} (h : upInv x e r a 0) : r = ePow x e := by
  have := h.2.2
  rwa [show eRep a 0 = eOne from rfl, eMul_one h.1] at this
/-- From the highest bit downwards. -/
theorem down_step (x : E2) (e i : Nat) : eMul (eRep x (e / 2 ^ (i + 1))) (eRep x (e / 2 ^ (i + 1))) = eRep x (2 * (e / 2 ^ (i + 1))) := by
  rw [eRep_add]; congr 1; omega
theorem down_even (x : E2) {e i : Nat} (h : e / 2 ^ i % 2 = 0) : eRep x (2 * (e / 2 ^ (i + 1))) = eRep x (e / 2 ^ i) := by
  congr 1
  rw [Nat.pow_succ, ← Nat.div_div_eq_div_mul]; omega
theorem down_odd (x : E2) {e i : Nat} (h : e / 2 ^ i % 2 = 1) : eMul (eRep x (2 * (e / 2 ^ (i + 1)))) x = eRep x (e / 2 ^ i) := by
  show eRep x (2 * (e / 2 ^ (i + 1)) + 1) = _
  congr 1
  rw [Nat.pow_succ, ← Nat.div_div_eq_div_mul]; omega
theorem down_start (x : E2) (e : UInt64) : eRep x (e.toNat / 2 ^ 64) = eOne := by
  rw [Nat.div_eq_of_lt e.toNat_lt]; rfl
end Go.Proofs.YtcikjcjfcanloaaGreat
namespace Go.Proofs.YtcikjcjfcanloaaGreat
open Go.RowKit
attribute [local irreducible] fAdd fMul fPow fSub fNeg fRed fAdd0 fMul0 fPow0
set_option maxHeartbeats 400000 in
theorem Generator_any (p : Int) (hp : IsBig p) (w : World) :
    Calls Tryz.prog 203 #[.agg #[.int .u64 p]] w fun e w' => e = .returned (.int .u64 7) ∧ Ext w w' := by
  go_enter Tryz.func203, Tryz.ntmps203
  go_wp2_with fail
  refine (numbers_any p hp _).mono ?_
  rintro e w1 ⟨rfl, hb⟩
  go_wp2
  go_ret
  exact ⟨rfl, ((Ext.refl _).alloc _).trans hb⟩
/-- The boxes of a product: the field, the two factors, the result. -/
structure BoxM (w w0 : World) (N : Nat) (p : Int) (x y : E2) : Prop where
  ex : Ext w w0
  b0 : w0.heap[N]? = some (.cells #[.int .u64 p] 202 (0, 0))
  b1 : w0.heap[N + 1]? = some (x.o)
  b2 : w0.heap[N + 1 + 1]? = some (y.o)
  b3 : w0.heap[N + 1 + 1 + 1]? = some zero2
theorem BoxM.make (w : World) (p : Int) (x y : E2) : BoxM w ((((w.alloc (.cells #[.int .u64 p] 202)).alloc x.o).alloc y.o).alloc zero2) w.heap.size p x y where
  ex := ((((Ext.refl w).alloc _).alloc _).alloc _).alloc _
  b0 := heap_alloc_some (heap_alloc_some (heap_alloc_some (heap_new _ _)))
  b1 := by
    refine heap_alloc_some (heap_alloc_some ?_)
    have := heap_new (w.alloc (.cells #[.int .u64 p] 202)) x.o
    simpa using this
  b2 := by
    refine heap_alloc_some ?_
    have := heap_new ((w.alloc (.cells #[.int .u64 p] 202)).alloc x.o) y.o
    simpa using this
  b3 := by
    have := heap_new (((w.alloc (.cells #[.int .u64 p] 202)).alloc x.o).alloc y.o) zero2
    simpa using this
def MulC (N : Nat) (p : Int) (x y : E2) (v : World) : Prop := v.cell? ⟨N, 0, none⟩ = some (.int .u64 p) ∧ (v.cell? ⟨N + 1, 0, none⟩ = some (.int .u64 x.a.toNat) ∧ v.cell? ⟨N + 1, 1, none⟩ = some (.int .u64 x.b.toNat)) ∧ (v.cell? ⟨N + 1 + 1, 0, none⟩ = some (.int .u64 y.a.toNat) ∧ v.cell? ⟨N + 1 + 1, 1, none⟩ = some (.int .u64 y.b.toNat))
theorem BoxM.cells {w w0 : World} {N : Nat} {p : Int} {x y : E2} (h : BoxM w w0 N p x y) {v : World} (k : Ext w0 v) : MulC N p x y v :=
  ⟨cell_of (k.heap_some h.b0) 0, two_cells (k.heap_some h.b1), two_cells (k.heap_some h.b2)⟩
set_option maxRecDepth 100000 in
set_option maxHeartbeats 1600000 in
theorem eMul_any (p : Int) (hp : IsBig p) (x y : E2) (w : World) :
    Calls Tryz.prog 200 #[.agg #[.int .u64 p], x.v, y.v] w fun e w' => e = .returned (eMul x y).v ∧ Ext w w' := by
  obtain ⟨N, hN⟩ : ∃ N, N = w.heap.size := ⟨_, rfl⟩
  obtain ⟨w0, hw0⟩ : ∃ w0, w0 = (((w.alloc (.cells #[.int .u64 p] 202)).alloc x.o).alloc y.o).alloc zero2 := ⟨_, rfl⟩
  have hB : BoxM w w0 N p x y := by rw [hw0, hN]; exact BoxM.make w p x y
  have HB := hid hB
  have HW := hid hw0
  have HN := hid hN
  have H : Hid (∀ v, Ext w0 v → (v.cell? ⟨N, 0, none⟩ = some (.int .u64 p) ∧ (v.cell? ⟨N + 1, 0, none⟩ = some (.int .u64 x.a.toNat) ∧ v.cell? ⟨N + 1, 1, none⟩ = some (.int .u64 x.b.toNat)) ∧ (v.cell? ⟨N + 1 + 1, 0, none⟩ = some (.int .u64 y.a.toNat) ∧ v.cell? ⟨N + 1 + 1, 1, none⟩ = some (.int .u64 y.b.toNat)))) := hid fun v k => hB.cells k
  clear hB hw0
  go_enter Tryz.func200, Tryz.ntmps200
  go_upto_region 1 with fail
  rw [← HW.out, ← hN]
  clear hN
  refine wp_region_T (fun v => (v.cell? ⟨N, 0, none⟩ = some (.int .u64 p) ∧ (v.cell? ⟨N + 1, 0, none⟩ = some (.int .u64 x.a.toNat) ∧ v.cell? ⟨N + 1, 1, none⟩ = some (.int .u64 x.b.toNat)) ∧ (v.cell? ⟨N + 1 + 1, 0, none⟩ = some (.int .u64 y.a.toNat) ∧ v.cell? ⟨N + 1 + 1, 1, none⟩ = some (.int .u64 y.b.toNat))) ∧ Ext w0 v) 9 [(0, true), (1, true), (3, true), (4, true), (5, true), (6, true), (7, true), (2, false), (8, false), (9, false), (10, false)] (by kernel_rfl) (by kernel_rfl) (by intro c a d v w h; cases d <;> exact h) ?_
  intro ops hops
  have HS := keep0 H.out
  iterate 7
    refine wpT_take (v := ?_) (by rw [hops, List.getElem?_toArray]; rfl) (by first | rfl | (rw [hops]; rfl)) ?_ HS ?_
    rotate_left
    · intro v h; go_simp; with_reducible rfl
    simp only [Act.put, List.getElem_toArray, List.getElem_cons_zero, List.getElem_cons_succ, List.setIfInBounds_toArray, List.set_cons_zero, List.set_cons_succ]
  refine wpT_step (by rw [hops, List.getElem?_toArray]; rfl) (by first | rfl | (rw [hops]; rfl)) ?_
  intro K hK
  go_wp2_with fail
  refine (Generator_any p hp _).mono ?_
  rintro e w1 ⟨rfl, hx⟩
  have HS1 := keepE H.out HS hx
  clear HS hx
  refine hK _ _ ⟨fun _ => HS1, ?_⟩
  clear hK K
  refine wpT_step (by rw [hops, List.getElem?_toArray]; rfl) (by first | rfl | (rw [hops]; rfl)) ?_
  intro K hK
  go_wp2_with fail
  refine (Mul_any p hp x.b y.b _).mono ?_
  rintro e w2 ⟨rfl, hx⟩
  have HS2 := keepE H.out HS1 hx
  clear HS1 hx
  refine hK _ _ ⟨fun _ => HS2, ?_⟩
  clear hK K
  refine wpT_step (by rw [hops, List.getElem?_toArray]; rfl) (by first | rfl | (rw [hops]; rfl)) ?_
  intro K hK
  go_wp2_with fail
  refine (Mul_any p hp 7 (fMul x.b y.b) _).mono ?_
  rintro e w3 ⟨rfl, hx⟩
  have HS3 := keepE H.out HS2 hx
  clear HS2 hx
  refine hK _ _ ⟨fun h => absurd h (by decide), ?_⟩
  clear hK K
  refine wpT_step (by rw [hops, List.getElem?_toArray]; rfl) (by first | rfl | (rw [hops]; rfl)) ?_
  intro K hK
  go_wp2_with fail
  try (with_reducible refine ⟨fun h => absurd h (by decide), ?_⟩)
  try rw [wpT_nil]
  try clear hops ops
  have HX3 := hid HS3.2
  clear HS3
  have H2 : Hid (∀ v, Ext w3 v → (v.cell? ⟨N, 0, none⟩ = some (.int .u64 p) ∧ (v.cell? ⟨N + 1, 0, none⟩ = some (.int .u64 x.a.toNat) ∧ v.cell? ⟨N + 1, 1, none⟩ = some (.int .u64 x.b.toNat)) ∧ (v.cell? ⟨N + 1 + 1, 0, none⟩ = some (.int .u64 y.a.toNat) ∧ v.cell? ⟨N + 1 + 1, 1, none⟩ = some (.int .u64 y.b.toNat)))) := hid fun v k => H.out v (HX3.out.trans k)
  obtain ⟨sq, hsq⟩ : ∃ sq, sq = fMul 7 (fMul x.b y.b) := ⟨_, rfl⟩
  rw [← hsq]
  have HSQ := hid hsq
  clear hsq
  go_wp2_with fail
  refine wp_region_T (fun v => (v.cell? ⟨N, 0, none⟩ = some (.int .u64 p) ∧ (v.cell? ⟨N + 1, 0, none⟩ = some (.int .u64 x.a.toNat) ∧ v.cell? ⟨N + 1, 1, none⟩ = some (.int .u64 x.b.toNat)) ∧ (v.cell? ⟨N + 1 + 1, 0, none⟩ = some (.int .u64 y.a.toNat) ∧ v.cell? ⟨N + 1 + 1, 1, none⟩ = some (.int .u64 y.b.toNat))) ∧ Ext w3 v) 22 [(0, true), (1, true), (2, true), (3, true), (4, true), (5, true), (7, true), (9, true), (10, true), (11, true), (12, true), (13, true), (14, true), (16, true), (17, true), (18, true), (19, true), (20, true), (6, false), (8, false), (15, false), (21, false), (22, false), (23, false), (24, false)] (by kernel_rfl) (by kernel_rfl) (by intro c a d v w h; cases d <;> exact h) ?_
  intro ops hops
  have HS := keep0 H2.out
  iterate 18
    refine wpT_take (v := ?_) (by rw [hops, List.getElem?_toArray]; rfl) (by first | rfl | (rw [hops]; rfl)) ?_ HS ?_
    rotate_left
    · intro v h; go_simp; with_reducible rfl
    simp only [Act.put, List.getElem_toArray, List.getElem_cons_zero, List.getElem_cons_succ, List.setIfInBounds_toArray, List.set_cons_zero, List.set_cons_succ]
  refine wpT_step (by rw [hops, List.getElem?_toArray]; rfl) (by first | rfl | (rw [hops]; rfl)) ?_
  intro K hK
  go_wp2_with fail
  refine (Mul_any p hp x.a y.a _).mono ?_
  rintro e w4 ⟨rfl, hx⟩
  have HS1 := keepE H2.out HS hx
  clear HS hx
  refine hK _ _ ⟨fun _ => HS1, ?_⟩
  clear hK K
  refine wpT_step (by rw [hops, List.getElem?_toArray]; rfl) (by first | rfl | (rw [hops]; rfl)) ?_
  intro K hK
  go_wp2_with fail
  refine (Add_any p hp (fMul x.a y.a) sq _).mono ?_
  rintro e w5 ⟨rfl, hx⟩
  have HS2 := keepE H2.out HS1 hx
  clear HS1 hx
  refine hK _ _ ⟨fun _ => HS2, ?_⟩
  clear hK K
  refine wpT_step (by rw [hops, List.getElem?_toArray]; rfl) (by first | rfl | (rw [hops]; rfl)) ?_
  intro K hK
  go_wp2_with fail
  refine (Mul_any p hp x.a y.b _).mono ?_
  rintro e w6 ⟨rfl, hx⟩
  have HS3 := keepE H2.out HS2 hx
  clear HS2 hx
  refine hK _ _ ⟨fun _ => HS3, ?_⟩
  clear hK K
  refine wpT_step (by rw [hops, List.getElem?_toArray]; rfl) (by first | rfl | (rw [hops]; rfl)) ?_
  intro K hK
  go_wp2_with fail
  refine (Mul_any p hp x.b y.a _).mono ?_
  rintro e w7 ⟨rfl, hx⟩
  have HS4 := keepE H2.out HS3 hx
  clear HS3 hx
  refine hK _ _ ⟨fun _ => HS4, ?_⟩
  clear hK K
  refine wpT_step (by rw [hops, List.getElem?_toArray]; rfl) (by first | rfl | (rw [hops]; rfl)) ?_
  intro K hK
  go_wp2_with fail
  refine (Add_any p hp (fMul x.a y.b) (fMul x.b y.a) _).mono ?_
  rintro e w8 ⟨rfl, hx⟩
  have hx8 := HS4.2.trans hx
  have hb8 := (HX3.out.trans hx8).heap_some HB.out.b3
  obtain ⟨k0, k1⟩ := two_cells hb8
  have kf := frozen_of hb8
  have HXF := hid (HX3.out.trans hx8)
  have HBF := hid hb8
  clear HS4 hx hx8 hb8
  refine hK _ _ ⟨fun h => absurd h (by decide), ?_⟩
  clear hK K
  refine wpT_step (by rw [hops, List.getElem?_toArray]; rfl) (by first | rfl | (rw [hops]; rfl)) ?_
  intro K hK
  go_wp2_with fail
  try (with_reducible refine ⟨fun h => absurd h (by decide), ?_⟩)
  try rw [← hops]
  refine wpT_step (by rw [hops, List.getElem?_toArray]; rfl) (by first | rfl | (rw [hops]; rfl)) ?_
  intro K hK
  go_wp2_with fail
  try (with_reducible refine ⟨fun h => absurd h (by decide), ?_⟩)
  try rw [wpT_nil]
  try clear hops ops
  go_wp2_with fail
  obtain ⟨hb9, hk9⟩ := two_set (d0 := .int .u64 (fAdd (fMul x.a y.a) sq).toNat) (d1 := .int .u64 (fAdd (fMul x.a y.b) (fMul x.b y.a)).toNat) HBF.out
  obtain ⟨r0, r1⟩ := two_cells hb9
  have hfin := (HB.out.ex.trans HXF.out).kp hk9 (fun k h => by have := HB.out.ex.size; have := HN.out; omega)
  have hres : (eMul x y).v = .agg #[.int .u64 (fAdd (fMul x.a y.a) sq).toNat, .int .u64 (fAdd (fMul x.a y.b) (fMul x.b y.a)).toNat] := by rw [HSQ.out]; rfl
  generalize (w8.setCell ⟨N + 1 + 1 + 1, 0, none⟩ (.int .u64 (fAdd (fMul x.a y.a) sq).toNat)).setCell ⟨N + 1 + 1 + 1, 1, none⟩ (.int .u64 (fAdd (fMul x.a y.b) (fMul x.b y.a)).toNat) = W at *
  rw [hres]
  exact bodyPost_ret (v := .agg #[.int .u64 (fAdd (fMul x.a y.a) sq).toNat, .int .u64 (fAdd (fMul x.a y.b) (fMul x.b y.a)).toNat]) (by simp [results, Tryz.results200, go_sem, r0, r1]) rfl ⟨rfl, hfin⟩
theorem Reduce_one (p : Int) (hp : IsBig p) (w : World) : Calls Tryz.prog 199 #[.agg #[.int .u64 p], .int .u64 1] w fun e w' => e = .returned (.int .u64 1) ∧ Ext w w' := by
  have h := Reduce_any p hp 1 w
  have h1 : fRed 1 = 1 := by delta fRed; decide
  rw [h1] at h
  exact h
structure PRel (w wr : World) (N R : Nat) (p : Int) (r a : E2) : Prop where
  ex : Ext w wr
  b0 : wr.heap[N]? = some (.cells #[.int .u64 p] 202 (0, 0))
  b1 : wr.heap[N + 1]? = some a.o
  b2 : wr.heap[N + 1 + 1]? = some zero2
  b3 : wr.heap[R]? = some r.o
  hR : N + 1 + 1 < R
  hN : w.heap.size ≤ N
theorem PRel.keep {w wr w' : World} {N R : Nat} {p : Int} {r a : E2} (h : PRel w wr N R p r a) (k : Ext wr w') : PRel w w' N R p r a :=
  ⟨h.ex.trans k, k.heap_some h.b0, k.heap_some h.b1, k.heap_some h.b2, k.heap_some h.b3, h.hR, h.hN⟩
theorem PRel.setR {w wr w' : World} {N R : Nat} {p : Int} {r a r' : E2} (h : PRel w wr N R p r a) (hb : w'.heap[R]? = some r'.o) (k : Kp (fun k => k = R) wr w') : PRel w w' N R p r' a :=
  have h1 := h.hR
  have h2 := h.hN
  ⟨h.ex.kp k (fun k h => by omega), k.heap_some (by omega) h.b0, k.heap_some (by omega) h.b1, k.heap_some (by omega) h.b2, hb, h1, h2⟩
theorem PRel.setA {w wr w' : World} {N R : Nat} {p : Int} {r a a' : E2} (h : PRel w wr N R p r a) (hb : w'.heap[N + 1]? = some a'.o) (k : Kp (fun k => k = N + 1) wr w') : PRel w w' N R p r a' :=
  have h1 := h.hR
  have h2 := h.hN
  ⟨h.ex.kp k (fun k h => by omega), k.heap_some (by omega) h.b0, hb, k.heap_some (by omega) h.b2, k.heap_some (by omega) h.b3, h1, h2⟩
set_option maxRecDepth 100000 in
set_option maxHeartbeats 3200000 in
theorem ePow_any (p : Int) (hp : IsBig p) (x : E2) (hx : x.red) (ex : UInt64) (w : World) :
    Calls Tryz.prog 193 #[.agg #[.int .u64 p], x.v, .int .u64 ex.toNat] w fun e w' => e = .returned (ePow x ex).v ∧ Ext w w' := by
  obtain ⟨N, hN⟩ : ∃ N, N = w.heap.size := ⟨_, rfl⟩
  obtain ⟨w0, hw0⟩ : ∃ w0, w0 = ((w.alloc (.cells #[.int .u64 p] 202)).alloc x.o).alloc zero2 := ⟨_, rfl⟩
  have hx0 : Ext w w0 := by rw [hw0]; exact (((Ext.refl w).alloc _).alloc _).alloc _
  have hb0 : w0.heap[N]? = some (.cells #[.int .u64 p] 202 (0, 0)) := by rw [hw0, hN]; exact heap_alloc_some (heap_alloc_some (heap_new _ _))
  have hb1 : w0.heap[N + 1]? = some x.o := by
    rw [hw0, hN]
    refine heap_alloc_some ?_
    have := heap_new (w.alloc (.cells #[.int .u64 p] 202)) x.o
    simpa using this
  have hb2 : w0.heap[N + 1 + 1]? = some zero2 := by
    rw [hw0, hN]
    have := heap_new ((w.alloc (.cells #[.int .u64 p] 202)).alloc x.o) zero2
    simpa using this
  have hz0 : w0.heap.size = N + 1 + 1 + 1 := by rw [hw0, hN]; simp
  have c0 : w0.cell? ⟨N, 0, none⟩ = some (.int .u64 p) := cell_of hb0 0
  have HX0 := hid hx0
  have HB := hid (And.intro hb0 (And.intro hb1 hb2))
  have HW := hid hw0
  have HN := hid hN
  have HZ := hid hz0
  have HX := hid hx
  clear hx0 hb0 hb1 hb2 hw0 hz0 hx
  go_enter Tryz.func193, Tryz.ntmps193
  go_upto_region 1 with fail
  rw [← HW.out, ← hN]
  clear hN
  go_wp2_with fail
  refine (Reduce_one p hp _).mono ?_
  rintro e w1 ⟨rfl, hx⟩
  have hR0 : PRel w (w1.alloc eOne.o) N w1.heap.size p eOne x := {
    ex := (HX0.out.trans hx).alloc _
    b0 := heap_alloc_some (hx.heap_some HB.out.1)
    b1 := heap_alloc_some (hx.heap_some HB.out.2.1)
    b2 := heap_alloc_some (hx.heap_some HB.out.2.2)
    b3 := heap_new _ _
    hR := by have := hx.size; have := HZ.out; omega
    hN := by have := HN.out; omega }
  have HR0 := hid hR0
  clear hR0 hx c0
  go_wp2_with fail
  generalize w1.heap.size = R at *
  go_loopw [2] (fun ev wr => ∃ (r a : E2) (y : UInt64), ev = .int .u64 y.toNat ∧ Hid (PRel w wr N R p r a ∧ upInv x ex r a y.toNat)) (fun ev _ => (intOf ev).toNat)
  case atStart => exact ⟨eOne, x, ex, rfl, hid ⟨HR0.out, up_start HX.out ex⟩⟩
  case round =>
    obtain ⟨r, a, y, rfl, HI⟩ := hrel
    have HR := hid HI.out.1
    have HN1 := hid (show N + 1 + 1 < R ∧ w.heap.size ≤ N from ⟨HI.out.1.hR, HI.out.1.hN⟩)
    by_cases hz : (y.toNat : Int) = 0
    · have hz' : ¬ (0 : Int) < y.toNat := by omega
      have hfin := HI.out.2
      rw [show y.toNat = 0 by omega] at hfin
      have hfin := up_end hfin
      obtain ⟨c3, c4⟩ := two_cells HR.out.b3
      obtain ⟨k0, k1⟩ := two_cells HR.out.b2
      have kf := frozen_of HR.out.b2
      obtain ⟨hb9, hk9⟩ := two_set (d0 := .int .u64 r.a.toNat) (d1 := .int .u64 r.b.toNat) HR.out.b2
      have HB9 := hid hb9
      have HK9 := hid hk9
      have HF := hid hfin
      clear hz hfin hb9 hk9
      go_wp2_with fail
      obtain ⟨r0, r1⟩ := two_cells HB9.out
      have hfin := HR.out.ex.kp HK9.out (fun k h => by have := HN1.out; omega)
      generalize (wr.setCell ⟨N + 1 + 1, 0, none⟩ (.int .u64 r.a.toNat)).setCell ⟨N + 1 + 1, 1, none⟩ (.int .u64 r.b.toNat) = W at *
      rw [← HF.out]
      exact bodyPost_ret (v := .agg #[.int .u64 r.a.toNat, .int .u64 r.b.toNat]) (by simp [results, Tryz.results193, go_sem, r0, r1]) rfl ⟨rfl, hfin⟩
    · have hz' : (0 : Int) < y.toNat := by omega
      have HZ1 := hid hz'
      clear hz
      have hand : bits BinOp.and IntKind.u64 (y.toNat : Int) 1 = (y.toNat : Int) % 2 := and_one_u64 _ (u_pos y) (by have := u_lt y; omega)
      have hsh := shr1_u y
      have HZN := hid (show ((y / 2).toNat : Int) = (y.toNat : Int) / 2 by rw [half_u]; omega)
      obtain ⟨c3, c4⟩ := two_cells HR.out.b3
      obtain ⟨c1, c2⟩ := two_cells HR.out.b1
      have c0 := cell_of HR.out.b0 0
      simp only [List.getElem?_toArray, List.getElem?_cons_zero] at c0
      by_cases ho2 : (y.toNat : Int) % 2 = 1
      · have ho : ((y.toNat : Int) % 2 == 1) = true := by simp; omega
        have H1 := hid (up_odd HI.out.2 (by omega))
        rw [← half_u] at H1
        generalize hzz : y / 2 = z at *
        clear ho2 hzz
        go_wp2_with fail
        refine (eMul_any p hp r a _).mono ?_
        rintro e w2 ⟨rfl, hx⟩
        have hr2 := HR.out.keep hx
        obtain ⟨k0, k1⟩ := two_cells hr2.b3
        have kf := frozen_of hr2.b3
        obtain ⟨hb3, hk3⟩ := two_set (d0 := .int .u64 (eMul r a).a.toNat) (d1 := .int .u64 (eMul r a).b.toNat) hr2.b3
        have HR3 := hid (hr2.setR (r' := eMul r a) hb3 hk3)
        clear c0 c1 c2 c3 c4 hr2 hb3 hk3 hx
        go_upto_region 5 with fail
        generalize (w2.setCell ⟨R, 0, none⟩ (.int .u64 (eMul r a).a.toNat)).setCell ⟨R, 1, none⟩ (.int .u64 (eMul r a).b.toNat) = w3 at *
        clear k0 k1 kf
        obtain ⟨c1, c2⟩ := two_cells HR3.out.b1
        have c0 := cell_of HR3.out.b0 0
        simp only [List.getElem?_toArray, List.getElem?_cons_zero] at c0
        go_wp2_with fail
        refine (eMul_any p hp a a _).mono ?_
        rintro e w4 ⟨rfl, hx⟩
        have hr4 := HR3.out.keep hx
        obtain ⟨k0, k1⟩ := two_cells hr4.b1
        have kf := frozen_of hr4.b1
        obtain ⟨hb5, hk5⟩ := two_set (d0 := .int .u64 (eMul a a).a.toNat) (d1 := .int .u64 (eMul a a).b.toNat) hr4.b1
        have HR5 := hid (hr4.setA (a' := eMul a a) hb5 hk5)
        clear c0 c1 c2 hr4 hb5 hk5 hx
        go_wp2_with fail
        go_roundw
        case rel => exact ⟨eMul r a, eMul a a, z, rfl, hid ⟨HR5.out, H1.out⟩⟩
        case measure => have := HZN.out; have := HZ1.out; simp [intOf]; omega
      · have ho : ((y.toNat : Int) % 2 == 1) = false := by simp; omega
        have H1 := hid (up_even HI.out.2 (by omega))
        rw [← half_u] at H1
        have HR3 := HR
        generalize hzz : y / 2 = z at *
        clear ho2 hzz c3 c4
        go_wp2_with fail
        refine (eMul_any p hp a a _).mono ?_
        rintro e w4 ⟨rfl, hx⟩
        have hr4 := HR3.out.keep hx
        obtain ⟨k0, k1⟩ := two_cells hr4.b1
        have kf := frozen_of hr4.b1
        obtain ⟨hb5, hk5⟩ := two_set (d0 := .int .u64 (eMul a a).a.toNat) (d1 := .int .u64 (eMul a a).b.toNat) hr4.b1
        have HR5 := hid (hr4.setA (a' := eMul a a) hb5 hk5)
        clear c0 c1 c2 hr4 hb5 hk5 hx
        go_wp2_with fail
        go_roundw
        case rel => exact ⟨r, eMul a a, z, rfl, hid ⟨HR5.out, H1.out⟩⟩
        case measure => have := HZN.out; have := HZ1.out; simp [intOf]; omega
def pShared (x : E2) (e : UInt64) : E2 := if validP x then ePow x e else ⟨0, 0⟩
theorem big_isE : IsBig 18446744069414584321 := rfl
set_option maxRecDepth 100000 in
set_option maxHeartbeats 1600000 in
theorem power_any (x : E2) (hx : x.red) (e : UInt64) (w : World) : Calls Tryz.prog 181 #[x.v, .int .u64 e.toNat] w fun e' w' => e' = .returned (ePow x e).v ∧ Ext w w' := by
  obtain ⟨N, hN⟩ : ∃ N, N = w.heap.size := ⟨_, rfl⟩
  obtain ⟨w0, hw0⟩ : ∃ w0, w0 = (w.alloc x.o).alloc zero2 := ⟨_, rfl⟩
  have hx0 : Ext w w0 := by rw [hw0]; exact ((Ext.refl w).alloc _).alloc _
  have hb0 : w0.heap[N]? = some x.o := by rw [hw0, hN]; exact heap_alloc_some (heap_new _ _)
  have hb1 : w0.heap[N + 1]? = some zero2 := by
    rw [hw0, hN]
    have := heap_new (w.alloc x.o) zero2
    simpa using this
  obtain ⟨c0, c1⟩ := two_cells hb0
  have HW := hid hw0
  have HN := hid hN
  have HB1 := hid hb1
  have HX0 := hid hx0
  have HP := hid (ePow_any _ big_isE x hx e w0)
  obtain ⟨r, hr⟩ : ∃ r, r = ePow x e := ⟨_, rfl⟩
  rw [← hr] at HP ⊢
  clear hr
  clear hw0 hb0 hb1 hx0 hx
  go_enter Tryz.func181, Tryz.ntmps181
  go_upto_region 1 with fail
  rw [← HW.out, ← hN]
  clear hN
  go_wp2_with fail
  refine (HP.out).mono ?_
  rintro e' w1 ⟨rfl, hx⟩
  have hb1 := hx.heap_some HB1.out
  obtain ⟨k0, k1⟩ := two_cells hb1
  have kf := frozen_of hb1
  obtain ⟨hb9, hk9⟩ := two_set (d0 := .int .u64 r.a.toNat) (d1 := .int .u64 r.b.toNat) hb1
  have hfin := (HX0.out.trans hx).kp hk9 (fun k h => by have := HN.out; omega)
  obtain ⟨r0, r1⟩ := two_cells hb9
  have HF := hid (And.intro hfin (And.intro r0 r1))
  clear hb1 hb9 hk9 hfin r0 r1 hx c0 c1 HP
  go_wp2_with fail
  obtain ⟨hfin, r0, r1⟩ := HF.out
  generalize (w1.setCell ⟨N + 1, 0, none⟩ (.int .u64 r.a.toNat)).setCell ⟨N + 1, 1, none⟩ (.int .u64 r.b.toNat) = W at *
  exact bodyPost_ret (v := .agg #[.int .u64 r.a.toNat, .int .u64 r.b.toNat]) (by simp [results, Tryz.results181, go_sem, r0, r1]) rfl ⟨rfl, hfin⟩
set_option maxRecDepth 100000 in
set_option maxHeartbeats 1600000 in
theorem Shared_any (x : E2) (e : UInt64) (w : World) : Calls Tryz.prog 164 #[x.v, .int .u64 e.toNat] w fun e' w' => e' = .returned (pShared x e).v ∧ Ext w w' := by
  obtain ⟨N, hN⟩ : ∃ N, N = w.heap.size := ⟨_, rfl⟩
  obtain ⟨w0, hw0⟩ : ∃ w0, w0 = (w.alloc x.o).alloc zero2 := ⟨_, rfl⟩
  have hx0 : Ext w w0 := by rw [hw0]; exact ((Ext.refl w).alloc _).alloc _
  have hb0 : w0.heap[N]? = some x.o := by rw [hw0, hN]; exact heap_alloc_some (heap_new _ _)
  have hb1 : w0.heap[N + 1]? = some zero2 := by
    rw [hw0, hN]
    have := heap_new (w.alloc x.o) zero2
    simpa using this
  obtain ⟨c0, c1⟩ := two_cells hb0
  have HW := hid hw0
  have HN := hid hN
  have HB0 := hid hb0
  have HB1 := hid hb1
  have HX0 := hid hx0
  obtain ⟨r, hr⟩ : ∃ r, r = pShared x e := ⟨_, rfl⟩
  rw [← hr]
  have HR := hid hr
  clear hw0 hb0 hb1 hx0 hr
  go_enter Tryz.func164, Tryz.ntmps164
  go_upto_region 1 with fail
  rw [← HW.out, ← hN]
  clear hN
  go_wp2_with fail
  refine (pValid_any x _).mono ?_
  rintro e' w1 ⟨rfl, hx⟩
  have HX := hid hx
  clear hx c0 c1
  cases hv : validP x with
  | true =>
    have hp : pShared x e = ePow x e := by unfold pShared; rw [hv]; rfl
    rw [hp] at HR
    have HP := hid (power_any x (validP_red hv) e)
    rw [← HR.out] at HP
    obtain ⟨c0, c1⟩ := two_cells (HX.out.heap_some HB0.out)
    clear hv hp
    go_wp2_with fail
    refine (HP.out _).mono ?_
    rintro e' w2 ⟨rfl, hx⟩
    have hb1 := (HX.out.trans hx).heap_some HB1.out
    obtain ⟨k0, k1⟩ := two_cells hb1
    have kf := frozen_of hb1
    obtain ⟨hb9, hk9⟩ := two_set (d0 := .int .u64 r.a.toNat) (d1 := .int .u64 r.b.toNat) hb1
    have hfin := ((HX0.out.trans HX.out).trans hx).kp hk9 (fun k h => by have := HN.out; omega)
    obtain ⟨r0, r1⟩ := two_cells hb9
    have HF := hid (And.intro hfin (And.intro r0 r1))
    clear hb1 hb9 hk9 hfin r0 r1 hx
    go_wp2_with fail
    obtain ⟨hfin, r0, r1⟩ := HF.out
    generalize (w2.setCell ⟨N + 1, 0, none⟩ (.int .u64 r.a.toNat)).setCell ⟨N + 1, 1, none⟩ (.int .u64 r.b.toNat) = W at *
    exact bodyPost_ret (v := .agg #[.int .u64 r.a.toNat, .int .u64 r.b.toNat]) (by simp [results, Tryz.results164, go_sem, r0, r1]) rfl ⟨rfl, hfin⟩
  | false =>
    have hp : pShared x e = ⟨0, 0⟩ := by unfold pShared; rw [hv]; rfl
    rw [hp] at HR
    have hb1 := HX.out.heap_some HB1.out
    obtain ⟨k0, k1⟩ := two_cells hb1
    have kf := frozen_of hb1
    obtain ⟨hb9, hk9⟩ := two_set (d0 := .int .u64 0) (d1 := .int .u64 0) hb1
    have hfin := (HX0.out.trans HX.out).kp hk9 (fun k h => by have := HN.out; omega)
    obtain ⟨r0, r1⟩ := two_cells hb9
    have HF := hid (And.intro hfin (And.intro r0 r1))
    have HRV : Hid (r.v = .agg #[.int .u64 0, .int .u64 0]) := hid (by rw [HR.out]; rfl)
    clear hb1 hb9 hk9 hfin r0 r1 hv hp
    go_wp2_with fail
    obtain ⟨hfin, r0, r1⟩ := HF.out
    generalize (w1.setCell ⟨N + 1, 0, none⟩ (.int .u64 0)).setCell ⟨N + 1, 1, none⟩ (.int .u64 0) = W at *
    exact bodyPost_ret (v := .agg #[.int .u64 0, .int .u64 0]) (by simp [results, Tryz.results164, go_sem, r0, r1]) rfl ⟨by rw [HRV.out], hfin⟩
end Go.Proofs.YtcikjcjfcanloaaGreat
namespace Go.Proofs.YtcikjcjfcanloaaGreat
open Go.RowKit
attribute [local irreducible] perm fAdd fMul fPow fSub fNeg fRed drawOf nextState
def UPart (w : World) (g n i : Nat) (l : List UInt64) : Prop :=
  ∃ cur : Array Value, w.heap[g]? = some (.cells cur 22 (0, 0)) ∧ cur.size = n ∧ cur.toList.take i = us (l.take i)
theorem UPart.kp {F : Nat → Prop} {w w' : World} {g n i : Nat} {l : List UInt64} (h : UPart w g n i l) (k : Kp F w w') (hF : ¬ F g) : UPart w' g n i l := by
  obtain ⟨cur, h1, h2, h3⟩ := h
  exact ⟨cur, k.heap_some hF h1, h2, h3⟩
theorem take_set1 (l : List Value) (j : Nat) (a : Value) (h : j < l.length) : (l.set j a).take (j + 1) = l.take j ++ [a] := by
  rw [List.take_add_one, List.take_set_of_le (Nat.le_refl j), List.getElem?_set_self h]; rfl
theorem UPart.more {w : World} {g n i : Nat} {l : List UInt64} {x : UInt64} (h : UPart w g n i l) (hx : l[i]? = some x) (hi : i < n) : UPart (w.setCell ⟨g, i, none⟩ (uv x)) g n (i + 1) l := by
  obtain ⟨cur, h1, h2, h3⟩ := h
  refine ⟨_, heap_setCell_same h1 i _, by simpa using h2, ?_⟩
  simp only [Array.toList_setIfInBounds]
  rw [take_set1 _ _ _ (by rw [Array.length_toList, h2]; exact hi), h3, List.take_add_one, hx]
  simp
theorem UPart.own {w : World} {g n : Nat} {l : List UInt64} (h : UPart w g n n l) (hl : l.length = n) (hm : n ≤ maxLen) : OwnU w (.slice (some ⟨g, 0, none⟩) n n) l := by
  obtain ⟨cur, h1, h2, h3⟩ := h
  subst hl
  rw [List.take_length] at h3
  exact ⟨by simp, .inr ⟨g, l.length, cur, rfl, Nat.zero_le _, h1, Nat.le_refl _, hm, by omega, by rw [Nat.mul_one]; exact h3⟩⟩
end Go.Proofs.YtcikjcjfcanloaaGreat
namespace Go.Proofs.YtcikjcjfcanloaaGreat
open Go.RowKit
attribute [local irreducible] perm fAdd fMul fPow fSub fNeg fRed drawOf nextState
def isSeal (s : Sl) (key nonce : UInt64) (l : List UInt64) : Bool := s.key == key && s.nonce == nonce && s.sealed == l
def findS (ss : List Sl) (key nonce : UInt64) (l : List UInt64) : Option Sl := ss.find? fun s => isSeal s key nonce l
theorem isSeal_iff {s : Sl} {key nonce : UInt64} {l : List UInt64} : isSeal s key nonce l = true ↔ s.key = key ∧ s.nonce = nonce ∧ s.sealed = l := by
  simp [isSeal, and_assoc]
theorem assoc_sealL (S : List (Sl × Value)) (key nonce : UInt64) (l : List UInt64) : assoc (sealL S) (keyS [key, nonce] l) = (S.find? fun x => isSeal x.1 key nonce l).map (·.2) := by
  induction S with
  | nil => rfl
  | cons x r ih =>
    have hk : (keyS [x.1.key, x.1.nonce] x.1.sealed == keyS [key, nonce] l) = isSeal x.1 key nonce l := by
      rw [Bool.eq_iff_iff, isSeal_iff, beq_iff_eq]
      constructor
      · intro h
        have := keyS_inj (ns := [x.1.key, x.1.nonce]) (ms := [key, nonce]) rfl h
        have h1 := this.1
        injection h1 with h1 h2
        injection h2 with h2 _
        exact ⟨h1, h2, this.2⟩
      · rintro ⟨h1, h2, h3⟩; rw [h1, h2, h3]
    unfold sealL at ih ⊢
    rw [List.map_cons, assoc, hk, List.find?_cons]
    cases isSeal x.1 key nonce l with
    | true => simp
    | false => simpa using ih
theorem find_fst (S : List (Sl × Value)) (key nonce : UInt64) (l : List UInt64) : (S.find? fun x => isSeal x.1 key nonce l).map (·.1) = findS (S.map (·.1)) key nonce l := by
  induction S with
  | nil => rfl
  | cons x r ih =>
    unfold findS at ih ⊢
    rw [List.map_cons, List.find?_cons, List.find?_cons]
    cases isSeal x.1 key nonce l with
    | true => simp
    | false => simpa using ih
theorem zero_us (w : World) : (zeroValue 57).run Tryz.prog w = .ok (.slice none 0 0) w := by
  have h : (Tryz.prog.info? 57).map (fun i => i.zero) = some (some (.slice none 0 0)) := by kernel_rfl
  obtain ⟨i, hi, hz⟩ := Option.map_eq_some_iff.1 h
  simp [zeroValue, typeInfo, Sem.run_bind, hi, hz, go_sem]
set_option maxRecDepth 100000 in
set_option maxHeartbeats 800000 in
theorem sealedName_any (k n : UInt64) (lv : Value) (l : List UInt64) (w : World) (hl : RdU w lv l) (hL : l.length ≤ 1000000000000) :
    Calls Tryz.prog 183 #[uv k, uv n, lv] w fun e w' => e = .returned (.string (keyS [k, n] l)) ∧ Ext w w' := by
  have HL := hid hl
  have HLL := hid hL
  clear hl hL
  go_enter Tryz.func183, Tryz.ntmps183
  go_wp2_with fail
  have hx := (Ext.refl w).alloc (.cells #[uv k, uv n] 22)
  have hr : RdU (w.alloc (.cells #[uv k, uv n] 22)) (.slice (some ⟨w.heap.size, 0, none⟩) 2 2) [k, n] := (RdC.block (heap_new w (.cells #[uv k, uv n] 22)) (n := 2) (by unfold maxLen; omega)).rdu rfl
  refine (key_any _ _ l [k, n] _ (HL.out.ext hx) hr HLL.out (by simp)).mono ?_
  rintro e w1 ⟨rfl, hx1⟩
  have HX := hid (hx.trans hx1)
  clear hx hr hx1
  go_wp2_with fail
  go_ret
  exact ⟨rfl, HX.out⟩
def OpenO (w : World) (M : Orc) (key nonce : UInt64) (l : List UInt64) (e : Ending) (w' : World) : Prop :=
  ∃ v, e = .returned (.tuple #[v, .bool (findS M.seals key nonce l).isSome]) ∧ OwnU w' v (((findS M.seals key nonce l).map (·.plain)).getD []) ∧ Ext w w' ∧ ∀ k, blk v = some k → w.heap.size ≤ k
set_option maxRecDepth 100000 in
set_option maxHeartbeats 1600000 in
theorem Open_ideal {w : World} {b : Nat} {M : Orc} {F : Nat → Prop} {key nonce : UInt64} {lv : Value} {l : List UInt64} (h : OrcAt w b M F) (hI : M.ideal = true) (hl : RdU w lv l) (hL : l.length ≤ 1000000000000)
    (hP : ∀ s ∈ M.seals, s.plain.length ≤ 1000000000000) :
    Calls Tryz.prog 165 #[.pointer (some ⟨b, 0, none⟩), uv key, uv nonce, lv] w (OpenO w M key nonce l) := by
  obtain ⟨qv, mk, ms, mp, Q, S, hin⟩ := h
  have hself := hin.self
  rw [hI] at hself
  obtain ⟨c0, -, -, -, -, c5, -⟩ := self_cells hself
  have hlk : ∀ v, Ext w v → (Instr.lookup 119 (.map (some ms)) (.string (keyS [key, nonce] l)) true).run Tryz.prog v = .ok (.tuple #[(assoc (sealL S) (keyS [key, nonce] l)).getD (.slice none 0 0), .bool (assoc (sealL S) (keyS [key, nonce] l)).isSome]) v := fun v k =>
    run_lookup (P := Tryz.prog) keyStr v 119 9 57 (.slice none 0 0) (by kernel_rfl) (by kernel_rfl) (zero_us v) ms _ (hin.ext k).seals (keyS [key, nonce] l)
  have H5 : Hid (∀ v, Ext w v → v.cell? ⟨b, 5, none⟩ = some (.map (some ms))) := hid fun v k => k.cell_some c5
  have HL := hid hl
  have HLL := hid hL
  have hpl : ∃ pv pl, (assoc (sealL S) (keyS [key, nonce] l)).getD (.slice none 0 0) = pv ∧ (assoc (sealL S) (keyS [key, nonce] l)).isSome = (findS M.seals key nonce l).isSome ∧ RdU w pv pl ∧ pl = ((findS M.seals key nonce l).map (·.plain)).getD [] ∧ pl.length ≤ 1000000000000 := by
    have hf := find_fst S key nonce l
    rw [hin.ss] at hf
    rw [assoc_sealL, ← hf]
    cases hx : S.find? (fun x => isSeal x.1 key nonce l) with
    | none => exact ⟨_, [], rfl, rfl, (RdC.nil w).rdu rfl, rfl, by simp⟩
    | some x =>
      have hm := List.mem_of_find?_eq_some hx
      exact ⟨_, x.1.plain, rfl, rfl, (hin.plains x hm).1.rdu, rfl, hP x.1 (by rw [← hin.ss]; exact List.mem_map.2 ⟨x, hm, rfl⟩)⟩
  obtain ⟨pv, pl, h1, h2, h3, h4, h5⟩ := hpl
  rw [h1, h2] at hlk
  have HLK := hid hlk
  have HP3 := hid h3
  have HP4 := hid h4
  have HP5 := hid h5
  clear hlk c5 hl hL hP hin hself h1 h2 h3 h4 h5 hI
  obtain ⟨fnd, hfnd⟩ : ∃ fnd, fnd = (findS M.seals key nonce l).isSome := ⟨_, rfl⟩
  rw [← hfnd] at HLK
  have HF := hid hfnd
  clear hfnd
  go_enter Tryz.func165, Tryz.ntmps165
  go_wp2_with fail
  refine wp_region_T (fun v => v.cell? ⟨b, 5, none⟩ = some (.map (some ms)) ∧ Ext w v) 13 [(0, true), (1, true), (2, true), (3, true), (4, true), (5, true), (6, true), (7, false), (8, true), (9, true), (10, true), (11, true), (12, true), (13, false)] (by kernel_rfl) (by kernel_rfl) (by intro c a d v w h; cases d <;> exact h) ?_
  intro ops hops
  have HS : _ ∧ Ext w w.drew := ⟨H5.out _ (Ext.refl w).drew, (Ext.refl w).drew⟩
  iterate 7
    refine wpT_take (v := ?_) (by rw [hops, List.getElem?_toArray]; rfl) (by first | rfl | (rw [hops]; rfl)) ?_ HS ?_
    rotate_left
    · intro v h; go_simp; with_reducible rfl
    simp only [Act.put, List.getElem_toArray, List.getElem_cons_zero, List.getElem_cons_succ, List.setIfInBounds_toArray, List.set_cons_zero, List.set_cons_succ]
  refine wpT_step (by rw [hops, List.getElem?_toArray]; rfl) (by first | rfl | (rw [hops]; rfl)) ?_
  intro K hK
  go_wp2_with fail
  refine (sealedName_any key nonce lv l _ (HL.out.ext (Ext.refl w).drew) HLL.out).mono ?_
  rintro e w1 ⟨rfl, hx1⟩
  have hx1' := (Ext.refl w).drew.trans hx1
  have HX1 := hid hx1'
  have HS1 : _ ∧ Ext w w1 := ⟨H5.out _ hx1', hx1'⟩
  clear hx1 hx1' HS
  refine hK _ _ ⟨fun _ => HS1, ?_⟩
  clear hK K
  refine wpT_take (v := .tuple #[pv, .bool fnd]) (by rw [hops, List.getElem?_toArray]; rfl) (by first | rfl | (rw [hops]; rfl)) ?_ HS1 ?_
  · intro v h; go_simp; (rw [HLK.out _ h.2]; rfl)
  simp only [Act.put, List.getElem_toArray, List.getElem_cons_zero, List.getElem_cons_succ, List.setIfInBounds_toArray, List.set_cons_zero, List.set_cons_succ]
  iterate 4
    refine wpT_take (v := ?_) (by rw [hops, List.getElem?_toArray]; rfl) (by first | rfl | (rw [hops]; rfl)) ?_ HS1 ?_
    rotate_left
    · intro v h; go_simp; with_reducible rfl
    simp only [Act.put, List.getElem_toArray, List.getElem_cons_zero, List.getElem_cons_succ, List.setIfInBounds_toArray, List.set_cons_zero, List.set_cons_succ]
  refine wpT_step (by rw [hops, List.getElem?_toArray]; rfl) (by first | rfl | (rw [hops]; rfl)) ?_
  intro K hK
  go_wp2_with fail
  refine ⟨fun h => absurd h (by decide), ?_⟩
  rw [wpT_nil]
  clear hops ops
  clear HS1 c0
  go_wp2_with fail
  refine (copied_any pv pl _ (HP3.out.ext HX1.out) HP5.out).mono ?_
  rintro e w2 ⟨v, rfl, hown, hx2, hnb⟩
  obtain ⟨va, vc, rfl, -⟩ := ownsRow_rd hown
  have HOWN := hid hown
  have HX2 := hid (HX1.out.trans hx2)
  have HNB : Hid (∀ k, blk (.slice va pl.length vc) = some k → w.heap.size ≤ k) := hid fun k hk => Nat.le_trans HX1.out.size (hnb k hk)
  clear hown hx2 hnb
  go_wp2_with fail
  exact bodyPost_ret (v := .tuple #[.slice va pl.length vc, .bool fnd]) (by simp [results, Tryz.results165, go_sem]) rfl ⟨_, by rw [← HF.out], by rw [← HP4.out]; exact HOWN.out, HX2.out, HNB.out⟩
end Go.Proofs.YtcikjcjfcanloaaGreat
namespace Go.Proofs.YtcikjcjfcanloaaGreat
open Go.RowKit
attribute [local irreducible] perm fAdd fMul fPow fSub fNeg fRed drawOf nextState
end Go.Proofs.YtcikjcjfcanloaaGreat
