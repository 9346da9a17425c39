/- EnvelopeTry returns true: the walk. -/
import Derived.Test.YtgfmjfkdogcnhaaGreatRefTry
import Derived.Test.YtgfmjfkdogcnhaaGreatEnvSealed
import Derived.Test.YtgfmjfkdogcnhaaGreatFind
import Derived.Test.YtgfmjfkdogcnhaaGreatAllocs
set_option linter.unusedSimpArgs false
namespace Go.Proofs.YtgfmjfkdogcnhaaGreat
open Go.RowKit
attribute [local irreducible] perm fAdd fMul fPow fSub fNeg fRed hashU drawOf nextState cipSeal
theorem oCells_at (O : List Ot) (i : Nat) {x : Ot} (h : O[i]? = some x) : (oCells O)[i * 4]? = some (.int .u64 0) ∧ (oCells O)[i * 4 + 1]? = some (uv x.1.a) ∧ (oCells O)[i * 4 + 2]? = some (uv x.1.b) ∧ (oCells O)[i * 4 + 3]? = some x.2.2 := by
  induction O generalizing i with
  | nil => simp at h
  | cons y r ih =>
    have hc : oCells (y :: r) = .int .u64 0 :: uv y.1.a :: uv y.1.b :: y.2.2 :: oCells r := by simp [oCells]
    rw [hc]
    cases i with
    | zero => simp at h; subst h; exact ⟨rfl, rfl, rfl, rfl⟩
    | succ i =>
      have := ih i (by simpa using h)
      rw [show (i + 1) * 4 = i * 4 + 1 + 1 + 1 + 1 by omega]
      simpa using this
theorem outs_at {w : World} {oa : Addr} {n oc : Nat} {O : List Ot} (h : w.ownsRow 0 28 4 (.slice (some oa) n oc) n (oCells O)) {i : Nat} {x : Ot} (hx : O[i]? = some x) :
    ∃ b o, oa = ⟨b, o, none⟩ ∧ w.cell? ⟨b, o + i * 4, none⟩ = some (.int .u64 0) ∧ w.cell? ⟨b, o + i * 4 + 1, none⟩ = some (uv x.1.a) ∧ w.cell? ⟨b, o + i * 4 + 2, none⟩ = some (uv x.1.b) ∧ w.cell? ⟨b, o + i * 4 + 3, none⟩ = some x.2.2 := by
  obtain ⟨a, c, he, -, -, -, h4⟩ := ownsRow_rd h
  injection he with e1 e2 e3
  subst e1 e3
  obtain ⟨hs, hc⟩ := h4 oa rfl
  obtain ⟨b, o, s⟩ := oa
  simp only at hs
  subst hs
  obtain ⟨c0, c1, c2, c3⟩ := oCells_at O i hx
  exact ⟨b, o, rfl, hc _ _ c0, by have := hc _ _ c1; rwa [← Nat.add_assoc] at this, by have := hc _ _ c2; rwa [← Nat.add_assoc] at this, by have := hc _ _ c3; rwa [← Nat.add_assoc] at this⟩
/-! ## plain: a fresh oracle asked once -/
def askM (ideal : Bool) (st : UInt64) (n : Nt) : Orc := if ideal then (Orc.fresh true st).step.add 2 n.list (drawOf st) else (Orc.fresh false st).add 2 n.list (hashU 2 n.list)
def askA (ideal : Bool) (st : UInt64) (n : Nt) : UInt64 := if ideal then drawOf st else hashU 2 n.list
def askR (ideal : Bool) (st : UInt64) (n : Nt) : Orc := { (Orc.fresh true st).step.add 2 n.list (drawOf st) with ideal := ideal }
theorem fresh_commit (ideal : Bool) (st : UInt64) {n : Nt} (hn : n.ok = true) : (Orc.fresh ideal st).commit n = (askA ideal st n, askM ideal st n) := by
  unfold Orc.commit Orc.hash askA askM
  rw [hn, Nt.ok_all hn]
  simp only [if_true]
  rw [show findQ (Orc.fresh ideal st).qs 2 n.list = none from rfl]
  simp only
  rw [show (Orc.fresh ideal st).ideal = ideal from rfl, show (Orc.fresh ideal st).state = st from rfl]
  cases ideal <;> simp only [if_true, Bool.false_eq_true, if_false]
theorem fresh_hash (st : UInt64) {n : Nt} (hn : n.ok = true) : (Orc.fresh true st).hash 2 n.list = (drawOf st, (Orc.fresh true st).step.add 2 n.list (drawOf st)) := by
  have h := fresh_commit true st hn
  unfold Orc.commit askA askM at h
  rw [hn] at h
  simpa using h
theorem askM_qs (ideal : Bool) (st : UInt64) (n : Nt) : (askM ideal st n).qs = [⟨2, n.list, askA ideal st n⟩] := by
  unfold askM askA; cases ideal <;> simp only [if_true, Bool.false_eq_true, if_false] <;> rfl
theorem askM_seals (ideal : Bool) (st : UInt64) (n : Nt) : (askM ideal st n).seals = [] := by
  unfold askM; cases ideal <;> simp only [if_true, Bool.false_eq_true, if_false] <;> rfl
theorem askM_ideal (ideal : Bool) (st : UInt64) (n : Nt) : (askM ideal st n).ideal = ideal := by
  unfold askM; cases ideal <;> simp only [if_true, Bool.false_eq_true, if_false] <;> rfl
theorem askM_draws (ideal : Bool) (st : UInt64) (n : Nt) : (askM ideal st n).draws ≤ 1 := by
  unfold askM; cases ideal <;> simp only [if_true, Bool.false_eq_true, if_false]
  · exact Nat.zero_le _
  · exact Nat.le_refl _
theorem askR_qs (ideal : Bool) (st : UInt64) (n : Nt) : (askR ideal st n).qs = [⟨2, n.list, drawOf st⟩] := rfl
theorem askR_rel (ideal : Bool) (st : UInt64) (n : Nt) : Rel2 (askM ideal st n) (askR ideal st n) := by
  refine ⟨(askM_ideal ideal st n).symm ▸ rfl, fun h => ?_⟩
  rw [askM_ideal] at h
  subst h
  exact Rel.refl _
theorem askK (ideal : Bool) (st : UInt64) {n : Nt} (hn : n.ok = true) : commitK (askM ideal st n) n = (askA ideal st n, true) := by
  unfold commitK Orc.peek
  rw [hn, Nt.ok_all hn, askM_qs]
  have hf : findQ [⟨2, n.list, askA ideal st n⟩] 2 n.list = some 0 := by unfold findQ; simp
  rw [hf]
  rfl
theorem stMc_fresh (G : Nat → Prop) (w : World) (st : UInt64) : StMc G w (.slice none 0 0) (.slice none 0 0) (.slice none 0 0) (Orc.fresh true st) :=
  ⟨⟨[], rfl, fun w' _ => ⟨RdC.nil w', fun x hx => by cases hx⟩⟩, fun w' _ => RdSc.nil w', ⟨_, _, _, rfl⟩⟩
/-! ## the model asked while a block is laid down -/
abbrev Zmd : Obj := .cells #[.int .u64 0, .int .i64 0, .slice none 0 0, .slice none 0 0, .slice none 0 0] 36
def CH35 (wr : World) (r : UInt64 × Orc) (rm : Value) : CB := fun b1 x v => Ext wr v ∧ (b1 = true → zF wr (fun _ => False) Zmd x v) ∧
  ∃ qv sv pv u0 L, rm = .tuple #[uv r.1, mVal r.2.state r.2.draws qv sv pv] ∧ Ext u0 v ∧ StMc (fun k => k < L) u0 qv sv pv r.2 ∧ L ≤ u0.heap.size ∧ wr.heap.size ≤ L ∧ (b1 = true → ∃ g, x = .pointer (some ⟨g, 0, none⟩) ∧ (g < L ∨ u0.heap.size ≤ g))
theorem CH35.grows {wr : World} {r : UInt64 × Orc} {rm : Value} {S : World → Prop} (hS : ∀ v, Ext wr v → S v) : CB.Grows S Zmd (CH35 wr r rm) where
  s := fun _ _ _ h => hS _ h.1
  g1 := fun x w h => by
    obtain ⟨h1, h2, qv, sv, pv, u0, L, h3, h4, h5, h6, h7, h8⟩ := h
    exact ⟨h1.alloc _, fun _ => zF.new h1.size fun k hk => hk.elim, qv, sv, pv, u0, L, h3, h4.alloc _, h5, h6, h7, fun _ => ⟨w.heap.size, rfl, .inr h4.size⟩⟩
theorem five_cells35 {w : World} {b : Nat} {c0 c1 c2 c3 c4 : Value} {T : TypeId} (h : w.heap[b]? = some (.cells #[c0, c1, c2, c3, c4] T (0, 0))) :
    w.cell? ⟨b, 0, none⟩ = some c0 ∧ w.cell? ⟨b, 1, none⟩ = some c1 ∧ w.cell? ⟨b, 2, none⟩ = some c2 ∧ w.cell? ⟨b, 3, none⟩ = some c3 ∧ w.cell? ⟨b, 4, none⟩ = some c4 :=
  ⟨cell_of h 0, cell_of h 1, cell_of h 2, cell_of h 3, cell_of h 4⟩
theorem one_rdp (v : World) (x : Pc) : RdP (v.alloc (.cells #[.int .i64 x.num, uv x.owner, uv x.a.a, uv x.a.b, uv x.n.value, uv x.n.owner, uv x.n.rho, uv x.n.blind, uv x.e] 66)) (.slice (some ⟨v.heap.size, 0, none⟩) 1 1) [x] := by
  refine ⟨some ⟨v.heap.size, 0, none⟩, 1, rfl, by simp, by unfold maxLen; omega, (fun h => by cases h), fun ad ha => ?_⟩
  injection ha with ha
  subst ha
  refine ⟨rfl, fun i y hy j u hu => ?_⟩
  have hi : i = 0 := by have := (List.getElem?_eq_some_iff.1 hy).1; simp at this; exact this
  subst hi
  simp at hy
  subst hy
  have h := cell_of (heap_new v (.cells #[.int .i64 x.num, uv x.owner, uv x.a.a, uv x.a.b, uv x.n.value, uv x.n.owner, uv x.n.rho, uv x.n.blind, uv x.e] 66)) j
  simp only [Nat.zero_mul, Nat.zero_add]
  rw [h, ← hu]
  simp
theorem rdSc_nil_st {w : World} {v : Value} (h : RdSc w v []) (G : Nat → Prop) (w' : World) : StS G w' v [] := by
  obtain ⟨S, h1, ⟨a, c, h2, h3, h4, h5, h6⟩, -⟩ := h
  have hS : S = [] := by simpa using h1
  subst hS
  exact ⟨[], rfl, fun w'' _ => ⟨⟨a, c, h2, h3, h4, h5, fun ad ha => ⟨(h6 ad ha).1, fun i x hx => by simp [sCells] at hx⟩⟩, fun x hx => by cases hx⟩⟩
theorem commitK_congr {M N : Orc} (hq : N.qs = M.qs) (hi : N.ideal = M.ideal) (n : Nt) : commitK N n = commitK M n := by
  unfold commitK Orc.peek
  rw [hq, hi]
/-- What the asking of the note's commitment leaves. -/
structure AskSt (ideal ask : Bool) (g0 : UInt64) (n : Nt) (b R : Nat) (F : Nat → Prop) (wX wc : World) (M MR : Orc) (F' : Nat → Prop) (qa sa pa : Option Addr) (qc sc pn pc : Nat) (cm : UInt64) : Prop where
  at' : OrcAt wc b M F'
  new : ∀ k, F' k → F k ∨ wX.heap.size ≤ k
  kp : Kp (fun k => F k ∨ k = R) wX wc
  box : wc.heap[R]? = some (.cells #[.bool ideal, uv MR.state, .int .i64 (MR.draws : Int), .slice qa MR.qs.length qc, .slice sa 0 sc, .slice pa pn pc] 38 (0, 0))
  st : StMc (fun k => F' k ∨ k < wX.heap.size) wc (.slice qa MR.qs.length qc) (.slice sa 0 sc) (.slice pa pn pc) MR
  rel : Rel2 M MR
  ss : M.seals = [] ∧ MR.seals = []
  dr : M.draws ≤ 1000 ∧ MR.draws ≤ 1000
  idl : M.ideal = ideal
  ql : M.qs.length ≤ 1000 ∧ MR.qs.length ≤ 1000
  qe : ∀ q ∈ MR.qs, q.elems.length ≤ 1000
  qi : ideal = true → M.qs = MR.qs
  qr : ideal = false → ∀ q ∈ M.qs, q.answer = hashU q.label q.elems
  ok : ask = true → commitK M n = (cm, true)
  no : ask = false → cm = g0
def AskR (ideal ask : Bool) (g0 : UInt64) (n : Nt) (b R : Nat) (F : Nat → Prop) (wX : World) (cv : Value) (wc : World) : Prop :=
  ∃ (M MR : Orc) (F' : Nat → Prop) (qa sa pa : Option Addr) (qc sc pn pc : Nat) (cm : UInt64), cv = uv cm ∧ Hid (AskSt ideal ask g0 n b R F wX wc M MR F' qa sa pa qc sc pn pc cm)
set_option maxRecDepth 100000 in
set_option maxHeartbeats 25600000 in
theorem EnvelopeTry_any {w : World} {ideal ask : Bool} {seed sd ex g0 g1 g2 nva now' nrh nbl : UInt64} {num : Int} :
    Calls Tryz.prog 4 #[.agg #[uv seed, .bool ideal], .agg #[uv sd, .int .i64 num, uv nva, uv now', uv nrh, uv nbl, uv ex, .bool ask], .agg #[uv g0, uv g1, uv g2]] w fun e w' => e = .returned (.bool true) ∧ Ext w w' := by
  obtain ⟨n, hn⟩ : ∃ n : Nt, n = ⟨nva, kOwner (kSpend sd) num, nrh, nbl⟩ := ⟨_, rfl⟩
  obtain ⟨N, hN⟩ : ∃ N, N = w.heap.size := ⟨_, rfl⟩
  obtain ⟨w0, hw0⟩ : ∃ w0, w0 = ((w.alloc (.cells #[uv seed, .bool ideal] 24)).alloc (.cells #[uv sd, .int .i64 num, uv nva, uv now', uv nrh, uv nbl, uv ex, .bool ask] 49)).alloc (.cells #[uv g0, uv g1, uv g2] 29) := ⟨_, rfl⟩
  obtain ⟨a0, s0, x0⟩ := alloc_step w (.cells #[uv seed, .bool ideal] 24) hN.symm
  obtain ⟨a1, s1, x1⟩ := alloc_step (w.alloc (.cells #[uv seed, .bool ideal] 24)) (.cells #[uv sd, .int .i64 num, uv nva, uv now', uv nrh, uv nbl, uv ex, .bool ask] 49) s0
  obtain ⟨a2, s2, x2⟩ := alloc_step ((w.alloc (.cells #[uv seed, .bool ideal] 24)).alloc (.cells #[uv sd, .int .i64 num, uv nva, uv now', uv nrh, uv nbl, uv ex, .bool ask] 49)) (.cells #[uv g0, uv g1, uv g2] 29) s1
  have hx0 := (x0.trans x1).trans x2
  have hb0 := x2.heap_some (x1.heap_some a0)
  have hb1 := x2.heap_some a1
  rw [← hw0] at hx0 hb0 hb1 a2 s2
  have HW := hid hw0
  have HX0 := hid hx0
  have HB0 := hid hb0
  have HB1 := hid hb1
  have HB2 := hid a2
  have HS2 := hid s2
  have HNN := hid hN
  have HA := hid awake35_any
  have HADR := hid (rkAddress_any sd num)
  have hfn := findNote_any sd num ⟨nva, now', nrh, nbl⟩ ex ask
  simp only at hfn
  have HFN := hid hfn
  clear hfn
  rw [show uv (kOwner (kSpend sd) num) = uv n.owner by rw [hn]] at HFN
  have HNV := hid (refValid_any n)
  have HNE : Hid (n.value = nva ∧ n.rho = nrh ∧ n.blind = nbl ∧ n.owner = kOwner (kSpend sd) num) := hid (by rw [hn]; exact ⟨rfl, rfl, rfl, rfl⟩)
  unfold nv at HNV
  rw [show n.value = nva by rw [hn], show n.rho = nrh by rw [hn], show n.blind = nbl by rw [hn]] at HNV
  have H8 : Hid (∀ v, Ext w0 v → (v.cell? ⟨N + 1, 0, none⟩ = some (uv sd) ∧ v.cell? ⟨N + 1, 1, none⟩ = some (.int .i64 num) ∧ v.cell? ⟨N + 1, 2, none⟩ = some (uv nva) ∧ v.cell? ⟨N + 1, 3, none⟩ = some (uv now') ∧ v.cell? ⟨N + 1, 4, none⟩ = some (uv nrh) ∧ v.cell? ⟨N + 1, 5, none⟩ = some (uv nbl) ∧ v.cell? ⟨N + 1, 6, none⟩ = some (uv ex) ∧ v.cell? ⟨N + 1, 7, none⟩ = some (.bool ask))) := hid fun v k => by
    have h := k.heap_some hb1
    exact ⟨cell_of h 0, cell_of h 1, cell_of h 2, cell_of h 3, cell_of h 4, cell_of h 5, cell_of h 6, cell_of h 7⟩
  clear hw0 hx0 hb0 hb1 a0 a1 a2 s0 s1 s2 x0 x1 x2 hn
  unfold adrV at HADR
  obtain ⟨isn, hisn⟩ : ∃ isn, isn = isNumK num := ⟨_, rfl⟩
  rw [← hisn] at HADR
  go_enter Tryz.func4, Tryz.ntmps4
  go_upto_region 1 with fail
  rw [← HW.out, ← hN]
  clear hN
  obtain ⟨c0, c1, c2, c3, c4, c5, c6, c7⟩ := H8.out w0 (Ext.refl _)
  have HISN := hid hisn
  clear hisn
  cases isn with
  | false =>
    simp only [Bool.false_eq_true, if_false] at HADR
    go_wp2_with fail
    refine (HADR.out _).mono ?_
    rintro e w1 ⟨rfl, hx⟩
    obtain ⟨c0, c1, c2, c3, c4, c5, c6, c7⟩ := H8.out _ (hx.alloc (.cells #[.int .i64 0, .int .u64 0, .int .u64 0, .int .u64 0] 51))
    have HX1 := hid (hx.alloc (.cells #[.int .i64 0, .int .u64 0, .int .u64 0, .int .u64 0] 51))
    clear hx
    go_wp2_with fail
    refine (HFN.out _).mono ?_
    rintro e w2 ⟨rfl, hx⟩
    have HX2 := hid ((HX1.out.trans hx).alloc (.cells #[uv nva, uv n.owner, uv nrh, uv nbl] 42))
    clear hx c0 c1 c2 c3 c4 c5 c6 c7
    go_wp2_with fail
    refine (HA.out _).mono ?_
    rintro e w3 ⟨rfl, hx⟩
    have HX3 := hid (HX2.out.trans hx)
    clear hx
    go_wp2_with fail
    refine (HA.out _).mono ?_
    rintro e w4 ⟨rfl, hx⟩
    have HX4 := hid (HX0.out.trans (HX3.out.trans hx))
    clear hx
    go_wp2_with fail
    go_ret
    exact ⟨rfl, HX4.out⟩
  | true =>
    simp only [if_true] at HADR
    obtain ⟨adr, hadr⟩ : ∃ adr : E2, adr = pPublic (kView sd num) := ⟨_, rfl⟩
    obtain ⟨own, hown⟩ : ∃ own, own = kOwner (kSpend sd) num := ⟨_, rfl⟩
    rw [← hadr, ← hown] at HADR
    have HADE := hid (And.intro hadr hown)
    clear hadr hown
    go_wp2_with fail
    refine (HADR.out _).mono ?_
    rintro e w1 ⟨rfl, hx⟩
    go_upto_region 2 with fail
    obtain ⟨A, hA'⟩ : ∃ A, A = w1.heap.size := ⟨_, rfl⟩
    obtain ⟨w2, hw2⟩ : ∃ w2, w2 = w1.alloc (.cells #[.int .i64 num, uv own, uv adr.a, uv adr.b] 51) := ⟨_, rfl⟩
    have hx2 : Ext w0 w2 := by rw [hw2]; exact hx.alloc _
    have hb2 : w2.heap[A]? = some (.cells #[.int .i64 num, uv own, uv adr.a, uv adr.b] 51 (0, 0)) := by rw [hw2, hA']; exact heap_new _ _
    rw [← hw2, ← hA']
    have HX2 := hid hx2
    have HBA := hid hb2
    clear hx hx2 hb2 hw2 hA' HADR c0 c1 c2 c3 c4 c5 c6 c7
    obtain ⟨c0, c1, c2, c3, c4, c5, c6, c7⟩ := H8.out _ HX2.out
    go_wp2_with fail
    refine (HFN.out _).mono ?_
    rintro e w3 ⟨rfl, hx⟩
    go_upto_region 3 with fail
    obtain ⟨B, hB'⟩ : ∃ B, B = w3.heap.size := ⟨_, rfl⟩
    obtain ⟨w4, hw4⟩ : ∃ w4, w4 = w3.alloc (.cells #[uv nva, uv n.owner, uv nrh, uv nbl] 42) := ⟨_, rfl⟩
    have hx4 : Ext w2 w4 := by rw [hw4]; exact hx.alloc _
    have hb4 : w4.heap[B]? = some (.cells #[uv nva, uv n.owner, uv nrh, uv nbl] 42 (0, 0)) := by rw [hw4, hB']; exact heap_new _ _
    rw [← hw4, ← hB']
    have HX4 := hid hx4
    have HBB := hid hb4
    clear hx hx4 hb4 hw4 hB' HFN c0 c1 c2 c3 c4 c5 c6 c7
    go_wp2_with fail
    refine (HA.out _).mono ?_
    rintro e w5 ⟨rfl, hx⟩
    have HX5 := hid (HX4.out.trans hx)
    obtain ⟨q0, q1, q2, q3⟩ := four_cells (hx.heap_some HBB.out)
    have HBB5 := hid (hx.heap_some HBB.out)
    clear hx
    go_wp2_with fail
    refine (HNV.out _).mono ?_
    rintro e w6 ⟨rfl, hx⟩
    have HX6 := hid ((HX2.out.trans HX5.out).trans hx)
    have HX26 := hid (HX5.out.trans hx)
    have HBB6 := hid (hx.heap_some HBB5.out)
    clear hx q0 q1 q2 q3 HBB5 HNV
    cases hok : n.ok with
    | false =>
      clear hok
      go_wp2_with fail
      refine (HA.out _).mono ?_
      rintro e w7 ⟨rfl, hx⟩
      have HX7 := hid (HX0.out.trans (HX6.out.trans hx))
      clear hx
      go_wp2_with fail
      go_ret
      exact ⟨rfl, HX7.out⟩
    | true =>
      have HOK := hid hok
      clear hok HA
      obtain ⟨d0, d1⟩ := two_cells (HX6.out.heap_some HB0.out)
      go_wp2_with fail
      refine (oracles_any ideal seed _).mono ?_
      rintro e w7 ⟨b, F, rfl, hat, hx, hF⟩
      generalize stP ideal seed = st at *
      go_upto_region 6 with fail
      obtain ⟨R, hR⟩ : ∃ R, R = w7.heap.size := ⟨_, rfl⟩
      obtain ⟨w8, hw8⟩ : ∃ w8, w8 = w7.alloc (.cells #[.bool ideal, uv st, .int .i64 0, .slice none 0 0, .slice none 0 0, .slice none 0 0] 38) := ⟨_, rfl⟩
      have hx8 : Ext w7 w8 := by rw [hw8]; exact (Ext.refl w7).alloc _
      have hb8 : w8.heap[R]? = some (.cells #[.bool ideal, uv st, .int .i64 0, .slice none 0 0, .slice none 0 0, .slice none 0 0] 38 (0, 0)) := by rw [hw8, hR]; exact heap_new _ _
      rw [← hw8, ← hR]
      have HAT := hid (hat.ext hx8)
      have HFF : Hid (∀ k, F k → w6.heap.size ≤ k ∧ k < R) := hid fun k hk => ⟨hF k hk, by rw [hR]; exact hat.foot_lt k hk⟩
      have hx68 := hx.trans hx8
      have HX68 := hid hx68
      have HBR := hid hb8
      have HRS : Hid (w6.heap.size ≤ R ∧ R < w8.heap.size) := hid ⟨by rw [hR]; exact hx.size, heap_lt hb8⟩
      clear hw8 hx8 hb8 hR hat hF hx hx68 d0 d1
      -- what stays as long as only the oracle and the model's box turn
      have HST : Hid (∀ v, Kp (fun k => F k ∨ k = R) w8 v → v.heap[N + 1]? = some (.cells #[uv sd, .int .i64 num, uv nva, uv now', uv nrh, uv nbl, uv ex, .bool ask] 49 (0, 0)) ∧ v.heap[N + 1 + 1]? = some (.cells #[uv g0, uv g1, uv g2] 29 (0, 0)) ∧ v.heap[A]? = some (.cells #[.int .i64 num, uv own, uv adr.a, uv adr.b] 51 (0, 0)) ∧ v.heap[B]? = some (.cells #[uv nva, uv n.owner, uv nrh, uv nbl] 42 (0, 0))) := hid fun v k => by
        have hn : ∀ {i : Nat} {o : Obj}, w6.heap[i]? = some o → v.heap[i]? = some o := fun {i o} h => by
          have hi := heap_lt h
          refine k.heap_some (fun h' => ?_) (HX68.out.heap_some h)
          have := HRS.out
          rcases h' with h' | h'
          · have := HFF.out i h'; omega
          · omega
        exact ⟨hn (HX6.out.heap_some HB1.out), hn (HX6.out.heap_some HB2.out), hn (HX26.out.heap_some HBA.out), hn HBB6.out⟩
      obtain ⟨hf, hg, -, -⟩ := HST.out w8 (Kp.refl _ _)
      have e0 := cell_of hg 0
      have c7 := cell_of hf 7
      simp only [List.getElem?_toArray, List.getElem?_cons_zero, List.getElem?_cons_succ] at e0 c7
      clear hf hg
      go_upto_if 60 with fail
      go_cut [12] from 28 (fun cv wc => AskR ideal ask g0 n b R F w8 cv wc)
      case first =>
        cases ask with
        | false =>
          go_wp2_with fail
          go_meet
          case rel =>
            refine ⟨Orc.fresh ideal st, Orc.fresh ideal st, F, none, none, none, 0, 0, 0, 0, g0, rfl, hid ?_⟩
            exact {
              at' := HAT.out
              new := fun k h => .inl h
              kp := Kp.refl _ _
              box := HBR.out
              st := ⟨⟨[], rfl, fun w' _ => ⟨RdC.nil w', fun x hx => by cases hx⟩⟩, fun w' _ => RdSc.nil w', ⟨_, _, _, rfl⟩⟩
              rel := ⟨rfl, fun _ => Rel.refl _⟩
              ss := ⟨rfl, rfl⟩
              dr := ⟨Nat.zero_le _, Nat.zero_le _⟩
              idl := rfl
              ql := ⟨Nat.zero_le _, Nat.zero_le _⟩
              qe := fun q hq => by cases hq
              qi := fun _ => rfl
              qr := fun _ q hq => by cases hq
              ok := fun h => by cases h
              no := fun _ => rfl }
        | true =>
          obtain ⟨-, -, -, hb⟩ := HST.out w8 (Kp.refl _ _)
          obtain ⟨b0, b1, b2, b3⟩ := four_cells hb
          have hcm := Commit_any (n := n) HAT.out (by simp [Orc.fresh]) (by simp [Orc.fresh])
          unfold CommitO at hcm
          rw [fresh_commit ideal st HOK.out] at hcm
          unfold nv at hcm
          rw [HNE.out.1, HNE.out.2.1, HNE.out.2.2.1] at hcm
          have HCM := hid hcm
          clear hcm hb
          go_wp2_with fail
          refine (HCM.out).mono ?_
          rintro e v1 ⟨rfl, F1, hto⟩
          simp only at hto ⊢
          have HTO := hid hto
          have hRF : ¬ F R := fun h => by have := (HFF.out R h).2; omega
          have hbR := hto.kp.heap_some hRF HBR.out
          have hk1 : Kp (fun k => F k ∨ k = R) w8 v1 := hto.kp.mono fun k _ h => .inl h
          obtain ⟨-, -, -, hb⟩ := HST.out v1 hk1
          have HSV : Hid (∀ v, Ext v1 v → ((v.cell? ⟨R, 1, none⟩ = some (uv st) ∧ v.cell? ⟨R, 2, none⟩ = some (.int .i64 0) ∧ v.cell? ⟨R, 3, none⟩ = some (.slice none 0 0) ∧ v.cell? ⟨R, 4, none⟩ = some (.slice none 0 0) ∧ v.cell? ⟨R, 5, none⟩ = some (.slice none 0 0) ∧ v.cell? ⟨B, 0, none⟩ = some (uv nva) ∧ v.cell? ⟨B, 1, none⟩ = some (uv n.owner) ∧ v.cell? ⟨B, 2, none⟩ = some (uv nrh) ∧ v.cell? ⟨B, 3, none⟩ = some (uv nbl)) ∧ Ext v1 v)) := hid fun v k => by
            have h1 := k.heap_some hbR
            have h2 := k.heap_some hb
            exact ⟨⟨cell_of h1 1, cell_of h1 2, cell_of h1 3, cell_of h1 4, cell_of h1 5, cell_of h2 0, cell_of h2 1, cell_of h2 2, cell_of h2 3⟩, k⟩
          have HBR1 := hid hbR
          have HBB1 := hid hb
          have HRF := hid hRF
          have HNL : Hid (∀ v, Calls Tryz.prog 16 #[.agg #[uv nva, uv n.owner, uv nrh, uv nbl]] v (NewL v n.list)) := hid fun v => by
            have h := refNoteE_any n v
            unfold nv at h
            rw [HNE.out.1, HNE.out.2.1, HNE.out.2.2.1] at h
            exact h
          have HFH := hid (fresh_hash st HOK.out)
          have HNLL : Hid (n.list.length = 4) := hid rfl
          have HRC := hid (refCommit_any n)
          rw [HOK.out] at HRC
          unfold nv at HRC
          rw [HNE.out.1, HNE.out.2.1, HNE.out.2.2.1] at HRC
          clear b0 b1 b2 b3 hbR hb hk1 hRF hto HCM
          go_upto_region 11 with fail
          refine wp_region_N (fun v => (v.cell? ⟨R, 1, none⟩ = some (uv st) ∧ v.cell? ⟨R, 2, none⟩ = some (.int .i64 0) ∧ v.cell? ⟨R, 3, none⟩ = some (.slice none 0 0) ∧ v.cell? ⟨R, 4, none⟩ = some (.slice none 0 0) ∧ v.cell? ⟨R, 5, none⟩ = some (.slice none 0 0) ∧ v.cell? ⟨B, 0, none⟩ = some (uv nva) ∧ v.cell? ⟨B, 1, none⟩ = some (uv n.owner) ∧ v.cell? ⟨B, 2, none⟩ = some (uv nrh) ∧ v.cell? ⟨B, 3, none⟩ = some (uv nbl)) ∧ Ext v1 v) 10 11 (by kernel_rfl) (by kernel_rfl) ?_
          intro ops hops
          have HR := HSV.out _ (Ext.refl v1).drew
          refine N_take (i := 0) (v := ?_) (by rw [hops, List.getElem?_toArray]; rfl) (by rw [hops]; kernel_rfl) (by intro c a d v w h; cases d <;> exact h) (by first | rfl | (rw [hops]; rfl)) ?_ HR ?_
          rotate_left
          · intro v h; go_simp; with_reducible rfl
          simp only [Act.put, List.getElem_toArray, List.getElem_cons_zero, List.getElem_cons_succ, List.setIfInBounds_toArray, List.set_cons_zero, List.set_cons_succ]
          refine N_take (i := 1) (v := ?_) (by rw [hops, List.getElem?_toArray]; rfl) (by rw [hops]; kernel_rfl) (by intro c a d v w h; cases d <;> exact h) (by first | rfl | (rw [hops]; rfl)) ?_ HR ?_
          rotate_left
          · intro v h; go_simp; with_reducible rfl
          simp only [Act.put, List.getElem_toArray, List.getElem_cons_zero, List.getElem_cons_succ, List.setIfInBounds_toArray, List.set_cons_zero, List.set_cons_succ]
          refine N_take (i := 2) (v := ?_) (by rw [hops, List.getElem?_toArray]; rfl) (by rw [hops]; kernel_rfl) (by intro c a d v w h; cases d <;> exact h) (by first | rfl | (rw [hops]; rfl)) ?_ HR ?_
          rotate_left
          · intro v h; go_simp; with_reducible rfl
          simp only [Act.put, List.getElem_toArray, List.getElem_cons_zero, List.getElem_cons_succ, List.setIfInBounds_toArray, List.set_cons_zero, List.set_cons_succ]
          have hal : ∀ Q, Alloc1 Tryz.prog ops Q 8 14 Zmd := fun Q => ⟨⟨_, by rw [hops, List.getElem?_toArray]; rfl, fun t => rfl, fun a w K hK => by go_wp2_with fail; exact hK⟩⟩
          have hgr := CG1.grows (Z := Zmd) (w0 := v1) (F := fun _ => False) (S := fun v => (v.cell? ⟨R, 1, none⟩ = some (uv st) ∧ v.cell? ⟨R, 2, none⟩ = some (.int .i64 0) ∧ v.cell? ⟨R, 3, none⟩ = some (.slice none 0 0) ∧ v.cell? ⟨R, 4, none⟩ = some (.slice none 0 0) ∧ v.cell? ⟨R, 5, none⟩ = some (.slice none 0 0) ∧ v.cell? ⟨B, 0, none⟩ = some (uv nva) ∧ v.cell? ⟨B, 1, none⟩ = some (uv n.owner) ∧ v.cell? ⟨B, 2, none⟩ = some (uv nrh) ∧ v.cell? ⟨B, 3, none⟩ = some (uv nbl)) ∧ Ext v1 v) (fun k h => h.elim) (fun v k => HSV.out v (k.toExt (fun _ h => h.elim)))
          refine WB_start (i1 := 8) (d1 := 14) (f := 7) (C := CG1 v1 (fun _ => False) Zmd) undef ⟨(Ext.refl v1).drew, fun h => by cases h⟩ (by rfl) (by rfl) (by rfl) ?_
          refine WB_call (hal _) hgr (c := 3) (fun v => CLB (fun u => ∃ a c, v = .slice a n.list.length c ∧ RdU u v n.list) (CG1 v1 (fun _ => False) Zmd)) (by rw [hops]; kernel_rfl) (by rw [hops, List.getElem?_toArray]; rfl) rfl (fun t => rfl) (by decide) (fun v b1 x w' h => hgr.s _ _ _ h.2) ?_ ?_
          · intro b1 x1 v hC K hK
            simp only [Act.put, List.setIfInBounds_toArray, List.set_cons_zero, List.set_cons_succ]
            go_wp2_with fail
            refine (HNL.out v).mono ?_
            rintro e v' ⟨u, rfl, hr, hx, -⟩
            obtain ⟨ua, uc, rfl, -⟩ := id hr
            exact hK _ _ ⟨⟨ua, uc, rfl, hr⟩, hC.ext hx⟩ _ (by simp only [Act.put, List.setIfInBounds_toArray, List.set_cons_zero, List.set_cons_succ] <;> rfl)
          intro v68
          simp only [Act.put, List.setIfInBounds_toArray, List.set_cons_zero, List.set_cons_succ]
          have hgr2 := CLB.grows (p := fun u => ∃ a c, v68 = .slice a n.list.length c ∧ RdU u v68 n.list) hgr (fun _ _ ⟨a, c, h1, h2⟩ k => ⟨a, c, h1, h2.ext k⟩)
          have hgr3 := fun (rm : Value) => CH35.grows (wr := v1) (r := (Orc.fresh true st).hash 2 n.list) (rm := rm) (S := fun v => (v.cell? ⟨R, 1, none⟩ = some (uv st) ∧ v.cell? ⟨R, 2, none⟩ = some (.int .i64 0) ∧ v.cell? ⟨R, 3, none⟩ = some (.slice none 0 0) ∧ v.cell? ⟨R, 4, none⟩ = some (.slice none 0 0) ∧ v.cell? ⟨R, 5, none⟩ = some (.slice none 0 0) ∧ v.cell? ⟨B, 0, none⟩ = some (uv nva) ∧ v.cell? ⟨B, 1, none⟩ = some (uv n.owner) ∧ v.cell? ⟨B, 2, none⟩ = some (uv nrh) ∧ v.cell? ⟨B, 3, none⟩ = some (uv nbl)) ∧ Ext v1 v) HSV.out
          refine WB_call (hal _) hgr2 (c := 4) (fun v => CH35 v1 ((Orc.fresh true st).hash 2 n.list) v) (by rw [hops]; kernel_rfl) (by rw [hops, List.getElem?_toArray]; rfl) rfl (fun t => rfl) (by decide) (fun v b1 x w' h => (hgr3 v).s _ _ _ h) ?_ ?_
          · rintro b1 x1 v ⟨⟨a, c, rfl, hrd⟩, hC⟩ K hK
            simp only [Act.put, List.setIfInBounds_toArray, List.set_cons_zero, List.set_cons_succ]
            go_wp2_with fail
            refine (rHashM_any (G := fun k => k < v.heap.size) (M := Orc.fresh true st) (label := 2) (stMc_fresh _ v st) (fun k h => h) rfl hrd.weak (by have := HNLL.out; omega) (by simp [Orc.fresh]) (by intro q hq; simp [Orc.fresh] at hq) (by simp [Orc.fresh])).mono ?_
            rintro e v' ⟨qv, sv, pv, rfl, hst, hx⟩
            exact hK _ _ ⟨hC.1.trans hx, fun hb => (hC.2 hb).kp (.of_ext hx) fun _ _ h => h, qv, sv, pv, v', v.heap.size, rfl, Ext.refl _, hst, hx.size, hC.1.size, fun hb => by
              obtain ⟨g, h1, -, -, h2⟩ := hC.2 hb
              exact ⟨g, h1, .inl (heap_lt h2)⟩⟩ _ (by simp only [Act.put, List.setIfInBounds_toArray, List.set_cons_zero, List.set_cons_succ] <;> rfl)
          intro v69
          simp only [Act.put, List.setIfInBounds_toArray, List.set_cons_zero, List.set_cons_succ]
          refine WB_pure (φ := ∃ qa qn qc sa sn sc pa pn pc, v69 = .tuple #[uv ((Orc.fresh true st).hash 2 n.list).1, mVal ((Orc.fresh true st).hash 2 n.list).2.state ((Orc.fresh true st).hash 2 n.list).2.draws (.slice qa qn qc) (.slice sa sn sc) (.slice pa pn pc)]) (fun b1 x1 v h => by
            obtain ⟨-, -, qv3, sv3, pv3, u0, L, rfl, hu1, hu2, -⟩ := h
            obtain ⟨⟨qa3, qn3, qc3, rfl⟩, ⟨sa3, sn3, sc3, rfl⟩, ⟨pa3, pn3, pc3, rfl⟩⟩ := hu2.now.sl
            exact ⟨_, _, _, _, _, _, _, _, _, rfl⟩) ?_
          rintro ⟨qa, qn, qc, sa, sn, sc, pa, pn, pc, rfl⟩
          refine WB_take (i := 5) (v := ?_) (fun _ _ _ h => (hgr3 _).s _ _ _ h) (by rw [hops, List.getElem?_toArray]; rfl) rfl (fun t => rfl) (by decide) (by rw [hops]; kernel_rfl) (by intro c a d v w h; cases d <;> exact h) ?_ ?_
          rotate_left
          · intro x1 v h
            simp only [Act.put, List.setIfInBounds_toArray, List.set_cons_zero, List.set_cons_succ]
            go_simp
            with_reducible rfl
          simp only [Act.put, List.setIfInBounds_toArray, List.set_cons_zero, List.set_cons_succ]
          refine WB_take (i := 6) (v := ?_) (fun _ _ _ h => (hgr3 _).s _ _ _ h) (by rw [hops, List.getElem?_toArray]; rfl) rfl (fun t => rfl) (by decide) (by rw [hops]; kernel_rfl) (by intro c a d v w h; cases d <;> exact h) ?_ ?_
          rotate_left
          · intro x1 v h
            simp only [Act.put, List.setIfInBounds_toArray, List.set_cons_zero, List.set_cons_succ]
            go_simp
            with_reducible rfl
          simp only [Act.put, List.setIfInBounds_toArray, List.set_cons_zero, List.set_cons_succ]
          refine WB_take (i := 7) (v := ?_) (fun _ _ _ h => (hgr3 _).s _ _ _ h) (by rw [hops, List.getElem?_toArray]; rfl) rfl (fun t => rfl) (by decide) (by rw [hops]; kernel_rfl) (by intro c a d v w h; cases d <;> exact h) ?_ ?_
          rotate_left
          · intro x1 v h
            simp only [Act.put, List.setIfInBounds_toArray, List.set_cons_zero, List.set_cons_succ]
            go_simp
            with_reducible rfl
          simp only [Act.put, List.setIfInBounds_toArray, List.set_cons_zero, List.set_cons_succ]
          refine WB_last (hal _) (hgr3 _) (by rw [hops]; kernel_rfl) ?_
          rintro x1 v ⟨hxv, hz, qv3, sv3, pv3, u0, L, hvv, hu1, hu2, hu3, hu6, hu4⟩
          simp only [Value.tuple.injEq, mVal, Value.agg.injEq, Array.mk.injEq, List.cons.injEq, and_true, true_and] at hvv
          obtain ⟨rfl, rfl, rfl⟩ := hvv
          obtain ⟨g, rfl, hg0, -, hgb⟩ := hz rfl
          obtain ⟨g', hgg, hu5⟩ := hu4 rfl
          injection hgg with hgg
          injection hgg with hgg
          injection hgg with hgg
          subst hgg
          simp only [Act.put, List.setIfInBounds_toArray, List.set_cons_zero, List.set_cons_succ]
          rw [HFH.out] at hu2 ⊢
          simp only at hu2 ⊢
          have HS5 := HSV.out v hxv
          refine N_take (i := 9) (v := ?_) (by rw [hops, List.getElem?_toArray]; rfl) (by rw [hops]; kernel_rfl) (by intro c a d v w h; cases d <;> exact h) (by first | rfl | (rw [hops]; rfl)) ?_ HS5 ?_
          rotate_left
          · intro v h; go_simp; with_reducible rfl
          simp only [Act.put, List.getElem_toArray, List.getElem_cons_zero, List.getElem_cons_succ, List.setIfInBounds_toArray, List.set_cons_zero, List.set_cons_succ]
          obtain ⟨k0, k1, k2, k3, k4⟩ := five_cells35 hgb
          have kf := frozen_of hgb
          obtain ⟨hb6, hk6⟩ := five_set (d0 := uv ((Orc.fresh true st).step.add 2 n.list (drawOf st)).state) (d1 := .int .i64 ((((Orc.fresh true st).step.add 2 n.list (drawOf st)).draws : Nat) : Int)) (d2 := .slice qa qn qc) (d3 := .slice sa sn sc) (d4 := .slice pa pn pc) hgb
          have hst6 := (hu2.grow (.of_ext hu1) (G' := fun k => k < v1.heap.size ∨ k = g) (fun k h => by
            rcases h with h | h
            · left; omega
            · rw [h]; exact hu5)).grow (G' := fun k => k < v1.heap.size) (hk6.mono fun k _ h => .inr h) (fun k h => .inl (.inl h))
          have hx6 := hxv.kp hk6 (fun k h => by subst h; exact hg0)
          generalize hmd : (Orc.fresh true st).step.add 2 n.list (drawOf st) = md at *
          refine N_one (i := 10) (by rw [hops, List.getElem?_toArray]; rfl) (by rw [hops]; kernel_rfl) (by first | rfl | (rw [hops]; rfl)) ?_
          intro K hK
          go_wp2_with fail
          refine ⟨by kernel_rfl, ?_⟩
          clear hal hgr hgr2 hgr3 hgb k0 k1 k2 k3 k4 kf hk6 HR HS5 hxv hz hu1 hu2 hu3 hu4 hu5 hu6
          try clear hK K
          clear hops ops
          generalize (((((v.setCell ⟨g, 0, none⟩ (.int .u64 md.state.toNat)).setCell ⟨g, 1, none⟩ (.int .i64 (md.draws : Int))).setCell ⟨g, 2, none⟩ (.slice qa qn qc)).setCell ⟨g, 3, none⟩ (.slice sa sn sc)).setCell ⟨g, 4, none⟩ (.slice pa pn pc)) = v5 at *
          have hqn : qn = 1 := by
            obtain ⟨Q, h1, ⟨a, c, h2, -⟩, -⟩ := hst6.now.qs
            have h3 : md.qs = [⟨2, n.list, drawOf st⟩] := by rw [← hmd]; rfl
            have h4 := congrArg List.length h1
            rw [h3, List.length_map] at h4
            injection h2 with _ h5 _
            rw [h5, h4]; rfl
          have hsn : sn = 0 := by
            obtain ⟨a, c, h⟩ := hst6.now.ss.len
            have h3 : md.seals = [] := by rw [← hmd]; rfl
            rw [h3] at h
            injection h
          subst hqn hsn
          have hR5 := hx6.heap_some HBR1.out
          obtain ⟨r0, r1, r2, r3, r4, r5⟩ := six_cellsP hR5
          have kf := frozen_of hR5
          obtain ⟨k0, k1, k2, k3, k4⟩ := five_cells35 hb6
          obtain ⟨hb7, hk7⟩ := model_setP (d1 := uv md.state) (d2 := .int .i64 (md.draws : Int)) (d3 := .slice qa 1 qc) (d4 := .slice sa 0 sc) (d5 := .slice pa pn pc) hR5
          have HHMD := hid hmd
          have HB7 := hid hb7
          have HK7 := hid hk7
          have HST6 := hid hst6
          have HX6 := hid hx6
          clear hR5 hb6 hb7 hk7 hst6 hx6 hmd hg0
          go_upto_region 13 with fail
          clear r0 r1 r2 r3 r4 r5 kf k0 k1 k2 k3 k4
          generalize (((((v5.setCell ⟨R, 1, none⟩ (uv md.state)).setCell ⟨R, 2, none⟩ (.int .i64 (md.draws : Int))).setCell ⟨R, 3, none⟩ (.slice qa 1 qc)).setCell ⟨R, 4, none⟩ (.slice sa 0 sc)).setCell ⟨R, 5, none⟩ (.slice pa pn pc)) = v6 at *
          have HFIN : Hid (∀ u, Ext v6 u → AskR ideal true g0 n b R F w8 (uv (askA ideal st n)) u) := hid fun u k => by
            have hRv1 : R < v1.heap.size := heap_lt HBR1.out
            have hRF1 : ¬ F1 R := HTO.out.far HRS.out.2 HRF.out
            have hqs : (askR ideal st n).qs.length = 1 := rfl
            have e1 : (askR ideal st n).state = md.state := by rw [← HHMD.out]; rfl
            have e2 : (askR ideal st n).draws = md.draws := by rw [← HHMD.out]; rfl
            have e3 : (askR ideal st n).qs = md.qs := by rw [← HHMD.out]; rfl
            have e4 : (askR ideal st n).seals = md.seals := by rw [← HHMD.out]; rfl
            refine ⟨askM ideal st n, askR ideal st n, F1, qa, sa, pa, qc, sc, pn, pc, askA ideal st n, rfl, hid ?_⟩
            exact {
              at' := ((HTO.out.at'.ext HX6.out).kp HK7.out (fun k h e => hRF1 (e ▸ h))).ext k
              new := fun k h => HTO.out.new k h
              kp := (((HTO.out.kp.mono fun k _ h => .inl h).ext HX6.out).trans (HK7.out.mono fun k _ h => .inr h)).ext k
              box := by rw [hqs, e1, e2]; exact k.heap_some HB7.out
              st := by
                rw [hqs]
                exact ((HST6.out.congr e3 e4).grow (G' := fun k => F1 k ∨ k < w8.heap.size) (HK7.out.mono fun k _ h => by omega) (fun k h => by
                  left
                  rcases h with h | h
                  · exact HTO.out.at'.foot_lt k h
                  · have := HTO.out.kp.size; omega)).ext k
              rel := askR_rel ideal st n
              ss := ⟨askM_seals ideal st n, rfl⟩
              dr := ⟨by have := askM_draws ideal st n; omega, by show 1 ≤ 1000; omega⟩
              idl := askM_ideal ideal st n
              ql := ⟨by rw [askM_qs]; simp, by rw [hqs]; omega⟩
              qe := fun q hq => by
                rw [askR_qs, List.mem_singleton] at hq
                subst hq
                show n.list.length ≤ 1000
                rw [HNLL.out]; omega
              qi := fun h => by rw [askM_qs, askR_qs]; subst h; rfl
              qr := fun h q hq => by
                rw [askM_qs, List.mem_singleton] at hq
                subst hq h
                rfl
              ok := fun _ => askK ideal st HOK.out
              no := fun h => by cases h }
          have r0 : v6.cell? ⟨R, 0, none⟩ = some (.bool ideal) := cell_of HB7.out 0
          cases ideal with
          | true =>
            have hne : (((askA true st n).toNat : Int) != ((drawOf st).toNat : Int)) = false := by rw [show askA true st n = drawOf st from rfl]; simp
            clear HRC
            go_wp2_with fail
            go_meet
            case rel => exact HFIN.out _ (Ext.refl _)
          | false =>
            simp only [if_true] at HRC
            have hb6 : v6.heap[B]? = some (.cells #[uv nva, uv n.owner, uv nrh, uv nbl] 42 (0, 0)) := by
              obtain ⟨-, -, -, h⟩ := HST.out v6 (((HTO.out.kp.mono fun k _ h => .inl h).ext HX6.out).trans (HK7.out.mono fun k _ h => .inr h))
              exact h
            obtain ⟨b0, b1, b2, b3⟩ := four_cells hb6
            clear hb6
            go_wp2_with fail
            refine (HRC.out _).mono ?_
            rintro e v7 ⟨rfl, hx⟩
            have HX7 := hid hx
            clear hx b0 b1 b2 b3 r0
            have hne : (((askA false st n).toNat : Int) != ((hashU 2 n.list).toNat : Int)) = false := by rw [show askA false st n = hashU 2 n.list from rfl]; simp
            go_wp2_with fail
            go_meet
            case rel => exact HFIN.out _ HX7.out
      case rest =>
        clear c7 e0
        obtain ⟨M, MR, F', qa, sa, pa, qc, sc, pn, pc, cm, rfl, HK⟩ := hcut
        obtain ⟨hf, hg, ha, hb⟩ := HST.out wc HK.out.kp
        obtain ⟨r0, r1, r2, r3, r4, r5⟩ := six_cellsP HK.out.box
        obtain ⟨a0, a1, a2, a3⟩ := four_cells ha
        obtain ⟨b0, b1, b2, b3⟩ := four_cells hb
        have c6 : wc.cell? ⟨N + 1, 6, none⟩ = some (uv ex) := cell_of hf 6
        have HF4 := hid (And.intro hf (And.intro hg hb))
        clear hf hg ha hb
        have HSE := hid (sealed_any (w := wc.alloc (.cells #[.int .i64 num, uv own, uv adr.a, uv adr.b, uv n.value, uv n.owner, uv n.rho, uv n.blind, uv ex] 66)) (b := b) (F := F') (ideal := ideal) (M0 := M) (MR0 := MR) (qa := qa) (pa := pa) (sa0 := sa) (qn := MR.qs.length) (qc := qc) (pn := pn) (pc := pc) (sc0 := sc) (l := [⟨num, own, adr, n, ex⟩])
          (HK.out.at'.ext ((Ext.refl wc).alloc _)) HK.out.rel HK.out.ss.1 (fun G w' => rdSc_nil_st (w := wc) (by have := HK.out.st.now.ss; rwa [HK.out.ss.2] at this) G w') HK.out.ss.2 HK.out.dr HK.out.idl (one_rdp wc ⟨num, own, adr, n, ex⟩) (fun k hk _ hf => by
            have hk' : wc.heap.size = k := by
              change some wc.heap.size = some k at hk
              exact Option.some.inj hk
            have := HK.out.at'.foot_lt k hf
            omega) (by simp))
        rw [HNE.out.1, HNE.out.2.1, HNE.out.2.2.1] at HSE
        go_wp2_with fail
        refine (HSE.out).mono ?_
        rintro e w9 ⟨M2, MR2, F2, sv, oa, oc, O, rfl, hto, hst, hown, hoa, hoF, hol, hel, hrel, hqs, hrqs, hdr, hdr2, hfold, hlen, hidl, hpl, hsl⟩
        simp only [List.length_cons, List.length_nil, Nat.zero_add] at hown hol hlen ⊢
        obtain ⟨⟨q, c, cv⟩, rfl⟩ : ∃ x, O = [x] := by
          match O, hol with
          | [x], _ => exact ⟨x, rfl⟩
        obtain ⟨hc1, hc2, hc3⟩ := hel _ (List.mem_singleton.2 rfl)
        simp only at hc1 hc2 hc3
        obtain ⟨va, vc, rfl, -⟩ := ownsRow_rd hc1
        obtain ⟨ta, tc, rfl⟩ := hst.now.len
        have hfold : M.envSeal adr n ex = ((q, c), M2) := by
          unfold sealsF at hfold
          simp only [List.foldl_cons, List.foldl_nil, sealStep, List.nil_append, List.map_cons, List.map_nil, Prod.mk.injEq, List.cons.injEq, and_true] at hfold
          rw [← hfold.2]
          exact Prod.ext hfold.1 rfl
        have hRF : ¬ F' R := fun h => by
          have h1 := HRS.out
          rcases HK.out.new R h with h2 | h2
          · have := (HFF.out R h2).2; omega
          · omega
        have hRc : R < wc.heap.size := heap_lt HK.out.box
        have hb9 := hto.kp.heap_some hRF (heap_alloc_some HK.out.box)
        obtain ⟨r0', r1', r2', r3', r4', r5'⟩ := six_cellsP hb9
        have kf := frozen_of hb9
        obtain ⟨hb10, hk10⟩ := six_setP (d0 := .bool ideal) (d1 := uv MR2.state) (d2 := .int .i64 (MR2.draws : Int)) (d3 := .slice qa MR.qs.length qc) (d4 := .slice ta MR2.seals.length tc) (d5 := .slice pa pn pc) hb9
        have HB10 := hid hb10
        have HK10 := hid hk10
        have HTO := hid hto
        have HSTS := hid hst
        have HOWN := hid hown
        have HOA := hid (And.intro hoa hoF)
        have HC := hid (And.intro hc1 (And.intro hc2 hc3))
        have HREL := hid hrel
        have HQS := hid (And.intro hqs hrqs)
        have HFO := hid hfold
        have HLEN := hid (And.intro hlen (And.intro hpl hsl))
        have HIDL := hid hidl
        have HRF := hid (And.intro hRF hRc)
        clear r0 r1 r2 r3 r4 r5 a0 a1 a2 a3 b0 b1 b2 b3 c6 hto hst hown hoa hoF hc1 hc2 hc3 hrel hqs hrqs hfold hlen hidl hpl hsl hb9 hb10 hk10 hRF hRc HSE hol hel hdr hdr2
        go_upto_region 18 with fail
        obtain ⟨w10, hw10⟩ : ∃ w10, w10 = ((((((w9.setCell ⟨R, 0, none⟩ (.bool ideal)).setCell ⟨R, 1, none⟩ (uv MR2.state)).setCell ⟨R, 2, none⟩ (.int .i64 (MR2.draws : Int))).setCell ⟨R, 3, none⟩ (.slice qa MR.qs.length qc)).setCell ⟨R, 4, none⟩ (.slice ta MR2.seals.length tc)).setCell ⟨R, 5, none⟩ (.slice pa pn pc)) := ⟨_, rfl⟩
        rw [← hw10] at HB10 HK10 ⊢
        clear hw10 r0' r1' r2' r3' r4' r5' kf
        -- the two functions from here on
        have HKP : Hid (Kp (fun k => F' k ∨ k < w8.heap.size) wc w10) := hid ((((Kp.of_ext ((Ext.refl wc).alloc _)).trans (HTO.out.kp.mono fun k _ h => .inl h)).trans (HK10.out.mono fun k _ h => by
          have := HRS.out
          right; omega)))
        have HAT10 : Hid (OrcAt w10 b M2 F2) := hid (HTO.out.at'.kp HK10.out fun k h e => by
          subst e
          have := HRF.out.2
          exact HTO.out.far (g := k) (by rw [World.size_alloc]; omega) HRF.out.1 h)
        have HC10 : Hid (RdU w10 (.slice va c.length vc) c) := hid (OwnU.rdu (ownsRow_kp HC.out.1 HK10.out fun k h e => by
          have h1 := (HC.out.2.2 k h).1
          have := HRF.out.2
          rw [World.size_alloc] at h1
          omega))
        have HQ10 : Hid (RdQc w10 (.slice qa MR.qs.length qc) MR2.qs) := hid (by
          rw [HQS.out.2]
          exact (HK.out.st.grow (G' := fun _ => False) HKP.out fun _ h => h.elim).now.qs)
        have HS10 : Hid (RdSc w10 (.slice ta MR2.seals.length tc) MR2.seals) := hid (HSTS.out.grow (G' := fun _ => False) (HK10.out.mono fun k _ h => by
          have := HRF.out.2
          right
          rw [World.size_alloc]
          omega) fun _ h => h.elim).now
        obtain ⟨T, HT1, HT2, HTK⟩ : ∃ T : Int → UInt64 → UInt64 → Nt × Bool,
            Hid (∀ (v : World) (z : Int) (cmt rho : UInt64), Ext w10 v → Calls Tryz.prog 8 #[.pointer (some ⟨b, 0, none⟩), uv sd, .int .i64 z, .agg #[uv cmt, uv q.a, uv q.b, .slice va c.length vc], uv rho] v fun e w' => e = .returned (nb (T z cmt rho)) ∧ Ext v w') ∧
            Hid (∀ (v : World) (z : Int) (cmt rho : UInt64), Ext w10 v → Calls Tryz.prog 9 #[.agg #[.bool ideal, uv MR2.state, .int .i64 (MR2.draws : Int), .slice qa MR.qs.length qc, .slice ta MR2.seals.length tc, .slice pa pn pc], uv sd, .int .i64 z, .agg #[uv cmt, uv q.a, uv q.b, .slice va c.length vc], uv rho] v fun e w' => e = .returned (nb (T z cmt rho)) ∧ Ext v w') ∧
            Hid (ask = true → T num cm n.rho = (n, true)) := by
          have hck : commitK M2 = commitP ideal MR2.qs := commitK_eq HIDL.out (fun h => by rw [HQS.out.1, HQS.out.2]; exact HK.out.qi h) (fun h => by rw [HQS.out.1]; exact HK.out.qr h)
          refine ⟨fun z cmt rho => tryR sd z cmt rho (M2.envOpen (kView sd z) q c) (commitK M2), hid fun v z cmt rho k => ?_, hid fun v z cmt rho k => ?_, hid fun ha => ?_⟩
          · exact envTry_any (HAT10.out.ext k) (HC10.out.ext k) (by have := HC.out.2.1; omega) (fun s hs => by have := HLEN.out.2.1 s hs; omega) (by rw [HQS.out.1]; have := HK.out.ql.1; omega)
          · show Calls _ _ _ v (fun e w' => e = .returned (nb (tryR sd z cmt rho (M2.envOpen (kView sd z) q c) (commitK M2))) ∧ Ext v w')
            rw [hck, HREL.out.envOpen, HIDL.out]
            exact rTry_any (pv := .slice pa pn pc) ⟨_, _, _, rfl⟩ (HQ10.out.ext k) (HS10.out.ext k) (HC10.out.ext k) (by have := HC.out.2.1; omega) (by have := HLEN.out.1; omega) (fun s hs => by have := HLEN.out.2.2 s hs; omega) (fun q hq => by rw [HQS.out.2] at hq; have := HK.out.qe q hq; omega) (by rw [HQS.out.2]; have := HK.out.ql.2; omega)
          · have ho := envOpen_sealed (view := kView sd num) (e := ex) (n := n) (q := q) (c := c) (M := M) (M1 := M2) HK.out.ss.1 HOK.out (by rw [← HADE.out.1]; exact HFO.out)
            show tryR sd num cm n.rho (M2.envOpen (kView sd num) q c) (commitK M2) = (n, true)
            rw [ho]
            have hn : (⟨n.value, n.owner, n.rho, n.blind⟩ : Nt) = n := rfl
            have hcm : commitK M2 ⟨n.value, n.owner, n.rho, n.blind⟩ = (cm, true) := by rw [hn, commitK_congr HQS.out.1 (HIDL.out.trans HK.out.idl.symm)]; exact HK.out.ok ha
            rw [tryR_open HISN.out.symm HNE.out.2.2.2.symm hcm]
            simp
        rw [HNE.out.2.1] at HTK
        have HK810 := hid (HK.out.kp.trans2 (((Kp.of_ext (F := fun k => F' k ∨ k = R) ((Ext.refl wc).alloc (.cells #[.int .i64 num, uv own, uv adr.a, uv adr.b, uv nva, uv n.owner, uv nrh, uv nbl, uv ex] 66))).trans (HTO.out.kp.mono fun k _ h => .inl h)).trans (HK10.out.mono fun k _ h => .inr h)) fun i hi h => by
          rcases h with h | h
          · rcases HK.out.new i h with h1 | h1
            · exact .inl h1
            · omega
          · exact .inr h)
        have HF10 := hid (HST.out w10 HK810.out)
        have HXW10 : Hid (Ext w w10) := hid ((HX0.out.trans HX6.out).trans ((HX68.out).kp HK810.out fun k h => by
          have := HRS.out
          rcases h with h | h
          · have := HFF.out k h; omega
          · omega))
        obtain ⟨ob, oo, rfl, o0, o1, o2, o3⟩ := outs_at (w := w10) (ownsRow_kp HOWN.out HK10.out fun k h e => by
          have h1 : oa.block = k := by
            change some oa.block = some k at h
            exact Option.some.inj h
          have := HOA.out.1
          have := HRF.out.2
          rw [World.size_alloc] at *
          omega) (i := 0) (x := (q, c, .slice va c.length vc)) rfl
        simp only [Nat.zero_mul, Nat.add_zero] at o0 o1 o2 o3
        go_upto_region 21 with fail
        obtain ⟨OB, hOB⟩ : ∃ OB, OB = w10.heap.size := ⟨_, rfl⟩
        obtain ⟨w11, hw11⟩ : ∃ w11, w11 = w10.alloc (.cells #[.int .u64 0, uv q.a, uv q.b, .slice va c.length vc] 28) := ⟨_, rfl⟩
        have hx11 : Ext w10 w11 := by rw [hw11]; exact (Ext.refl w10).alloc _
        have hb11 : w11.heap[OB]? = some (.cells #[.int .u64 0, uv q.a, uv q.b, .slice va c.length vc] 28 (0, 0)) := by rw [hw11, hOB]; exact heap_new _ _
        rw [← hw11, ← hOB]
        have hz0 := cell_of hb11 0
        have hzf := frozen_of hb11
        have hb12 : (w11.setCell ⟨OB, 0, none⟩ (uv cm)).heap[OB]? = some (.cells #[uv cm, uv q.a, uv q.b, .slice va c.length vc] 28 (0, 0)) := heap_setCell_same hb11 0 (uv cm)
        have hx12 : Ext w10 (w11.setCell ⟨OB, 0, none⟩ (uv cm)) := hx11.setCell (p := ⟨OB, 0, none⟩) (by rw [hOB]; exact Nat.le_refl _) _
        have HOBW : Hid (w10.heap.size ≤ OB) := hid (by rw [hOB]; exact Nat.le_refl _)
        simp only [List.getElem?_toArray, List.getElem?_cons_zero] at hz0
        clear o0 o1 o2 o3 hw11 hx11 hb11 hOB
        go_upto_region 22 with fail
        obtain ⟨w12, hw12⟩ : ∃ w12, w12 = w11.setCell ⟨OB, 0, none⟩ (uv cm) := ⟨_, rfl⟩
        rw [← hw12] at hb12 hx12 ⊢
        have b2 := cell_of (hx12.heap_some HF10.out.2.2.2) 2
        have x1 := cell_of (hx12.heap_some HF10.out.2.1) 1
        simp only [List.getElem?_toArray, List.getElem?_cons_zero, List.getElem?_cons_succ] at b2 x1
        have HX12 := hid hx12
        have HB12 := hid hb12
        obtain ⟨S, hS⟩ : ∃ S, S = w12.heap.size := ⟨_, rfl⟩
        obtain ⟨w13, hw13⟩ : ∃ w13, w13 = w12.alloc (.cells #[uv nrh, uv g1] 22) := ⟨_, rfl⟩
        have hx13 : Ext w12 w13 := by rw [hw13]; exact (Ext.refl w12).alloc _
        have hb13 : w13.heap[S]? = some (.cells #[uv nrh, uv g1] 22 (0, 0)) := by rw [hw13, hS]; exact heap_new _ _
        have HW13 := hid hw13
        have HSS := hid hS
        have HX13 := hid (HX12.out.trans hx13)
        have HBX : Hid (w13.heap[R]? = some (.cells #[.bool ideal, uv MR2.state, .int .i64 (MR2.draws : Int), .slice qa MR.qs.length qc, .slice ta MR2.seals.length tc, .slice pa pn pc] 38 (0, 0)) ∧ w13.heap[OB]? = some (.cells #[uv cm, uv q.a, uv q.b, .slice va c.length vc] 28 (0, 0)) ∧ w13.heap[S]? = some (.cells #[uv nrh, uv g1] 22 (0, 0)) ∧ w13.heap[N + 1]? = some (.cells #[uv sd, .int .i64 num, uv nva, uv now', uv nrh, uv nbl, uv ex, .bool ask] 49 (0, 0)) ∧ w13.heap[N + 1 + 1]? = some (.cells #[uv g0, uv g1, uv g2] 29 (0, 0)) ∧ w13.heap[B]? = some (.cells #[uv nva, uv n.owner, uv nrh, uv nbl] 42 (0, 0))) := hid ⟨HX13.out.heap_some HB10.out, hx13.heap_some HB12.out, hb13, HX13.out.heap_some HF10.out.1, HX13.out.heap_some HF10.out.2.1, HX13.out.heap_some HF10.out.2.2.2⟩
        clear hz0 hzf hb12 hx12 hw12 hw13 hx13 hb13 hS
        go_upto_region 23 with fail
        have hb13 := HBX.out.2.2.1
        rw [← HSS.out, ← HW13.out]
        clear b2 x1
        go_loopw [108] (fun iv wr => ∃ i : Nat, i ≤ 2 ∧ iv = .int .i64 i ∧ Hid (Ext w13 wr)) (fun iv _ => 2 - (intOf iv).toNat)
        case atStart => exact ⟨0, by omega, rfl, hid (Ext.refl _)⟩
        case round =>
          obtain ⟨i, hi, rfl, HXI⟩ := hrel
          by_cases hlt : i < 2
          · have hltB : decide ((i : Int) < 2) = true := by simp; omega
            obtain ⟨rho, hrho⟩ : ∃ rho, wr.cell? ⟨S, i, none⟩ = some (uv rho) := by
              have h := HXI.out.heap_some hb13
              match i, hlt with
              | 0, _ => exact ⟨nrh, cell_of h 0⟩
              | 1, _ => exact ⟨g1, cell_of h 1⟩
            have hi0 : (0 : Int) ≤ (i : Int) := Int.natCast_nonneg _
            have hi2 : (i : Int) < 2 := by omega
            clear hb13
            go_upto_region 25 with fail
            clear hrho hi0 hi2 hltB
            go_wp2_with fail
            go_loopw [19] (fun xv ws => ∃ x : Int, -1 ≤ x ∧ x ≤ 5 ∧ xv = .int .i64 x ∧ Hid (Ext w13 ws)) (fun xv _ => (5 - intOf xv).toNat)
            case atStart => exact ⟨-1, by omega, by omega, rfl, HXI⟩
            case round =>
              obtain ⟨x, hx0, hx5, rfl, HXR⟩ := hrel
              by_cases hlx : x < 5
              · have hlB : decide (x ≤ 4) = true := by simp; omega
                have HXW := hid (HX13.out.trans HXR.out)
                obtain ⟨res, hres⟩ : ∃ res, res = T (x) cm (rho) := ⟨_, rfl⟩
                have h1 := HT1.out wr (x) cm (rho) (HXW.out)
                have HH2 := hid (fun (v : World) (k : Ext wr v) => HT2.out v (x) cm (rho) (HXW.out.trans k))
                rw [← hres] at h1 HH2
                have HRES := hid hres
                clear hres
                obtain ⟨rn, rk⟩ := res
                unfold nb nv at h1 HH2
                simp only at h1 HH2
                have HH1 := hid h1
                clear h1
                obtain ⟨r0, r1, r2, r3, r4, r5⟩ := six_cellsP ((HXR.out).heap_some HBX.out.1)
                obtain ⟨o0, o1, o2, o3⟩ := four_cells (HXR.out.heap_some HBX.out.2.1)
                obtain ⟨b0, b1, b2, b3⟩ := four_cells ((HXR.out).heap_some HBX.out.2.2.2.2.2)
                obtain ⟨f0, f1, f4, f7⟩ : wr.cell? ⟨N + 1, 0, none⟩ = some (uv sd) ∧ wr.cell? ⟨N + 1, 1, none⟩ = some (.int .i64 num) ∧ wr.cell? ⟨N + 1, 4, none⟩ = some (uv nrh) ∧ wr.cell? ⟨N + 1, 7, none⟩ = some (.bool ask) := by
                  have h := (HXR.out).heap_some HBX.out.2.2.2.1
                  exact ⟨cell_of h 0, cell_of h 1, cell_of h 4, cell_of h 7⟩
                obtain ⟨x1, x2⟩ : wr.cell? ⟨N + 1 + 1, 1, none⟩ = some (uv g1) ∧ wr.cell? ⟨N + 1 + 1, 2, none⟩ = some (uv g2) := by
                  have h := (HXR.out).heap_some HBX.out.2.2.2.2.1
                  exact ⟨cell_of h 1, cell_of h 2⟩
                go_wp2_with fail
                refine (HH1.out).mono ?_
                rintro e v1 ⟨rfl, hx⟩
                go_upto_region 29 with fail
                obtain ⟨P1, hP1⟩ : ∃ P1, P1 = v1.heap.size := ⟨_, rfl⟩
                obtain ⟨v2, hv2⟩ : ∃ v2, v2 = v1.alloc (.cells #[uv rn.value, uv rn.owner, uv rn.rho, uv rn.blind] 42) := ⟨_, rfl⟩
                have hy2 : Ext wr v2 := by rw [hv2]; exact hx.alloc _
                have hp2 : v2.heap[P1]? = some (.cells #[uv rn.value, uv rn.owner, uv rn.rho, uv rn.blind] 42 (0, 0)) := by rw [hv2, hP1]; exact heap_new _ _
                rw [← hv2, ← hP1]
                have HY2 := hid hy2
                have HP2 := hid hp2
                clear hx hy2 hp2 hv2 hP1 HH1
                clear r0 r1 r2 r3 r4 r5 o0 o1 o2 o3 b0 b1 b2 b3 f0 f1 f4 f7 x1 x2
                obtain ⟨r0, r1, r2, r3, r4, r5⟩ := six_cellsP ((HXR.out.trans HY2.out).heap_some HBX.out.1)
                obtain ⟨o0, o1, o2, o3⟩ := four_cells ((HXR.out.trans HY2.out).heap_some HBX.out.2.1)
                obtain ⟨b0, b1, b2, b3⟩ := four_cells ((HXR.out.trans HY2.out).heap_some HBX.out.2.2.2.2.2)
                obtain ⟨f0, f1, f4, f7⟩ : v2.cell? ⟨N + 1, 0, none⟩ = some (uv sd) ∧ v2.cell? ⟨N + 1, 1, none⟩ = some (.int .i64 num) ∧ v2.cell? ⟨N + 1, 4, none⟩ = some (uv nrh) ∧ v2.cell? ⟨N + 1, 7, none⟩ = some (.bool ask) := by
                  have h := (HXR.out.trans HY2.out).heap_some HBX.out.2.2.2.1
                  exact ⟨cell_of h 0, cell_of h 1, cell_of h 4, cell_of h 7⟩
                obtain ⟨x1, x2⟩ : v2.cell? ⟨N + 1 + 1, 1, none⟩ = some (uv g1) ∧ v2.cell? ⟨N + 1 + 1, 2, none⟩ = some (uv g2) := by
                  have h := (HXR.out.trans HY2.out).heap_some HBX.out.2.2.2.2.1
                  exact ⟨cell_of h 1, cell_of h 2⟩
                go_wp2_with fail
                refine (HH2.out _ HY2.out).mono ?_
                rintro e v3 ⟨rfl, hx⟩
                go_upto_region 30 with fail
                obtain ⟨P2, hP2⟩ : ∃ P2, P2 = v3.heap.size := ⟨_, rfl⟩
                obtain ⟨v4, hv4⟩ : ∃ v4, v4 = v3.alloc (.cells #[uv rn.value, uv rn.owner, uv rn.rho, uv rn.blind] 42) := ⟨_, rfl⟩
                have hy4 : Ext v2 v4 := by rw [hv4]; exact hx.alloc _
                have hp4 : v4.heap[P2]? = some (.cells #[uv rn.value, uv rn.owner, uv rn.rho, uv rn.blind] 42 (0, 0)) := by rw [hv4, hP2]; exact heap_new _ _
                rw [← hv4, ← hP2]
                have HY4 := hid (HY2.out.trans hy4)
                obtain ⟨p0, p1, p2, p3⟩ := four_cells (hy4.heap_some HP2.out)
                obtain ⟨s0, s1, s2, s3⟩ := four_cells hp4
                clear hx hy4 hp4 hv4 hP2 HH2
                clear r0 r1 r2 r3 r4 r5 o0 o1 o2 o3 b0 b1 b2 b3 f0 f1 f4 f7 x1 x2
                obtain ⟨r0, r1, r2, r3, r4, r5⟩ := six_cellsP ((HXR.out.trans HY4.out).heap_some HBX.out.1)
                obtain ⟨o0, o1, o2, o3⟩ := four_cells ((HXR.out.trans HY4.out).heap_some HBX.out.2.1)
                obtain ⟨b0, b1, b2, b3⟩ := four_cells ((HXR.out.trans HY4.out).heap_some HBX.out.2.2.2.2.2)
                obtain ⟨f0, f1, f4, f7⟩ : v4.cell? ⟨N + 1, 0, none⟩ = some (uv sd) ∧ v4.cell? ⟨N + 1, 1, none⟩ = some (.int .i64 num) ∧ v4.cell? ⟨N + 1, 4, none⟩ = some (uv nrh) ∧ v4.cell? ⟨N + 1, 7, none⟩ = some (.bool ask) := by
                  have h := (HXR.out.trans HY4.out).heap_some HBX.out.2.2.2.1
                  exact ⟨cell_of h 0, cell_of h 1, cell_of h 4, cell_of h 7⟩
                obtain ⟨x1, x2⟩ : v4.cell? ⟨N + 1 + 1, 1, none⟩ = some (uv g1) ∧ v4.cell? ⟨N + 1 + 1, 2, none⟩ = some (uv g2) := by
                  have h := (HXR.out.trans HY4.out).heap_some HBX.out.2.2.2.2.1
                  exact ⟨cell_of h 1, cell_of h 2⟩
                have HEQ : (Op.equalIn 10000 42 (.agg #[uv rn.value, uv rn.owner, uv rn.rho, uv rn.blind]) (.agg #[uv rn.value, uv rn.owner, uv rn.rho, uv rn.blind])).run Tryz.prog v4 = .ok true v4 := by
                  have h := noteEqIn rn rn v4
                  rw [Nt.same_refl] at h
                  exact h
                have hk : (rk == rk) = true := by simp
                have hk' : (rk != rk) = false := by simp
                cases ask with
                | false =>
                  go_wp2_with fail
                  go_roundw
                  case rel => exact ⟨x + 1, by omega, by omega, by go_num, hid (HXR.out.trans HY4.out)⟩
                  case measure => simp [intOf]; omega
                | true =>
                  by_cases hr : rho = nrh
                  case neg =>
                    have hrB : ((rho.toNat : Int) == (nrh.toNat : Int)) = false := by
                      have h : rho.toNat ≠ nrh.toNat := fun h => hr (UInt64.toNat_inj.1 h)
                      simp; omega
                    clear hr
                    go_wp2_with fail
                    go_roundw
                    case rel => exact ⟨x + 1, by omega, by omega, by go_num, hid (HXR.out.trans HY4.out)⟩
                    case measure => simp [intOf]; omega
                  subst hr
                  have hrB : ((rho.toNat : Int) == (rho.toNat : Int)) = true := by simp
                  by_cases hxn : x = num
                  case neg =>
                    have hxB : (x == num) = false := by simpa using hxn
                    clear hxn
                    go_wp2_with fail
                    go_roundw
                    case rel => exact ⟨x + 1, by omega, by omega, by go_num, hid (HXR.out.trans HY4.out)⟩
                    case measure => simp [intOf]; omega
                  subst hxn
                  have hxB : (x == x) = true := by simp
                  have hT := HRES.out.trans (HTK.out rfl)
                  injection hT with hT1 hT2
                  subst hT1 hT2
                  obtain ⟨e1, e2, e3, -⟩ := HNE.out
                  subst e1 e2 e3
                  go_wp2_with fail
                  go_roundw
                  case rel => exact ⟨x + 1, by omega, by omega, by go_num, hid (HXR.out.trans HY4.out)⟩
                  case measure => simp [intOf]; omega
              · obtain rfl : x = 5 := by omega
                have hlB : decide ((5 : Int) ≤ 4) = false := by decide
                go_wp2_with fail
                go_roundw
                case rel => exact ⟨i + 1, by omega, by go_num, HXR⟩
                case measure => simp [intOf]; omega
          · obtain rfl : i = 2 := by omega
            have hltB : decide (((2 : Nat) : Int) < 2) = false := by decide
            have hob := HXI.out.heap_some HBX.out.2.1
            have hz0 : wr.cell? ⟨OB, 0, none⟩ = some (uv cm) := cell_of hob 0
            have hzf := frozen_of hob
            have x2 : wr.cell? ⟨N + 1 + 1, 2, none⟩ = some (uv g2) := cell_of (HXI.out.heap_some HBX.out.2.2.2.2.1) 2
            have hob14 : (wr.setCell ⟨OB, 0, none⟩ (uv g2)).heap[OB]? = some (.cells #[uv g2, uv q.a, uv q.b, .slice va c.length vc] 28 (0, 0)) := heap_setCell_same hob 0 (uv g2)
            have hk14 : Kp (fun k => k = OB) w13 (wr.setCell ⟨OB, 0, none⟩ (uv g2)) := (Kp.of_ext (F := fun k => k = OB) HXI.out).setCell (p := ⟨OB, 0, none⟩) (.inl rfl) _
            have hx14 : Ext w10 (wr.setCell ⟨OB, 0, none⟩ (uv g2)) := (HX13.out.trans HXI.out).setCell (p := ⟨OB, 0, none⟩) HOBW.out _
            clear hb13 hob
            go_upto_region 34 with fail
            obtain ⟨w14, hw14⟩ : ∃ w14, w14 = wr.setCell ⟨OB, 0, none⟩ (uv g2) := ⟨_, rfl⟩
            rw [← hw14] at hob14 hk14 hx14 ⊢
            have HX14 := hid hx14
            have HBY : Hid (w14.heap[R]? = some (.cells #[.bool ideal, uv MR2.state, .int .i64 (MR2.draws : Int), .slice qa MR.qs.length qc, .slice ta MR2.seals.length tc, .slice pa pn pc] 38 (0, 0)) ∧ w14.heap[OB]? = some (.cells #[uv g2, uv q.a, uv q.b, .slice va c.length vc] 28 (0, 0)) ∧ True ∧ w14.heap[N + 1]? = some (.cells #[uv sd, .int .i64 num, uv nva, uv now', uv nrh, uv nbl, uv ex, .bool ask] 49 (0, 0)) ∧ w14.heap[N + 1 + 1]? = some (.cells #[uv g0, uv g1, uv g2] 29 (0, 0)) ∧ w14.heap[B]? = some (.cells #[uv nva, uv n.owner, uv nrh, uv nbl] 42 (0, 0))) := hid (by
              have hne : ∀ {j : Nat} {o : Obj}, w10.heap[j]? = some o → w13.heap[j]? = some o → w14.heap[j]? = some o := fun {j o} h h' => hk14.heap_some (by
                have := heap_lt h
                have := HOBW.out
                omega) h'
              exact ⟨hne HB10.out HBX.out.1, hob14, trivial, hne HF10.out.1 HBX.out.2.2.2.1, hne HF10.out.2.1 HBX.out.2.2.2.2.1, hne HF10.out.2.2.2 HBX.out.2.2.2.2.2⟩)
            clear hz0 hzf x2 hob14 hk14 hx14 hw14
            obtain ⟨res, hres⟩ : ∃ res, res = T (num) g2 (nrh) := ⟨_, rfl⟩
            have h1 := HT1.out w14 (num) g2 (nrh) (HX14.out)
            have HH2 := hid (fun (v : World) (k : Ext w14 v) => HT2.out v (num) g2 (nrh) (HX14.out.trans k))
            rw [← hres] at h1 HH2
            have HRES := hid hres
            clear hres
            obtain ⟨rn, rk⟩ := res
            unfold nb nv at h1 HH2
            simp only at h1 HH2
            have HH1 := hid h1
            clear h1
            obtain ⟨r0, r1, r2, r3, r4, r5⟩ := six_cellsP ((Ext.refl w14).heap_some HBY.out.1)
            obtain ⟨o0, o1, o2, o3⟩ := four_cells (HBY.out.2.1)
            obtain ⟨b0, b1, b2, b3⟩ := four_cells ((Ext.refl w14).heap_some HBY.out.2.2.2.2.2)
            obtain ⟨f0, f1, f4, f7⟩ : w14.cell? ⟨N + 1, 0, none⟩ = some (uv sd) ∧ w14.cell? ⟨N + 1, 1, none⟩ = some (.int .i64 num) ∧ w14.cell? ⟨N + 1, 4, none⟩ = some (uv nrh) ∧ w14.cell? ⟨N + 1, 7, none⟩ = some (.bool ask) := by
              have h := (Ext.refl w14).heap_some HBY.out.2.2.2.1
              exact ⟨cell_of h 0, cell_of h 1, cell_of h 4, cell_of h 7⟩
            obtain ⟨x1, x2⟩ : w14.cell? ⟨N + 1 + 1, 1, none⟩ = some (uv g1) ∧ w14.cell? ⟨N + 1 + 1, 2, none⟩ = some (uv g2) := by
              have h := (Ext.refl w14).heap_some HBY.out.2.2.2.2.1
              exact ⟨cell_of h 1, cell_of h 2⟩
            go_wp2_with fail
            refine (HH1.out).mono ?_
            rintro e v1 ⟨rfl, hx⟩
            go_upto_region 35 with fail
            obtain ⟨P1, hP1⟩ : ∃ P1, P1 = v1.heap.size := ⟨_, rfl⟩
            obtain ⟨v2, hv2⟩ : ∃ v2, v2 = v1.alloc (.cells #[uv rn.value, uv rn.owner, uv rn.rho, uv rn.blind] 42) := ⟨_, rfl⟩
            have hy2 : Ext w14 v2 := by rw [hv2]; exact hx.alloc _
            have hp2 : v2.heap[P1]? = some (.cells #[uv rn.value, uv rn.owner, uv rn.rho, uv rn.blind] 42 (0, 0)) := by rw [hv2, hP1]; exact heap_new _ _
            rw [← hv2, ← hP1]
            have HY2 := hid hy2
            have HP2 := hid hp2
            clear hx hy2 hp2 hv2 hP1 HH1
            clear r0 r1 r2 r3 r4 r5 o0 o1 o2 o3 b0 b1 b2 b3 f0 f1 f4 f7 x1 x2
            obtain ⟨r0, r1, r2, r3, r4, r5⟩ := six_cellsP ((HY2.out).heap_some HBY.out.1)
            obtain ⟨o0, o1, o2, o3⟩ := four_cells (HY2.out.heap_some HBY.out.2.1)
            obtain ⟨b0, b1, b2, b3⟩ := four_cells ((HY2.out).heap_some HBY.out.2.2.2.2.2)
            obtain ⟨f0, f1, f4, f7⟩ : v2.cell? ⟨N + 1, 0, none⟩ = some (uv sd) ∧ v2.cell? ⟨N + 1, 1, none⟩ = some (.int .i64 num) ∧ v2.cell? ⟨N + 1, 4, none⟩ = some (uv nrh) ∧ v2.cell? ⟨N + 1, 7, none⟩ = some (.bool ask) := by
              have h := (HY2.out).heap_some HBY.out.2.2.2.1
              exact ⟨cell_of h 0, cell_of h 1, cell_of h 4, cell_of h 7⟩
            obtain ⟨x1, x2⟩ : v2.cell? ⟨N + 1 + 1, 1, none⟩ = some (uv g1) ∧ v2.cell? ⟨N + 1 + 1, 2, none⟩ = some (uv g2) := by
              have h := (HY2.out).heap_some HBY.out.2.2.2.2.1
              exact ⟨cell_of h 1, cell_of h 2⟩
            go_wp2_with fail
            refine (HH2.out _ HY2.out).mono ?_
            rintro e v3 ⟨rfl, hx⟩
            go_upto_region 36 with fail
            obtain ⟨P2, hP2⟩ : ∃ P2, P2 = v3.heap.size := ⟨_, rfl⟩
            obtain ⟨v4, hv4⟩ : ∃ v4, v4 = v3.alloc (.cells #[uv rn.value, uv rn.owner, uv rn.rho, uv rn.blind] 42) := ⟨_, rfl⟩
            have hy4 : Ext v2 v4 := by rw [hv4]; exact hx.alloc _
            have hp4 : v4.heap[P2]? = some (.cells #[uv rn.value, uv rn.owner, uv rn.rho, uv rn.blind] 42 (0, 0)) := by rw [hv4, hP2]; exact heap_new _ _
            rw [← hv4, ← hP2]
            have HY4 := hid (HY2.out.trans hy4)
            obtain ⟨p0, p1, p2, p3⟩ := four_cells (hy4.heap_some HP2.out)
            obtain ⟨s0, s1, s2, s3⟩ := four_cells hp4
            clear hx hy4 hp4 hv4 hP2 HH2
            clear r0 r1 r2 r3 r4 r5 o0 o1 o2 o3 b0 b1 b2 b3 f0 f1 f4 f7 x1 x2
            obtain ⟨r0, r1, r2, r3, r4, r5⟩ := six_cellsP ((HY4.out).heap_some HBY.out.1)
            obtain ⟨o0, o1, o2, o3⟩ := four_cells (HY4.out.heap_some HBY.out.2.1)
            obtain ⟨b0, b1, b2, b3⟩ := four_cells ((HY4.out).heap_some HBY.out.2.2.2.2.2)
            obtain ⟨f0, f1, f4, f7⟩ : v4.cell? ⟨N + 1, 0, none⟩ = some (uv sd) ∧ v4.cell? ⟨N + 1, 1, none⟩ = some (.int .i64 num) ∧ v4.cell? ⟨N + 1, 4, none⟩ = some (uv nrh) ∧ v4.cell? ⟨N + 1, 7, none⟩ = some (.bool ask) := by
              have h := (HY4.out).heap_some HBY.out.2.2.2.1
              exact ⟨cell_of h 0, cell_of h 1, cell_of h 4, cell_of h 7⟩
            obtain ⟨x1, x2⟩ : v4.cell? ⟨N + 1 + 1, 1, none⟩ = some (uv g1) ∧ v4.cell? ⟨N + 1 + 1, 2, none⟩ = some (uv g2) := by
              have h := (HY4.out).heap_some HBY.out.2.2.2.2.1
              exact ⟨cell_of h 1, cell_of h 2⟩
            have HEQ : (Op.equalIn 10000 42 (.agg #[uv rn.value, uv rn.owner, uv rn.rho, uv rn.blind]) (.agg #[uv rn.value, uv rn.owner, uv rn.rho, uv rn.blind])).run Tryz.prog v4 = .ok true v4 := by
              have h := noteEqIn rn rn v4
              rw [Nt.same_refl] at h
              exact h
            have hk : (rk == rk) = true := by simp
            have hk' : (rk != rk) = false := by simp
            go_wp2_with fail
            go_ret
            exact ⟨rfl, HXW10.out.trans (HX14.out.trans HY4.out)⟩
end Go.Proofs.YtgfmjfkdogcnhaaGreat
