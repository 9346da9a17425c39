/- The law's sealed: outputs sealed with an oracle and its reference. -/
import Derived.Test.YtgfmjfkdogcnhaaGreatSealRel
import Derived.Test.YtgfmjfkdogcnhaaGreatParcel
import Derived.Test.YtgfmjfkdogcnhaaGreatFindLaw
set_option linter.unusedSimpArgs false
namespace Go.Proofs.YtgfmjfkdogcnhaaGreat
open Go.RowKit
attribute [local irreducible] perm fAdd fMul fPow fSub fNeg fRed hashU drawOf nextState cipSeal
/-- An output: its point, its cipher and where this lies. -/
abbrev Ot := E2 × List UInt64 × Value
def oCells (O : List Ot) : List Value := O.flatMap fun x => [.int .u64 0, uv x.1.a, uv x.1.b, x.2.2]
theorem oCells_snoc (O : List Ot) (x : Ot) : oCells (O ++ [x]) = oCells O ++ [.int .u64 0, uv x.1.a, uv x.1.b, x.2.2] := by simp [oCells]
theorem Tryz.infoO : (Tryz.prog.info? 28).map (fun i => (i.zero, i.size, i.bytes)) = some (some (.agg #[.int .u64 0, .int .u64 0, .int .u64 0, .slice none 0 0]), 4, 48) := by kernel_rfl
theorem own_emptyO (v : World) : (v.alloc (.cells #[] 28)).ownsRow 0 28 4 (.slice (some ⟨v.heap.size, 0, none⟩) 0 0) 0 [] := ⟨rfl, .inr ⟨v.heap.size, 0, #[], rfl, Nat.zero_le _, heap_new v _, Nat.le_refl _, Nat.zero_le _, rfl, rfl⟩⟩
/-- What sealing parcels yields. -/
def sealStep (s : List (E2 × List UInt64) × Orc) (x : Pc) : List (E2 × List UInt64) × Orc := (s.1 ++ [(s.2.envSeal x.a x.n x.e).1], (s.2.envSeal x.a x.n x.e).2)
def sealsF (M : Orc) (l : List Pc) : List (E2 × List UInt64) × Orc := l.foldl sealStep ([], M)
/-- i parcels have been sealed; ov holds the outputs. -/
structure SO (w wr : World) (b N : Nat) (F : Nat → Prop) (ideal : Bool) (i : Nat) (M0 MR0 : Orc) (l : List Pc) (qa pa : Option Addr) (qn qc pn pc : Nat) (M MR : Orc) (F' : Nat → Prop) (sv : Value) (oa : Addr) (oc : Nat) (O : List Ot) : Prop where
  too : OrcTo w b F M wr F'
  box : wr.heap[N]? = some (.cells #[.bool ideal, uv MR.state, .int .i64 (MR.draws : Int), .slice qa qn qc, sv, .slice pa pn pc] 38 (0, 0))
  res : wr.heap[N + 1]? = some (.cells #[.bool false, .int .u64 0, .int .i64 0, .slice none 0 0, .slice none 0 0, .slice none 0 0] 38 (0, 0))
  bF : ¬ F' N ∧ ¬ F' (N + 1)
  st : StS (fun k => k = N ∨ k = N + 1 ∨ F' k ∨ k = oa.block ∨ k < w.heap.size) wr sv MR.seals
  own : wr.ownsRow 0 28 4 (.slice (some oa) i oc) i (oCells O)
  on : w.heap.size ≤ oa.block ∧ ¬ F' oa.block
  ol : O.length = i
  el : ∀ x ∈ O, OwnU wr x.2.2 x.2.1 ∧ x.2.1.length ≤ 3 ∧ ∀ k, blk x.2.2 = some k → w.heap.size ≤ k ∧ ¬ F' k
  rel : Rel2 M MR
  qs : M.qs = M0.qs
  rqs : MR.qs = MR0.qs
  dr : M.draws ≤ M0.draws + 3 * i
  dr2 : MR.draws ≤ MR0.draws + 3 * i
  fold : sealsF M0 (l.take i) = (O.map fun x => (x.1, x.2.1), M)
  len : MR.seals.length ≤ i
  idl : M.ideal = ideal
  pl : ∀ s ∈ M.seals, s.plain.length = 2
  sl : ∀ s ∈ MR.seals, s.sealed.length = 3
theorem SO.ne {w wr : World} {b N : Nat} {F : Nat → Prop} {ideal : Bool} {i : Nat} {M0 MR0 : Orc} {l : List Pc} {qa pa : Option Addr} {qn qc pn pc : Nat} {M MR : Orc} {F' : Nat → Prop} {sv : Value} {oa : Addr} {oc : Nat} {O : List Ot} (h : SO w wr b N F ideal i M0 MR0 l qa pa qn qc pn pc M MR F' sv oa oc O) :
    oa.block ≠ N ∧ oa.block ≠ N + 1 ∧ ∀ x ∈ O, blk x.2.2 ≠ some N ∧ blk x.2.2 ≠ some (N + 1) ∧ blk x.2.2 ≠ some oa.block := by
  have hob : ∃ cs, wr.heap[oa.block]? = some (.cells cs 28 (0, 0)) := ownsRow_block h.own rfl
  obtain ⟨cs, hob⟩ := hob
  refine ⟨fun e => ?_, fun e => ?_, fun x hx => ⟨fun e => ?_, fun e => ?_, fun e => ?_⟩⟩
  · rw [e, h.box] at hob; injection hob with hob; injection hob with _ hob; exact absurd hob (by decide)
  · rw [e, h.res] at hob; injection hob with hob; injection hob with _ hob; exact absurd hob (by decide)
  · obtain ⟨cs', h1⟩ := ownsRow_block (h.el x hx).1 e
    rw [h.box] at h1; injection h1 with h1; injection h1 with _ h1; exact absurd h1 (by decide)
  · obtain ⟨cs', h1⟩ := ownsRow_block (h.el x hx).1 e
    rw [h.res] at h1; injection h1 with h1; injection h1 with _ h1; exact absurd h1 (by decide)
  · obtain ⟨cs', h1⟩ := ownsRow_block (h.el x hx).1 e
    rw [hob] at h1; injection h1 with h1; injection h1 with _ h1; exact absurd h1 (by decide)
def SealedO (w : World) (b : Nat) (F : Nat → Prop) (ideal : Bool) (l : List Pc) (M0 MR0 : Orc) (qa pa : Option Addr) (qn qc pn pc : Nat) (e : Ending) (w' : World) : Prop :=
  ∃ (M MR : Orc) (F' : Nat → Prop) (sv : Value) (oa : Addr) (oc : Nat) (O : List Ot), e = .returned (.tuple #[.slice (some oa) l.length oc, .agg #[.bool ideal, uv MR.state, .int .i64 (MR.draws : Int), .slice qa qn qc, sv, .slice pa pn pc]]) ∧
    OrcTo w b F M w' F' ∧ StS (fun k => F' k ∨ k < w.heap.size) w' sv MR.seals ∧ w'.ownsRow 0 28 4 (.slice (some oa) l.length oc) l.length (oCells O) ∧ w.heap.size ≤ oa.block ∧ ¬ F' oa.block ∧ O.length = l.length ∧
    (∀ x ∈ O, OwnU w' x.2.2 x.2.1 ∧ x.2.1.length ≤ 3 ∧ ∀ k, blk x.2.2 = some k → w.heap.size ≤ k ∧ ¬ F' k) ∧ Rel2 M MR ∧ M.qs = M0.qs ∧ MR.qs = MR0.qs ∧ M.draws ≤ M0.draws + 3 * l.length ∧ MR.draws ≤ MR0.draws + 3 * l.length ∧ sealsF M0 l = (O.map fun x => (x.1, x.2.1), M) ∧ MR.seals.length ≤ l.length ∧ M.ideal = ideal ∧ (∀ s ∈ M.seals, s.plain.length = 2) ∧ ∀ s ∈ MR.seals, s.sealed.length = 3
set_option maxRecDepth 100000 in
set_option maxHeartbeats 12800000 in
theorem sealed_any {w : World} {b : Nat} {F : Nat → Prop} {ideal : Bool} {M0 MR0 : Orc} {qa pa sa0 : Option Addr} {qn qc pn pc sc0 : Nat} {lv : Value} {l : List Pc} (hat : OrcAt w b M0 F) (hrel0 : Rel2 M0 MR0) (hss : M0.seals = []) (hst0 : ∀ G w', StS G w' (.slice sa0 0 sc0) []) (hrs : MR0.seals = []) (hd0 : M0.draws ≤ 1000 ∧ MR0.draws ≤ 1000) (hid0 : M0.ideal = ideal) (hl : RdP w lv l) (hlF : ∀ k, blk lv = some k → l ≠ [] → ¬ F k) (hn : l.length ≤ 100) :
    Calls Tryz.prog 18 #[.pointer (some ⟨b, 0, none⟩), .agg #[.bool ideal, uv MR0.state, .int .i64 (MR0.draws : Int), .slice qa qn qc, .slice sa0 0 sc0, .slice pa pn pc], lv] w (SealedO w b F ideal l M0 MR0 qa pa qn qc pn pc) := by
  obtain ⟨la, lc, rfl, hlc, hlm, -⟩ := id hl
  obtain ⟨j0, hj, hy0, hy1, hy2⟩ := info_parts Tryz.infoO
  have HJ := hid (And.intro hj (And.intro hy0 (And.intro hy1 hy2)))
  obtain ⟨N, hN⟩ : ∃ N, N = w.heap.size := ⟨_, rfl⟩
  obtain ⟨w0, hw0⟩ : ∃ w0, w0 = (w.alloc (.cells #[.bool ideal, uv MR0.state, .int .i64 (MR0.draws : Int), .slice qa qn qc, .slice sa0 0 sc0, .slice pa pn pc] 38)).alloc (.cells #[.bool false, .int .u64 0, .int .i64 0, .slice none 0 0, .slice none 0 0, .slice none 0 0] 38) := ⟨_, rfl⟩
  obtain ⟨a0, s0, x0⟩ := alloc_step w (.cells #[.bool ideal, uv MR0.state, .int .i64 (MR0.draws : Int), .slice qa qn qc, .slice sa0 0 sc0, .slice pa pn pc] 38) hN.symm
  obtain ⟨a1, s1, x1⟩ := alloc_step (w.alloc (.cells #[.bool ideal, uv MR0.state, .int .i64 (MR0.draws : Int), .slice qa qn qc, .slice sa0 0 sc0, .slice pa pn pc] 38)) (.cells #[.bool false, .int .u64 0, .int .i64 0, .slice none 0 0, .slice none 0 0, .slice none 0 0] 38) s0
  have hb0 := x1.heap_some a0
  have hx0 := x0.trans x1
  rw [← hw0] at hb0 hx0 a1 s1
  have hxe := hx0.alloc (.cells #[] 28)
  have HR0 : Hid (SO w (w0.alloc (.cells #[] 28)) b N F ideal 0 M0 MR0 l qa pa qn qc pn pc M0 MR0 F (.slice sa0 0 sc0) ⟨w0.heap.size, 0, none⟩ 0 []) := hid {
    too := .of_ext hat hxe
    box := heap_alloc_some hb0
    res := heap_alloc_some a1
    bF := ⟨fun h => by have := hat.foot_lt _ h; omega, fun h => by have := hat.foot_lt _ h; omega⟩
    st := by rw [hrs]; exact hst0 _ _
    own := own_emptyO w0
    on := ⟨by show w.heap.size ≤ w0.heap.size; omega, fun h => by have := hat.foot_lt _ h; simp only at this; omega⟩
    ol := rfl
    el := fun x hx => by cases hx
    rel := hrel0
    qs := rfl
    rqs := rfl
    dr := by omega
    dr2 := by omega
    fold := rfl
    len := by rw [hrs]; simp
    idl := hid0
    pl := fun s hs => by rw [hss] at hs; cases hs
    sl := fun s hs => by rw [hrs] at hs; cases hs }
  have HW := hid hw0
  have HN := hid hN
  have HS0 : Hid (w0.heap.size = N + 1 + 1) := hid s1
  have HX0 := hid hx0
  have HD0 := hid hd0
  have HL := hid (fun (v : World) (k : Kp F w v) => show RdP v (.slice la l.length lc) l from by
    obtain ⟨a, c, he, h2, h3, h4, h5⟩ := hl
    injection he with e1 e2 e3
    subst e1 e3
    refine ⟨la, lc, rfl, h2, h3, h4, fun ad ha => ⟨(h5 ad ha).1, fun i x hx j u hu => k.cell_some (hlF ad.block (by rw [ha]; rfl) (by rintro rfl; simp at hx)) ((h5 ad ha).2 i x hx j u hu)⟩⟩)
  have HAT := hid hat.foot_lt
  clear hw0 a0 s0 x0 a1 s1 x1 hb0 hx0 hxe hat hrel0 hss hrs hst0 hid0 hl hlF hj hy0 hy1 hy2 hlc hlm
  go_enter Tryz.func18, Tryz.ntmps18
  go_upto_region 1 with fail
  rw [← HW.out, ← hN]
  clear hN
  go_wp2_with fail
  go_loopw [8, 19] (fun ov iv wr => ∃ (i : Nat) (M MR : Orc) (F' : Nat → Prop) (sv : Value) (oa : Addr) (oc : Nat) (O : List Ot), i ≤ l.length ∧ ov = .slice (some oa) i oc ∧ iv = .int .i64 i ∧ Hid (SO w wr b N F ideal i M0 MR0 l qa pa qn qc pn pc M MR F' sv oa oc O)) (fun _ iv _ => l.length - (intOf iv).toNat)
  case atStart => exact ⟨0, _, _, F, _, _, _, [], by omega, rfl, rfl, HR0⟩
  case round =>
    clear HR0
    obtain ⟨i, M, MR, F', sv, oa, oc, O, hi, rfl, rfl, HR⟩ := hrel
    obtain ⟨sa, sc, rfl⟩ := HR.out.st.now.len
    by_cases hlt : i < l.length
    · have hltB : decide ((i : Int) < (l.length : Int)) = true := by simp; omega
      obtain ⟨x, hxi⟩ : ∃ x, l[i]? = some x := ⟨_, List.getElem?_eq_getElem hlt⟩
      obtain ⟨xb, xo, rfl, q0, q1, q2, q3, q4, q5, q6, q7, q8⟩ := (HL.out wr HR.out.too.kp).at hxi
      have hil : (i : Int) < (l.length : Int) := by omega
      have hi0 : (0 : Int) ≤ (i : Int) := Int.natCast_nonneg _
      have HXI := hid hxi
      clear hxi
      go_upto_region 5 with fail
      obtain ⟨P, hP⟩ : ∃ P, P = wr.heap.size := ⟨_, rfl⟩
      obtain ⟨w1, hw1⟩ : ∃ w1, w1 = wr.alloc (.cells #[.int .i64 x.num, uv x.owner, uv x.a.a, uv x.a.b, uv x.n.value, uv x.n.owner, uv x.n.rho, uv x.n.blind, uv x.e] 66) := ⟨_, rfl⟩
      have hx1 : Ext wr w1 := by rw [hw1]; exact (Ext.refl wr).alloc _
      have hb1 : w1.heap[P]? = some (.cells #[.int .i64 x.num, uv x.owner, uv x.a.a, uv x.a.b, uv x.n.value, uv x.n.owner, uv x.n.rho, uv x.n.blind, uv x.e] 66 (0, 0)) := by rw [hw1, hP]; exact heap_new _ _
      rw [← hw1, ← hP]
      have HY1 := hid hx1
      have HP1 := hid hb1
      have HPW : Hid (P = wr.heap.size) := hid hP
      clear hw1 hx1 hb1 q0 q1 q2 q3 q4 q5 q6 q7 q8 hP
      have nine : Hid (∀ v : World, v.heap[P]? = some (.cells #[.int .i64 x.num, uv x.owner, uv x.a.a, uv x.a.b, uv x.n.value, uv x.n.owner, uv x.n.rho, uv x.n.blind, uv x.e] 66 (0, 0)) → v.cell? ⟨P, 0, none⟩ = some (.int .i64 x.num) ∧ v.cell? ⟨P, 1, none⟩ = some (uv x.owner) ∧ v.cell? ⟨P, 2, none⟩ = some (uv x.a.a) ∧ v.cell? ⟨P, 3, none⟩ = some (uv x.a.b) ∧
        v.cell? ⟨P, 4, none⟩ = some (uv x.n.value) ∧ v.cell? ⟨P, 5, none⟩ = some (uv x.n.owner) ∧ v.cell? ⟨P, 6, none⟩ = some (uv x.n.rho) ∧ v.cell? ⟨P, 7, none⟩ = some (uv x.n.blind) ∧ v.cell? ⟨P, 8, none⟩ = some (uv x.e)) := hid fun v h => ⟨cell_of h 0, cell_of h 1, cell_of h 2, cell_of h 3, cell_of h 4, cell_of h 5, cell_of h 6, cell_of h 7, cell_of h 8⟩
      obtain ⟨p0, p1, p2, p3, p4, p5, p6, p7, p8⟩ := nine.out _ HP1.out
      have HSE := hid (envSeal_any (num := x.num) (owner := x.owner) (a := x.a) (n := x.n) (ex := x.e) (HR.out.too.at'.ext HY1.out) (by have := HR.out.dr; have := HD0.out; omega))
      have hrel := HR.out.rel.envSeal x.a x.n x.e
      have hadd := envSeal_adds M x.a x.n x.e
      obtain ⟨r, hr⟩ : ∃ r, r = M.envSeal x.a x.n x.e := ⟨_, rfl⟩
      rw [← hr] at HSE hrel hadd
      have HRF := hid hr
      clear hr
      go_wp2_with fail
      refine (HSE.out).mono ?_
      rintro e w2 ⟨v, F2, rfl, hown, hto, hvn⟩
      obtain ⟨⟨q, c⟩, M2⟩ := r
      simp only at hown hto hvn hrel hadd ⊢
      obtain ⟨va, vc, rfl, -⟩ := ownsRow_rd hown
      have HTO := hid hto
      have HOW := hid hown
      have HVN := hid hvn
      have HREL := hid hrel
      have HADD := hid hadd
      have hP2 := hto.kp.heap_some (fun h => by have := HR.out.too.at'.foot_lt _ h; have := HPW.out; omega) HP1.out
      have hB2 := hto.kp.heap_some HR.out.bF.1 (HY1.out.heap_some HR.out.box)
      have HP2 := hid hP2
      have HB2 := hid hB2
      clear hown hto hvn hrel hadd HSE p0 p1 p2 p3 p4 p5 p6 p7 p8 hP2 hB2
      go_upto_region 6 with fail
      obtain ⟨Q, hQ⟩ : ∃ Q, Q = w2.heap.size := ⟨_, rfl⟩
      obtain ⟨w3, hw3⟩ : ∃ w3, w3 = w2.alloc q.o := ⟨_, rfl⟩
      have hx3 : Ext w2 w3 := by rw [hw3]; exact (Ext.refl w2).alloc _
      have hb3 : w3.heap[Q]? = some q.o := by rw [hw3, hQ]; exact heap_new _ _
      rw [← hw3, ← hQ]
      have HY3 := hid hx3
      have HQ3 := hid hb3
      have HQW : Hid (Q = w2.heap.size) := hid hQ
      clear hw3 hx3 hb3 hQ
      have hkp13 : Kp F' wr w3 := ((Kp.of_ext HY1.out).trans HTO.out.kp).ext HY3.out
      have HKP := hid hkp13
      have hnz := heap_lt HR.out.box
      have hnz1 := heap_lt HR.out.res
      have hoz : oa.block < wr.heap.size := ownsRow_lt HR.out.own rfl
      have hst3 := HR.out.st.grow (G' := fun k => k = N ∨ k = N + 1 ∨ F2 k ∨ k = oa.block ∨ k < w.heap.size) (hkp13.mono fun k _ h => .inr (.inr (.inl h))) (fun k h => by
        rcases h with h | h | h | h | h
        · exact .inl (.inl h)
        · exact .inl (.inr (.inl h))
        · rcases HTO.out.new k h with h | h
          · exact .inl (.inr (.inr (.inl h)))
          · have := HY1.out.size; right; omega
        · exact .inl (.inr (.inr (.inr (.inl h))))
        · exact .inl (.inr (.inr (.inr (.inr h)))))
      have hBlt := heap_lt HB2.out
      have HRS := hid (rEnvSeal_any (G := fun k => k = N ∨ k = N + 1 ∨ F2 k ∨ k = oa.block ∨ k < w.heap.size) (M := MR) (qv := .slice qa qn qc) (pv := .slice pa pn pc) (num := x.num) (owner := x.owner) (a := x.a) (n := x.n) (ex := x.e) ⟨_, _, _, rfl⟩ ⟨_, _, _, rfl⟩ hst3 (fun k h => by
        have := HY3.out.size
        have := HY1.out.size
        have := HTO.out.kp.size
        have := HR.out.too.kp.size
        rcases h with h | h | h | h | h
        · omega
        · omega
        · have := HTO.out.at'.foot_lt k h; omega
        · omega
        · omega) (by have := HR.out.len; omega) (by have := HR.out.dr2; have := HD0.out; omega))
      obtain ⟨p0, p1, p2, p3, p4, p5, p6, p7, p8⟩ := nine.out _ (HY3.out.heap_some HP2.out)
      obtain ⟨d0, d1, d2, d3, d4, d5⟩ := six_cellsP (HY3.out.heap_some HB2.out)
      rw [show MR.ideal = ideal from HR.out.rel.ideal.trans HR.out.idl] at HRS
      have hra := rEnvSeal_adds MR x.a x.n x.e
      have hrd := rEnvSeal_addsD MR x.a x.n x.e
      obtain ⟨r2, hr2⟩ : ∃ r2, r2 = MR.rEnvSeal x.a x.n x.e := ⟨_, rfl⟩
      have hrel := HREL.out
      rw [← hr2] at HRS hrel hra hrd
      clear hr2 hkp13 hst3 hBlt hnz hnz1 hoz
      go_wp2_with fail
      refine (HRS.out).mono ?_
      rintro e w4 ⟨v2, sv2, rfl, hst4, hrd4, hx4⟩
      obtain ⟨⟨q', c'⟩, MR2⟩ := r2
      simp only at hst4 hrd4 hrel hra hrd ⊢
      obtain ⟨he, hrel⟩ := hrel
      injection he with he1 he2
      subst he1 he2
      rw [show MR2.ideal = ideal from hrel.ideal.trans (HADD.out.ideal.trans HR.out.idl)]
      obtain ⟨sa2, sc2, rfl⟩ := hst4.now.len
      obtain ⟨ua, uc, rfl, -⟩ := hrd4 w4 (Kp.refl _ _)
      have HST4 := hid hst4
      have HRD4 := hid hrd4
      have HY4 := hid hx4
      have HREL2 := hid hrel
      have HRA := hid hra
      have HRDD := hid hrd
      clear hst4 hrd4 hx4 hrel hra hrd HRS HREL p0 p1 p2 p3 p4 p5 p6 p7 p8 d0 d1 d2 d3 d4 d5
      go_upto_region 7 with fail
      obtain ⟨T, hT⟩ : ∃ T, T = w4.heap.size := ⟨_, rfl⟩
      obtain ⟨w5, hw5⟩ : ∃ w5, w5 = (w4.alloc q'.o).alloc (.cells #[.bool ideal, uv MR2.state, .int .i64 (MR2.draws : Int), .slice qa qn qc, .slice sa2 MR2.seals.length sc2, .slice pa pn pc] 38) := ⟨_, rfl⟩
      obtain ⟨a0, s0, x0⟩ := alloc_step w4 q'.o hT.symm
      obtain ⟨a1, s1, x1⟩ := alloc_step (w4.alloc q'.o) (.cells #[.bool ideal, uv MR2.state, .int .i64 (MR2.draws : Int), .slice qa qn qc, .slice sa2 MR2.seals.length sc2, .slice pa pn pc] 38) s0
      have hx5 := x0.trans x1
      have hb5 := x1.heap_some a0
      rw [← hw5] at hx5 hb5 a1 s1
      rw [← hw5, ← hT]
      have HY5 := hid hx5
      have HT5 := hid hb5
      have HT15 := hid a1
      have HTW : Hid (T = w4.heap.size) := hid hT
      clear hw5 a0 s0 x0 a1 s1 x1 hx5 hb5 hT
      have HB5 := hid ((HY3.out.trans (HY4.out.trans HY5.out)).heap_some HB2.out)
      obtain ⟨t0, t1, t2, t3, t4, t5⟩ := six_cellsP HT15.out
      obtain ⟨k0, k1, k2, k3, k4, k5⟩ := six_cellsP HB5.out
      have kf := frozen_of HB5.out
      obtain ⟨hb6, hk6⟩ := six_setP (d0 := .bool ideal) (d1 := uv MR2.state) (d2 := .int .i64 (MR2.draws : Int)) (d3 := .slice qa qn qc) (d4 := .slice sa2 MR2.seals.length sc2) (d5 := .slice pa pn pc) HB5.out
      have HB6 := hid hb6
      have HK6 := hid hk6
      clear hb6 hk6
      go_upto_region 8 with fail
      generalize ((((((w5.setCell ⟨N, 0, none⟩ (.bool ideal)).setCell ⟨N, 1, none⟩ (uv MR2.state)).setCell ⟨N, 2, none⟩ (.int .i64 (MR2.draws : Int))).setCell ⟨N, 3, none⟩ (.slice qa qn qc)).setCell ⟨N, 4, none⟩ (.slice sa2 MR2.seals.length sc2)).setCell ⟨N, 5, none⟩ (.slice pa pn pc)) = w6 at *
      clear t0 t1 t2 t3 t4 t5 k0 k1 k2 k3 k4 k5 kf
      have hBlt := heap_lt HB2.out
      have hqw := HQW.out
      have htw := HTW.out
      have hy3 := HY3.out.size
      have hy4 := HY4.out.size
      have HY25 := hid (HY3.out.trans (HY4.out.trans HY5.out))
      have HQ6 := hid (HK6.out.heap_some (by omega) ((HY4.out.trans HY5.out).heap_some HQ3.out))
      have HT6 := hid (HK6.out.heap_some (by omega) HT5.out)
      have hnz := heap_lt HR.out.box
      have hnz1 := heap_lt HR.out.res
      have hoz : oa.block < wr.heap.size := ownsRow_lt HR.out.own rfl
      have hy1 := HY1.out.size
      have HZZ := hid (And.intro hnz (And.intro hnz1 (And.intro hoz hy1)))
      have hbF2 : ¬ F2 N := HTO.out.far (by omega) HR.out.bF.1
      have hbF3 : ¬ F2 (N + 1) := HTO.out.far (by omega) HR.out.bF.2
      have hbF4 : ¬ F2 oa.block := HTO.out.far (by omega) HR.out.on.2
      have HBF := hid (And.intro hbF2 (And.intro hbF3 hbF4))
      have HNE := hid HR.out.ne
      have HT6' := hid ((((HR.out.too.trans (OrcTo.pre HY1.out HTO.out)).ext HY25.out).other HK6.out (fun k e => by subst e; exact ⟨hbF2, by have := HN.out; omega⟩)))
      have HRC : Hid (OwnU w6 (.slice va c'.length vc) c') := hid (ownsRow_kp (ownsRow_ext HOW.out HY25.out) HK6.out (fun k h e => by
        have := (HVN.out k h).1
        omega))
      have hk6G : Kp (fun k => k = N ∨ k = N + 1 ∨ F2 k ∨ k = oa.block ∨ k < w.heap.size) w4 w6 := (Kp.of_ext HY5.out).trans (HK6.out.mono fun k _ h => .inl h)
      have HRD6 : Hid (RdU' w6 (.slice ua c'.length uc) c') := hid (HRD4.out w6 hk6G).weak
      have HST6 : Hid (StS (fun k => k = N ∨ k = N + 1 ∨ F2 k ∨ k = oa.block ∨ k < w.heap.size) w6 (.slice sa2 MR2.seals.length sc2) MR2.seals) := hid (HST4.out.grow hk6G (fun k h => .inl h))
      have HOO : Hid (w6.ownsRow 0 28 4 (.slice (some oa) i oc) i (oCells O)) := hid (ownsRow_kp (ownsRow_ext (ownsRow_kp HR.out.own HKP.out (fun k h e => by cases h; exact HR.out.on.2 e)) (HY4.out.trans HY5.out)) HK6.out (fun k h e => by cases h; exact HNE.out.1 e))
      have HEL : Hid (∀ x ∈ O, OwnU w6 x.2.2 x.2.1 ∧ x.2.1.length ≤ 3 ∧ ∀ k, blk x.2.2 = some k → w.heap.size ≤ k ∧ ¬ F2 k) := hid fun x hx => by
        obtain ⟨h1, h2, h3⟩ := HR.out.el x hx
        refine ⟨ownsRow_kp (ownsRow_ext (ownsRow_kp h1 HKP.out (fun k h e => (h3 k h).2 e)) (HY4.out.trans HY5.out)) HK6.out (fun k h e => by subst e; exact (HNE.out.2.2 x hx).1 h), h2, fun k h => ⟨(h3 k h).1, HTO.out.far (by have := ownsRow_lt h1 h; omega) (h3 k h).2⟩⟩
      have HRES6 := hid (HK6.out.heap_some (by omega) ((HY4.out.trans HY5.out).heap_some (HKP.out.heap_some HR.out.bF.2 HR.out.res)))
      have HEQ : Hid ((Op.equalIn 10000 25 (.agg #[uv q'.a, uv q'.b]) (.agg #[uv q'.a, uv q'.b])).run Tryz.prog w6 = .ok true w6) := hid (by rw [e2Eq, E2.same_refl])
      obtain ⟨u0, u1⟩ := two_cells HQ6.out
      obtain ⟨z0, z1⟩ := two_cells HT6.out
      have hc3 := HADD.out.len
      have HSM2 := hid (Same35_any _ _ c' c' w6 (OwnU.rdu HRC.out).weak HRD6.out (by omega) (by omega))
      rw [show (c' == c') = true by simp] at HSM2
      clear hBlt hqw htw hy3 hy4 hbF2 hbF3 hbF4 hnz hnz1 hoz hy1 hk6G
      go_wp2_with fail
      rw [HEQ.out, Result.andThen_ok, Result.andThen_ok]
      clear u0 u1 z0 z1
      go_wp2_with fail
      refine (HSM2.out).mono ?_
      rintro e w7 ⟨rfl, hx7⟩
      have HX7 := hid hx7
      obtain ⟨u0, u1⟩ := two_cells (hx7.heap_some HQ6.out)
      have ho7 := ownsRow_ext HOO.out (hx7.trans ((Ext.refl w7).alloc (.cells #[.int .u64 0, uv q'.a, uv q'.b, .slice va c'.length vc] 28)))
      have hrd : RdC' (w7.alloc (.cells #[.int .u64 0, uv q'.a, uv q'.b, .slice va c'.length vc] 28)) (.slice (some ⟨w7.heap.size, 0, none⟩) 1 1) 1 [.int .u64 0, uv q'.a, uv q'.b, .slice va c'.length vc] := (RdC.block (heap_new _ _) (by unfold maxLen; omega)).weak
      have hlim : i + 1 ≤ 100 := by omega
      clear hx7 HSM2
      go_wp2_with (at_builtin; refine wpList_app' rfl _ _ 62 rfl 28 j0 (.agg #[.int .u64 0, .int .u64 0, .int .u64 0, .slice none 0 0]) 4 48 (by kernel_rfl) HJ.out.1 HJ.out.2.1 HJ.out.2.2.1 HJ.out.2.2.2 rfl (by decide) (.slice (some oa) i oc) i (oCells O) rfl ho7 (.slice (some ⟨w7.heap.size, 0, none⟩) 1 1) 1 [.int .u64 0, uv q'.a, uv q'.b, .slice va c'.length vc] rfl hrd rfl (by intro u hu; simp only [List.mem_cons, List.not_mem_nil, or_false] at hu; rcases hu with rfl | rfl | rfl | rfl <;> rfl) (by unfold maxLen; omega) (by omega) ?_)
      intro v9 w9 hown9 hk9 hb9
      have HK9 := hid hk9
      obtain ⟨oa9, oc9, rfl⟩ : ∃ oa9 oc9, v9 = .slice (some oa9) (i + 1) oc9 := by
        rcases hown9.2 with ⟨-, h⟩ | ⟨g, cap, cur, he, -⟩
        · omega
        · exact ⟨_, _, he⟩
      have hb9' : oa9.block = oa.block ∨ oa9.block = w7.heap.size + 1 := by
        rcases hb9 with h | h
        · left; injection h
        · right; injection h
      have HB9 := hid hb9'
      have HO9 := hid hown9
      have hz := HZZ.out
      have hs27 : wr.heap.size ≤ w7.heap.size := by have := HKP.out.size; have := (HY4.out.trans HY5.out).size; have := HK6.out.size; have := HX7.out.size; omega
      have hkF2 : ∀ k, F2 k → k < w2.heap.size := HTO.out.at'.foot_lt
      have hs2 : w2.heap.size ≤ w7.heap.size := by have := HY25.out.size; have := HK6.out.size; have := HX7.out.size; omega
      have hoe : ∀ k, some k = blk (.slice (some oa) i oc) → k = oa.block := fun k h => by injection h
      have hxa := HX7.out.alloc (.cells #[.int .u64 0, uv q'.a, uv q'.b, .slice va c'.length vc] 28)
      have hnx : SO w w9 b N F ideal (i + 1) M0 MR0 l qa pa qn qc pn pc M2 MR2 F2 (.slice sa2 MR2.seals.length sc2) oa9 oc9 (O ++ [(q', c', .slice va c'.length vc)]) := {
        too := (HT6'.out.ext hxa).other HK9.out (fun k e => by rw [hoe k e]; exact ⟨HBF.out.2.2, HR.out.on.1⟩)
        box := HK9.out.heap_some (fun e => HNE.out.1 (hoe _ e).symm) (hxa.heap_some HB6.out)
        res := HK9.out.heap_some (fun e => HNE.out.2.1 (hoe _ e).symm) (hxa.heap_some HRES6.out)
        bF := ⟨HBF.out.1, HBF.out.2.1⟩
        st := HST6.out.grow ((Kp.of_ext hxa).trans (HK9.out.mono fun k _ h => .inr (.inr (.inr (.inl (hoe k h)))))) (fun k h => by
          rcases h with h | h | h | h | h
          · exact .inl (.inl h)
          · exact .inl (.inr (.inl h))
          · exact .inl (.inr (.inr (.inl h)))
          · rcases HB9.out with h' | h'
            · exact .inl (.inr (.inr (.inr (.inl (h.trans h')))))
            · have := HX7.out.size; right; omega
          · exact .inl (.inr (.inr (.inr (.inr h)))))
        own := by rw [oCells_snoc]; exact HO9.out
        on := by
          rcases HB9.out with h | h
          · rw [h]; exact ⟨HR.out.on.1, HBF.out.2.2⟩
          · rw [h]; exact ⟨by have := HR.out.too.kp.size; omega, fun hf => by have := hkF2 _ hf; omega⟩
        ol := by rw [List.length_append, HR.out.ol]; rfl
        el := fun y hy => by
          rcases List.mem_append.1 hy with h | h
          · obtain ⟨h1, h2, h3⟩ := HEL.out y h
            exact ⟨ownsRow_kp (ownsRow_ext h1 hxa) HK9.out (fun k hk e => by rw [hoe k e] at hk; exact (HNE.out.2.2 y h).2.2 hk), h2, h3⟩
          · rw [List.mem_singleton] at h
            subst h
            refine ⟨ownsRow_kp (ownsRow_ext HRC.out hxa) HK9.out (fun k hk e => by
              have := (HVN.out k hk).1
              rw [hoe k e] at this
              omega), HADD.out.len, fun k hk => ⟨by have := (HVN.out k hk).1; have := HR.out.too.kp.size; omega, (HVN.out k hk).2⟩⟩
        rel := HREL2.out
        qs := HADD.out.qs.trans HR.out.qs
        rqs := HRDD.out.qs.trans HR.out.rqs
        dr := by have := HADD.out.draws; have := HR.out.dr; omega
        dr2 := by have := HRDD.out.draws; have := HR.out.dr2; omega
        fold := by
          have hf := HR.out.fold
          unfold sealsF at hf ⊢
          rw [List.take_add_one, HXI.out, List.foldl_append, hf]
          simp only [Option.toList, List.foldl_cons, List.foldl_nil, sealStep]
          rw [← HRF.out, List.map_append]
          rfl
        len := by have := HRA.out.len; have := HR.out.len; omega
        idl := HADD.out.ideal.trans HR.out.idl
        pl := fun s hs => by
          rcases HADD.out.seals s hs with h | h
          · exact HR.out.pl s h
          · omega
        sl := fun s hs => by
          rcases HRA.out.mem s hs with h | h
          · exact HR.out.sl s h
          · exact h }
      have HNX := hid hnx
      clear hown9 hk9 hb9 hb9' hz hs27 hkF2 hs2 hoe hxa hnx ho7 hrd u0 u1
      go_wp2_with fail
      go_roundw
      case rel => exact ⟨i + 1, M2, MR2, F2, _, oa9, oc9, _, by omega, rfl, by go_num, HNX⟩
      case measure => simp [intOf]; omega
    · obtain rfl : i = l.length := by omega
      have hltB : decide ((l.length : Int) < (l.length : Int)) = false := by simp
      have H6 : Hid (∀ v, Ext wr v → v.cell? ⟨N, 0, none⟩ = some (.bool ideal) ∧ v.cell? ⟨N, 1, none⟩ = some (uv MR.state) ∧ v.cell? ⟨N, 2, none⟩ = some (.int .i64 (MR.draws : Int)) ∧ v.cell? ⟨N, 3, none⟩ = some (.slice qa qn qc) ∧ v.cell? ⟨N, 4, none⟩ = some (.slice sa MR.seals.length sc) ∧ v.cell? ⟨N, 5, none⟩ = some (.slice pa pn pc)) := hid fun v k => six_cellsP (k.heap_some HR.out.box)
      go_wp2_with fail
      refine wp_region_T (fun v => (v.cell? ⟨N, 0, none⟩ = some (.bool ideal) ∧ v.cell? ⟨N, 1, none⟩ = some (uv MR.state) ∧ v.cell? ⟨N, 2, none⟩ = some (.int .i64 (MR.draws : Int)) ∧ v.cell? ⟨N, 3, none⟩ = some (.slice qa qn qc) ∧ v.cell? ⟨N, 4, none⟩ = some (.slice sa MR.seals.length sc) ∧ v.cell? ⟨N, 5, none⟩ = some (.slice pa pn pc)) ∧ Ext wr v) 3 [(0, true), (1, true), (2, true), (3, false)] (by kernel_rfl) (by kernel_rfl) (by intro c a d v w h; cases d <;> exact h) ?_
      intro ops hops
      have HS := keep0 H6.out
      iterate 3
        refine wpT_take (v := ?_) (by rw [hops, List.getElem?_toArray]; rfl) (by first | rfl | (rw [hops]; rfl)) ?_ HS ?_
        rotate_left
        · intro v h; go_simp; with_reducible rfl
        simp only [Act.put, List.getElem_toArray, List.getElem_cons_zero, List.getElem_cons_succ, List.setIfInBounds_toArray, List.set_cons_zero, List.set_cons_succ]
      obtain ⟨k0, k1, k2, k3, k4, k5⟩ := six_cellsP HR.out.res
      have kf := frozen_of HR.out.res
      obtain ⟨hb9, hk9⟩ := six_setP (d0 := .bool ideal) (d1 := uv MR.state) (d2 := .int .i64 (MR.draws : Int)) (d3 := .slice qa qn qc) (d4 := .slice sa MR.seals.length sc) (d5 := .slice pa pn pc) HR.out.res
      obtain ⟨r0, r1, r2, r3, r4, r5⟩ := six_cellsP hb9
      have HK9 := hid hk9.drew
      have HF := hid (And.intro r0 (And.intro r1 (And.intro r2 (And.intro r3 (And.intro r4 r5)))))
      clear HS hb9 hk9 r0 r1 r2 r3 r4 r5
      refine wpT_step (by rw [hops, List.getElem?_toArray]; rfl) (by first | rfl | (rw [hops]; rfl)) ?_
      intro K hK
      go_wp2_with fail
      try (with_reducible refine ⟨fun h => absurd h (by decide), ?_⟩)
      try rw [wpT_nil]
      try clear hops ops
      go_wp2_with fail
      obtain ⟨r0, r1, r2, r3, r4, r5⟩ := HF.out
      refine bodyPost_ret (v := .tuple #[.slice (some oa) l.length oc, .agg #[.bool ideal, uv MR.state, .int .i64 (MR.draws : Int), .slice qa qn qc, .slice sa MR.seals.length sc, .slice pa pn pc]]) (by simp [results, Tryz.results18, go_sem, r0, r1, r2, r3, r4, r5]) rfl ?_
      have hne := HR.out.ne
      refine ⟨M, MR, F', _, oa, oc, O, rfl, HR.out.too.other HK9.out (fun k e => by subst e; exact ⟨HR.out.bF.2, by have := HN.out; omega⟩), HR.out.st.grow (HK9.out.mono fun k _ h => .inr (.inl h)) (fun k h => h.elim (fun h => .inl (.inr (.inr (.inl h)))) fun h => .inl (.inr (.inr (.inr (.inr h))))), ownsRow_kp HR.out.own HK9.out (fun k h e => by cases h; exact hne.2.1 e), HR.out.on.1, HR.out.on.2, HR.out.ol, fun x hx => ?_, HR.out.rel, HR.out.qs, HR.out.rqs, HR.out.dr, HR.out.dr2, by have := HR.out.fold; rwa [List.take_length] at this, HR.out.len, HR.out.idl, HR.out.pl, HR.out.sl⟩
      obtain ⟨h1, h2, h3⟩ := HR.out.el x hx
      exact ⟨ownsRow_kp h1 HK9.out (fun k h e => by subst e; exact (hne.2.2 x hx).2.1 h), h2, h3⟩
end Go.Proofs.YtgfmjfkdogcnhaaGreat
