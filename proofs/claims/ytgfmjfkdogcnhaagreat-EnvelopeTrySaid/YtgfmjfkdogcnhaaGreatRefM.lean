/- The reference's ideal oracle (package 10) as a value in memory, and its functions: Find, Peek, Draw, record, Hash. -/
import Derived.Test.YtgfmjfkdogcnhaaGreatRdQ
import Derived.Test.YtgfmjfkdogcnhaaGreatWeak
import Derived.Test.YtgfmjfkdogcnhaaGreatOrc
set_option linter.unusedSimpArgs false
namespace Go.Proofs.YtgfmjfkdogcnhaaGreat
open Go.RowKit
attribute [local irreducible] perm fAdd fMul fPow fSub fNeg fRed hashU drawOf nextState

set_option maxRecDepth 100000 in
set_option maxHeartbeats 800000 in
theorem SameV_any (av bv : Value) (a b : List UInt64) (w : World) (ha : RdU' w av a) (hb : RdU' w bv b) (hA : a.length ≤ 1000000000000) (hB : b.length ≤ 1000000000000) :
    Calls Tryz.prog 58 #[av, bv] w fun e w' => e = .returned (.bool (a == b)) ∧ Ext w w' := by
  by_cases hlen : a.length = b.length
  · cases a with
    | nil =>
      obtain rfl : b = [] := List.length_eq_zero_iff.1 hlen.symm
      obtain ⟨aa, ac, rfl, -⟩ := ha
      obtain ⟨ba, bc, rfl, -⟩ := hb
      go_enter Tryz.func58, Tryz.ntmps58
      go_wp2
      go_loopw [5] (fun iv wr => iv = .int .i64 0 ∧ wr = w) (fun _ _ => 0)
      case atStart => exact ⟨rfl, rfl⟩
      case round =>
        obtain ⟨rfl, rfl⟩ := hrel
        go_wp2
        go_ret
        exact ⟨rfl, Ext.refl _⟩
    | cons x r =>
      cases b with
      | nil => simp at hlen
      | cons y s => exact Same_any av bv _ _ w (ha.rdu (by simp)) (hb.rdu (by simp)) hA hB
  · obtain ⟨aa, ac, rfl, -⟩ := ha
    obtain ⟨ba, bc, rfl, -⟩ := hb
    have hlB : ((a.length : Int) != (b.length : Int)) = true := by simp; omega
    have hfin : (a == b) = false := by
      rw [beq_eq_false_iff_ne]; rintro rfl; exact hlen rfl
    have HF := hid hfin
    clear hfin hlen
    go_enter Tryz.func58, Tryz.ntmps58
    go_wp2
    go_ret
    exact ⟨ret_bool HF.out.symm, Ext.refl _⟩

set_option maxRecDepth 100000 in
set_option maxHeartbeats 800000 in
theorem ElementsV_any (lv : Value) (l : List UInt64) (w : World) (hl : RdU' w lv l) (hL : l.length ≤ 1000000000000) :
    Calls Tryz.prog 39 #[lv] w fun e w' => e = .returned (.bool (allE l)) ∧ w = w' := by
  cases l with
  | cons x r => exact Elements_any lv _ w (hl.rdu (by simp)) hL
  | nil =>
    obtain ⟨aa, ac, rfl, -⟩ := hl
    go_enter Tryz.func39, Tryz.ntmps39
    go_wp2
    go_loop [3] (fun iv => iv = .int .i64 0) (fun _ => 0)
    case atStart => exact rfl
    case round =>
      obtain rfl := hrel
      go_wp2
      go_ret
      exact ⟨rfl, rfl⟩

/-! ## Find -/
def findI (qs : List Qn) (label : UInt64) (l : List UInt64) : Int := ((findQ qs label l).map fun (i : Nat) => (i : Int)).getD (-1)
theorem findI_hit {qs : List Qn} {label : UInt64} {l : List UInt64} {i : Nat} {q : Qn} (hq : qs[i]? = some q) (h : (q.label == label && q.elems == l) = true) (hno : ∀ (j : Nat) (p : Qn), j < i → qs[j]? = some p → (p.label == label && p.elems == l) = false) : findI qs label l = (i : Int) := by
  have : findQ qs label l = some i := by
    unfold findQ
    rw [List.findIdx?_eq_some_iff_getElem]
    obtain ⟨hi, rfl⟩ := List.getElem?_eq_some_iff.1 hq
    exact ⟨hi, h, fun j hj => by rw [hno j _ hj (List.getElem?_eq_getElem (by omega))]; decide⟩
  unfold findI
  rw [this]; rfl
theorem findI_miss {qs : List Qn} {label : UInt64} {l : List UInt64} (hno : ∀ (j : Nat) (p : Qn), j < qs.length → qs[j]? = some p → (p.label == label && p.elems == l) = false) : findI qs label l = -1 := by
  have : findQ qs label l = none := by
    unfold findQ
    rw [List.findIdx?_eq_none_iff]
    intro x hx
    obtain ⟨j, hj⟩ := List.mem_iff_getElem?.1 hx
    exact hno j x (List.getElem?_eq_some_iff.1 hj).1 hj
  unfold findI
  rw [this]; rfl
set_option maxRecDepth 100000 in
set_option maxHeartbeats 1600000 in
theorem rFind_any {w : World} {qv lv : Value} {qs : List Qn} {label : UInt64} {l : List UInt64} (hq : RdQ w qv qs) (hl : RdU' w lv l) (hE : ∀ q ∈ qs, q.elems.length ≤ 1000000000) (hL : l.length ≤ 1000000000) (hQ : qs.length ≤ 1000000000) :
    Calls Tryz.prog 74 #[qv, uv label, lv] w fun e w' => e = .returned (.int .i64 (findI qs label l)) ∧ Ext w w' := by
  obtain ⟨qa, qc, rfl, -⟩ := id hq
  obtain ⟨la, lc, rfl, -⟩ := id hl
  have HQ := hid hq
  have HL := hid hl
  have HE := hid hE
  have HLL := hid hL
  have HQL := hid hQ
  clear hq hl hE hL
  go_enter Tryz.func74, Tryz.ntmps74
  go_wp2_with fail
  go_loopw [7] (fun iv wr => ∃ i : Nat, i ≤ qs.length ∧ iv = .int .i64 i ∧ Hid (∀ (j : Nat) (p : Qn), j < i → qs[j]? = some p → (p.label == label && p.elems == l) = false) ∧ Hid (Ext w wr)) (fun iv _ => (qs.length - (intOf iv).toNat))
  case atStart => exact ⟨0, by omega, rfl, hid (fun j p hj => by omega), hid (Ext.refl _)⟩
  case round =>
    obtain ⟨i, hi, rfl, HNO, HX⟩ := hrel
    by_cases hlt : i < qs.length
    · have hltB : decide ((i : Int) < (qs.length : Int)) = true := by simp; omega
      obtain ⟨q, hq⟩ : ∃ q, qs[i]? = some q := ⟨_, List.getElem?_eq_getElem hlt⟩
      obtain ⟨ab, ao, ua, rfl, e0, e1, e2, e3⟩ := (HQ.out.ext HX.out).at hq
      obtain ⟨x1, x2, rfl, -⟩ := id e3
      have hil : (i : Int) < (qs.length : Int) := by omega
      have hi0 : (0 : Int) ≤ (i : Int) := Int.natCast_nonneg _
      have hlb := u_eqB q.label label
      have HS := hid (SameV_any _ _ _ _ _ e3.weak (HL.out.ext HX.out) (by have := HE.out q (List.mem_of_getElem? hq); omega) (by have := HLL.out; omega))
      have HQQ := hid hq
      clear hq e3
      cases hb : q.label == label with
      | false =>
        rw [hb] at hlb
        have HB := hid hb
        clear hb
        go_wp2_with fail
        go_roundw
        case rel => exact ⟨i + 1, by omega, by go_num, hid (fun j p hj hp => by
          rcases Nat.lt_or_ge j i with h | h
          · exact HNO.out j p h hp
          · obtain rfl : j = i := by omega
            rw [HQQ.out] at hp
            cases hp
            rw [HB.out]; rfl), HX⟩
        case measure => simp [intOf]; omega
      | true =>
        rw [hb] at hlb
        have HB := hid hb
        clear hb
        go_wp2_with fail
        refine HS.out.mono ?_
        rintro e w1 ⟨rfl, hx1⟩
        have HX1 := hid (HX.out.trans hx1)
        clear hx1
        cases hel : q.elems == l with
        | false =>
          have HEL := hid hel
          clear hel
          go_wp2_with fail
          go_roundw
          case rel => exact ⟨i + 1, by omega, by go_num, hid (fun j p hj hp => by
            rcases Nat.lt_or_ge j i with h | h
            · exact HNO.out j p h hp
            · obtain rfl : j = i := by omega
              rw [HQQ.out] at hp
              cases hp
              rw [HB.out, HEL.out]; rfl), HX1⟩
          case measure => simp [intOf]; omega
        | true =>
          have HF := hid (findI_hit HQQ.out (by rw [HB.out, hel]; rfl) HNO.out)
          clear hel
          go_wp2_with fail
          go_ret
          exact ⟨ret_int HF.out.symm, HX1.out⟩
    · obtain rfl : i = qs.length := by omega
      have hltB : decide ((qs.length : Int) < (qs.length : Int)) = false := by simp
      have HF := hid (findI_miss HNO.out)
      go_wp2_with fail
      go_ret
      exact ⟨ret_int HF.out.symm, HX.out⟩

/-! ## the model as a value -/
/-- A slice that reads as a list of questions: its cells, and the lists of elements. -/
def RdQc (w : World) (v : Value) (qs : List Qn) : Prop := ∃ Q : List (Qn × Value), Q.map (·.1) = qs ∧ RdC w v Q.length (qCells Q) ∧ ∀ x ∈ Q, RdU w x.2 x.1.elems
theorem RdQc.ext {w w' : World} {v : Value} {qs : List Qn} (h : RdQc w v qs) (k : Ext w w') : RdQc w' v qs := by
  obtain ⟨Q, h1, h2, h3⟩ := h
  exact ⟨Q, h1, h2.ext k, fun x hx => (h3 x hx).ext k⟩
theorem RdQc.rdQ {w : World} {v : Value} {qs : List Qn} (h : RdQc w v qs) : RdQ w v qs := by
  obtain ⟨Q, hQ, ⟨a, c, rfl, h1, h2, h3, h4⟩, he⟩ := h
  have hl : Q.length = qs.length := by rw [← hQ, List.length_map]
  rw [hl] at h1 ⊢
  refine ⟨a, c, rfl, h1, h2, h3, fun ad ha => ⟨(h4 ad ha).1, fun i q hq => ?_⟩⟩
  rw [← hQ, List.getElem?_map] at hq
  obtain ⟨⟨q', u⟩, hx, rfl⟩ := Option.map_eq_some_iff.1 hq
  obtain ⟨e0, e1, e2⟩ := qCells_at Q i q' u hx
  have hh := (h4 ad ha).2
  exact ⟨u, hh _ _ e0, by have := hh _ _ e1; rwa [← Nat.add_assoc] at this, by have := hh _ _ e2; rwa [← Nat.add_assoc] at this, he _ (List.mem_of_getElem? hx)⟩
theorem RdQc.nil (w : World) : RdQc w (.slice none 0 0) [] := ⟨[], rfl, RdC.nil w, fun x hx => by cases hx⟩
/-- The cells of a list of sealed lists. -/
def sCells (sv : List (Sl × Value × Value)) : List Value := sv.flatMap fun x => [uv x.1.key, uv x.1.nonce, x.2.1, x.2.2]
def RdSc (w : World) (v : Value) (ss : List Sl) : Prop := ∃ S : List (Sl × Value × Value), S.map (·.1) = ss ∧ RdC w v S.length (sCells S) ∧ ∀ x ∈ S, RdU w x.2.1 x.1.plain ∧ RdU w x.2.2 x.1.sealed
theorem RdSc.ext {w w' : World} {v : Value} {ss : List Sl} (h : RdSc w v ss) (k : Ext w w') : RdSc w' v ss := by
  obtain ⟨S, h1, h2, h3⟩ := h
  exact ⟨S, h1, h2.ext k, fun x hx => ⟨(h3 x hx).1.ext k, (h3 x hx).2.ext k⟩⟩
theorem RdSc.nil (w : World) : RdSc w (.slice none 0 0) [] := ⟨[], rfl, RdC.nil w, fun x hx => by cases hx⟩
def isSl (v : Value) : Prop := ∃ a n c, v = .slice a n c
/-- A model as a value: its state, draws, questions, sealed lists, proofs (of which nothing is said). -/
structure RdMc (w : World) (qv sv pv : Value) (M : Orc) : Prop where
  qs : RdQc w qv M.qs
  ss : RdSc w sv M.seals
  ps : isSl pv
abbrev mVal (st : UInt64) (n : Nat) (qv sv pv : Value) : Value := .agg #[uv st, .int .i64 (n : Int), qv, sv, pv]
def RdM (w : World) (v : Value) (M : Orc) : Prop := ∃ qv sv pv, v = mVal M.state M.draws qv sv pv ∧ RdMc w qv sv pv M
theorem RdMc.ext {w w' : World} {qv sv pv : Value} {M : Orc} (h : RdMc w qv sv pv M) (k : Ext w w') : RdMc w' qv sv pv M := ⟨h.qs.ext k, h.ss.ext k, h.ps⟩
theorem RdM.ext {w w' : World} {v : Value} {M : Orc} (h : RdM w v M) (k : Ext w w') : RdM w' v M := by
  obtain ⟨qv, sv, pv, h1, h2⟩ := h
  exact ⟨qv, sv, pv, h1, h2.ext k⟩
theorem RdMc.sl {w : World} {qv sv pv : Value} {M : Orc} (h : RdMc w qv sv pv M) : isSl qv ∧ isSl sv ∧ isSl pv := by
  obtain ⟨_, _, ⟨a, c, rfl, _⟩, _⟩ := h.qs
  obtain ⟨_, _, ⟨a', c', rfl, _⟩, _⟩ := h.ss
  exact ⟨⟨_, _, _, rfl⟩, ⟨_, _, _, rfl⟩, h.ps⟩
/-- Short enough for the walks. -/
def Orc.few (M : Orc) : Prop := M.qs.length ≤ 100000000 ∧ (∀ q ∈ M.qs, q.elems.length ≤ 100000000) ∧ M.draws ≤ 100000000

def peekI (qs : List Qn) (label : UInt64) (l : List UInt64) : UInt64 × Bool := match findQ qs label l with
  | some i => (answerAt qs i, true)
  | none => (0, false)
set_option maxRecDepth 100000 in
set_option maxHeartbeats 1600000 in
theorem rPeek_any {w : World} {c0 c1 qv c3 c4 lv : Value} {qs : List Qn} {label : UInt64} {l : List UInt64} (hq : RdQc w qv qs) (hl : RdU' w lv l) (hE : ∀ q ∈ qs, q.elems.length ≤ 100000000) (hL : l.length ≤ 1000000000) (hQ : qs.length ≤ 100000000) :
    Calls Tryz.prog 43 #[.agg #[c0, c1, qv, c3, c4], uv label, lv] w fun e w' => e = .returned (.tuple #[uv (peekI qs label l).1, .bool (peekI qs label l).2]) ∧ Ext w w' := by
  obtain ⟨n, hn⟩ : ∃ n, n = w.heap.size := ⟨_, rfl⟩
  obtain ⟨w0, hw0⟩ : ∃ w0, w0 = w.alloc (.cells #[c0, c1, qv, c3, c4] 36) := ⟨_, rfl⟩
  have hx0 : Ext w w0 := by rw [hw0]; exact (Ext.refl _).alloc _
  have hb0 : w0.heap[n]? = some (.cells #[c0, c1, qv, c3, c4] 36 (0, 0)) := by rw [hw0, hn]; exact heap_new _ _
  have hqq := (hq.ext hx0).rdQ
  have HF := hid (rFind_any (label := label) hqq (hl.ext hx0) (fun q hq => by have := hE q hq; omega) hL (by omega))
  have HQ := hid hqq
  have HX := hid hx0
  have d2 : w0.cell? ⟨n, 2, none⟩ = some qv := cell_of hb0 2
  have HB := hid hb0
  have HW := hid hw0
  have HN := hid hn
  obtain ⟨qa, qc, rfl, -⟩ := id hqq
  clear hq hl hE hL hx0 hb0 hqq hw0
  go_enter Tryz.func43, Tryz.ntmps43
  rw [HW.out] at d2
  rw [hn] at d2
  go_wp2_with fail
  rw [← HW.out]
  refine HF.out.mono ?_
  rintro e w1 ⟨rfl, hx1⟩
  have HX1 := hid (HX.out.trans hx1)
  have HXX := hid hx1
  have e2 : w1.cell? ⟨n, 2, none⟩ = some (.slice qa qs.length qc) := hx1.cell_some (cell_of HB.out 2)
  rw [HN.out] at e2
  unfold findI
  cases hf : findQ qs label l with
  | none =>
    have HP : Hid (peekI qs label l = (0, false)) := hid (by unfold peekI; rw [hf])
    clear hf d2 hx1
    simp only [Option.map_none, Option.getD_none]
    go_wp2_with fail
    exact bodyPost_ret (v := .tuple #[uv 0, .bool false]) (by simp [results, Tryz.results43, go_sem]) rfl ⟨by rw [HP.out], HX1.out⟩
  | some i =>
    have hi := findQ_lt hf
    obtain ⟨q, hqi⟩ : ∃ q, qs[i]? = some q := ⟨_, List.getElem?_eq_getElem hi⟩
    obtain ⟨ab, ao, ua, rfl, -, -, e3, -⟩ := (HQ.out.ext HXX.out).at hqi
    have ha : answerAt qs i = q.answer := by unfold answerAt; rw [hqi]; rfl
    have HP : Hid (peekI qs label l = (q.answer, true)) := hid (by unfold peekI; rw [hf]; simp only [ha])
    have hi0 : decide ((i : Int) < 0) = false := by simp
    have hil : (i : Int) < (qs.length : Int) := by omega
    have hi1 : (0 : Int) ≤ (i : Int) := by omega
    clear hf d2 hx1 hqi ha
    simp only [Option.map_some, Option.getD_some]
    go_wp2_with fail
    exact bodyPost_ret (v := .tuple #[uv q.answer, .bool true]) (by simp [results, Tryz.results43, go_sem]) rfl ⟨by rw [HP.out], HX1.out⟩
end Go.Proofs.YtgfmjfkdogcnhaaGreat
namespace Go.Proofs.YtgfmjfkdogcnhaaGreat
open Go.RowKit
theorem drawOf_eq (s : UInt64) : mix3 (mix2 (mix1 (nextState s))) = drawOf s := rfl
attribute [local irreducible] perm fAdd fMul fPow fSub fNeg fRed hashU drawOf nextState

/-- Two blocks of the call's own at the end of the heap. -/
theorem two_new (w : World) (o o' : Obj) : Ext w ((w.alloc o).alloc o') ∧ ((w.alloc o).alloc o').heap[w.heap.size]? = some o ∧ ((w.alloc o).alloc o').heap[w.heap.size + 1]? = some o' ∧ ((w.alloc o).alloc o').heap.size = w.heap.size + 2 := by
  refine ⟨((Ext.refl w).alloc o).alloc o', heap_alloc_some (heap_new _ _), ?_, by simp⟩
  have := heap_new (w.alloc o) o'
  rwa [World.size_alloc] at this
theorem five_cells {w : World} {b : Nat} {c0 c1 c2 c3 c4 : Value} {T : TypeId} (h : w.heap[b]? = some (.cells #[c0, c1, c2, c3, c4] T (0, 0))) :
    w.cell? ⟨b, 0, none⟩ = some c0 ∧ w.cell? ⟨b, 1, none⟩ = some c1 ∧ w.cell? ⟨b, 2, none⟩ = some c2 ∧ w.cell? ⟨b, 3, none⟩ = some c3 ∧ w.cell? ⟨b, 4, none⟩ = some c4 :=
  ⟨cell_of h 0, cell_of h 1, cell_of h 2, cell_of h 3, cell_of h 4⟩
/-- Five cells written over. -/
theorem five_set {w : World} {b : Nat} {c0 c1 c2 c3 c4 d0 d1 d2 d3 d4 : Value} {T : TypeId} (h : w.heap[b]? = some (.cells #[c0, c1, c2, c3, c4] T (0, 0))) :
    (((((w.setCell ⟨b, 0, none⟩ d0).setCell ⟨b, 1, none⟩ d1).setCell ⟨b, 2, none⟩ d2).setCell ⟨b, 3, none⟩ d3).setCell ⟨b, 4, none⟩ d4).heap[b]? = some (.cells #[d0, d1, d2, d3, d4] T (0, 0)) ∧
      Kp (fun k => k = b) w (((((w.setCell ⟨b, 0, none⟩ d0).setCell ⟨b, 1, none⟩ d1).setCell ⟨b, 2, none⟩ d2).setCell ⟨b, 3, none⟩ d3).setCell ⟨b, 4, none⟩ d4) :=
  ⟨heap_setCell_same (heap_setCell_same (heap_setCell_same (heap_setCell_same (heap_setCell_same h 0 d0) 1 d1) 2 d2) 3 d3) 4 d4,
   (((((Kp.refl (fun k => k = b) w).setCell (p := ⟨b, 0, none⟩) (.inl rfl) _).setCell (p := ⟨b, 1, none⟩) (.inl rfl) _).setCell (p := ⟨b, 2, none⟩) (.inl rfl) _).setCell (p := ⟨b, 3, none⟩) (.inl rfl) _).setCell (p := ⟨b, 4, none⟩) (.inl rfl) _⟩
set_option maxRecDepth 100000 in
set_option maxHeartbeats 1600000 in
theorem rDraw_any {w : World} {st : UInt64} {n : Nat} {qv sv pv : Value} (hn : n ≤ 1000000000000) (hq : isSl qv) (hs : isSl sv) (hp : isSl pv) :
    Calls Tryz.prog 44 #[.agg #[uv st, .int .i64 (n : Int), qv, sv, pv]] w fun e w' => e = .returned (.tuple #[uv (drawOf st), .agg #[uv (nextState st), .int .i64 ((n + 1 : Nat) : Int), qv, sv, pv]]) ∧ Ext w w' := by
  obtain ⟨qa, qn, qc, rfl⟩ := hq
  obtain ⟨sa, sn, sc, rfl⟩ := hs
  obtain ⟨pa, pn, pc, rfl⟩ := hp
  obtain ⟨hx0, hb0, hb1, hz0⟩ := two_new w (.cells #[uv st, .int .i64 (n : Int), (.slice qa qn qc), (.slice sa sn sc), (.slice pa pn pc)] 36) (.cells #[.int .u64 0, .int .i64 0, .slice none 0 0, .slice none 0 0, .slice none 0 0] 36)
  obtain ⟨w0, hw0⟩ : ∃ w0, w0 = (w.alloc (.cells #[uv st, .int .i64 (n : Int), (.slice qa qn qc), (.slice sa sn sc), (.slice pa pn pc)] 36)).alloc (.cells #[.int .u64 0, .int .i64 0, .slice none 0 0, .slice none 0 0, .slice none 0 0] 36) := ⟨_, rfl⟩
  rw [← hw0] at hx0 hb0 hb1 hz0
  have HW := hid hw0
  have HX := hid hx0
  have HB0 := hid hb0
  have HB1 := hid hb1
  have c0 : w0.cell? ⟨w.heap.size, 0, none⟩ = some (uv st) := cell_of hb0 0
  have c1 : w0.cell? ⟨w.heap.size, 1, none⟩ = some (.int .i64 (n : Int)) := cell_of hb0 1
  have hf := frozen_of hb0
  have hw1 := next_wrap st
  have hw2 : IntKind.i64.wrap ((n : Int) + 1) = (n : Int) + 1 := IntWalk.i64_in _ (by omega)
  have s1 := stage1 (nextState st)
  have s2 := stage2 (mix1 (nextState st))
  have s3 := stage3 (mix2 (mix1 (nextState st)))
  clear hn hw0 hx0 hb0 hb1
  go_enter Tryz.func44, Tryz.ntmps44
  go_upto_region 1 with fail
  rw [← HW.out]
  go_wp2_with fail
  obtain ⟨w2, hw2'⟩ : ∃ w2, w2 = (w0.setCell ⟨w.heap.size, 0, none⟩ (uv (nextState st))).setCell ⟨w.heap.size, 1, none⟩ (.int .i64 ((n : Int) + 1)) := ⟨_, rfl⟩
  have hb2 : w2.heap[w.heap.size]? = some (.cells #[uv (nextState st), .int .i64 ((n : Int) + 1), (.slice qa qn qc), (.slice sa sn sc), (.slice pa pn pc)] 36 (0, 0)) := by rw [hw2']; exact heap_setCell_same (heap_setCell_same HB0.out 0 _) 1 _
  have hk2 : Kp (fun k => k = w.heap.size) w0 w2 := by rw [hw2']; exact ((Kp.refl (fun k => k = w.heap.size) w0).setCell (p := ⟨w.heap.size, 0, none⟩) (.inl rfl) _).setCell (p := ⟨w.heap.size, 1, none⟩) (.inl rfl) _
  rw [← hw2']
  have hb3 := hk2.heap_some (by omega) HB1.out
  have HX2 := hid (HX.out.kp hk2 (fun k h => by subst h; exact Nat.le_refl _))
  have H5 : Hid (∀ v, Ext w2 v → v.cell? ⟨w.heap.size, 0, none⟩ = some (uv (nextState st)) ∧ v.cell? ⟨w.heap.size, 1, none⟩ = some (.int .i64 ((n : Int) + 1)) ∧ v.cell? ⟨w.heap.size, 2, none⟩ = some (.slice qa qn qc) ∧ v.cell? ⟨w.heap.size, 3, none⟩ = some (.slice sa sn sc) ∧ v.cell? ⟨w.heap.size, 4, none⟩ = some (.slice pa pn pc)) := hid fun v k => five_cells (k.heap_some hb2)
  have HB3 := hid hb3
  clear hw2' hb2 hk2 hb3 c0 c1 hf hw1 hw2 s1 s2
  refine wp_region_T (fun v => (v.cell? ⟨w.heap.size, 0, none⟩ = some (uv (nextState st)) ∧ v.cell? ⟨w.heap.size, 1, none⟩ = some (.int .i64 ((n : Int) + 1)) ∧ v.cell? ⟨w.heap.size, 2, none⟩ = some (.slice qa qn qc) ∧ v.cell? ⟨w.heap.size, 3, none⟩ = some (.slice sa sn sc) ∧ v.cell? ⟨w.heap.size, 4, none⟩ = some (.slice pa pn pc)) ∧ Ext w2 v) 4 [(0, true), (1, true), (2, true), (3, true), (4, false)] (by kernel_rfl) (by kernel_rfl) (by intro c a d v w h; cases d <;> exact h) ?_
  intro ops hops
  have HS := keep0 H5.out
  iterate 4
    refine wpT_take (v := ?_) (by rw [hops, List.getElem?_toArray]; rfl) (by first | rfl | (rw [hops]; rfl)) ?_ HS ?_
    rotate_left
    · intro v h; go_simp; with_reducible rfl
    simp only [Act.put, List.getElem_toArray, List.getElem_cons_zero, List.getElem_cons_succ, List.setIfInBounds_toArray, List.set_cons_zero, List.set_cons_succ]
  have hb4 := HB3.out
  obtain ⟨k0, k1, k2, k3, k4⟩ := five_cells hb4
  have kf := frozen_of hb4
  obtain ⟨hb5, hk5⟩ := five_set (d0 := uv (nextState st)) (d1 := .int .i64 ((n : Int) + 1)) (d2 := .slice qa qn qc) (d3 := .slice sa sn sc) (d4 := .slice pa pn pc) hb4
  have HX5 := hid ((HX2.out.kp hk5 (fun k h => by subst h; omega)).drew)
  obtain ⟨r0, r1, r2, r3, r4⟩ := five_cells hb5
  have HR := hid (And.intro r0 (And.intro r1 (And.intro r2 (And.intro r3 r4))))
  clear HS hb4 hb5 hk5 r0 r1 r2 r3 r4
  refine wpT_step (by rw [hops, List.getElem?_toArray]; rfl) (by first | rfl | (rw [hops]; rfl)) ?_
  intro K hK
  go_wp2_with fail
  refine ⟨fun h => absurd h (by decide), ?_⟩
  rw [wpT_nil]
  clear hops ops
  go_wp2_with fail
  obtain ⟨r0, r1, r2, r3, r4⟩ := HR.out
  exact bodyPost_ret (v := .tuple #[uv (drawOf st), .agg #[uv (nextState st), .int .i64 ((n + 1 : Nat) : Int), (.slice qa qn qc), (.slice sa sn sc), (.slice pa pn pc)]]) (by simp [results, Tryz.results44, go_sem, r0, r1, r2, r3, r4, drawOf_eq]) rfl ⟨rfl, HX5.out⟩

theorem own_emptyQ (v : World) : (v.alloc (.cells #[] 111)).ownsRow 0 111 3 (.slice (some ⟨v.heap.size, 0, none⟩) 0 0) 0 [] := ⟨rfl, .inr ⟨v.heap.size, 0, #[], rfl, Nat.zero_le _, heap_new v _, Nat.le_refl _, Nat.zero_le _, rfl, rfl⟩⟩
theorem RdC.wk {w : World} {v : Value} {n : Nat} {cells : List Value} (h : RdC w v n cells) : RdC' w v n cells := h.weak
theorem qCells_one (Q : List (Qn × Value)) (hs : ∀ x ∈ Q, isSl x.2) : ∀ u ∈ qCells Q, u.oneCell' = true := by
  intro u hu
  unfold qCells at hu
  rw [List.mem_flatMap] at hu
  obtain ⟨x, hx, hu⟩ := hu
  obtain ⟨a, n, c, h⟩ := hs x hx
  simp only [List.mem_cons, List.not_mem_nil, or_false] at hu
  rcases hu with rfl | rfl | rfl
  · rfl
  · rw [h]; rfl
  · rfl
theorem qCells_len (Q : List (Qn × Value)) : (qCells Q).length = Q.length * 3 := by
  unfold qCells
  induction Q with
  | nil => rfl
  | cons x r ih => simp only [List.flatMap_cons, List.length_append, ih, List.length_cons, List.length_nil]; omega
theorem qCells_snoc (Q : List (Qn × Value)) (q : Qn) (v : Value) : qCells (Q ++ [(q, v)]) = qCells Q ++ [uv q.label, v, uv q.answer] := by simp [qCells]
theorem RdU.sl {w : World} {v : Value} {l : List UInt64} (h : RdU w v l) : isSl v := by
  obtain ⟨a, c, rfl, _⟩ := h
  exact ⟨_, _, _, rfl⟩
/-- A list of questions, read in every later world in which only blocks of G turned. -/
def StQ (G : Nat → Prop) (w : World) (v : Value) (qs : List Qn) : Prop := ∃ Q : List (Qn × Value), Q.map (·.1) = qs ∧ ∀ w', Kp G w w' → RdC w' v Q.length (qCells Q) ∧ ∀ x ∈ Q, RdU w' x.2 x.1.elems
structure StMc (G : Nat → Prop) (w : World) (qv sv pv : Value) (M : Orc) : Prop where
  qs : StQ G w qv M.qs
  ss : ∀ w', Kp G w w' → RdSc w' sv M.seals
  ps : isSl pv
theorem StQ.now {G : Nat → Prop} {w : World} {v : Value} {qs : List Qn} (h : StQ G w v qs) : RdQc w v qs := by
  obtain ⟨Q, h1, h2⟩ := h
  exact ⟨Q, h1, (h2 w (Kp.refl _ _)).1, (h2 w (Kp.refl _ _)).2⟩
theorem StMc.now {G : Nat → Prop} {w : World} {qv sv pv : Value} {M : Orc} (h : StMc G w qv sv pv M) : RdMc w qv sv pv M := ⟨h.qs.now, h.ss w (Kp.refl _ _), h.ps⟩
/-- Later, and for other blocks: those of G' are of G, or were made since. -/
theorem StMc.grow {G G' : Nat → Prop} {w w' : World} {qv sv pv : Value} {M : Orc} (h : StMc G w qv sv pv M) (k : Kp G w w') (hG : ∀ i, G' i → G i ∨ w.heap.size ≤ i) : StMc G' w' qv sv pv M := by
  have hk : ∀ w'', Kp G' w' w'' → Kp G w w'' := fun w'' k' => k.trans2 k' fun i hi h => (hG i h).resolve_right (by omega)
  obtain ⟨Q, h1, h2⟩ := h.qs
  exact ⟨⟨Q, h1, fun w'' k' => h2 w'' (hk w'' k')⟩, fun w'' k' => h.ss w'' (hk w'' k'), h.ps⟩
theorem StMc.ext {G : Nat → Prop} {w w' : World} {qv sv pv : Value} {M : Orc} (h : StMc G w qv sv pv M) (k : Ext w w') : StMc G w' qv sv pv M := h.grow (.of_ext k) fun _ h => .inl h
theorem StMc.congr {G : Nat → Prop} {w : World} {qv sv pv : Value} {M N : Orc} (h : StMc G w qv sv pv M) (h1 : N.qs = M.qs) (h2 : N.seals = M.seals) : StMc G w qv sv pv N :=
  ⟨by rw [h1]; exact h.qs, fun w' k => by rw [h2]; exact h.ss w' k, h.ps⟩
theorem RdMc.st0 {w : World} {qv sv pv : Value} {M : Orc} (h : RdMc w qv sv pv M) : StMc (fun _ => False) w qv sv pv M := by
  have hk : ∀ w', Kp (fun _ => False) w w' → Ext w w' := fun w' k => k.toExt fun _ h => h.elim
  obtain ⟨Q, h1, h2, h3⟩ := h.qs
  exact ⟨⟨Q, h1, fun w' k => ⟨h2.ext (hk w' k), fun x hx => (h3 x hx).ext (hk w' k)⟩⟩, fun w' k => h.ss.ext (hk w' k), h.ps⟩
/-- What the two appends of a question leave. -/
theorem q_more {G : Nat → Prop} {qv : Value} {w w0 w1 w2 w3 : World} {Q : List (Qn × Value)} {v1 v2 v3 : Value} {label a : UInt64} {l : List UInt64} (hG : ∀ k, G k → k < w.heap.size) (hx0 : Ext w w0) (hQ : ∀ w', Kp G w w' → RdC w' qv Q.length (qCells Q) ∧ ∀ x ∈ Q, RdU w' x.2 x.1.elems)
    (h1 : w1.ownsRow 0 111 3 v1 Q.length (qCells Q)) (hx1 : Ext w0 w1) (hb1 : ∀ k, blk v1 = some k → w0.heap.size ≤ k) (h2 : OwnU w2 v2 l) (hx2 : Ext w1 w2) (hb2 : ∀ k, blk v2 = some k → w1.heap.size ≤ k)
    (h3 : w3.ownsRow 0 111 3 v3 (Q.length + 1) (qCells Q ++ [uv label, v2, uv a])) (hk : Kp (fun k => some k = blk v1) (w2.alloc (.cells #[uv label, v2, uv a] 111)) w3) (hb3 : blk v3 = blk v1 ∨ blk v3 = some (w2.alloc (.cells #[uv label, v2, uv a] 111)).heap.size) :
    Ext w0 w3 ∧ StQ (fun k => G k ∨ w.heap.size ≤ k ∧ k < w0.heap.size) w3 v3 (Q.map (·.1) ++ [⟨label, l, a⟩]) := by
  have hx02 : Ext w0 (w2.alloc (.cells #[uv label, v2, uv a] 111)) := (hx1.trans hx2).alloc _
  have hx : Ext w0 w3 := hx02.kp hk (fun k h => hb1 k h.symm)
  have hb : ∀ k, blk v3 = some k → w0.heap.size ≤ k := by
    intro k h
    rcases hb3 with h3 | h3
    · exact hb1 k (h3 ▸ h)
    · rw [h3] at h; cases h
      exact hx02.size
  have hz := hx0.size
  refine ⟨hx, Q ++ [(⟨label, l, a⟩, v2)], by simp, fun w' hw' => ⟨?_, ?_⟩⟩
  · rw [qCells_snoc]
    have := ownsRow_rd (ownsRow_kp h3 hw' (fun k h h' => by
      have := hb k h
      rcases h' with h' | h'
      · have := hG k h'; omega
      · omega))
    simpa using this
  · intro x hx'
    rcases List.mem_append.1 hx' with h | h
    · refine (hQ w' ?_).2 x h
      exact (Kp.of_ext (hx0.trans hx)).trans2 hw' fun i hi h => h.resolve_right (by omega)
    · rw [List.mem_singleton] at h
      subst h
      refine OwnU.rdu (ownsRow_kp (ownsRow_kp (ownsRow_ext h2 ((Ext.refl w2).alloc _)) hk fun k h4 h5 => ?_) hw' fun k h4 h5 => ?_)
      · have h6 := hb2 k h4
        have h7 := ownsRow_lt h1 h5.symm
        omega
      · have h6 := hb2 k h4
        have := hx1.size
        rcases h5 with h5 | h5
        · have := hG k h5; omega
        · omega
def RecM (G : Nat → Prop) (w : World) (M : Orc) (e : Ending) (w' : World) : Prop := ∃ qv sv pv, e = .returned (mVal M.state M.draws qv sv pv) ∧ StMc G w' qv sv pv M ∧ Ext w w'
set_option maxRecDepth 100000 in
set_option maxHeartbeats 3200000 in
theorem rRecord_any {G : Nat → Prop} {w : World} {qv sv pv lv : Value} {M : Orc} {label a : UInt64} {l : List UInt64} (hc : StMc G w qv sv pv M) (hG : ∀ k, G k → k < w.heap.size) (hl : RdU' w lv l) (hL : l.length ≤ 100000000) (hf : M.qs.length ≤ 100000000) :
    Calls Tryz.prog 45 #[mVal M.state M.draws qv sv pv, uv label, lv, uv a] w (RecM G w (M.add label l a)) := by
  obtain ⟨-, ⟨sa, sn, sc, rfl⟩, ⟨pa, pn, pc, rfl⟩⟩ := hc.now.sl
  obtain ⟨Q, hQs, hQk⟩ := id hc.qs
  obtain ⟨hQr, hQe⟩ := hQk w (Kp.refl _ _)
  have hQl : Q.length ≤ 100000000 := by rw [← hQs, List.length_map] at hf; exact hf
  obtain ⟨qa, qc, rfl, -⟩ := id hQr
  obtain ⟨la, lc, rfl, -⟩ := id hl
  obtain ⟨hx0, hb0, hb1, hz0⟩ := two_new w (.cells #[uv M.state, .int .i64 (M.draws : Int), .slice qa Q.length qc, .slice sa sn sc, .slice pa pn pc] 36) (.cells #[.int .u64 0, .int .i64 0, .slice none 0 0, .slice none 0 0, .slice none 0 0] 36)
  obtain ⟨w0, hw0⟩ : ∃ w0, w0 = (w.alloc (.cells #[uv M.state, .int .i64 (M.draws : Int), .slice qa Q.length qc, .slice sa sn sc, .slice pa pn pc] 36)).alloc (.cells #[.int .u64 0, .int .i64 0, .slice none 0 0, .slice none 0 0, .slice none 0 0] 36) := ⟨_, rfl⟩
  rw [← hw0] at hx0 hb0 hb1 hz0
  obtain ⟨i0, hi, hz0', hz1, hz2⟩ := info_parts Tryz.infoU
  obtain ⟨j0, hj, hy0, hy1, hy2⟩ := info_parts Tryz.infoQ
  have hQ1 := qCells_one Q (fun x hx => (hQe x hx).sl)
  have hQ2 := qCells_len Q
  have HW := hid hw0
  have HZ := hid hz0
  clear hw0 hz0
  go_enter Tryz.func45, Tryz.ntmps45
  go_upto_region 1 with fail
  rw [← HW.out]
  have d2 : (w0.alloc (.cells #[] 111)).cell? ⟨w.heap.size, 2, none⟩ = some (.slice qa Q.length qc) := ((Ext.refl w0).alloc _).cell_some (cell_of hb0 2)
  have hxe := (Ext.refl w0).alloc (.cells #[] 111)
  have ho1 := own_emptyQ w0
  go_wp2_with (at_builtin; refine wpList_app' rfl _ _ 33 rfl 111 j0 (.agg #[.int .u64 0, .slice none 0 0, .int .u64 0]) 3 40 (by kernel_rfl) hj hy0 hy1 hy2 rfl (by decide) (.slice (some ⟨w0.heap.size, 0, none⟩) 0 0) 0 [] rfl ho1 (.slice qa Q.length qc) Q.length (qCells Q) rfl ((hQr.ext (hx0.trans hxe)).weak) hQ2 hQ1 (by unfold maxLen; omega) (by omega) ?_)
  intro v1 w1 hown1 hk1 hbk1
  have HQE := hid hQk
  have HQS := hid hQs
  have HC := hid hc
  have HB0 := hid hb0
  have HB1 := hid hb1
  have HX0 := hid hx0
  have HL := hid hl
  have hown1' : w1.ownsRow 0 111 3 v1 Q.length (qCells Q) := by simpa using hown1
  have hx1 : Ext w0 w1 := hxe.kp hk1 (by intro k h; cases h; exact Nat.le_refl _)
  have hb1' : ∀ k, blk v1 = some k → w0.heap.size ≤ k := by
    intro k h
    rcases hbk1 with h' | h' <;> (rw [h'] at h; cases h)
    · exact Nat.le_refl _
    · omega
  obtain ⟨va, vc, rfl, -⟩ := ownsRow_rd hown1'
  have HO1 := hid hown1'
  have HX1 := hid hx1
  have HV1 := hid hb1'
  have HG := hid hG
  clear hG hQk hown1 hk1 hbk1 hxe ho1 d2 hQr hQ1 hQ2 hQe hQs hc hb0 hb1 hx0 hl hown1' hx1 hb1'
  have ho2 := own_empty w1
  have hxe := (Ext.refl w1).alloc (.cells #[] 22)
  have hl1 := ((HL.out.ext HX0.out).ext (HX1.out.trans hxe))
  go_wp2_with (at_builtin; refine wpList_app' rfl _ _ 26 rfl 22 i0 (.int .u64 0) 1 8 Tryz.underlying26 hi hz0' hz1 hz2 rfl (by decide) (.slice (some ⟨w1.heap.size, 0, none⟩) 0 0) 0 [] rfl ho2 (.slice la l.length lc) l.length (us l) rfl hl1 (by simp) (us_one l) (by unfold maxLen; omega) (by omega) ?_)
  intro v2 w2 hown2 hk2 hbk2
  obtain ⟨h2a, h2b, -, h2c⟩ := app_new (l := l) hxe (Nat.le_refl _) (by simp) (by simpa using hown2) hk2 (hbk2.imp id fun h => h.trans (by simp))
  obtain ⟨xa, xc, rfl, -⟩ := ownsRow_rd h2a
  have HO2 := hid h2a
  have HX2 := hid h2b
  have HV2 := hid h2c
  clear hown2 hk2 hbk2 hxe ho2 hl1 h2a h2b h2c
  have ho3 : (w2.alloc (.cells #[uv label, .slice xa l.length xc, uv a] 111)).ownsRow 0 111 3 (.slice va Q.length vc) Q.length (qCells Q) := ownsRow_ext HO1.out (HX2.out.alloc _)
  have hrd : RdC' (w2.alloc (.cells #[uv label, .slice xa l.length xc, uv a] 111)) (.slice (some ⟨w2.heap.size, 0, none⟩) 1 1) 1 [uv label, .slice xa l.length xc, uv a] :=
    (RdC.block (heap_new _ _) (by unfold maxLen; omega)).weak
  go_wp2_with (at_builtin; refine wpList_app' rfl _ _ 33 rfl 111 j0 (.agg #[.int .u64 0, .slice none 0 0, .int .u64 0]) 3 40 (by kernel_rfl) hj hy0 hy1 hy2 rfl (by decide) (.slice va Q.length vc) Q.length (qCells Q) rfl ho3 (.slice (some ⟨w2.heap.size, 0, none⟩) 1 1) 1 [uv label, .slice xa l.length xc, uv a] rfl hrd rfl (by intro u hu; simp only [List.mem_cons, List.not_mem_nil, or_false] at hu; rcases hu with rfl | rfl | rfl <;> rfl) (by unfold maxLen; omega) (by omega) ?_)
  intro v3 w3 hown3 hk3 hbk3
  obtain ⟨hx3, hq3⟩ := q_more (l := l) (label := label) (a := a) HG.out HX0.out HQE.out HO1.out HX1.out HV1.out HO2.out HX2.out HV2.out hown3 hk3 (hbk3.imp id fun h => h.trans (by simp))
  obtain ⟨ya, yc, rfl, -⟩ := ownsRow_rd hown3
  have e0 := hx3.heap_some HB0.out
  obtain ⟨k0, k1, k2, k3, k4⟩ := five_cells e0
  have kf := frozen_of e0
  have HE0 := hid e0
  have HX3 := hid hx3
  have HQ3 := hid hq3
  have HO3 := hid hown3
  have HZ3 : Hid (w.heap.size + 2 ≤ w3.heap.size) := hid (by rw [← HZ.out]; exact hx3.size)
  clear hown3 hk3 hbk3 hx3 hq3 ho3 hrd e0 k0 k1 k3 k4
  go_upto_region 2 with fail
  obtain ⟨w4, hw4⟩ : ∃ w4, w4 = w3.setCell ⟨w.heap.size, 2, none⟩ (.slice ya (Q.length + 1) yc) := ⟨_, rfl⟩
  have e4 : w4.heap[w.heap.size]? = some (.cells #[uv M.state, .int .i64 (M.draws : Int), .slice ya (Q.length + 1) yc, .slice sa sn sc, .slice pa pn pc] 36 (0, 0)) := by rw [hw4]; exact heap_setCell_same HE0.out 2 _
  have hk4 : Kp (fun k => k = w.heap.size) w3 w4 := by rw [hw4]; exact (Kp.refl (fun k => k = w.heap.size) w3).setCell (p := ⟨w.heap.size, 2, none⟩) (.inl rfl) _
  rw [← hw4]
  have f4 := hk4.heap_some (by omega) (HX3.out.heap_some HB1.out)
  obtain ⟨k0, k1, k2', k3, k4⟩ := five_cells e4
  obtain ⟨l0, l1, l2, l3, l4⟩ := five_cells f4
  have lf := frozen_of f4
  obtain ⟨f5, hk5⟩ := five_set (d0 := uv M.state) (d1 := .int .i64 (M.draws : Int)) (d2 := .slice ya (Q.length + 1) yc) (d3 := .slice sa sn sc) (d4 := .slice pa pn pc) f4
  have HF5 := hid f5
  have HK5 : Hid (Kp (fun k => k = w.heap.size ∨ k = w.heap.size + 1) w3 _) := hid ((hk4.mono fun k _ h => .inl h).trans (hk5.mono fun k _ h => .inr h))
  clear hw4 e4 hk4 f4 f5 hk5 k2 kf
  go_wp2_with fail
  obtain ⟨r0, r1, r2, r3, r4⟩ := five_cells HF5.out
  have hx5 := (HX0.out.trans HX3.out).kp HK5.out (by rintro k (h | h) <;> omega)
  refine bodyPost_ret (v := mVal M.state M.draws (.slice ya (Q.length + 1) yc) (.slice sa sn sc) (.slice pa pn pc)) (by simp [results, Tryz.results45, go_sem, r0, r1, r2, r3, r4]) rfl ⟨_, _, _, rfl, ⟨?_, fun w'' k'' => HC.out.ss w'' ((Kp.of_ext hx5).trans k''), HC.out.ps⟩, hx5⟩
  obtain ⟨Q', hq1, hq2⟩ := HQ3.out
  rw [HQS.out] at hq1
  exact ⟨Q', hq1, fun w'' k'' => hq2 w'' ((HK5.out.mono fun k _ h => .inr (by have := HZ.out; omega)).trans (k''.mono fun k _ h => .inl h))⟩
end Go.Proofs.YtgfmjfkdogcnhaaGreat
namespace Go.Proofs.YtgfmjfkdogcnhaaGreat
open Go.RowKit
theorem hash_parts (M : Orc) (label : UInt64) (l : List UInt64) (hI : M.ideal = true) :
    (allE l = false → M.hash label l = (0, M)) ∧ (allE l = true → ∀ p, peekI M.qs label l = p → (p.2 = true → M.hash label l = (p.1, M)) ∧ (p.2 = false → M.hash label l = (drawOf M.state, M.step.add label l (drawOf M.state)))) := by
  refine ⟨fun h => by unfold Orc.hash; rw [h]; rfl, fun h p hp => ?_⟩
  unfold peekI at hp
  subst hp
  unfold Orc.hash
  rw [if_pos h]
  cases hf : findQ M.qs label l with
  | some i => exact ⟨fun _ => rfl, fun h => absurd (show true = false from h) (by decide)⟩
  | none => exact ⟨fun h => absurd (show false = true from h) (by decide), fun _ => by simp only [hI]; rfl⟩
attribute [local irreducible] perm fAdd fMul fPow fSub fNeg fRed hashU drawOf nextState

abbrev z5 : Array Value := #[.int .u64 0, .int .i64 0, .slice none 0 0, .slice none 0 0, .slice none 0 0]
/-- The two blocks of a call: the model given, the model to be returned. -/
structure Box2 (w w0 : World) (c0 c1 c2 c3 c4 : Value) : Prop where
  ex : Ext w w0
  b0 : w0.heap[w.heap.size]? = some (.cells #[c0, c1, c2, c3, c4] 36 (0, 0))
  b1 : w0.heap[w.heap.size + 1]? = some (.cells #[.int .u64 0, .int .i64 0, .slice none 0 0, .slice none 0 0, .slice none 0 0] 36 (0, 0))
  sz : w0.heap.size = w.heap.size + 2
theorem Box2.cells {w w0 : World} {c0 c1 c2 c3 c4 : Value} (h : Box2 w w0 c0 c1 c2 c3 c4) {v : World} (k : Ext w0 v) :
    v.cell? ⟨w.heap.size, 0, none⟩ = some c0 ∧ v.cell? ⟨w.heap.size, 1, none⟩ = some c1 ∧ v.cell? ⟨w.heap.size, 2, none⟩ = some c2 ∧ v.cell? ⟨w.heap.size, 3, none⟩ = some c3 ∧ v.cell? ⟨w.heap.size, 4, none⟩ = some c4 := five_cells (k.heap_some h.b0)
/-- The result written. -/
theorem Box2.put {w w0 : World} {c0 c1 c2 c3 c4 : Value} (h : Box2 w w0 c0 c1 c2 c3 c4) {v : World} (k : Ext w0 v) (d0 d1 d2 d3 d4 : Value) :
    let W := (((((v.setCell ⟨w.heap.size + 1, 0, none⟩ d0).setCell ⟨w.heap.size + 1, 1, none⟩ d1).setCell ⟨w.heap.size + 1, 2, none⟩ d2).setCell ⟨w.heap.size + 1, 3, none⟩ d3).setCell ⟨w.heap.size + 1, 4, none⟩ d4)
    Ext w W ∧ W.cell? ⟨w.heap.size + 1, 0, none⟩ = some d0 ∧ W.cell? ⟨w.heap.size + 1, 1, none⟩ = some d1 ∧ W.cell? ⟨w.heap.size + 1, 2, none⟩ = some d2 ∧ W.cell? ⟨w.heap.size + 1, 3, none⟩ = some d3 ∧ W.cell? ⟨w.heap.size + 1, 4, none⟩ = some d4 := by
  obtain ⟨h1, h2⟩ := five_set (d0 := d0) (d1 := d1) (d2 := d2) (d3 := d3) (d4 := d4) (k.heap_some h.b1)
  exact ⟨(h.ex.trans k).kp h2 (fun k h => by subst h; omega), five_cells h1⟩
theorem Box2.zero {w w0 : World} {c0 c1 c2 c3 c4 : Value} (h : Box2 w w0 c0 c1 c2 c3 c4) {v : World} (k : Ext w0 v) :
    (v.cell? ⟨w.heap.size + 1, 0, none⟩ = some (.int .u64 0) ∧ v.cell? ⟨w.heap.size + 1, 1, none⟩ = some (.int .i64 0) ∧ v.cell? ⟨w.heap.size + 1, 2, none⟩ = some (.slice none 0 0) ∧ v.cell? ⟨w.heap.size + 1, 3, none⟩ = some (.slice none 0 0) ∧ v.cell? ⟨w.heap.size + 1, 4, none⟩ = some (.slice none 0 0)) ∧ ∀ o, v.frozen? ⟨w.heap.size + 1, o, none⟩ = false :=
  ⟨five_cells (k.heap_some h.b1), frozen_of (k.heap_some h.b1)⟩
def HashM (G : Nat → Prop) (w : World) (r : UInt64 × Orc) (e : Ending) (w' : World) : Prop := ∃ qv sv pv, e = .returned (.tuple #[uv r.1, mVal r.2.state r.2.draws qv sv pv]) ∧ StMc G w' qv sv pv r.2 ∧ Ext w w'
set_option maxRecDepth 100000 in
set_option maxHeartbeats 3200000 in
theorem rHashM_any {G : Nat → Prop} {w : World} {qv sv pv lv : Value} {M : Orc} {label : UInt64} {l : List UInt64} (hc : StMc G w qv sv pv M) (hG : ∀ k, G k → k < w.heap.size) (hI : M.ideal = true) (hl : RdU' w lv l) (hL : l.length ≤ 100000000) (hf : M.qs.length ≤ 100000000) (hE : ∀ q ∈ M.qs, q.elems.length ≤ 100000000) (hd : M.draws ≤ 1000000000) :
    Calls Tryz.prog 15 #[mVal M.state M.draws qv sv pv, uv label, lv] w (HashM G w (M.hash label l)) := by
  obtain ⟨⟨qa, qn, qc, rfl⟩, ⟨sa, sn, sc, rfl⟩, ⟨pa, pn, pc, rfl⟩⟩ := hc.now.sl
  obtain ⟨la, lc, rfl, -⟩ := id hl
  obtain ⟨w0, hw0⟩ : ∃ w0, w0 = (w.alloc (.cells #[uv M.state, .int .i64 (M.draws : Int), .slice qa qn qc, .slice sa sn sc, .slice pa pn pc] 36)).alloc (.cells #[.int .u64 0, .int .i64 0, .slice none 0 0, .slice none 0 0, .slice none 0 0] 36) := ⟨_, rfl⟩
  have hB : Box2 w w0 (uv M.state) (.int .i64 (M.draws : Int)) (.slice qa qn qc) (.slice sa sn sc) (.slice pa pn pc) := by
    obtain ⟨hx0, hb0, hb1, hz0⟩ := two_new w (.cells #[uv M.state, .int .i64 (M.draws : Int), .slice qa qn qc, .slice sa sn sc, .slice pa pn pc] 36) (.cells #[.int .u64 0, .int .i64 0, .slice none 0 0, .slice none 0 0, .slice none 0 0] 36)
    rw [hw0]
    exact ⟨hx0, hb0, hb1, hz0⟩
  have HPA := hid (hash_parts M label l hI)
  have HB := hid hB
  have HW := hid hw0
  have HG := hid hG
  have HC := hid hc
  have HL := hid hl
  have HE := hid (And.intro hE (And.intro hd hI))
  clear hG hB hw0 hc hl hE hd hI
  go_enter Tryz.func15, Tryz.ntmps15
  go_upto_region 1 with fail
  rw [← HW.out]
  go_wp2_with fail
  refine (ElementsV_any _ l _ (HL.out.ext HB.out.ex) (by omega)).mono ?_
  rintro e w' ⟨rfl, rfl⟩
  cases hA : allE l with
  | false =>
    have HM := hid (HPA.out.1 hA)
    clear hA
    go_wp2_with fail
    refine wp_region_T (fun v => (v.cell? ⟨w.heap.size, 0, none⟩ = some (uv M.state) ∧ v.cell? ⟨w.heap.size, 1, none⟩ = some (.int .i64 (M.draws : Int)) ∧ v.cell? ⟨w.heap.size, 2, none⟩ = some (.slice qa qn qc) ∧ v.cell? ⟨w.heap.size, 3, none⟩ = some (.slice sa sn sc) ∧ v.cell? ⟨w.heap.size, 4, none⟩ = some (.slice pa pn pc)) ∧ Ext w0 v) 2 [(0, true), (1, true), (2, false)] (by kernel_rfl) (by kernel_rfl) (by intro c a d v w h; cases d <;> exact h) ?_
    intro ops hops
    have HS := keep0 (w0 := w0) (fun v k => HB.out.cells k)
    iterate 2
      refine wpT_take (v := ?_) (by rw [hops, List.getElem?_toArray]; rfl) (by first | rfl | (rw [hops]; rfl)) ?_ HS ?_
      rotate_left
      · intro v h; go_simp; with_reducible rfl
      simp only [Act.put, List.getElem_toArray, List.getElem_cons_zero, List.getElem_cons_succ, List.setIfInBounds_toArray, List.set_cons_zero, List.set_cons_succ]
    obtain ⟨⟨k0, k1, k2, k3, k4⟩, kf⟩ := HB.out.zero (Ext.refl w0)
    have HP := hid (HB.out.put (Ext.refl w0) (uv M.state) (.int .i64 (M.draws : Int)) (.slice qa qn qc) (.slice sa sn sc) (.slice pa pn pc))
    clear HS
    refine wpT_step (by rw [hops, List.getElem?_toArray]; rfl) (by first | rfl | (rw [hops]; rfl)) ?_
    intro K hK
    go_wp2_with fail
    try (with_reducible refine ⟨fun h => absurd h (by decide), ?_⟩)
    try rw [wpT_nil]
    try clear hops ops
    go_wp2_with fail
    obtain ⟨hx, r0, r1, r2, r3, r4⟩ := HP.out
    refine bodyPost_ret (v := .tuple #[uv 0, mVal M.state M.draws (.slice qa qn qc) (.slice sa sn sc) (.slice pa pn pc)]) (by simp [results, Tryz.results15, go_sem, r0, r1, r2, r3, r4]) rfl ?_
    rw [HM.out]
    exact ⟨_, _, _, rfl, HC.out.ext hx.drew, hx.drew⟩
  | true =>
    have HP := hid (HPA.out.2 hA)
    clear hA
    obtain ⟨k0, k1, k2, k3, k4⟩ := HB.out.cells (Ext.refl w0)
    have HPK := hid (rPeek_any (label := label) (c0 := uv M.state) (c1 := .int .i64 (M.draws : Int)) (c3 := .slice sa sn sc) (c4 := .slice pa pn pc) (HC.out.qs.now.ext HB.out.ex) (HL.out.ext HB.out.ex) HE.out.1 (by omega) hf)
    go_wp2_with fail
    refine HPK.out.mono ?_
    rintro e w1 ⟨rfl, hx1⟩
    have HX1 := hid hx1
    have HP2 := hid (HP.out _ rfl)
    generalize peekI M.qs label l = p at *
    obtain ⟨p1, p2⟩ := p
    simp only at HP2
    clear k0 k1 k2 k3 k4 HP HPK hx1 HPA
    cases p2 with
    | true =>
      have HM := hid (HP2.out.1 rfl)
      go_wp2_with fail
      refine wp_region_T (fun v => (v.cell? ⟨w.heap.size, 0, none⟩ = some (uv M.state) ∧ v.cell? ⟨w.heap.size, 1, none⟩ = some (.int .i64 (M.draws : Int)) ∧ v.cell? ⟨w.heap.size, 2, none⟩ = some (.slice qa qn qc) ∧ v.cell? ⟨w.heap.size, 3, none⟩ = some (.slice sa sn sc) ∧ v.cell? ⟨w.heap.size, 4, none⟩ = some (.slice pa pn pc)) ∧ Ext w1 v) 3 [(0, true), (1, true), (2, true), (3, false)] (by kernel_rfl) (by kernel_rfl) (by intro c a d v w h; cases d <;> exact h) ?_
      intro ops hops
      have HS := keep0 (w0 := w1) (fun v k => HB.out.cells (HX1.out.trans k))
      iterate 3
        refine wpT_take (v := ?_) (by rw [hops, List.getElem?_toArray]; rfl) (by first | rfl | (rw [hops]; rfl)) ?_ HS ?_
        rotate_left
        · intro v h; go_simp; with_reducible rfl
        simp only [Act.put, List.getElem_toArray, List.getElem_cons_zero, List.getElem_cons_succ, List.setIfInBounds_toArray, List.set_cons_zero, List.set_cons_succ]
      obtain ⟨⟨k0, k1, k2, k3, k4⟩, kf⟩ := HB.out.zero HX1.out
      have HP := hid (HB.out.put HX1.out (uv M.state) (.int .i64 (M.draws : Int)) (.slice qa qn qc) (.slice sa sn sc) (.slice pa pn pc))
      clear HS
      refine wpT_step (by rw [hops, List.getElem?_toArray]; rfl) (by first | rfl | (rw [hops]; rfl)) ?_
      intro K hK
      go_wp2_with fail
      try (with_reducible refine ⟨fun h => absurd h (by decide), ?_⟩)
      try rw [wpT_nil]
      try clear hops ops
      go_wp2_with fail
      obtain ⟨hx, r0, r1, r2, r3, r4⟩ := HP.out
      refine bodyPost_ret (v := .tuple #[uv p1, mVal M.state M.draws (.slice qa qn qc) (.slice sa sn sc) (.slice pa pn pc)]) (by simp [results, Tryz.results15, go_sem, r0, r1, r2, r3, r4]) rfl ?_
      rw [HM.out]
      exact ⟨_, _, _, rfl, HC.out.ext hx.drew, hx.drew⟩
    | false =>
      have HM := hid (HP2.out.2 rfl)
      obtain ⟨k0, k1, k2, k3, k4⟩ := HB.out.cells HX1.out
      have HDR := hid (rDraw_any (w := w1) (st := M.state) (n := M.draws) (qv := .slice qa qn qc) (sv := .slice sa sn sc) (pv := .slice pa pn pc) (by have := HE.out.2.1; omega) ⟨_, _, _, rfl⟩ ⟨_, _, _, rfl⟩ ⟨_, _, _, rfl⟩)
      go_wp2_with fail
      refine HDR.out.mono ?_
      rintro e w2 ⟨rfl, hx2⟩
      have HX2 := hid (HX1.out.trans hx2)
      have e0 := HX2.out.heap_some HB.out.b0
      clear k0 k1 k2 k3 k4 hx2 HDR
      obtain ⟨k0, k1, k2, k3, k4⟩ := five_cells e0
      have kf := frozen_of e0
      have HE0 := hid e0
      clear e0
      go_upto_region 7 with fail
      obtain ⟨hb3, hk3⟩ := five_set (d0 := uv (nextState M.state)) (d1 := .int .i64 ((M.draws : Int) + 1)) (d2 := .slice qa qn qc) (d3 := .slice sa sn sc) (d4 := .slice pa pn pc) HE0.out
      generalize (((((w2.setCell ⟨w.heap.size, 0, none⟩ (uv (nextState M.state))).setCell ⟨w.heap.size, 1, none⟩ (.int .i64 ((M.draws : Int) + 1))).setCell ⟨w.heap.size, 2, none⟩ (.slice qa qn qc)).setCell ⟨w.heap.size, 3, none⟩ (.slice sa sn sc)).setCell ⟨w.heap.size, 4, none⟩ (.slice pa pn pc)) = w3 at *
      have hx3 : Ext w w3 := (HB.out.ex.trans HX2.out).kp hk3 (fun k h => by subst h; exact Nat.le_refl _)
      have hms : StMc (fun k => G k ∨ k = w.heap.size + 1) w3 (.slice qa qn qc) (.slice sa sn sc) (.slice pa pn pc) M.step := (HC.out.grow (.of_ext hx3) (fun i h => h.imp id fun h => by omega)).congr (step_qs _) (step_seals _)
      have hrc := rRecord_any (label := label) (a := drawOf M.state) hms (fun k h => by
        have h1 := hx3.size
        have h2 := heap_lt (hk3.heap_some (by omega) (HX2.out.heap_some HB.out.b1))
        rcases h with h | h
        · have := HG.out k h; omega
        · omega) (HL.out.ext hx3) hL (by rw [step_qs]; exact hf)
      rw [show mVal M.step.state M.step.draws (.slice qa qn qc) (.slice sa sn sc) (.slice pa pn pc) = .agg #[uv (nextState M.state), .int .i64 ((M.draws : Int) + 1), .slice qa qn qc, .slice sa sn sc, .slice pa pn pc] by rw [step_state, step_draws]; rfl] at hrc
      have HRC := hid hrc
      clear hrc
      obtain ⟨k0, k1, k2, k3, k4⟩ := five_cells hb3
      have HX3 := hid hx3
      have hb4 := hk3.heap_some (by omega) (HX2.out.heap_some HB.out.b1)
      have HB4 := hid hb4
      clear kf hb3 hk3 hx3 hms hb4
      go_wp2_with fail
      refine HRC.out.mono ?_
      rintro e w4 ⟨qv4, sv4, pv4, rfl, hc4, hx4⟩
      obtain ⟨⟨qa4, qn4, qc4, rfl⟩, ⟨sa4, sn4, sc4, rfl⟩, ⟨pa4, pn4, pc4, rfl⟩⟩ := hc4.now.sl
      have hb5 := hx4.heap_some HB4.out
      obtain ⟨l0, l1, l2, l3, l4⟩ := five_cells hb5
      have lf := frozen_of hb5
      generalize M.step.add label l (drawOf M.state) = N at *
      have HP := hid (five_set (d0 := uv N.state) (d1 := .int .i64 (N.draws : Int)) (d2 := .slice qa4 qn4 qc4) (d3 := .slice sa4 sn4 sc4) (d4 := .slice pa4 pn4 pc4) hb5)
      have HX4 := hid (HX3.out.trans hx4)
      have HC4 := hid hc4
      have HZ : Hid (w.heap.size + 1 < w3.heap.size) := hid (heap_lt HB4.out)
      clear hc4 hx4 hb5 k0 k1 k2 k3 k4 HRC
      go_wp2_with fail
      obtain ⟨r5, hk5⟩ := HP.out
      obtain ⟨r0, r1, r2, r3, r4⟩ := five_cells r5
      have hx5 := HX4.out.kp hk5 (fun k h => by subst h; omega)
      refine bodyPost_ret (v := .tuple #[uv (drawOf M.state), mVal N.state N.draws (.slice qa4 qn4 qc4) (.slice sa4 sn4 sc4) (.slice pa4 pn4 pc4)]) (by simp [results, Tryz.results15, go_sem, r0, r1, r2, r3, r4]) rfl ?_
      rw [HM.out]
      exact ⟨_, _, _, rfl, HC4.out.grow (hk5.mono fun k _ h => .inr h) fun i h => .inl (.inl h), hx5⟩
end Go.Proofs.YtgfmjfkdogcnhaaGreat
