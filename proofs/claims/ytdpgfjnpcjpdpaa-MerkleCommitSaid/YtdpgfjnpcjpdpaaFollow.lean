/- follow: what it is given, what it keeps. -/
import Derived.Test.YtdpgfjnpcjpdpaaCommitLaw
import Derived.Test.YtdpgfjnpcjpdpaaCommit3
import Derived.Test.YtdpgfjnpcjpdpaaPeek
set_option linter.unusedSimpArgs false
namespace Go.Proofs.Ytdpgfjnpcjpdpaa
open Go.RowKit
attribute [local irreducible] perm fAdd fMul fPow fSub fNeg fRed hashU drawOf nextState

set_option maxHeartbeats 400000 in
theorem IsIdeal_any {w : World} {b : Nat} {M : Orc} {F : Nat → Prop} (h : OrcAt w b M F) : Calls Try.prog 74 #[.pointer (some ⟨b, 0, none⟩)] w fun e w' => e = .returned (.bool M.ideal) ∧ w' = w := by
  obtain ⟨qv, mk, ms, mp, Q, S, hin⟩ := h
  obtain ⟨c0, -⟩ := self_cells hin.self
  have hf := frozen_of hin.self
  clear hin
  go_enter Try.func74, Try.ntmps74
  go_wp2
  go_ret
  exact ⟨rfl, rfl⟩

def AskO (w : World) (b : Nat) (M : Orc) (F : Nat → Prop) (f : AskF) (label : UInt64) (l : List UInt64) (e : Ending) (w' : World) : Prop :=
  e = .returned (.tuple #[uv (f M label l).1.1, .bool (f M label l).1.2]) ∧ ∃ F', OrcTo w b F (f M label l).2 w' F'
theorem ask_peek {w : World} {b : Nat} {M : Orc} {F : Nat → Prop} {label : UInt64} {lv : Value} {l : List UInt64} (h : OrcAt w b M F) (hl : RdU w lv l) (hL : l.length ≤ 1000000000000) (hq : M.qs.length ≤ 1000000000) :
    Calls Try.prog 75 #[.pointer (some ⟨b, 0, none⟩), uv label, lv] w (AskO w b M F peekF label l) :=
  (Peek_any h hl hL hq).mono fun _ _ ⟨he, hx⟩ => ⟨he, F, .of_ext h hx⟩
/-- The block of a captured oracle. -/
def BoxAt (n b : Nat) (v : World) (F : Nat → Prop) : Prop := v.heap[n]? = some (.cells #[.pointer (some ⟨b, 0, none⟩)] 38 (0, 0)) ∧ ¬ F n
set_option maxRecDepth 100000 in
set_option maxHeartbeats 400000 in
theorem ask_hash {w : World} {n b : Nat} {M : Orc} {F : Nat → Prop} {label : UInt64} {lv : Value} {l : List UInt64} (h : OrcAt w b M F) (hb : BoxAt n b w F) (hl : RdU w lv l) (hf : ∀ k, blk lv = some k → ¬ F k) (hL : l.length ≤ 1000000000000) (hq : M.qs.length ≤ 1000000000) (hd : M.draws ≤ 1000000000000) :
    Calls Try.prog 73 #[uv label, lv, .pointer (some ⟨n, 0, none⟩)] w (AskO w b M F hashF label l) := by
  have HC := hid (Hash_orc (label := label) h hl hf hL hq hd)
  have c0 : w.cell? ⟨n, 0, none⟩ = some (.pointer (some ⟨b, 0, none⟩)) := cell_of hb.1 0
  clear h hb hl hf hL hq hd
  go_enter Try.func73, Try.ntmps73
  go_wp2_with fail
  refine HC.out.mono ?_
  rintro e w1 ⟨rfl, F', ht⟩
  have HT := hid ht
  clear ht
  go_wp2_with fail
  go_ret2
  exact ⟨rfl, F', HT.out⟩

/-! ## the state of the loop -/
structure FInv (w wr : World) (b : Nat) (F : Nat → Prop) (f : AskF) (M0 : Orc) (i0 : Nat) (x : Opn) (lf pv : Value) (xb qb : Nat) (F' : Nat → Prop) (M' : Orc) (q : UInt64 × List UInt64) (qv old av : Value) (A : List (Qn × Value)) (step : Nat) : Prop where
  orc : OrcTo w b F M' wr F'
  xbox : wr.heap[xb]? = some (.cells #[lf, uv x.salt, pv] 59 (0, 0))
  xF : ¬ F' xb
  qbox : wr.heap[qb]? = some (.cells #[uv q.1, qv, old] 49 (0, 0))
  qF : ¬ F' qb
  q0 : w.heap.size ≤ qb
  qown : OwnU wr qv q.2
  qno : ∀ k, blk qv = some k → ¬ F' k ∧ w.heap.size ≤ k
  aown : wr.ownsRow 0 49 3 av A.length (qCells A)
  ano : ∀ k, blk av = some k → ¬ F' k ∧ w.heap.size ≤ k ∧ k ≠ qb
  aels : ∀ y ∈ A, OwnU wr y.2 y.1.elems ∧ ∀ k, blk y.2 = some k → ¬ F' k ∧ w.heap.size ≤ k
  spec : M0.fol f i0 x = pre (A.map (·.1)) (folF f (x.path.drop step) (i0 / 2 ^ step) M' q)
  len : A.length = step
  lenp : step ≤ x.path.length
  lenq : q.2.length ≤ 1000000001
  qs : M'.qs.length ≤ M0.qs.length + step
  draws : M'.draws ≤ M0.draws + step
theorem block_ne {w : World} {k k' : Nat} {cs cs' : Array Value} {T T' : TypeId} {z z' : Nat × Nat} (h : w.heap[k]? = some (.cells cs T z)) (h' : w.heap[k']? = some (.cells cs' T' z')) (hT : T ≠ T') : k ≠ k' := by
  rintro rfl
  rw [h] at h'
  injection h' with h'
  injection h' with _ h'
  exact hT h'
theorem own_ne {w : World} {k : Nat} {cs : Array Value} {T e : TypeId} {z : Nat × Nat} {size n : Nat} {v : Value} {xs : List Value} (h : w.ownsRow 0 e size v n xs) (h' : w.heap[k]? = some (.cells cs T z)) (hT : e ≠ T) : blk v ≠ some k := by
  intro hk
  obtain ⟨c, h1⟩ := ownsRow_block h hk
  exact block_ne h1 h' hT rfl
/-- Behind a question: the oracle has turned, nothing else. -/
theorem FInv.asked {w wr w2 : World} {b : Nat} {F : Nat → Prop} {f : AskF} {M0 : Orc} {i0 : Nat} {x : Opn} {lf pv : Value} {xb qb : Nat} {F' F'' : Nat → Prop} {M' M'' : Orc} {q : UInt64 × List UInt64} {qv old av : Value} {A : List (Qn × Value)} {step : Nat}
    (h : FInv w wr b F f M0 i0 x lf pv xb qb F' M' q qv old av A step) (t : OrcTo wr b F' M'' w2 F'') :
    OrcTo w b F M'' w2 F'' ∧ w2.heap[xb]? = some (.cells #[lf, uv x.salt, pv] 59 (0, 0)) ∧ ¬ F'' xb ∧ w2.heap[qb]? = some (.cells #[uv q.1, qv, old] 49 (0, 0)) ∧ ¬ F'' qb ∧ OwnU w2 qv q.2 ∧
      (∀ k, blk qv = some k → ¬ F'' k ∧ w.heap.size ≤ k) ∧ w2.ownsRow 0 49 3 av A.length (qCells A) ∧ (∀ k, blk av = some k → ¬ F'' k ∧ w.heap.size ≤ k ∧ k ≠ qb) ∧
      ∀ y ∈ A, OwnU w2 y.2 y.1.elems ∧ ∀ k, blk y.2 = some k → ¬ F'' k ∧ w.heap.size ≤ k :=
  ⟨h.orc.trans t, t.kp.heap_some h.xF h.xbox, t.apart (heap_lt h.xbox) h.xF, t.kp.heap_some h.qF h.qbox, t.apart (heap_lt h.qbox) h.qF, ownsRow_kp h.qown t.kp fun k hk => (h.qno k hk).1,
    fun k hk => ⟨t.apart (ownsRow_lt h.qown hk) (h.qno k hk).1, (h.qno k hk).2⟩, ownsRow_kp h.aown t.kp fun k hk => (h.ano k hk).1, fun k hk => ⟨t.apart (ownsRow_lt h.aown hk) (h.ano k hk).1, (h.ano k hk).2⟩,
    fun y hy => ⟨ownsRow_kp (h.aels y hy).1 t.kp fun k hk => ((h.aels y hy).2 k hk).1, fun k hk => ⟨t.apart (ownsRow_lt (h.aels y hy).1 hk) ((h.aels y hy).2 k hk).1, ((h.aels y hy).2 k hk).2⟩⟩⟩
/-- Behind 'asked = append(asked, question)'. -/
structure GInv (w w3 : World) (b : Nat) (F : Nat → Prop) (x : Opn) (lf pv : Value) (xb qb : Nat) (F' : Nat → Prop) (M' : Orc) (av : Value) (A : List (Qn × Value)) (cs : Array Value) : Prop where
  orc : OrcTo w b F M' w3 F'
  xbox : w3.heap[xb]? = some (.cells #[lf, uv x.salt, pv] 59 (0, 0))
  xF : ¬ F' xb
  qbox : w3.heap[qb]? = some (.cells cs 49 (0, 0))
  qF : ¬ F' qb
  q0 : w.heap.size ≤ qb
  aown : w3.ownsRow 0 49 3 av A.length (qCells A)
  ano : ∀ k, blk av = some k → ¬ F' k ∧ w.heap.size ≤ k ∧ k ≠ qb
  aels : ∀ y ∈ A, OwnU w3 y.2 y.1.elems ∧ ∀ k, blk y.2 = some k → ¬ F' k ∧ w.heap.size ≤ k
theorem FInv.more {w wr w2 w3 : World} {b : Nat} {F : Nat → Prop} {f : AskF} {M0 : Orc} {i0 : Nat} {x : Opn} {lf pv : Value} {xb qb : Nat} {F' F'' : Nat → Prop} {M' M'' : Orc} {q : UInt64 × List UInt64} {qv old av av' : Value} {A : List (Qn × Value)} {step : Nat} {ans : UInt64} {o : Obj}
    (h : FInv w wr b F f M0 i0 x lf pv xb qb F' M' q qv old av A step) (t : OrcTo wr b F' M'' w2 F'')
    (hown : w3.ownsRow 0 49 3 av' (A.length + 1) (qCells A ++ [uv q.1, qv, uv ans])) (hk : Kp (fun k => some k = blk av) ((w2.setCell ⟨qb, 2, none⟩ (uv ans)).alloc o) w3)
    (hb : blk av' = blk av ∨ blk av' = some (w2.heap.size + 1)) :
    GInv w w3 b F x lf pv xb qb F'' M'' av' (A ++ [(⟨q.1, q.2, ans⟩, qv)]) #[uv q.1, qv, uv ans] := by
  obtain ⟨o1, x1, x2, q1, q2, q3, q4, a1, a2, a3⟩ := h.asked t
  have hs : Kp (fun k => k = qb) w2 (w2.setCell ⟨qb, 2, none⟩ (uv ans)) := (Kp.refl (fun k => k = qb) w2).setCell (p := ⟨qb, 2, none⟩) (.inl rfl) _
  have hx : Ext (w2.setCell ⟨qb, 2, none⟩ (uv ans)) ((w2.setCell ⟨qb, 2, none⟩ (uv ans)).alloc o) := (Ext.refl _).alloc o
  have key : ∀ {y : Value} {m : List UInt64}, OwnU w2 y m → OwnU w3 y m := fun {y m} hy => by
    have h1 := ownsRow_kp hy hs (by rintro k hk' rfl; exact own_ne hy q1 (by decide) hk')
    refine ownsRow_kp (ownsRow_ext h1 hx) hk fun k hk1 hk2 => ?_
    obtain ⟨c, h2⟩ := ownsRow_block a1 hk2.symm
    exact own_ne hy h2 (by decide) hk1
  have hqb : (w2.setCell ⟨qb, 2, none⟩ (uv ans)).heap[qb]? = some (.cells #[uv q.1, qv, uv ans] 49 (0, 0)) := heap_setCell_same q1 2 _
  exact {
    orc := ((o1.kpOther hs (by rintro k rfl; exact ⟨q2, h.q0⟩)).ext hx).kpOther hk (fun k hk => ⟨(a2 k hk.symm).1, (a2 k hk.symm).2.1⟩)
    xbox := hk.heap_some (fun e => own_ne a1 x1 (by decide) e.symm) (hx.heap_some (hs.heap_some (fun e => block_ne x1 q1 (by decide) e) x1))
    xF := x2
    qbox := hk.heap_some (fun e => (a2 qb e.symm).2.2 rfl) (hx.heap_some hqb)
    qF := q2
    q0 := h.q0
    aown := by simpa [qCells] using hown
    ano := fun k hk' => by
      have hq := heap_lt q1
      rcases hb with hb | hb
      · rw [hb] at hk'; exact a2 k hk'
      · rw [hb] at hk'
        cases hk'
        exact ⟨fun hf => by have := o1.at'.foot_lt _ hf; omega, Nat.le_succ_of_le o1.kp.size, by omega⟩
    aels := fun y hy => by
      rcases List.mem_append.1 hy with hy | hy
      · exact ⟨key (a3 y hy).1, (a3 y hy).2⟩
      · rw [List.mem_singleton] at hy; subst hy; exact ⟨key q3, q4⟩ }
/-- Behind 'question = ..': the next round begins. -/
theorem GInv.next {w w3 w4 : World} {b : Nat} {F : Nat → Prop} {f : AskF} {M0 : Orc} {i0 : Nat} {x : Opn} {lf pv : Value} {xb qb : Nat} {F' : Nat → Prop} {M' : Orc} {av : Value} {A : List (Qn × Value)} {cs cs' : Array Value} {step g : Nat} {l : List UInt64}
    (h : GInv w w3 b F x lf pv xb qb F' M' av A cs) (hx : Ext w3 w4) (hg : w3.heap.size ≤ g) (hl : w4.heap[g]? = some (.cells cs' 28 (0, 0))) (hcs : cs'.toList = us l) (hll : l.length = 2)
    (hspec : M0.fol f i0 x = pre (A.map (·.1)) (folF f (x.path.drop step) (i0 / 2 ^ step) M' (17, l))) (hlen : A.length = step) (hlp : step ≤ x.path.length) (hq : M'.qs.length ≤ M0.qs.length + step) (hd : M'.draws ≤ M0.draws + step)
    (w5 : World) (h5 : w5 = ((w4.setCell ⟨qb, 0, none⟩ (.int .u64 17)).setCell ⟨qb, 1, none⟩ (.slice (some ⟨g, 0, none⟩) 2 2)).setCell ⟨qb, 2, none⟩ (.int .u64 0)) (hc3 : cs.size = 3) :
    FInv w w5 b F f M0 i0 x lf pv xb qb F' M' (17, l) (.slice (some ⟨g, 0, none⟩) 2 2) (.int .u64 0) av A step := by
  have hs : Kp (fun k => k = qb) w4 w5 := by
    rw [h5]; exact (((Kp.refl (fun k => k = qb) w4).setCell (p := ⟨qb, 0, none⟩) (.inl rfl) _).setCell (p := ⟨qb, 1, none⟩) (.inl rfl) _).setCell (p := ⟨qb, 2, none⟩) (.inl rfl) _
  have q4 := hx.heap_some h.qbox
  have hqb : w5.heap[qb]? = some (.cells #[.int .u64 17, .slice (some ⟨g, 0, none⟩) 2 2, .int .u64 0] 49 (0, 0)) := by
    rw [h5]
    rw [heap_setCell_same (heap_setCell_same (heap_setCell_same q4 0 _) 1 _) 2 _]
    obtain ⟨cl⟩ := cs
    match cl, hc3 with
    | [a, b, c], _ => rfl
  have x4 := hx.heap_some h.xbox
  have hgo : OwnU w4 (.slice (some ⟨g, 0, none⟩) 2 2) l := by
    refine ⟨by simp [us], .inr ⟨g, 2, cs', by rw [hll], Nat.zero_le _, hl, by omega, by unfold maxLen; omega, ?_, ?_⟩⟩
    · have := congrArg List.length hcs; simp [us, hll] at this; omega
    · rw [hcs, Nat.mul_one]; exact List.take_of_length_le (by simp [us])
  have hgF : ¬ F' g := fun hf => by have := h.orc.at'.foot_lt g hf; omega
  have hsz := h.orc.kp.size
  have a4 := ownsRow_ext h.aown hx
  exact {
    orc := (h.orc.ext hx).kpOther hs (by rintro k rfl; exact ⟨h.qF, h.q0⟩)
    xbox := hs.heap_some (fun e => block_ne x4 q4 (by decide) e) x4
    xF := h.xF
    qbox := hqb
    qF := h.qF
    q0 := h.q0
    qown := ownsRow_kp hgo hs (by rintro k hk rfl; exact own_ne hgo q4 (by decide) hk)
    qno := fun k hk => by cases hk; exact ⟨hgF, Nat.le_trans hsz hg⟩
    aown := ownsRow_kp a4 hs (by rintro k hk rfl; exact (h.ano _ hk).2.2 rfl)
    ano := h.ano
    aels := fun y hy => ⟨ownsRow_kp (ownsRow_ext (h.aels y hy).1 hx) hs (by rintro k hk rfl; exact own_ne (ownsRow_ext (h.aels y hy).1 hx) q4 (by decide) hk), (h.aels y hy).2⟩
    spec := hspec
    len := hlen
    lenp := hlp
    lenq := by simp [hll]
    qs := hq
    draws := hd }

theorem BoxAt.more {bn b0 : Nat} {w wr w2 w3 : World} {b : Nat} {F : Nat → Prop} {f : AskF} {M0 : Orc} {i0 : Nat} {x : Opn} {lf pv : Value} {xb qb : Nat} {F' F'' : Nat → Prop} {M' M'' : Orc} {q : UInt64 × List UInt64} {qv old av : Value} {A : List (Qn × Value)} {step : Nat} {ans : UInt64} {o : Obj}
    (hB : BoxAt bn b0 wr F') (h : FInv w wr b F f M0 i0 x lf pv xb qb F' M' q qv old av A step) (t : OrcTo wr b F' M'' w2 F'') (hk : Kp (fun k => some k = blk av) ((w2.setCell ⟨qb, 2, none⟩ (uv ans)).alloc o) w3) : BoxAt bn b0 w3 F'' := by
  obtain ⟨-, -, -, q1, -, -, -, a1, -⟩ := h.asked t
  have h2 := t.kp.heap_some hB.2 hB.1
  have hs : Kp (fun k => k = qb) w2 (w2.setCell ⟨qb, 2, none⟩ (uv ans)) := (Kp.refl (fun k => k = qb) w2).setCell (p := ⟨qb, 2, none⟩) (.inl rfl) _
  have hx : Ext (w2.setCell ⟨qb, 2, none⟩ (uv ans)) ((w2.setCell ⟨qb, 2, none⟩ (uv ans)).alloc o) := (Ext.refl _).alloc o
  exact ⟨hk.heap_some (fun e => own_ne a1 h2 (by decide) e.symm) (hx.heap_some (hs.heap_some (fun e => block_ne h2 q1 (by decide) e) h2)), t.apart (heap_lt hB.1) hB.2⟩
theorem BoxAt.next {bn b0 qb : Nat} {w3 w4 : World} {F : Nat → Prop} {cs : Array Value} {x y z : Value} (hB : BoxAt bn b0 w3 F) (hq : w3.heap[qb]? = some (.cells cs 49 (0, 0))) (hx : Ext w3 w4) :
    BoxAt bn b0 (((w4.setCell ⟨qb, 0, none⟩ x).setCell ⟨qb, 1, none⟩ y).setCell ⟨qb, 2, none⟩ z) F := by
  have hs : Kp (fun k => k = qb) w4 (((w4.setCell ⟨qb, 0, none⟩ x).setCell ⟨qb, 1, none⟩ y).setCell ⟨qb, 2, none⟩ z) :=
    (((Kp.refl (fun k => k = qb) w4).setCell (p := ⟨qb, 0, none⟩) (.inl rfl) _).setCell (p := ⟨qb, 1, none⟩) (.inl rfl) _).setCell (p := ⟨qb, 2, none⟩) (.inl rfl) _
  exact ⟨hs.heap_some (fun e => block_ne hB.1 hq (by decide) e) (hx.heap_some hB.1), hB.2⟩

def FolO (w : World) (b : Nat) (F : Nat → Prop) (root : UInt64) (r : Option (List Qn) × Orc) (e : Ending) (w' : World) : Prop :=
  ∃ v A F', e = .returned (.tuple #[v, .bool (folOk r root)]) ∧ OrcTo w b F r.2 w' F' ∧ w'.ownsRow 0 49 3 v A.length (qCells A) ∧ (∀ k, blk v = some k → ¬ F' k ∧ w.heap.size ≤ k) ∧ (∀ y ∈ A, OwnU w' y.2 y.1.elems ∧ ∀ k, blk y.2 = some k → ¬ F' k ∧ w.heap.size ≤ k) ∧ A.map (·.1) = r.1.getD []
end Go.Proofs.Ytdpgfjnpcjpdpaa
