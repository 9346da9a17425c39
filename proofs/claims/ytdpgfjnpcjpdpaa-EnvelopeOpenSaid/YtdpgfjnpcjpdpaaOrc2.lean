/- The oracle's small methods: newOracle, Real, Ideal, IsIdeal, Draws, Draw. -/
import Derived.Test.YtdpgfjnpcjpdpaaOrc
namespace Go.Proofs.Ytdpgfjnpcjpdpaa
open Go.RowKit
attribute [local irreducible] perm fAdd fMul fPow fSub fNeg fRed

def Orc.fresh (ideal : Bool) (seed : UInt64) : Orc := ⟨ideal, seed, 0, [], [], []⟩
/-- A new oracle M. -/
def NewO (w : World) (M : Orc) (e : Ending) (w' : World) : Prop :=
  ∃ (b : Nat) (F : Nat → Prop), e = .returned (.pointer (some ⟨b, 0, none⟩)) ∧ OrcAt w' b M F ∧ Ext w w' ∧ ∀ k, F k → w.heap.size ≤ k

theorem map_next {w : World} {o : Obj} : (w.alloc o).heap.size = w.heap.size + 1 := by simp
set_option maxRecDepth 100000 in
set_option maxHeartbeats 800000 in
theorem newOracle_any (w : World) : Calls Try.prog 67 #[] w (NewO w (Orc.fresh false 0)) := by
  have hmm := @run_makeMap Try.prog
  go_enter Try.func67, Try.ntmps67
  go_wp2
  go_ret
  refine ⟨w.heap.size + 3, fun k => w.heap.size ≤ k ∧ k < w.heap.size + 4, rfl, ⟨.slice none 0 0, w.heap.size, w.heap.size + 1, w.heap.size + 2, [], [], ?_⟩, (((((Ext.refl _).alloc _).alloc _).alloc _).alloc _), fun k h => h.1⟩
  have h0 : ((((w.alloc (.map #[] 0)).alloc (.map #[] 0)).alloc (.map #[] 0)).alloc (.cells #[.bool false, .int .u64 0, .int .i64 0, .slice none 0 0, .map (some w.heap.size), .map (some (w.heap.size + 1)), .map (some (w.heap.size + 2))] 140)).heap[w.heap.size]? = some (.map #[] 0) :=
    heap_alloc_some (heap_alloc_some (heap_alloc_some (heap_new _ _)))
  have h1 : ((((w.alloc (.map #[] 0)).alloc (.map #[] 0)).alloc (.map #[] 0)).alloc (.cells #[.bool false, .int .u64 0, .int .i64 0, .slice none 0 0, .map (some w.heap.size), .map (some (w.heap.size + 1)), .map (some (w.heap.size + 2))] 140)).heap[w.heap.size + 1]? = some (.map #[] 0) := by
    refine heap_alloc_some (heap_alloc_some ?_)
    have := heap_new (w.alloc (.map #[] 0)) (.map #[] 0)
    simpa using this
  have h2 : ((((w.alloc (.map #[] 0)).alloc (.map #[] 0)).alloc (.map #[] 0)).alloc (.cells #[.bool false, .int .u64 0, .int .i64 0, .slice none 0 0, .map (some w.heap.size), .map (some (w.heap.size + 1)), .map (some (w.heap.size + 2))] 140)).heap[w.heap.size + 2]? = some (.map #[] 0) := by
    refine heap_alloc_some ?_
    have := heap_new ((w.alloc (.map #[] 0)).alloc (.map #[] 0)) (.map #[] 0)
    simpa using this
  have h3 : ((((w.alloc (.map #[] 0)).alloc (.map #[] 0)).alloc (.map #[] 0)).alloc (.cells #[.bool false, .int .u64 0, .int .i64 0, .slice none 0 0, .map (some w.heap.size), .map (some (w.heap.size + 1)), .map (some (w.heap.size + 2))] 140)).heap[w.heap.size + 3]? = some (.cells #[.bool false, .int .u64 0, .int .i64 0, .slice none 0 0, .map (some w.heap.size), .map (some (w.heap.size + 1)), .map (some (w.heap.size + 2))] 140 (0, 0)) := by
    have := heap_new (((w.alloc (.map #[] 0)).alloc (.map #[] 0)).alloc (.map #[] 0)) (.cells #[.bool false, .int .u64 0, .int .i64 0, .slice none 0 0, .map (some w.heap.size), .map (some (w.heap.size + 1)), .map (some (w.heap.size + 2))] 140)
    simpa using this
  exact {
    self := h3
    qown := World.ownsRow_nil _ _ _ _
    qs := rfl
    elems := by intro x hx; cases hx
    known := ⟨_, _, h0, rfl⟩
    seals := ⟨_, _, h1, rfl⟩
    ss := rfl
    plains := by intro x hx; cases hx
    proofs := ⟨_, _, h2, rfl⟩
    apart := by omega
    foot := by
      refine ⟨by omega, by omega, by omega, by omega, ?_, ?_⟩
      · intro k h; simp [Value.ownBlock] at h
      · intro k h; simp; omega }

theorem Real_any (w : World) : Calls Try.prog 24 #[] w (NewO w (Orc.fresh false 0)) := by
  go_enter Try.func24, Try.ntmps24
  go_wp2_with fail
  refine (newOracle_any _).mono ?_
  rintro e w' ⟨b, F, rfl, h⟩
  have H := hid h
  clear h
  go_wp2
  go_ret
  exact ⟨b, F, rfl, H.out⟩

theorem self_cells {w : World} {b : Nat} {c0 c1 c2 c3 c4 c5 c6 : Value} {T : TypeId} (h : w.heap[b]? = some (.cells #[c0, c1, c2, c3, c4, c5, c6] T (0, 0))) :
    w.cell? ⟨b, 0, none⟩ = some c0 ∧ w.cell? ⟨b, 1, none⟩ = some c1 ∧ w.cell? ⟨b, 2, none⟩ = some c2 ∧ w.cell? ⟨b, 3, none⟩ = some c3 ∧ w.cell? ⟨b, 4, none⟩ = some c4 ∧ w.cell? ⟨b, 5, none⟩ = some c5 ∧ w.cell? ⟨b, 6, none⟩ = some c6 :=
  ⟨cell_of h 0, cell_of h 1, cell_of h 2, cell_of h 3, cell_of h 4, cell_of h 5, cell_of h 6⟩

/-- The oracle's own block is written anew; the rest of it is as it was. -/
theorem OrcIn.reself {w w' : World} {b : Nat} {M : Orc} {F : Nat → Prop} {qv : Value} {mk ms mp : Nat} {Q : List (Qn × Value)} {S : List (Sl × Value)} (h : OrcIn w b M F qv mk ms mp Q S)
    (ideal : Bool) (st : UInt64) (n : Nat)
    (hs : w'.heap[b]? = some (.cells #[.bool ideal, uv st, .int .i64 (n : Int), qv, .map (some mk), .map (some ms), .map (some mp)] 140 (0, 0)))
    (hb : ∀ k, k ≠ b → k < w.heap.size → w'.heap[k]? = w.heap[k]?) (hz : w.heap.size ≤ w'.heap.size) : OrcIn w' b { M with ideal := ideal, state := st, draws := n } F qv mk ms mp Q S := by
  have hm : ∀ {κ : Type} {key : κ → Value} {m : Nat} {L : List (κ × Value)}, KMap key w m L → m ≠ b := by
    intro κ key m L hm hmb
    obtain ⟨es, c, h1, _⟩ := hm
    rw [hmb, h.self] at h1; cases h1
  have ho : ∀ {e : TypeId} {size n : Nat} {v : Value} {xs : List Value}, e ≠ 140 → w.ownsRow 0 e size v n xs → w'.ownsRow 0 e size v n xs := by
    intro e size n v xs he hw
    refine ownsRow_of hw fun k hk => hb k ?_ (ownsRow_lt hw hk)
    rintro rfl
    rcases hw.2 with ⟨rfl, _⟩ | ⟨g, cap, cur, rfl, _, hg, _⟩
    · simp [Value.ownBlock] at hk
    · simp only [Value.ownBlock, Option.some.injEq] at hk
      rw [← hk] at h
      have := h.self
      rw [hg] at this
      injection this with this
      injection this with _ h2
      exact he h2
  exact {
    self := hs
    qown := ho (by decide) h.qown
    qs := h.qs
    elems := fun x hx => ⟨ho (by decide) (h.elems x hx).1, (h.elems x hx).2⟩
    known := h.known.of_heap (hb mk (hm h.known) h.known.lt)
    seals := h.seals.of_heap (hb ms (hm h.seals) h.seals.lt)
    ss := h.ss
    plains := fun x hx => ⟨ho (by decide) (h.plains x hx).1, (h.plains x hx).2⟩
    proofs := h.proofs.of_heap (hb mp (hm h.proofs) h.proofs.lt)
    apart := h.apart
    foot := ⟨h.foot.1, h.foot.2.1, h.foot.2.2.1, h.foot.2.2.2.1, h.foot.2.2.2.2.1, fun k hk => Nat.lt_of_lt_of_le (h.foot.2.2.2.2.2 k hk) hz⟩ }

set_option maxRecDepth 100000 in
set_option maxHeartbeats 800000 in
theorem Ideal_any (seed : UInt64) (w : World) : Calls Try.prog 31 #[.int .u64 seed.toNat] w (NewO w (Orc.fresh true seed)) := by
  go_enter Try.func31, Try.ntmps31
  go_wp2_with fail
  refine (newOracle_any _).mono ?_
  rintro e w1 ⟨b, F, rfl, hat, hE, hF⟩
  obtain ⟨qv, mk, ms, mp, Q, S, hin⟩ := hat
  have hself := hin.self
  obtain ⟨c0, c1, _⟩ := self_cells hself
  have f0 := frozen_of hself
  have HIN := hid hin
  have HE := hid hE
  have HF := hid hF
  clear hin hE hF hself
  go_wp2
  go_ret
  have hs := heap_setCell_same (heap_setCell_same HIN.out.self 0 (.bool true)) 1 (uv seed)
  have hK : Kp (fun k => k = b) w1 ((w1.setCell ⟨b, 0, none⟩ (.bool true)).setCell ⟨b, 1, none⟩ (uv seed)) := ((Kp.refl (fun k => k = b) w1).setCell (p := ⟨b, 0, none⟩) (.inl rfl) _).setCell (p := ⟨b, 1, none⟩) (.inl rfl) _
  have hr := HIN.out.reself true seed 0 hs (fun k hk hl => hK.block k hl hk) hK.size
  exact ⟨b, F, rfl, ⟨qv, mk, ms, mp, Q, S, hr⟩, HE.out.kp hK (by rintro k rfl; exact HF.out _ HIN.out.foot.1), HF.out⟩
end Go.Proofs.Ytdpgfjnpcjpdpaa
