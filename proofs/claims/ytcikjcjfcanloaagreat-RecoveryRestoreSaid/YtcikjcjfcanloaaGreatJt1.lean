/- Texts of this claim, joined: Orc. -/
import Derived.Laws.Bits64
import Derived.Test.YtcikjcjfcanloaaGreatJr1
import Derived.Test.YtcikjcjfcanloaaGreatJr2
import Derived.Test.YtcikjcjfcanloaaGreatJr3
set_option linter.unusedSimpArgs false
namespace Go.Proofs.YtcikjcjfcanloaaGreat
open Go.RowKit
attribute [local irreducible] perm fAdd fMul fPow fSub fNeg fRed
end Go.Proofs.YtcikjcjfcanloaaGreat
namespace Go.Proofs.YtcikjcjfcanloaaGreat
open Go.RowKit
attribute [local irreducible] perm fAdd fMul fPow fSub fNeg fRed
/-- The oracle's own block is written anew; the rest of it is as it was. -/
theorem OrcIn.reself {w w' : World} {b : Nat} {M : Orc} {F : Nat → Prop} {qv : Value} {mk ms mp : Nat} {Q : List (Qn × Value)} {S : List (Sl × Value)} (h : OrcIn w b M F qv mk ms mp Q S)
    (ideal : Bool) (st : UInt64) (n : Nat)
    (hs : w'.heap[b]? = some (.cells #[.bool ideal, uv st, .int .i64 (n : Int), qv, .map (some mk), .map (some ms), .map (some mp)] 122 (0, 0)))
    (hb : ∀ k, k ≠ b → k < w.heap.size → w'.heap[k]? = w.heap[k]?) (hz : w.heap.size ≤ w'.heap.size) : OrcIn w' b { M with ideal := ideal, state := st, draws := n } F qv mk ms mp Q S := by
  have hm : ∀ {κ : Type} {key : κ → Value} {m : Nat} {L : List (κ × Value)}, KMap key w m L → m ≠ b := by
    intro κ key m L hm hmb
    obtain ⟨es, c, h1, _⟩ := hm
    rw [hmb, h.self] at h1; cases h1
  have ho : ∀ {e : TypeId} {size n : Nat} {v : Value} {xs : List Value}, e ≠ 122 → w.ownsRow 0 e size v n xs → w'.ownsRow 0 e size v n xs := by
    intro e size n v xs he hw
    refine ownsRow_of hw fun k hk => hb k ?_ (ownsRow_lt hw hk)
    rintro rfl
    rcases hw.2 with ⟨rfl, _⟩ | ⟨g, cap, cur, rfl, _, hg, _⟩
    · simp [Value.ownBlock] at hk
    · simp only [Value.ownBlock, Option.some.injEq] at hk
      rw [← hk] at h
      have := h.self
      rw [hg] at this
      injection this with this
      injection this with _ h2
      exact he h2
  exact {
    self := hs
    qown := ho (by decide) h.qown
    qs := h.qs
    elems := fun x hx => ⟨ho (by decide) (h.elems x hx).1, (h.elems x hx).2⟩
    known := h.known.of_heap (hb mk (hm h.known) h.known.lt)
    seals := h.seals.of_heap (hb ms (hm h.seals) h.seals.lt)
    ss := h.ss
    plains := fun x hx => ⟨ho (by decide) (h.plains x hx).1, (h.plains x hx).2⟩
    proofs := h.proofs.of_heap (hb mp (hm h.proofs) h.proofs.lt)
    apart := h.apart
    foot := ⟨h.foot.1, h.foot.2.1, h.foot.2.2.1, h.foot.2.2.2.1, h.foot.2.2.2.2.1, fun k hk => Nat.lt_of_lt_of_le (h.foot.2.2.2.2.2 k hk) hz⟩ }
set_option maxRecDepth 100000 in
set_option maxHeartbeats 800000 in
theorem Ideal_any (seed : UInt64) (w : World) : Calls Tryz.prog 26 #[.int .u64 seed.toNat] w (NewO w (Orc.fresh true seed)) := by
  go_enter Tryz.func26, Tryz.ntmps26
  go_wp2_with fail
  refine (newOracle_any _).mono ?_
  rintro e w1 ⟨b, F, rfl, hat, hE, hF⟩
  obtain ⟨qv, mk, ms, mp, Q, S, hin⟩ := hat
  have hself := hin.self
  obtain ⟨c0, c1, _⟩ := self_cells hself
  have f0 := frozen_of hself
  have HIN := hid hin
  have HE := hid hE
  have HF := hid hF
  clear hin hE hF hself
  go_wp2
  go_ret
  have hs := heap_setCell_same (heap_setCell_same HIN.out.self 0 (.bool true)) 1 (uv seed)
  have hK : Kp (fun k => k = b) w1 ((w1.setCell ⟨b, 0, none⟩ (.bool true)).setCell ⟨b, 1, none⟩ (uv seed)) := ((Kp.refl (fun k => k = b) w1).setCell (p := ⟨b, 0, none⟩) (.inl rfl) _).setCell (p := ⟨b, 1, none⟩) (.inl rfl) _
  have hr := HIN.out.reself true seed 0 hs (fun k hk hl => hK.block k hl hk) hK.size
  exact ⟨b, F, rfl, ⟨qv, mk, ms, mp, Q, S, hr⟩, HE.out.kp hK (by rintro k rfl; exact HF.out _ HIN.out.foot.1), HF.out⟩
end Go.Proofs.YtcikjcjfcanloaaGreat
namespace Go.Proofs.YtcikjcjfcanloaaGreat
open Go.RowKit
attribute [local irreducible] perm fAdd fMul fPow fSub fNeg fRed
end Go.Proofs.YtcikjcjfcanloaaGreat
