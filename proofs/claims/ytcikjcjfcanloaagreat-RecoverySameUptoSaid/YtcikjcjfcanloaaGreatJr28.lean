/- Texts of this claim, joined: RecS. -/
import Derived.Test.YtcikjcjfcanloaaGreatJr23
set_option linter.unusedSimpArgs false
namespace Go.Proofs.YtcikjcjfcanloaaGreat
open Go.RowKit
attribute [local irreducible] perm fAdd fMul fPow fSub fNeg fRed hashU drawOf nextState
/-- The bytes of the wallet of a seed that has scanned a list. -/
def encW (s : UInt64) (l : List BlkT) : List UInt8 := walB l.length (stW s l).leaves (stW s l).notes
theorem encW_red (s : UInt64) (l : List BlkT) : encW (fRed s) l = encW s l := by unfold encW; rw [stW_red]
theorem encW_len {d : Nat} {s : UInt64} {l : List BlkT} (hd : d ≤ 12) (hok : okAll d l) : (encW s l).length ≤ 1000000 := by
  have h1 := fitsAll_stW ((okAll_fits (seed := s)).2 hok)
  have h2 := pow12 hd
  have h3 := (stW_ok s l).n
  unfold encW walB
  simp only [List.length_append, lenB_length, listB_length, owsB_length]
  simp only at h3
  omega
set_option maxRecDepth 100000 in
set_option maxHeartbeats 12800000 in
theorem recSame_any {w : World} {V W d d' : Nat} {s s' : UInt64} {l l' : List BlkT} {G G' : Nat → Prop} (h : WalAt w V d s l G) (h' : WalAt w W d' s' l' G') (hok : okAll d l) (hok' : okAll d' l') :
    Calls Tryz.prog 52 #[.pointer (some ⟨V, 0, none⟩), .pointer (some ⟨W, 0, none⟩)] w fun e w' => e = .returned (.bool (decide (encW s l = encW s' l'))) ∧ Ext w w' := by
  have E1 : Hid (∀ u, Ext w u → Calls Tryz.prog 39 #[.pointer (some ⟨V, 0, none⟩)] u (NewB u (encW s l))) := hid fun u k => wEncode_any (h.ext k) hok
  have E2 : Hid (∀ u, Ext w u → Calls Tryz.prog 39 #[.pointer (some ⟨W, 0, none⟩)] u (NewB u (encW s' l'))) := hid fun u k => wEncode_any (h'.ext k) hok'
  obtain ⟨B1, hB1⟩ : ∃ B, B = encW s l := ⟨_, rfl⟩
  obtain ⟨B2, hB2⟩ : ∃ B, B = encW s' l' := ⟨_, rfl⟩
  rw [← hB1] at E1
  rw [← hB2] at E2
  rw [← hB1, ← hB2]
  clear h h' hok hok' hB1 hB2
  go_enter Tryz.func52, Tryz.ntmps52
  go_wp2_with fail
  refine (E1.out _ (Ext.refl w)).mono ?_
  rintro e w1 ⟨v1, rfl, ho1, hx1, -⟩
  obtain ⟨va, vc, rfl, -⟩ := ownsRow_rd ho1
  have O1 := hid ho1
  have X1 := hid hx1
  clear ho1 hx1 E1
  go_wp2_with fail
  refine (E2.out _ X1.out).mono ?_
  rintro e w2 ⟨v2, rfl, ho2, hx2, -⟩
  obtain ⟨ua, uc, rfl, -⟩ := ownsRow_rd ho2
  have X2 := hid (X1.out.trans hx2)
  have EQ := hid (bEqual_any (.slice va B1.length vc) (.slice ua B2.length uc) B1 B2 w2 (ownsRow_rd (ownsRow_ext O1.out hx2)).weak (ownsRow_rd ho2).weak)
  clear ho2 hx2 E2 O1
  go_wp2_with fail
  refine (EQ.out).mono ?_
  rintro e w3 ⟨rfl, hx⟩
  have X3 := hid (X2.out.trans hx)
  clear hx EQ
  go_wp2_with fail
  go_ret
  exact ⟨rfl, X3.out⟩
end Go.Proofs.YtcikjcjfcanloaaGreat
