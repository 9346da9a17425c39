/- The law TopCodecs: plain lemmas. -/
import Derived.Test.YtkdnnekdldomeaaDecB
import Derived.Test.YtkdnnekdldomeaaTopI
import Derived.Test.YtkdnnekdldomeaaAwkW
set_option linter.unusedSimpArgs false
namespace Go.Proofs.Ytkdnnekdldomeaa
open Go.RowKit
theorem sameCi_refl : ∀ l : List OutT, sameCi l l = true
  | [] => rfl
  | a :: r => by unfold sameCi; rw [sameCi_refl r]; simp
theorem sameTx_refl (t : TxT) : sameTx t t = true := by unfold sameTx; rw [sameCi_refl]; simp
theorem sameTxs_refl : ∀ l : List TxT, sameTxs l l = true
  | [] => rfl
  | a :: r => by unfold sameTxs; rw [sameTxs_refl r, sameTx_refl]; rfl
theorem sameBlk_refl (b : BlkT) : sameBlk b b = true := by unfold sameBlk sameHd; rw [sameTxs_refl]; simp
theorem sameTxs_bytes : ∀ {a b : List TxT}, a.length = b.length → sameTxs a b = true → (a.flatMap fun t => bytesB (txB t)) = b.flatMap fun t => bytesB (txB t)
  | [], [], _, _ => rfl
  | [], _ :: _, h, _ => by simp at h
  | _ :: _, [], h, _ => by simp at h
  | x :: r, y :: s, hl, h => by
    unfold sameTxs at h
    rw [Bool.and_eq_true] at h
    rw [List.flatMap_cons, List.flatMap_cons, sameTxs_bytes (by simpa using hl) h.2, sameTx_bytes h.1]
theorem sameBlk_bytes {a b : BlkT} (h : sameBlk a b = true) : blkB a = blkB b := by
  unfold sameBlk sameHd at h
  simp only [Bool.and_eq_true, decide_eq_true_eq] at h
  obtain ⟨⟨⟨⟨⟨⟨h1, h2⟩, h3⟩, h4⟩, h5⟩, h6⟩, h7⟩ := h
  unfold blkB hdrB
  rw [h1, h2, h3, h4, h5, h6, sameTxs_bytes h6 h7]
theorem sameBlk_ne {a b : BlkT} (h : blkB b ≠ blkB a) : sameBlk a b = false := by
  cases hs : sameBlk a b with
  | false => rfl
  | true => exact absurd (sameBlk_bytes hs).symm h
theorem txBs_small {l : List TxT} (h : ∀ t ∈ l, txV t = 0 ∧ t.proof.length ≤ 100) : (txBs l).length ≤ 504 * l.length := by
  induction l with
  | nil => simp [txBs]
  | cons t r ih =>
    have h1 := ih (fun t ht => h t (by simp [ht]))
    have h2 := h t (by simp)
    have h3 := txB_valid_le h2.1
    have e : txBs (t :: r) = bytesB (txB t) ++ txBs r := List.flatMap_cons
    have h4 : (bytesB (txB t)).length = 4 + (txB t).length := by rw [bytesB, List.length_append, lenB_length]
    rw [e, List.length_append, h4, List.length_cons]
    omega
/-- A small block's bytes are few. -/
theorem blkB_small {b : BlkT} (hs : smBlk b = true) (hv : blkV b = 0) : 40 ≤ (blkB b).length ∧ (blkB b).length ≤ 10000 := by
  have h1 := (smBlk_sm hs).2
  unfold smBlk at hs
  rw [Bool.and_eq_true, List.all_eq_true] at hs
  have h2 : ∀ t ∈ b.txs, txV t = 0 ∧ t.proof.length ≤ 100 := fun t ht => ⟨(blkV_parts hv).2 t ht, by
    have h := hs.2 t ht
    unfold smTx at h
    simp only [Bool.and_eq_true, decide_eq_true_eq] at h
    exact h.2.2.2⟩
  have h3 := txBs_small h2
  have h4 : (blkB b).length = 40 + (txBs b.txs).length := by rw [blkB, List.length_append, hdrB_length]
  omega
theorem own_take {w : World} {a : Option Addr} {c : Nat} {l : List UInt8} (h : OwnB w (.slice a l.length c) l) (hne : l ≠ []) {i : Nat} (hi : i ≤ l.length) : OwnB w (.slice a i c) (l.take i) := by
  have hl : (l.take i).length = i := by rw [List.length_take]; omega
  refine ⟨by show (bs (l.take i)).length = (l.take i).length * 1; simp [bs], .inr ?_⟩
  rcases h.2 with ⟨-, h2⟩ | ⟨g, cap, cur, h1, h2, h3, h4, h5, h6, h7⟩
  · exact absurd (List.eq_nil_of_length_eq_zero h2) hne
  · injection h1 with e1 e2 e3
    subst e1 e3
    refine ⟨g, c, cur, by rw [hl], h2, h3, by omega, h5, h6, ?_⟩
    rw [Nat.mul_one] at h7 ⊢
    rw [hl, show bs (l.take i) = (bs l).take i from by unfold bs; rw [List.map_take], ← h7, List.take_take, Nat.min_eq_left hi]
theorem own_set {w : World} {g c : Nat} {l : List UInt8} (h : OwnB w (.slice (some ⟨g, 0, none⟩) l.length c) l) (i : Nat) (x : UInt8) : OwnB (w.setCell ⟨g, i, none⟩ (.int .u8 (x.toNat : Int))) (.slice (some ⟨g, 0, none⟩) (l.set i x).length c) (l.set i x) := by
  refine ⟨by show (bs (l.set i x)).length = (l.set i x).length * 1; simp [bs], .inr ?_⟩
  rcases h.2 with ⟨h1, -⟩ | ⟨g', cap, cur, h1, h2, h3, h4, h5, h6, h7⟩
  · cases h1
  · injection h1 with e1 e2 e3
    injection e1 with e1
    injection e1 with e1 e4 e5
    subst e1 e3
    refine ⟨g, c, cur.setIfInBounds i (.int .u8 (x.toNat : Int)), rfl, h2, heap_setCell_same h3 i _, by rw [List.length_set]; exact h4, h5, by rw [Array.size_setIfInBounds]; exact h6, ?_⟩
    rw [Nat.mul_one] at h7 ⊢
    rw [List.length_set, Array.toList_setIfInBounds, List.take_set, h7]
    unfold bs
    rw [List.map_set]
end Go.Proofs.Ytkdnnekdldomeaa
