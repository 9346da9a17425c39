/- Plain: a block as read field by field. -/
import Derived.Test.YtkdnnekdldomeaaTxRd
import Derived.Test.YtkdnnekdldomeaaBlkV
namespace Go.Proofs.Ytkdnnekdldomeaa
open Go.RowKit
abbrev txBs (l : List TxT) : List UInt8 := l.flatMap fun t => bytesB (txB t)
/-- A block's head and i transactions were read. -/
structure BI (l : List UInt8) (par : UInt64) (h : Nat) (min wor non : UInt64) (n i : Nat) (X : List TxT) (s : Nat × Bool) : Prop where
  f : s.2 = false → l = leB 8 par ++ (lenB (h : Int) ++ (leB 8 min ++ (leB 8 wor ++ (leB 8 non ++ lenB (n : Int))))) ++ txBs X ++ l.drop s.1
  v : ∀ x ∈ X, txV x = 0 ∧ x.proof.length ≤ 10000
  c : ∀ y, blkV y = 0 → blkB y = l → s.2 = false ∧ y.parent = par ∧ y.height = (h : Int) ∧ y.miner = min ∧ y.work = wor ∧ y.nonce = non ∧ y.txs.length = n ∧ y.txs.take i = X ∧ l.drop s.1 = txBs (y.txs.drop i)
theorem bi_start {l : List UInt8} {par min wor non : UInt64} {h n : Nat} {s1 s2 s3 s4 s5 s6 : Nat × Bool}
    (h1 : Rd1 (leB 8) ltB l (0, false) par s1) (h2 : Rd1 (fun n : Nat => lenB (n : Int)) (fun n => n ≤ 1048576) l s1 h s2) (h3 : Rd1 (leB 8) ltB l s2 min s3) (h4 : Rd1 (leB 8) (fun x => x.toNat ≤ 65536) l s3 wor s4)
    (h5 : Rd1 (leB 8) (fun x => x.toNat ≤ 18446744073709551615) l s4 non s5) (h6 : Rd1 (fun n : Nat => lenB (n : Int)) (fun n => n ≤ 64) l s5 n s6) : BI l par h min wor non n 0 [] s6 := by
  refine ⟨fun hf => ?_, (fun x hx => by cases hx), fun y hv hy => ?_⟩
  · obtain ⟨f5, e6⟩ := h6.1 hf
    obtain ⟨f4, e5⟩ := h5.1 f5
    obtain ⟨f3, e4⟩ := h4.1 f4
    obtain ⟨f2, e3⟩ := h3.1 f3
    obtain ⟨f1, e2⟩ := h2.1 f2
    obtain ⟨-, e1⟩ := h1.1 f1
    rw [List.drop_zero] at e1
    rw [e2, e3, e4, e5, e6] at e1
    simpa [txBs, List.append_assoc] using e1
  · obtain ⟨hH, -⟩ := blkV_parts hv
    unfold hdrOk at hH
    simp only [Bool.and_eq_true, decide_eq_true_eq] at hH
    obtain ⟨⟨⟨⟨⟨⟨a1, a2⟩, a3⟩, a4⟩, a5⟩, a6⟩, a7⟩ := hH
    have hh : y.height = (y.height.toNat : Int) := by omega
    have hd : l.drop 0 = leB 8 y.parent ++ (lenB (y.height.toNat : Int) ++ (leB 8 y.miner ++ (leB 8 y.work ++ (leB 8 y.nonce ++ (lenB (y.txs.length : Int) ++ txBs y.txs))))) := by
      rw [List.drop_zero, ← hy, blkB, hdrB, ← hh]
      simp only [List.append_assoc]
    obtain ⟨e1, f1, d1⟩ := h1.step rfl (ltB_of a5) hd
    obtain ⟨e2, f2, d2⟩ := h2.step f1 (show y.height.toNat ≤ 1048576 by omega) d1
    obtain ⟨e3, f3, d3⟩ := h3.step f2 (ltB_of a6) d2
    obtain ⟨e4, f4, d4⟩ := h4.step f3 a4 d3
    obtain ⟨e5, f5, d5⟩ := h5.step f4 (show y.nonce.toNat ≤ 18446744073709551615 by have := y.nonce.toNat_lt; omega) d4
    obtain ⟨e6, f6, d6⟩ := h6.step f5 a7 d5
    exact ⟨f6, e1.symm, by rw [hh, e2], e3.symm, e4.symm, e5.symm, e6.symm, rfl, d6⟩
theorem weight_mem {l : List TxT} {t : TxT} (h : t ∈ l) : (txB t).length ≤ weightB l := by
  unfold weightB
  induction l with
  | nil => cases h
  | cons a r ih =>
    simp only [List.map_cons, List.sum_cons]
    rcases List.mem_cons.1 h with rfl | h
    · omega
    · have := ih h; omega
theorem blkV_weight {b : BlkT} (h : blkV b = 0) : weightB b.txs ≤ 2097152 := by
  unfold blkV at h
  split at h
  · split at h
    · assumption
    · cases h
  · cases h
/-- The next transaction's bytes stand there, if a valid block was written so. -/
theorem BI.at {l : List UInt8} {par min wor non : UInt64} {h n i : Nat} {X : List TxT} {s s' : Nat × Bool} {c : List UInt8} (b : BI l par h min wor non n i X s) (hi : i < n) (hr : Rd1 bytesB (fun c => c.length ≤ 2097152) l s c s')
    {y : BlkT} (hv : blkV y = 0) (hy : blkB y = l) : ∃ t, y.txs[i]? = some t ∧ txV t = 0 ∧ txB t = c ∧ s'.2 = false ∧ l.drop s'.1 = txBs (y.txs.drop (i + 1)) := by
  obtain ⟨f, -, -, -, -, -, hn, -, hd⟩ := b.c y hv hy
  have hlt : i < y.txs.length := by omega
  have hm : y.txs[i] ∈ y.txs := List.getElem_mem hlt
  have hd2 : l.drop s.1 = bytesB (txB y.txs[i]) ++ txBs (y.txs.drop (i + 1)) := by
    rw [hd, List.drop_eq_getElem_cons hlt]
    exact List.flatMap_cons
  have hw : (txB y.txs[i]).length ≤ 2097152 := Nat.le_trans (weight_mem hm) (blkV_weight hv)
  obtain ⟨e1, e2, e3⟩ := hr.step f hw hd2
  exact ⟨_, List.getElem?_eq_getElem hlt, (blkV_parts hv).2 _ hm, e1.symm, e2, e3⟩
theorem BI.bad1 {l : List UInt8} {par min wor non : UInt64} {h n i : Nat} {X : List TxT} {s s' : Nat × Bool} {c : List UInt8} (b : BI l par h min wor non n i X s) (hi : i < n) (hr : Rd1 bytesB (fun c => c.length ≤ 2097152) l s c s') (hf : s'.2 = true) :
    ∀ y, blkV y = 0 → blkB y ≠ l := fun y hv hy => by
  obtain ⟨t, -, -, -, h, -⟩ := b.at hi hr hv hy
  rw [hf] at h
  cases h
theorem BI.bad2 {l : List UInt8} {par min wor non : UInt64} {h n i : Nat} {X : List TxT} {s s' : Nat × Bool} {c : List UInt8} (b : BI l par h min wor non n i X s) (hi : i < n) (hr : Rd1 bytesB (fun c => c.length ≤ 2097152) l s c s') (hc : ∀ t, txV t = 0 → txB t ≠ c) :
    ∀ y, blkV y = 0 → blkB y ≠ l := fun y hv hy => by
  obtain ⟨t, -, h1, h2, -⟩ := b.at hi hr hv hy
  exact hc t h1 h2
theorem BI.len {l : List UInt8} {s s' : Nat × Bool} {c : List UInt8} (hl : l.length ≤ 10000) (hr : Rd1 bytesB (fun c => c.length ≤ 2097152) l s c s') (hf : s'.2 = false) : c.length ≤ 10000 := by
  have h1 := congrArg List.length (hr.1 hf).2
  rw [List.length_append, bytesB, List.length_append, List.length_drop] at h1
  omega
theorem BI.next {l : List UInt8} {par min wor non : UInt64} {h n i : Nat} {X : List TxT} {s s' : Nat × Bool} {c : List UInt8} {t : TxT} (b : BI l par h min wor non n i X s) (hi : i < n) (hl : l.length ≤ 10000) (hr : Rd1 bytesB (fun c => c.length ≤ 2097152) l s c s') (hf : s'.2 = false)
    (ht : txV t = 0) (hc : txB t = c) (hu : ∀ y, txV y = 0 → txB y = c → t = y) : BI l par h min wor non n (i + 1) (X ++ [t]) s' := by
  obtain ⟨f0, e1⟩ := hr.1 hf
  refine ⟨fun _ => ?_, fun x hx => ?_, fun y hv hy => ?_⟩
  · have h2 : txBs (X ++ [t]) = txBs X ++ bytesB (txB t) := by simp [txBs]
    rw [h2]
    have h3 := b.f f0
    rw [e1, ← hc] at h3
    simpa only [List.append_assoc] using h3
  · rcases List.mem_append.1 hx with hx | hx
    · exact b.v x hx
    · obtain rfl := List.mem_singleton.1 hx
      refine ⟨ht, ?_⟩
      have h1 := BI.len hl hr hf
      rw [← hc] at h1
      unfold txB txTail bytesB at h1
      simp only [List.length_append] at h1
      omega
  · obtain ⟨-, g1, g2, g3, g4, g5, g6, g7, -⟩ := b.c y hv hy
    obtain ⟨z, z1, z2, z3, z4, z5⟩ := b.at hi hr hv hy
    refine ⟨hf, g1, g2, g3, g4, g5, g6, ?_, z5⟩
    rw [List.take_add_one, z1, g7, hu z z2 z3]
    rfl
/-- All was read. -/
theorem BI.done {l : List UInt8} {par min wor non : UInt64} {h n : Nat} {X : List TxT} {s : Nat × Bool} (b : BI l par h min wor non n n X s) (hX : X.length = n) (hs : s.1 ≤ l.length) :
    (s.2 = false → s.1 = l.length → blkB ⟨par, (h : Int), min, wor, non, X⟩ = l) ∧ ∀ y, blkV y = 0 → blkB y = l → (⟨par, (h : Int), min, wor, non, X⟩ : BlkT) = y ∧ s.2 = false ∧ s.1 = l.length := by
  refine ⟨fun hf he => ?_, fun y hv hy => ?_⟩
  · have h1 := b.f hf
    rw [he, List.drop_length, List.append_nil] at h1
    rw [h1, blkB, hdrB, hX]
  · obtain ⟨f, g1, g2, g3, g4, g5, g6, g7, g8⟩ := b.c y hv hy
    rw [← g6, List.take_length] at g7
    rw [← g6, List.drop_length] at g8
    refine ⟨?_, f, ?_⟩
    · cases y
      simp only at g1 g2 g3 g4 g5 g7
      subst g1 g2 g3 g4 g5 g7
      rfl
    · have := congrArg List.length g8
      rw [List.length_drop] at this
      simp [txBs] at this
      omega
theorem txSm_of {t : TxT} (h : txV t = 0) : TSm t := by
  have hp := txOkD h
  refine ⟨by have := hp.ma.1; omega, by have := hp.ol; omega, fun o ho => by have := (hp.oo o ho).l.1; omega, by have := hp.pr; omega⟩
end Go.Proofs.Ytkdnnekdldomeaa
