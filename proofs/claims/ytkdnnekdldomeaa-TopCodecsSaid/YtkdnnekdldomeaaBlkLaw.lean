/- Plain: transactions and blocks, their bytes, their validity, their identifiers; two valid blocks with the same identifier are equal, or two different byte strings have the same hash. -/
import Derived.Test.YtkdnnekdldomeaaBytes
import Derived.Test.YtkdnnekdldomeaaPt
namespace Go.Proofs.Ytkdnnekdldomeaa
open Go.RowKit
structure OutT where
  commit : UInt64
  p : E2
  cipher : List UInt64
structure TxT where
  anchor : UInt64
  marks : List UInt64
  outs : List OutT
  deposit : UInt64
  withdraw : UInt64
  fee : UInt64
  account : UInt64
  nonce : UInt64
  expiry : Int
  proof : List UInt8
structure BlkT where
  parent : UInt64
  height : Int
  miner : UInt64
  work : UInt64
  nonce : UInt64
  txs : List TxT
/-! ## bytes -/
def lenB (n : Int) : List UInt8 := leB 4 (UInt64.ofNat (if 0 ≤ n ∧ n ≤ 4294967295 then n.toNat else 0))
def listB (l : List UInt64) : List UInt8 := lenB l.length ++ cat l
def bytesB (c : List UInt8) : List UInt8 := lenB c.length ++ c
def outB (o : OutT) : List UInt8 := leB 8 o.commit ++ (leB 8 o.p.a ++ (leB 8 o.p.b ++ listB o.cipher))
def outsB (l : List OutT) : List UInt8 := l.flatMap outB
def txTail (t : TxT) : List UInt8 := leB 8 t.deposit ++ (leB 8 t.withdraw ++ (leB 8 t.fee ++ (leB 8 t.account ++ (leB 8 t.nonce ++ (lenB t.expiry ++ bytesB t.proof)))))
def txB (t : TxT) : List UInt8 := leB 8 t.anchor ++ (listB t.marks ++ (lenB t.outs.length ++ (outsB t.outs ++ txTail t)))
def hdrB (b : BlkT) : List UInt8 := leB 8 b.parent ++ (lenB b.height ++ (leB 8 b.miner ++ (leB 8 b.work ++ (leB 8 b.nonce ++ lenB b.txs.length))))
def blkB (b : BlkT) : List UInt8 := hdrB b ++ b.txs.flatMap fun t => bytesB (txB t)
/-! ## validity -/
def outOk (o : OutT) : Bool := decide (o.commit < big) && validP o.p && decide (o.cipher.length = 3) && allE o.cipher
def amtOk (t : TxT) : Bool :=
  decide (t.deposit.toNat ≤ 4294967295) && decide (t.withdraw.toNat ≤ 4294967295) && decide (t.fee.toNat ≤ 4294967295) && decide (t.account < big) && decide (t.nonce < big) &&
    (if 0 < t.deposit.toNat then decide (t.withdraw.toNat = 0) else decide (t.marks ≠ []) && decide (t.nonce.toNat = 0) && (decide (0 < t.withdraw.toNat) || decide (t.account.toNat = 0)))
def txOk (t : TxT) : Bool :=
  decide (t.marks.length ≤ 4) && allE t.marks && decide t.marks.Nodup && decide (t.outs.length ≤ 4) && t.outs.all outOk && amtOk t && decide (t.anchor < big) && decide (0 ≤ t.expiry) && decide (t.expiry ≤ 1048576)
def txV (t : TxT) : Int := if txOk t then (if t.proof.length ≤ 1048576 then 0 else 3) else 1
def hdrOk (b : BlkT) : Bool := decide (1 ≤ b.height) && decide (b.height ≤ 1048576) && decide (1 ≤ b.work.toNat) && decide (b.work.toNat ≤ 65536) && decide (b.parent < big) && decide (b.miner < big) && decide (b.txs.length ≤ 64)
def weightB (l : List TxT) : Nat := (l.map fun t => (txB t).length).sum
def blkV (b : BlkT) : Int := if hdrOk b && b.txs.all (fun t => decide (txV t = 0)) then (if weightB b.txs ≤ 2097152 then 0 else 3) else 1
/-! ## hashes of bytes -/
def leV : List UInt8 → Nat
  | [] => 0
  | x :: r => x.toNat + 256 * leV r
def packG (l : List UInt8) : List UInt64 := match l with
  | [] => []
  | x :: r => UInt64.ofNat (leV ((x :: r).take 7)) :: packG ((x :: r).drop 7)
termination_by l.length
decreasing_by simp; omega
def packU (l : List UInt8) : List UInt64 := UInt64.ofNat l.length :: packG l
def hashB (label : UInt64) (l : List UInt8) : UInt64 := hashU label (packU l)
def txId (t : TxT) : UInt64 := if txV t = 0 then hashB 14 (txB t) else 0
def named (b : BlkT) : List UInt8 := hdrB b ++ b.txs.flatMap fun t => leB 8 (txId t)
def blkId (b : BlkT) : UInt64 := if blkV b = 0 then hashB 15 (named b) else 0
/-! ## equality by the reference -/
def sameCi : List OutT → List OutT → Bool
  | a :: r, b :: s => decide (a.cipher.length = b.cipher.length) && sameCi r s
  | _, _ => true
def sameTx (a b : TxT) : Bool := decide (a.outs.length = b.outs.length) && decide (a.expiry = b.expiry) && sameCi a.outs b.outs && decide (txB a = txB b)
def sameTxs : List TxT → List TxT → Bool
  | a :: r, b :: s => sameTx a b && sameTxs r s
  | _, _ => true
def sameHd (a b : BlkT) : Bool := decide (a.parent = b.parent) && decide (a.height = b.height) && decide (a.miner = b.miner) && decide (a.work = b.work) && decide (a.nonce = b.nonce) && decide (a.txs.length = b.txs.length)
def sameBlk (a b : BlkT) : Bool := sameHd a b && sameTxs a.txs b.txs
def clashB (label : UInt64) (a b : List UInt8) : Bool := decide (a ≠ b) && decide (hashB label a = hashB label b)
/-! ## the law -/
theorem lenB_length (n : Int) : (lenB n).length = 4 := leB_length _ _
theorem lenB_inj {m n : Int} (hm : 0 ≤ m ∧ m ≤ 4294967295) (hn : 0 ≤ n ∧ n ≤ 4294967295) (h : lenB m = lenB n) : m = n := by
  unfold lenB at h
  rw [if_pos hm, if_pos hn] at h
  have h1 := leB_small 4 _ _ (by rw [UInt64.toNat_ofNat']; omega) (by rw [UInt64.toNat_ofNat']; omega) h
  have h2 := congrArg UInt64.toNat h1
  rw [UInt64.toNat_ofNat', UInt64.toNat_ofNat'] at h2
  omega
theorem outB_length {o : OutT} (h : outOk o = true) : (outB o).length = 52 := by
  unfold outOk at h
  simp only [Bool.and_eq_true, decide_eq_true_eq] at h
  unfold outB listB
  simp only [List.length_append, leB_length, lenB_length, cat_length, h.1.2]
theorem outsB_length {l : List OutT} (h : l.all outOk = true) : (outsB l).length = 52 * l.length := by
  induction l with
  | nil => rfl
  | cons o r ih =>
    rw [List.all_cons, Bool.and_eq_true] at h
    unfold outsB at ih ⊢
    rw [List.flatMap_cons, List.length_append, outB_length h.1, ih h.2, List.length_cons]
    omega
theorem sameCi_ok : ∀ {a b : List OutT}, a.all outOk = true → b.all outOk = true → sameCi a b = true
  | [], _, _, _ => by unfold sameCi; rfl
  | _ :: _, [], _, _ => by unfold sameCi; rfl
  | x :: r, y :: s, ha, hb => by
    rw [List.all_cons, Bool.and_eq_true] at ha hb
    unfold sameCi
    rw [sameCi_ok ha.2 hb.2, Bool.and_true, decide_eq_true_eq]
    have h1 := ha.1
    have h2 := hb.1
    unfold outOk at h1 h2
    simp only [Bool.and_eq_true, decide_eq_true_eq] at h1 h2
    rw [h1.1.2, h2.1.2]
structure TxParts (t : TxT) : Prop where
  ml : t.marks.length ≤ 4
  ol : t.outs.length ≤ 4
  oo : t.outs.all outOk = true
  ex : 0 ≤ t.expiry ∧ t.expiry ≤ 1048576
  pl : t.proof.length ≤ 1048576
theorem txV_parts {t : TxT} (h : txV t = 0) : TxParts t := by
  unfold txV at h
  split at h
  · next h1 =>
    split at h
    · next h2 =>
      unfold txOk at h1
      simp only [Bool.and_eq_true, decide_eq_true_eq] at h1
      obtain ⟨⟨⟨⟨⟨⟨⟨⟨a1, a2⟩, a3⟩, a4⟩, a5⟩, a6⟩, a7⟩, a8⟩, a9⟩ := h1
      exact ⟨a1, a4, a5, ⟨a8, a9⟩, h2⟩
    · omega
  · omega
theorem txTail_inj {a b : TxT} (ha : TxParts a) (hb : TxParts b) (h : txTail a = txTail b) : a.expiry = b.expiry := by
  unfold txTail at h
  have h1 := (List.append_inj h (by rw [leB_length, leB_length])).2
  have h2 := (List.append_inj h1 (by rw [leB_length, leB_length])).2
  have h3 := (List.append_inj h2 (by rw [leB_length, leB_length])).2
  have h4 := (List.append_inj h3 (by rw [leB_length, leB_length])).2
  have h5 := (List.append_inj h4 (by rw [leB_length, leB_length])).2
  have h6 := (List.append_inj h5 (by rw [lenB_length, lenB_length])).1
  exact lenB_inj (by have := ha.ex; omega) (by have := hb.ex; omega) h6
theorem txB_same {a b : TxT} (ha : txV a = 0) (hb : txV b = 0) (h : txB a = txB b) : sameTx a b = true := by
  have pa := txV_parts ha
  have pb := txV_parts hb
  have h0 := h
  unfold txB listB at h
  have h1 := (List.append_inj h (by rw [leB_length, leB_length])).2
  rw [List.append_assoc, List.append_assoc] at h1
  have h2 := List.append_inj h1 (by rw [lenB_length, lenB_length])
  have hm : a.marks.length = b.marks.length := by
    have := lenB_inj (by have := pa.ml; omega) (by have := pb.ml; omega) h2.1
    omega
  have h3 := (List.append_inj h2.2 (by rw [cat_length, cat_length, hm])).2
  have h4 := List.append_inj h3 (by rw [lenB_length, lenB_length])
  have ho : a.outs.length = b.outs.length := by
    have := lenB_inj (by have := pa.ol; omega) (by have := pb.ol; omega) h4.1
    omega
  have h5 := (List.append_inj h4.2 (by rw [outsB_length pa.oo, outsB_length pb.oo, ho])).2
  have he := txTail_inj pa pb h5
  unfold sameTx
  simp [ho, he, sameCi_ok pa.oo pb.oo, h0]
theorem sameTx_bytes {a b : TxT} (h : sameTx a b = true) : txB a = txB b := by
  unfold sameTx at h
  simp only [Bool.and_eq_true, decide_eq_true_eq] at h
  exact h.2
theorem blkV_parts {b : BlkT} (h : blkV b = 0) : hdrOk b = true ∧ ∀ t ∈ b.txs, txV t = 0 := by
  unfold blkV at h
  split at h
  · next h1 =>
    rw [Bool.and_eq_true, List.all_eq_true] at h1
    exact ⟨h1.1, fun t ht => by simpa using h1.2 t ht⟩
  · omega
theorem sameTxs_ids : ∀ {a b : List TxT}, a.length = b.length → (∀ t ∈ a, txV t = 0) → (∀ t ∈ b, txV t = 0) → sameTxs a b = true → (a.flatMap fun t => leB 8 (txId t)) = b.flatMap fun t => leB 8 (txId t)
  | [], [], _, _, _, _ => rfl
  | [], _ :: _, h, _, _, _ => by simp at h
  | _ :: _, [], h, _, _, _ => by simp at h
  | x :: r, y :: s, hl, ha, hb, h => by
    unfold sameTxs at h
    rw [Bool.and_eq_true] at h
    rw [List.flatMap_cons, List.flatMap_cons, sameTxs_ids (by simpa using hl) (fun t ht => ha t (by simp [ht])) (fun t ht => hb t (by simp [ht])) h.2]
    have h1 := sameTx_bytes h.1
    have hi : txId x = txId y := by
      unfold txId
      rw [if_pos (ha x (by simp)), if_pos (hb y (by simp)), h1]
    rw [hi]
theorem same_ids {a b : BlkT} (ha : blkV a = 0) (hb : blkV b = 0) (h : sameBlk a b = true) : blkId a = blkId b := by
  unfold sameBlk sameHd at h
  simp only [Bool.and_eq_true, decide_eq_true_eq] at h
  obtain ⟨⟨⟨⟨⟨⟨h1, h2⟩, h3⟩, h4⟩, h5⟩, h6⟩, h7⟩ := h
  have hn : named a = named b := by
    unfold named hdrB
    rw [h1, h2, h3, h4, h5, h6, sameTxs_ids h6 (blkV_parts ha).2 (blkV_parts hb).2 h7]
  unfold blkId
  rw [if_pos ha, if_pos hb, hn]
/-- Where the identifiers agree, the transactions are equal, or the bytes of two of them clash. -/
theorem ids_same : ∀ {a b : List TxT}, a.length = b.length → (∀ t ∈ a, txV t = 0) → (∀ t ∈ b, txV t = 0) → (a.flatMap fun t => leB 8 (txId t)) = (b.flatMap fun t => leB 8 (txId t)) →
    sameTxs a b = true ∨ ∃ (i : Nat) (x y : TxT), a[i]? = some x ∧ b[i]? = some y ∧ txId x = txId y ∧ clashB 14 (txB x) (txB y) = true
  | [], [], _, _, _, _ => .inl rfl
  | [], _ :: _, h, _, _, _ => by simp at h
  | _ :: _, [], h, _, _, _ => by simp at h
  | x :: r, y :: s, hl, ha, hb, h => by
    rw [List.flatMap_cons, List.flatMap_cons] at h
    have h1 := List.append_inj h (by rw [leB_length, leB_length])
    have hid := leB_inj h1.1
    have vx := ha x (by simp)
    have vy := hb y (by simp)
    by_cases he : txB x = txB y
    · rcases ids_same (by simpa using hl) (fun t ht => ha t (by simp [ht])) (fun t ht => hb t (by simp [ht])) h1.2 with h2 | ⟨i, x', y', g1, g2, g3, g4⟩
      · left
        unfold sameTxs
        rw [txB_same vx vy he, h2]; rfl
      · exact .inr ⟨i + 1, x', y', by simpa using g1, by simpa using g2, g3, g4⟩
    · refine .inr ⟨0, x, y, rfl, rfl, hid, ?_⟩
      unfold txId at hid
      rw [if_pos vx, if_pos vy] at hid
      unfold clashB
      simp [he, hid]
theorem hdr_inj {a b : BlkT} (ha : hdrOk a = true) (hb : hdrOk b = true) {x y : List UInt8} (h : hdrB a ++ x = hdrB b ++ y) : sameHd a b = true ∧ x = y := by
  unfold hdrOk at ha hb
  simp only [Bool.and_eq_true, decide_eq_true_eq] at ha hb
  unfold hdrB at h
  simp only [List.append_assoc] at h
  have h1 := List.append_inj h (by rw [leB_length, leB_length])
  have h2 := List.append_inj h1.2 (by rw [lenB_length, lenB_length])
  have h3 := List.append_inj h2.2 (by rw [leB_length, leB_length])
  have h4 := List.append_inj h3.2 (by rw [leB_length, leB_length])
  have h5 := List.append_inj h4.2 (by rw [leB_length, leB_length])
  have h6 := List.append_inj h5.2 (by rw [lenB_length, lenB_length])
  have e2 := lenB_inj (by omega) (by omega) h2.1
  have e6 := lenB_inj (by omega) (by omega) h6.1
  refine ⟨?_, h6.2⟩
  unfold sameHd
  simp [leB_inj h1.1, e2, leB_inj h3.1, leB_inj h4.1, leB_inj h5.1]
  omega
/-- Two valid blocks with the same identifier are equal, or two different byte strings have the same hash. -/
theorem ident_law {a b : BlkT} (ha : blkV a = 0) (hb : blkV b = 0) (h : blkId a = blkId b) :
    sameBlk a b = true ∨ clashB 15 (named a) (named b) = true ∨ (a.txs.length = b.txs.length ∧ ∃ (i : Nat) (x y : TxT), a.txs[i]? = some x ∧ b.txs[i]? = some y ∧ txId x = txId y ∧ clashB 14 (txB x) (txB y) = true) := by
  unfold blkId at h
  rw [if_pos ha, if_pos hb] at h
  by_cases hn : named a = named b
  · obtain ⟨h1, h2⟩ := hdr_inj (blkV_parts ha).1 (blkV_parts hb).1 hn
    have hl : a.txs.length = b.txs.length := by
      unfold sameHd at h1
      simp only [Bool.and_eq_true, decide_eq_true_eq] at h1
      exact h1.2
    rcases ids_same hl (blkV_parts ha).2 (blkV_parts hb).2 h2 with h3 | h3
    · left; unfold sameBlk; rw [h1, h3]; rfl
    · exact .inr (.inr ⟨hl, h3⟩)
  · right; left
    unfold clashB
    simp [hn, h]
end Go.Proofs.Ytkdnnekdldomeaa
