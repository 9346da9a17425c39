/- Plain: a transaction, a block as read field by field. -/
import Derived.Test.YtkdnnekdldomeaaRdSeq
namespace Go.Proofs.Ytkdnnekdldomeaa
open Go.RowKit
theorem Rd1.step {α : Type} {enc : α → List UInt8} {ok : α → Prop} {l m : List UInt8} {s s' : Nat × Bool} {x y : α} (h : Rd1 enc ok l s x s') (h0 : s.2 = false) (hy : ok y) (hd : l.drop s.1 = enc y ++ m) : x = y ∧ s'.2 = false ∧ l.drop s'.1 = m := by
  obtain ⟨h1, h2⟩ := h.2 h0 y m hy hd
  have h3 := (h.1 h2).2
  rw [h1, hd] at h3
  exact ⟨h1, h2, (List.append_cancel_left h3).symm⟩
abbrev ltB (x : UInt64) : Prop := x.toNat ≤ 18446744069414584320
structure OkO (o : OutT) : Prop where
  c : ltB o.commit
  a : ltB o.p.a
  b : ltB o.p.b
  l : okL 3 o.cipher
abbrev okOs (n : Nat) : List OutT → Prop := fun ys => ys.length = n ∧ ∀ o ∈ ys, OkO o
theorem outs_rd0 (l : List UInt8) (s : Nat × Bool) : Rd1 outsB (okOs 0) l s [] s := by
  refine ⟨fun h => ⟨h, rfl⟩, fun h y m hy _ => ⟨?_, h⟩⟩
  exact (List.eq_nil_of_length_eq_zero hy.1).symm
theorem out_rd {l : List UInt8} {s s1 s2 s3 s4 : Nat × Bool} {c a b : UInt64} {ci : List UInt64} (h1 : Rd1 (leB 8) ltB l s c s1) (h2 : Rd1 (leB 8) ltB l s1 a s2) (h3 : Rd1 (leB 8) ltB l s2 b s3) (h4 : Rd1 listB (okL 3) l s3 ci s4) :
    Rd1 outB OkO l s ⟨c, ⟨a, b⟩, ci⟩ s4 := by
  refine ⟨fun hf => ?_, fun h0 y m hy hd => ?_⟩
  · obtain ⟨f4, e4⟩ := h4.1 hf
    obtain ⟨f3, e3⟩ := h3.1 f4
    obtain ⟨f2, e2⟩ := h2.1 f3
    obtain ⟨f1, e1⟩ := h1.1 f2
    refine ⟨f1, ?_⟩
    rw [e1, e2, e3, e4]
    simp only [outB, List.append_assoc]
  · simp only [outB, List.append_assoc] at hd
    obtain ⟨rfl, f1, e1⟩ := h1.step h0 hy.c hd
    obtain ⟨rfl, f2, e2⟩ := h2.step f1 hy.a e1
    obtain ⟨rfl, f3, e3⟩ := h3.step f2 hy.b e2
    obtain ⟨rfl, f4, -⟩ := h4.step f3 hy.l e3
    exact ⟨rfl, f4⟩
theorem outs_rd {l : List UInt8} {s s1 s2 : Nat × Bool} {i : Nat} {X : List OutT} {o : OutT} (h1 : Rd1 outsB (okOs i) l s X s1) (h2 : Rd1 outB OkO l s1 o s2) : Rd1 outsB (okOs (i + 1)) l s (X ++ [o]) s2 := by
  refine ⟨fun hf => ?_, fun h0 y m hy hd => ?_⟩
  · obtain ⟨f2, e2⟩ := h2.1 hf
    obtain ⟨f1, e1⟩ := h1.1 f2
    refine ⟨f1, ?_⟩
    rw [e1, e2]
    simp [outsB]
  · obtain ⟨z, zs, rfl⟩ : ∃ z zs, y = zs ++ [z] := by
      have hne : y ≠ [] := by
        intro h
        have := hy.1
        rw [h] at this
        cases this
      exact ⟨y.getLast hne, y.dropLast, (List.dropLast_concat_getLast hne).symm⟩
    have hd2 : l.drop s.1 = outsB zs ++ (outB z ++ m) := by rw [hd]; simp [outsB]
    have hl : zs.length = i := by have := hy.1; simp at this; omega
    obtain ⟨rfl, f1, e1⟩ := h1.step h0 ⟨hl, fun o ho => hy.2 o (by simp [ho])⟩ hd2
    obtain ⟨rfl, f2, -⟩ := h2.step f1 (hy.2 z (by simp)) e1
    exact ⟨rfl, f2⟩
structure TxOkD (t : TxT) : Prop where
  an : ltB t.anchor
  ma : okL 4 t.marks
  ol : t.outs.length ≤ 4
  oo : ∀ o ∈ t.outs, OkO o
  de : t.deposit.toNat ≤ 4294967295
  wi : t.withdraw.toNat ≤ 4294967295
  fe : t.fee.toNat ≤ 4294967295
  ac : ltB t.account
  no : ltB t.nonce
  ex : ∃ n : Nat, t.expiry = (n : Int) ∧ n ≤ 1048576
  pr : t.proof.length ≤ 1048576
theorem ltB_of {x : UInt64} (h : x < big) : ltB x := by
  rw [lt_big_iff] at h
  show x.toNat ≤ 18446744069414584320
  omega
theorem txOkD {t : TxT} (h : txV t = 0) : TxOkD t := by
  have hp := txV_parts h
  have ho : txOk t = true := by
    unfold txV at h
    split at h
    · assumption
    · cases h
  unfold txOk amtOk at ho
  simp only [Bool.and_eq_true, decide_eq_true_eq] at ho
  obtain ⟨⟨⟨⟨⟨⟨⟨⟨h1, h2⟩, h3⟩, h4⟩, h5⟩, ⟨⟨⟨⟨⟨h6, h7⟩, h8⟩, h9⟩, h10⟩, -⟩⟩, h12⟩, h13⟩, h14⟩ := ho
  refine ⟨ltB_of h12, ⟨h1, h2⟩, h4, fun o hoo => ?_, h6, h7, h8, ltB_of h9, ltB_of h10, ⟨t.expiry.toNat, by omega, by omega⟩, hp.pl⟩
  have h15 := (List.all_eq_true.1 h5) o hoo
  unfold outOk validP at h15
  simp only [Bool.and_eq_true, decide_eq_true_eq] at h15
  exact ⟨ltB_of h15.1.1.1, ltB_of h15.1.1.2.1, ltB_of h15.1.1.2.2.1, by omega, h15.2⟩
theorem tx_read {l pf : List UInt8} {s1 s2 s3 s4 s5 s6 s7 s8 s9 s10 s11 : Nat × Bool} {a d wd f ac nc : UInt64} {m : List UInt64} {n ex : Nat} {X : List OutT}
    (h1 : Rd1 (leB 8) ltB l (0, false) a s1) (h2 : Rd1 listB (okL 4) l s1 m s2) (h3 : Rd1 (fun n : Nat => lenB (n : Int)) (fun n => n ≤ 4) l s2 n s3) (h4 : Rd1 outsB (okOs n) l s3 X s4) (hX : X.length = n)
    (h5 : Rd1 (leB 8) (fun x => x.toNat ≤ 4294967295) l s4 d s5) (h6 : Rd1 (leB 8) (fun x => x.toNat ≤ 4294967295) l s5 wd s6) (h7 : Rd1 (leB 8) (fun x => x.toNat ≤ 4294967295) l s6 f s7)
    (h8 : Rd1 (leB 8) ltB l s7 ac s8) (h9 : Rd1 (leB 8) ltB l s8 nc s9) (h10 : Rd1 (fun n : Nat => lenB (n : Int)) (fun n => n ≤ 1048576) l s9 ex s10) (h11 : Rd1 bytesB (fun c => c.length ≤ 1048576) l s10 pf s11) (hs : s11.1 ≤ l.length) :
    (s11.2 = false → s11.1 = l.length → txB ⟨a, m, X, d, wd, f, ac, nc, (ex : Int), pf⟩ = l) ∧
      ∀ y, txV y = 0 → txB y = l → (⟨a, m, X, d, wd, f, ac, nc, (ex : Int), pf⟩ : TxT) = y ∧ s11.2 = false ∧ s11.1 = l.length := by
  refine ⟨fun hf he => ?_, fun y hv hy => ?_⟩
  · obtain ⟨f10, e11⟩ := h11.1 hf
    obtain ⟨f9, e10⟩ := h10.1 f10
    obtain ⟨f8, e9⟩ := h9.1 f9
    obtain ⟨f7, e8⟩ := h8.1 f8
    obtain ⟨f6, e7⟩ := h7.1 f7
    obtain ⟨f5, e6⟩ := h6.1 f6
    obtain ⟨f4, e5⟩ := h5.1 f5
    obtain ⟨f3, e4⟩ := h4.1 f4
    obtain ⟨f2, e3⟩ := h3.1 f3
    obtain ⟨f1, e2⟩ := h2.1 f2
    obtain ⟨-, e1⟩ := h1.1 f1
    rw [List.drop_zero, e2, e3, e4, e5, e6, e7, e8, e9, e10, e11, he, List.drop_length, List.append_nil] at e1
    rw [e1]
    unfold txB txTail
    simp only [hX]
  · have ok := txOkD hv
    obtain ⟨a', m', X', d', wd', f', ac', nc', ex', pf'⟩ := y
    obtain ⟨en, he, hen⟩ := ok.ex
    have e0 : l.drop 0 = txB ⟨a', m', X', d', wd', f', ac', nc', ex', pf'⟩ ++ [] := by rw [List.drop_zero, hy, List.append_nil]
    simp only at he
    subst he
    simp only [txB, txTail, List.append_assoc] at e0
    obtain ⟨rfl, f1, e1⟩ := h1.step rfl ok.an e0
    obtain ⟨rfl, f2, e2⟩ := h2.step f1 ok.ma e1
    obtain ⟨rfl, f3, e3⟩ := h3.step (y := X'.length) f2 ok.ol e2
    obtain ⟨rfl, f4, e4⟩ := h4.step f3 ⟨rfl, ok.oo⟩ e3
    obtain ⟨rfl, f5, e5⟩ := h5.step f4 ok.de e4
    obtain ⟨rfl, f6, e6⟩ := h6.step f5 ok.wi e5
    obtain ⟨rfl, f7, e7⟩ := h7.step f6 ok.fe e6
    obtain ⟨rfl, f8, e8⟩ := h8.step f7 ok.ac e7
    obtain ⟨rfl, f9, e9⟩ := h9.step f8 ok.no e8
    obtain ⟨rfl, f10, e10⟩ := h10.step (y := en) f9 hen e9
    obtain ⟨rfl, f11, e11⟩ := h11.step f10 ok.pr e10
    refine ⟨rfl, f11, ?_⟩
    have := congrArg List.length e11
    rw [List.length_drop, List.length_nil] at this
    omega
end Go.Proofs.Ytkdnnekdldomeaa
