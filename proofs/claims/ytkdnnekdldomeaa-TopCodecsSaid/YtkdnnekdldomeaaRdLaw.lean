/- Plain: what a reader reads is what was written (Rd1), and what stays read while only some blocks turn (Sta). -/
import Derived.Test.YtkdnnekdldomeaaRead
namespace Go.Proofs.Ytkdnnekdldomeaa
open Go.RowKit
/-- C holds as long as only blocks of A turn. -/
def Sta (A : Nat → Prop) (w : World) (C : World → Prop) : Prop := ∀ u, Kp A w u → C u
theorem Sta.now {A : Nat → Prop} {w : World} {C : World → Prop} (h : Sta A w C) : C w := h w (Kp.refl _ _)
theorem Sta.go {A B F : Nat → Prop} {w w' : World} {C : World → Prop} (h : Sta A w C) (k : Kp F w w') (hF : ∀ i, i < w.heap.size → F i → A i) (hB : ∀ i, i < w.heap.size → B i → A i) : Sta B w' C :=
  fun u ku => h u ((k.mono hF).trans2 ku hB)
theorem Sta.mono {A : Nat → Prop} {w : World} {C D : World → Prop} (h : Sta A w C) (hC : ∀ u, C u → D u) : Sta A w D := fun u k => hC u (h u k)
/-- From s on, x was read as enc writes it; and whatever enc had written there would have been read. -/
def Rd1 {α : Type} (enc : α → List UInt8) (ok : α → Prop) (l : List UInt8) (s : Nat × Bool) (x : α) (s' : Nat × Bool) : Prop :=
  (s'.2 = false → s.2 = false ∧ l.drop s.1 = enc x ++ l.drop s'.1) ∧ (s.2 = false → ∀ y m, ok y → l.drop s.1 = enc y ++ m → x = y ∧ s'.2 = false)
theorem Rd1.seq {α β : Type} {e1 : α → List UInt8} {e2 : β → List UInt8} {o1 : α → Prop} {o2 : β → Prop} {l : List UInt8} {s s1 s2 : Nat × Bool} {x : α} {y : β} (h1 : Rd1 e1 o1 l s x s1) (h2 : Rd1 e2 o2 l s1 y s2) :
    Rd1 (fun p : α × β => e1 p.1 ++ e2 p.2) (fun p => o1 p.1 ∧ (p.1 = x → o2 p.2)) l s (x, y) s2 := by
  refine ⟨fun hf => ?_, fun hs p m hp hd => ?_⟩
  · obtain ⟨g1, g2⟩ := h2.1 hf
    obtain ⟨g3, g4⟩ := h1.1 g1
    exact ⟨g3, by rw [g4, g2, List.append_assoc]⟩
  · obtain ⟨a, b⟩ := p
    simp only at hp hd
    rw [List.append_assoc] at hd
    obtain ⟨rfl, g1⟩ := h1.2 hs a _ hp.1 hd
    have g2 := (h1.1 g1).2
    rw [hd] at g2
    have g3 := List.append_cancel_left g2
    obtain ⟨rfl, g4⟩ := h2.2 g1 b m (hp.2 rfl) g3.symm
    exact ⟨rfl, g4⟩
theorem leB_leV : ∀ (c : List UInt8), c.length ≤ 8 → leB c.length (UInt64.ofNat (leV c)) = c
  | [], _ => rfl
  | d :: r, h => by
    have hr : r.length ≤ 7 := by simpa using h
    have h1 := leV_lt r
    have h2 : 256 ^ r.length ≤ 256 ^ 7 := Nat.pow_le_pow_right (by decide) hr
    have h3 : (256 : Nat) ^ 7 = 72057594037927936 := by decide
    have hd := d.toNat_lt
    have hv : (UInt64.ofNat (leV (d :: r))).toNat = d.toNat + 256 * leV r := by
      rw [UInt64.toNat_ofNat', leV]; omega
    have hq : (UInt64.ofNat (leV r)).toNat = leV r := by rw [UInt64.toNat_ofNat']; omega
    rw [List.length_cons, leB]
    congr 1
    · apply UInt8.toNat_inj.1
      rw [UInt64.toNat_toUInt8, hv]; omega
    · have e : UInt64.ofNat (leV (d :: r)) / 256 = UInt64.ofNat (leV r) := by
        apply UInt64.toNat_inj.1
        rw [UInt64.toNat_div, hv, hq]
        show (d.toNat + 256 * leV r) / 256 = leV r
        omega
      rw [e]
      exact leB_leV r (by omega)
theorem digR_ok {l : List UInt8} {n : Nat} {s : Nat × Bool} (hn : n ≤ 8) (h : (digR l n s).2.1 = true) :
    s.2 = false ∧ s.1 + n ≤ l.length ∧ (digR l n s).2.2 = (s.1 + n, false) ∧ l.drop s.1 = leB n (digR l n s).1 ++ l.drop (s.1 + n) := by
  unfold digR at h ⊢
  split
  · next hc =>
    refine ⟨hc.1, hc.2, rfl, ?_⟩
    have hl : ((l.drop s.1).take n).length = n := by rw [List.length_take, List.length_drop]; omega
    have h1 := leB_leV ((l.drop s.1).take n) (by omega)
    rw [hl] at h1
    show l.drop s.1 = leB n (UInt64.ofNat (leV ((l.drop s.1).take n))) ++ l.drop (s.1 + n)
    rw [h1, ← List.drop_drop, List.take_append_drop]
  · next hc => rw [if_neg hc] at h; cases h
theorem uintR_rd (l : List UInt8) (most : UInt64) (s : Nat × Bool) (hs : s.1 ≤ l.length) : Rd1 (leB 8) (fun x => x.toNat ≤ most.toNat) l s (uintR l most s).1 (uintR l most s).2 := by
  refine ⟨fun hf => ?_, fun h0 y m hy hd => ?_⟩
  · have hu : uintR l most s = if (digR l 8 s).2.1 = true ∧ (digR l 8 s).1.toNat ≤ most.toNat then ((digR l 8 s).1, (digR l 8 s).2.2) else (0, ((digR l 8 s).2.2.1, true)) := rfl
    rw [hu] at hf ⊢
    split at hf
    · next hc =>
      rw [if_pos hc]
      obtain ⟨g1, g2, g3, g4⟩ := digR_ok (by omega) hc.1
      exact ⟨g1, by rw [g3]; exact g4⟩
    · cases hf
  · obtain ⟨p, f⟩ := s
    simp only at h0 hd hs
    subst h0
    rw [uintR_leB hd hs hy]
    exact ⟨rfl, rfl⟩
theorem intR_rd (l : List UInt8) (most : Nat) (s : Nat × Bool) (hs : s.1 ≤ l.length) (hm : most ≤ 4294967295) : Rd1 (fun n : Nat => lenB (n : Int)) (fun n => n ≤ most) l s (intR l most s).1 (intR l most s).2 := by
  refine ⟨fun hf => ?_, fun h0 y m hy hd => ?_⟩
  · have hu : intR l most s = if (digR l 4 s).2.1 = true ∧ (digR l 4 s).1.toNat ≤ most then ((digR l 4 s).1.toNat, (digR l 4 s).2.2) else (0, ((digR l 4 s).2.2.1, true)) := rfl
    rw [hu] at hf ⊢
    split at hf
    · next hc =>
      rw [if_pos hc]
      obtain ⟨g1, g2, g3, g4⟩ := digR_ok (by omega) hc.1
      refine ⟨g1, ?_⟩
      rw [g3]
      show l.drop s.1 = lenB ((digR l 4 s).1.toNat : Int) ++ l.drop (s.1 + 4)
      rw [lenB_U, show lenU ((digR l 4 s).1.toNat : Int) = (digR l 4 s).1 from UInt64.toNat_inj.1 (lenU_toNat (by omega))]
      exact g4
    · cases hf
  · obtain ⟨p, f⟩ := s
    simp only at h0 hd hs
    subst h0
    rw [intR_lenB hd hs (by omega) hy]
    exact ⟨rfl, rfl⟩
theorem intR_le (l : List UInt8) (most : Nat) (s : Nat × Bool) : (intR l most s).1 ≤ most := by
  have hu : intR l most s = if (digR l 4 s).2.1 = true ∧ (digR l 4 s).1.toNat ≤ most then ((digR l 4 s).1.toNat, (digR l 4 s).2.2) else (0, ((digR l 4 s).2.2.1, true)) := rfl
  rw [hu]
  split
  · next hc => exact hc.2
  · exact Nat.zero_le _
end Go.Proofs.Ytkdnnekdldomeaa
