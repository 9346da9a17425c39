/- Operations of the laws of the oracle: in memory; few; own. -/
import Derived.Test.YtdkilbnocmnekaaAsk
set_option linter.unusedSimpArgs false
namespace Go.Proofs.Ytdkilbnocmnekaa
open Go.RowKit
attribute [local irreducible] perm fAdd fMul fPow fSub fNeg fRed

structure OpV where
  kind : UInt8
  label : UInt64
  l : List UInt64
  n : UInt64
  odd : Bool
abbrev RdU' (w : World) (v : Value) (l : List UInt64) : Prop := RdC' w v l.length (us l)
theorem RdC'.of_cells {w w' : World} {v : Value} {n : Nat} {cells : List Value} (h : RdC' w v n cells) (hb : ∀ b o u, w.cell? ⟨b, o, none⟩ = some u → w'.cell? ⟨b, o, none⟩ = some u) : RdC' w' v n cells := by
  obtain ⟨a, c, rfl, h2, h3, h4, h5⟩ := h
  refine ⟨a, c, rfl, h2, h3, h4, fun ad ha j u hu => ?_⟩
  have h6 := h5 ad ha j u hu
  have hs : ad.add j = ⟨(ad.add j).block, (ad.add j).off, none⟩ := by
    have : (ad.add j).spot = none := by
      unfold World.cell? at h6
      split at h6
      · split at h6
        · cases h6
        · next h => simpa using h
      · cases h6
    rw [← this]
  rw [hs] at h6 ⊢
  exact hb _ _ _ h6
theorem RdC'.ext {w w' : World} {v : Value} {n : Nat} {cells : List Value} (h : RdC' w v n cells) (k : Ext w w') : RdC' w' v n cells := h.of_cells fun _ _ _ hc => k.cell_some hc

set_option maxRecDepth 100000 in
set_option maxHeartbeats 800000 in
theorem own_any (lv : Value) (l : List UInt64) (w : World) (hl : RdU' w lv l) (hL : l.length ≤ 1000000000000) :
    Calls Try.prog 15 #[lv] w (NewU w l) := by
  obtain ⟨i0, hi, hz0, hz1, hz2⟩ := info_parts Try.infoU
  have hx0 := (Ext.refl w).alloc (.cells #[] 22)
  have hl1 := hl.ext hx0
  have hb := heap_new w (.cells #[] 22)
  have how : (w.alloc (.cells #[] 22)).ownsRow 0 22 1 (.slice (some ⟨w.heap.size, 0, none⟩) 0 0) 0 [] := ⟨rfl, .inr ⟨w.heap.size, 0, #[], rfl, Nat.zero_le _, hb, Nat.le_refl _, Nat.zero_le _, rfl, rfl⟩⟩
  go_enter Try.func15, Try.ntmps15
  go_wp2_with (at_builtin; refine wpList_app' rfl _ _ 28 rfl 22 i0 (.int .u64 0) 1 8 Try.underlying28 hi hz0 hz1 hz2 rfl (by decide) _ 0 [] rfl how _ l.length (us l) rfl hl1 (by simp) (us_one l) (by unfold maxLen; omega) (by omega) ?_)
  intro v' w1 hown0 hk hb
  have hown : OwnU w1 v' l := by simpa using hown0
  clear hown0
  have hE : Ext w w1 := hx0.kp hk (by intro k h; simp [Value.ownBlock] at h; omega)
  have hfr : ∀ k, blk v' = some k → w.heap.size ≤ k := by
    intro k h
    rcases hb with hb | hb
    · rw [hb] at h; simp [Value.ownBlock] at h; omega
    · rw [hb] at h; simp at h; omega
  have H1 := hid hown
  have H2 := hid hE
  have H3 := hid hfr
  clear hown hk hb hE hfr
  go_wp2
  go_ret
  exact ⟨v', rfl, H1.out, H2.out, H3.out⟩

/-- A slice that reads as a list of operations. -/
def RdOps (w : World) (v : Value) (l : List OpV) : Prop :=
  ∃ a c, v = .slice a l.length c ∧ l.length ≤ c ∧ c ≤ maxLen ∧ (a = none → c = 0) ∧
    ∀ ad, a = some ad → ad.spot = none ∧ ∀ i x, l[i]? = some x → ∃ u, w.cell? ⟨ad.block, ad.off + i * 5, none⟩ = some (.int .u8 (x.kind.toNat : Int)) ∧ w.cell? ⟨ad.block, ad.off + i * 5 + 1, none⟩ = some (uv x.label) ∧
      w.cell? ⟨ad.block, ad.off + i * 5 + 2, none⟩ = some u ∧ w.cell? ⟨ad.block, ad.off + i * 5 + 3, none⟩ = some (uv x.n) ∧ w.cell? ⟨ad.block, ad.off + i * 5 + 4, none⟩ = some (.bool x.odd) ∧ RdU' w u x.l
theorem RdOps.ext {w w' : World} {v : Value} {l : List OpV} (h : RdOps w v l) (k : Ext w w') : RdOps w' v l := by
  obtain ⟨a, c, rfl, h2, h3, h4, h5⟩ := h
  refine ⟨a, c, rfl, h2, h3, h4, fun ad ha => ⟨(h5 ad ha).1, fun i n hn => ?_⟩⟩
  obtain ⟨u, e0, e1, e2, e3, e4, e5⟩ := (h5 ad ha).2 i n hn
  exact ⟨u, k.cell_some e0, k.cell_some e1, k.cell_some e2, k.cell_some e3, k.cell_some e4, e5.ext k⟩
theorem RdOps.at {w : World} {a : Option Addr} {n c : Nat} {l : List OpV} (h : RdOps w (.slice a n c) l) {i : Nat} {x : OpV} (hx : l[i]? = some x) : ∃ b o u, a = some ⟨b, o, none⟩ ∧
    w.cell? ⟨b, o + i * 5, none⟩ = some (.int .u8 (x.kind.toNat : Int)) ∧ w.cell? ⟨b, o + i * 5 + 1, none⟩ = some (uv x.label) ∧
      w.cell? ⟨b, o + i * 5 + 2, none⟩ = some u ∧ w.cell? ⟨b, o + i * 5 + 3, none⟩ = some (uv x.n) ∧ w.cell? ⟨b, o + i * 5 + 4, none⟩ = some (.bool x.odd) ∧ RdU' w u x.l := by
  obtain ⟨a', c', he, hlc, _, hnil, hcell⟩ := h
  injection he with h1 h2 h3
  subst h1
  have hi : i < l.length := (List.getElem?_eq_some_iff.1 hx).1
  cases a with
  | none => have := hnil rfl; omega
  | some ad =>
    obtain ⟨hs, hc⟩ := hcell ad rfl
    obtain ⟨b, o, s⟩ := ad
    simp only at hs
    subst hs
    obtain ⟨u, hu⟩ := hc i x hx
    exact ⟨b, o, u, rfl, hu⟩

def fewOne (x : OpV) : Bool := !(decide (20 < x.l.length) || (decide ((x.kind.toNat : Int) % 8 = 6) && decide ((200 : Int) < (x.n.toNat : Int)) && decide ((x.n.toNat : Int) ≤ 65536)))
def fewB (l : List OpV) : Bool := l.all fewOne && decide (l.length ≤ 30)
theorem fewB_len {l : List OpV} (h : fewB l = true) : l.length ≤ 30 ∧ ∀ x ∈ l, x.l.length ≤ 20 := by
  simp only [fewB, Bool.and_eq_true, decide_eq_true_eq, List.all_eq_true] at h
  refine ⟨h.2, fun x hx => ?_⟩
  have := h.1 x hx
  simp only [fewOne, Bool.not_eq_true', Bool.or_eq_false_iff, decide_eq_false_iff_not] at this
  omega
theorem fewB_no {l : List OpV} {i : Nat} {x : OpV} (hx : l[i]? = some x) (h : fewOne x = false) : fewB l = false := by
  unfold fewB
  have : l.all fewOne = false := by
    rw [List.all_eq_false]
    exact ⟨x, List.mem_of_getElem? hx, by simp [h]⟩
  rw [this]; rfl

set_option maxRecDepth 100000 in
set_option maxHeartbeats 1600000 in
theorem few_any (l : List OpV) (lv : Value) (w : World) (hl : RdOps w lv l) :
    Calls Try.prog 12 #[lv] w fun e w' => e = .returned (.bool (fewB l)) ∧ Ext w w' := by
  obtain ⟨la, lc, rfl, hlc, hlm, -⟩ := id hl
  have HL := hid hl
  obtain ⟨nl, hnl⟩ : ∃ nl, nl = l.length := ⟨_, rfl⟩
  have HNL := hid hnl
  rw [← hnl] at HL ⊢
  clear hl hnl
  have hmax : nl ≤ 9223372036854775807 := by simp only [maxLen] at hlm; have h1 := HNL.out; omega
  go_enter Try.func12, Try.ntmps12
  go_wp2_with fail
  go_loopw [7] (fun iv wr => ∃ i : Nat, i ≤ nl ∧ iv = .int .i64 i ∧ Hid (∀ x ∈ l.take i, fewOne x = true) ∧ Hid (Ext w wr)) (fun iv _ => (nl - (intOf iv).toNat))
  case atStart => exact ⟨0, by omega, rfl, hid (by simp), hid (Ext.refl _)⟩
  case round =>
    obtain ⟨i, hi, rfl, HA, HX⟩ := hrel
    by_cases hlt : i < nl
    · have hltB : decide ((i : Int) < (nl : Int)) = true := by simp; omega
      obtain ⟨x, hx⟩ : ∃ x, l[i]? = some x := ⟨_, List.getElem?_eq_getElem (by have := HNL.out; omega)⟩
      obtain ⟨bl, ol, u, rfl, e0, e1, e2, e3, e4, e5⟩ := (HL.out.ext HX.out).at hx
      obtain ⟨ua, uc, rfl, -⟩ := id e5
      have hil : (i : Int) < (nl : Int) := by omega
      have hi0 : (0 : Int) ≤ (i : Int) := Int.natCast_nonneg _
      have HXX := hid hx
      clear e5 hx
      have hxe := HX.out.alloc (.cells #[.int .u8 x.kind.toNat, uv x.label, .slice ua x.l.length uc, uv x.n, .bool x.odd] 30)
      have HXE := hid hxe
      clear hxe
      go_wp2_with fail
      all_goals first
        | (go_ret
           refine ⟨?_, HXE.out⟩
           rw [fewB_no HXX.out (by simp only [fewOne, Bool.not_eq_false', Bool.or_eq_true, Bool.and_eq_true, decide_eq_true_eq]; omega)]
           rfl)
        | (refine ⟨⟨i + 1, by omega, by go_num, hid ?_, HXE⟩, by simp [intOf]; omega⟩
           intro y hy
           rw [List.take_add_one, HXX.out] at hy
           rcases List.mem_append.1 hy with hy | hy
           · exact HA.out y hy
           · obtain rfl : y = x := by simpa using hy
             simp only [fewOne, Bool.not_eq_true', Bool.or_eq_false_iff, Bool.and_eq_false_iff, decide_eq_false_iff_not]
             omega)
    · have hin : i = nl := by omega
      have hltB : decide ((i : Int) < (nl : Int)) = false := by simp; omega
      have hfew : ∀ x ∈ l, fewOne x = true := by have := HA.out; rw [hin, HNL.out, List.take_length] at this; exact this
      have HF : Hid (fewB l = decide ((nl : Int) ≤ 30)) := hid (by
        unfold fewB
        rw [List.all_eq_true.2 hfew, Bool.true_and, ← HNL.out]
        exact decide_eq_decide.2 (by omega))
      clear hfew
      cases h30 : decide ((nl : Int) ≤ 30)
      all_goals rw [h30] at HF
      all_goals go_wp2_with fail
      all_goals go_ret
      all_goals exact ⟨by rw [HF.out]; rfl, HX.out⟩
end Go.Proofs.Ytdkilbnocmnekaa
