/- Lists of lists are copied; an element is appended to a list of lists. -/
import Derived.Test.YtdpgfjnpcjpdpaaTree4
set_option linter.unusedSimpArgs false
namespace Go.Proofs.Ytdpgfjnpcjpdpaa
open Go.RowKit
attribute [local irreducible] perm fAdd fMul fPow fSub fNeg fRed

theorem Try.infoL : (Try.prog.info? 24).map (fun i => (i.zero, i.size, i.bytes)) = some (some (.slice none 0 0), 1, 24) := by kernel_rfl
theorem u_ne_l {w : World} {v x : Value} {n : Nat} {xs : List Value} {l : List UInt64} (h : w.ownsRow 0 24 1 v n xs) (hx : OwnU w x l) {k : Nat} (hk : blk x = some k) : blk v ≠ some k := by
  intro hv
  obtain ⟨c1, h1⟩ := ownsRow_block h hv
  obtain ⟨c2, h2⟩ := ownsRow_block hx hk
  rw [h1] at h2
  injection h2 with h2
  injection h2 with _ h2
  exact absurd h2 (by decide)
theorem ownL_grow {wr w2 w3 : World} {v v' x : Value} {L : List (List UInt64 × Value)} {l : List UInt64} (h : OwnL wr v L) (hx : OwnU wr x l) (he : Ext wr w2)
    (h3 : w3.ownsRow 0 24 1 v' (L.length + 1) (L.map (·.2) ++ [x])) (hk : Kp (fun k => some k = blk v) w2 w3) : OwnL w3 v' (L ++ [(l, x)]) := by
  have key : ∀ {y : Value} {m : List UInt64}, OwnU wr y m → OwnU w3 y m := fun {y m} hy =>
    ownsRow_kp (ownsRow_ext hy he) hk fun k hk1 hk2 => u_ne_l h.1 hy hk1 hk2.symm
  refine ⟨by simpa using h3, fun z hz => ?_⟩
  rcases List.mem_append.1 hz with hz | hz
  · exact key (h.2 z hz)
  · rw [List.mem_singleton] at hz; subst hz; exact key hx

def NewLs (w : World) (ls : Lv) (e : Ending) (w' : World) : Prop :=
  ∃ v L, e = .returned v ∧ L.map (·.1) = ls ∧ OwnL w' v L ∧ Ext w w' ∧ (∀ t, blk v = some t → w.heap.size ≤ t) ∧ ∀ x ∈ L, ∀ t, blk x.2 = some t → w.heap.size ≤ t

set_option maxRecDepth 100000 in
set_option maxHeartbeats 3200000 in
theorem list_any (lv : Value) (ls : Lv) (w : World) (hl : RdL w lv ls) (hL : ls.length ≤ 1000000000) (hE : ∀ l ∈ ls, l.length ≤ 100000000000) :
    Calls Try.prog 16 #[lv] w (NewLs w ls) := by
  obtain ⟨a, c, rfl, -⟩ := hl.shape
  have HL := hid hl
  have HE := hid hE
  obtain ⟨i0, hi, hz0, hz1, hz2⟩ := info_parts Try.infoU
  obtain ⟨j0, hj, hy0, hy1, hy2⟩ := info_parts Try.infoL
  have HI := hid hi
  have HZ0 := hid hz0
  have HZ1 := hid hz1
  have HZ2 := hid hz2
  have HJ := hid hj
  have HY0 := hid hy0
  have HY1 := hid hy1
  have HY2 := hid hy2
  clear hl hE hi hz0 hz1 hz2 hj hy0 hy1 hy2
  go_enter Try.func16, Try.ntmps16
  go_wp2_with fail
  go_loopw [3, 8] (fun ov iv wr => ∃ (i : Nat) (L : List (List UInt64 × Value)), i ≤ ls.length ∧ iv = .int .i64 i ∧ L.map (·.1) = ls.take i ∧ OwnL wr ov L ∧ Ext w wr ∧ (∀ t, blk ov = some t → w.heap.size ≤ t) ∧ ∀ x ∈ L, ∀ t, blk x.2 = some t → w.heap.size ≤ t) (fun _ iv _ => (ls.length - (intOf iv).toNat))
  case atStart => exact ⟨0, [], by omega, rfl, rfl, ⟨World.ownsRow_nil _ _ _ _, fun x hx => by cases hx⟩, Ext.refl _, (fun t ht => by cases ht), fun x hx => by cases hx⟩
  case round =>
    obtain ⟨i, L, hi, rfl, hLs, hown, hxr, hfr, hfs⟩ := hrel
    have HXR := hid hxr
    have HFR := hid hfr
    have HFS := hid hfs
    have HLS := hid hLs
    have HOWN := hid hown
    by_cases hlt : i < ls.length
    · obtain ⟨l, hkk⟩ : ∃ l, ls[i]? = some l := ⟨_, List.getElem?_eq_getElem hlt⟩
      obtain ⟨b, o, y, d, rfl, hc, hr, -⟩ := (HL.out.ext hxr).at hkk
      have hle := HE.out l (List.mem_of_getElem? hkk)
      have HKK := hid hkk
      have hLl : L.length = i := by
        have := congrArg List.length hLs
        rw [List.length_map, List.length_take, Nat.min_eq_left (by omega)] at this
        exact this
      have HLL := hid hLl
      obtain ⟨oa, oc, rfl, -⟩ := ownsRow_rd hown.1
      have hx0 := (Ext.refl wr).alloc (.cells #[] 28)
      have hr1 := hr.ext hx0
      have how : (wr.alloc (.cells #[] 28)).ownsRow 0 28 1 (.slice (some ⟨wr.heap.size, 0, none⟩) 0 0) 0 [] := ⟨rfl, .inr ⟨wr.heap.size, 0, #[], rfl, Nat.zero_le _, heap_new _ _, Nat.le_refl _, Nat.zero_le _, rfl, rfl⟩⟩
      have hi0 : (0 : Int) ≤ (i : Int) := by omega
      clear hown hxr hfr hfs hLs hkk hr hLl
      go_wp2_with (at_builtin; refine wpList_app' rfl _ _ 24 rfl 28 i0 (.int .u64 0) 1 8 Try.underlying24 HI.out HZ0.out HZ1.out HZ2.out rfl (by decide) _ 0 [] rfl how _ l.length (us l) rfl hr1 (by simp) (us_one l) (by unfold maxLen; omega) (by omega) ?_)
      intro v1 w1 hown1 hk1 hb1
      have hu : OwnU w1 v1 l := by simpa using hown1
      have hxe : Ext wr w1 := hx0.kp hk1 (by intro k h; simp [Value.ownBlock] at h; omega)
      have hv1 : ∀ t, blk v1 = some t → wr.heap.size ≤ t := by
        intro t ht
        rcases hb1 with h | h
        · rw [h] at ht; simp [Value.ownBlock] at ht; omega
        · rw [h] at ht; simp at ht; omega
      obtain ⟨xa, xc, rfl, -⟩ := ownsRow_rd hu
      have hx2 := (Ext.refl w1).alloc (.cells #[.slice xa l.length xc] 24)
      have hrd1 := RdC.new1 w1 (.slice xa l.length xc) 24
      have hownL := HOWN.out.ext (hxe.trans hx2)
      have HXE := hid hxe
      have HV1 := hid hv1
      have HU := hid hu
      have HOWNL := hid hownL
      clear hown1 hk1 hb1 hu hxe hv1 hx0 hr1 how hownL
      go_wp2_with (at_builtin; refine wpList_app rfl _ _ 22 rfl 24 j0 (.slice none 0 0) 1 24 Try.underlying22 HJ.out HY0.out HY1.out HY2.out rfl (by decide) (.slice oa L.length oc) L.length (L.map (·.2)) rfl HOWNL.out.1 (.slice (some ⟨w1.heap.size, 0, none⟩) 1 1) 1 [.slice xa l.length xc] rfl hrd1 rfl (by intro u hu; simp only [List.mem_singleton] at hu; subst hu; rfl) (by have := HLL.out; unfold maxLen; omega) (by have := HLL.out; omega) ?_)
      intro v2 w2 hown2 hk2 hb2
      have hx1' := HXE.out
      have hnew := ownL_grow (HOWN.out.ext HXE.out) HU.out hx2 hown2 hk2
      have hE2 : Ext w w2 := ((HXR.out.trans HXE.out).trans hx2).kp hk2 (fun k hk => HFR.out k hk.symm)
      have hv2 : ∀ t, blk v2 = some t → w.heap.size ≤ t := by
        intro t ht
        rcases hb2 with h | h
        · rw [h] at ht; exact HFR.out t ht
        · rw [h] at ht; cases ht; have := HXR.out.size; have := HXE.out.size; simp; omega
      have hs2 : ∀ x ∈ L ++ [(l, .slice xa l.length xc)], ∀ t, blk x.2 = some t → w.heap.size ≤ t := by
        intro x hx t ht
        rcases List.mem_append.1 hx with hx | hx
        · exact HFS.out x hx t ht
        · rw [List.mem_singleton] at hx; subst hx; have := HV1.out t ht; have := HXR.out.size; omega
      have hm2 : (L ++ [(l, Value.slice xa l.length xc)]).map (·.1) = ls.take (i + 1) := by
        rw [List.map_append, HLS.out, List.take_add_one, HKK.out]; rfl
      have HNEW := hid (And.intro hm2 (And.intro hnew (And.intro hE2 (And.intro hv2 hs2))))
      clear hnew hE2 hv2 hs2 hm2 hown2 hk2 hb2 hx1' hx2 hrd1
      go_wp2_with fail
      go_roundw
      case rel => exact ⟨i + 1, _, by omega, by go_num, HNEW.out⟩
      case measure => simp [intOf]; omega
    · obtain rfl : i = ls.length := by omega
      clear hown hxr hfr hfs hLs
      go_wp2_with fail
      go_ret
      exact ⟨_, L, rfl, by rw [HLS.out, List.take_length], HOWN.out, HXR.out, HFR.out, HFS.out⟩
end Go.Proofs.Ytdpgfjnpcjpdpaa
