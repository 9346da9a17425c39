/- The path of a commitment tree: the program's walk. Lists of lists are copied; an element is appended to a list of lists. -/
import Derived.Test.YtdpgfjnpcjpdpaaTree
set_option linter.unusedSimpArgs false
namespace Go.Proofs.Ytdpgfjnpcjpdpaa
open Go.RowKit
attribute [local irreducible] perm fAdd fMul fPow fSub fNeg fRed

theorem half_pow (i k : Nat) : i / 2 ^ k / 2 = i / 2 ^ (k + 1) := by rw [Nat.div_div_eq_div_mul, Nat.pow_succ]
def NewP (w : World) (l : List UInt64) (e : Ending) (w' : World) : Prop := ∃ v, e = .returned v ∧ OwnU w' v l ∧ Ext w w' ∧ (∀ k, blk v = some k → w.heap.size ≤ k)
theorem ownU_nil (w : World) : OwnU w (.slice none 0 0) [] := World.ownsRow_nil _ _ _ _

/-- What append of one element leaves. -/
theorem grown_one {w0 wr w3 : World} {v v' : Value} {p : List UInt64} {x : UInt64} {o : Obj} (hxr : Ext w0 wr) (hfr : ∀ t, blk v = some t → w0.heap.size ≤ t)
    (hown3 : w3.ownsRow 0 28 1 v' (p.length + 1) (us p ++ [uv x])) (hk3 : Kp (fun k => some k = blk v) (wr.alloc o) w3) (hb3 : blk v' = blk v ∨ blk v' = some (wr.heap.size + 1)) :
    OwnU w3 v' (p ++ [x]) ∧ Ext w0 w3 ∧ ∀ t, blk v' = some t → w0.heap.size ≤ t := by
  refine ⟨?_, (hxr.alloc o).kp hk3 (fun k hk => hfr k hk.symm), fun t ht => ?_⟩
  · have e : us (p ++ [x]) = us p ++ [uv x] := by simp [us]
    show w3.ownsRow 0 28 1 v' (p ++ [x]).length (us (p ++ [x]))
    rw [e, List.length_append]; exact hown3
  · rcases hb3 with h | h
    · rw [h] at ht; exact hfr t ht
    · rw [h] at ht; cases ht; have := hxr.size; omega

set_option maxRecDepth 100000 in
set_option maxHeartbeats 3200000 in
theorem mPath_any (lv : Value) (ls : Lv) (i : Int) (w : World) (hl : RdL w lv ls) (hL : ls.length ≤ 1000000000000) (hE : ∀ l ∈ ls, l.length ≤ 1000000000000) :
    Calls Try.prog 20 #[.agg #[lv], .int .i64 i] w (NewP w (pathL ls i)) := by
  obtain ⟨a, c, rfl, hc1, hc2, -⟩ := hl.shape
  have hx : Ext w (w.alloc (.cells #[.slice a ls.length c] 27)) := (Ext.refl w).alloc _
  have HWF := hid (wellFormed_any _ ls (w.alloc (.cells #[.slice a ls.length c] 27)) (hl.ext hx) hL hE)
  have HL := hid hl
  have HX := hid hx
  have HC := hid hc1
  have hb := heap_new w (.cells #[.slice a ls.length c] 27)
  have HB := hid hb
  have HEE := hid hE
  have hp : pathL ls i = if pathI ls i then pathN ls i.toNat (ls.length - 1) else [] := rfl
  have HP := hid hp
  have hpi : pathI ls i = (formed ls && (decide (0 ≤ i) && decide (i < (lnAt ls 0 : Nat)))) := rfl
  have HPI := hid hpi
  clear hl hE hx hb hc2 hp hpi
  go_enter Try.func20, Try.ntmps20
  go_wp2_with fail
  refine HWF.out.mono ?_
  rintro e w1 ⟨rfl, hx1⟩
  have HX1 := hid (HX.out.trans hx1)
  cases hf : formed ls with
  | false =>
    have hr : pathL ls i = [] := by rw [HP.out, HPI.out, hf]; rfl
    have HR := hid hr
    clear hr hf hx1
    go_wp2_with fail
    go_ret
    exact ⟨_, rfl, by rw [HR.out]; exact ownU_nil _, HX1.out, by intro k hk; cases hk⟩
  | true =>
    by_cases hi0 : i < 0
    · have hr : pathL ls i = [] := by rw [HP.out, HPI.out, hf, decide_eq_false (show ¬ 0 ≤ i by omega)]; rfl
      have HR := hid hr
      clear hr hf hx1
      go_wp2_with fail
      go_ret
      exact ⟨_, rfl, by rw [HR.out]; exact ownU_nil _, HX1.out, by intro k hk; cases hk⟩
    · have hlen : 0 < ls.length := List.length_pos_iff.2 (formed_ne hf)
      have hk : ls[0]? = some ls[0] := List.getElem?_eq_getElem (by omega)
      generalize ls[0] = l at *
      have hb1 := hx1.heap_some HB.out
      have hd0 : w1.cell? ⟨w.heap.size, 0, none⟩ = some (.slice a ls.length c) := cell_of hb1 0
      have hl1 := HL.out.ext HX1.out
      have HL1 := hid hl1
      obtain ⟨b, o, y, d, rfl, hcell, hrd, hld, -⟩ := hl1.at hk
      have hln := lnAt_of hk
      have hcell0 : w1.cell? ⟨b, o, none⟩ = some (.slice y l.length d) := hcell
      by_cases hi1 : i < (l.length : Int)
      · obtain ⟨j, rfl⟩ : ∃ j : Nat, i = (j : Int) := ⟨i.toNat, by omega⟩
        have hpI : pathI ls (j : Int) = true := by rw [HPI.out, hf, hln, decide_eq_true (show (0 : Int) ≤ j by omega), decide_eq_true hi1]; rfl
        have hr : pathL ls (j : Int) = pathN ls j (ls.length - 1) := by rw [HP.out, hpI]; rfl
        have hji : j < lnAt ls 0 := by rw [hln]; omega
        obtain ⟨m, hm⟩ : ∃ m, ls.length = m + 1 := ⟨ls.length - 1, by omega⟩
        rw [hm, Nat.add_sub_cancel] at hr
        have hmc : m + 1 ≤ c := by rw [← hm]; exact HC.out
        have HR := hid hr
        have HF := hid hf
        have HJI := hid hji
        have HM := hid hm
        have hj1 : j ≤ 1024 := by have := (isNum_pos (formed_first hf)).2; omega
        have hmL : m ≤ 1000000000000 := by omega
        rw [hm] at hd0
        rw [hm] at HL1
        obtain ⟨w2, hw2⟩ : ∃ w2, w2 = w1 := ⟨_, rfl⟩
        have HW2 := hid hw2
        have e1 : ((m + 1 : Nat) : Int) - 1 = (m : Int) := by omega
        have hd1 : decide ((j : Int) < 0) = false := by simp
        have hd2 : decide (l.length ≤ j) = false := by simp; omega
        rw [hm] at HWF HL HB HX ⊢
        clear hr hf hji hm hpI hln hk hx1 hb1 hl1 hcell hrd hlen hL hi1 hi0 hw2 HPI HP
        obtain ⟨i0, hi, hz0, hz1, hz2⟩ := info_parts Try.infoU
        have HI := hid hi
        have HZ0 := hid hz0
        have HZ1 := hid hz1
        have HZ2 := hid hz2
        clear hi hz0 hz1 hz2
        go_wp2_with fail
        go_loopw [1, 5, 32] (fun iv p kv wr => ∃ k : Nat, k ≤ m ∧ kv = .int .i64 k ∧ iv = .int .i64 ((j / 2 ^ k : Nat) : Int) ∧ OwnU wr p (pathN ls j k) ∧ Ext w1 wr ∧ ∀ t, blk p = some t → w1.heap.size ≤ t) (fun _ _ kv _ => (m - (intOf kv).toNat))
        case atStart => exact ⟨0, by omega, rfl, by simp, ownU_nil _, by rw [← HW2.out]; exact Ext.refl _, by intro t ht; cases ht⟩
        case round =>
          obtain ⟨k, hkm, rfl, rfl, hown, hxr, hfr⟩ := hrel
          have HXR := hid hxr
          have HFR := hid hfr
          by_cases hlt : k < m
          · obtain ⟨l', hkk⟩ : ∃ l', ls[k]? = some l' := ⟨_, List.getElem?_eq_getElem (by rw [HM.out]; omega)⟩
            obtain ⟨b', o', y', d', he, hc', hr', -⟩ := (HL1.out.ext hxr).at hkk
            injection he with he
            injection he with he1 he2
            subst he1 he2
            have hsib := path_sib HF.out HJI.out k (by rw [HM.out]; omega)
            rw [lnAt_of hkk] at hsib
            have hq : j / 2 ^ k ≤ 1024 := Nat.le_trans (Nat.div_le_self _ _) hj1
            have hx1 := xor1_i64 (j / 2 ^ k) (by omega)
            have hpow := half_pow j k
            have hps := pathN_succ ls j k
            have hpl := pathN_length ls j k
            generalize pathN ls j k = p0 at *
            generalize j / 2 ^ k = q at *
            generalize q ^^^ 1 = s at *
            obtain ⟨x, hxs⟩ : ∃ x, l'[s]? = some x := ⟨_, List.getElem?_eq_getElem hsib⟩
            rw [at2_of hkk hxs] at hps
            obtain ⟨b2, o2, rfl, hc2⟩ := hr'.uat hxs
            obtain ⟨pa, pc, rfl, -⟩ := ownsRow_rd hown
            have HOWN := hid hown
            have HPS := hid hps
            have HPL := hid hpl
            have HPOW := hid hpow
            have hk0 : (0 : Int) ≤ (k : Int) := by omega
            have hs1 : (s : Int) < (l'.length : Int) := by omega
            have hr1 := RdC.new1 wr (uv x) 28
            have hown2 : OwnU (wr.alloc (.cells #[uv x] 28)) (.slice pa p0.length pc) p0 := ownsRow_ext hown ((Ext.refl wr).alloc _)
            clear hown hps hpl hxr hfr hkk hr' hsib hxs hpow
            go_wp2_with (at_builtin; refine wpList_app rfl _ _ 24 rfl 28 i0 (.int .u64 0) 1 8 Try.underlying24 HI.out HZ0.out HZ1.out HZ2.out rfl (by decide) _ p0.length (us p0) rfl hown2 _ 1 [uv x] rfl hr1 rfl (us_one [x]) (by have := HPL.out; unfold maxLen; omega) (by have := HPL.out; omega) ?_)
            intro v' w3 hown3 hk3 hb3
            have hg := grown_one HXR.out HFR.out hown3 hk3 (by simpa using hb3)
            have HG := hid hg
            clear hown3 hk3 hb3 hg hr1 hown2
            go_wp2_with fail
            go_roundw
            case rel => exact ⟨k + 1, by omega, by go_num, by rw [← HPOW.out]; go_num, by rw [HPS.out]; exact HG.out.1, HG.out.2.1, HG.out.2.2⟩
            case measure => simp [intOf]; omega
          · obtain rfl : k = m := by omega
            have HOWN := hid hown
            clear hown hxr hfr
            go_wp2_with fail
            go_ret
            exact ⟨_, rfl, by rw [HR.out]; exact HOWN.out, HX1.out.trans HXR.out, fun t ht => Nat.le_trans HX1.out.size (HFR.out t ht)⟩
      · have hr : pathL ls i = [] := by rw [HP.out, HPI.out, hf, hln, decide_eq_false hi1]; simp
        have HR := hid hr
        have hd : decide ((l.length : Int) ≤ i) = true := by simp; omega
        have hlen' : (0 : Int) < (ls.length : Int) := by omega
        clear hr hf hk hb1 hl1 hcell hrd hln
        go_wp2_with fail
        go_ret
        exact ⟨_, rfl, by rw [HR.out]; exact ownU_nil _, HX1.out, by intro k hk; cases hk⟩
end Go.Proofs.Ytdpgfjnpcjpdpaa
namespace Go.Proofs.Ytdpgfjnpcjpdpaa
open Go.RowKit
attribute [local irreducible] perm fAdd fMul fPow fSub fNeg fRed

theorem Try.infoL : (Try.prog.info? 24).map (fun i => (i.zero, i.size, i.bytes)) = some (some (.slice none 0 0), 1, 24) := by kernel_rfl
theorem u_ne_l {w : World} {v x : Value} {n : Nat} {xs : List Value} {l : List UInt64} (h : w.ownsRow 0 24 1 v n xs) (hx : OwnU w x l) {k : Nat} (hk : blk x = some k) : blk v ≠ some k := by
  intro hv
  obtain ⟨c1, h1⟩ := ownsRow_block h hv
  obtain ⟨c2, h2⟩ := ownsRow_block hx hk
  rw [h1] at h2
  injection h2 with h2
  injection h2 with _ h2
  exact absurd h2 (by decide)
theorem ownL_grow {wr w2 w3 : World} {v v' x : Value} {L : List (List UInt64 × Value)} {l : List UInt64} (h : OwnL wr v L) (hx : OwnU wr x l) (he : Ext wr w2)
    (h3 : w3.ownsRow 0 24 1 v' (L.length + 1) (L.map (·.2) ++ [x])) (hk : Kp (fun k => some k = blk v) w2 w3) : OwnL w3 v' (L ++ [(l, x)]) := by
  have key : ∀ {y : Value} {m : List UInt64}, OwnU wr y m → OwnU w3 y m := fun {y m} hy =>
    ownsRow_kp (ownsRow_ext hy he) hk fun k hk1 hk2 => u_ne_l h.1 hy hk1 hk2.symm
  refine ⟨by simpa using h3, fun z hz => ?_⟩
  rcases List.mem_append.1 hz with hz | hz
  · exact key (h.2 z hz)
  · rw [List.mem_singleton] at hz; subst hz; exact key hx

def NewLs (w : World) (ls : Lv) (e : Ending) (w' : World) : Prop :=
  ∃ v L, e = .returned v ∧ L.map (·.1) = ls ∧ OwnL w' v L ∧ Ext w w' ∧ (∀ t, blk v = some t → w.heap.size ≤ t) ∧ ∀ x ∈ L, ∀ t, blk x.2 = some t → w.heap.size ≤ t

set_option maxRecDepth 100000 in
set_option maxHeartbeats 3200000 in
theorem list_any (lv : Value) (ls : Lv) (w : World) (hl : RdL w lv ls) (hL : ls.length ≤ 1000000000) (hE : ∀ l ∈ ls, l.length ≤ 100000000000) :
    Calls Try.prog 16 #[lv] w (NewLs w ls) := by
  obtain ⟨a, c, rfl, -⟩ := hl.shape
  have HL := hid hl
  have HE := hid hE
  obtain ⟨i0, hi, hz0, hz1, hz2⟩ := info_parts Try.infoU
  obtain ⟨j0, hj, hy0, hy1, hy2⟩ := info_parts Try.infoL
  have HI := hid hi
  have HZ0 := hid hz0
  have HZ1 := hid hz1
  have HZ2 := hid hz2
  have HJ := hid hj
  have HY0 := hid hy0
  have HY1 := hid hy1
  have HY2 := hid hy2
  clear hl hE hi hz0 hz1 hz2 hj hy0 hy1 hy2
  go_enter Try.func16, Try.ntmps16
  go_wp2_with fail
  go_loopw [3, 8] (fun ov iv wr => ∃ (i : Nat) (L : List (List UInt64 × Value)), i ≤ ls.length ∧ iv = .int .i64 i ∧ L.map (·.1) = ls.take i ∧ OwnL wr ov L ∧ Ext w wr ∧ (∀ t, blk ov = some t → w.heap.size ≤ t) ∧ ∀ x ∈ L, ∀ t, blk x.2 = some t → w.heap.size ≤ t) (fun _ iv _ => (ls.length - (intOf iv).toNat))
  case atStart => exact ⟨0, [], by omega, rfl, rfl, ⟨World.ownsRow_nil _ _ _ _, fun x hx => by cases hx⟩, Ext.refl _, (fun t ht => by cases ht), fun x hx => by cases hx⟩
  case round =>
    obtain ⟨i, L, hi, rfl, hLs, hown, hxr, hfr, hfs⟩ := hrel
    have HXR := hid hxr
    have HFR := hid hfr
    have HFS := hid hfs
    have HLS := hid hLs
    have HOWN := hid hown
    by_cases hlt : i < ls.length
    · obtain ⟨l, hkk⟩ : ∃ l, ls[i]? = some l := ⟨_, List.getElem?_eq_getElem hlt⟩
      obtain ⟨b, o, y, d, rfl, hc, hr, -⟩ := (HL.out.ext hxr).at hkk
      have hle := HE.out l (List.mem_of_getElem? hkk)
      have HKK := hid hkk
      have hLl : L.length = i := by
        have := congrArg List.length hLs
        rw [List.length_map, List.length_take, Nat.min_eq_left (by omega)] at this
        exact this
      have HLL := hid hLl
      obtain ⟨oa, oc, rfl, -⟩ := ownsRow_rd hown.1
      have hx0 := (Ext.refl wr).alloc (.cells #[] 28)
      have hr1 := hr.ext hx0
      have how : (wr.alloc (.cells #[] 28)).ownsRow 0 28 1 (.slice (some ⟨wr.heap.size, 0, none⟩) 0 0) 0 [] := ⟨rfl, .inr ⟨wr.heap.size, 0, #[], rfl, Nat.zero_le _, heap_new _ _, Nat.le_refl _, Nat.zero_le _, rfl, rfl⟩⟩
      have hi0 : (0 : Int) ≤ (i : Int) := by omega
      clear hown hxr hfr hfs hLs hkk hr hLl
      go_wp2_with (at_builtin; refine wpList_app' rfl _ _ 24 rfl 28 i0 (.int .u64 0) 1 8 Try.underlying24 HI.out HZ0.out HZ1.out HZ2.out rfl (by decide) _ 0 [] rfl how _ l.length (us l) rfl hr1 (by simp) (us_one l) (by unfold maxLen; omega) (by omega) ?_)
      intro v1 w1 hown1 hk1 hb1
      have hu : OwnU w1 v1 l := by simpa using hown1
      have hxe : Ext wr w1 := hx0.kp hk1 (by intro k h; simp [Value.ownBlock] at h; omega)
      have hv1 : ∀ t, blk v1 = some t → wr.heap.size ≤ t := by
        intro t ht
        rcases hb1 with h | h
        · rw [h] at ht; simp [Value.ownBlock] at ht; omega
        · rw [h] at ht; simp at ht; omega
      obtain ⟨xa, xc, rfl, -⟩ := ownsRow_rd hu
      have hx2 := (Ext.refl w1).alloc (.cells #[.slice xa l.length xc] 24)
      have hrd1 := RdC.new1 w1 (.slice xa l.length xc) 24
      have hownL := HOWN.out.ext (hxe.trans hx2)
      have HXE := hid hxe
      have HV1 := hid hv1
      have HU := hid hu
      have HOWNL := hid hownL
      clear hown1 hk1 hb1 hu hxe hv1 hx0 hr1 how hownL
      go_wp2_with (at_builtin; refine wpList_app rfl _ _ 22 rfl 24 j0 (.slice none 0 0) 1 24 Try.underlying22 HJ.out HY0.out HY1.out HY2.out rfl (by decide) (.slice oa L.length oc) L.length (L.map (·.2)) rfl HOWNL.out.1 (.slice (some ⟨w1.heap.size, 0, none⟩) 1 1) 1 [.slice xa l.length xc] rfl hrd1 rfl (by intro u hu; simp only [List.mem_singleton] at hu; subst hu; rfl) (by have := HLL.out; unfold maxLen; omega) (by have := HLL.out; omega) ?_)
      intro v2 w2 hown2 hk2 hb2
      have hx1' := HXE.out
      have hnew := ownL_grow (HOWN.out.ext HXE.out) HU.out hx2 hown2 hk2
      have hE2 : Ext w w2 := ((HXR.out.trans HXE.out).trans hx2).kp hk2 (fun k hk => HFR.out k hk.symm)
      have hv2 : ∀ t, blk v2 = some t → w.heap.size ≤ t := by
        intro t ht
        rcases hb2 with h | h
        · rw [h] at ht; exact HFR.out t ht
        · rw [h] at ht; cases ht; have := HXR.out.size; have := HXE.out.size; simp; omega
      have hs2 : ∀ x ∈ L ++ [(l, .slice xa l.length xc)], ∀ t, blk x.2 = some t → w.heap.size ≤ t := by
        intro x hx t ht
        rcases List.mem_append.1 hx with hx | hx
        · exact HFS.out x hx t ht
        · rw [List.mem_singleton] at hx; subst hx; have := HV1.out t ht; have := HXR.out.size; omega
      have hm2 : (L ++ [(l, Value.slice xa l.length xc)]).map (·.1) = ls.take (i + 1) := by
        rw [List.map_append, HLS.out, List.take_add_one, HKK.out]; rfl
      have HNEW := hid (And.intro hm2 (And.intro hnew (And.intro hE2 (And.intro hv2 hs2))))
      clear hnew hE2 hv2 hs2 hm2 hown2 hk2 hb2 hx1' hx2 hrd1
      go_wp2_with fail
      go_roundw
      case rel => exact ⟨i + 1, _, by omega, by go_num, HNEW.out⟩
      case measure => simp [intOf]; omega
    · obtain rfl : i = ls.length := by omega
      clear hown hxr hfr hfs hLs
      go_wp2_with fail
      go_ret
      exact ⟨_, L, rfl, by rw [HLS.out, List.take_length], HOWN.out, HXR.out, HFR.out, HFS.out⟩
end Go.Proofs.Ytdpgfjnpcjpdpaa
