/- The reference's ideal oracle: Open, Several, Seal. -/
import Derived.Test.YtgfmjfkdogcnhaaGreatRefM
import Derived.Test.YtgfmjfkdogcnhaaGreatSealI
import Derived.Test.YtgfmjfkdogcnhaaGreatEnv
set_option linter.unusedSimpArgs false
namespace Go.Proofs.YtgfmjfkdogcnhaaGreat
open Go.RowKit
attribute [local irreducible] perm fAdd fMul fPow fSub fNeg fRed hashU drawOf nextState
theorem sCells_at (S : List (Sl × Value × Value)) (i : Nat) {x : Sl × Value × Value} (h : S[i]? = some x) : (sCells S)[i * 4]? = some (uv x.1.key) ∧ (sCells S)[i * 4 + 1]? = some (uv x.1.nonce) ∧ (sCells S)[i * 4 + 2]? = some x.2.1 ∧ (sCells S)[i * 4 + 3]? = some x.2.2 := by
  induction S generalizing i with
  | nil => simp at h
  | cons y r ih =>
    have hc : sCells (y :: r) = uv y.1.key :: uv y.1.nonce :: y.2.1 :: y.2.2 :: sCells r := by simp [sCells]
    rw [hc]
    cases i with
    | zero => simp at h; subst h; exact ⟨rfl, rfl, rfl, rfl⟩
    | succ i =>
      have := ih i (by simpa using h)
      rw [show (i + 1) * 4 = i * 4 + 1 + 1 + 1 + 1 by omega]
      simpa using this
theorem RdSc.at {w : World} {a : Option Addr} {n c : Nat} {ss : List Sl} (h : RdSc w (.slice a n c) ss) {i : Nat} {s : Sl} (hs : ss[i]? = some s) :
    ∃ b o pa pc ta tc, a = some ⟨b, o, none⟩ ∧ w.cell? ⟨b, o + i * 4, none⟩ = some (uv s.key) ∧ w.cell? ⟨b, o + i * 4 + 1, none⟩ = some (uv s.nonce) ∧ w.cell? ⟨b, o + i * 4 + 2, none⟩ = some (.slice pa s.plain.length pc) ∧ w.cell? ⟨b, o + i * 4 + 3, none⟩ = some (.slice ta s.sealed.length tc) ∧
      RdU w (.slice pa s.plain.length pc) s.plain ∧ RdU w (.slice ta s.sealed.length tc) s.sealed := by
  obtain ⟨S, hS, ⟨a', c', he, h1, h2, h3, h4⟩, h5⟩ := h
  injection he with e1 e2 e3
  subst e1
  rw [← hS, List.getElem?_map] at hs
  obtain ⟨x, hx, rfl⟩ := Option.map_eq_some_iff.1 hs
  have hi : i < S.length := (List.getElem?_eq_some_iff.1 hx).1
  obtain ⟨g1, g2⟩ := h5 x (List.mem_of_getElem? hx)
  obtain ⟨pa, pc, hp, -⟩ := id g1
  obtain ⟨ta, tc, ht, -⟩ := id g2
  cases a with
  | none => have := h3 rfl; omega
  | some ad =>
    obtain ⟨q1, q2⟩ := h4 ad rfl
    obtain ⟨b, o, sp⟩ := ad
    simp only at q1
    subst q1
    obtain ⟨c0, c1, c2, c3⟩ := sCells_at S i hx
    rw [hp] at c2 g1
    rw [ht] at c3 g2
    exact ⟨b, o, pa, pc, ta, tc, rfl, q2 _ _ c0, by have := q2 _ _ c1; rwa [← Nat.add_assoc] at this, by have := q2 _ _ c2; rwa [← Nat.add_assoc] at this, by have := q2 _ _ c3; rwa [← Nat.add_assoc] at this, g1, g2⟩
theorem RdSc.len {w : World} {v : Value} {ss : List Sl} (h : RdSc w v ss) : ∃ a c, v = .slice a ss.length c := by
  obtain ⟨S, hS, ⟨a, c, rfl, -⟩, -⟩ := h
  exact ⟨a, c, by rw [← hS, List.length_map]⟩
theorem openI_hit {ss : List Sl} {key nonce : UInt64} {l : List UInt64} {i : Nat} {s : Sl} (hs : ss[i]? = some s) (h : isSeal s key nonce l = true) (hno : ∀ (j : Nat) (p : Sl), j < i → ss[j]? = some p → isSeal p key nonce l = false) : openI ss key nonce l = (s.plain, true) := by
  have : findS ss key nonce l = some s := by
    unfold findS
    rw [List.find?_eq_some_iff_getElem]
    obtain ⟨hi, rfl⟩ := List.getElem?_eq_some_iff.1 hs
    exact ⟨h, i, hi, rfl, fun j hj => by rw [hno j _ hj (List.getElem?_eq_getElem (by omega))]; rfl⟩
  unfold openI
  rw [this]; rfl
theorem openI_miss {ss : List Sl} {key nonce : UInt64} {l : List UInt64} (hno : ∀ (j : Nat) (p : Sl), j < ss.length → ss[j]? = some p → isSeal p key nonce l = false) : openI ss key nonce l = ([], false) := by
  have : findS ss key nonce l = none := by
    unfold findS
    rw [List.find?_eq_none]
    intro x hx
    obtain ⟨j, hj⟩ := List.mem_iff_getElem?.1 hx
    rw [hno j x (List.getElem?_eq_some_iff.1 hj).1 hj]; decide
  unfold openI
  rw [this]; rfl
def MOpenO (w : World) (r : List UInt64 × Bool) (e : Ending) (w' : World) : Prop := ∃ v, e = .returned (.tuple #[v, .bool r.2]) ∧ RdU w' v r.1 ∧ Ext w w'
set_option maxRecDepth 100000 in
set_option maxHeartbeats 3200000 in
theorem rMOpen_any {w : World} {qv sv pv lv : Value} {st : UInt64} {nn : Int} {ss : List Sl} {key nonce : UInt64} {l : List UInt64} (hq : isSl qv) (hp : isSl pv) (hs : RdSc w sv ss) (hl : RdU' w lv l) (hL : l.length ≤ 1000000000) (hS : ss.length ≤ 1000000000) (hE : ∀ s ∈ ss, s.sealed.length ≤ 1000000000) :
    Calls Tryz.prog 64 #[.agg #[uv st, .int .i64 nn, qv, sv, pv], uv key, uv nonce, lv] w (MOpenO w (openI ss key nonce l)) := by
  obtain ⟨qa, qn, qc, rfl⟩ := hq
  obtain ⟨pa, pn, pc, rfl⟩ := hp
  obtain ⟨sa, sc, rfl⟩ := hs.len
  obtain ⟨la, lc, rfl, -⟩ := id hl
  obtain ⟨N, hN⟩ : ∃ N, N = w.heap.size := ⟨_, rfl⟩
  obtain ⟨w0, hw0⟩ : ∃ w0, w0 = w.alloc (.cells #[uv st, .int .i64 nn, .slice qa qn qc, .slice sa ss.length sc, .slice pa pn pc] 36) := ⟨_, rfl⟩
  have hx0 : Ext w w0 := by rw [hw0]; exact (Ext.refl w).alloc _
  have hb0 : w0.heap[N]? = some (.cells #[uv st, .int .i64 nn, .slice qa qn qc, .slice sa ss.length sc, .slice pa pn pc] 36 (0, 0)) := by rw [hw0, hN]; exact heap_new _ _
  have H3 : Hid (∀ v, Ext w0 v → v.cell? ⟨N, 3, none⟩ = some (.slice sa ss.length sc)) := hid fun v k => k.cell_some (cell_of hb0 3)
  have HW := hid hw0
  have HX0 := hid hx0
  have HS := hid (hs.ext hx0)
  have HL := hid (hl.ext hx0)
  have HE := hid hE
  clear hw0 hx0 hb0 hs hl hE
  go_enter Tryz.func64, Tryz.ntmps64
  go_upto_region 1 with fail
  rw [← HW.out, ← hN]
  clear hN
  go_wp2_with fail
  go_loopw [10] (fun iv wr => ∃ i : Nat, i ≤ ss.length ∧ iv = .int .i64 i ∧ Hid (Ext w0 wr ∧ ∀ (j : Nat) (p : Sl), j < i → ss[j]? = some p → isSeal p key nonce l = false)) (fun iv _ => ss.length - (intOf iv).toNat)
  case atStart => exact ⟨0, by omega, rfl, hid ⟨Ext.refl _, fun j p hj => by omega⟩⟩
  case round =>
    obtain ⟨i, hi, rfl, HR⟩ := hrel
    have c3 := H3.out wr HR.out.1
    by_cases hlt : i < ss.length
    · have hltB : decide ((i : Int) < (ss.length : Int)) = true := by simp; omega
      obtain ⟨s, hsi⟩ : ∃ s, ss[i]? = some s := ⟨_, List.getElem?_eq_getElem hlt⟩
      obtain ⟨b, o, pa', pc', ta, tc, rfl, e0, e1, e2, e3, hpl, hse⟩ := (HS.out.ext HR.out.1).at hsi
      have hil : (i : Int) < (ss.length : Int) := by omega
      have hi0 : (0 : Int) ≤ (i : Int) := Int.natCast_nonneg _
      have HSI := hid hsi
      have HPL := hid hpl
      have hse' := SameV_any _ _ s.sealed l _ (hse.ext ((Ext.refl wr).alloc (.cells #[uv s.key, uv s.nonce, .slice pa' s.plain.length pc', .slice ta s.sealed.length tc] 130))).weak (HL.out.ext (HR.out.1.alloc (.cells #[uv s.key, uv s.nonce, .slice pa' s.plain.length pc', .slice ta s.sealed.length tc] 130))) (by have := HE.out s (List.mem_of_getElem? hsi); omega) (by omega)
      have HSE := hid hse'
      have hkb : ((s.key.toNat : Int) == (key.toNat : Int)) = (s.key == key) := u_eqB _ _
      have hnb : ((s.nonce.toNat : Int) == (nonce.toNat : Int)) = (s.nonce == nonce) := u_eqB _ _
      have his : isSeal s key nonce l = (s.key == key && s.nonce == nonce && s.sealed == l) := rfl
      have HIS := hid his
      clear hsi hpl hse hse' his
      cases hk : s.key == key with
      | false =>
        rw [hk] at hkb
        have HNO := hid (show ∀ (j : Nat) (p : Sl), j < i + 1 → ss[j]? = some p → isSeal p key nonce l = false from fun j p hj hp => by
          rcases Nat.lt_or_ge j i with h | h
          · exact HR.out.2 j p h hp
          · obtain rfl : j = i := by omega
            rw [HSI.out] at hp
            cases hp
            rw [HIS.out, hk]; first | rfl | simp)
        clear hk
        go_wp2_with fail
        go_roundw
        case rel => exact ⟨i + 1, by omega, by go_num, hid ⟨HR.out.1.alloc _, HNO.out⟩⟩
        case measure => simp [intOf]; omega
      | true =>
        rw [hk] at hkb
        cases hn : s.nonce == nonce with
        | false =>
          rw [hn] at hnb
          have HNO := hid (show ∀ (j : Nat) (p : Sl), j < i + 1 → ss[j]? = some p → isSeal p key nonce l = false from fun j p hj hp => by
            rcases Nat.lt_or_ge j i with h | h
            · exact HR.out.2 j p h hp
            · obtain rfl : j = i := by omega
              rw [HSI.out] at hp
              cases hp
              rw [HIS.out, hn]; first | rfl | simp)
          clear hk hn
          go_wp2_with fail
          go_roundw
          case rel => exact ⟨i + 1, by omega, by go_num, hid ⟨HR.out.1.alloc _, HNO.out⟩⟩
          case measure => simp [intOf]; omega
        | true =>
          rw [hn] at hnb
          have HKN := hid (And.intro hk hn)
          clear hk hn
          go_wp2_with fail
          refine HSE.out.mono ?_
          rintro e w1 ⟨rfl, hx1⟩
          have HX1 := hid (HR.out.1.trans (((Ext.refl wr).alloc _).trans hx1))
          cases hq : s.sealed == l with
          | false =>
            have HNO := hid (show ∀ (j : Nat) (p : Sl), j < i + 1 → ss[j]? = some p → isSeal p key nonce l = false from fun j p hj hp => by
              rcases Nat.lt_or_ge j i with h | h
              · exact HR.out.2 j p h hp
              · obtain rfl : j = i := by omega
                rw [HSI.out] at hp
                cases hp
                rw [HIS.out, hq]; first | rfl | simp)
            clear hq hx1
            go_wp2_with fail
            go_roundw
            case rel => exact ⟨i + 1, by omega, by go_num, hid ⟨HX1.out, HNO.out⟩⟩
            case measure => simp [intOf]; omega
          | true =>
            have HO := hid (openI_hit HSI.out (by rw [HIS.out, HKN.out.1, HKN.out.2, hq]; rfl) HR.out.2)
            have hb1 := hx1.heap_some (heap_new wr (.cells #[uv s.key, uv s.nonce, .slice pa' s.plain.length pc', .slice ta s.sealed.length tc] 130))
            obtain ⟨k0, k1, k2, k3⟩ := four_cells hb1
            have HP2 := hid (HPL.out.ext (((Ext.refl wr).alloc (.cells #[uv s.key, uv s.nonce, .slice pa' s.plain.length pc', .slice ta s.sealed.length tc] 130)).trans hx1))
            clear hq hx1 hb1
            go_wp2_with fail
            refine bodyPost_ret (v := .tuple #[.slice pa' s.plain.length pc', .bool true]) (by simp [results, Tryz.results64, go_sem]) rfl ?_
            rw [HO.out]
            exact ⟨_, rfl, HP2.out, HX0.out.trans HX1.out⟩
    · obtain rfl : i = ss.length := by omega
      have hltB : decide ((ss.length : Int) < (ss.length : Int)) = false := by simp
      have HO := hid (openI_miss HR.out.2)
      go_wp2_with fail
      refine bodyPost_ret (v := .tuple #[.slice none 0 0, .bool false]) (by simp [results, Tryz.results64, go_sem]) rfl ?_
      rw [HO.out]
      exact ⟨_, rfl, (RdC.nil _).rdu rfl, HX0.out.trans HR.out.1⟩
/-! ## Several -/
structure SevR (w w0 wr : World) (N : Nat) (M : Orc) (qv sv pv ov : Value) (i : Nat) : Prop where
  ex : Ext w wr
  box : wr.heap[N]? = some (.cells #[uv (M.steps i).state, .int .i64 ((M.steps i).draws : Int), qv, sv, pv] 36 (0, 0))
  res : wr.heap[N + 1]? = some (.cells #[.int .u64 0, .int .i64 0, .slice none 0 0, .slice none 0 0, .slice none 0 0] 36 (0, 0))
  own : OwnU wr ov (takeL M i)
  new : ∀ k, blk ov = some k → N + 1 < k
theorem takeL_succ (M : Orc) (i : Nat) : takeL M (i + 1) = takeL M i ++ [drawOf (M.steps i).state] := by
  unfold takeL
  rw [List.range_succ, List.map_append]; rfl
def SevO (w : World) (M : Orc) (qv sv pv : Value) (n : Nat) (e : Ending) (w' : World) : Prop := ∃ v, e = .returned (.tuple #[v, mVal (M.steps n).state (M.steps n).draws qv sv pv]) ∧ OwnU w' v (takeL M n) ∧ Ext w w' ∧ ∀ k, blk v = some k → w.heap.size ≤ k
set_option maxRecDepth 100000 in
set_option maxHeartbeats 3200000 in
theorem rSeveral_any {w : World} {qv sv pv : Value} {M : Orc} {n : Nat} (hq : isSl qv) (hs : isSl sv) (hp : isSl pv) (hn : n ≤ 100000000) (hd : M.draws ≤ 100000000000) :
    Calls Tryz.prog 95 #[mVal M.state M.draws qv sv pv, .int .i64 (n : Int)] w (SevO w M qv sv pv n) := by
  obtain ⟨qa, qn, qc, rfl⟩ := hq
  obtain ⟨sa, sn, sc, rfl⟩ := hs
  obtain ⟨pa, pn, pc, rfl⟩ := hp
  obtain ⟨i0, hi1, hz0, hz1, hz2⟩ := info_parts Tryz.infoU
  have HI1 := hid (And.intro hi1 (And.intro hz0 (And.intro hz1 hz2)))
  obtain ⟨N, hN⟩ : ∃ N, N = w.heap.size := ⟨_, rfl⟩
  obtain ⟨hx0, hb0, hb1, hz⟩ := two_new w (.cells #[uv M.state, .int .i64 (M.draws : Int), .slice qa qn qc, .slice sa sn sc, .slice pa pn pc] 36) (.cells #[.int .u64 0, .int .i64 0, .slice none 0 0, .slice none 0 0, .slice none 0 0] 36)
  obtain ⟨w0, hw0⟩ : ∃ w0, w0 = (w.alloc (.cells #[uv M.state, .int .i64 (M.draws : Int), .slice qa qn qc, .slice sa sn sc, .slice pa pn pc] 36)).alloc (.cells #[.int .u64 0, .int .i64 0, .slice none 0 0, .slice none 0 0, .slice none 0 0] 36) := ⟨_, rfl⟩
  rw [← hw0] at hx0 hb0 hb1 hz
  rw [← hN] at hb0 hb1 hz
  have HW := hid hw0
  have HN := hid hN
  have HR0 : Hid (SevR w w0 w0 N M (.slice qa qn qc) (.slice sa sn sc) (.slice pa pn pc) (.slice none 0 0) 0) := hid ⟨hx0, hb0, hb1, World.ownsRow_nil _ _ _ _, fun k h => by cases h⟩
  have HD := hid hd
  clear hw0 hx0 hb0 hb1 hz hi1 hz0 hz1 hz2 hd
  go_enter Tryz.func95, Tryz.ntmps95
  go_upto_region 1 with fail
  rw [← HW.out, ← hN]
  clear hN
  go_wp2_with fail
  go_loopw [6, 7] (fun ov iv wr => ∃ i : Nat, i ≤ n ∧ iv = .int .i64 i ∧ Hid (SevR w w0 wr N M (.slice qa qn qc) (.slice sa sn sc) (.slice pa pn pc) ov i)) (fun _ iv _ => n - (intOf iv).toNat)
  case atStart => exact ⟨0, by omega, rfl, HR0⟩
  case round =>
    obtain ⟨i, hi, rfl, HR⟩ := hrel
    obtain ⟨oa, oc, hov, -⟩ := ownsRow_rd HR.out.own
    rw [takeL_length] at hov
    subst hov
    obtain ⟨c0, c1, c2, c3, c4⟩ := five_cells HR.out.box
    by_cases hlt : i < n
    · have hltB : decide ((i : Int) < (n : Int)) = true := by simp; omega
      have hds : (M.steps i).draws = M.draws + i := steps_draws M i
      have HDR := hid (rDraw_any (w := wr) (st := (M.steps i).state) (n := (M.steps i).draws) (qv := .slice qa qn qc) (sv := .slice sa sn sc) (pv := .slice pa pn pc) (by have := HD.out; omega) ⟨_, _, _, rfl⟩ ⟨_, _, _, rfl⟩ ⟨_, _, _, rfl⟩)
      clear hds
      go_wp2_with fail
      refine (HDR.out).mono ?_
      rintro e w1 ⟨rfl, hx1⟩
      have hb1 := hx1.heap_some HR.out.box
      have hst : nextState (M.steps i).state = (M.steps (i + 1)).state := by rw [Orc.steps]; rfl
      have hdr : (M.steps i).draws + 1 = (M.steps (i + 1)).draws := by rw [Orc.steps]; rfl
      rw [hst, hdr]
      have HTK := hid (takeL_succ M i)
      generalize drawOf (M.steps i).state = y at *
      obtain ⟨k0, k1, k2, k3, k4⟩ := five_cells hb1
      have kf := frozen_of hb1
      obtain ⟨hb2, hk2⟩ := five_set (d0 := uv (M.steps (i + 1)).state) (d1 := .int .i64 ((M.steps (i + 1)).draws : Int)) (d2 := .slice qa qn qc) (d3 := .slice sa sn sc) (d4 := .slice pa pn pc) hb1
      have HX1 := hid hx1
      have HB2 := hid hb2
      have HK2 := hid hk2
      clear hst hdr hb1 hb2 hk2 hx1 HDR c0 c1 c2 c3 c4
      go_upto_region 7 with fail
      generalize ((((w1.setCell ⟨N, 0, none⟩ (uv (M.steps (i + 1)).state)).setCell ⟨N, 1, none⟩ (.int .i64 ((M.steps (i + 1)).draws : Int))).setCell ⟨N, 2, none⟩ (.slice qa qn qc)).setCell ⟨N, 3, none⟩ (.slice sa sn sc)).setCell ⟨N, 4, none⟩ (.slice pa pn pc) = w2 at *
      clear k0 k1 k2 k3 k4 kf
      have hx12 : Ext w w2 := (HR.out.ex.trans HX1.out).kp HK2.out (fun k h => by have := HN.out; omega)
      have hown2 := ownsRow_kp (ownsRow_ext HR.out.own HX1.out) HK2.out (fun k h e => by have := HR.out.new k h; omega)
      rw [takeL_length] at hown2
      have hown3 := ownsRow_ext hown2 ((Ext.refl w2).alloc (.cells #[uv y] 22))
      have HOWN := hid hown3
      have HONE : Hid (RdC (w2.alloc (.cells #[uv y] 22)) (.slice (some ⟨w2.heap.size, 0, none⟩) 1 1) 1 [uv y]) := hid (RdC.block (heap_new _ _) (by unfold maxLen; omega))
      have HX12 := hid hx12
      have HNL := hid HR.out.new
      have HRES := hid (HK2.out.heap_some (by omega) (HX1.out.heap_some HR.out.res))
      have HNN : Hid (N + 1 < w2.heap.size) := hid (heap_lt HRES.out)
      clear hx12 hown2 hown3
      go_wp2_with (at_builtin; refine wpList_app rfl _ _ 26 rfl 22 i0 (.int .u64 0) 1 8 Tryz.underlying26 HI1.out.1 HI1.out.2.1 HI1.out.2.2.1 HI1.out.2.2.2 rfl (by decide) (.slice oa i oc) i (us (takeL M i)) rfl HOWN.out (.slice (some ⟨w2.heap.size, 0, none⟩) 1 1) 1 [uv y] rfl HONE.out rfl (us_one [y]) (by unfold maxLen; omega) (by omega) ?_)
      intro v3 w3 hown3 hk3 hb3
      have hu3 : OwnU w3 v3 (takeL M (i + 1)) := by
        rw [HTK.out]
        show w3.ownsRow 0 22 1 v3 (takeL M i ++ [y]).length (us (takeL M i ++ [y]))
        rw [List.length_append, takeL_length, show us (takeL M i ++ [y]) = us (takeL M i) ++ [uv y] by simp [us]]
        exact hown3
      have hne : ∀ k, some k = blk (.slice oa i oc) → N + 1 < k := fun k h => HNL.out k h.symm
      have hnext : SevR w w0 w3 N M (.slice qa qn qc) (.slice sa sn sc) (.slice pa pn pc) v3 (i + 1) := {
        ex := (HX12.out.alloc _).kp hk3 (fun k h => by have := hne k h; have := HN.out; omega)
        box := hk3.heap_some (fun h => by have := hne N h; omega) (heap_alloc_some HB2.out)
        res := hk3.heap_some (fun h => by have := hne _ h; omega) (heap_alloc_some HRES.out)
        own := hu3
        new := fun k hk => by
          rcases hb3 with h | h
          · rw [h] at hk; exact hne k hk.symm
          · rw [h] at hk; cases hk; have := HNN.out; simp; omega }
      have HNX := hid hnext
      clear hown3 hk3 hb3 hu3 hne hnext
      go_wp2_with fail
      go_roundw
      case rel => exact ⟨i + 1, by omega, by go_num, HNX⟩
      case measure => simp [intOf]; omega
    · obtain rfl : i = n := by omega
      have hltB : decide ((i : Int) < (i : Int)) = false := by simp
      have H5 : Hid (∀ v, Ext wr v → v.cell? ⟨N, 0, none⟩ = some (uv (M.steps i).state) ∧ v.cell? ⟨N, 1, none⟩ = some (.int .i64 ((M.steps i).draws : Int)) ∧ v.cell? ⟨N, 2, none⟩ = some (.slice qa qn qc) ∧ v.cell? ⟨N, 3, none⟩ = some (.slice sa sn sc) ∧ v.cell? ⟨N, 4, none⟩ = some (.slice pa pn pc)) := hid fun v k => five_cells (k.heap_some HR.out.box)
      clear c0 c1 c2 c3 c4
      go_wp2_with fail
      refine wp_region_T (fun v => (v.cell? ⟨N, 0, none⟩ = some (uv (M.steps i).state) ∧ v.cell? ⟨N, 1, none⟩ = some (.int .i64 ((M.steps i).draws : Int)) ∧ v.cell? ⟨N, 2, none⟩ = some (.slice qa qn qc) ∧ v.cell? ⟨N, 3, none⟩ = some (.slice sa sn sc) ∧ v.cell? ⟨N, 4, none⟩ = some (.slice pa pn pc)) ∧ Ext wr v) 3 [(0, true), (1, true), (2, true), (3, false)] (by kernel_rfl) (by kernel_rfl) (by intro c a d v w h; cases d <;> exact h) ?_
      intro ops hops
      have HS := keep0 H5.out
      iterate 3
        refine wpT_take (v := ?_) (by rw [hops, List.getElem?_toArray]; rfl) (by first | rfl | (rw [hops]; rfl)) ?_ HS ?_
        rotate_left
        · intro v h; go_simp; with_reducible rfl
        simp only [Act.put, List.getElem_toArray, List.getElem_cons_zero, List.getElem_cons_succ, List.setIfInBounds_toArray, List.set_cons_zero, List.set_cons_succ]
      obtain ⟨k0, k1, k2, k3, k4⟩ := five_cells HR.out.res
      have kf := frozen_of HR.out.res
      obtain ⟨hb5, hk5⟩ := five_set (d0 := uv (M.steps i).state) (d1 := .int .i64 ((M.steps i).draws : Int)) (d2 := .slice qa qn qc) (d3 := .slice sa sn sc) (d4 := .slice pa pn pc) HR.out.res
      obtain ⟨r0, r1, r2, r3, r4⟩ := five_cells hb5
      have hfin := (HR.out.ex.kp hk5 (fun k h => by have := HN.out; omega)).drew
      have hownF := ownsRow_ext (ownsRow_kp HR.out.own hk5 (fun k h e => by have := HR.out.new k h; omega)) (Ext.refl _).drew
      have HF := hid (And.intro hfin (And.intro hownF (And.intro r0 (And.intro r1 (And.intro r2 (And.intro r3 r4))))))
      have HNW : Hid (∀ k, blk (.slice oa i oc) = some k → w.heap.size ≤ k) := hid fun k h => by have := HR.out.new k h; have := HN.out; omega
      clear HS hb5 hk5 r0 r1 r2 r3 r4 hfin hownF
      refine wpT_step (by rw [hops, List.getElem?_toArray]; rfl) (by first | rfl | (rw [hops]; rfl)) ?_
      intro K hK
      go_wp2_with fail
      try (with_reducible refine ⟨fun h => absurd h (by decide), ?_⟩)
      try rw [wpT_nil]
      try clear hops ops
      go_wp2_with fail
      obtain ⟨hfin, hownF, r0, r1, r2, r3, r4⟩ := HF.out
      refine bodyPost_ret (v := .tuple #[.slice oa i oc, mVal (M.steps i).state (M.steps i).draws (.slice qa qn qc) (.slice sa sn sc) (.slice pa pn pc)]) (by simp [results, Tryz.results95, go_sem, r0, r1, r2, r3, r4]) rfl ?_
      exact ⟨_, rfl, hownF, hfin, HNW.out⟩
/-! ## Seal -/
def StS (G : Nat → Prop) (w : World) (v : Value) (ss : List Sl) : Prop := ∃ S : List (Sl × Value × Value), S.map (·.1) = ss ∧ ∀ w', Kp G w w' → RdC w' v S.length (sCells S) ∧ ∀ x ∈ S, RdU w' x.2.1 x.1.plain ∧ RdU w' x.2.2 x.1.sealed
theorem StS.now {G : Nat → Prop} {w : World} {v : Value} {ss : List Sl} (h : StS G w v ss) : RdSc w v ss := by
  obtain ⟨S, h1, h2⟩ := h
  exact ⟨S, h1, (h2 w (Kp.refl _ _)).1, (h2 w (Kp.refl _ _)).2⟩
theorem StS.grow {G G' : Nat → Prop} {w w' : World} {v : Value} {ss : List Sl} (h : StS G w v ss) (k : Kp G w w') (hG : ∀ i, G' i → G i ∨ w.heap.size ≤ i) : StS G' w' v ss := by
  obtain ⟨S, h1, h2⟩ := h
  exact ⟨S, h1, fun w'' k' => h2 w'' (k.trans2 k' fun i hi h => (hG i h).resolve_right (by omega))⟩
theorem StS.nil (G : Nat → Prop) (w : World) : StS G w (.slice none 0 0) [] := ⟨[], rfl, fun w' _ => ⟨RdC.nil w', fun x hx => by cases hx⟩⟩
theorem Tryz.infoS : (Tryz.prog.info? 130).map (fun i => (i.zero, i.size, i.bytes)) = some (some (.agg #[.int .u64 0, .int .u64 0, .slice none 0 0, .slice none 0 0]), 4, 64) := by kernel_rfl
theorem sCells_one (S : List (Sl × Value × Value)) (hs : ∀ x ∈ S, isSl x.2.1 ∧ isSl x.2.2) : ∀ u ∈ sCells S, u.oneCell' = true := by
  intro u hu
  unfold sCells at hu
  obtain ⟨x, hx, hu⟩ := List.mem_flatMap.1 hu
  obtain ⟨⟨a, n, c, h1⟩, ⟨b, m, d, h2⟩⟩ := hs x hx
  simp only [List.mem_cons, List.not_mem_nil, or_false] at hu
  rcases hu with rfl | rfl | rfl | rfl
  · rfl
  · rfl
  · rw [h1]; rfl
  · rw [h2]; rfl
theorem sCells_len (S : List (Sl × Value × Value)) : (sCells S).length = S.length * 4 := by
  induction S with
  | nil => rfl
  | cons x r ih =>
    have hc : sCells (x :: r) = uv x.1.key :: uv x.1.nonce :: x.2.1 :: x.2.2 :: sCells r := by simp [sCells]
    rw [hc]; simp only [List.length_cons]; omega
theorem sCells_snoc (S : List (Sl × Value × Value)) (s : Sl) (v u : Value) : sCells (S ++ [(s, v, u)]) = sCells S ++ [uv s.key, uv s.nonce, v, u] := by simp [sCells]
theorem own_emptyS (v : World) : (v.alloc (.cells #[] 130)).ownsRow 0 130 4 (.slice (some ⟨v.heap.size, 0, none⟩) 0 0) 0 [] := ⟨rfl, .inr ⟨v.heap.size, 0, #[], rfl, Nat.zero_le _, heap_new v _, Nat.le_refl _, Nat.zero_le _, rfl, rfl⟩⟩
/-- What the appends of a sealed list leave. -/
theorem s_more {G : Nat → Prop} {sv : Value} {w w0 w1 w2 w3 : World} {S : List (Sl × Value × Value)} {vo v1 v2 v3 : Value} {key nonce : UInt64} {out l : List UInt64} (hG : ∀ k, G k → k < w.heap.size) (hx0 : Ext w w0) (hS : ∀ w', Kp G w w' → RdC w' sv S.length (sCells S) ∧ ∀ x ∈ S, RdU w' x.2.1 x.1.plain ∧ RdU w' x.2.2 x.1.sealed)
    (ho : OwnU w0 vo out) (hbo : ∀ k, blk vo = some k → w.heap.size + 2 ≤ k) (h1 : w1.ownsRow 0 130 4 v1 S.length (sCells S)) (hx1 : Ext w0 w1) (hb1 : ∀ k, blk v1 = some k → w0.heap.size ≤ k) (h2 : OwnU w2 v2 l) (hx2 : Ext w1 w2) (hb2 : ∀ k, blk v2 = some k → w1.heap.size ≤ k) (hz : w.heap.size + 2 ≤ w0.heap.size)
    (h3 : w3.ownsRow 0 130 4 v3 (S.length + 1) (sCells S ++ [uv key, uv nonce, v2, vo])) (hk : Kp (fun k => some k = blk v1) (w2.alloc (.cells #[uv key, uv nonce, v2, vo] 130)) w3) (hb3 : blk v3 = blk v1 ∨ blk v3 = some (w2.alloc (.cells #[uv key, uv nonce, v2, vo] 130)).heap.size) :
    Ext w0 w3 ∧ StS (fun k => G k ∨ w.heap.size ≤ k ∧ k < w.heap.size + 2) w3 v3 (S.map (·.1) ++ [⟨key, nonce, out, l⟩]) := by
  have hx02 : Ext w0 (w2.alloc (.cells #[uv key, uv nonce, v2, vo] 130)) := (hx1.trans hx2).alloc _
  have hx : Ext w0 w3 := hx02.kp hk (fun k h => hb1 k h.symm)
  have hb : ∀ k, blk v3 = some k → w0.heap.size ≤ k := by
    intro k h
    rcases hb3 with h3 | h3
    · exact hb1 k (h3 ▸ h)
    · rw [h3] at h; cases h
      exact hx02.size
  refine ⟨hx, S ++ [(⟨key, nonce, out, l⟩, v2, vo)], by simp, fun w' hw' => ⟨?_, ?_⟩⟩
  · rw [sCells_snoc]
    have := ownsRow_rd (ownsRow_kp h3 hw' (fun k h h' => by
      have := hb k h
      rcases h' with h' | h'
      · have := hG k h'; omega
      · omega))
    simpa using this
  · intro x hx'
    rcases List.mem_append.1 hx' with h | h
    · refine (hS w' ?_).2 x h
      exact (Kp.of_ext (hx0.trans hx)).trans2 hw' fun i hi h => h.resolve_right (by omega)
    · rw [List.mem_singleton] at h
      subst h
      refine ⟨OwnU.rdu (ownsRow_kp (ownsRow_kp (ownsRow_ext h2 ((Ext.refl w2).alloc _)) hk fun k h4 h5 => ?_) hw' fun k h4 h5 => ?_), OwnU.rdu (ownsRow_kp (ownsRow_ext ho hx) hw' fun k h4 h5 => ?_)⟩
      · have h6 := hb2 k h4
        have h7 := ownsRow_lt h1 h5.symm
        omega
      · have h6 := hb2 k h4
        have := hx1.size
        rcases h5 with h5 | h5
        · have := hG k h5; omega
        · omega
      · have h6 := hbo k h4
        rcases h5 with h5 | h5
        · have := hG k h5; omega
        · omega
def Orc.rseal (M : Orc) (key nonce : UInt64) (l : List UInt64) : List UInt64 × Orc := if cipE key nonce l then (takeL M (l.length + 1), (M.steps (l.length + 1)).addSeal ⟨key, nonce, takeL M (l.length + 1), l⟩) else ([], M)
def SealM (G : Nat → Prop) (w : World) (qv pv : Value) (r : List UInt64 × Orc) (e : Ending) (w' : World) : Prop := ∃ v sv, e = .returned (.tuple #[v, mVal r.2.state r.2.draws qv sv pv]) ∧ StS G w' sv r.2.seals ∧ (∀ w'', Kp G w' w'' → RdU w'' v r.1) ∧ Ext w w'
set_option maxRecDepth 100000 in
set_option maxHeartbeats 6400000 in
theorem rMSeal_any {G : Nat → Prop} {w : World} {qv sv pv lv : Value} {M : Orc} {key nonce : UInt64} {l : List UInt64} (hq : isSl qv) (hp : isSl pv) (hs : StS G w sv M.seals) (hG : ∀ k, G k → k < w.heap.size) (hl : RdU' w lv l) (hL : l.length ≤ 10000000) (hS : M.seals.length ≤ 10000000) (hd : M.draws ≤ 10000000000) :
    Calls Tryz.prog 78 #[mVal M.state M.draws qv sv pv, uv key, uv nonce, lv] w (SealM G w qv pv (M.rseal key nonce l)) := by
  obtain ⟨qa, qn, qc, rfl⟩ := hq
  obtain ⟨pa, pn, pc, rfl⟩ := hp
  obtain ⟨S, hSs, hSk⟩ := id hs
  obtain ⟨hSr, hSe⟩ := hSk w (Kp.refl _ _)
  have hSl : S.length ≤ 10000000 := by rw [← hSs, List.length_map] at hS; exact hS
  obtain ⟨sa, sc, rfl, -⟩ := id hSr
  obtain ⟨la, lc, rfl, -⟩ := id hl
  obtain ⟨hx0, hb0, hb1, hz0⟩ := two_new w (.cells #[uv M.state, .int .i64 (M.draws : Int), .slice qa qn qc, .slice sa S.length sc, .slice pa pn pc] 36) (.cells #[.int .u64 0, .int .i64 0, .slice none 0 0, .slice none 0 0, .slice none 0 0] 36)
  obtain ⟨w0, hw0⟩ : ∃ w0, w0 = (w.alloc (.cells #[uv M.state, .int .i64 (M.draws : Int), .slice qa qn qc, .slice sa S.length sc, .slice pa pn pc] 36)).alloc (.cells #[.int .u64 0, .int .i64 0, .slice none 0 0, .slice none 0 0, .slice none 0 0] 36) := ⟨_, rfl⟩
  rw [← hw0] at hx0 hb0 hb1 hz0
  obtain ⟨N, hN⟩ : ∃ N, N = w.heap.size := ⟨_, rfl⟩
  rw [← hN] at hb0 hb1 hz0
  obtain ⟨i0, hi, hz0', hz1, hz2⟩ := info_parts Tryz.infoU
  obtain ⟨j0, hj, hy0, hy1, hy2⟩ := info_parts Tryz.infoS
  have HI := hid (And.intro hi (And.intro hz0' (And.intro hz1 hz2)))
  have HJ := hid (And.intro hj (And.intro hy0 (And.intro hy1 hy2)))
  have HS1 := hid (And.intro (sCells_one S (fun x hx => ⟨(hSe x hx).1.sl, (hSe x hx).2.sl⟩)) (sCells_len S))
  have HW := hid hw0
  have HZ := hid hz0
  have HN := hid hN
  have HX0 := hid hx0
  have HB0 := hid hb0
  have HB1 := hid hb1
  have HSK := hid hSk
  have HSS := hid hSs
  have HST := hid hs
  have HG := hid hG
  have HL := hid hl
  have HD := hid hd
  have HEL := hid (ElementsV_any _ l w0 (hl.ext hx0) (by omega))
  obtain ⟨R, hR⟩ : ∃ R, R = M.rseal key nonce l := ⟨_, rfl⟩
  rw [← hR]
  have hR' := hR
  unfold Orc.rseal at hR'
  rw [show cipE key nonce l = (decide (key < big) && (decide (nonce < big) && allE l)) by unfold cipE; rw [Bool.and_assoc]] at hR'
  have HR := hid hR'
  have HKE := hid (Element_any key)
  have HNE := hid (Element_any nonce)
  clear hw0 hz0 hx0 hb0 hb1 hSk hSs hs hG hl hd hSr hSe hi hz0' hz1 hz2 hj hy0 hy1 hy2 hR hR'
  generalize decide (key < big) = kb at *
  generalize decide (nonce < big) = nb at *
  generalize allE l = lb at *
  go_enter Tryz.func78, Tryz.ntmps78
  go_upto_region 1 with fail
  rw [← HW.out, ← hN]
  clear hN
  go_wp2_with fail
  have H5 : Hid (∀ v, Ext w0 v → v.cell? ⟨N, 0, none⟩ = some (uv M.state) ∧ v.cell? ⟨N, 1, none⟩ = some (.int .i64 (M.draws : Int)) ∧ v.cell? ⟨N, 2, none⟩ = some (.slice qa qn qc) ∧ v.cell? ⟨N, 3, none⟩ = some (.slice sa S.length sc) ∧ v.cell? ⟨N, 4, none⟩ = some (.slice pa pn pc)) := hid fun v k => five_cells (k.heap_some HB0.out)
  have no : Hid (∀ w', R = ([], M) → Ext w w' → SealM G w (.slice qa qn qc) (.slice pa pn pc) R (.returned (.tuple #[.slice none 0 0, mVal M.state M.draws (.slice qa qn qc) (.slice sa S.length sc) (.slice pa pn pc)])) w') := hid fun w' h k => by
    subst h
    exact ⟨_, _, rfl, HST.out.grow (.of_ext k) (fun i h => .inl h), fun w'' _ => (RdC.nil w'').rdu rfl, k⟩
  refine (HKE.out _).mono ?_
  rintro e w1 ⟨rfl, rfl⟩
  cases kb with
  | false =>
    go_wp2_with fail
    refine wp_region_T (fun v => (v.cell? ⟨N, 0, none⟩ = some (uv M.state) ∧ v.cell? ⟨N, 1, none⟩ = some (.int .i64 (M.draws : Int)) ∧ v.cell? ⟨N, 2, none⟩ = some (.slice qa qn qc) ∧ v.cell? ⟨N, 3, none⟩ = some (.slice sa S.length sc) ∧ v.cell? ⟨N, 4, none⟩ = some (.slice pa pn pc)) ∧ Ext w0 v) 2 [(0, true), (1, true), (2, false)] (by kernel_rfl) (by kernel_rfl) (by intro c a d v w h; cases d <;> exact h) ?_
    intro ops hops
    have HSx := keep0 H5.out
    iterate 2
      refine wpT_take (v := ?_) (by rw [hops, List.getElem?_toArray]; rfl) (by first | rfl | (rw [hops]; rfl)) ?_ HSx ?_
      rotate_left
      · intro v h; go_simp; with_reducible rfl
      simp only [Act.put, List.getElem_toArray, List.getElem_cons_zero, List.getElem_cons_succ, List.setIfInBounds_toArray, List.set_cons_zero, List.set_cons_succ]
    obtain ⟨k0, k1, k2, k3, k4⟩ := five_cells HB1.out
    have kf := frozen_of HB1.out
    obtain ⟨hb5, hk5⟩ := five_set (d0 := uv M.state) (d1 := .int .i64 (M.draws : Int)) (d2 := .slice qa qn qc) (d3 := .slice sa S.length sc) (d4 := .slice pa pn pc) HB1.out
    obtain ⟨r0, r1, r2, r3, r4⟩ := five_cells hb5
    have hfin := (HX0.out.kp hk5 (fun k h => by have := HN.out; omega)).drew
    have HF := hid (And.intro hfin (And.intro r0 (And.intro r1 (And.intro r2 (And.intro r3 r4)))))
    clear HSx hb5 hk5 r0 r1 r2 r3 r4 hfin
    refine wpT_step (by rw [hops, List.getElem?_toArray]; rfl) (by first | rfl | (rw [hops]; rfl)) ?_
    intro K hK
    go_wp2_with fail
    try (with_reducible refine ⟨fun h => absurd h (by decide), ?_⟩)
    try rw [wpT_nil]
    try clear hops ops
    go_wp2_with fail
    obtain ⟨hfin, r0, r1, r2, r3, r4⟩ := HF.out
    refine bodyPost_ret (v := .tuple #[.slice none 0 0, mVal M.state M.draws (.slice qa qn qc) (.slice sa S.length sc) (.slice pa pn pc)]) (by simp [results, Tryz.results78, go_sem, r0, r1, r2, r3, r4]) rfl ?_
    exact no.out _ HR.out hfin
  | true =>
    go_wp2_with fail
    refine (HNE.out _).mono ?_
    rintro e w1 ⟨rfl, rfl⟩
    cases nb with
    | false =>
      go_wp2_with fail
      refine wp_region_T (fun v => (v.cell? ⟨N, 0, none⟩ = some (uv M.state) ∧ v.cell? ⟨N, 1, none⟩ = some (.int .i64 (M.draws : Int)) ∧ v.cell? ⟨N, 2, none⟩ = some (.slice qa qn qc) ∧ v.cell? ⟨N, 3, none⟩ = some (.slice sa S.length sc) ∧ v.cell? ⟨N, 4, none⟩ = some (.slice pa pn pc)) ∧ Ext w0 v) 2 [(0, true), (1, true), (2, false)] (by kernel_rfl) (by kernel_rfl) (by intro c a d v w h; cases d <;> exact h) ?_
      intro ops hops
      have HSx := keep0 H5.out
      iterate 2
        refine wpT_take (v := ?_) (by rw [hops, List.getElem?_toArray]; rfl) (by first | rfl | (rw [hops]; rfl)) ?_ HSx ?_
        rotate_left
        · intro v h; go_simp; with_reducible rfl
        simp only [Act.put, List.getElem_toArray, List.getElem_cons_zero, List.getElem_cons_succ, List.setIfInBounds_toArray, List.set_cons_zero, List.set_cons_succ]
      obtain ⟨k0, k1, k2, k3, k4⟩ := five_cells HB1.out
      have kf := frozen_of HB1.out
      obtain ⟨hb5, hk5⟩ := five_set (d0 := uv M.state) (d1 := .int .i64 (M.draws : Int)) (d2 := .slice qa qn qc) (d3 := .slice sa S.length sc) (d4 := .slice pa pn pc) HB1.out
      obtain ⟨r0, r1, r2, r3, r4⟩ := five_cells hb5
      have hfin := (HX0.out.kp hk5 (fun k h => by have := HN.out; omega)).drew
      have HF := hid (And.intro hfin (And.intro r0 (And.intro r1 (And.intro r2 (And.intro r3 r4)))))
      clear HSx hb5 hk5 r0 r1 r2 r3 r4 hfin
      refine wpT_step (by rw [hops, List.getElem?_toArray]; rfl) (by first | rfl | (rw [hops]; rfl)) ?_
      intro K hK
      go_wp2_with fail
      try (with_reducible refine ⟨fun h => absurd h (by decide), ?_⟩)
      try rw [wpT_nil]
      try clear hops ops
      go_wp2_with fail
      obtain ⟨hfin, r0, r1, r2, r3, r4⟩ := HF.out
      refine bodyPost_ret (v := .tuple #[.slice none 0 0, mVal M.state M.draws (.slice qa qn qc) (.slice sa S.length sc) (.slice pa pn pc)]) (by simp [results, Tryz.results78, go_sem, r0, r1, r2, r3, r4]) rfl ?_
      exact no.out _ HR.out hfin
    | true =>
      go_wp2_with fail
      refine HEL.out.mono ?_
      rintro e w1 ⟨rfl, rfl⟩
      cases lb with
      | false =>
        go_wp2_with fail
        refine wp_region_T (fun v => (v.cell? ⟨N, 0, none⟩ = some (uv M.state) ∧ v.cell? ⟨N, 1, none⟩ = some (.int .i64 (M.draws : Int)) ∧ v.cell? ⟨N, 2, none⟩ = some (.slice qa qn qc) ∧ v.cell? ⟨N, 3, none⟩ = some (.slice sa S.length sc) ∧ v.cell? ⟨N, 4, none⟩ = some (.slice pa pn pc)) ∧ Ext w0 v) 2 [(0, true), (1, true), (2, false)] (by kernel_rfl) (by kernel_rfl) (by intro c a d v w h; cases d <;> exact h) ?_
        intro ops hops
        have HSx := keep0 H5.out
        iterate 2
          refine wpT_take (v := ?_) (by rw [hops, List.getElem?_toArray]; rfl) (by first | rfl | (rw [hops]; rfl)) ?_ HSx ?_
          rotate_left
          · intro v h; go_simp; with_reducible rfl
          simp only [Act.put, List.getElem_toArray, List.getElem_cons_zero, List.getElem_cons_succ, List.setIfInBounds_toArray, List.set_cons_zero, List.set_cons_succ]
        obtain ⟨k0, k1, k2, k3, k4⟩ := five_cells HB1.out
        have kf := frozen_of HB1.out
        obtain ⟨hb5, hk5⟩ := five_set (d0 := uv M.state) (d1 := .int .i64 (M.draws : Int)) (d2 := .slice qa qn qc) (d3 := .slice sa S.length sc) (d4 := .slice pa pn pc) HB1.out
        obtain ⟨r0, r1, r2, r3, r4⟩ := five_cells hb5
        have hfin := (HX0.out.kp hk5 (fun k h => by have := HN.out; omega)).drew
        have HF := hid (And.intro hfin (And.intro r0 (And.intro r1 (And.intro r2 (And.intro r3 r4)))))
        clear HSx hb5 hk5 r0 r1 r2 r3 r4 hfin
        refine wpT_step (by rw [hops, List.getElem?_toArray]; rfl) (by first | rfl | (rw [hops]; rfl)) ?_
        intro K hK
        go_wp2_with fail
        try (with_reducible refine ⟨fun h => absurd h (by decide), ?_⟩)
        try rw [wpT_nil]
        try clear hops ops
        go_wp2_with fail
        obtain ⟨hfin, r0, r1, r2, r3, r4⟩ := HF.out
        refine bodyPost_ret (v := .tuple #[.slice none 0 0, mVal M.state M.draws (.slice qa qn qc) (.slice sa S.length sc) (.slice pa pn pc)]) (by simp [results, Tryz.results78, go_sem, r0, r1, r2, r3, r4]) rfl ?_
        exact no.out _ HR.out hfin
      | true =>
        have HRG := hid (show R = (takeL M (l.length + 1), (M.steps (l.length + 1)).addSeal ⟨key, nonce, takeL M (l.length + 1), l⟩) from HR.out)
        have HSV : Hid (Calls Tryz.prog 95 #[mVal M.state M.draws (.slice qa qn qc) (.slice sa S.length sc) (.slice pa pn pc), .int .i64 ((l.length : Int) + 1)] w0 (SevO w0 M (.slice qa qn qc) (.slice sa S.length sc) (.slice pa pn pc) (l.length + 1))) := hid (by
          have h := rSeveral_any (w := w0) (M := M) (n := l.length + 1) (qv := .slice qa qn qc) (sv := .slice sa S.length sc) (pv := .slice pa pn pc) ⟨_, _, _, rfl⟩ ⟨_, _, _, rfl⟩ ⟨_, _, _, rfl⟩ (by omega) (by have := HD.out; omega)
          rw [show (((l.length + 1 : Nat) : Int)) = (l.length : Int) + 1 by omega] at h
          exact h)
        obtain ⟨c0, c1, c2, c3, c4⟩ := H5.out w0 (Ext.refl _)
        clear HR no
        go_wp2_with fail
        refine (HSV.out).mono ?_
        rintro e w1 ⟨vo, rfl, hown, hx, hvn⟩
        have HM2 := hid (steps_seals M (l.length + 1))
        generalize (M.steps (l.length + 1)) = M2 at *
        have hln := takeL_length M (l.length + 1)
        generalize takeL M (l.length + 1) = out at *
        obtain ⟨oa, oc, rfl, -⟩ := ownsRow_rd hown
        have hb1 := hx.heap_some HB0.out
        obtain ⟨k0, k1, k2, k3, k4⟩ := five_cells hb1
        have kf := frozen_of hb1
        obtain ⟨hb2, hk2⟩ := five_set (d0 := uv M2.state) (d1 := .int .i64 (M2.draws : Int)) (d2 := .slice qa qn qc) (d3 := .slice sa S.length sc) (d4 := .slice pa pn pc) hb1
        have HX1 := hid hx
        have HVN := hid hvn
        have HOW := hid hown
        have HB2 := hid hb2
        have HK2 := hid hk2
        have HLN := hid hln
        clear c0 c1 c2 c3 c4 hb1 hb2 hk2 hx hvn hown hln HSV
        go_upto_region 4 with fail
        generalize ((((w1.setCell ⟨N, 0, none⟩ (uv M2.state)).setCell ⟨N, 1, none⟩ (.int .i64 (M2.draws : Int))).setCell ⟨N, 2, none⟩ (.slice qa qn qc)).setCell ⟨N, 3, none⟩ (.slice sa S.length sc)).setCell ⟨N, 4, none⟩ (.slice pa pn pc) = w2 at *
        clear k0 k1 k2 k3 k4 kf
        have hz := HZ.out
        have hnn := HN.out
        have HX2 : Hid (Ext w w2) := hid ((HX0.out.trans HX1.out).kp HK2.out (fun k h => by omega))
        have HO2 : Hid (OwnU w2 (.slice oa out.length oc) out) := hid (ownsRow_kp HOW.out HK2.out (fun k h e => by have := HVN.out k h; omega))
        have HVO : Hid (∀ k, blk (.slice oa out.length oc) = some k → w.heap.size + 2 ≤ k) := hid fun k h => by have := HVN.out k h; omega
        have HZ2 : Hid (w.heap.size + 2 ≤ w2.heap.size) := hid (by have := HK2.out.size; have := HX1.out.size; omega)
        have HB12 := hid (HK2.out.heap_some (by omega) (HX1.out.heap_some HB1.out))
        clear hz hnn
        have hxe := (Ext.refl w2).alloc (.cells #[] 130)
        have c3 : (w2.alloc (.cells #[] 130)).cell? ⟨N, 3, none⟩ = some (.slice sa S.length sc) := hxe.cell_some (cell_of HB2.out 3)
        have ho1 := own_emptyS w2
        have hsr := (HSK.out _ (Kp.of_ext (HX2.out.trans hxe))).1.weak
        go_wp2_with (at_builtin; refine wpList_app' rfl _ _ 34 rfl 130 j0 (.agg #[.int .u64 0, .int .u64 0, .slice none 0 0, .slice none 0 0]) 4 64 (by kernel_rfl) HJ.out.1 HJ.out.2.1 HJ.out.2.2.1 HJ.out.2.2.2 rfl (by decide) (.slice (some ⟨w2.heap.size, 0, none⟩) 0 0) 0 [] rfl ho1 (.slice sa S.length sc) S.length (sCells S) rfl hsr HS1.out.2 HS1.out.1 (by unfold maxLen; omega) (by omega) ?_)
        intro v3 w3 hown3 hk3 hbk3
        have hown3' : w3.ownsRow 0 130 4 v3 S.length (sCells S) := by simpa using hown3
        have hx3 : Ext w2 w3 := hxe.kp hk3 (by intro k h; cases h; exact Nat.le_refl _)
        have hb3' : ∀ k, blk v3 = some k → w2.heap.size ≤ k := by
          intro k h
          rcases hbk3 with h' | h' <;> (rw [h'] at h; cases h)
          · exact Nat.le_refl _
          · simp
        obtain ⟨va, vc, rfl, -⟩ := ownsRow_rd hown3'
        have HO3 := hid hown3'
        have HX3 := hid hx3
        have HV3 := hid hb3'
        clear hown3 hk3 hbk3 hxe ho1 hsr c3 hown3' hx3 hb3'
        have ho2 := own_empty w3
        have hxe := (Ext.refl w3).alloc (.cells #[] 22)
        have hl1 := HL.out.ext (HX2.out.trans (HX3.out.trans hxe))
        go_wp2_with (at_builtin; refine wpList_app' rfl _ _ 26 rfl 22 i0 (.int .u64 0) 1 8 Tryz.underlying26 HI.out.1 HI.out.2.1 HI.out.2.2.1 HI.out.2.2.2 rfl (by decide) (.slice (some ⟨w3.heap.size, 0, none⟩) 0 0) 0 [] rfl ho2 (.slice la l.length lc) l.length (us l) rfl hl1 (by simp) (us_one l) (by unfold maxLen; omega) (by omega) ?_)
        intro v4 w4 hown4 hk4 hbk4
        obtain ⟨h2a, h2b, -, h2c⟩ := app_new (l := l) hxe (Nat.le_refl _) (by simp) (by simpa using hown4) hk4 (hbk4.imp id fun h => h.trans (by simp))
        obtain ⟨xa, xc, rfl, -⟩ := ownsRow_rd h2a
        have HO4 := hid h2a
        have HX4 := hid h2b
        have HV4 := hid h2c
        clear hown4 hk4 hbk4 hxe ho2 hl1 h2a h2b h2c
        have ho3 : (w4.alloc (.cells #[uv key, uv nonce, .slice xa l.length xc, .slice oa out.length oc] 130)).ownsRow 0 130 4 (.slice va S.length vc) S.length (sCells S) := ownsRow_ext HO3.out (HX4.out.alloc _)
        have hrd : RdC' (w4.alloc (.cells #[uv key, uv nonce, .slice xa l.length xc, .slice oa out.length oc] 130)) (.slice (some ⟨w4.heap.size, 0, none⟩) 1 1) 1 [uv key, uv nonce, .slice xa l.length xc, .slice oa out.length oc] :=
          (RdC.block (heap_new _ _) (by unfold maxLen; omega)).weak
        go_wp2_with (at_builtin; refine wpList_app' rfl _ _ 34 rfl 130 j0 (.agg #[.int .u64 0, .int .u64 0, .slice none 0 0, .slice none 0 0]) 4 64 (by kernel_rfl) HJ.out.1 HJ.out.2.1 HJ.out.2.2.1 HJ.out.2.2.2 rfl (by decide) (.slice va S.length vc) S.length (sCells S) rfl ho3 (.slice (some ⟨w4.heap.size, 0, none⟩) 1 1) 1 [uv key, uv nonce, .slice xa l.length xc, .slice oa out.length oc] rfl hrd rfl (by intro u hu; simp only [List.mem_cons, List.not_mem_nil, or_false] at hu; rcases hu with rfl | rfl | rfl | rfl <;> rfl) (by unfold maxLen; omega) (by omega) ?_)
        intro v5 w5 hown5 hk5 hbk5
        obtain ⟨hx5, hs5⟩ := s_more (key := key) (nonce := nonce) HG.out HX2.out HSK.out HO2.out HVO.out HO3.out HX3.out HV3.out HO4.out HX4.out HV4.out HZ2.out hown5 hk5 (hbk5.imp id fun h => h.trans (by simp))
        obtain ⟨ya, yc, rfl, -⟩ := ownsRow_rd hown5
        have e0 := hx5.heap_some HB2.out
        obtain ⟨k0, k1, k2, k3, k4⟩ := five_cells e0
        have kf := frozen_of e0
        have HE0 := hid e0
        have HX5 := hid hx5
        have HS5 := hid hs5
        clear hown5 hk5 hbk5 hx5 hs5 ho3 hrd e0 k0 k1 k2 k4
        go_upto_region 5 with fail
        obtain ⟨w6, hw6⟩ : ∃ w6, w6 = w5.setCell ⟨N, 3, none⟩ (.slice ya (S.length + 1) yc) := ⟨_, rfl⟩
        have e4 : w6.heap[N]? = some (.cells #[uv M2.state, .int .i64 (M2.draws : Int), .slice qa qn qc, .slice ya (S.length + 1) yc, .slice pa pn pc] 36 (0, 0)) := by rw [hw6]; exact heap_setCell_same HE0.out 3 _
        have hk6 : Kp (fun k => k = N) w5 w6 := by rw [hw6]; exact (Kp.refl (fun k => k = N) w5).setCell (p := ⟨N, 3, none⟩) (.inl rfl) _
        rw [← hw6]
        have HB16 := hid (hk6.heap_some (by omega) (HX5.out.heap_some HB12.out))
        have HK6 := hid hk6
        have H56 : Hid (∀ v, Ext w6 v → v.cell? ⟨N, 0, none⟩ = some (uv M2.state) ∧ v.cell? ⟨N, 1, none⟩ = some (.int .i64 (M2.draws : Int)) ∧ v.cell? ⟨N, 2, none⟩ = some (.slice qa qn qc) ∧ v.cell? ⟨N, 3, none⟩ = some (.slice ya (S.length + 1) yc) ∧ v.cell? ⟨N, 4, none⟩ = some (.slice pa pn pc)) := hid fun v k => five_cells (k.heap_some e4)
        clear hw6 e4 hk6 k3 kf
        refine wp_region_T (fun v => (v.cell? ⟨N, 0, none⟩ = some (uv M2.state) ∧ v.cell? ⟨N, 1, none⟩ = some (.int .i64 (M2.draws : Int)) ∧ v.cell? ⟨N, 2, none⟩ = some (.slice qa qn qc) ∧ v.cell? ⟨N, 3, none⟩ = some (.slice ya (S.length + 1) yc) ∧ v.cell? ⟨N, 4, none⟩ = some (.slice pa pn pc)) ∧ Ext w6 v) 3 [(0, true), (1, true), (2, true), (3, false)] (by kernel_rfl) (by kernel_rfl) (by intro c a d v w h; cases d <;> exact h) ?_
        intro ops hops
        have HSx := keep0 H56.out
        iterate 3
          refine wpT_take (v := ?_) (by rw [hops, List.getElem?_toArray]; rfl) (by first | rfl | (rw [hops]; rfl)) ?_ HSx ?_
          rotate_left
          · intro v h; go_simp; with_reducible rfl
          simp only [Act.put, List.getElem_toArray, List.getElem_cons_zero, List.getElem_cons_succ, List.setIfInBounds_toArray, List.set_cons_zero, List.set_cons_succ]
        obtain ⟨k0, k1, k2, k3, k4⟩ := five_cells HB16.out
        have kf := frozen_of HB16.out
        obtain ⟨hb7, hk7⟩ := five_set (d0 := uv M2.state) (d1 := .int .i64 (M2.draws : Int)) (d2 := .slice qa qn qc) (d3 := .slice ya (S.length + 1) yc) (d4 := .slice pa pn pc) HB16.out
        obtain ⟨r0, r1, r2, r3, r4⟩ := five_cells hb7
        have HKF := hid (((HK6.out.mono (G := fun k => k = N ∨ k = N + 1) fun k _ h => .inl h).trans (hk7.mono fun k _ h => .inr h)).drew)
        have HF := hid (And.intro r0 (And.intro r1 (And.intro r2 (And.intro r3 r4))))
        clear HSx hb7 hk7 r0 r1 r2 r3 r4
        refine wpT_step (by rw [hops, List.getElem?_toArray]; rfl) (by first | rfl | (rw [hops]; rfl)) ?_
        intro K hK
        go_wp2_with fail
        try (with_reducible refine ⟨fun h => absurd h (by decide), ?_⟩)
        try rw [wpT_nil]
        try clear hops ops
        go_wp2_with fail
        obtain ⟨r0, r1, r2, r3, r4⟩ := HF.out
        refine bodyPost_ret (v := .tuple #[.slice oa out.length oc, mVal M2.state M2.draws (.slice qa qn qc) (.slice ya (S.length + 1) yc) (.slice pa pn pc)]) (by simp [results, Tryz.results78, go_sem, r0, r1, r2, r3, r4]) rfl ?_
        rw [HRG.out]
        have hn := HN.out
        have hFx := (HX2.out.trans HX5.out).kp HKF.out (fun k h => by omega)
        refine ⟨_, _, rfl, ?_, fun w'' k'' => ?_, hFx⟩
        · show StS G _ _ (M2.seals ++ [⟨key, nonce, out, l⟩])
          rw [HM2.out, ← HSS.out]
          exact HS5.out.grow (HKF.out.mono fun k _ h => .inr (by omega)) (fun k h => .inl (.inl h))
        · exact OwnU.rdu (ownsRow_kp (ownsRow_kp (ownsRow_ext HO2.out HX5.out) HKF.out (fun k h e => by have := HVO.out k h; omega)) k'' (fun k h e => by have := HVO.out k h; have := HG.out k e; omega))
end Go.Proofs.YtgfmjfkdogcnhaaGreat
