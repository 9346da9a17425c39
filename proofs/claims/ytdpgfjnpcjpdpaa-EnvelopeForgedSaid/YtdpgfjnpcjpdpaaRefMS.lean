/- The reference's ideal oracle: Open, Several, Seal. -/
import Derived.Test.YtdpgfjnpcjpdpaaRefM
import Derived.Test.YtdpgfjnpcjpdpaaSealI
import Derived.Test.YtdpgfjnpcjpdpaaEnv
set_option linter.unusedSimpArgs false
namespace Go.Proofs.Ytdpgfjnpcjpdpaa
open Go.RowKit
attribute [local irreducible] perm fAdd fMul fPow fSub fNeg fRed hashU drawOf nextState
theorem sCells_at (S : List (Sl × Value × Value)) (i : Nat) {x : Sl × Value × Value} (h : S[i]? = some x) : (sCells S)[i * 4]? = some (uv x.1.key) ∧ (sCells S)[i * 4 + 1]? = some (uv x.1.nonce) ∧ (sCells S)[i * 4 + 2]? = some x.2.1 ∧ (sCells S)[i * 4 + 3]? = some x.2.2 := by
  induction S generalizing i with
  | nil => simp at h
  | cons y r ih =>
    have hc : sCells (y :: r) = uv y.1.key :: uv y.1.nonce :: y.2.1 :: y.2.2 :: sCells r := by simp [sCells]
    rw [hc]
    cases i with
    | zero => simp at h; subst h; exact ⟨rfl, rfl, rfl, rfl⟩
    | succ i =>
      have := ih i (by simpa using h)
      rw [show (i + 1) * 4 = i * 4 + 1 + 1 + 1 + 1 by omega]
      simpa using this
theorem RdSc.at {w : World} {a : Option Addr} {n c : Nat} {ss : List Sl} (h : RdSc w (.slice a n c) ss) {i : Nat} {s : Sl} (hs : ss[i]? = some s) :
    ∃ b o pa pc ta tc, a = some ⟨b, o, none⟩ ∧ w.cell? ⟨b, o + i * 4, none⟩ = some (uv s.key) ∧ w.cell? ⟨b, o + i * 4 + 1, none⟩ = some (uv s.nonce) ∧ w.cell? ⟨b, o + i * 4 + 2, none⟩ = some (.slice pa s.plain.length pc) ∧ w.cell? ⟨b, o + i * 4 + 3, none⟩ = some (.slice ta s.sealed.length tc) ∧
      RdU w (.slice pa s.plain.length pc) s.plain ∧ RdU w (.slice ta s.sealed.length tc) s.sealed := by
  obtain ⟨S, hS, ⟨a', c', he, h1, h2, h3, h4⟩, h5⟩ := h
  injection he with e1 e2 e3
  subst e1
  rw [← hS, List.getElem?_map] at hs
  obtain ⟨x, hx, rfl⟩ := Option.map_eq_some_iff.1 hs
  have hi : i < S.length := (List.getElem?_eq_some_iff.1 hx).1
  obtain ⟨g1, g2⟩ := h5 x (List.mem_of_getElem? hx)
  obtain ⟨pa, pc, hp, -⟩ := id g1
  obtain ⟨ta, tc, ht, -⟩ := id g2
  cases a with
  | none => have := h3 rfl; omega
  | some ad =>
    obtain ⟨q1, q2⟩ := h4 ad rfl
    obtain ⟨b, o, sp⟩ := ad
    simp only at q1
    subst q1
    obtain ⟨c0, c1, c2, c3⟩ := sCells_at S i hx
    rw [hp] at c2 g1
    rw [ht] at c3 g2
    exact ⟨b, o, pa, pc, ta, tc, rfl, q2 _ _ c0, by have := q2 _ _ c1; rwa [← Nat.add_assoc] at this, by have := q2 _ _ c2; rwa [← Nat.add_assoc] at this, by have := q2 _ _ c3; rwa [← Nat.add_assoc] at this, g1, g2⟩
theorem RdSc.len {w : World} {v : Value} {ss : List Sl} (h : RdSc w v ss) : ∃ a c, v = .slice a ss.length c := by
  obtain ⟨S, hS, ⟨a, c, rfl, -⟩, -⟩ := h
  exact ⟨a, c, by rw [← hS, List.length_map]⟩
theorem openI_hit {ss : List Sl} {key nonce : UInt64} {l : List UInt64} {i : Nat} {s : Sl} (hs : ss[i]? = some s) (h : isSeal s key nonce l = true) (hno : ∀ (j : Nat) (p : Sl), j < i → ss[j]? = some p → isSeal p key nonce l = false) : openI ss key nonce l = (s.plain, true) := by
  have : findS ss key nonce l = some s := by
    unfold findS
    rw [List.find?_eq_some_iff_getElem]
    obtain ⟨hi, rfl⟩ := List.getElem?_eq_some_iff.1 hs
    exact ⟨h, i, hi, rfl, fun j hj => by rw [hno j _ hj (List.getElem?_eq_getElem (by omega))]; rfl⟩
  unfold openI
  rw [this]; rfl
theorem openI_miss {ss : List Sl} {key nonce : UInt64} {l : List UInt64} (hno : ∀ (j : Nat) (p : Sl), j < ss.length → ss[j]? = some p → isSeal p key nonce l = false) : openI ss key nonce l = ([], false) := by
  have : findS ss key nonce l = none := by
    unfold findS
    rw [List.find?_eq_none]
    intro x hx
    obtain ⟨j, hj⟩ := List.mem_iff_getElem?.1 hx
    rw [hno j x (List.getElem?_eq_some_iff.1 hj).1 hj]; decide
  unfold openI
  rw [this]; rfl
def MOpenO (w : World) (r : List UInt64 × Bool) (e : Ending) (w' : World) : Prop := ∃ v, e = .returned (.tuple #[v, .bool r.2]) ∧ RdU w' v r.1 ∧ Ext w w'
set_option maxRecDepth 100000 in
set_option maxHeartbeats 3200000 in
theorem rMOpen_any {w : World} {qv sv pv lv : Value} {st : UInt64} {nn : Int} {ss : List Sl} {key nonce : UInt64} {l : List UInt64} (hq : isSl qv) (hp : isSl pv) (hs : RdSc w sv ss) (hl : RdU' w lv l) (hL : l.length ≤ 1000000000) (hS : ss.length ≤ 1000000000) (hE : ∀ s ∈ ss, s.sealed.length ≤ 1000000000) :
    Calls Try.prog 96 #[.agg #[uv st, .int .i64 nn, qv, sv, pv], uv key, uv nonce, lv] w (MOpenO w (openI ss key nonce l)) := by
  obtain ⟨qa, qn, qc, rfl⟩ := hq
  obtain ⟨pa, pn, pc, rfl⟩ := hp
  obtain ⟨sa, sc, rfl⟩ := hs.len
  obtain ⟨la, lc, rfl, -⟩ := id hl
  obtain ⟨N, hN⟩ : ∃ N, N = w.heap.size := ⟨_, rfl⟩
  obtain ⟨w0, hw0⟩ : ∃ w0, w0 = w.alloc (.cells #[uv st, .int .i64 nn, .slice qa qn qc, .slice sa ss.length sc, .slice pa pn pc] 93) := ⟨_, rfl⟩
  have hx0 : Ext w w0 := by rw [hw0]; exact (Ext.refl w).alloc _
  have hb0 : w0.heap[N]? = some (.cells #[uv st, .int .i64 nn, .slice qa qn qc, .slice sa ss.length sc, .slice pa pn pc] 93 (0, 0)) := by rw [hw0, hN]; exact heap_new _ _
  have H3 : Hid (∀ v, Ext w0 v → v.cell? ⟨N, 3, none⟩ = some (.slice sa ss.length sc)) := hid fun v k => k.cell_some (cell_of hb0 3)
  have HW := hid hw0
  have HX0 := hid hx0
  have HS := hid (hs.ext hx0)
  have HL := hid (hl.ext hx0)
  have HE := hid hE
  clear hw0 hx0 hb0 hs hl hE
  go_enter Try.func96, Try.ntmps96
  go_upto_region 1 with fail
  rw [← HW.out, ← hN]
  clear hN
  go_wp2_with fail
  go_loopw [10] (fun iv wr => ∃ i : Nat, i ≤ ss.length ∧ iv = .int .i64 i ∧ Hid (Ext w0 wr ∧ ∀ (j : Nat) (p : Sl), j < i → ss[j]? = some p → isSeal p key nonce l = false)) (fun iv _ => ss.length - (intOf iv).toNat)
  case atStart => exact ⟨0, by omega, rfl, hid ⟨Ext.refl _, fun j p hj => by omega⟩⟩
  case round =>
    obtain ⟨i, hi, rfl, HR⟩ := hrel
    have c3 := H3.out wr HR.out.1
    by_cases hlt : i < ss.length
    · have hltB : decide ((i : Int) < (ss.length : Int)) = true := by simp; omega
      obtain ⟨s, hsi⟩ : ∃ s, ss[i]? = some s := ⟨_, List.getElem?_eq_getElem hlt⟩
      obtain ⟨b, o, pa', pc', ta, tc, rfl, e0, e1, e2, e3, hpl, hse⟩ := (HS.out.ext HR.out.1).at hsi
      have hil : (i : Int) < (ss.length : Int) := by omega
      have hi0 : (0 : Int) ≤ (i : Int) := Int.natCast_nonneg _
      have HSI := hid hsi
      have HPL := hid hpl
      have hse' := SameV_any _ _ s.sealed l _ (hse.ext ((Ext.refl wr).alloc (.cells #[uv s.key, uv s.nonce, .slice pa' s.plain.length pc', .slice ta s.sealed.length tc] 185))).weak (HL.out.ext (HR.out.1.alloc (.cells #[uv s.key, uv s.nonce, .slice pa' s.plain.length pc', .slice ta s.sealed.length tc] 185))) (by have := HE.out s (List.mem_of_getElem? hsi); omega) (by omega)
      have HSE := hid hse'
      have hkb : ((s.key.toNat : Int) == (key.toNat : Int)) = (s.key == key) := u_eqB _ _
      have hnb : ((s.nonce.toNat : Int) == (nonce.toNat : Int)) = (s.nonce == nonce) := u_eqB _ _
      have his : isSeal s key nonce l = (s.key == key && s.nonce == nonce && s.sealed == l) := rfl
      have HIS := hid his
      clear hsi hpl hse hse' his
      cases hk : s.key == key with
      | false =>
        rw [hk] at hkb
        have HNO := hid (show ∀ (j : Nat) (p : Sl), j < i + 1 → ss[j]? = some p → isSeal p key nonce l = false from fun j p hj hp => by
          rcases Nat.lt_or_ge j i with h | h
          · exact HR.out.2 j p h hp
          · obtain rfl : j = i := by omega
            rw [HSI.out] at hp
            cases hp
            rw [HIS.out, hk]; first | rfl | simp)
        clear hk
        go_wp2_with fail
        go_roundw
        case rel => exact ⟨i + 1, by omega, by go_num, hid ⟨HR.out.1.alloc _, HNO.out⟩⟩
        case measure => simp [intOf]; omega
      | true =>
        rw [hk] at hkb
        cases hn : s.nonce == nonce with
        | false =>
          rw [hn] at hnb
          have HNO := hid (show ∀ (j : Nat) (p : Sl), j < i + 1 → ss[j]? = some p → isSeal p key nonce l = false from fun j p hj hp => by
            rcases Nat.lt_or_ge j i with h | h
            · exact HR.out.2 j p h hp
            · obtain rfl : j = i := by omega
              rw [HSI.out] at hp
              cases hp
              rw [HIS.out, hn]; first | rfl | simp)
          clear hk hn
          go_wp2_with fail
          go_roundw
          case rel => exact ⟨i + 1, by omega, by go_num, hid ⟨HR.out.1.alloc _, HNO.out⟩⟩
          case measure => simp [intOf]; omega
        | true =>
          rw [hn] at hnb
          have HKN := hid (And.intro hk hn)
          clear hk hn
          go_wp2_with fail
          refine HSE.out.mono ?_
          rintro e w1 ⟨rfl, hx1⟩
          have HX1 := hid (HR.out.1.trans (((Ext.refl wr).alloc _).trans hx1))
          cases hq : s.sealed == l with
          | false =>
            have HNO := hid (show ∀ (j : Nat) (p : Sl), j < i + 1 → ss[j]? = some p → isSeal p key nonce l = false from fun j p hj hp => by
              rcases Nat.lt_or_ge j i with h | h
              · exact HR.out.2 j p h hp
              · obtain rfl : j = i := by omega
                rw [HSI.out] at hp
                cases hp
                rw [HIS.out, hq]; first | rfl | simp)
            clear hq hx1
            go_wp2_with fail
            go_roundw
            case rel => exact ⟨i + 1, by omega, by go_num, hid ⟨HX1.out, HNO.out⟩⟩
            case measure => simp [intOf]; omega
          | true =>
            have HO := hid (openI_hit HSI.out (by rw [HIS.out, HKN.out.1, HKN.out.2, hq]; rfl) HR.out.2)
            have hb1 := hx1.heap_some (heap_new wr (.cells #[uv s.key, uv s.nonce, .slice pa' s.plain.length pc', .slice ta s.sealed.length tc] 185))
            obtain ⟨k0, k1, k2, k3⟩ := four_cells hb1
            have HP2 := hid (HPL.out.ext (((Ext.refl wr).alloc (.cells #[uv s.key, uv s.nonce, .slice pa' s.plain.length pc', .slice ta s.sealed.length tc] 185)).trans hx1))
            clear hq hx1 hb1
            go_wp2_with fail
            refine bodyPost_ret (v := .tuple #[.slice pa' s.plain.length pc', .bool true]) (by simp [results, Try.results96, go_sem]) rfl ?_
            rw [HO.out]
            exact ⟨_, rfl, HP2.out, HX0.out.trans HX1.out⟩
    · obtain rfl : i = ss.length := by omega
      have hltB : decide ((ss.length : Int) < (ss.length : Int)) = false := by simp
      have HO := hid (openI_miss HR.out.2)
      go_wp2_with fail
      refine bodyPost_ret (v := .tuple #[.slice none 0 0, .bool false]) (by simp [results, Try.results96, go_sem]) rfl ?_
      rw [HO.out]
      exact ⟨_, rfl, (RdC.nil _).rdu rfl, HX0.out.trans HR.out.1⟩
end Go.Proofs.Ytdpgfjnpcjpdpaa
