/- copiedQuestion and Questions of the oracle. -/
import Derived.Test.YtgfmjfkdogcnhaaGreatAsk
set_option linter.unusedSimpArgs false
namespace Go.Proofs.YtgfmjfkdogcnhaaGreat
open Go.RowKit
attribute [local irreducible] perm fAdd fMul fPow fSub fNeg fRed

def NewQ (w : World) (q : Qn) (e : Ending) (w' : World) : Prop :=
  ∃ v, e = .returned (.agg #[uv q.label, v, uv q.answer]) ∧ OwnU w' v q.elems ∧ Ext w w' ∧ (∀ k, blk v = some k → w.heap.size ≤ k)

set_option maxRecDepth 100000 in
set_option maxHeartbeats 1600000 in
theorem copiedQuestion_any {w : World} {q : Qn} {v : Value} (hv : RdU w v q.elems) (hL : q.elems.length ≤ 1000000000000) :
    Calls Tryz.prog 67 #[.agg #[uv q.label, v, uv q.answer]] w (NewQ w q) := by
  have HV := hid hv
  obtain ⟨a, c, rfl, -⟩ := hv
  have HL := hid hL
  clear hL
  go_enter Tryz.func67, Tryz.ntmps67
  go_wp2_with fail
  obtain ⟨w0, hw0⟩ : ∃ w0, w0 = (w.alloc (.cells #[uv q.label, .slice a q.elems.length c, uv q.answer] 111)).alloc (.cells #[.int .u64 0, .slice none 0 0, .int .u64 0] 111) := ⟨_, rfl⟩
  rw [← hw0]
  have hx0 : Ext w w0 := by rw [hw0]; exact ((Ext.refl w).alloc _).alloc _
  have hb0 : w0.heap[w.heap.size]? = some (.cells #[uv q.label, .slice a q.elems.length c, uv q.answer] 111 (0, 0)) := by
    rw [hw0]; exact heap_alloc_some (heap_new _ _)
  have hb1 : w0.heap[w.heap.size + 1]? = some (.cells #[.int .u64 0, .slice none 0 0, .int .u64 0] 111 (0, 0)) := by
    rw [hw0]
    have := heap_new (w.alloc (.cells #[uv q.label, .slice a q.elems.length c, uv q.answer] 111)) (.cells #[.int .u64 0, .slice none 0 0, .int .u64 0] 111)
    rwa [World.size_alloc] at this
  have HX0 := hid hx0
  have HB1 := hid hb1
  generalize hn : w.heap.size = n at *
  have HN := hid hn
  have H : ∀ v, Ext w0 v → v.cell? ⟨n, 0, none⟩ = some (uv q.label) ∧ v.cell? ⟨n, 1, none⟩ = some (.slice a q.elems.length c) ∧ v.cell? ⟨n, 2, none⟩ = some (uv q.answer) :=
    fun v k => ⟨k.cell_some (cell_of hb0 0), k.cell_some (cell_of hb0 1), k.cell_some (cell_of hb0 2)⟩
  have HH := hid H
  have hl0 : RdU w0.drew (.slice a q.elems.length c) q.elems := HV.out.ext hx0.drew
  have HL0 := hid hl0
  clear hx0 hb0 hb1 hn H hw0 hl0
  refine wp_region_T (fun v => (v.cell? ⟨n, 0, none⟩ = some (uv q.label) ∧ v.cell? ⟨n, 1, none⟩ = some (.slice a q.elems.length c) ∧ v.cell? ⟨n, 2, none⟩ = some (uv q.answer)) ∧ Ext w0 v) 7 [(0, true), (1, true), (2, true), (3, true), (5, true), (6, true), (4, false), (7, false), (8, false)] (by kernel_rfl) (by kernel_rfl) (by intro c a d v w h; cases d <;> exact h) ?_
  intro ops hops
  have HS := keep0 HH.out
  iterate 6
    refine wpT_take (v := ?_) (by rw [hops, List.getElem?_toArray]; rfl) (by first | rfl | (rw [hops]; rfl)) ?_ HS ?_
    rotate_left
    · intro v h; go_simp; with_reducible rfl
    simp only [Act.put, List.getElem_toArray, List.getElem_cons_zero, List.getElem_cons_succ, List.setIfInBounds_toArray, List.set_cons_zero, List.set_cons_succ]
  refine wpT_step (by rw [hops, List.getElem?_toArray]; rfl) (by first | rfl | (rw [hops]; rfl)) ?_
  intro K hK
  go_wp2_with fail
  refine (copied_any _ _ _ HL0.out HL.out).mono ?_
  rintro e w2 ⟨ev, rfl, hev, hE2, hnb⟩
  have HS2 := keepE HH.out HS hE2
  obtain ⟨ea, ec, rfl, -⟩ := ownsRow_rd hev
  have HEV := hid hev
  have HE2 := hid hE2
  have HNB := hid hnb
  clear hev hE2 hnb
  refine hK _ _ ⟨fun _ => HS2, ?_⟩
  clear hK K
  have hb2 := HS2.2.heap_some HB1.out
  have hfz := frozen_of hb2
  have HB2 := hid hb2
  have d0 : w2.cell? ⟨n + 1, 0, none⟩ = some (.int .u64 0) := cell_of hb2 0
  have d1 : w2.cell? ⟨n + 1, 1, none⟩ = some (.slice none 0 0) := cell_of hb2 1
  have d2 : w2.cell? ⟨n + 1, 2, none⟩ = some (.int .u64 0) := cell_of hb2 2
  clear hb2
  refine wpT_step (by rw [hops, List.getElem?_toArray]; rfl) (by first | rfl | (rw [hops]; rfl)) ?_
  intro K hK
  go_wp2_with fail
  refine ⟨fun h => absurd h (by decide), ?_⟩
  refine wpT_step (by rw [hops, List.getElem?_toArray]; rfl) (by first | rfl | (rw [hops]; rfl)) ?_
  intro K hK
  go_wp2_with fail
  refine ⟨fun h => absurd h (by decide), ?_⟩
  rw [wpT_nil]
  clear hops ops
  go_wp2
  have hb5 := heap_setCell_same (heap_setCell_same (heap_setCell_same HB2.out 0 (uv q.label)) 1 (.slice ea q.elems.length ec)) 2 (uv q.answer)
  have hN := HN.out
  have hE5 : Ext w (((w2.setCell ⟨n + 1, 0, none⟩ (uv q.label)).setCell ⟨n + 1, 1, none⟩ (.slice ea q.elems.length ec)).setCell ⟨n + 1, 2, none⟩ (uv q.answer)) :=
    (((HX0.out.trans HS2.2).setCell (by show w.heap.size ≤ n + 1; omega) _).setCell (by show w.heap.size ≤ n + 1; omega) _).setCell (by show w.heap.size ≤ n + 1; omega) _
  have hO5 : OwnU (((w2.setCell ⟨n + 1, 0, none⟩ (uv q.label)).setCell ⟨n + 1, 1, none⟩ (.slice ea q.elems.length ec)).setCell ⟨n + 1, 2, none⟩ (uv q.answer)) (.slice ea q.elems.length ec) q.elems := by
    refine ownsRow_kp HEV.out ((((Kp.refl (fun k => k = n + 1) w2).setCell (p := ⟨n + 1, 0, none⟩) (.inl rfl) _).setCell (p := ⟨n + 1, 1, none⟩) (.inl rfl) _).setCell (p := ⟨n + 1, 2, none⟩) (.inl rfl) _) ?_
    rintro k hk rfl
    obtain ⟨cs, h1⟩ := ownsRow_block HEV.out hk
    rw [HB2.out] at h1
    injection h1 with h1
    injection h1 with _ h1
    exact absurd h1 (by decide)
  have r0 := cell_of hb5 0
  have r1 := cell_of hb5 1
  have r2 := cell_of hb5 2
  have HNB' : ∀ k, blk (.slice ea q.elems.length ec) = some k → w.heap.size ≤ k := fun k hk => Nat.le_trans HX0.out.size (HNB.out k hk)
  generalize (((w2.setCell ⟨n + 1, 0, none⟩ (uv q.label)).setCell ⟨n + 1, 1, none⟩ (.slice ea q.elems.length ec)).setCell ⟨n + 1, 2, none⟩ (uv q.answer)) = w5 at *
  simp at r0 r1 r2
  clear hb5 d0 d1 d2 hfz HS2
  exact bodyPost_ret (v := .agg #[uv q.label, .slice ea q.elems.length ec, uv q.answer]) (by simp [results, Tryz.results67, go_sem, r0, r1, r2]) rfl ⟨_, rfl, hO5, hE5, HNB'⟩

/-! ## Questions -/
def NewQs (w : World) (qs : List Qn) (e : Ending) (w' : World) : Prop :=
  ∃ v Q, e = .returned v ∧ Q.map (·.1) = qs ∧ w'.ownsRow 0 111 3 v Q.length (qCells Q) ∧ (∀ x ∈ Q, OwnU w' x.2 x.1.elems ∧ ∀ k, blk x.2 = some k → w.heap.size ≤ k) ∧ Ext w w' ∧ ∀ k, blk v = some k → w.heap.size ≤ k
def QPart (w : World) (g lo n i : Nat) (qs : List Qn) : Prop :=
  ∃ (Q : List (Qn × Value)) (cur : Array Value), w.heap[g]? = some (.cells cur 111 (0, 0)) ∧ cur.size = n * 3 ∧ cur.toList.take (i * 3) = qCells Q ∧ Q.map (·.1) = qs.take i ∧ ∀ x ∈ Q, OwnU w x.2 x.1.elems ∧ ∀ k, blk x.2 = some k → lo ≤ k
theorem take_three (l : List Value) (j : Nat) (a b c : Value) (h : j + 3 ≤ l.length) : (((l.set j a).set (j + 1) b).set (j + 2) c).take (j + 3) = l.take j ++ [a, b, c] := by
  apply List.ext_getElem?
  intro k
  simp only [List.getElem?_take, List.getElem?_append, List.length_take, Nat.min_eq_left (show j ≤ l.length by omega), List.getElem?_set, List.length_set]
  by_cases h1 : k < j
  · rw [if_pos (by omega), if_pos h1, if_neg (by omega), if_neg (by omega), if_neg (by omega), if_pos h1]
  · rw [if_neg h1]
    by_cases h2 : k = j
    · subst h2; rw [if_pos (by omega), if_neg (by omega), if_neg (by omega), if_pos rfl, if_pos (by omega)]; simp
    · by_cases h3 : k = j + 1
      · subst h3; rw [if_pos (by omega), if_neg (by omega), if_pos rfl, if_pos (by omega)]; simp [show j + 1 - j = 1 by omega]
      · by_cases h4 : k = j + 2
        · subst h4; rw [if_pos (by omega), if_pos rfl, if_pos (by omega)]; simp [show j + 2 - j = 2 by omega]
        · rw [if_neg (by omega)]
          symm
          rw [List.getElem?_eq_none_iff]
          simp; omega
theorem QPart.more {w : World} {g lo n i : Nat} {qs : List Qn} (h : QPart w g lo n i qs) {q : Qn} {v : Value} (hq : qs[i]? = some q) (hi : i < n) (hv : OwnU w v q.elems) (hb : ∀ k, blk v = some k → lo ≤ k) :
    QPart (((w.setCell ⟨g, i * 3, none⟩ (uv q.label)).setCell ⟨g, i * 3 + 1, none⟩ v).setCell ⟨g, i * 3 + 2, none⟩ (uv q.answer)) g lo n (i + 1) qs := by
  obtain ⟨Q, cur, h1, h2, h3, h4, h5⟩ := h
  have hk' : ∀ {v' : Value} {l : List UInt64}, OwnU w v' l → OwnU (((w.setCell ⟨g, i * 3, none⟩ (uv q.label)).setCell ⟨g, i * 3 + 1, none⟩ v).setCell ⟨g, i * 3 + 2, none⟩ (uv q.answer)) v' l := by
    intro v' l hv'
    refine ownsRow_kp hv' ((((Kp.refl (fun k => k = g) w).setCell (p := ⟨g, i * 3, none⟩) (.inl rfl) _).setCell (p := ⟨g, i * 3 + 1, none⟩) (.inl rfl) _).setCell (p := ⟨g, i * 3 + 2, none⟩) (.inl rfl) _) ?_
    rintro k hk rfl
    obtain ⟨cs, g1⟩ := ownsRow_block hv' hk
    rw [h1] at g1
    injection g1 with g1
    injection g1 with _ g1
    exact absurd g1 (by decide)
  refine ⟨Q ++ [(q, v)], _, heap_setCell_same (heap_setCell_same (heap_setCell_same h1 (i * 3) _) (i * 3 + 1) _) (i * 3 + 2) _, by simpa using h2, ?_, ?_, ?_⟩
  · simp only [Array.toList_setIfInBounds]
    rw [show (i + 1) * 3 = i * 3 + 3 by omega, take_three _ _ _ _ _ (by rw [Array.length_toList, h2]; omega), h3]
    simp [qCells]
  · rw [List.take_add_one, hq, List.map_append, h4]; rfl
  · intro x hx
    rcases List.mem_append.1 hx with hx | hx
    · exact ⟨hk' (h5 x hx).1, (h5 x hx).2⟩
    · rw [List.mem_singleton] at hx; subst hx; exact ⟨hk' hv, hb⟩

set_option maxRecDepth 100000 in
set_option maxHeartbeats 3200000 in
theorem Questions_any {w : World} {b : Nat} {M : Orc} {F : Nat → Prop} (h : OrcAt w b M F) (hq : M.qs.length ≤ 1000000000) (hE : ∀ q ∈ M.qs, q.elems.length ≤ 1000000000000) :
    Calls Tryz.prog 36 #[.pointer (some ⟨b, 0, none⟩)] w (NewQs w M.qs) := by
  obtain ⟨qv, mk, ms, mp, Q, S, hin⟩ := h
  obtain ⟨-, -, -, c3, -⟩ := self_cells hin.self
  obtain ⟨qa, qc, rfl, hqc, hqm, -⟩ := ownsRow_rd hin.qown
  have hQl : Q.length = M.qs.length := by rw [← hin.qs, List.length_map]
  obtain ⟨i0, hi, hz0, hz1, hz2⟩ := info_parts Tryz.infoQ
  have hb1 : i0.bytes * Q.length ≤ 281474976710656 := by rw [hz2]; omega
  have hb2 : Q.length ≤ maxLen := by unfold maxLen; omega
  have B1 := hid hb1
  have B2 := hid hb2
  have HIN := hid hin
  have HQL := hid hQl
  have HQ := hid hq
  have HE := hid hE
  have HI := hid hi
  have HZ0 := hid hz0
  have HZ1 := hid hz1
  clear hin hQl hq hE hb1 hb2 hi hz0 hz1
  go_enter Tryz.func36, Tryz.ntmps36
  go_wp2_with (at_make; refine wpList_make_full _ rfl _ _ 33 rfl 0 111 i0 (.agg #[.int .u64 0, .slice none 0 0, .int .u64 0]) 3 (by kernel_rfl) HI.out HZ0.out HZ1.out _ _ _ _ Q.length rfl rfl rfl rfl B1.out B2.out (Nat.zero_le _) ?_)
  intro w1 hown0 hg
  have hx1 : Ext w w1 := (grown_kp hg).toExt (by intro k h; cases h)
  obtain ⟨n, hn⟩ : ∃ n, n = M.qs.length := ⟨_, rfl⟩
  have hgs : ∃ cur : Array Value, w1.heap[w.heap.size]? = some (.cells cur 111 (0, 0)) ∧ cur.size = n * 3 := by
    rcases hown0.2 with ⟨h, _⟩ | ⟨g, cap, cur, h, _, h2, _, _, h3, _⟩
    · cases h
    · injection h with h h4 h5
      injection h with h
      injection h with h
      subst h
      exact ⟨cur, h2, by rw [h3, ← h5, HQL.out, hn]⟩
  have hp0 : QPart w1 w.heap.size w.heap.size n 0 M.qs := by
    obtain ⟨cur, h1, h2⟩ := hgs
    exact ⟨[], cur, h1, h2, by simp [qCells], by simp, by intro x hx; cases hx⟩
  have hQn : Q.length = n := by rw [hn]; exact HQL.out
  rw [hQn] at c3 ⊢
  have hin1 := HIN.out
  rw [hQn] at hin1
  have HIN1 := hid hin1
  have HQN := hid hQn
  have HN := hid hn
  have hn9 : n ≤ 1000000000 := by rw [hn]; exact HQ.out
  have c3' := hx1.cell_some c3
  have HX1 := hid hx1
  have HP0 := hid hp0
  have hfz1 := frozen_of (hx1.heap_some HIN.out.self)
  clear hown0 hg hgs hp0 hQn hin1 hn hx1 c3 HIN HZ0 HZ1 HI B1 B2
  go_wp2
  go_loopw [17] (fun iv wr => ∃ i : Nat, i ≤ n ∧ iv = .int .i64 i ∧ QPart wr w.heap.size w.heap.size n i M.qs ∧ Kp (fun k => k = w.heap.size) w1 wr) (fun iv _ => (n - (intOf iv).toNat))
  case atStart => exact ⟨0, by omega, rfl, HP0.out, Kp.refl _ _⟩
  case round =>
    obtain ⟨i, hin, rfl, hp, hk⟩ := hrel
    have HP := hid hp
    have HK := hid hk
    clear hp hk
    have hxr : Ext w wr := HX1.out.kp HK.out (by rintro k rfl; exact Nat.le_refl _)
    by_cases hlt : i < n
    · have hltB : decide ((i : Int) < (n : Int)) = true := by simp; omega
      obtain ⟨⟨q, v⟩, hqi⟩ : ∃ x, Q[i]? = some x := ⟨_, List.getElem?_eq_getElem (by rw [HQN.out]; exact hlt)⟩
      have hinr := HIN1.out.ext hxr
      obtain ⟨g, cap, hqe, hcap1, hcap2, e0, e1, e2⟩ := hinr.q_at hqi
      rw [HQN.out] at hqe
      injection hqe with hqa hqn hqc2
      subst hqa
      have hmem := List.mem_of_getElem? hqi
      have hel := (hinr.elems _ hmem)
      have hqq : M.qs[i]? = some q := by rw [← HIN1.out.qs, List.getElem?_map, hqi]; rfl
      have hle := HE.out q (List.mem_of_getElem? hqq)
      have HEL := hid hel
      have HQQ := hid hqq
      have HLE := hid hle
      have HXR := hid hxr
      obtain ⟨va, vc, hve, -⟩ := ownsRow_rd hel.1
      simp only at hve
      subst hve
      clear hxr hqi hinr hqn hqc2 hmem hel hqq hle hcap1 hcap2
      go_wp2_with fail
      have hv0 : RdU (wr.alloc (.cells #[uv q.label, .slice va q.elems.length vc, uv q.answer] 111)) (.slice va q.elems.length vc) q.elems := HEL.out.1.rdu.ext ((Ext.refl wr).alloc _)
      refine (copiedQuestion_any hv0 HLE.out).mono ?_
      rintro e w2 ⟨ev, rfl, hev, hx2, hnb⟩
      obtain ⟨ea, ec, rfl, -⟩ := ownsRow_rd hev
      have hx2' : Ext wr w2 := ((Ext.refl wr).alloc _).trans hx2
      have hp2 : QPart w2 w.heap.size w.heap.size n i M.qs := by
        obtain ⟨Q', cur, g1, g2, g3, g4, g5⟩ := HP.out
        exact ⟨Q', cur, hx2'.heap_some g1, g2, g3, g4, fun x hx => ⟨ownsRow_ext (g5 x hx).1 hx2', (g5 x hx).2⟩⟩
      obtain ⟨cur, hcur, hcs⟩ : ∃ cur : Array Value, w2.heap[w.heap.size]? = some (.cells cur 111 (0, 0)) ∧ cur.size = n * 3 := by
        obtain ⟨Q', cur, g1, g2, -⟩ := hp2; exact ⟨cur, g1, g2⟩
      have hd : ∀ j, j < n * 3 → ∃ u, w2.cell? ⟨w.heap.size, j, none⟩ = some u := fun j hj => ⟨_, (cell_of hcur j).trans (Array.getElem?_eq_getElem (by omega))⟩
      obtain ⟨u0, d0⟩ := hd (i * 3) (by omega)
      obtain ⟨u1, d1⟩ := hd (i * 3 + 1) (by omega)
      obtain ⟨u2, d2⟩ := hd (i * 3 + 2) (by omega)
      have hf2 := frozen_of hcur
      have HEV := hid hev
      have HX2 := hid hx2'
      have HP2 := hid hp2
      have hnb' : ∀ k, blk (.slice ea q.elems.length ec) = some k → w.heap.size ≤ k := by
        intro k hk
        have h1 := hnb k hk
        have h2 := HXR.out.size
        rw [World.size_alloc] at h1
        omega
      have HNB := hid hnb'
      have hgl := heap_lt hcur
      have hi0 : (0 : Int) ≤ (i : Int) := Int.natCast_nonneg _
      have hi1 : (i : Int) < (n : Int) := by omega
      clear hev hx2 hx2' hp2 hcur hcs hd hnb hv0 hnb' e0 e1 e2 hfz1 c3'
      go_wp2_with fail
      go_roundw
      case rel =>
        refine ⟨i + 1, by omega, by go_num, HP2.out.more HQQ.out hlt HEV.out HNB.out, ?_⟩
        exact (((HK.out.ext HX2.out).setCell (.inl rfl) _).setCell (.inl rfl) _).setCell (.inl rfl) _
      case measure => simp [intOf]; omega
    · have hin' : i = n := by omega
      subst hin'
      have hltB : decide ((i : Int) < (i : Int)) = false := by simp
      go_wp2
      go_ret
      obtain ⟨Q', cur, g1, g2, g3, g4, g5⟩ := HP.out
      have hQ' : Q'.map (·.1) = M.qs := by rw [g4, HN.out, List.take_length]
      have hl' : Q'.length = i := by rw [HN.out, ← hQ', List.length_map]
      have how : wr.ownsRow 0 111 3 (.slice (some ⟨w.heap.size, 0, none⟩) i i) Q'.length (qCells Q') := by
        refine ⟨?_, .inr ⟨w.heap.size, i, cur, by rw [hl'], Nat.zero_le _, g1, by omega, by unfold maxLen; omega, g2, by rw [hl']; exact g3⟩⟩
        rw [← g3, List.length_take, Array.length_toList, g2, hl']; omega
      exact ⟨_, Q', rfl, hQ', how, g5, hxr, by intro k hk; cases hk; exact Nat.le_refl _⟩
end Go.Proofs.YtgfmjfkdogcnhaaGreat
