/- NoteHidden returns true for every seed and every two lists of notes. -/
import Derived.Test.YtdkilbnocmnekaaHidLaw
import Derived.Test.YtdkilbnocmnekaaBinds
set_option linter.unusedSimpArgs false
namespace Go.Proofs.Ytdkilbnocmnekaa
open Go.RowKit
attribute [local irreducible] perm fAdd fMul fPow fSub fNeg fRed hashU drawOf nextState

/-- Two oracles side by side. -/
structure Two (w v : World) (bo bq : Nat) (Mo Mq : Orc) (Fo Fq : Nat → Prop) : Prop where
  o : OrcAt v bo Mo Fo
  q : OrcAt v bq Mq Fq
  dis : ∀ k, Fo k → ¬ Fq k
  new : ∀ k, Fo k ∨ Fq k → w.heap.size ≤ k
  ex : Ext w v
theorem Two.ext {w v v' : World} {bo bq : Nat} {Mo Mq : Orc} {Fo Fq : Nat → Prop} (h : Two w v bo bq Mo Mq Fo Fq) (k : Ext v v') : Two w v' bo bq Mo Mq Fo Fq :=
  ⟨h.o.ext k, h.q.ext k, h.dis, h.new, h.ex.trans k⟩
theorem Two.left {w v v' : World} {bo bq : Nat} {Mo Mq Mo' : Orc} {Fo Fq Fo' : Nat → Prop} (h : Two w v bo bq Mo Mq Fo Fq) (t : OrcTo v bo Fo Mo' v' Fo') : Two w v' bo bq Mo' Mq Fo' Fq where
  o := t.at'
  q := h.q.kp t.kp fun i hq ho => h.dis i ho hq
  dis k ho hq := by
    rcases t.new k ho with h1 | h1
    · exact h.dis k h1 hq
    · have := h.q.foot_lt k hq; omega
  new k hk := by
    have hz := h.ex.size
    rcases hk with hk | hk
    · rcases t.new k hk with h1 | h1
      · exact h.new k (.inl h1)
      · omega
    · exact h.new k (.inr hk)
  ex := h.ex.kp t.kp fun k hk => h.new k (.inl hk)
theorem Two.right {w v v' : World} {bo bq : Nat} {Mo Mq Mq' : Orc} {Fo Fq Fq' : Nat → Prop} (h : Two w v bo bq Mo Mq Fo Fq) (t : OrcTo v bq Fq Mq' v' Fq') : Two w v' bo bq Mo Mq' Fo Fq' where
  o := h.o.kp t.kp fun i ho hq => h.dis i ho hq
  q := t.at'
  dis k ho hq := by
    rcases t.new k hq with h1 | h1
    · exact h.dis k ho h1
    · have := h.o.foot_lt k ho; omega
  new k hk := by
    have hz := h.ex.size
    rcases hk with hk | hk
    · exact h.new k (.inl hk)
    · rcases t.new k hk with h1 | h1
      · exact h.new k (.inr h1)
      · omega
  ex := h.ex.kp t.kp fun k hk => h.new k (.inr hk)
/-- The two oracles behind i notes. -/
def HidI (w : World) (bo bq : Nat) (l m : List Nt) (i : Nat) (v : World) : Prop :=
  ∃ Mo Mq Fo Fq, OrcAt v bo Mo Fo ∧ OrcAt v bq Mq Fq ∧ (∀ k, Fo k → ¬ Fq k) ∧ (∀ k, Fo k ∨ Fq k → w.heap.size ≤ k) ∧ Ext w v ∧ HidP 5 Mo (l.take i) ∧ HidP 6 Mq (m.take i) ∧ Mo.state = Mq.state

theorem nsame_no {c a : Nt} (h : c.same a = false) : (c.value.toNat : Int) = (a.value.toNat : Int) → (c.owner.toNat : Int) = (a.owner.toNat : Int) → (c.rho.toNat : Int) = (a.rho.toNat : Int) → ¬(c.blind.toNat : Int) = (a.blind.toNat : Int) := by
  intro h1 h2 h3 h4
  have : c.same a = true := Nt.same_iff.2 (by obtain ⟨c1, c2, c3, c4⟩ := c; obtain ⟨a1, a2, a3, a4⟩ := a; exact nt_same h1 h2 h3 h4)
  rw [h] at this; cases this
theorem nsame_ne {c a : Nt} (h : c.same a = false) : c ≠ a := by rintro rfl; rw [Nt.same_iff.2 rfl] at h; cases h
theorem rho_ne {x y : UInt64} (h : ((x.toNat : Int) == (y.toNat : Int)) = false) : x ≠ y := by rintro rfl; simp at h
theorem noteEqIn (a b : Nt) (w : World) : (Op.equalIn 10000 45 (.agg #[uv a.value, uv a.owner, uv a.rho, uv a.blind]) (.agg #[uv b.value, uv b.owner, uv b.rho, uv b.blind])).run Try.prog w = .ok (a.same b) w := by
  have h := noteEq a b w
  unfold nv at h
  rw [run_eql_struct] at h
  generalize (Op.equalIn 10000 45 (.agg #[uv a.value, uv a.owner, uv a.rho, uv a.blind]) (.agg #[uv b.value, uv b.owner, uv b.rho, uv b.blind])).run Try.prog w = r at h
  cases r with
  | ok x w' => simp only [Result.andThen_ok, Result.ok.injEq, Value.bool.injEq] at h; rw [h.1, h.2]
  | halt x w' => simp [Result.andThen] at h

set_option maxRecDepth 100000 in
set_option maxHeartbeats 3200000 in
theorem NoteHidden_any (seed : UInt64) (l m : List Nt) (lv mv : Value) (w : World) (hl : RdN w lv l) (hm : RdN w mv m) :
    Calls Try.prog 5 #[uv seed, lv, mv] w fun e w' => e = .returned (.bool true) ∧ Ext w w' := by
  obtain ⟨la, lc, rfl, -⟩ := id hl
  obtain ⟨ma, mc, rfl, -⟩ := id hm
  have HL := hid hl
  have HM := hid hm
  have HI := hid (Ideal_any seed)
  obtain ⟨nl, hnl⟩ : ∃ nl, nl = l.length := ⟨_, rfl⟩
  obtain ⟨nm, hnm⟩ : ∃ nm, nm = m.length := ⟨_, rfl⟩
  have HNL := hid hnl
  have HNM := hid hnm
  rw [← hnl] at HL ⊢
  rw [← hnm] at HM ⊢
  clear hl hm hnl hnm
  by_cases hlen : nl = nm
  · subst hlen
    have hB : ((nl : Int) != (nl : Int)) = false := by simp
    by_cases h12 : nl ≤ 12
    · have h12B : decide ((12 : Int) < (nl : Int)) = false := by simp; omega
      go_enter Try.func5, Try.ntmps5
      go_wp2_with fail
      refine (awake34_any _).mono ?_
      rintro e w1 ⟨rfl, hx1⟩
      have HX1 := hid hx1
      clear hx1
      go_wp2_with fail
      refine (HI.out _).mono ?_
      rintro e w2 ⟨bo, Fo, rfl, hato, hx2, hFo⟩
      have HATO := hid hato
      have HX2 := hid (HX1.out.trans hx2)
      have HFO := hid hFo
      clear hato hx2 hFo
      go_wp2_with fail
      refine (HI.out _).mono ?_
      rintro e w3 ⟨bq, Fq, rfl, hatq, hx3, hFq⟩
      have hi0 : HidI w bo bq l m 0 w3 := ⟨_, _, _, _, HATO.out.ext hx3, hatq, fun k h1 h2 => by have := HATO.out.foot_lt k h1; have := hFq k h2; omega,
        fun k hk => by
          have h1 := HX1.out.size
          have h2 := HX2.out.size
          rcases hk with hk | hk
          · have := HFO.out k hk; omega
          · have := hFq k hk; omega, HX2.out.trans hx3, HidP.fresh 5 seed, HidP.fresh 6 seed, rfl⟩
      have HI0 := hid hi0
      clear hi0 hatq hx3 hFq HI
      go_wp2_with fail
      go_loopw [35] (fun iv wr => ∃ i : Nat, i ≤ nl ∧ iv = .int .i64 i ∧ Hid (HidI w bo bq l m i wr)) (fun iv _ => (nl - (intOf iv).toNat))
      case atStart => exact ⟨0, by omega, rfl, HI0⟩
      case round =>
        obtain ⟨i, hi, rfl, HJ⟩ := hrel
        by_cases hlt : i < nl
        · have hltB : decide ((i : Int) < (nl : Int)) = true := by simp; omega
          obtain ⟨a, ha⟩ : ∃ a, l[i]? = some a := ⟨_, List.getElem?_eq_getElem (by have := HNL.out; omega)⟩
          obtain ⟨b, hb⟩ : ∃ b, m[i]? = some b := ⟨_, List.getElem?_eq_getElem (by have := HNM.out; omega)⟩
          have hbi := HJ.out
          obtain ⟨Mo, Mq, Fo', Fq', hAo, hAq, hdis, hnew, hxr, hPo, hPq, hst⟩ := hbi
          obtain ⟨bl, ol, rfl, e0, e1, e2, e3⟩ := HL.out.at ha
          obtain ⟨bm, om, rfl, f0, f1, f2, f3⟩ := HM.out.at hb
          have H8 : ∀ v, Ext w v → (v.cell? ⟨bl, ol + i * 4, none⟩ = some (uv a.value) ∧ v.cell? ⟨bl, ol + i * 4 + 1, none⟩ = some (uv a.owner) ∧ v.cell? ⟨bl, ol + i * 4 + 2, none⟩ = some (uv a.rho) ∧ v.cell? ⟨bl, ol + i * 4 + 3, none⟩ = some (uv a.blind)) ∧
              (v.cell? ⟨bm, om + i * 4, none⟩ = some (uv b.value) ∧ v.cell? ⟨bm, om + i * 4 + 1, none⟩ = some (uv b.owner) ∧ v.cell? ⟨bm, om + i * 4 + 2, none⟩ = some (uv b.rho) ∧ v.cell? ⟨bm, om + i * 4 + 3, none⟩ = some (uv b.blind)) :=
            fun v k => ⟨⟨k.cell_some e0, k.cell_some e1, k.cell_some e2, k.cell_some e3⟩, k.cell_some f0, k.cell_some f1, k.cell_some f2, k.cell_some f3⟩
          clear e0 e1 e2 e3 f0 f1 f2 f3
          have HH8 := hid H8
          have HXR := hid hxr
          have hil : (i : Int) < (nl : Int) := by omega
          have hi0 : (0 : Int) ≤ (i : Int) := Int.natCast_nonneg _
          obtain ⟨⟨e0, e1, e2, e3⟩, f0, f1, f2, f3⟩ := H8 _ hxr
          have HAO := hid hAo
          have HAQ := hid hAq
          have HDIS := hid hdis
          have HNEW := hid hnew
          have HPO := hid hPo
          have HPQ := hid hPq
          have HST := hid hst
          have HA := hid ha
          have HB := hid hb
          clear H8 hxr hAo hAq hdis hnew hPo hPq hst ha hb
          have HVa : Hid (∀ w, Calls Try.prog 23 #[.agg #[uv a.value, uv a.owner, uv a.rho, uv a.blind]] w fun e w' => e = .returned (.bool a.ok) ∧ Ext w w') := hid (refValid_any a)
          have HVb : Hid (∀ w, Calls Try.prog 23 #[.agg #[uv b.value, uv b.owner, uv b.rho, uv b.blind]] w fun e w' => e = .returned (.bool b.ok) ∧ Ext w w') := hid (refValid_any b)
          go_wp2_with fail
          refine (HVa.out _).mono ?_
          rintro e w4 ⟨rfl, hx4⟩
          have HX4 := hid hx4
          cases hoka : a.ok with
          | false =>
            clear e0 e1 e2 e3 f0 f1 f2 f3 hx4
            go_wp2_with fail
            go_ret
            exact ⟨rfl, HXR.out.trans HX4.out⟩
          | true =>
            obtain ⟨-, g0, g1, g2, g3⟩ := HH8.out _ (HXR.out.trans hx4)
            clear e0 e1 e2 e3 f0 f1 f2 f3 hx4
            go_wp2_with fail
            refine (HVb.out _).mono ?_
            rintro e w5 ⟨rfl, hx5⟩
            have HX5 := hid (HX4.out.trans hx5)
            cases hokb : b.ok with
            | false =>
              clear g0 g1 g2 g3 hx5
              go_wp2_with fail
              go_ret
              exact ⟨rfl, HXR.out.trans HX5.out⟩
            | true =>
              clear g0 g1 g2 g3 hx5 HVa HVb
              go_wp2_with fail
              go_loopw [53] (fun kv wv => ∃ k : Nat, k ≤ i ∧ kv = .int .i64 k ∧ Hid (∀ k', k' < k → (∀ c, l[k']? = some c → c ≠ a ∧ c.rho ≠ a.rho) ∧ (∀ c, m[k']? = some c → c ≠ b ∧ c.rho ≠ b.rho)) ∧ Hid (Ext w5 wv)) (fun kv _ => (i - (intOf kv).toNat))
              case atStart => exact ⟨0, by omega, rfl, hid (fun k' hk' => by omega), hid (Ext.refl _)⟩
              case round =>
                obtain ⟨k, hk, rfl, HD, HXK⟩ := hrel
                by_cases hlk : k < i
                · have hlkB : decide ((k : Int) < (i : Int)) = true := by simp; omega
                  have hknl : (k : Int) < (nl : Int) := by omega
                  have hk0 : (0 : Int) ≤ (k : Int) := Int.natCast_nonneg _
                  obtain ⟨c, hc⟩ : ∃ c, l[k]? = some c := ⟨_, List.getElem?_eq_getElem (by have := HNL.out; omega)⟩
                  obtain ⟨d, hd⟩ : ∃ d, m[k]? = some d := ⟨_, List.getElem?_eq_getElem (by have := HNM.out; omega)⟩
                  obtain ⟨bl', ol', he1, p0, p1, p2, p3⟩ := HL.out.at hc
                  obtain ⟨bm', om', he2, q0, q1, q2, q3⟩ := HM.out.at hd
                  injection he1 with he1
                  injection he1 with he1a he1b
                  injection he2 with he2
                  injection he2 with he2a he2b
                  subst he1a he1b he2a he2b
                  have HC := hid hc
                  have HDD := hid hd
                  have H16 : Hid (∀ v, Ext w5 v → (v.cell? ⟨bl, ol + k * 4, none⟩ = some (uv c.value) ∧ v.cell? ⟨bl, ol + k * 4 + 1, none⟩ = some (uv c.owner) ∧ v.cell? ⟨bl, ol + k * 4 + 2, none⟩ = some (uv c.rho) ∧ v.cell? ⟨bl, ol + k * 4 + 3, none⟩ = some (uv c.blind)) ∧ (v.cell? ⟨bm, om + k * 4, none⟩ = some (uv d.value) ∧ v.cell? ⟨bm, om + k * 4 + 1, none⟩ = some (uv d.owner) ∧ v.cell? ⟨bm, om + k * 4 + 2, none⟩ = some (uv d.rho) ∧ v.cell? ⟨bm, om + k * 4 + 3, none⟩ = some (uv d.blind)) ∧ (v.cell? ⟨bl, ol + i * 4, none⟩ = some (uv a.value) ∧ v.cell? ⟨bl, ol + i * 4 + 1, none⟩ = some (uv a.owner) ∧ v.cell? ⟨bl, ol + i * 4 + 2, none⟩ = some (uv a.rho) ∧ v.cell? ⟨bl, ol + i * 4 + 3, none⟩ = some (uv a.blind)) ∧ (v.cell? ⟨bm, om + i * 4, none⟩ = some (uv b.value) ∧ v.cell? ⟨bm, om + i * 4 + 1, none⟩ = some (uv b.owner) ∧ v.cell? ⟨bm, om + i * 4 + 2, none⟩ = some (uv b.rho) ∧ v.cell? ⟨bm, om + i * 4 + 3, none⟩ = some (uv b.blind))) := by
                    have k5 := HXR.out.trans HX5.out
                    exact hid fun v kk => ⟨⟨(k5.trans kk).cell_some p0, (k5.trans kk).cell_some p1, (k5.trans kk).cell_some p2, (k5.trans kk).cell_some p3⟩, ⟨(k5.trans kk).cell_some q0, (k5.trans kk).cell_some q1, (k5.trans kk).cell_some q2, (k5.trans kk).cell_some q3⟩, HH8.out _ (k5.trans kk)⟩
                  clear p0 p1 p2 p3 q0 q1 q2 q3 hc hd
                  have HQ1 := hid (noteEqIn c a)
                  have HQ2 := hid (noteEqIn d b)
                  go_wp2_with fail
                  rcases hs1 : c.same a with _ | _
                  · have HS1 := hid hs1
                    rcases hs2 : d.same b with _ | _
                    · have HS2 := hid hs2
                      rcases hs3 : ((c.rho.toNat : Int) == (a.rho.toNat : Int)) with _ | _
                      · rcases hs4 : ((d.rho.toNat : Int) == (b.rho.toNat : Int)) with _ | _
                        · have HS3 := hid hs3
                          have HS4 := hid hs4
                          clear hs1 hs2 hs3 hs4
                          refine wp_region_T (fun v => ((v.cell? ⟨bl, ol + k * 4, none⟩ = some (uv c.value) ∧ v.cell? ⟨bl, ol + k * 4 + 1, none⟩ = some (uv c.owner) ∧ v.cell? ⟨bl, ol + k * 4 + 2, none⟩ = some (uv c.rho) ∧ v.cell? ⟨bl, ol + k * 4 + 3, none⟩ = some (uv c.blind)) ∧ (v.cell? ⟨bm, om + k * 4, none⟩ = some (uv d.value) ∧ v.cell? ⟨bm, om + k * 4 + 1, none⟩ = some (uv d.owner) ∧ v.cell? ⟨bm, om + k * 4 + 2, none⟩ = some (uv d.rho) ∧ v.cell? ⟨bm, om + k * 4 + 3, none⟩ = some (uv d.blind)) ∧ (v.cell? ⟨bl, ol + i * 4, none⟩ = some (uv a.value) ∧ v.cell? ⟨bl, ol + i * 4 + 1, none⟩ = some (uv a.owner) ∧ v.cell? ⟨bl, ol + i * 4 + 2, none⟩ = some (uv a.rho) ∧ v.cell? ⟨bl, ol + i * 4 + 3, none⟩ = some (uv a.blind)) ∧ (v.cell? ⟨bm, om + i * 4, none⟩ = some (uv b.value) ∧ v.cell? ⟨bm, om + i * 4 + 1, none⟩ = some (uv b.owner) ∧ v.cell? ⟨bm, om + i * 4 + 2, none⟩ = some (uv b.rho) ∧ v.cell? ⟨bm, om + i * 4 + 3, none⟩ = some (uv b.blind))) ∧ Ext w5 v) 44 [(0, true), (1, true), (2, true), (3, true), (4, true), (5, true), (6, true), (7, true), (8, true), (9, true), (10, true), (11, true), (12, true), (13, true), (14, true), (15, true), (16, true), (17, true), (18, true), (19, true), (20, true), (21, true), (22, true), (23, true), (24, true), (25, true), (26, true), (27, true), (28, true), (29, true), (30, true), (31, true), (32, true), (33, true), (34, true), (35, true), (36, true), (37, true), (38, true), (39, true), (40, true), (41, true), (42, true), (43, true), (44, false), (45, false)] (by kernel_rfl) (by kernel_rfl) (by intro c a d v w h; cases d <;> exact h) ?_
                          intro ops hops
                          have HS : _ ∧ Ext w5 wr.drew := ⟨H16.out _ HXK.out.drew, HXK.out.drew⟩
                          iterate 8
                            refine wpT_take (v := ?_) (by rw [hops, List.getElem?_toArray]; rfl) (by first | rfl | (rw [hops]; rfl)) ?_ HS ?_
                            rotate_left
                            · intro v h; go_simp; with_reducible rfl
                            simp only [Act.put, List.getElem_toArray, List.getElem_cons_zero, List.getElem_cons_succ, List.setIfInBounds_toArray, List.set_cons_zero, List.set_cons_succ]
                          refine wpT_take (v := .bool false) (by rw [hops, List.getElem?_toArray]; rfl) (by first | rfl | (rw [hops]; rfl)) ?_ HS ?_
                          · intro v h; go_simp; exact nsame_no HS1.out
                          simp only [Act.put, List.getElem_toArray, List.getElem_cons_zero, List.getElem_cons_succ, List.setIfInBounds_toArray, List.set_cons_zero, List.set_cons_succ]
                          iterate 9
                            refine wpT_take (v := ?_) (by rw [hops, List.getElem?_toArray]; rfl) (by first | rfl | (rw [hops]; rfl)) ?_ HS ?_
                            rotate_left
                            · intro v h; go_simp; with_reducible rfl
                            simp only [Act.put, List.getElem_toArray, List.getElem_cons_zero, List.getElem_cons_succ, List.setIfInBounds_toArray, List.set_cons_zero, List.set_cons_succ]
                          refine wpT_take (v := .bool false) (by rw [hops, List.getElem?_toArray]; rfl) (by first | rfl | (rw [hops]; rfl)) ?_ HS ?_
                          · intro v h; go_simp; exact nsame_no HS2.out
                          simp only [Act.put, List.getElem_toArray, List.getElem_cons_zero, List.getElem_cons_succ, List.setIfInBounds_toArray, List.set_cons_zero, List.set_cons_succ]
                          have hs3 := HS3.out
                          have hs4 := HS4.out
                          iterate 25
                            refine wpT_take (v := ?_) (by rw [hops, List.getElem?_toArray]; rfl) (by first | rfl | (rw [hops]; rfl)) ?_ HS ?_
                            rotate_left
                            · intro v h; go_simp; with_reducible rfl
                            simp only [Act.put, List.getElem_toArray, List.getElem_cons_zero, List.getElem_cons_succ, List.setIfInBounds_toArray, List.set_cons_zero, List.set_cons_succ]
                          refine wpT_step (by rw [hops, List.getElem?_toArray]; rfl) (by first | rfl | (rw [hops]; rfl)) ?_
                          intro K hK
                          go_wp2_with fail
                          refine ⟨fun h => absurd h (by decide), ?_⟩
                          refine wpT_step (by rw [hops, List.getElem?_toArray]; rfl) (by first | rfl | (rw [hops]; rfl)) ?_
                          intro K hK
                          go_wp2_with fail
                          refine ⟨fun h => absurd h (by decide), ?_⟩
                          rw [wpT_nil]
                          clear hops ops
                          go_wp2_with fail
                          go_roundw
                          case rel => exact ⟨k + 1, by omega, by go_num, hid (by
                              intro k' hk'
                              rcases Nat.lt_or_ge k' k with hlt' | hge
                              · exact HD.out k' hlt'
                              · obtain rfl : k' = k := by omega
                                refine ⟨fun x hx => ?_, fun x hx => ?_⟩
                                · obtain rfl := Option.some.inj (HC.out.symm.trans hx); exact ⟨nsame_ne HS1.out, rho_ne HS3.out⟩
                                · obtain rfl := Option.some.inj (HDD.out.symm.trans hx); exact ⟨nsame_ne HS2.out, rho_ne HS4.out⟩), hid HXK.out.drew⟩
                          case measure => simp [intOf]; omega
                        · have HS3 := hid hs3
                          have HS4 := hid hs4
                          clear hs1 hs2 hs3 hs4
                          refine wp_region_T (fun v => ((v.cell? ⟨bl, ol + k * 4, none⟩ = some (uv c.value) ∧ v.cell? ⟨bl, ol + k * 4 + 1, none⟩ = some (uv c.owner) ∧ v.cell? ⟨bl, ol + k * 4 + 2, none⟩ = some (uv c.rho) ∧ v.cell? ⟨bl, ol + k * 4 + 3, none⟩ = some (uv c.blind)) ∧ (v.cell? ⟨bm, om + k * 4, none⟩ = some (uv d.value) ∧ v.cell? ⟨bm, om + k * 4 + 1, none⟩ = some (uv d.owner) ∧ v.cell? ⟨bm, om + k * 4 + 2, none⟩ = some (uv d.rho) ∧ v.cell? ⟨bm, om + k * 4 + 3, none⟩ = some (uv d.blind)) ∧ (v.cell? ⟨bl, ol + i * 4, none⟩ = some (uv a.value) ∧ v.cell? ⟨bl, ol + i * 4 + 1, none⟩ = some (uv a.owner) ∧ v.cell? ⟨bl, ol + i * 4 + 2, none⟩ = some (uv a.rho) ∧ v.cell? ⟨bl, ol + i * 4 + 3, none⟩ = some (uv a.blind)) ∧ (v.cell? ⟨bm, om + i * 4, none⟩ = some (uv b.value) ∧ v.cell? ⟨bm, om + i * 4 + 1, none⟩ = some (uv b.owner) ∧ v.cell? ⟨bm, om + i * 4 + 2, none⟩ = some (uv b.rho) ∧ v.cell? ⟨bm, om + i * 4 + 3, none⟩ = some (uv b.blind))) ∧ Ext w5 v) 44 [(0, true), (1, true), (2, true), (3, true), (4, true), (5, true), (6, true), (7, true), (8, true), (9, true), (10, true), (11, true), (12, true), (13, true), (14, true), (15, true), (16, true), (17, true), (18, true), (19, true), (20, true), (21, true), (22, true), (23, true), (24, true), (25, true), (26, true), (27, true), (28, true), (29, true), (30, true), (31, true), (32, true), (33, true), (34, true), (35, true), (36, true), (37, true), (38, true), (39, true), (40, true), (41, true), (42, true), (43, true), (44, false), (45, false)] (by kernel_rfl) (by kernel_rfl) (by intro c a d v w h; cases d <;> exact h) ?_
                          intro ops hops
                          have HS : _ ∧ Ext w5 wr.drew := ⟨H16.out _ HXK.out.drew, HXK.out.drew⟩
                          iterate 8
                            refine wpT_take (v := ?_) (by rw [hops, List.getElem?_toArray]; rfl) (by first | rfl | (rw [hops]; rfl)) ?_ HS ?_
                            rotate_left
                            · intro v h; go_simp; with_reducible rfl
                            simp only [Act.put, List.getElem_toArray, List.getElem_cons_zero, List.getElem_cons_succ, List.setIfInBounds_toArray, List.set_cons_zero, List.set_cons_succ]
                          refine wpT_take (v := .bool false) (by rw [hops, List.getElem?_toArray]; rfl) (by first | rfl | (rw [hops]; rfl)) ?_ HS ?_
                          · intro v h; go_simp; exact nsame_no HS1.out
                          simp only [Act.put, List.getElem_toArray, List.getElem_cons_zero, List.getElem_cons_succ, List.setIfInBounds_toArray, List.set_cons_zero, List.set_cons_succ]
                          iterate 9
                            refine wpT_take (v := ?_) (by rw [hops, List.getElem?_toArray]; rfl) (by first | rfl | (rw [hops]; rfl)) ?_ HS ?_
                            rotate_left
                            · intro v h; go_simp; with_reducible rfl
                            simp only [Act.put, List.getElem_toArray, List.getElem_cons_zero, List.getElem_cons_succ, List.setIfInBounds_toArray, List.set_cons_zero, List.set_cons_succ]
                          refine wpT_take (v := .bool false) (by rw [hops, List.getElem?_toArray]; rfl) (by first | rfl | (rw [hops]; rfl)) ?_ HS ?_
                          · intro v h; go_simp; exact nsame_no HS2.out
                          simp only [Act.put, List.getElem_toArray, List.getElem_cons_zero, List.getElem_cons_succ, List.setIfInBounds_toArray, List.set_cons_zero, List.set_cons_succ]
                          have hs3 := HS3.out
                          have hs4 := HS4.out
                          iterate 25
                            refine wpT_take (v := ?_) (by rw [hops, List.getElem?_toArray]; rfl) (by first | rfl | (rw [hops]; rfl)) ?_ HS ?_
                            rotate_left
                            · intro v h; go_simp; with_reducible rfl
                            simp only [Act.put, List.getElem_toArray, List.getElem_cons_zero, List.getElem_cons_succ, List.setIfInBounds_toArray, List.set_cons_zero, List.set_cons_succ]
                          refine wpT_step (by rw [hops, List.getElem?_toArray]; rfl) (by first | rfl | (rw [hops]; rfl)) ?_
                          intro K hK
                          go_wp2_with fail
                          refine ⟨fun h => absurd h (by decide), ?_⟩
                          refine wpT_step (by rw [hops, List.getElem?_toArray]; rfl) (by first | rfl | (rw [hops]; rfl)) ?_
                          intro K hK
                          go_wp2_with fail
                          refine ⟨fun h => absurd h (by decide), ?_⟩
                          rw [wpT_nil]
                          clear hops ops
                          go_wp2_with fail
                          go_ret
                          exact ⟨rfl, HXR.out.trans (HX5.out.trans HXK.out.drew)⟩
                      · have HS3 := hid hs3
                        clear hs1 hs2 hs3
                        refine wp_region_T (fun v => ((v.cell? ⟨bl, ol + k * 4, none⟩ = some (uv c.value) ∧ v.cell? ⟨bl, ol + k * 4 + 1, none⟩ = some (uv c.owner) ∧ v.cell? ⟨bl, ol + k * 4 + 2, none⟩ = some (uv c.rho) ∧ v.cell? ⟨bl, ol + k * 4 + 3, none⟩ = some (uv c.blind)) ∧ (v.cell? ⟨bm, om + k * 4, none⟩ = some (uv d.value) ∧ v.cell? ⟨bm, om + k * 4 + 1, none⟩ = some (uv d.owner) ∧ v.cell? ⟨bm, om + k * 4 + 2, none⟩ = some (uv d.rho) ∧ v.cell? ⟨bm, om + k * 4 + 3, none⟩ = some (uv d.blind)) ∧ (v.cell? ⟨bl, ol + i * 4, none⟩ = some (uv a.value) ∧ v.cell? ⟨bl, ol + i * 4 + 1, none⟩ = some (uv a.owner) ∧ v.cell? ⟨bl, ol + i * 4 + 2, none⟩ = some (uv a.rho) ∧ v.cell? ⟨bl, ol + i * 4 + 3, none⟩ = some (uv a.blind)) ∧ (v.cell? ⟨bm, om + i * 4, none⟩ = some (uv b.value) ∧ v.cell? ⟨bm, om + i * 4 + 1, none⟩ = some (uv b.owner) ∧ v.cell? ⟨bm, om + i * 4 + 2, none⟩ = some (uv b.rho) ∧ v.cell? ⟨bm, om + i * 4 + 3, none⟩ = some (uv b.blind))) ∧ Ext w5 v) 44 [(0, true), (1, true), (2, true), (3, true), (4, true), (5, true), (6, true), (7, true), (8, true), (9, true), (10, true), (11, true), (12, true), (13, true), (14, true), (15, true), (16, true), (17, true), (18, true), (19, true), (20, true), (21, true), (22, true), (23, true), (24, true), (25, true), (26, true), (27, true), (28, true), (29, true), (30, true), (31, true), (32, true), (33, true), (34, true), (35, true), (36, true), (37, true), (38, true), (39, true), (40, true), (41, true), (42, true), (43, true), (44, false), (45, false)] (by kernel_rfl) (by kernel_rfl) (by intro c a d v w h; cases d <;> exact h) ?_
                        intro ops hops
                        have HS : _ ∧ Ext w5 wr.drew := ⟨H16.out _ HXK.out.drew, HXK.out.drew⟩
                        iterate 8
                          refine wpT_take (v := ?_) (by rw [hops, List.getElem?_toArray]; rfl) (by first | rfl | (rw [hops]; rfl)) ?_ HS ?_
                          rotate_left
                          · intro v h; go_simp; with_reducible rfl
                          simp only [Act.put, List.getElem_toArray, List.getElem_cons_zero, List.getElem_cons_succ, List.setIfInBounds_toArray, List.set_cons_zero, List.set_cons_succ]
                        refine wpT_take (v := .bool false) (by rw [hops, List.getElem?_toArray]; rfl) (by first | rfl | (rw [hops]; rfl)) ?_ HS ?_
                        · intro v h; go_simp; exact nsame_no HS1.out
                        simp only [Act.put, List.getElem_toArray, List.getElem_cons_zero, List.getElem_cons_succ, List.setIfInBounds_toArray, List.set_cons_zero, List.set_cons_succ]
                        iterate 9
                          refine wpT_take (v := ?_) (by rw [hops, List.getElem?_toArray]; rfl) (by first | rfl | (rw [hops]; rfl)) ?_ HS ?_
                          rotate_left
                          · intro v h; go_simp; with_reducible rfl
                          simp only [Act.put, List.getElem_toArray, List.getElem_cons_zero, List.getElem_cons_succ, List.setIfInBounds_toArray, List.set_cons_zero, List.set_cons_succ]
                        refine wpT_take (v := .bool false) (by rw [hops, List.getElem?_toArray]; rfl) (by first | rfl | (rw [hops]; rfl)) ?_ HS ?_
                        · intro v h; go_simp; exact nsame_no HS2.out
                        simp only [Act.put, List.getElem_toArray, List.getElem_cons_zero, List.getElem_cons_succ, List.setIfInBounds_toArray, List.set_cons_zero, List.set_cons_succ]
                        have hs3 := HS3.out
                        iterate 25
                          first
                            | (refine wpT_take (v := ?_) (by rw [hops, List.getElem?_toArray]; rfl) (by first | rfl | (rw [hops]; rfl)) ?_ HS ?_
                               rotate_left
                               · intro v h; go_simp; with_reducible rfl
                               simp only [Act.put, List.getElem_toArray, List.getElem_cons_zero, List.getElem_cons_succ, List.setIfInBounds_toArray, List.set_cons_zero, List.set_cons_succ])
                            | (refine wpT_pass (by rw [hops, List.getElem?_toArray]; rfl) (by first | rfl | (rw [hops]; rfl)) HS ?_
                               simp only [Act.put, List.getElem_toArray, List.getElem_cons_zero, List.getElem_cons_succ, List.setIfInBounds_toArray, List.set_cons_zero, List.set_cons_succ])
                        refine wpT_none (by rw [hops, List.getElem?_toArray]; rfl) (by first | rfl | (rw [hops]; rfl)) ⟨fun h => absurd h (by decide), ?_⟩
                        simp only [Act.put, List.getElem_toArray, List.getElem_cons_zero, List.getElem_cons_succ, List.setIfInBounds_toArray, List.set_cons_zero, List.set_cons_succ]
                        refine wpT_step (by rw [hops, List.getElem?_toArray]; rfl) (by first | rfl | (rw [hops]; rfl)) ?_
                        intro K hK
                        go_wp2_with fail
                        refine ⟨fun h => absurd h (by decide), ?_⟩
                        rw [wpT_nil]
                        clear hops ops
                        go_wp2_with fail
                        go_ret
                        exact ⟨rfl, HXR.out.trans (HX5.out.trans HXK.out.drew)⟩
                    · have HEQ := hid (Nt.same_iff.1 hs2)
                      clear hs1 hs2
                      refine wp_region_T (fun v => ((v.cell? ⟨bl, ol + k * 4, none⟩ = some (uv c.value) ∧ v.cell? ⟨bl, ol + k * 4 + 1, none⟩ = some (uv c.owner) ∧ v.cell? ⟨bl, ol + k * 4 + 2, none⟩ = some (uv c.rho) ∧ v.cell? ⟨bl, ol + k * 4 + 3, none⟩ = some (uv c.blind)) ∧ (v.cell? ⟨bm, om + k * 4, none⟩ = some (uv d.value) ∧ v.cell? ⟨bm, om + k * 4 + 1, none⟩ = some (uv d.owner) ∧ v.cell? ⟨bm, om + k * 4 + 2, none⟩ = some (uv d.rho) ∧ v.cell? ⟨bm, om + k * 4 + 3, none⟩ = some (uv d.blind)) ∧ (v.cell? ⟨bl, ol + i * 4, none⟩ = some (uv a.value) ∧ v.cell? ⟨bl, ol + i * 4 + 1, none⟩ = some (uv a.owner) ∧ v.cell? ⟨bl, ol + i * 4 + 2, none⟩ = some (uv a.rho) ∧ v.cell? ⟨bl, ol + i * 4 + 3, none⟩ = some (uv a.blind)) ∧ (v.cell? ⟨bm, om + i * 4, none⟩ = some (uv b.value) ∧ v.cell? ⟨bm, om + i * 4 + 1, none⟩ = some (uv b.owner) ∧ v.cell? ⟨bm, om + i * 4 + 2, none⟩ = some (uv b.rho) ∧ v.cell? ⟨bm, om + i * 4 + 3, none⟩ = some (uv b.blind))) ∧ Ext w5 v) 44 [(0, true), (1, true), (2, true), (3, true), (4, true), (5, true), (6, true), (7, true), (8, true), (9, true), (10, true), (11, true), (12, true), (13, true), (14, true), (15, true), (16, true), (17, true), (18, true), (19, true), (20, true), (21, true), (22, true), (23, true), (24, true), (25, true), (26, true), (27, true), (28, true), (29, true), (30, true), (31, true), (32, true), (33, true), (34, true), (35, true), (36, true), (37, true), (38, true), (39, true), (40, true), (41, true), (42, true), (43, true), (44, false), (45, false)] (by kernel_rfl) (by kernel_rfl) (by intro c a d v w h; cases d <;> exact h) ?_
                      intro ops hops
                      have HS : _ ∧ Ext w5 wr.drew := ⟨H16.out _ HXK.out.drew, HXK.out.drew⟩
                      iterate 8
                        refine wpT_take (v := ?_) (by rw [hops, List.getElem?_toArray]; rfl) (by first | rfl | (rw [hops]; rfl)) ?_ HS ?_
                        rotate_left
                        · intro v h; go_simp; with_reducible rfl
                        simp only [Act.put, List.getElem_toArray, List.getElem_cons_zero, List.getElem_cons_succ, List.setIfInBounds_toArray, List.set_cons_zero, List.set_cons_succ]
                      refine wpT_take (v := .bool false) (by rw [hops, List.getElem?_toArray]; rfl) (by first | rfl | (rw [hops]; rfl)) ?_ HS ?_
                      · intro v h; go_simp; exact nsame_no HS1.out
                      simp only [Act.put, List.getElem_toArray, List.getElem_cons_zero, List.getElem_cons_succ, List.setIfInBounds_toArray, List.set_cons_zero, List.set_cons_succ]
                      iterate 9
                        refine wpT_take (v := ?_) (by rw [hops, List.getElem?_toArray]; rfl) (by first | rfl | (rw [hops]; rfl)) ?_ HS ?_
                        rotate_left
                        · intro v h; go_simp; with_reducible rfl
                        simp only [Act.put, List.getElem_toArray, List.getElem_cons_zero, List.getElem_cons_succ, List.setIfInBounds_toArray, List.set_cons_zero, List.set_cons_succ]
                      refine wpT_take (v := .bool true) (by rw [hops, List.getElem?_toArray]; rfl) (by first | rfl | (rw [hops]; rfl)) ?_ HS ?_
                      · intro v h; go_simp; (rw [HEQ.out]; simp)
                      simp only [Act.put, List.getElem_toArray, List.getElem_cons_zero, List.getElem_cons_succ, List.setIfInBounds_toArray, List.set_cons_zero, List.set_cons_succ]
                      iterate 25
                        first
                          | (refine wpT_take (v := ?_) (by rw [hops, List.getElem?_toArray]; rfl) (by first | rfl | (rw [hops]; rfl)) ?_ HS ?_
                             rotate_left
                             · intro v h; go_simp; with_reducible rfl
                             simp only [Act.put, List.getElem_toArray, List.getElem_cons_zero, List.getElem_cons_succ, List.setIfInBounds_toArray, List.set_cons_zero, List.set_cons_succ])
                          | (refine wpT_pass (by rw [hops, List.getElem?_toArray]; rfl) (by first | rfl | (rw [hops]; rfl)) HS ?_
                             simp only [Act.put, List.getElem_toArray, List.getElem_cons_zero, List.getElem_cons_succ, List.setIfInBounds_toArray, List.set_cons_zero, List.set_cons_succ])
                      refine wpT_none (by rw [hops, List.getElem?_toArray]; rfl) (by first | rfl | (rw [hops]; rfl)) ⟨fun h => absurd h (by decide), ?_⟩
                      simp only [Act.put, List.getElem_toArray, List.getElem_cons_zero, List.getElem_cons_succ, List.setIfInBounds_toArray, List.set_cons_zero, List.set_cons_succ]
                      refine wpT_step (by rw [hops, List.getElem?_toArray]; rfl) (by first | rfl | (rw [hops]; rfl)) ?_
                      intro K hK
                      go_wp2_with fail
                      refine ⟨fun h => absurd h (by decide), ?_⟩
                      rw [wpT_nil]
                      clear hops ops
                      go_wp2_with fail
                      go_ret
                      exact ⟨rfl, HXR.out.trans (HX5.out.trans HXK.out.drew)⟩
                  · have HEQ := hid (Nt.same_iff.1 hs1)
                    clear hs1
                    refine wp_region_T (fun v => ((v.cell? ⟨bl, ol + k * 4, none⟩ = some (uv c.value) ∧ v.cell? ⟨bl, ol + k * 4 + 1, none⟩ = some (uv c.owner) ∧ v.cell? ⟨bl, ol + k * 4 + 2, none⟩ = some (uv c.rho) ∧ v.cell? ⟨bl, ol + k * 4 + 3, none⟩ = some (uv c.blind)) ∧ (v.cell? ⟨bm, om + k * 4, none⟩ = some (uv d.value) ∧ v.cell? ⟨bm, om + k * 4 + 1, none⟩ = some (uv d.owner) ∧ v.cell? ⟨bm, om + k * 4 + 2, none⟩ = some (uv d.rho) ∧ v.cell? ⟨bm, om + k * 4 + 3, none⟩ = some (uv d.blind)) ∧ (v.cell? ⟨bl, ol + i * 4, none⟩ = some (uv a.value) ∧ v.cell? ⟨bl, ol + i * 4 + 1, none⟩ = some (uv a.owner) ∧ v.cell? ⟨bl, ol + i * 4 + 2, none⟩ = some (uv a.rho) ∧ v.cell? ⟨bl, ol + i * 4 + 3, none⟩ = some (uv a.blind)) ∧ (v.cell? ⟨bm, om + i * 4, none⟩ = some (uv b.value) ∧ v.cell? ⟨bm, om + i * 4 + 1, none⟩ = some (uv b.owner) ∧ v.cell? ⟨bm, om + i * 4 + 2, none⟩ = some (uv b.rho) ∧ v.cell? ⟨bm, om + i * 4 + 3, none⟩ = some (uv b.blind))) ∧ Ext w5 v) 44 [(0, true), (1, true), (2, true), (3, true), (4, true), (5, true), (6, true), (7, true), (8, true), (9, true), (10, true), (11, true), (12, true), (13, true), (14, true), (15, true), (16, true), (17, true), (18, true), (19, true), (20, true), (21, true), (22, true), (23, true), (24, true), (25, true), (26, true), (27, true), (28, true), (29, true), (30, true), (31, true), (32, true), (33, true), (34, true), (35, true), (36, true), (37, true), (38, true), (39, true), (40, true), (41, true), (42, true), (43, true), (44, false), (45, false)] (by kernel_rfl) (by kernel_rfl) (by intro c a d v w h; cases d <;> exact h) ?_
                    intro ops hops
                    have HS : _ ∧ Ext w5 wr.drew := ⟨H16.out _ HXK.out.drew, HXK.out.drew⟩
                    iterate 8
                      refine wpT_take (v := ?_) (by rw [hops, List.getElem?_toArray]; rfl) (by first | rfl | (rw [hops]; rfl)) ?_ HS ?_
                      rotate_left
                      · intro v h; go_simp; with_reducible rfl
                      simp only [Act.put, List.getElem_toArray, List.getElem_cons_zero, List.getElem_cons_succ, List.setIfInBounds_toArray, List.set_cons_zero, List.set_cons_succ]
                    refine wpT_take (v := .bool true) (by rw [hops, List.getElem?_toArray]; rfl) (by first | rfl | (rw [hops]; rfl)) ?_ HS ?_
                    · intro v h; go_simp; (rw [HEQ.out]; simp)
                    simp only [Act.put, List.getElem_toArray, List.getElem_cons_zero, List.getElem_cons_succ, List.setIfInBounds_toArray, List.set_cons_zero, List.set_cons_succ]
                    iterate 35
                      first
                        | (refine wpT_take (v := ?_) (by rw [hops, List.getElem?_toArray]; rfl) (by first | rfl | (rw [hops]; rfl)) ?_ HS ?_
                           rotate_left
                           · intro v h; go_simp; with_reducible rfl
                           simp only [Act.put, List.getElem_toArray, List.getElem_cons_zero, List.getElem_cons_succ, List.setIfInBounds_toArray, List.set_cons_zero, List.set_cons_succ])
                        | (refine wpT_pass (by rw [hops, List.getElem?_toArray]; rfl) (by first | rfl | (rw [hops]; rfl)) HS ?_
                           simp only [Act.put, List.getElem_toArray, List.getElem_cons_zero, List.getElem_cons_succ, List.setIfInBounds_toArray, List.set_cons_zero, List.set_cons_succ])
                    refine wpT_none (by rw [hops, List.getElem?_toArray]; rfl) (by first | rfl | (rw [hops]; rfl)) ⟨fun h => absurd h (by decide), ?_⟩
                    simp only [Act.put, List.getElem_toArray, List.getElem_cons_zero, List.getElem_cons_succ, List.setIfInBounds_toArray, List.set_cons_zero, List.set_cons_succ]
                    refine wpT_step (by rw [hops, List.getElem?_toArray]; rfl) (by first | rfl | (rw [hops]; rfl)) ?_
                    intro K hK
                    go_wp2_with fail
                    refine ⟨fun h => absurd h (by decide), ?_⟩
                    rw [wpT_nil]
                    clear hops ops
                    go_wp2_with fail
                    go_ret
                    exact ⟨rfl, HXR.out.trans (HX5.out.trans HXK.out.drew)⟩
                · have hki : k = i := by omega
                  have hlkB : decide ((k : Int) < (i : Int)) = false := by simp; omega
                  subst hki
                  have hds : ∀ c ∈ l.take k, c ≠ a ∧ c.rho ≠ a.rho := fun c hc => by
                    obtain ⟨j, hj⟩ := List.getElem?_of_mem hc
                    rw [List.getElem?_take] at hj
                    split at hj
                    · exact (HD.out j (by assumption)).1 c hj
                    · cases hj
                  have hdm : ∀ c ∈ m.take k, c ≠ b ∧ c.rho ≠ b.rho := fun c hc => by
                    obtain ⟨j, hj⟩ := List.getElem?_of_mem hc
                    rw [List.getElem?_take] at hj
                    split at hj
                    · exact (HD.out j (by assumption)).2 c hj
                    · cases hj
                  obtain ⟨Mo1, Mo2, ho1, ho2, ho3, ho4, ho5, ho6⟩ := HPO.out.step hoka (by decide) hds
                  obtain ⟨Mq1, Mq2, hq1, hq2, hq3, hq4, hq5, hq6⟩ := HPQ.out.step hokb (by decide) hdm
                  have hlt1 := (List.length_take_le k l)
                  have hlt2 := (List.length_take_le k m)
                  have hpo := HPO.out.length
                  have hpq := HPQ.out.length
                  have hdo := HPO.out.draws
                  have hdq := HPQ.out.draws
                  rw [← HST.out] at hq1 hq2 hq3
                  have HCO1 : Hid (∀ v F, OrcAt v bo Mo F → Calls Try.prog 25 #[.pointer (some ⟨bo, 0, none⟩), .agg #[uv a.value, uv a.owner, uv a.rho, uv a.blind]] v fun e v' => e = .returned (uv (drawOf Mo.state)) ∧ ∃ F', OrcTo v bo F Mo1 v' F') := hid fun v F h => by
                    have := Commit_any (n := a) h (by omega) (by omega)
                    unfold CommitO at this
                    rw [ho1] at this
                    exact this
                  have HCQ1 : Hid (∀ v F, OrcAt v bq Mq F → Calls Try.prog 25 #[.pointer (some ⟨bq, 0, none⟩), .agg #[uv b.value, uv b.owner, uv b.rho, uv b.blind]] v fun e v' => e = .returned (uv (drawOf Mo.state)) ∧ ∃ F', OrcTo v bq F Mq1 v' F') := hid fun v F h => by
                    have := Commit_any (n := b) h (by omega) (by omega)
                    unfold CommitO at this
                    rw [hq1] at this
                    exact this
                  have HCO2 : Hid (∀ v F, OrcAt v bo Mo1 F → Calls Try.prog 26 #[.pointer (some ⟨bo, 0, none⟩), .int .u64 5, uv a.rho] v fun e v' => e = .returned (uv (drawOf (nextState Mo.state))) ∧ ∃ F', OrcTo v bo F Mo2 v' F') := hid fun v F h => by
                    have := Mark_any (k := 5) (r := a.rho) h (by omega) (by omega)
                    unfold MarkO at this
                    rw [ho2] at this
                    exact this
                  have HCQ2 : Hid (∀ v F, OrcAt v bq Mq1 F → Calls Try.prog 26 #[.pointer (some ⟨bq, 0, none⟩), .int .u64 6, uv b.rho] v fun e v' => e = .returned (uv (drawOf (nextState Mo.state))) ∧ ∃ F', OrcTo v bq F Mq2 v' F') := hid fun v F h => by
                    have := Mark_any (k := 6) (r := b.rho) h (by omega) (by omega)
                    unfold MarkO at this
                    rw [hq2] at this
                    exact this
                  have hPo' : HidP 5 Mo2 (l.take (k + 1)) := by rw [List.take_add_one, HA.out]; exact ho6
                  have hPq' : HidP 6 Mq2 (m.take (k + 1)) := by rw [List.take_add_one, HB.out]; exact hq6
                  have HPO2 := hid hPo'
                  have HPQ2 := hid hPq'
                  have HST2 : Hid (Mo2.state = Mq2.state) := hid (ho3.trans hq3.symm)
                  generalize drawOf Mo.state = x1 at *
                  generalize drawOf (nextState Mo.state) = x2 at *
                  clear hds hdm ho1 ho2 ho3 ho4 ho5 ho6 hq1 hq2 hq3 hq4 hq5 hq6 hlt1 hlt2 hpo hpq hdo hdq hPo' hPq'
                  have hxx1 : ((x1.toNat : Int) != (x1.toNat : Int)) = false := by simp
                  have hxx2 : ((x2.toNat : Int) != (x2.toNat : Int)) = false := by simp
                  have T0 : Hid (Two w wr.drew bo bq Mo Mq Fo' Fq') := hid (Two.ext ⟨HAO.out, HAQ.out, HDIS.out, HNEW.out, HXR.out⟩ (HX5.out.trans HXK.out).drew)
                  go_wp2_with fail
                  refine wp_region_T (fun v => ((v.cell? ⟨bl, ol + k * 4, none⟩ = some (uv a.value) ∧ v.cell? ⟨bl, ol + k * 4 + 1, none⟩ = some (uv a.owner) ∧ v.cell? ⟨bl, ol + k * 4 + 2, none⟩ = some (uv a.rho) ∧ v.cell? ⟨bl, ol + k * 4 + 3, none⟩ = some (uv a.blind)) ∧ (v.cell? ⟨bm, om + k * 4, none⟩ = some (uv b.value) ∧ v.cell? ⟨bm, om + k * 4 + 1, none⟩ = some (uv b.owner) ∧ v.cell? ⟨bm, om + k * 4 + 2, none⟩ = some (uv b.rho) ∧ v.cell? ⟨bm, om + k * 4 + 3, none⟩ = some (uv b.blind))) ∧ Ext w v) 27 [(0, true), (1, true), (2, true), (3, true), (4, true), (6, true), (7, true), (8, true), (9, true), (10, true), (5, false), (11, false), (12, true), (13, true), (14, true), (15, true), (16, true), (17, true), (18, true), (19, true), (21, true), (22, true), (23, true), (24, true), (25, true), (26, true), (20, false), (27, false), (28, false), (29, false)] (by kernel_rfl) (by kernel_rfl) (by intro c a d v w h; cases d <;> exact h) ?_
                  intro ops hops
                  have HS : _ ∧ Ext w wr.drew := ⟨HH8.out _ T0.out.ex, T0.out.ex⟩
                  iterate 10
                    refine wpT_take (v := ?_) (by rw [hops, List.getElem?_toArray]; rfl) (by first | rfl | (rw [hops]; rfl)) ?_ HS ?_
                    rotate_left
                    · intro v h; go_simp; with_reducible rfl
                    simp only [Act.put, List.getElem_toArray, List.getElem_cons_zero, List.getElem_cons_succ, List.setIfInBounds_toArray, List.set_cons_zero, List.set_cons_succ]
                  refine wpT_step (by rw [hops, List.getElem?_toArray]; rfl) (by first | rfl | (rw [hops]; rfl)) ?_
                  intro K hK
                  go_wp2_with fail
                  refine (HCO1.out _ _ T0.out.o).mono ?_
                  rintro e v1 ⟨rfl, F1, t1⟩
                  have T1 := hid (T0.out.left t1)
                  have HS1 := And.intro (HH8.out _ T1.out.ex) T1.out.ex
                  clear t1 HS
                  refine hK _ _ ⟨fun _ => HS1, ?_⟩
                  clear hK K
                  refine wpT_step (by rw [hops, List.getElem?_toArray]; rfl) (by first | rfl | (rw [hops]; rfl)) ?_
                  intro K hK
                  go_wp2_with fail
                  refine (HCQ1.out _ _ T1.out.q).mono ?_
                  rintro e v2 ⟨rfl, F2, t2⟩
                  have T2 := hid (T1.out.right t2)
                  have HS2 := And.intro (HH8.out _ T2.out.ex) T2.out.ex
                  clear t2 HS1
                  refine hK _ _ ⟨fun _ => HS2, ?_⟩
                  clear hK K
                  iterate 14
                    refine wpT_take (v := ?_) (by rw [hops, List.getElem?_toArray]; rfl) (by first | rfl | (rw [hops]; rfl)) ?_ HS2 ?_
                    rotate_left
                    · intro v h; go_simp; with_reducible rfl
                    simp only [Act.put, List.getElem_toArray, List.getElem_cons_zero, List.getElem_cons_succ, List.setIfInBounds_toArray, List.set_cons_zero, List.set_cons_succ]
                  refine wpT_step (by rw [hops, List.getElem?_toArray]; rfl) (by first | rfl | (rw [hops]; rfl)) ?_
                  intro K hK
                  go_wp2_with fail
                  refine (HCO2.out _ _ T2.out.o).mono ?_
                  rintro e v3 ⟨rfl, F3, t3⟩
                  have T3 := hid (T2.out.left t3)
                  have HS3 := And.intro (HH8.out _ T3.out.ex) T3.out.ex
                  clear t3 HS2
                  refine hK _ _ ⟨fun _ => HS3, ?_⟩
                  clear hK K
                  refine wpT_step (by rw [hops, List.getElem?_toArray]; rfl) (by first | rfl | (rw [hops]; rfl)) ?_
                  intro K hK
                  go_wp2_with fail
                  refine (HCQ2.out _ _ T3.out.q).mono ?_
                  rintro e v4 ⟨rfl, F4, t4⟩
                  have T4 := hid (T3.out.right t4)
                  clear t4 HS3
                  refine hK _ _ ⟨fun h => absurd h (by decide), ?_⟩
                  clear hK K
                  refine wpT_step (by rw [hops, List.getElem?_toArray]; rfl) (by first | rfl | (rw [hops]; rfl)) ?_
                  intro K hK
                  go_wp2_with fail
                  refine ⟨fun h => absurd h (by decide), ?_⟩
                  refine wpT_step (by rw [hops, List.getElem?_toArray]; rfl) (by first | rfl | (rw [hops]; rfl)) ?_
                  intro K hK
                  go_wp2_with fail
                  refine ⟨fun h => absurd h (by decide), ?_⟩
                  rw [wpT_nil]
                  clear hops ops
                  go_wp2_with fail
                  go_roundw
                  case rel => exact ⟨k + 1, by omega, by go_num, hid ⟨_, _, _, _, T4.out.o, T4.out.q, T4.out.dis, T4.out.new, T4.out.ex, HPO2.out, HPQ2.out, HST2.out⟩⟩
                  case measure => simp [intOf]; omega
        · have hin : i = nl := by omega
          have hltB : decide ((i : Int) < (nl : Int)) = false := by simp; omega
          obtain ⟨_, _, _, _, _, _, _, _, hx, _⟩ := HJ.out
          go_wp2_with fail
          go_ret
          exact ⟨rfl, hx⟩
    · have h12B : decide ((12 : Int) < (nl : Int)) = true := by simp; omega
      go_enter Try.func5, Try.ntmps5
      go_wp2_with fail
      refine (awake34_any _).mono ?_
      rintro e w1 ⟨rfl, hx1⟩
      have HX1 := hid hx1
      clear hx1
      go_wp2_with fail
      go_ret
      exact ⟨rfl, HX1.out⟩
  · have hB : ((nl : Int) != (nm : Int)) = true := by simp; omega
    go_enter Try.func5, Try.ntmps5
    go_wp2_with fail
    refine (awake34_any _).mono ?_
    rintro e w1 ⟨rfl, hx1⟩
    have HX1 := hid hx1
    clear hx1
    go_wp2_with fail
    go_ret
    exact ⟨rfl, HX1.out⟩
end Go.Proofs.Ytdkilbnocmnekaa
