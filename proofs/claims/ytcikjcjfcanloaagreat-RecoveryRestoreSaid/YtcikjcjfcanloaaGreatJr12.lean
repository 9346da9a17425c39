/- Texts of this claim, joined: Wal7, Wal8, UndoLaw, StLaw. -/
import Derived.Test.YtcikjcjfcanloaaGreatJr10
import Derived.Test.YtcikjcjfcanloaaGreatJr11
set_option linter.unusedSimpArgs false
namespace Go.Proofs.YtcikjcjfcanloaaGreat
open Go.RowKit
attribute [local irreducible] perm fAdd fMul fPow fSub fNeg fRed hashU drawOf nextState
theorem Tryz.infoOw : (Tryz.prog.info? 39).map (fun i => (i.zero, i.size, i.bytes)) = some (some (.agg #[.int .u64 0, .int .u64 0, .int .u64 0, .int .u64 0, .int .i64 0, .int .i64 0, .int .i64 0, .int .i64 0]), 8, 64) := by kernel_rfl
theorem rows_block {w : World} {g : Nat} {cs : Array Value} {T : TypeId} (h : w.heap[g]? = some (.cells cs T (0, 0))) : RdC' w (.slice (some ⟨g, 0, none⟩) 1 1) 1 cs.toList := by
  refine RdC.weak ⟨_, 1, rfl, Nat.le_refl _, by unfold maxLen; omega, (fun h => by cases h), fun ad ha => ?_⟩
  obtain rfl := Option.some.inj ha
  refine ⟨rfl, fun j u hu => ?_⟩
  rw [cell_of h]
  simpa using hu
theorem findTo_some {seed : UInt64} {o : OutT} {rho : UInt64} {a : Nat} {r : Nt × Nat} (h : findTo seed o rho a = some r) : ∀ k, findTo seed o rho (a + k) = some r
  | 0 => h
  | k + 1 => by
    show findTo seed o rho (a + k + 1) = some r
    unfold findTo
    rw [findTo_some h k]
theorem findW_found {seed : UInt64} {o : OutT} {rho : UInt64} {a : Nat} (ha : a < 4) (h0 : findTo seed o rho a = none) (h : (tryW seed a o rho).2 = true) : findW seed o rho = some ((tryW seed a o rho).1, a) := by
  have h1 : findTo seed o rho (a + 1) = some ((tryW seed a o rho).1, a) := by
    unfold findTo
    rw [h0, if_pos h]
  have := findTo_some h1 (3 - a)
  rwa [show a + 1 + (3 - a) = 4 by omega] at this
theorem findTo_none {seed : UInt64} {o : OutT} {rho : UInt64} {a : Nat} (h0 : findTo seed o rho a = none) (h : (tryW seed a o rho).2 = false) : findTo seed o rho (a + 1) = none := by
  unfold findTo
  rw [h0, h]
  rfl
theorem recvTo_succ {seed : UInt64} {h : Nat} {t : TxT} {S : StW} {i : Nat} {o : OutT} (ho : t.outs[i]? = some o) : recvTo seed h t S (i + 1) = recv1 seed h t (recvTo seed h t S i) i o := by
  show (match t.outs[i]? with | some o => recv1 seed h t (recvTo seed h t S i) i o | none => recvTo seed h t S i) = _
  rw [ho]
theorem recvTo_notes (seed : UInt64) (h : Nat) (t : TxT) (S : StW) : ∀ i, (recvTo seed h t S i).notes.length ≤ S.notes.length + i
  | 0 => Nat.le_refl _
  | i + 1 => by
    have ih := recvTo_notes seed h t S i
    unfold recvTo
    cases ho : t.outs[i]? with
    | none => simp only; omega
    | some o =>
      simp only [recv1, List.length_append]
      have : (gotW h (recvTo seed h t S i).leaves.length (findW seed o (rhoT t i))).length ≤ 1 := by
        cases findW seed o (rhoT t i) with
        | none => simp [gotW]
        | some r => obtain ⟨n, a⟩ := r; simp [gotW]
      omega
theorem originT_lt {t : TxT} (hv : txV t = 0) : originT t < big := by
  unfold originT
  rw [if_pos hv]
  have hk : txOk t = true := by
    unfold txV at hv
    split at hv
    · assumption
    · cases hv
  unfold txOk at hk
  simp only [Bool.and_eq_true, decide_eq_true_eq] at hk
  obtain ⟨⟨⟨⟨⟨⟨⟨⟨h1, h2⟩, h3⟩, h4⟩, h5⟩, h6⟩, h12⟩, h13⟩, h14⟩ := hk
  cases hm : t.marks with
  | nil => exact hashU_ltW _ _
  | cons x r =>
    rw [hm] at h2
    unfold allE at h2
    have := List.all_eq_true.1 h2 x (by simp)
    simpa using this
theorem out_valid {t : TxT} (hv : txV t = 0) {o : OutT} (ho : o ∈ t.outs) : o.commit < big ∧ o.cipher.length = 3 := by
  have hp := txV_parts hv
  have := List.all_eq_true.1 hp.oo o ho
  unfold outOk at this
  simp only [Bool.and_eq_true, decide_eq_true_eq] at this
  exact ⟨this.1.1.1, this.1.2⟩
def RcTo (w : World) (W d : Nat) (r : Rl) (seed : UInt64) (S' : StW) (ps : List (ScT × Value)) (ob LB : Nat) (nv pv : Value) (FO FT : Nat → Prop) (SB s0 n0 : Nat) (sv : Value) (w' : World) : Prop :=
  ∃ nv' FT', ApS w' W d r seed S' ps ob LB nv' pv FO FT' SB s0 n0 sv ∧ Kp (AF W FT nv pv SB sv) w w' ∧ ∀ j, AF W FT' nv' pv SB sv j → AF W FT nv pv SB sv j ∨ w.heap.size ≤ j
theorem RcTo.next {w u : World} {W d : Nat} {r : Rl} {seed : UInt64} {S' : StW} {ps : List (ScT × Value)} {ob LB : Nat} {nv nv1 pv : Value} {FO FT FT1 : Nat → Prop} {SB s0 n0 : Nat} {sv : Value} {w' : World} (k : Kp (AF W FT nv pv SB sv) w u) (hs : ∀ j, AF W FT1 nv1 pv SB sv j → AF W FT nv pv SB sv j ∨ w.heap.size ≤ j)
    (h : RcTo u W d r seed S' ps ob LB nv1 pv FO FT1 SB s0 n0 sv w') : RcTo w W d r seed S' ps ob LB nv pv FO FT SB s0 n0 sv w' := by
  obtain ⟨nv', FT', h1, h2, h3⟩ := h
  refine ⟨nv', FT', h1, Kp.chain k hs h2, fun j hj => ?_⟩
  rcases h3 j hj with e | e
  · exact hs j e
  · have := k.size; exact .inr (by omega)
/-- Every cell of a is one of b. -/
def Sub (a b : World) : Prop := ∀ (p : Addr) (v : Value), a.cell? p = some v → b.cell? p = some v
theorem Sub.of_ext {a b : World} (h : Ext a b) : Sub a b := fun p v hp => by
  have hb : p.block < a.heap.size := by
    rcases Nat.lt_or_ge p.block a.heap.size with hl | hl
    · exact hl
    · simp [World.cell?, Array.getElem?_eq_none hl] at hp
  rw [World.cell?_of_block (w := a) (h.block p.block hb)]
  exact hp
theorem RdC'.sub {w w' : World} {v : Value} {n : Nat} {cells : List Value} (h : RdC' w v n cells) (k : Sub w w') : RdC' w' v n cells := by
  obtain ⟨a, c, rfl, h2, h3, h4, h5⟩ := h
  exact ⟨a, c, rfl, h2, h3, h4, fun ad ha j u hu => k _ _ (h5 ad ha j u hu)⟩
theorem RdOs.sub {w w' : World} {v : Value} {l : List OutT} (h : RdOs w v l) (k : Sub w w') : RdOs w' v l := by
  obtain ⟨X, h1, h2, h3⟩ := h
  exact ⟨X, h1, h2.sub k, fun x hx => (h3 x hx).sub k⟩
theorem RdT.sub {w w' : World} {t : TxT} {mv ov pv : Value} (h : RdT w t mv ov pv) (k : Sub w w') : RdT w' t mv ov pv := ⟨h.m.sub k, h.o.sub k, h.p.sub k⟩
theorem RdTs.sub {w w' : World} {v : Value} {l : List TxT} (h : RdTs w v l) (k : Sub w w') : RdTs w' v l := by
  obtain ⟨X, h1, h2, h3⟩ := h
  exact ⟨X, h1, h2.sub k, fun x hx => (h3 x hx).sub k⟩
theorem nv_agg (n : Nt) : nv n = .agg #[uv n.value, uv n.owner, uv n.rho, uv n.blind] := rfl
set_option maxRecDepth 100000 in
set_option maxHeartbeats 25600000 in
theorem walReceive_any {w : World} {W d : Nat} {r : Rl} {seed : UInt64} {S : StW} {ps : List (ScT × Value)} {ob LB : Nat} {nv pv : Value} {FO FT : Nat → Prop} {SB s0 n0 : Nat} {sv : Value} (h : ApS w W d r seed S ps ob LB nv pv FO FT SB s0 n0 sv)
    (hn : S.notes.length ≤ 10000) (t : TxT) (mv ov pfv : Value) {wB : World} (hB : ∀ u, Kp (AF W FT nv pv SB sv) w u → Sub wB u) (hm : RdT wB t mv ov pfv) (hs : TSm t) (hv : txV t = 0) (hL : S.leaves.length + t.outs.length ≤ 2 ^ d) (ht : Nat) :
    Calls Tryz.prog 90 #[.pointer (some ⟨W, 0, none⟩), txVal t mv ov pfv, .int .i64 (ht : Int)] w fun e w' => e = .returned (.tuple #[]) ∧ RcTo w W d r seed (recvW seed ht t S) ps ob LB nv pv FO FT SB s0 n0 sv w' := by
  obtain ⟨ma, mc, oa, oc, pa, pc, rfl, rfl, rfl⟩ := hm.shape
  obtain ⟨N, hN⟩ : ∃ N, N = w.heap.size := ⟨_, rfl⟩
  obtain ⟨w0, hw0⟩ : ∃ w0, w0 = w.alloc (.cells #[uv t.anchor, .slice ma t.marks.length mc, .slice oa t.outs.length oc, uv t.deposit, uv t.withdraw, uv t.fee, uv t.account, uv t.nonce, .int .i64 t.expiry, .slice pa t.proof.length pc] 101) := ⟨_, rfl⟩
  have hx0 : Ext w w0 := by rw [hw0]; exact (Ext.refl w).alloc _
  have hb0 : w0.heap[N]? = some (.cells #[uv t.anchor, .slice ma t.marks.length mc, .slice oa t.outs.length oc, uv t.deposit, uv t.withdraw, uv t.fee, uv t.account, uv t.nonce, .int .i64 t.expiry, .slice pa t.proof.length pc] 101 (0, 0)) := by rw [hw0, hN]; exact heap_new _ _
  have HM := hid hm
  have HEX : Hid (∀ u, Kp (AF W FT nv pv SB sv) w u → Sub wB u) := hid hB
  have H0 := hid (h.ext hx0)
  have HX0 := hid hx0
  have HB0 := hid hb0
  have HW := hid hw0
  have HS := hid hs
  have HV := hid hv
  have HL := hid hL
  have HNN := hid hn
  have HOR := hid (originT_lt hv)
  have hoI : (t.outs.length : Int) ≤ 1000 := by have := hs.o; omega
  have ORG : Hid (∀ v, Ext w v → Calls Tryz.prog 118 #[txVal t (.slice ma t.marks.length mc) (.slice oa t.outs.length oc) (.slice pa t.proof.length pc)] v fun e w' => e = .returned (uv (originT t)) ∧ Ext v w') := hid fun v k => txOrigin_any t _ _ _ v (hm.sub (hB v (.of_ext k))) hs
  obtain ⟨org, horg⟩ : ∃ org, org = originT t := ⟨_, rfl⟩
  rw [← horg] at ORG
  have HORG := hid horg
  clear horg hm hB h hw0 hx0 hb0 hs hv hL hn
  go_enter Tryz.func90, Tryz.ntmps90
  go_upto_region 1 with fail
  rw [← HW.out, ← hN]
  clear hN HW
  obtain ⟨c0, c1, c2, c3, c4, c5, c6, c7, c8, c9⟩ := ten_cells HB0.out
  go_wp2_with fail
  refine (ORG.out _ HX0.out).mono ?_
  rintro e w1 ⟨rfl, hx⟩
  have X1 := hid (HX0.out.trans hx)
  have H1 := hid (H0.out.ext hx)
  clear c0 c1 c2 c3 c4 c5 c6 c7 c8 c9
  obtain ⟨c0, c1, c2, c3, c4, c5, c6, c7, c8, c9⟩ := ten_cells (hx.heap_some HB0.out)
  clear hx ORG H0
  go_wp2_with fail
  clear c0 c1 c2 c3 c4 c5 c6 c7 c8 c9
  go_loopw [19] (fun iv wr => ∃ (i : Nat) (nv' : Value) (FT' : Nat → Prop), i ≤ t.outs.length ∧ iv = .int .i64 i ∧ Hid (ApS wr W d r seed (recvTo seed ht t S i) ps ob LB nv' pv FO FT' SB s0 n0 sv ∧ Kp (AF W FT nv pv SB sv) w wr ∧ ∀ j, AF W FT' nv' pv SB sv j → AF W FT nv pv SB sv j ∨ w.heap.size ≤ j)) (fun iv _ => t.outs.length - (intOf iv).toNat)
  case atStart => exact ⟨0, nv, FT, by omega, rfl, hid ⟨H1.out, .of_ext X1.out, fun j hj => .inl hj⟩⟩
  case round =>
    obtain ⟨i, nv', FT', hi, rfl, HI⟩ := hrel
    obtain ⟨na, nc, rfl, -⟩ := ownsRow_rd HI.out.1.wal.notes
    have hi0 : (0 : Int) ≤ (i : Int) := Int.natCast_nonneg _
    by_cases hlt : i < t.outs.length
    · have hltB : decide ((i : Int) < (t.outs.length : Int)) = true := by simp; omega
      have hil : (i : Int) < (t.outs.length : Int) := by omega
      obtain ⟨o, hoi⟩ : ∃ o, t.outs[i]? = some o := ⟨_, List.getElem?_eq_getElem hlt⟩
      have hxB := HEX.out wr HI.out.2.1
      obtain ⟨b, q, ca, cc, rfl, e0, e1, e2, e3, hci⟩ := HM.out.o.at hoi
      replace e0 := hxB _ _ e0
      replace e1 := hxB _ _ e1
      replace e2 := hxB _ _ e2
      replace e3 := hxB _ _ e3
      have HOI := hid hoi
      have HOV := hid (out_valid HV.out (List.mem_of_getElem? hoi))
      have HCI := hid hci
      clear hoi hxB hci
      go_upto_region 5 with fail
      obtain ⟨Q, hQ⟩ : ∃ Q, Q = wr.heap.size := ⟨_, rfl⟩
      obtain ⟨u1, hu1⟩ : ∃ u1, u1 = wr.alloc (.cells #[uv o.commit, uv o.p.a, uv o.p.b, .slice ca o.cipher.length cc] 103) := ⟨_, rfl⟩
      rw [← hu1, ← hQ]
      have G1 : Hid (Ext wr u1) := hid (by rw [hu1]; exact (Ext.refl _).alloc _)
      have QB : Hid (u1.heap[Q]? = some (.cells #[uv o.commit, uv o.p.a, uv o.p.b, .slice ca o.cipher.length cc] 103 (0, 0))) := hid (by rw [hu1, hQ]; exact heap_new _ _)
      have HQ := hid hQ
      clear hu1 hQ e0 e1 e2 e3
      have A1 := hid (HI.out.1.ext G1.out)
      obtain ⟨b0, b1, b2, b3, b4, b5, b6⟩ := A1.out.wal.cells
      have CNT : Hid (∀ v, Ext u1 v → Calls Tryz.prog 88 #[.pointer (some ⟨LB, 0, none⟩)] v fun e w' => e = .returned (.int .i64 ((recvTo seed ht t S i).leaves.length : Int)) ∧ Ext v w') := hid fun v k => treeCount_any (A1.out.wal.tree.ext k) A1.out.wal.dep.2.1
      go_wp2_with fail
      refine (CNT.out _ (Ext.refl u1)).mono ?_
      rintro e u2 ⟨rfl, hx⟩
      have G2 := hid (G1.out.trans hx)
      have A2 := hid (A1.out.ext hx)
      have QB2 := hid (hx.heap_some QB.out)
      clear hx CNT b0 b1 b2 b3 b4 b5 b6 A1 QB G1
      have hlen : (recvTo seed ht t S i).leaves.length < 2 ^ d := by
        rw [recvTo_leaves, List.length_append, List.length_map, List.length_take]
        have := HL.out
        omega
      have APP : Hid (∀ v, Ext u2 v → Calls Tryz.prog 119 #[.pointer (some ⟨LB, 0, none⟩), uv o.commit] v fun e w' => e = .returned (.int .i64 0) ∧ TreeTo v LB d FT' ((recvTo seed ht t S i).leaves ++ [o.commit]) w') := hid fun v k => treeAppend_any (A2.out.wal.tree.ext k) A2.out.wal.dep.2.1 A2.out.wal.dep.2.2 hlen o.commit HOV.out.1
      have HC6 : Hid (∀ v, Ext u2 v → (v.cell? ⟨W, 12, none⟩ = some (.pointer (some ⟨LB, 0, none⟩)) ∧ v.cell? ⟨Q, 0, none⟩ = some (uv o.commit))) := hid fun v k => by
        obtain ⟨-, -, -, -, q1, -⟩ := (A2.out.wal.ext k).cells
        exact ⟨q1, cell_of (k.heap_some QB2.out) 0⟩
      clear hlen
      go_wp2_with fail
      refine wp_region_T (fun v => (v.cell? ⟨W, 12, none⟩ = some (.pointer (some ⟨LB, 0, none⟩)) ∧ v.cell? ⟨Q, 0, none⟩ = some (uv o.commit)) ∧ Ext u2 v) 6 [(0, true), (1, true), (2, true), (3, true), (4, true), (5, true), (6, false)] (by kernel_rfl) (by kernel_rfl) (by intro c a d v w h; cases d <;> exact h) ?_
      intro ops hops
      have HSS := keep0 HC6.out
      iterate 6
        refine wpT_take (v := ?_) (by rw [hops, List.getElem?_toArray]; rfl) (by first | rfl | (rw [hops]; rfl)) ?_ HSS ?_
        rotate_left
        · intro v h; go_simp; with_reducible rfl
        simp only [Act.put, List.getElem_toArray, List.getElem_cons_zero, List.getElem_cons_succ, List.setIfInBounds_toArray, List.set_cons_zero, List.set_cons_succ]
      have G3 := hid (G2.out.trans HSS.2)
      have A3 := hid (A2.out.ext HSS.2)
      have QB3 := hid (HSS.2.heap_some QB2.out)
      have X3 := hid HSS.2
      clear HSS
      generalize u2.drew = u3 at *
      refine wpT_step (by rw [hops, List.getElem?_toArray]; rfl) (by first | rfl | (rw [hops]; rfl)) ?_
      intro K hK
      go_wp2_with fail
      refine (APP.out _ X3.out).mono ?_
      rintro e u4 ⟨rfl, hto⟩
      obtain ⟨FT4, hA4, hk4, hs4⟩ := A3.out.leaf hto
      have hQF : ¬ FT' Q := fun e => by
        have := HI.out.1.wal.tl Q e
        have := HQ.out
        omega
      have hkT : Kp FT' u3 u4 := by obtain ⟨F', -, k, -⟩ := hto; exact k
      have QB4 := hid (hkT.heap_some hQF QB3.out)
      have A4 := hid hA4
      have K4 := hid hk4
      have S4 := hid hs4
      clear hto hA4 hk4 hs4 hQF hkT APP HC6 A2 QB2 G2 X3 QB3
      refine hK _ _ ⟨fun h => absurd h (by decide), ?_⟩
      clear hK K
      try (with_reducible refine ⟨fun h => absurd h (by decide), ?_⟩)
      try rw [wpT_nil]
      try clear hops ops
      have SUB5 : Hid (∀ j, AF W FT4 (.slice na (recvTo seed ht t S i).notes.length nc) pv SB sv j → AF W FT nv pv SB sv j ∨ w.heap.size ≤ j) := hid fun j hj => by
        rcases S4.out j hj with e | e
        · exact HI.out.2.2 j e
        · have h1 := HI.out.2.1.size
          have h2 := G3.out.size
          exact .inr (by omega)
      have RHO : Hid (∀ v, Calls Tryz.prog 120 #[uv org, .int .i64 (i : Int)] v fun e w' => e = .returned (uv (rhoT t i)) ∧ Ext v w') := hid fun v => by
        have := noteRho_any org i (by rw [HORG.out]; exact HOR.out) (by have := HS.out.o; omega) v
        rw [HORG.out] at this ⊢
        exact this
      go_wp2_with fail
      refine (RHO.out _).mono ?_
      rintro e u5 ⟨rfl, hx⟩
      have A5 := hid (A4.out.ext hx)
      have K5 := hid (K4.out.ext hx)
      have QB5 := hid (hx.heap_some QB4.out)
      clear hx RHO QB4 A4 K4
      obtain ⟨rho, hrho⟩ : ∃ rho, rho = rhoT t i := ⟨_, rfl⟩
      rw [← hrho]
      have HRHO := hid hrho
      clear hrho
      have CIP : Hid (RdU u5 (.slice ca o.cipher.length cc) o.cipher) := hid (by
        have h1 := HEX.out u5 (Kp.chain HI.out.2.1 HI.out.2.2 ((Kp.of_ext G3.out).trans K5.out))
        refine (RdC'.sub HCI.out h1).rdu fun e => ?_
        have := HOV.out.2
        rw [e] at this
        cases this)
      have KP5 : Hid (Kp (AF W FT nv pv SB sv) w u5) := hid (Kp.chain HI.out.2.1 HI.out.2.2 ((Kp.of_ext G3.out).trans K5.out))
      have TRY : Hid (∀ (a : Nat) v, Ext u5 v → Calls Tryz.prog 121 #[.pointer (some ⟨ob, 0, none⟩), uv seed, .int .i64 (a : Int), .agg #[uv o.commit, uv o.p.a, uv o.p.b, .slice ca o.cipher.length cc], uv rho] v fun e w' => e = .returned (nb (tryW seed a o rho)) ∧ Ext v w') := hid fun a v k =>
        envTry_any (A5.out.wal.orc.now.ext k) (CIP.out.ext k) (by rw [HOV.out.2]; omega) (fun s hs => by cases hs) (Nat.zero_le _)
      have HC11 : Hid (∀ v, Ext u5 v → (v.cell? ⟨W, 0, none⟩ = some (.pointer (some ⟨ob, 0, none⟩)) ∧ v.cell? ⟨W, 10, none⟩ = some (uv seed) ∧ v.cell? ⟨Q, 0, none⟩ = some (uv o.commit) ∧ v.cell? ⟨Q, 1, none⟩ = some (uv o.p.a) ∧ v.cell? ⟨Q, 2, none⟩ = some (uv o.p.b) ∧ v.cell? ⟨Q, 3, none⟩ = some (.slice ca o.cipher.length cc))) := hid fun v k => by
        obtain ⟨q0, -, q1, -⟩ := (A5.out.wal.ext k).cells
        obtain ⟨p0, p1, p2, p3⟩ := four_cellsO (k.heap_some QB5.out)
        exact ⟨q0, q1, p0, p1, p2, p3⟩
      go_wp2_with fail
      go_loopw [39] (fun av wr => ∃ a : Nat, a ≤ 4 ∧ av = .int .i64 a ∧ Hid (findTo seed o rho a = none ∧ Ext u5 wr)) (fun av _ => 4 - (intOf av).toNat)
      case atStart => exact ⟨0, by omega, rfl, hid ⟨rfl, Ext.refl u5⟩⟩
      case round =>
        obtain ⟨a, ha, rfl, HA⟩ := hrel
        have ha0 : (0 : Int) ≤ (a : Int) := Int.natCast_nonneg _
        by_cases ha4 : a < 4
        · have haB : decide ((a : Int) < 4) = true := by simp; omega
          have haI : (a : Int) < 4 := by omega
          have HSV : Hid (∀ v, Ext wr v → (v.cell? ⟨W, 0, none⟩ = some (.pointer (some ⟨ob, 0, none⟩)) ∧ v.cell? ⟨W, 10, none⟩ = some (uv seed) ∧ v.cell? ⟨Q, 0, none⟩ = some (uv o.commit) ∧ v.cell? ⟨Q, 1, none⟩ = some (uv o.p.a) ∧ v.cell? ⟨Q, 2, none⟩ = some (uv o.p.b) ∧ v.cell? ⟨Q, 3, none⟩ = some (.slice ca o.cipher.length cc)) ∧ Ext wr v) := hid fun v k => ⟨HC11.out v (HA.out.2.trans k), k⟩
          obtain ⟨res, hres⟩ : ∃ res, res = tryW seed a o rho := ⟨_, rfl⟩
          have HRES := hid hres
          have TRYA := hid (TRY.out a)
          rw [← hres] at TRYA
          clear hres
          obtain ⟨nt, bt⟩ := res
          unfold nb at TRYA
          rw [nv_agg] at TRYA
          go_wp2_with fail
          refine wp_region_N (fun v => (v.cell? ⟨W, 0, none⟩ = some (.pointer (some ⟨ob, 0, none⟩)) ∧ v.cell? ⟨W, 10, none⟩ = some (uv seed) ∧ v.cell? ⟨Q, 0, none⟩ = some (uv o.commit) ∧ v.cell? ⟨Q, 1, none⟩ = some (uv o.p.a) ∧ v.cell? ⟨Q, 2, none⟩ = some (uv o.p.b) ∧ v.cell? ⟨Q, 3, none⟩ = some (.slice ca o.cipher.length cc)) ∧ Ext wr v) 17 18 (by kernel_rfl) (by kernel_rfl) ?_
          intro ops hops
          have HR := HSV.out _ (Ext.refl wr).drew
          refine N_take (i := 0) (v := ?_) (by rw [hops, List.getElem?_toArray]; rfl) (by rw [hops]; kernel_rfl) (by intro c a d v w h; cases d <;> exact h) (by first | rfl | (rw [hops]; rfl)) ?_ HR ?_
          rotate_left
          · intro v h; go_simp; with_reducible rfl
          simp only [Act.put, List.getElem_toArray, List.getElem_cons_zero, List.getElem_cons_succ, List.setIfInBounds_toArray, List.set_cons_zero, List.set_cons_succ]
          refine N_take (i := 1) (v := ?_) (by rw [hops, List.getElem?_toArray]; rfl) (by rw [hops]; kernel_rfl) (by intro c a d v w h; cases d <;> exact h) (by first | rfl | (rw [hops]; rfl)) ?_ HR ?_
          rotate_left
          · intro v h; go_simp; with_reducible rfl
          simp only [Act.put, List.getElem_toArray, List.getElem_cons_zero, List.getElem_cons_succ, List.setIfInBounds_toArray, List.set_cons_zero, List.set_cons_succ]
          refine N_take (i := 2) (v := ?_) (by rw [hops, List.getElem?_toArray]; rfl) (by rw [hops]; kernel_rfl) (by intro c a d v w h; cases d <;> exact h) (by first | rfl | (rw [hops]; rfl)) ?_ HR ?_
          rotate_left
          · intro v h; go_simp; with_reducible rfl
          simp only [Act.put, List.getElem_toArray, List.getElem_cons_zero, List.getElem_cons_succ, List.setIfInBounds_toArray, List.set_cons_zero, List.set_cons_succ]
          refine N_take (i := 3) (v := ?_) (by rw [hops, List.getElem?_toArray]; rfl) (by rw [hops]; kernel_rfl) (by intro c a d v w h; cases d <;> exact h) (by first | rfl | (rw [hops]; rfl)) ?_ HR ?_
          rotate_left
          · intro v h; go_simp; with_reducible rfl
          simp only [Act.put, List.getElem_toArray, List.getElem_cons_zero, List.getElem_cons_succ, List.setIfInBounds_toArray, List.set_cons_zero, List.set_cons_succ]
          refine N_take (i := 4) (v := ?_) (by rw [hops, List.getElem?_toArray]; rfl) (by rw [hops]; kernel_rfl) (by intro c a d v w h; cases d <;> exact h) (by first | rfl | (rw [hops]; rfl)) ?_ HR ?_
          rotate_left
          · intro v h; go_simp; with_reducible rfl
          simp only [Act.put, List.getElem_toArray, List.getElem_cons_zero, List.getElem_cons_succ, List.setIfInBounds_toArray, List.set_cons_zero, List.set_cons_succ]
          refine N_take (i := 5) (v := ?_) (by rw [hops, List.getElem?_toArray]; rfl) (by rw [hops]; kernel_rfl) (by intro c a d v w h; cases d <;> exact h) (by first | rfl | (rw [hops]; rfl)) ?_ HR ?_
          rotate_left
          · intro v h; go_simp; with_reducible rfl
          simp only [Act.put, List.getElem_toArray, List.getElem_cons_zero, List.getElem_cons_succ, List.setIfInBounds_toArray, List.set_cons_zero, List.set_cons_succ]
          refine N_take (i := 6) (v := ?_) (by rw [hops, List.getElem?_toArray]; rfl) (by rw [hops]; kernel_rfl) (by intro c a d v w h; cases d <;> exact h) (by first | rfl | (rw [hops]; rfl)) ?_ HR ?_
          rotate_left
          · intro v h; go_simp; with_reducible rfl
          simp only [Act.put, List.getElem_toArray, List.getElem_cons_zero, List.getElem_cons_succ, List.setIfInBounds_toArray, List.set_cons_zero, List.set_cons_succ]
          refine N_take (i := 7) (v := ?_) (by rw [hops, List.getElem?_toArray]; rfl) (by rw [hops]; kernel_rfl) (by intro c a d v w h; cases d <;> exact h) (by first | rfl | (rw [hops]; rfl)) ?_ HR ?_
          rotate_left
          · intro v h; go_simp; with_reducible rfl
          simp only [Act.put, List.getElem_toArray, List.getElem_cons_zero, List.getElem_cons_succ, List.setIfInBounds_toArray, List.set_cons_zero, List.set_cons_succ]
          refine N_take (i := 8) (v := ?_) (by rw [hops, List.getElem?_toArray]; rfl) (by rw [hops]; kernel_rfl) (by intro c a d v w h; cases d <;> exact h) (by first | rfl | (rw [hops]; rfl)) ?_ HR ?_
          rotate_left
          · intro v h; go_simp; with_reducible rfl
          simp only [Act.put, List.getElem_toArray, List.getElem_cons_zero, List.getElem_cons_succ, List.setIfInBounds_toArray, List.set_cons_zero, List.set_cons_succ]
          refine N_take (i := 9) (v := ?_) (by rw [hops, List.getElem?_toArray]; rfl) (by rw [hops]; kernel_rfl) (by intro c a d v w h; cases d <;> exact h) (by first | rfl | (rw [hops]; rfl)) ?_ HR ?_
          rotate_left
          · intro v h; go_simp; with_reducible rfl
          simp only [Act.put, List.getElem_toArray, List.getElem_cons_zero, List.getElem_cons_succ, List.setIfInBounds_toArray, List.set_cons_zero, List.set_cons_succ]
          refine N_take (i := 10) (v := ?_) (by rw [hops, List.getElem?_toArray]; rfl) (by rw [hops]; kernel_rfl) (by intro c a d v w h; cases d <;> exact h) (by first | rfl | (rw [hops]; rfl)) ?_ HR ?_
          rotate_left
          · intro v h; go_simp; with_reducible rfl
          simp only [Act.put, List.getElem_toArray, List.getElem_cons_zero, List.getElem_cons_succ, List.setIfInBounds_toArray, List.set_cons_zero, List.set_cons_succ]
          have hal : ∀ Q, Alloc1 Tryz.prog ops Q 15 12 (.cells #[.int .u64 0, .int .u64 0, .int .u64 0, .int .u64 0] 37 (0, 0)) := fun Q => ⟨⟨_, by rw [hops, List.getElem?_toArray]; rfl, fun t => rfl, fun a w K hK => by go_wp2_with fail; exact hK⟩⟩
          have hgr := CG1.grows (Z := (.cells #[.int .u64 0, .int .u64 0, .int .u64 0, .int .u64 0] 37 (0, 0))) (w0 := wr) (F := fun _ => False) (S := fun v => (v.cell? ⟨W, 0, none⟩ = some (.pointer (some ⟨ob, 0, none⟩)) ∧ v.cell? ⟨W, 10, none⟩ = some (uv seed) ∧ v.cell? ⟨Q, 0, none⟩ = some (uv o.commit) ∧ v.cell? ⟨Q, 1, none⟩ = some (uv o.p.a) ∧ v.cell? ⟨Q, 2, none⟩ = some (uv o.p.b) ∧ v.cell? ⟨Q, 3, none⟩ = some (.slice ca o.cipher.length cc)) ∧ Ext wr v) (fun k h => h.elim) (fun v k => HSV.out v (k.toExt fun _ h => h.elim))
          refine WB_start (i1 := 15) (d1 := 12) (f := 6) (C := CG1 wr (fun _ => False) (.cells #[.int .u64 0, .int .u64 0, .int .u64 0, .int .u64 0] 37 (0, 0))) u12 ⟨(Ext.refl wr).drew, fun h => by cases h⟩ (by rfl) (by rfl) (by rfl) ?_
          refine WB_call (hal _) hgr (c := 11) (fun v => CLB (fun _ => v = .tuple #[.agg #[uv nt.value, uv nt.owner, uv nt.rho, uv nt.blind], .bool bt]) (CG1 wr (fun _ => False) (.cells #[.int .u64 0, .int .u64 0, .int .u64 0, .int .u64 0] 37 (0, 0)))) (by rw [hops]; kernel_rfl) (by rw [hops, List.getElem?_toArray]; rfl) rfl (fun t => rfl) (by decide) (fun v b1 x w' h => hgr.s _ _ _ h.2) ?_ ?_
          · intro b1 x1 v hC K hK
            simp only [Act.put, List.setIfInBounds_toArray, List.set_cons_zero, List.set_cons_succ]
            go_wp2_with fail
            refine (TRYA.out v (HA.out.2.trans hC.1)).mono ?_
            rintro e v' ⟨rfl, hx⟩
            exact hK _ _ ⟨rfl, hC.ext hx⟩ _ (by simp only [Act.put, List.setIfInBounds_toArray, List.set_cons_zero, List.set_cons_succ] <;> rfl)
          intro v54
          simp only [Act.put, List.setIfInBounds_toArray, List.set_cons_zero, List.set_cons_succ]
          have hgr2 := CLB.grows (p := fun _ => v54 = .tuple #[.agg #[uv nt.value, uv nt.owner, uv nt.rho, uv nt.blind], .bool bt]) hgr (fun _ _ h _ => h)
          refine WB_pure (φ := v54 = .tuple #[.agg #[uv nt.value, uv nt.owner, uv nt.rho, uv nt.blind], .bool bt]) (fun b1 x1 v h => h.1) ?_
          rintro rfl
          refine WB_take (i := 12) (v := ?_) (fun _ _ _ h => hgr.s _ _ _ h.2) (by rw [hops, List.getElem?_toArray]; rfl) rfl (fun t => rfl) (by decide) (by rw [hops]; kernel_rfl) (by intro c a d v w h; cases d <;> exact h) ?_ ?_
          rotate_left
          · intro x1 v h
            simp only [Act.put, List.setIfInBounds_toArray, List.set_cons_zero, List.set_cons_succ]
            go_simp
            with_reducible rfl
          simp only [Act.put, List.setIfInBounds_toArray, List.set_cons_zero, List.set_cons_succ]
          refine WB_take (i := 13) (v := ?_) (fun _ _ _ h => hgr.s _ _ _ h.2) (by rw [hops, List.getElem?_toArray]; rfl) rfl (fun t => rfl) (by decide) (by rw [hops]; kernel_rfl) (by intro c a d v w h; cases d <;> exact h) ?_ ?_
          rotate_left
          · intro x1 v h
            simp only [Act.put, List.setIfInBounds_toArray, List.set_cons_zero, List.set_cons_succ]
            go_simp
            with_reducible rfl
          simp only [Act.put, List.setIfInBounds_toArray, List.set_cons_zero, List.set_cons_succ]
          refine WB_take (i := 14) (v := ?_) (fun _ _ _ h => hgr.s _ _ _ h.2) (by rw [hops, List.getElem?_toArray]; rfl) rfl (fun t => rfl) (by decide) (by rw [hops]; kernel_rfl) (by intro c a d v w h; cases d <;> exact h) ?_ ?_
          rotate_left
          · intro x1 v h
            simp only [Act.put, List.setIfInBounds_toArray, List.set_cons_zero, List.set_cons_succ]
            go_simp
            with_reducible rfl
          simp only [Act.put, List.setIfInBounds_toArray, List.set_cons_zero, List.set_cons_succ]
          have hgr3 := CLB.grows (p := fun _ => True) hgr (fun _ _ _ _ => trivial)
          refine WB_last (hal _) (by first | exact hgr3 | exact hgr2) (by rw [hops]; kernel_rfl) ?_
          rintro x1 v ⟨-, hxv, hz⟩
          obtain ⟨g, rfl, hg0, -, hgb⟩ := hz rfl
          simp only [Act.put, List.setIfInBounds_toArray, List.set_cons_zero, List.set_cons_succ]
          obtain ⟨k0, k1, k2, k3⟩ := four_cellsO hgb
          have kf := frozen_of hgb
          obtain ⟨hb6, hk6⟩ := four_setN (d0 := .int .u64 (nt.value.toNat : Int)) (d1 := .int .u64 (nt.owner.toNat : Int)) (d2 := .int .u64 (nt.rho.toNat : Int)) (d3 := .int .u64 (nt.blind.toNat : Int)) hgb
          have hx6 := hxv.kp hk6 (fun k h => by subst h; exact hg0)
          have hS6 := HSV.out _ hx6
          have HB6 := hid hb6
          have HX6 := hid hx6
          have HS6 := hid hS6
          have hWg : W ≠ g := by
            have h1 := heap_lt (A5.out.wal.self)
            have h2 := HA.out.2.size
            omega
          have hQg : Q ≠ g := by
            have h1 := heap_lt QB5.out
            have h2 := HA.out.2.size
            omega
          have hWg2 : g ≠ W := fun e => hWg e.symm
          have hQg2 : g ≠ Q := fun e => hQg e.symm
          obtain ⟨⟨s0, s1, s2, s3, s4, s5⟩, -⟩ := HSV.out v hxv
          clear hb6 hk6 hx6 hS6
          refine N_one (i := 16) (by rw [hops, List.getElem?_toArray]; rfl) (by rw [hops]; kernel_rfl) (by first | rfl | (rw [hops]; rfl)) ?_
          intro K hK
          go_wp2_with fail
          refine ⟨HX6.out, ?_⟩
          generalize ((((v.setCell ⟨g, 0, none⟩ (.int .u64 (nt.value.toNat : Int))).setCell ⟨g, 1, none⟩ (.int .u64 (nt.owner.toNat : Int))).setCell ⟨g, 2, none⟩ (.int .u64 (nt.rho.toNat : Int))).setCell ⟨g, 3, none⟩ (.int .u64 (nt.blind.toNat : Int))) = v6 at *
          try rw [← hops]
          refine N_one (i := 17) (by rw [hops, List.getElem?_toArray]; rfl) (by rw [hops]; kernel_rfl) (by first | rfl | (rw [hops]; rfl)) ?_
          intro K hK
          go_wp2_with fail
          refine ⟨fun h => absurd h (by decide), ?_⟩
          try rw [← hops]
          clear HS6 s0 s1 s2 s3 s4 s5 k0 k1 k2 k3 kf hgb hal hgr hgr2 hgr3 HR hz hxv HSV TRYA
          try clear hK K
          refine N_done (by rw [hops]; kernel_rfl) ?_
          clear hops ops
          cases bt with
          | false =>
            have HN := hid (And.intro (findTo_none HA.out.1 (show (tryW seed a o rho).2 = false by rw [← HRES.out])) (HA.out.2.trans HX6.out))
            go_wp2_with fail
            go_roundw
            case rel => exact ⟨a + 1, by omega, by go_num, HN⟩
            case measure => simp [intOf]; omega
          | true =>
            have hfw := findW_found ha4 HA.out.1 (show (tryW seed a o rho).2 = true by rw [← HRES.out])
            rw [← HRES.out] at hfw
            have hgot := recvTo_succ (seed := seed) (h := ht) (S := S) HOI.out
            unfold recv1 at hgot
            rw [← HRHO.out, hfw] at hgot
            have HGOT := hid hgot
            clear hfw hgot
            have A6 := hid (A5.out.ext (HA.out.2.trans HX6.out))
            have KP6 := hid (KP5.out.ext (HA.out.2.trans HX6.out))
            have hnl : (recvTo seed ht t S i).notes.length ≤ 20000 := by
              have h1 := recvTo_notes seed ht t S i
              have h2 := HNN.out
              have h3 := HS.out.o
              omega
            have HNL := hid hnl
            clear hnl
            obtain ⟨j0, hj, hjz0, hjz1, hjz2⟩ := info_parts Tryz.infoOw
            have HJ := hid (And.intro hj (And.intro hjz0 (And.intro hjz1 hjz2)))
            clear hj hjz0 hjz1 hjz2
            have HC13 : Hid (∀ v, Ext v6 v → (v.cell? ⟨W, 13, none⟩ = some (.slice na (recvTo seed ht t S i).notes.length nc) ∧ v.cell? ⟨g, 0, none⟩ = some (uv nt.value) ∧ v.cell? ⟨g, 1, none⟩ = some (uv nt.owner) ∧ v.cell? ⟨g, 2, none⟩ = some (uv nt.rho) ∧ v.cell? ⟨g, 3, none⟩ = some (uv nt.blind))) := hid fun v k => by
              obtain ⟨-, -, -, -, -, q5, -⟩ := (A6.out.wal.ext k).cells
              obtain ⟨p0, p1, p2, p3⟩ := four_cellsO (k.heap_some HB6.out)
              exact ⟨q5, p0, p1, p2, p3⟩
            go_wp2_with fail
            refine wp_region_T (fun v => (v.cell? ⟨W, 13, none⟩ = some (.slice na (recvTo seed ht t S i).notes.length nc) ∧ v.cell? ⟨g, 0, none⟩ = some (uv nt.value) ∧ v.cell? ⟨g, 1, none⟩ = some (uv nt.owner) ∧ v.cell? ⟨g, 2, none⟩ = some (uv nt.rho) ∧ v.cell? ⟨g, 3, none⟩ = some (uv nt.blind))) 12 [(0, true), (1, true), (2, true), (3, true), (4, true), (5, true), (6, true), (7, true), (8, true), (9, true), (10, false), (11, false), (12, false), (13, false), (14, false)] (by kernel_rfl) (by kernel_rfl) (by intro c a d v w h; cases d <;> exact h) ?_
            intro ops hops
            have HSS := HC13.out _ (Ext.refl v6).drew
            iterate 10
              refine wpT_take (v := ?_) (by rw [hops, List.getElem?_toArray]; rfl) (by first | rfl | (rw [hops]; rfl)) ?_ HSS ?_
              rotate_left
              · intro v h; go_simp; with_reducible rfl
              simp only [Act.put, List.getElem_toArray, List.getElem_cons_zero, List.getElem_cons_succ, List.setIfInBounds_toArray, List.set_cons_zero, List.set_cons_succ]
            clear HSS
            refine wpT_step (by rw [hops, List.getElem?_toArray]; rfl) (by first | rfl | (rw [hops]; rfl)) ?_
            intro K hK
            go_wp2_with fail
            refine ⟨by first | exact fun _ => HC13.out _ ((Ext.refl v6).alloc _).drew | exact HC13.out _ ((Ext.refl v6).alloc _).drew | exact fun _ => HC13.out _ ((Ext.refl v6).alloc _), ?_⟩
            try rw [← hops]
            refine wpT_step (by rw [hops, List.getElem?_toArray]; rfl) (by first | rfl | (rw [hops]; rfl)) ?_
            intro K hK
            have hx8 : Ext v6 (v6.alloc (.cells #[uv nt.value, uv nt.owner, uv nt.rho, uv nt.blind, .int .i64 (a : Int), .int .i64 ((recvTo seed ht t S i).leaves.length : Int), .int .i64 (ht : Int), .int .i64 0] 39)).drew := ((Ext.refl v6).alloc _).drew
            have O8 := ownsRow_ext A6.out.wal.notes hx8
            have hrd : RdC' (v6.alloc (.cells #[uv nt.value, uv nt.owner, uv nt.rho, uv nt.blind, .int .i64 (a : Int), .int .i64 ((recvTo seed ht t S i).leaves.length : Int), .int .i64 (ht : Int), .int .i64 0] 39)).drew (.slice (some ⟨v6.heap.size, 0, none⟩) 1 1) 1 [uv nt.value, uv nt.owner, uv nt.rho, uv nt.blind, .int .i64 (a : Int), .int .i64 ((recvTo seed ht t S i).leaves.length : Int), .int .i64 (ht : Int), .int .i64 0] := (rows_block (heap_new v6 _)).ext (Ext.refl _).drew
            have hnl2 := HNL.out
            refine wp_app' _ _ 34 rfl 39 j0 (.agg #[.int .u64 0, .int .u64 0, .int .u64 0, .int .u64 0, .int .i64 0, .int .i64 0, .int .i64 0, .int .i64 0]) 8 64 (by kernel_rfl) HJ.out.1 HJ.out.2.1 HJ.out.2.2.1 HJ.out.2.2.2 rfl (by decide) (.slice na (recvTo seed ht t S i).notes.length nc) (recvTo seed ht t S i).notes.length ((recvTo seed ht t S i).notes.flatMap owCells) rfl O8 (.slice (some ⟨v6.heap.size, 0, none⟩) 1 1) 1 [uv nt.value, uv nt.owner, uv nt.rho, uv nt.blind, .int .i64 (a : Int), .int .i64 ((recvTo seed ht t S i).leaves.length : Int), .int .i64 (ht : Int), .int .i64 0] rfl hrd rfl (by intro u hu; simp only [List.mem_cons, List.not_mem_nil, or_false] at hu; rcases hu with rfl | rfl | rfl | rfl | rfl | rfl | rfl | rfl <;> rfl) (by unfold maxLen; omega) (by omega) ?_
            intro v7 w7 own7 hk7 hb7
            obtain ⟨sa7, sc7, rfl, -⟩ := ownsRow_rd own7
            have k67 : Kp (fun k => blk (.slice na (recvTo seed ht t S i).notes.length nc) = some k) v6 w7 := (Kp.of_ext hx8).trans (hk7.mono fun _ _ e => e.symm)
            have hnW : blk (.slice na (recvTo seed ht t S i).notes.length nc) ≠ some W := A6.out.wal.wn
            have hng : blk (.slice na (recvTo seed ht t S i).notes.length nc) ≠ some g := fun e => by
              have h1 := ownsRow_lt A5.out.wal.notes e
              have h2 := HA.out.2.size
              omega
            have AN := A6.out.note ⟨nt, a, (recvTo seed ht t S i).leaves.length, ht, 0⟩ hx8 hk7 (by first | exact hb7 | simpa using hb7) own7
            have hbW := k67.heap_some (fun e => hnW e) A6.out.wal.self
            obtain ⟨s0, s1, s2, s3, s4⟩ := HC13.out v6 (Ext.refl v6)
            refine hK _ _ ⟨fun _ => ⟨k67.cell_some (fun e => hnW e) s0, k67.cell_some (fun e => hng e) s1, k67.cell_some (fun e => hng e) s2, k67.cell_some (fun e => hng e) s3, k67.cell_some (fun e => hng e) s4⟩, ?_⟩
            clear hK K
            have hA := AN.1
            change ApS _ W d r seed ⟨(recvTo seed ht t S i).leaves ++ [o.commit], (recvTo seed ht t S i).notes ++ [⟨nt, a, (recvTo seed ht t S i).leaves.length, ht, 0⟩], (recvTo seed ht t S i).sp⟩ ps ob LB _ pv FO FT4 SB _ n0 sv at hA
            have hgot := HGOT.out
            change recvTo seed ht t S (i + 1) = ⟨(recvTo seed ht t S i).leaves ++ [o.commit], (recvTo seed ht t S i).notes ++ [⟨nt, a, (recvTo seed ht t S i).leaves.length, ht, 0⟩], (recvTo seed ht t S i).sp⟩ at hgot
            rw [← hgot] at hA
            have HN := hid (And.intro hA (And.intro (Kp.chain KP6.out SUB5.out AN.2.1) (fun j (hj : AF W FT4 (.slice sa7 ((recvTo seed ht t S i).notes.length + 1) sc7) pv SB sv j) => show AF W FT nv pv SB sv j ∨ w.heap.size ≤ j from by
              rcases AN.2.2 j hj with e | e
              · exact SUB5.out j e
              · have := KP6.out.size; exact .inr (by omega))))
            have fz := frozen_of hbW
            have b13 := cell_of hbW 13
            clear own7 hk7 hb7 k67 hnW hng AN hbW s0 s1 s2 s3 s4 hA hgot O8 hrd hx8
            refine wpT_step (by rw [hops, List.getElem?_toArray]; rfl) (by first | rfl | (rw [hops]; rfl)) ?_
            intro K hK
            go_wp2_with fail
            try (with_reducible refine ⟨fun h => absurd h (by decide), ?_⟩)
            try rw [← hops]
            refine wpT_step (by rw [hops, List.getElem?_toArray]; rfl) (by first | rfl | (rw [hops]; rfl)) ?_
            intro K hK
            go_wp2_with fail
            try (with_reducible refine ⟨fun h => absurd h (by decide), ?_⟩)
            try rw [← hops]
            refine wpT_step (by rw [hops, List.getElem?_toArray]; rfl) (by first | rfl | (rw [hops]; rfl)) ?_
            intro K hK
            go_wp2_with fail
            try (with_reducible refine ⟨fun h => absurd h (by decide), ?_⟩)
            try rw [wpT_nil]
            try clear hops ops
            go_wp2_with fail
            go_roundw
            case rel => exact ⟨i + 1, _, FT4, by omega, by go_num, HN⟩
            case measure => simp [intOf]; omega
        · have haB : decide ((a : Int) < 4) = false := by simp; omega
          obtain rfl : a = 4 := by omega
          have hgot := recvTo_succ (seed := seed) (h := ht) (S := S) HOI.out
          unfold recv1 at hgot
          rw [← HRHO.out, show findW seed o rho = none from HA.out.1] at hgot
          have hA := A5.out.ext HA.out.2
          change ApS _ W d r seed ⟨(recvTo seed ht t S i).leaves ++ [o.commit], (recvTo seed ht t S i).notes, (recvTo seed ht t S i).sp⟩ ps ob LB _ pv FO FT4 SB s0 n0 sv at hA
          rw [show gotW ht (recvTo seed ht t S i).leaves.length none = [] from rfl, List.append_nil] at hgot
          rw [← hgot] at hA
          have HN := hid (And.intro hA (And.intro (KP5.out.ext HA.out.2) SUB5.out))
          clear hA hgot
          go_wp2_with fail
          go_roundw
          case rel => exact ⟨i + 1, _, FT4, by omega, by go_num, HN⟩
          case measure => simp [intOf]; omega
    · have hltB : decide ((i : Int) < (t.outs.length : Int)) = false := by simp; omega
      obtain rfl : i = t.outs.length := by omega
      go_wp2_with fail
      exact bodyPost_end (v := .tuple #[]) (by simp [results, Tryz.results90, go_sem]) rfl ⟨rfl, _, FT', HI.out⟩
end Go.Proofs.YtcikjcjfcanloaaGreat
namespace Go.Proofs.YtcikjcjfcanloaaGreat
open Go.RowKit
theorem tryW_rho {seed : UInt64} {a : Nat} {o : OutT} {rho : UInt64} (h : (tryW seed a o rho).2 = true) : (tryW seed a o rho).1.rho = rho := by
  unfold tryW tryR at h ⊢
  split at h
  · split at h
    · split at h
      · next h1 h2 h3 => rw [if_pos h1, if_pos h2, if_pos h3]
      · cases h
    · cases h
  · cases h
theorem findTo_rho {seed : UInt64} {o : OutT} {rho : UInt64} : ∀ {a : Nat} {r : Nt × Nat}, findTo seed o rho a = some r → r.1.rho = rho
  | 0, r, h => by cases h
  | a + 1, r, h => by
    unfold findTo at h
    split at h
    · next r' h1 =>
      injection h with h
      subst h
      exact findTo_rho h1
    · split at h
      · next h2 =>
        injection h with h
        subst h
        exact tryW_rho h2
      · cases h
/-- What holds of the state in the midst of blocks. -/
structure StOk (S : StW) (m : Nat) : Prop where
  n : S.notes.length ≤ S.leaves.length
  r : ∀ x ∈ S.notes, x.note.rho < big
  s : S.sp.length ≤ m
theorem spendTo_notes (key : UInt64) (h : Nat) (marks : List UInt64) (S : StW) (x : OwT) : ∀ i, x ∈ (spendTo key h marks S i).notes → ∃ y ∈ S.notes, y.note = x.note := fun i hx => by
  unfold spendTo at hx
  rcases List.mem_append.1 hx with hx | hx
  · obtain ⟨y, hy, rfl⟩ := List.mem_map.1 hx
    refine ⟨y, List.mem_of_mem_take hy, ?_⟩
    unfold outW
    split <;> rfl
  · exact ⟨x, List.mem_of_mem_drop hx, rfl⟩
theorem spendW_ok {key : UInt64} {h : Nat} {marks : List UInt64} {S : StW} {m : Nat} (hS : StOk S m) : StOk (spendW key h marks S) (m + S.notes.length) := by
  refine ⟨?_, fun x hx => ?_, ?_⟩
  · unfold spendW
    rw [spendTo_length]
    exact hS.n
  · obtain ⟨y, hy, e⟩ := spendTo_notes key h marks S x _ hx
    rw [← e]
    exact hS.r y hy
  · unfold spendW spendTo
    rw [List.length_append]
    have h1 := List.length_filter_le (fun j => (S.notes[j]?.map (hitW key marks)).getD false) (List.range S.notes.length)
    rw [List.length_range] at h1
    have := hS.s
    omega
theorem recvTo_ok {seed : UInt64} {h : Nat} {t : TxT} {S : StW} {m : Nat} (hS : StOk S m) : ∀ i, StOk (recvTo seed h t S i) m
  | 0 => hS
  | i + 1 => by
    have ih := recvTo_ok (seed := seed) (h := h) (t := t) hS i
    unfold recvTo
    cases ho : t.outs[i]? with
    | none => exact ih
    | some o =>
      refine ⟨?_, fun x hx => ?_, ih.s⟩
      · simp only [recv1, List.length_append, List.length_singleton]
        have h1 : (gotW h (recvTo seed h t S i).leaves.length (findW seed o (rhoT t i))).length ≤ 1 := by
          cases findW seed o (rhoT t i) with
          | none => simp [gotW]
          | some r => obtain ⟨n, a⟩ := r; simp [gotW]
        have := ih.n
        omega
      · simp only [recv1] at hx
        rcases List.mem_append.1 hx with hx | hx
        · exact ih.r x hx
        · cases hf : findW seed o (rhoT t i) with
          | none => rw [hf] at hx; cases hx
          | some r =>
            obtain ⟨n, a⟩ := r
            rw [hf] at hx
            obtain rfl := List.mem_singleton.1 hx
            have := findTo_rho hf
            simp only at this ⊢
            rw [this]
            exact hashU_ltW _ _
theorem recvW_leaves (seed : UInt64) (h : Nat) (t : TxT) (S : StW) : (recvW seed h t S).leaves = S.leaves ++ t.outs.map (·.commit) := by
  unfold recvW
  rw [recvTo_leaves, List.take_length]
theorem txsTo_succ {seed : UInt64} {h : Nat} {S : StW} {l : List TxT} {i : Nat} {t : TxT} (ht : l[i]? = some t) : txsTo seed h S l (i + 1) = recvW seed h t (spendW (kSpend seed) h t.marks (txsTo seed h S l i)) := by
  unfold txsTo
  rw [List.take_add_one, ht, List.foldl_append]
  rfl
theorem txsTo_leaves {seed : UInt64} {h : Nat} {S : StW} {l : List TxT} : ∀ i, i ≤ l.length → (txsTo seed h S l i).leaves.length = S.leaves.length + outsN (l.take i)
  | 0, _ => by simp [txsTo, outsN]
  | i + 1, hi => by
    have ht : l[i]? = some l[i] := List.getElem?_eq_getElem (by omega)
    rw [txsTo_succ ht, recvW_leaves, List.length_append, List.length_map, outsN_snoc ht]
    have := txsTo_leaves (seed := seed) (h := h) (S := S) (l := l) i (by omega)
    show (txsTo seed h S l i).leaves.length + _ = _
    omega
theorem outsN_mono {l : List TxT} : ∀ i, outsN (l.take i) ≤ outsN l := fun i => by
  have : l = l.take i ++ l.drop i := (List.take_append_drop i l).symm
  have h2 : outsN l = outsN (l.take i) + outsN (l.drop i) := by
    conv => lhs; rw [this]
    unfold outsN
    rw [List.map_append, List.sum_append]
  omega
theorem txsTo_ok {seed : UInt64} {h : Nat} {S : StW} {l : List TxT} (hS : StOk S 0) {B : Nat} (hB : S.leaves.length + outsN l ≤ B) : ∀ i, i ≤ l.length → StOk (txsTo seed h S l i) (i * B)
  | 0, _ => by
    have : txsTo seed h S l 0 = S := by simp [txsTo]
    rw [this, Nat.zero_mul]
    exact hS
  | i + 1, hi => by
    have ht : l[i]? = some l[i] := List.getElem?_eq_getElem (by omega)
    have ih := txsTo_ok (seed := seed) (h := h) hS hB i (by omega)
    have hl := txsTo_leaves (seed := seed) (h := h) (S := S) (l := l) i (by omega)
    have hm := outsN_mono (l := l) i
    rw [txsTo_succ ht]
    have h2 := recvTo_ok (seed := seed) (h := h) (t := l[i]) (spendW_ok (key := kSpend seed) (h := h) (marks := l[i].marks) ih) l[i].outs.length
    refine ⟨h2.n, h2.r, Nat.le_trans h2.s ?_⟩
    rw [Nat.succ_mul]
    have := ih.n
    omega
end Go.Proofs.YtcikjcjfcanloaaGreat
namespace Go.Proofs.YtcikjcjfcanloaaGreat
open Go.RowKit
/-- What can be undone: the leaves and notes before are there, but for the marks of spending. -/
structure UndR (L : List UInt64) (ns : List OwT) (S : StW) : Prop where
  l : S.leaves.take L.length = L
  n : ∀ (i : Nat) (x : OwT), ns[i]? = some x → ∃ y, S.notes[i]? = some y ∧ (i ∈ S.sp → x = { y with spent := 0 } ∧ y.spent ≠ 0) ∧ (i ∉ S.sp → y = x)
  s : ∀ i ∈ S.sp, i < S.notes.length
  m : ns.length ≤ S.notes.length
theorem UndR.refl (L : List UInt64) (ns : List OwT) : UndR L ns ⟨L, ns, []⟩ :=
  ⟨List.take_length, fun i x hx => ⟨x, hx, (fun h => by cases h), fun _ => rfl⟩, (fun i h => by cases h), Nat.le_refl _⟩
theorem UndR.spendTo {L : List UInt64} {ns : List OwT} {S : StW} {key : UInt64} {h : Nat} {marks : List UInt64} (hS : UndR L ns S) (hh : h ≠ 0) : ∀ i, i ≤ S.notes.length → UndR L ns (spendTo key h marks S i)
  | 0, _ => by
    have : Go.Proofs.YtcikjcjfcanloaaGreat.spendTo key h marks S 0 = S := by simp [Go.Proofs.YtcikjcjfcanloaaGreat.spendTo]
    rw [this]; exact hS
  | i + 1, hi => by
    have ih := UndR.spendTo (key := key) (h := h) (marks := marks) hS hh i (by omega)
    have hn : S.notes[i]? = some S.notes[i] := List.getElem?_eq_getElem (by omega)
    cases ht : hitW key marks S.notes[i] with
    | false => rw [spendTo_miss hn ht]; exact ih
    | true =>
      rw [spendTo_hit hn ht]
      have hy : (Go.Proofs.YtcikjcjfcanloaaGreat.spendTo key h marks S i).notes[i]? = some S.notes[i] := by rw [spendTo_at (Nat.le_refl i)]; exact hn
      have hz : S.notes[i].spent = 0 := by
        unfold hitW at ht
        rw [Bool.and_eq_true, decide_eq_true_eq] at ht
        exact ht.1
      have hlt : i < (Go.Proofs.YtcikjcjfcanloaaGreat.spendTo key h marks S i).notes.length := (List.getElem?_eq_some_iff.1 hy).1
      refine ⟨ih.l, fun j x hx => ?_, fun j hj => ?_, by rw [List.length_set]; exact ih.m⟩
      · obtain ⟨y, h1, h2, h3⟩ := ih.n j x hx
        by_cases hji : j = i
        · subst hji
          rw [hy] at h1
          obtain rfl := Option.some.inj h1
          have hns : j ∉ (Go.Proofs.YtcikjcjfcanloaaGreat.spendTo key h marks S j).sp := fun e => (h2 e).2 hz
          have hxe := h3 hns
          refine ⟨_, List.getElem?_set_self hlt, fun _ => ⟨?_, hh⟩, fun e => absurd (List.mem_append_right _ (List.mem_singleton.2 rfl)) e⟩
          rw [← hxe]
          show S.notes[j] = { S.notes[j] with spent := 0 }
          rw [← hz]
        · refine ⟨y, by rw [List.getElem?_set_ne (fun e => hji e.symm)]; exact h1, fun e => ?_, fun e => ?_⟩
          · rcases List.mem_append.1 e with e | e
            · exact h2 e
            · exact absurd (List.mem_singleton.1 e) hji
          · exact h3 fun e2 => e (List.mem_append_left _ e2)
      · rw [List.length_set]
        rcases List.mem_append.1 hj with e | e
        · exact ih.s j e
        · rw [List.mem_singleton.1 e]; exact hlt
theorem UndR.recvTo {L : List UInt64} {ns : List OwT} {S : StW} {seed : UInt64} {h : Nat} {t : TxT} (hS : UndR L ns S) (hL : L.length ≤ S.leaves.length) : ∀ i, UndR L ns (recvTo seed h t S i)
  | 0 => hS
  | i + 1 => by
    have ih := UndR.recvTo (seed := seed) (h := h) (t := t) hS hL i
    have hl := recvTo_leaves seed h t S i
    unfold Go.Proofs.YtcikjcjfcanloaaGreat.recvTo
    cases ho : t.outs[i]? with
    | none => exact ih
    | some o =>
      refine ⟨?_, fun j x hx => ?_, fun j hj => ?_, ?_⟩
      · simp only [recv1]
        rw [List.take_append_of_le_length (by rw [hl, List.length_append]; omega)]
        exact ih.l
      · obtain ⟨y, h1, h2⟩ := ih.n j x hx
        refine ⟨y, ?_, h2⟩
        simp only [recv1]
        rw [List.getElem?_append_left (List.getElem?_eq_some_iff.1 h1).1]
        exact h1
      · have := ih.s j hj
        simp only [recv1, List.length_append]
        omega
      · have := ih.m
        simp only [recv1, List.length_append]
        omega
theorem UndR.txsTo {L : List UInt64} {ns : List OwT} {seed : UInt64} {h : Nat} {l : List TxT} (hh : h ≠ 0) : ∀ i, i ≤ l.length → UndR L ns (txsTo seed h ⟨L, ns, []⟩ l i)
  | 0, _ => by
    have : Go.Proofs.YtcikjcjfcanloaaGreat.txsTo seed h ⟨L, ns, []⟩ l 0 = ⟨L, ns, []⟩ := by simp [Go.Proofs.YtcikjcjfcanloaaGreat.txsTo]
    rw [this]; exact UndR.refl L ns
  | i + 1, hi => by
    have ht : l[i]? = some l[i] := List.getElem?_eq_getElem (by omega)
    have ih := UndR.txsTo (L := L) (ns := ns) (seed := seed) (h := h) (l := l) hh i (by omega)
    have hl := txsTo_leaves (seed := seed) (h := h) (S := ⟨L, ns, []⟩) (l := l) i (by omega)
    rw [txsTo_succ ht]
    refine UndR.recvTo (ih.spendTo hh _ (Nat.le_refl _)) ?_ _
    show L.length ≤ (Go.Proofs.YtcikjcjfcanloaaGreat.txsTo seed h ⟨L, ns, []⟩ l i).leaves.length
    simp only at hl
    omega
def zeroS (x : OwT) : OwT := { x with spent := 0 }
def resetW (l : List OwT) (sp : List Nat) : List OwT := sp.foldl (fun l i => l.modify i zeroS) l
theorem resetW_at (i : Nat) : ∀ (sp : List Nat) (l : List OwT), (resetW l sp)[i]? = if i ∈ sp then l[i]?.map zeroS else l[i]?
  | [], l => by simp [resetW]
  | a :: r, l => by
    have ih := resetW_at i r (l.modify a zeroS)
    show (resetW (l.modify a zeroS) r)[i]? = _
    rw [ih, List.getElem?_modify]
    by_cases hai : a = i
    · subst hai
      by_cases hr : a ∈ r
      · rw [if_pos hr, if_pos (by simp)]
        cases l[a]? with
        | none => rfl
        | some x => simp [zeroS]
      · rw [if_neg hr, if_pos (by simp)]
        cases l[a]? with
        | none => rfl
        | some x => simp
    · by_cases hr : i ∈ r
      · rw [if_pos hr, if_pos (List.mem_cons_of_mem _ hr)]
        simp [hai]
      · have : i ∉ a :: r := by
          intro h
          rcases List.mem_cons.1 h with h | h
          · exact hai h.symm
          · exact hr h
        rw [if_neg hr, if_neg this]
        simp [hai]
theorem UndR.undo {L : List UInt64} {ns : List OwT} {S : StW} (h : UndR L ns S) : (resetW S.notes S.sp).take ns.length = ns := by
  apply List.ext_getElem?
  intro i
  by_cases hi : i < ns.length
  · rw [List.getElem?_take_of_lt hi, resetW_at]
    have hx : ns[i]? = some ns[i] := List.getElem?_eq_getElem hi
    obtain ⟨y, h1, h2, h3⟩ := h.n i _ hx
    rw [hx, h1]
    split
    · next hs => rw [(h2 hs).1]; rfl
    · next hs => rw [h3 hs]
  · rw [List.getElem?_eq_none (by rw [List.length_take]; omega), List.getElem?_eq_none (by omega)]
end Go.Proofs.YtcikjcjfcanloaaGreat
namespace Go.Proofs.YtcikjcjfcanloaaGreat
open Go.RowKit
theorem blkW_to (seed : UInt64) (h : Nat) (L : List UInt64) (ns : List OwT) (b : BlkT) : blkW seed h L ns b = txsTo seed h ⟨L, ns, []⟩ b.txs b.txs.length := by
  unfold blkW txsTo
  rw [List.take_length]
theorem stTo_app (seed : UInt64) (l m : List BlkT) : ∀ i, i ≤ l.length → stTo seed (l ++ m) i = stTo seed l i
  | 0, _ => rfl
  | i + 1, hi => by
    unfold stTo
    rw [List.getElem?_append_left (by omega), stTo_app seed l m i (by omega)]
theorem stW_snoc (seed : UInt64) (l : List BlkT) (b : BlkT) : stW seed (l ++ [b]) = blkW seed (l.length + 1) (stW seed l).leaves (stW seed l).notes b := by
  unfold stW
  rw [List.length_append, List.length_singleton]
  have h : (l ++ [b])[l.length]? = some b := by rw [List.getElem?_append_right (Nat.le_refl _), Nat.sub_self]; rfl
  show stTo seed (l ++ [b]) (l.length + 1) = _
  rw [stTo, h, stTo_app seed l [b] l.length (Nat.le_refl _)]
/-- What is noted of each block. -/
def scW (seed : UInt64) (l : List BlkT) (i : Nat) : ScT := ⟨(stTo seed l i).leaves.length, (stTo seed l i).notes.length, (stTo seed l (i + 1)).sp⟩
def psW (seed : UInt64) (l : List BlkT) : List ScT := (List.range l.length).map (scW seed l)
theorem psW_length (seed : UInt64) (l : List BlkT) : (psW seed l).length = l.length := by simp [psW]
theorem psW_snoc (seed : UInt64) (l : List BlkT) (b : BlkT) : psW seed (l ++ [b]) = psW seed l ++ [⟨(stW seed l).leaves.length, (stW seed l).notes.length, (stW seed (l ++ [b])).sp⟩] := by
  unfold psW
  rw [List.length_append, List.length_singleton, List.range_succ, List.map_append, List.map_singleton]
  congr 1
  · apply List.map_congr_left
    intro i hi
    have hi := List.mem_range.1 hi
    unfold scW
    rw [stTo_app seed l [b] i (by omega), stTo_app seed l [b] (i + 1) (by omega)]
  · unfold scW stW
    rw [stTo_app seed l [b] l.length (Nat.le_refl _), List.length_append, List.length_singleton]
theorem blkW_leaves (seed : UInt64) (h : Nat) (L : List UInt64) (ns : List OwT) (b : BlkT) : (blkW seed h L ns b).leaves.length = L.length + outsN b.txs := by
  rw [blkW_to, txsTo_leaves _ (Nat.le_refl _), List.take_length]
theorem StOk.clear {S : StW} {m : Nat} (h : StOk S m) : StOk ⟨S.leaves, S.notes, []⟩ 0 := ⟨h.n, h.r, Nat.le_refl _⟩
theorem blkW_ok {seed : UInt64} {h : Nat} {L : List UInt64} {ns : List OwT} (b : BlkT) (hS : StOk ⟨L, ns, []⟩ 0) : StOk (blkW seed h L ns b) (b.txs.length * (L.length + outsN b.txs)) := by
  rw [blkW_to]
  exact txsTo_ok hS (Nat.le_refl _) _ (Nat.le_refl _)
theorem stTo_ok (seed : UInt64) (l : List BlkT) : ∀ i, StOk ⟨(stTo seed l i).leaves, (stTo seed l i).notes, []⟩ 0
  | 0 => ⟨Nat.le_refl _, (fun x h => by cases h), Nat.le_refl _⟩
  | i + 1 => by
    unfold stTo
    split
    · exact (blkW_ok _ (stTo_ok seed l i)).clear
    · exact stTo_ok seed l i
theorem stW_ok (seed : UInt64) (l : List BlkT) : StOk ⟨(stW seed l).leaves, (stW seed l).notes, []⟩ 0 := stTo_ok seed l _
/-- Undone: the state before. -/
theorem undo_blk (seed : UInt64) (h : Nat) (hh : h ≠ 0) (L : List UInt64) (ns : List OwT) (b : BlkT) :
    (blkW seed h L ns b).leaves.take L.length = L ∧ (resetW (blkW seed h L ns b).notes (blkW seed h L ns b).sp).take ns.length = ns ∧ (∀ i ∈ (blkW seed h L ns b).sp, i < (blkW seed h L ns b).notes.length) ∧ ns.length ≤ (blkW seed h L ns b).notes.length := by
  have h1 := UndR.txsTo (L := L) (ns := ns) (seed := seed) (h := h) (l := b.txs) hh _ (Nat.le_refl _)
  rw [← blkW_to] at h1
  exact ⟨h1.l, h1.undo, h1.s, h1.m⟩
theorem undo_st (seed : UInt64) (l : List BlkT) (b : BlkT) :
    (stW seed (l ++ [b])).leaves.take (stW seed l).leaves.length = (stW seed l).leaves ∧ (resetW (stW seed (l ++ [b])).notes (stW seed (l ++ [b])).sp).take (stW seed l).notes.length = (stW seed l).notes ∧ (∀ i ∈ (stW seed (l ++ [b])).sp, i < (stW seed (l ++ [b])).notes.length) ∧ (stW seed l).notes.length ≤ (stW seed (l ++ [b])).notes.length := by
  rw [stW_snoc]
  exact undo_blk seed _ (by omega) _ _ b
/-- All blocks fit. -/
def fitsAll (d : Nat) (seed : UInt64) (l : List BlkT) : Prop := ∀ i b, l[i]? = some b → fitsW d i (stTo seed l i).leaves.length b = 0
theorem fitsAll_leaves {d : Nat} {seed : UInt64} {l : List BlkT} (h : fitsAll d seed l) : ∀ i, (stTo seed l i).leaves.length ≤ 2 ^ d
  | 0 => Nat.zero_le _
  | i + 1 => by
    unfold stTo
    split
    · next b hb =>
      rw [blkW_leaves]
      have h1 := h i b hb
      unfold fitsW at h1
      split at h1
      · split at h1
        · split at h1
          · cases h1
          · omega
        · cases h1
      · cases h1
    · exact fitsAll_leaves h i
theorem fitsAll_stW {d : Nat} {seed : UInt64} {l : List BlkT} (h : fitsAll d seed l) : (stW seed l).leaves.length ≤ 2 ^ d := fitsAll_leaves h _
theorem fRed_fRed (b : UInt64) : fRed (fRed b) = fRed b := by
  apply UInt64.toNat_inj.1
  rw [fRed_toNat, fRed_toNat, Nat.mod_mod]
theorem hashU_seed1 (label seed : UInt64) : hashU label [fRed seed] = hashU label [seed] := hashU_red label [seed]
theorem hashU_seed2 (label seed x : UInt64) : hashU label [fRed seed, x] = hashU label [seed, x] := by
  rw [← hashU_red label [fRed seed, x], ← hashU_red label [seed, x]]
  simp only [List.map_cons, List.map_nil, fRed_fRed]
theorem kSpend_red (seed : UInt64) : kSpend (fRed seed) = kSpend seed := hashU_seed1 8 seed
theorem kView_red (seed : UInt64) (n : Int) : kView (fRed seed) n = kView seed n := by unfold kView; rw [hashU_seed2]
theorem tryW_red (seed : UInt64) (a : Nat) (o : OutT) (rho : UInt64) : tryW (fRed seed) a o rho = tryW seed a o rho := by
  unfold tryW tryR
  rw [kView_red, kSpend_red]
theorem findTo_red (seed : UInt64) (o : OutT) (rho : UInt64) : ∀ a, findTo (fRed seed) o rho a = findTo seed o rho a
  | 0 => rfl
  | a + 1 => by unfold findTo; rw [findTo_red seed o rho a, tryW_red]
theorem recvTo_red (seed : UInt64) (h : Nat) (t : TxT) (S : StW) : ∀ i, recvTo (fRed seed) h t S i = recvTo seed h t S i
  | 0 => rfl
  | i + 1 => by
    unfold recvTo
    rw [recvTo_red seed h t S i]
    split
    · unfold recv1 findW; rw [findTo_red]
    · rfl
theorem txW_red (seed : UInt64) (h : Nat) : txW (fRed seed) h = txW seed h := by
  funext S t
  unfold txW recvW
  rw [recvTo_red, kSpend_red]
theorem stTo_red (seed : UInt64) (l : List BlkT) : ∀ i, stTo (fRed seed) l i = stTo seed l i
  | 0 => rfl
  | i + 1 => by
    unfold stTo
    rw [stTo_red seed l i]
    split
    · unfold blkW; rw [txW_red]
    · rfl
theorem stW_red (seed : UInt64) (l : List BlkT) : stW (fRed seed) l = stW seed l := stTo_red seed l _
end Go.Proofs.YtcikjcjfcanloaaGreat
