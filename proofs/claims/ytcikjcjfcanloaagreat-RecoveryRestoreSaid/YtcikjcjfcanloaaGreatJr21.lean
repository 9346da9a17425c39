/- Texts of this claim, joined: RW6. -/
import Derived.Test.YtcikjcjfcanloaaGreatJr20
set_option linter.unusedSimpArgs false
namespace Go.Proofs.YtcikjcjfcanloaaGreat
open Go.RowKit
theorem out_pt {t : TxT} (hv : txV t = 0) {o : OutT} (ho : o ∈ t.outs) : validP o.p = true := by
  unfold txV at hv
  split at hv
  · next h =>
    unfold txOk at h
    simp only [Bool.and_eq_true] at h
    have h2 := List.all_eq_true.1 h.1.1.1.1.2 o ho
    unfold outOk at h2
    simp only [Bool.and_eq_true] at h2
    exact h2.1.1.2
  · cases hv
def FrN (w v : World) (x : Value) (l : List OwT) : Prop := OwnN v x l ∧ Ext w v ∧ ∀ k, blk x = some k → w.heap.size ≤ k
theorem FrN.ext {w v v' : World} {x : Value} {l : List OwT} (h : FrN w v x l) (k : Ext v v') : FrN w v' x l := ⟨ownsRow_ext h.1 k, h.2.1.trans k, h.2.2⟩
theorem FrN.spend {w v : World} {g n c : Nat} {l : List OwT} (h : FrN w v (.slice (some ⟨g, 0, none⟩) n c) l) {i : Nat} {x : OwT} (hx : l[i]? = some x) (ht : Nat) :
    FrN w (v.setCell ⟨g, i * 8 + 7, none⟩ (.int .i64 (ht : Int))) (.slice (some ⟨g, 0, none⟩) n c) (l.set i { x with spent := ht }) := by
  have hnl : n = l.length := by
    obtain ⟨a, c', e, -⟩ := ownsRow_rd h.1
    injection e
  have hno := h.1
  unfold OwnN at hno
  rw [← hnl] at hno
  refine ⟨?_, h.2.1.kp ((Kp.refl (fun j => j = g) v).setCell (p := ⟨g, i * 8 + 7, none⟩) (.inl rfl) _) (fun k e => by rw [e]; exact h.2.2 g rfl), h.2.2⟩
  show World.ownsRow _ 0 _ 8 _ (l.set i _).length _
  rw [List.length_set, ← hnl]
  have := own_setRow hno (i * 8 + 7) (.int .i64 (ht : Int))
  rwa [flat_set owCells_len l i x { x with spent := ht } 7 _ hx (by omega) rfl] at this
theorem FrN.app {w v v' u : World} {x y : Value} {l : List OwT} {c : OwT} (h : FrN w v x l) (hown : v'.ownsRow 0 39 8 y (l.length + 1) (l.flatMap owCells ++ owCells c)) (hu : Ext v u) (hk : Kp (fun k => some k = blk x) u v') (hb : blk y = blk x ∨ blk y = some u.heap.size) : FrN w v' y (l ++ [c]) ∧ Kp (fun k => blk x = some k) v v' ∧ ∀ k, blk y = some k → blk x = some k ∨ v.heap.size ≤ k := by
  have hsz := hu.size
  refine ⟨⟨?_, (h.2.1.trans hu).kp hk (fun k e => h.2.2 k e.symm), fun k e => ?_⟩, (Kp.of_ext hu).trans (hk.mono fun k _ e => e.symm), fun k e => ?_⟩
  · show v'.ownsRow 0 39 8 y (l ++ [c]).length ((l ++ [c]).flatMap owCells)
    rw [List.length_append, List.flatMap_append]
    simpa using hown
  · rcases hb with e2 | e2
    · exact h.2.2 k (by rw [← e2]; exact e)
    · rw [e2] at e
      have := Option.some.inj e
      have := h.2.1.size
      omega
  · rcases hb with e2 | e2
    · exact .inl (by rw [← e2]; exact e)
    · rw [e2] at e
      have := Option.some.inj e
      exact .inr (by omega)
/-- Bounds on a state in the midst of a block. -/
structure StB (S : StW) : Prop where
  n : S.notes.length ≤ S.leaves.length
  l : S.leaves.length ≤ 1000000000
theorem txsTo_b {seed : UInt64} {l : List BlkT} (hl : l.length ≤ 1000) (hs : ∀ b ∈ l, BSm b) {i k : Nat} {b : BlkT} (hb : l[i]? = some b) (hk : k ≤ b.txs.length) :
    StB (txsTo seed (i + 1) ⟨(stTo seed l i).leaves, (stTo seed l i).notes, []⟩ b.txs k) ∧ (txsTo seed (i + 1) ⟨(stTo seed l i).leaves, (stTo seed l i).notes, []⟩ b.txs k).leaves.length ≤ 900000000 := by
  have h1 := stTo_ok seed l i
  have hi := (List.getElem?_eq_some_iff.1 hb).1
  have h2 := txsTo_ok (seed := seed) (h := i + 1) (l := b.txs) h1 (Nat.le_refl _) k hk
  have h3 := txsTo_leaves (seed := seed) (h := i + 1) (S := ⟨(stTo seed l i).leaves, (stTo seed l i).notes, []⟩) (l := b.txs) k hk
  have hB := hs b (List.mem_of_getElem? hb)
  have h4 : outsN (b.txs.take k) ≤ 1000 * (b.txs.take k).length := outsN_le fun t ht => hB.t t (List.mem_of_mem_take ht)
  have h5 := leavesW_len (l := l.take i) fun b hb => hs b (List.mem_of_mem_take hb)
  have h6 := stTo_leaves seed l i
  have h7 : (l.take i).length ≤ 1000 := by rw [List.length_take]; omega
  have h8 : (b.txs.take k).length ≤ 100 := by rw [List.length_take]; have := hB.n; omega
  simp only at h3
  rw [h6] at h3
  have h9 : (txsTo seed (i + 1) ⟨(stTo seed l i).leaves, (stTo seed l i).notes, []⟩ b.txs k).leaves.length ≤ 900000000 := by
    rw [h6]
    omega
  exact ⟨⟨h2.n, by omega⟩, h9⟩
theorem recvTo_nl (seed : UInt64) (h : Nat) (t : TxT) (S : StW) : ∀ i, (recvTo seed h t S i).notes.length ≤ S.notes.length + i
  | 0 => Nat.le_refl _
  | i + 1 => by
    have ih := recvTo_nl seed h t S i
    unfold recvTo
    split
    · next o ho =>
      simp only [recv1, List.length_append]
      have h1 : (gotW h (recvTo seed h t S i).leaves.length (findW seed o (rhoT t i))).length ≤ 1 := by
        cases findW seed o (rhoT t i) with
        | none => simp [gotW]
        | some r => obtain ⟨n, a⟩ := r; simp [gotW]
      omega
    · omega
theorem findW_four {seed : UInt64} {o : OutT} {rho : UInt64} (h : findTo seed o rho 4 = none) : findW seed o rho = none := h
theorem stTo_succ {seed : UInt64} {l : List BlkT} {i : Nat} {b : BlkT} (hb : l[i]? = some b) : txsTo seed (i + 1) ⟨(stTo seed l i).leaves, (stTo seed l i).notes, []⟩ b.txs b.txs.length = stTo seed l (i + 1) := by
  rw [← blkW_to]
  rw [stTo, hb]
end Go.Proofs.YtcikjcjfcanloaaGreat
namespace Go.Proofs.YtcikjcjfcanloaaGreat
open Go.RowKit
attribute [local irreducible] perm fAdd fMul fPow fSub fNeg fRed hashU drawOf nextState
set_option maxRecDepth 100000 in
set_option maxHeartbeats 51200000 in
theorem rScan_any (seed : UInt64) (v : Value) (l : List BlkT) (w : World) (h : RdBs w w v l) (hl : l.length ≤ 1000) (hs : ∀ b ∈ l, BSm b) (hv : ∀ b ∈ l, ∀ t ∈ b.txs, txV t = 0) :
    Calls Tryz.prog 33 #[uv seed, v] w fun e w' => ∃ u, e = .returned u ∧ FrN w w' u (stW seed l).notes := by
  obtain ⟨la, lc, rfl, -⟩ := h.shape
  have HH : Hid (∀ u, Ext w u → RdBs u u (.slice la l.length lc) l) := hid fun u k => (h.ext k).old k
  have HS := hid hs
  have HV := hid hv
  have HL := hid hl
  have HSP := hid (rkSpend_any seed)
  have hlI : (l.length : Int) ≤ 1000 := by omega
  obtain ⟨j0, hj, hjz0, hjz1, hjz2⟩ := info_parts Tryz.infoOw
  have HJ := hid (And.intro hj (And.intro hjz0 (And.intro hjz1 hjz2)))
  have F0 : Hid (FrN w (w.alloc (.cells #[] 39)) (.slice (some ⟨w.heap.size, 0, none⟩) 0 0) []) := hid ⟨own_emptyN w, (Ext.refl w).alloc _, fun k e => by change some w.heap.size = some k at e; injection e with e; omega⟩
  obtain ⟨ks, hks⟩ : ∃ ks, ks = kSpend seed := ⟨_, rfl⟩
  have HKS := hid hks
  rw [← hks] at HSP
  clear h hs hv hl hj hjz0 hjz1 hjz2 hks
  go_enter Tryz.func33, Tryz.ntmps33
  go_wp2_with fail
  refine (HSP.out _).mono ?_
  rintro e w1 ⟨rfl, hx⟩
  have F1 := hid (F0.out.ext hx)
  clear hx F0 HSP
  go_wp2_with fail
  go_loopw [5, 6, 8] (fun ov pv iv wr => ∃ i : Nat, i ≤ l.length ∧ pv = .int .i64 ((stTo seed l i).leaves.length : Int) ∧ iv = .int .i64 i ∧ Hid (FrN w wr ov (stTo seed l i).notes)) (fun _ _ iv _ => l.length - (intOf iv).toNat)
  case atStart => exact ⟨0, by omega, rfl, rfl, F1⟩
  case round =>
    clear F1
    obtain ⟨i, hi, rfl, rfl, HI⟩ := hrel
    have hi0 : (0 : Int) ≤ (i : Int) := Int.natCast_nonneg _
    by_cases hlt : i < l.length
    · have hltB : decide ((i : Int) < (l.length : Int)) = true := by simp; omega
      have hil : (i : Int) < (l.length : Int) := by omega
      obtain ⟨b, hbi⟩ : ∃ b, l[i]? = some b := ⟨_, List.getElem?_eq_getElem hlt⟩
      have BS := hid (HS.out b (List.mem_of_getElem? hbi))
      have BV := hid (HV.out b (List.mem_of_getElem? hbi))
      have HBI := hid hbi
      obtain ⟨q, o, ta, tc, rfl, htx, -, -, -, -, -, e5⟩ := (HH.out w (Ext.refl w)).at hbi
      have HE : Hid (∀ u, Ext w u → u.cell? ⟨q, o + i * 6 + 5, none⟩ = some (.slice ta b.txs.length tc) ∧ RdTs u (.slice ta b.txs.length tc) b.txs) := hid fun u k => ⟨k.cell_some e5, htx.ext k⟩
      have htI : (b.txs.length : Int) ≤ 100 := by have := BS.out.n; omega
      obtain ⟨S0, hS0⟩ : ∃ S : StW, S = ⟨(stTo seed l i).leaves, (stTo seed l i).notes, []⟩ := ⟨_, rfl⟩
      have hp0 : txsTo seed (i + 1) S0 b.txs 0 = S0 := by simp [txsTo]
      have HSB : Hid (∀ k, k ≤ b.txs.length → StB (txsTo seed (i + 1) S0 b.txs k) ∧ (txsTo seed (i + 1) S0 b.txs k).leaves.length ≤ 900000000) := hid fun k hk => by rw [hS0]; exact txsTo_b HL.out HS.out hbi hk
      have HSX : Hid (txsTo seed (i + 1) S0 b.txs b.txs.length = stTo seed l (i + 1)) := hid (by rw [hS0]; exact stTo_succ hbi)
      have HI2 : Hid ((stTo seed l i).leaves.length = (txsTo seed (i + 1) S0 b.txs 0).leaves.length ∧ (stTo seed l i).notes = (txsTo seed (i + 1) S0 b.txs 0).notes) := hid (by rw [hp0, hS0]; exact ⟨rfl, rfl⟩)
      clear e5 htx hbi hp0 hS0
      rw [HI2.out.1]
      rw [HI2.out.2] at HI
      clear HI2
      go_wp2_with fail
      go_loopw [5, 6, 9] (fun ov pv kv wr => ∃ k : Nat, k ≤ b.txs.length ∧ pv = .int .i64 ((txsTo seed (i + 1) S0 b.txs k).leaves.length : Int) ∧ kv = .int .i64 k ∧ Hid (FrN w wr ov (txsTo seed (i + 1) S0 b.txs k).notes)) (fun _ _ kv _ => b.txs.length - (intOf kv).toNat)
      case atStart => exact ⟨0, by omega, rfl, rfl, HI⟩
      case round =>
        clear HI
        obtain ⟨k, hk, rfl, rfl, HK⟩ := hrel
        have hk0 : (0 : Int) ≤ (k : Int) := Int.natCast_nonneg _
        obtain ⟨f5, -⟩ := HE.out wr HK.out.2.1
        by_cases hkt : k < b.txs.length
        · have hktB : decide ((k : Int) < (b.txs.length : Int)) = true := by simp; omega
          have hkl : (k : Int) < (b.txs.length : Int) := by omega
          obtain ⟨t, htk⟩ : ∃ t, b.txs[k]? = some t := ⟨_, List.getElem?_eq_getElem hkt⟩
          have TS := hid (BS.out.t t (List.mem_of_getElem? htk))
          have TV := hid (BV.out t (List.mem_of_getElem? htk))
          have HTN := hid (txsTo_succ (seed := seed) (h := i + 1) (S := S0) htk)
          have HSK := hid (HSB.out k hk)
          obtain ⟨q2, o2, ma, mc, oa, oc, pa, pc, rfl, hrt, e0, e1, e2, e3, e4, e5, e6, e7, e8, e9⟩ := (HE.out w (Ext.refl w)).2.at htk
          have HRT : Hid (∀ u, Ext w u → RdT u t (.slice ma t.marks.length mc) (.slice oa t.outs.length oc) (.slice pa t.proof.length pc)) := hid fun u ku => hrt.ext ku
          replace e0 := HK.out.2.1.cell_some e0
          replace e1 := HK.out.2.1.cell_some e1
          replace e2 := HK.out.2.1.cell_some e2
          replace e3 := HK.out.2.1.cell_some e3
          replace e4 := HK.out.2.1.cell_some e4
          replace e5 := HK.out.2.1.cell_some e5
          replace e6 := HK.out.2.1.cell_some e6
          replace e7 := HK.out.2.1.cell_some e7
          replace e8 := HK.out.2.1.cell_some e8
          replace e9 := HK.out.2.1.cell_some e9
          obtain ⟨S, hS⟩ : ∃ S, S = txsTo seed (i + 1) S0 b.txs k := ⟨_, rfl⟩
          rw [← hS] at HK HTN HSK ⊢
          clear hrt htk hS
          go_upto_region 11 with fail
          obtain ⟨TB, hTB⟩ : ∃ TB, TB = wr.heap.size := ⟨_, rfl⟩
          obtain ⟨w2, hw2⟩ : ∃ w2, w2 = wr.alloc (.cells #[uv t.anchor, .slice ma t.marks.length mc, .slice oa t.outs.length oc, uv t.deposit, uv t.withdraw, uv t.fee, uv t.account, uv t.nonce, .int .i64 t.expiry, .slice pa t.proof.length pc] 101) := ⟨_, rfl⟩
          rw [← hw2, ← hTB]
          have hy2 : Ext wr w2 := by rw [hw2]; exact (Ext.refl wr).alloc _
          have hbt : w2.heap[TB]? = some (.cells #[uv t.anchor, .slice ma t.marks.length mc, .slice oa t.outs.length oc, uv t.deposit, uv t.withdraw, uv t.fee, uv t.account, uv t.nonce, .int .i64 t.expiry, .slice pa t.proof.length pc] 101 (0, 0)) := by rw [hw2, hTB]; exact heap_new _ _
          have HBT := hid hbt
          have K2 := hid (HK.out.ext hy2)
          obtain ⟨na, nc, rfl, -⟩ := ownsRow_rd HK.out.1
          have HNT : Hid (∀ k, blk (.slice na S.notes.length nc) = some k → k ≠ TB) := hid fun k e => by
            have := ownsRow_lt HK.out.1 e
            omega
          have HWT : Hid (w.heap.size ≤ TB) := hid (by rw [hTB]; exact HK.out.2.1.size)
          have hnI : (S.notes.length : Int) ≤ 900000000 := by have := HSK.out.1.n; have := HSK.out.2; omega
          clear hw2 hy2 hbt hTB HK e0 e1 e2 e3 e4 e5 e6 e7 e8 e9 f5
          go_wp2_with fail
          go_loopw [11] (fun jv wr => ∃ j : Nat, j ≤ S.notes.length ∧ jv = .int .i64 j ∧ Hid (FrN w wr (.slice na S.notes.length nc) (spendTo ks (i + 1) t.marks S j).notes ∧ wr.heap[TB]? = some (.cells #[uv t.anchor, .slice ma t.marks.length mc, .slice oa t.outs.length oc, uv t.deposit, uv t.withdraw, uv t.fee, uv t.account, uv t.nonce, .int .i64 t.expiry, .slice pa t.proof.length pc] 101 (0, 0)))) (fun jv _ => S.notes.length - (intOf jv).toNat)
          case atStart => exact ⟨0, by omega, rfl, hid ⟨by rw [show spendTo ks (i + 1) t.marks S 0 = S by simp [spendTo]]; exact K2.out, HBT.out⟩⟩
          case round =>
            clear K2 HBT
            obtain ⟨j, hj, rfl, HJ1⟩ := hrel
            have hj0 : (0 : Int) ≤ (j : Int) := Int.natCast_nonneg _
            by_cases hjt : j < S.notes.length
            · have hjtB : decide ((j : Int) < (S.notes.length : Int)) = true := by simp; omega
              have hjl : (j : Int) < (S.notes.length : Int) := by omega
              obtain ⟨x, hx⟩ : ∃ x, S.notes[j]? = some x := ⟨_, List.getElem?_eq_getElem hjt⟩
              have hx2 : (spendTo ks (i + 1) t.marks S j).notes[j]? = some x := by rw [spendTo_at (Nat.le_refl j)]; exact hx
              have hnl : (spendTo ks (i + 1) t.marks S j).notes.length = S.notes.length := spendTo_length
              obtain ⟨g, rfl⟩ : ∃ g, na = some ⟨g, 0, none⟩ := own_shape HJ1.out.1.1 (by rw [hnl]; omega)
              have hrow : ∀ m u, m < 8 → (owCells x)[m]? = some u → wr.cell? ⟨g, j * 8 + m, none⟩ = some u := by
                have ho := HJ1.out.1.1
                unfold OwnN at ho
                rw [hnl] at ho
                obtain ⟨b', o', e, hc⟩ := rows_at owCells_len (by omega) hnl.symm (ownsRow_rd ho).weak hx2
                injection e with e
                injection e with e1 e2
                subst e1 e2
                intro m u hm hu
                have := hc m u hm hu
                rwa [Nat.zero_add] at this
              have f7 : wr.cell? ⟨g, j * 8 + 7, none⟩ = some (.int .i64 (x.spent : Int)) := hrow 7 _ (by omega) rfl
              have f2 : wr.cell? ⟨g, j * 8 + 2, none⟩ = some (uv x.note.rho) := hrow 2 _ (by omega) rfl
              have HC14 : Hid (∀ u, Ext wr u → (u.cell? ⟨TB, 1, none⟩ = some (.slice ma t.marks.length mc) ∧ u.cell? ⟨g, j * 8 + 7, none⟩ = some (.int .i64 (x.spent : Int)) ∧ u.cell? ⟨g, j * 8 + 2, none⟩ = some (uv x.note.rho)) ∧ Ext wr u) := hid fun u ku => ⟨⟨cell_of (ku.heap_some HJ1.out.2) 1, ku.cell_some f7, ku.cell_some f2⟩, ku⟩
              have HX := hid hx
              have HX2 := hid hx2
              obtain ⟨cur, hcur⟩ := own_box HJ1.out.1.1
              have HCUR := hid hcur
              clear hrow hx hx2 hnl f7 f2 hcur
              by_cases hsp : x.spent = 0
              case neg =>
                have hspB : decide ((x.spent : Int) = 0) = false := decide_eq_false (by omega)
                have hspB2 : ((x.spent : Int) == 0) = false := by rw [beq_eq_false_iff_ne]; omega
                have hms := spendTo_miss (key := ks) (h := i + 1) (marks := t.marks) HX.out (by unfold hitW; rw [decide_eq_false hsp]; rfl)
                have HN := hid (And.intro (show FrN w wr (.slice (some ⟨g, 0, none⟩) S.notes.length nc) (spendTo ks (i + 1) t.marks S (j + 1)).notes by rw [hms]; exact HJ1.out.1) HJ1.out.2)
                clear hms
                go_wp2_with fail
                refine wp_region_T (fun u => (u.cell? ⟨TB, 1, none⟩ = some (.slice ma t.marks.length mc) ∧ u.cell? ⟨g, j * 8 + 7, none⟩ = some (.int .i64 (x.spent : Int)) ∧ u.cell? ⟨g, j * 8 + 2, none⟩ = some (uv x.note.rho)) ∧ Ext wr u) 17 [(0, true), (1, true), (2, true), (3, true), (4, true), (5, true), (6, true), (7, true), (8, true), (9, true), (10, true), (11, true), (12, true), (13, true), (14, true), (15, true), (16, false), (17, false), (18, false)] (by kernel_rfl) (by kernel_rfl) (by intro c a d v w h; cases d <;> exact h) ?_
                intro ops hops
                have HSS := HC14.out _ (Ext.refl wr).drew
                iterate 16
                  first
                    | (refine wpT_take (v := ?_) (by rw [hops, List.getElem?_toArray]; rfl) (by first | rfl | (rw [hops]; rfl)) ?_ HSS ?_
                       rotate_left
                       · intro v h; go_simp; with_reducible rfl
                       simp only [Act.put, List.getElem_toArray, List.getElem_cons_zero, List.getElem_cons_succ, List.setIfInBounds_toArray, List.set_cons_zero, List.set_cons_succ])
                    | (refine wpT_pass (by rw [hops, List.getElem?_toArray]; rfl) (by first | rfl | (rw [hops]; rfl)) HSS ?_
                       simp only [Act.put, List.getElem_toArray, List.getElem_cons_zero, List.getElem_cons_succ, List.setIfInBounds_toArray, List.set_cons_zero, List.set_cons_succ])
                refine wpT_none (by rw [hops, List.getElem?_toArray]; rfl) (by first | rfl | (rw [hops]; rfl)) ⟨fun _ => HSS, ?_⟩
                simp only [Act.put, List.getElem_toArray, List.getElem_cons_zero, List.getElem_cons_succ, List.setIfInBounds_toArray, List.set_cons_zero, List.set_cons_succ]
                clear HSS
                refine wpT_none (by rw [hops, List.getElem?_toArray]; rfl) (by first | rfl | (rw [hops]; rfl)) ⟨fun h => absurd h (by decide), ?_⟩
                simp only [Act.put, List.getElem_toArray, List.getElem_cons_zero, List.getElem_cons_succ, List.setIfInBounds_toArray, List.set_cons_zero, List.set_cons_succ]
                refine wpT_step (by rw [hops, List.getElem?_toArray]; rfl) (by first | rfl | (rw [hops]; rfl)) ?_
                intro K hK
                go_wp2_with fail
                try (with_reducible refine ⟨fun h => absurd h (by decide), ?_⟩)
                try rw [wpT_nil]
                try clear hops ops
                go_wp2_with fail
                go_roundw
                case rel => exact ⟨j + 1, by omega, by go_num, hid ⟨HN.out.1.ext (Ext.refl wr).drew, (Ext.refl wr).drew.heap_some HN.out.2⟩⟩
                case measure => simp [intOf]; omega
              have hspI : (x.spent : Int) = 0 := by omega
              have MK := hid (rMark_any ks x.note.rho)
              obtain ⟨mk, hmk⟩ : ∃ mk, mk = markW ks x.note.rho := ⟨_, rfl⟩
              rw [← hmk] at MK
              have HAS : Hid (∀ u, Ext w u → Calls Tryz.prog 75 #[.slice ma t.marks.length mc, uv mk] u fun e w' => e = .returned (.bool (t.marks.contains mk)) ∧ Ext u w') := hid fun u ku => by
                exact rHas_any _ t.marks mk u (HRT.out u ku).m TS.out.m
              obtain ⟨R, hR⟩ : ∃ R, R = t.marks.contains mk := ⟨_, rfl⟩
              rw [← hR] at HAS
              have HH2 : Hid (hitW ks t.marks x = R) := hid (by unfold hitW; rw [decide_eq_true hsp, Bool.true_and, ← hmk, hR])
              have HWX := hid HJ1.out.1.2.1
              clear hmk hR
              go_wp2_with fail
              refine wp_region_T (fun u => (u.cell? ⟨TB, 1, none⟩ = some (.slice ma t.marks.length mc) ∧ u.cell? ⟨g, j * 8 + 7, none⟩ = some (.int .i64 (x.spent : Int)) ∧ u.cell? ⟨g, j * 8 + 2, none⟩ = some (uv x.note.rho)) ∧ Ext wr u) 17 [(0, true), (1, true), (2, true), (3, true), (4, true), (5, true), (6, true), (7, true), (8, true), (9, true), (10, true), (11, true), (12, true), (13, true), (14, true), (15, true), (16, false), (17, false), (18, false)] (by kernel_rfl) (by kernel_rfl) (by intro c a d v w h; cases d <;> exact h) ?_
              intro ops hops
              have HSS := HC14.out _ (Ext.refl wr).drew
              iterate 16
                first
                  | (refine wpT_take (v := ?_) (by rw [hops, List.getElem?_toArray]; rfl) (by first | rfl | (rw [hops]; rfl)) ?_ HSS ?_
                     rotate_left
                     · intro v h; go_simp; with_reducible rfl
                     simp only [Act.put, List.getElem_toArray, List.getElem_cons_zero, List.getElem_cons_succ, List.setIfInBounds_toArray, List.set_cons_zero, List.set_cons_succ])
                  | (refine wpT_pass (by rw [hops, List.getElem?_toArray]; rfl) (by first | rfl | (rw [hops]; rfl)) HSS ?_
                     simp only [Act.put, List.getElem_toArray, List.getElem_cons_zero, List.getElem_cons_succ, List.setIfInBounds_toArray, List.set_cons_zero, List.set_cons_succ])
              refine wpT_step (by rw [hops, List.getElem?_toArray]; rfl) (by first | rfl | (rw [hops]; rfl)) ?_
              intro K hK
              go_wp2_with fail
              refine (MK.out _).mono ?_
              rintro e u1 ⟨rfl, hy⟩
              have HSS1 := HC14.out u1 (HSS.2.trans hy)
              clear hy HSS MK
              refine hK _ _ ⟨fun _ => HSS1, ?_⟩
              clear hK K
              refine wpT_step (by rw [hops, List.getElem?_toArray]; rfl) (by first | rfl | (rw [hops]; rfl)) ?_
              intro K hK
              go_wp2_with fail
              refine (HAS.out _ (HWX.out.trans HSS1.2)).mono ?_
              rintro e u2 ⟨rfl, hy⟩
              have HU := hid (HSS1.2.trans hy)
              clear hy HSS1 HAS
              refine hK _ _ ⟨fun h => absurd h (by decide), ?_⟩
              clear hK K
              refine wpT_step (by rw [hops, List.getElem?_toArray]; rfl) (by first | rfl | (rw [hops]; rfl)) ?_
              intro K hK
              go_wp2_with fail
              try (with_reducible refine ⟨fun h => absurd h (by decide), ?_⟩)
              try rw [wpT_nil]
              try clear hops ops
              cases R with
              | false =>
                have hms := spendTo_miss (key := ks) (h := i + 1) (marks := t.marks) HX.out HH2.out
                have HN := hid (And.intro (show FrN w u2 (.slice (some ⟨g, 0, none⟩) S.notes.length nc) (spendTo ks (i + 1) t.marks S (j + 1)).notes by rw [hms]; exact HJ1.out.1.ext HU.out) (HU.out.heap_some HJ1.out.2))
                clear hms
                go_wp2_with fail
                go_roundw
                case rel => exact ⟨j + 1, by omega, by go_num, HN⟩
                case measure => simp [intOf]; omega
              | true =>
                have hms := spendTo_hit (key := ks) (h := i + 1) (marks := t.marks) HX.out HH2.out
                have hF := (HJ1.out.1.ext HU.out).spend HX2.out (i + 1)
                rw [show ((i + 1 : Nat) : Int) = (i : Int) + 1 by push_cast; rfl] at hF
                have hgT : g ≠ TB := HNT.out g rfl
                have HN := hid (And.intro (show FrN w (u2.setCell ⟨g, j * 8 + 7, none⟩ (.int .i64 ((i : Int) + 1))) (.slice (some ⟨g, 0, none⟩) S.notes.length nc) (spendTo ks (i + 1) t.marks S (j + 1)).notes by rw [hms]; exact hF) (show (u2.setCell ⟨g, j * 8 + 7, none⟩ (.int .i64 ((i : Int) + 1))).heap[TB]? = _ from (heap_setCell_ne hgT.symm _ _).trans (HU.out.heap_some HJ1.out.2)))
                have fz := frozen_of (HU.out.heap_some HCUR.out)
                have f7 := (HC14.out u2 HU.out).1.2.1
                clear hms hF hgT
                go_wp2_with fail
                go_roundw
                case rel => exact ⟨j + 1, by omega, by go_num, HN⟩
                case measure => simp [intOf]; omega
            · have hjtB : decide ((j : Int) < (S.notes.length : Int)) = false := by simp; omega
              obtain rfl : j = S.notes.length := by omega
              obtain ⟨S1, hS1⟩ : ∃ S1, S1 = spendTo ks (i + 1) t.marks S S.notes.length := ⟨_, rfl⟩
              have hS1n : S1.notes.length = S.notes.length := by rw [hS1]; exact spendTo_length
              have hS1l : S1.leaves = S.leaves := by rw [hS1]; rfl
              have HTN2 : Hid (txsTo seed (i + 1) S0 b.txs (k + 1) = recvTo seed (i + 1) t S1 t.outs.length) := hid (by rw [HTN.out, hS1, HKS.out]; rfl)
              have HLJ : Hid (∀ j, j ≤ t.outs.length → (recvTo seed (i + 1) t S1 j).leaves.length = S.leaves.length + j) := hid fun j hj => by rw [recvTo_leaves, List.length_append, List.length_map, List.length_take, hS1l]; omega
              have HNJ : Hid (∀ j, (recvTo seed (i + 1) t S1 j).notes.length ≤ S.notes.length + j) := hid fun j => by have := recvTo_nl seed (i + 1) t S1 j; omega
              have D0 : Hid (FrN w wr (.slice na S.notes.length nc) (recvTo seed (i + 1) t S1 0).notes ∧ wr.heap[TB]? = some (.cells #[uv t.anchor, .slice ma t.marks.length mc, .slice oa t.outs.length oc, uv t.deposit, uv t.withdraw, uv t.fee, uv t.account, uv t.nonce, .int .i64 t.expiry, .slice pa t.proof.length pc] 101 (0, 0)) ∧ ∀ k, blk (.slice na S.notes.length nc) = some k → k ≠ TB) := hid ⟨by rw [recvTo, hS1]; exact HJ1.out.1, HJ1.out.2, HNT.out⟩
              have hlz : S.leaves.length = (recvTo seed (i + 1) t S1 0).leaves.length := by rw [HLJ.out 0 (Nat.zero_le _)]; rfl
              have HSLB : Hid (S.leaves.length ≤ 900000000 ∧ S.notes.length ≤ 900000000) := hid ⟨HSK.out.2, by have := HSK.out.1.n; have := HSK.out.2; omega⟩
              have hoI : (t.outs.length : Int) ≤ 1000 := by have := TS.out.o; omega
              rw [hlz]
              clear hS1 hS1n hS1l hlz HJ1 HNT hnI
              go_wp2_with fail
              go_loopw [5, 6, 12] (fun ov pv jv wr => ∃ j : Nat, j ≤ t.outs.length ∧ pv = .int .i64 ((recvTo seed (i + 1) t S1 j).leaves.length : Int) ∧ jv = .int .i64 j ∧ Hid (FrN w wr ov (recvTo seed (i + 1) t S1 j).notes ∧ wr.heap[TB]? = some (.cells #[uv t.anchor, .slice ma t.marks.length mc, .slice oa t.outs.length oc, uv t.deposit, uv t.withdraw, uv t.fee, uv t.account, uv t.nonce, .int .i64 t.expiry, .slice pa t.proof.length pc] 101 (0, 0)) ∧ ∀ k, blk ov = some k → k ≠ TB)) (fun _ _ jv _ => t.outs.length - (intOf jv).toNat)
              case atStart => exact ⟨0, by omega, rfl, rfl, D0⟩
              case round =>
                clear D0
                obtain ⟨j, hj, rfl, rfl, HD⟩ := hrel
                have hj0 : (0 : Int) ≤ (j : Int) := Int.natCast_nonneg _
                have hb2 := cell_of HD.out.2.1 2
                by_cases hjt : j < t.outs.length
                · have hjtB : decide ((j : Int) < (t.outs.length : Int)) = true := by simp; omega
                  have hjl : (j : Int) < (t.outs.length : Int) := by omega
                  obtain ⟨x, hx⟩ : ∃ x, t.outs[j]? = some x := ⟨_, List.getElem?_eq_getElem hjt⟩
                  have HRS := hid (recvTo_succ (seed := seed) (h := i + 1) (S := S1) hx)
                  have HVP := hid (out_pt TV.out (List.mem_of_getElem? hx))
                  have hPL := HLJ.out j hj
                  obtain ⟨P, hP⟩ : ∃ P, P = (recvTo seed (i + 1) t S1 j).leaves.length := ⟨_, rfl⟩
                  have HPP : Hid ((recvTo seed (i + 1) t S1 (j + 1)).leaves.length = P + 1) := hid (by rw [HLJ.out (j + 1) (by omega), hP, hPL]; omega)
                  have hPI : (P : Int) ≤ 1000000000 := by have := HSLB.out.1; have := TS.out.o; omega
                  have hP0 : (0 : Int) ≤ (P : Int) := Int.natCast_nonneg _
                  obtain ⟨M, hM⟩ : ∃ M : List OwT, M = (recvTo seed (i + 1) t S1 j).notes := ⟨_, rfl⟩
                  have HML : Hid (M.length ≤ 1000000000) := hid (by rw [hM]; have := HNJ.out j; have := HSLB.out.2; have := TS.out.o; omega)
                  have HRN : Hid ((recvTo seed (i + 1) t S1 (j + 1)).notes = M ++ gotW (i + 1) P (findW seed x (rhoT t j))) := hid (by rw [HRS.out, hM, hP]; rfl)
                  rw [← hP]
                  rw [← hM] at HD
                  obtain ⟨q3, o3, ca, cc, rfl, g0, g1, g2, g3, hrc⟩ := (HRT.out w (Ext.refl w)).o.at hx
                  have HOC : Hid (∀ u, Ext w u → (u.cell? ⟨q3, o3 + j * 4, none⟩ = some (uv x.commit) ∧ u.cell? ⟨q3, o3 + j * 4 + 1, none⟩ = some (uv x.p.a) ∧ u.cell? ⟨q3, o3 + j * 4 + 2, none⟩ = some (uv x.p.b) ∧ u.cell? ⟨q3, o3 + j * 4 + 3, none⟩ = some (.slice ca x.cipher.length cc)) ∧ RdU' u (.slice ca x.cipher.length cc) x.cipher) := hid fun u ku => ⟨⟨ku.cell_some g0, ku.cell_some g1, ku.cell_some g2, ku.cell_some g3⟩, hrc.ext ku⟩
                  have HXC := hid (TS.out.c x (List.mem_of_getElem? hx))
                  have HJ100 : Hid (j ≤ 100000) := hid (by have := TS.out.o; omega)
                  obtain ⟨rho, hrho⟩ : ∃ rho, rho = rhoT t j := ⟨_, rfl⟩
                  have RHO : Hid (∀ u, Ext w u → Calls Tryz.prog 56 #[txVal t (.slice ma t.marks.length mc) (.slice (some ⟨q3, o3, none⟩) t.outs.length oc) (.slice pa t.proof.length pc), .int .i64 (j : Int)] u fun e w' => e = .returned (uv rho) ∧ Ext u w') := hid fun u ku => by rw [hrho]; exact rRho_any t _ _ _ j u (HRT.out u ku) TS.out HJ100.out
                  have HRB : Hid (rho < big) := hid (by rw [hrho]; exact hashU_ltW _ _)
                  have TRY : Hid (∀ u (a : Nat), Ext w u → a < 4 → Calls Tryz.prog 76 #[uv seed, .int .i64 (a : Int), .agg #[uv x.commit, uv x.p.a, uv x.p.b, .slice ca x.cipher.length cc], uv rho] u fun e w' => e = .returned (nb (tryW seed a x rho)) ∧ Ext u w') := hid fun u a ku ha => by
                    rw [tryW_ref HVP.out HRB.out ha]
                    exact rTryL_any seed a x.commit rho x.p _ x.cipher u (HOC.out u ku).2 (by have := HXC.out; omega)
                  rw [← hrho] at HRN
                  have E0 : Hid (wr.heap[TB]? = some (.cells #[uv t.anchor, .slice ma t.marks.length mc, .slice (some ⟨q3, o3, none⟩) t.outs.length oc, uv t.deposit, uv t.withdraw, uv t.fee, uv t.account, uv t.nonce, .int .i64 t.expiry, .slice pa t.proof.length pc] 101 (0, 0)) ∧ FrN w wr u5 M ∧ ∀ k, blk u5 = some k → k ≠ TB) := hid ⟨HD.out.2.1, HD.out.1, HD.out.2.2⟩
                  clear hx hPL hP hM g0 g1 g2 g3 hrc HXC hrho HVP HRS
                  go_wp2_with fail
                  clear hb2 HD
                  go_loopw [5, 13, 14] (fun ov fv av wr => ∃ (a : Nat) (f : Bool), a ≤ 4 ∧ fv = .bool f ∧ av = .int .i64 a ∧ Hid (wr.heap[TB]? = some (.cells #[uv t.anchor, .slice ma t.marks.length mc, .slice (some ⟨q3, o3, none⟩) t.outs.length oc, uv t.deposit, uv t.withdraw, uv t.fee, uv t.account, uv t.nonce, .int .i64 t.expiry, .slice pa t.proof.length pc] 101 (0, 0)) ∧ (∀ k, blk ov = some k → k ≠ TB) ∧ (f = false → findTo seed x rho a = none ∧ FrN w wr ov M) ∧ (f = true → FrN w wr ov (M ++ gotW (i + 1) P (findW seed x rho))))) (fun _ _ av _ => 4 - (intOf av).toNat)
                  case atStart => exact ⟨0, false, by omega, rfl, rfl, hid ⟨E0.out.1, E0.out.2.2, fun _ => ⟨rfl, E0.out.2.1⟩, fun h => by cases h⟩⟩
                  case round =>
                    clear E0
                    obtain ⟨a, f, ha, rfl, rfl, HE2⟩ := hrel
                    have ha0 : (0 : Int) ≤ (a : Int) := Int.natCast_nonneg _
                    have haI : (a : Int) ≤ 4 := by omega
                    cases f with
                    | true =>
                      have HX := hid (HE2.out.2.2.2 rfl)
                      by_cases hat : a < 4
                      · have hatB : decide ((a : Int) < 4) = true := decide_eq_true (by omega)
                        have HN := hid (And.intro (show FrN w wr u5 (recvTo seed (i + 1) t S1 (j + 1)).notes by rw [HRN.out]; exact HX.out) (And.intro HE2.out.1 HE2.out.2.1))
                        clear HE2 HX
                        go_wp2_with fail
                        go_roundw
                        case rel => exact ⟨j + 1, by omega, by rw [HPP.out]; go_num, by go_num, HN⟩
                        case measure => simp [intOf]; omega
                      · have hatB : decide ((a : Int) < 4) = false := decide_eq_false (by omega)
                        have HN := hid (And.intro (show FrN w wr u5 (recvTo seed (i + 1) t S1 (j + 1)).notes by rw [HRN.out]; exact HX.out) (And.intro HE2.out.1 HE2.out.2.1))
                        clear HE2 HX
                        go_wp2_with fail
                        go_roundw
                        case rel => exact ⟨j + 1, by omega, by rw [HPP.out]; go_num, by go_num, HN⟩
                        case measure => simp [intOf]; omega
                    | false =>
                      have HF := hid (HE2.out.2.2.1 rfl)
                      by_cases hat : a < 4
                      case neg =>
                        have hatB : decide ((a : Int) < 4) = false := decide_eq_false (by omega)
                        obtain rfl : a = 4 := by omega
                        have HX := hid (show FrN w wr u5 (M ++ gotW (i + 1) P (findW seed x rho)) by rw [findW_four HF.out.1]; simpa [gotW] using HF.out.2)
                        have HN := hid (And.intro (show FrN w wr u5 (recvTo seed (i + 1) t S1 (j + 1)).notes by rw [HRN.out]; exact HX.out) (And.intro HE2.out.1 HE2.out.2.1))
                        clear HE2 HX
                        go_wp2_with fail
                        go_roundw
                        case rel => exact ⟨j + 1, by omega, by rw [HPP.out]; go_num, by go_num, HN⟩
                        case measure => simp [intOf]; omega
                      have hatB : decide ((a : Int) < 4) = true := decide_eq_true (by omega)
                      have haI3 : (a : Int) < 4 := by omega
                      have HAT := hid hat
                      have HSE : Hid (∀ u, Ext wr u → ((u.cell? ⟨TB, 0, none⟩ = some (uv t.anchor) ∧ u.cell? ⟨TB, 1, none⟩ = some (.slice ma t.marks.length mc) ∧ u.cell? ⟨TB, 2, none⟩ = some (.slice (some ⟨q3, o3, none⟩) t.outs.length oc) ∧ u.cell? ⟨TB, 3, none⟩ = some (uv t.deposit) ∧ u.cell? ⟨TB, 4, none⟩ = some (uv t.withdraw) ∧ u.cell? ⟨TB, 5, none⟩ = some (uv t.fee) ∧ u.cell? ⟨TB, 6, none⟩ = some (uv t.account) ∧ u.cell? ⟨TB, 7, none⟩ = some (uv t.nonce) ∧ u.cell? ⟨TB, 8, none⟩ = some (.int .i64 t.expiry) ∧ u.cell? ⟨TB, 9, none⟩ = some (.slice pa t.proof.length pc)) ∧ (u.cell? ⟨q3, o3 + j * 4, none⟩ = some (uv x.commit) ∧ u.cell? ⟨q3, o3 + j * 4 + 1, none⟩ = some (uv x.p.a) ∧ u.cell? ⟨q3, o3 + j * 4 + 2, none⟩ = some (uv x.p.b) ∧ u.cell? ⟨q3, o3 + j * 4 + 3, none⟩ = some (.slice ca x.cipher.length cc))) ∧ Ext wr u) := hid fun u ku => ⟨⟨ten_cells (ku.heap_some HE2.out.1), (HOC.out u (HF.out.2.2.1.trans ku)).1⟩, ku⟩
                      obtain ⟨r, hr⟩ : ∃ r, r = tryW seed a x rho := ⟨_, rfl⟩
                      have TR : Hid (∀ u, Ext w u → Calls Tryz.prog 76 #[uv seed, .int .i64 (a : Int), .agg #[uv x.commit, uv x.p.a, uv x.p.b, .slice ca x.cipher.length cc], uv rho] u fun e w' => e = .returned (nb r) ∧ Ext u w') := hid fun u ku => by rw [hr]; exact TRY.out u a ku hat
                      have HR := hid hr
                      have HW0 := hid HF.out.2.2.1
                      obtain ⟨⟨n0, n1, n2, n3⟩, ok⟩ := r
                      change Hid (∀ u, Ext w u → Calls Tryz.prog 76 #[uv seed, .int .i64 (a : Int), .agg #[uv x.commit, uv x.p.a, uv x.p.b, .slice ca x.cipher.length cc], uv rho] u fun e w' => e = .returned (.tuple #[.agg #[uv n0, uv n1, uv n2, uv n3], .bool ok]) ∧ Ext u w') at TR
                      clear hr hat
                      go_wp2_with fail
                      refine wp_region_N (fun u => ((u.cell? ⟨TB, 0, none⟩ = some (uv t.anchor) ∧ u.cell? ⟨TB, 1, none⟩ = some (.slice ma t.marks.length mc) ∧ u.cell? ⟨TB, 2, none⟩ = some (.slice (some ⟨q3, o3, none⟩) t.outs.length oc) ∧ u.cell? ⟨TB, 3, none⟩ = some (uv t.deposit) ∧ u.cell? ⟨TB, 4, none⟩ = some (uv t.withdraw) ∧ u.cell? ⟨TB, 5, none⟩ = some (uv t.fee) ∧ u.cell? ⟨TB, 6, none⟩ = some (uv t.account) ∧ u.cell? ⟨TB, 7, none⟩ = some (uv t.nonce) ∧ u.cell? ⟨TB, 8, none⟩ = some (.int .i64 t.expiry) ∧ u.cell? ⟨TB, 9, none⟩ = some (.slice pa t.proof.length pc)) ∧ (u.cell? ⟨q3, o3 + j * 4, none⟩ = some (uv x.commit) ∧ u.cell? ⟨q3, o3 + j * 4 + 1, none⟩ = some (uv x.p.a) ∧ u.cell? ⟨q3, o3 + j * 4 + 2, none⟩ = some (uv x.p.b) ∧ u.cell? ⟨q3, o3 + j * 4 + 3, none⟩ = some (.slice ca x.cipher.length cc))) ∧ Ext wr u) 16 17 (by kernel_rfl) (by kernel_rfl) ?_
                      intro ops hops
                      have HR0 := HSE.out _ (Ext.refl wr).drew
                      refine N_take (i := 0) (v := ?_) (by rw [hops, List.getElem?_toArray]; rfl) (by rw [hops]; kernel_rfl) (by intro c a d v w h; cases d <;> exact h) (by first | rfl | (rw [hops]; rfl)) ?_ HR0 ?_
                      rotate_left
                      · intro v h; go_simp; with_reducible rfl
                      simp only [Act.put, List.getElem_toArray, List.getElem_cons_zero, List.getElem_cons_succ, List.setIfInBounds_toArray, List.set_cons_zero, List.set_cons_succ]
                      refine N_take (i := 1) (v := ?_) (by rw [hops, List.getElem?_toArray]; rfl) (by rw [hops]; kernel_rfl) (by intro c a d v w h; cases d <;> exact h) (by first | rfl | (rw [hops]; rfl)) ?_ HR0 ?_
                      rotate_left
                      · intro v h; go_simp; with_reducible rfl
                      simp only [Act.put, List.getElem_toArray, List.getElem_cons_zero, List.getElem_cons_succ, List.setIfInBounds_toArray, List.set_cons_zero, List.set_cons_succ]
                      refine N_take (i := 2) (v := ?_) (by rw [hops, List.getElem?_toArray]; rfl) (by rw [hops]; kernel_rfl) (by intro c a d v w h; cases d <;> exact h) (by first | rfl | (rw [hops]; rfl)) ?_ HR0 ?_
                      rotate_left
                      · intro v h; go_simp; with_reducible rfl
                      simp only [Act.put, List.getElem_toArray, List.getElem_cons_zero, List.getElem_cons_succ, List.setIfInBounds_toArray, List.set_cons_zero, List.set_cons_succ]
                      refine N_take (i := 3) (v := ?_) (by rw [hops, List.getElem?_toArray]; rfl) (by rw [hops]; kernel_rfl) (by intro c a d v w h; cases d <;> exact h) (by first | rfl | (rw [hops]; rfl)) ?_ HR0 ?_
                      rotate_left
                      · intro v h; go_simp; with_reducible rfl
                      simp only [Act.put, List.getElem_toArray, List.getElem_cons_zero, List.getElem_cons_succ, List.setIfInBounds_toArray, List.set_cons_zero, List.set_cons_succ]
                      refine N_take (i := 4) (v := ?_) (by rw [hops, List.getElem?_toArray]; rfl) (by rw [hops]; kernel_rfl) (by intro c a d v w h; cases d <;> exact h) (by first | rfl | (rw [hops]; rfl)) ?_ HR0 ?_
                      rotate_left
                      · intro v h; go_simp; with_reducible rfl
                      simp only [Act.put, List.getElem_toArray, List.getElem_cons_zero, List.getElem_cons_succ, List.setIfInBounds_toArray, List.set_cons_zero, List.set_cons_succ]
                      refine N_take (i := 5) (v := ?_) (by rw [hops, List.getElem?_toArray]; rfl) (by rw [hops]; kernel_rfl) (by intro c a d v w h; cases d <;> exact h) (by first | rfl | (rw [hops]; rfl)) ?_ HR0 ?_
                      rotate_left
                      · intro v h; go_simp; with_reducible rfl
                      simp only [Act.put, List.getElem_toArray, List.getElem_cons_zero, List.getElem_cons_succ, List.setIfInBounds_toArray, List.set_cons_zero, List.set_cons_succ]
                      refine N_take (i := 6) (v := ?_) (by rw [hops, List.getElem?_toArray]; rfl) (by rw [hops]; kernel_rfl) (by intro c a d v w h; cases d <;> exact h) (by first | rfl | (rw [hops]; rfl)) ?_ HR0 ?_
                      rotate_left
                      · intro v h; go_simp; with_reducible rfl
                      simp only [Act.put, List.getElem_toArray, List.getElem_cons_zero, List.getElem_cons_succ, List.setIfInBounds_toArray, List.set_cons_zero, List.set_cons_succ]
                      refine N_take (i := 7) (v := ?_) (by rw [hops, List.getElem?_toArray]; rfl) (by rw [hops]; kernel_rfl) (by intro c a d v w h; cases d <;> exact h) (by first | rfl | (rw [hops]; rfl)) ?_ HR0 ?_
                      rotate_left
                      · intro v h; go_simp; with_reducible rfl
                      simp only [Act.put, List.getElem_toArray, List.getElem_cons_zero, List.getElem_cons_succ, List.setIfInBounds_toArray, List.set_cons_zero, List.set_cons_succ]
                      refine N_take (i := 8) (v := ?_) (by rw [hops, List.getElem?_toArray]; rfl) (by rw [hops]; kernel_rfl) (by intro c a d v w h; cases d <;> exact h) (by first | rfl | (rw [hops]; rfl)) ?_ HR0 ?_
                      rotate_left
                      · intro v h; go_simp; with_reducible rfl
                      simp only [Act.put, List.getElem_toArray, List.getElem_cons_zero, List.getElem_cons_succ, List.setIfInBounds_toArray, List.set_cons_zero, List.set_cons_succ]
                      have hal : ∀ Q, Alloc1 Tryz.prog ops Q 14 15 (.cells #[.int .u64 0, .int .u64 0, .int .u64 0, .int .u64 0] 37 (0, 0)) := fun Q => ⟨⟨_, by rw [hops, List.getElem?_toArray]; rfl, fun t => rfl, fun a w K hK => by go_wp2_with fail; exact hK⟩⟩
                      have hgr := CG1.grows (Z := .cells #[.int .u64 0, .int .u64 0, .int .u64 0, .int .u64 0] 37 (0, 0)) (w0 := wr) (F := fun _ => False) (S := fun u => ((u.cell? ⟨TB, 0, none⟩ = some (uv t.anchor) ∧ u.cell? ⟨TB, 1, none⟩ = some (.slice ma t.marks.length mc) ∧ u.cell? ⟨TB, 2, none⟩ = some (.slice (some ⟨q3, o3, none⟩) t.outs.length oc) ∧ u.cell? ⟨TB, 3, none⟩ = some (uv t.deposit) ∧ u.cell? ⟨TB, 4, none⟩ = some (uv t.withdraw) ∧ u.cell? ⟨TB, 5, none⟩ = some (uv t.fee) ∧ u.cell? ⟨TB, 6, none⟩ = some (uv t.account) ∧ u.cell? ⟨TB, 7, none⟩ = some (uv t.nonce) ∧ u.cell? ⟨TB, 8, none⟩ = some (.int .i64 t.expiry) ∧ u.cell? ⟨TB, 9, none⟩ = some (.slice pa t.proof.length pc)) ∧ (u.cell? ⟨q3, o3 + j * 4, none⟩ = some (uv x.commit) ∧ u.cell? ⟨q3, o3 + j * 4 + 1, none⟩ = some (uv x.p.a) ∧ u.cell? ⟨q3, o3 + j * 4 + 2, none⟩ = some (uv x.p.b) ∧ u.cell? ⟨q3, o3 + j * 4 + 3, none⟩ = some (.slice ca x.cipher.length cc))) ∧ Ext wr u) (fun k h => h.elim) (fun v k => HSE.out v (k.toExt fun _ h => h.elim))
                      refine WB_start (i1 := 14) (d1 := 15) (f := 7) (C := CG1 wr (fun _ => False) (.cells #[.int .u64 0, .int .u64 0, .int .u64 0, .int .u64 0] 37 (0, 0))) _ ⟨(Ext.refl wr).drew, fun h => by cases h⟩ (by rfl) (by rfl) (by rfl) ?_
                      refine WB_call (hal _) hgr (c := 9) (fun v => CLB (fun _ => v = uv rho) (CG1 wr (fun _ => False) (.cells #[.int .u64 0, .int .u64 0, .int .u64 0, .int .u64 0] 37 (0, 0)))) (by rw [hops]; kernel_rfl) (by rw [hops, List.getElem?_toArray]; rfl) rfl (fun t => rfl) (by decide) (fun v b1 x w' h => hgr.s _ _ _ h.2) ?_ ?_
                      · intro b1 x1 v hC K hK
                        simp only [Act.put, List.setIfInBounds_toArray, List.set_cons_zero, List.set_cons_succ]
                        go_wp2_with fail
                        refine (RHO.out v (HW0.out.trans hC.1)).mono ?_
                        rintro e v' ⟨rfl, hx⟩
                        exact hK _ _ ⟨rfl, hC.ext hx⟩ _ (by simp only [Act.put, List.setIfInBounds_toArray, List.set_cons_zero, List.set_cons_succ] <;> rfl)
                      intro v18
                      simp only [Act.put, List.setIfInBounds_toArray, List.set_cons_zero, List.set_cons_succ]
                      refine WB_pure (φ := v18 = uv rho) (fun b1 x1 v h => h.1) ?_
                      rintro rfl
                      have hgr3 := CLB.grows (p := fun _ => uv rho = uv rho) hgr (fun _ _ h _ => h)
                      refine WB_call (hal _) hgr3 (c := 10) (fun v => CLB (fun _ => v = .tuple #[.agg #[uv n0, uv n1, uv n2, uv n3], .bool ok]) (CG1 wr (fun _ => False) (.cells #[.int .u64 0, .int .u64 0, .int .u64 0, .int .u64 0] 37 (0, 0)))) (by rw [hops]; kernel_rfl) (by rw [hops, List.getElem?_toArray]; rfl) rfl (fun t => rfl) (by decide) (fun v b1 x w' h => hgr.s _ _ _ h.2) ?_ ?_
                      · intro b1 x1 v hC K hK
                        simp only [Act.put, List.setIfInBounds_toArray, List.set_cons_zero, List.set_cons_succ]
                        go_wp2_with fail
                        refine (TR.out v (HW0.out.trans hC.2.1)).mono ?_
                        rintro e v' ⟨rfl, hx⟩
                        exact hK _ _ ⟨rfl, hC.2.ext hx⟩ _ (by simp only [Act.put, List.setIfInBounds_toArray, List.set_cons_zero, List.set_cons_succ] <;> rfl)
                      intro v19
                      simp only [Act.put, List.setIfInBounds_toArray, List.set_cons_zero, List.set_cons_succ]
                      refine WB_pure (φ := v19 = .tuple #[.agg #[uv n0, uv n1, uv n2, uv n3], .bool ok]) (fun b1 x1 v h => h.1) ?_
                      rintro rfl
                      have hgr4 := CLB.grows (p := fun _ => Value.tuple #[.agg #[uv n0, uv n1, uv n2, uv n3], .bool ok] = .tuple #[.agg #[uv n0, uv n1, uv n2, uv n3], .bool ok]) hgr (fun _ _ h _ => h)
                      have hgr5 := CLB.grows (p := fun _ => True) hgr (fun _ _ _ _ => trivial)
                      refine WB_take (i := 11) (v := ?_) (fun _ _ _ h => (by first | exact hgr4.s _ _ _ h | exact hgr5.s _ _ _ h)) (by rw [hops, List.getElem?_toArray]; rfl) rfl (fun t => rfl) (by decide) (by rw [hops]; kernel_rfl) (by intro c a d v w h; cases d <;> exact h) ?_ ?_
                      rotate_left
                      · intro x1 v h
                        simp only [Act.put, List.setIfInBounds_toArray, List.set_cons_zero, List.set_cons_succ]
                        go_simp
                        with_reducible rfl
                      simp only [Act.put, List.setIfInBounds_toArray, List.set_cons_zero, List.set_cons_succ]
                      refine WB_take (i := 12) (v := ?_) (fun _ _ _ h => (by first | exact hgr4.s _ _ _ h | exact hgr5.s _ _ _ h)) (by rw [hops, List.getElem?_toArray]; rfl) rfl (fun t => rfl) (by decide) (by rw [hops]; kernel_rfl) (by intro c a d v w h; cases d <;> exact h) ?_ ?_
                      rotate_left
                      · intro x1 v h
                        simp only [Act.put, List.setIfInBounds_toArray, List.set_cons_zero, List.set_cons_succ]
                        go_simp
                        with_reducible rfl
                      simp only [Act.put, List.setIfInBounds_toArray, List.set_cons_zero, List.set_cons_succ]
                      refine WB_take (i := 13) (v := ?_) (fun _ _ _ h => (by first | exact hgr4.s _ _ _ h | exact hgr5.s _ _ _ h)) (by rw [hops, List.getElem?_toArray]; rfl) rfl (fun t => rfl) (by decide) (by rw [hops]; kernel_rfl) (by intro c a d v w h; cases d <;> exact h) ?_ ?_
                      rotate_left
                      · intro x1 v h
                        simp only [Act.put, List.setIfInBounds_toArray, List.set_cons_zero, List.set_cons_succ]
                        go_simp
                        with_reducible rfl
                      simp only [Act.put, List.setIfInBounds_toArray, List.set_cons_zero, List.set_cons_succ]
                      refine WB_last (hal _) (by first | exact hgr5 | exact hgr4) (by rw [hops]; kernel_rfl) ?_
                      rintro x1 v ⟨-, hxv, hz⟩
                      obtain ⟨NB, rfl, hg0, -, hgb⟩ := hz rfl
                      simp only [Act.put, List.setIfInBounds_toArray, List.set_cons_zero, List.set_cons_succ]
                      have k0 := cell_of hgb 0
                      have k1 := cell_of hgb 1
                      have k2 := cell_of hgb 2
                      have k3 := cell_of hgb 3
                      have kf := frozen_of hgb
                      refine N_one (i := 15) (by rw [hops, List.getElem?_toArray]; rfl) (by rw [hops]; kernel_rfl) (by first | rfl | (rw [hops]; rfl)) ?_
                      intro K hK
                      go_wp2_with fail
                      have kq1 : Kp (fun j => j = NB) v (v.setCell ⟨NB, 0, none⟩ (uv n0)) := (Kp.refl (fun j => j = NB) v).setCell (p := ⟨NB, 0, none⟩) (.inl rfl) _
                      have kq2 : Kp (fun j => j = NB) v ((v.setCell ⟨NB, 0, none⟩ (uv n0)).setCell ⟨NB, 1, none⟩ (uv n1)) := kq1.setCell (p := ⟨NB, 1, none⟩) (.inl rfl) _
                      have kq3 : Kp (fun j => j = NB) v (((v.setCell ⟨NB, 0, none⟩ (uv n0)).setCell ⟨NB, 1, none⟩ (uv n1)).setCell ⟨NB, 2, none⟩ (uv n2)) := kq2.setCell (p := ⟨NB, 2, none⟩) (.inl rfl) _
                      obtain ⟨hb7, hk7⟩ := four_setN (d0 := uv n0) (d1 := uv n1) (d2 := uv n2) (d3 := uv n3) hgb
                      have hx7 : Ext wr ((((v.setCell ⟨NB, 0, none⟩ (uv n0)).setCell ⟨NB, 1, none⟩ (uv n1)).setCell ⟨NB, 2, none⟩ (uv n2)).setCell ⟨NB, 3, none⟩ (uv n3)) := hxv.kp hk7 (fun j e => by omega)
                      refine ⟨by
                        obtain ⟨⟨⟨t0, t1, t2, t3, t4, t5, t6, t7, t8, t9⟩, p0, p1, p2, p3⟩, -⟩ := HSE.out v hxv
                        have hTN : TB ≠ NB := fun e => by have := heap_lt HE2.out.1; omega
                        have hqN : q3 ≠ NB := fun e => by
                          have h1 := cell_lt (HOC.out wr HW0.out).1.1
                          omega
                        refine ⟨⟨⟨?_, ?_, ?_, ?_, ?_, ?_, ?_, ?_, ?_, ?_⟩, ?_, ?_, ?_, ?_⟩, hx7⟩
                        · exact kq1.cell_some hTN t0
                        · exact kq2.cell_some hTN t1
                        · exact kq3.cell_some hTN t2
                        · exact hk7.cell_some hTN t3
                        · exact t4
                        · exact t5
                        · exact t6
                        · exact t7
                        · exact t8
                        · exact t9
                        · exact hk7.cell_some hqN p0
                        · exact hk7.cell_some hqN p1
                        · exact hk7.cell_some hqN p2
                        · exact hk7.cell_some hqN p3, ?_⟩
                      try rw [← hops]
                      refine N_one (i := 16) (by rw [hops, List.getElem?_toArray]; rfl) (by rw [hops]; kernel_rfl) (by first | rfl | (rw [hops]; rfl)) ?_
                      intro K hK
                      go_wp2_with fail
                      refine ⟨fun h => absurd h (by decide), ?_⟩
                      try rw [← hops]
                      refine N_done (by rw [hops]; kernel_rfl) ?_
                      have hx8 := hx7
                      generalize ((((v.setCell ⟨NB, 0, none⟩ (uv n0)).setCell ⟨NB, 1, none⟩ (uv n1)).setCell ⟨NB, 2, none⟩ (uv n2)).setCell ⟨NB, 3, none⟩ (uv n3)) = w4 at *
                      have HB7 := hid hb7
                      have HX7 := hid hx7
                      have HT7 := hid (hx7.heap_some HE2.out.1)
                      have HF7 := hid (HF.out.2.ext hx7)
                      clear k0 k1 k2 k3 kf hgb hal hgr hgr3 hgr4 hgr5 HR0 hz hxv hk7 hb7 hx7 hx8 kq1 kq2 kq3 HSE
                      clear hops ops
                      cases ok with
                      | false =>
                        have HN := hid (And.intro HT7.out (And.intro HE2.out.2.1 (And.intro (fun _ : (false : Bool) = false => And.intro (findTo_none HF.out.1 (show (tryW seed a x rho).2 = false by rw [← HR.out])) HF7.out) (fun h : (false : Bool) = true => show FrN w w4 u5 (M ++ gotW (i + 1) P (findW seed x rho)) by cases h))))
                        clear HE2 HF HF7 HT7
                        go_wp2_with fail
                        go_roundw
                        case rel => exact ⟨a + 1, false, by omega, rfl, by go_num, HN⟩
                        case measure => simp [intOf]; omega
                      | true =>
                        have hfw := findW_found HAT.out HF.out.1 (show (tryW seed a x rho).2 = true by rw [← HR.out])
                        rw [← HR.out] at hfw
                        have hfw2 : M ++ gotW (i + 1) P (findW seed x rho) = M ++ [⟨⟨n0, n1, n2, n3⟩, a, P, i + 1, 0⟩] := by rw [hfw]; rfl
                        have HFW := hid hfw2
                        obtain ⟨ba, bc, rfl, -⟩ := ownsRow_rd HF7.out.1
                        obtain ⟨z0, z1, z2, z3⟩ := four_cells HB7.out
                        clear hfw hfw2
                        have hcells : [uv n0, uv n1, uv n2, uv n3, .int .i64 (a : Int), .int .i64 (P : Int), .int .i64 ((i : Int) + 1), .int .i64 0] = owCells ⟨⟨n0, n1, n2, n3⟩, a, P, i + 1, 0⟩ := by
                          unfold owCells
                          push_cast
                          rfl
                        have HCE := hid hcells
                        clear hcells
                        go_wp2_with (at_builtin; refine wpList_app' rfl _ _ 34 rfl 39 j0 (.agg #[.int .u64 0, .int .u64 0, .int .u64 0, .int .u64 0, .int .i64 0, .int .i64 0, .int .i64 0, .int .i64 0]) 8 64 (by kernel_rfl) HJ.out.1 HJ.out.2.1 HJ.out.2.2.1 HJ.out.2.2.2 rfl (by decide) _ M.length (M.flatMap owCells) rfl (ownsRow_ext HF7.out.1 ((Ext.refl _).alloc _)) _ 1 [uv n0, uv n1, uv n2, uv n3, .int .i64 (a : Int), .int .i64 (P : Int), .int .i64 ((i : Int) + 1), .int .i64 0] rfl (rows_block (heap_new w4 _)) rfl (by intro u hu; simp only [List.mem_cons, List.not_mem_nil, or_false] at hu; rcases hu with rfl | rfl | rfl | rfl | rfl | rfl | rfl | rfl <;> rfl) (by have := HML.out; unfold maxLen; omega) (by have := HML.out; omega) ?_)
                        intro v' w5 hown hk2 hb
                        rw [HCE.out] at hown
                        have hap := HF7.out.app hown ((Ext.refl w4).alloc _) hk2 (by simpa using hb)
                        rw [← HFW.out] at hap
                        obtain ⟨va, vc, rfl, -⟩ := ownsRow_rd hown
                        have hTB : ∀ k, blk (.slice va (M.length + 1) vc) = some k → k ≠ TB := fun k e => by
                          rcases hap.2.2 k e with e2 | e2
                          · exact HE2.out.2.1 k e2
                          · have := heap_lt HT7.out
                            omega
                        have hT8 := hap.2.1.heap_some (fun e => HE2.out.2.1 TB e rfl) HT7.out
                        have HN := hid (And.intro hT8 (And.intro hTB (And.intro (fun h : (true : Bool) = false => show findTo seed x rho (a + 1) = none ∧ FrN w w5 (.slice va (M.length + 1) vc) M by cases h) (fun _ : (true : Bool) = true => hap.1))))
                        clear hown hk2 hb hap hTB hT8 z0 z1 z2 z3
                        go_wp2_with fail
                        go_roundw
                        case rel => exact ⟨a + 1, true, by omega, rfl, by go_num, HN⟩
                        case measure => simp [intOf]; omega
                · have hjtB : decide ((j : Int) < (t.outs.length : Int)) = false := by simp; omega
                  obtain rfl : j = t.outs.length := by omega
                  rw [← HTN2.out] at HD ⊢
                  have HN := hid HD.out.1
                  go_wp2_with fail
                  go_roundw
                  case rel => exact ⟨k + 1, by omega, rfl, by go_num, HN⟩
                  case measure => simp [intOf]; omega
        · have hktB : decide ((k : Int) < (b.txs.length : Int)) = false := by simp; omega
          obtain rfl : k = b.txs.length := by omega
          rw [HSX.out] at HK ⊢
          go_wp2_with fail
          go_roundw
          case rel => exact ⟨i + 1, by omega, rfl, by go_num, HK⟩
          case measure => simp [intOf]; omega
    · have hltB : decide ((i : Int) < (l.length : Int)) = false := by simp; omega
      obtain rfl : i = l.length := by omega
      obtain ⟨ba, bc, rfl, -⟩ := ownsRow_rd HI.out.1
      go_wp2_with fail
      go_ret
      exact ⟨_, rfl, HI.out⟩
end Go.Proofs.YtcikjcjfcanloaaGreat
