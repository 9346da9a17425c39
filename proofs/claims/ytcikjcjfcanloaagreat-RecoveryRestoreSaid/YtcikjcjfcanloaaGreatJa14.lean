/- Texts of this claim, joined: Undo2, Wal11, Wal12, TxB, Wal13, NotesL. -/
import Derived.Test.YtcikjcjfcanloaaGreatJa9
import Derived.Test.YtcikjcjfcanloaaGreatJa10
import Derived.Test.YtcikjcjfcanloaaGreatJa11
import Derived.Test.YtcikjcjfcanloaaGreatJa13
set_option linter.unusedSimpArgs false
namespace Go.Proofs.YtcikjcjfcanloaaGreat
open Go.RowKit
attribute [local irreducible] perm fAdd fMul fPow fSub fNeg fRed hashU drawOf nextState cipSeal
/-- The last block is undone. -/
def UndTo (w : World) (W d : Nat) (r : Rl) (seed : UInt64) (L : List UInt64) (ns : List OwT) (ps : List (ScT × Value)) (x : ScT) (ob LB : Nat) (nv pv : Value) (FO FT : Nat → Prop) (w' : World) : Prop :=
  ∃ nv' pv' FT', WalIn w' W d r seed (L.take x.leaves) ((resetW ns x.sp).take x.notes) ps ob LB nv' pv' FO FT' (WF W FT' nv' pv') ∧ Kp (WF W FT nv pv) w w' ∧ ∀ j, WF W FT' nv' pv' j → WF W FT nv pv j ∨ w.heap.size ≤ j
theorem WalIn.reA {w : World} {W d : Nat} {r : Rl} {seed : UInt64} {L : List UInt64} {ns : List OwT} {ps : List (ScT × Value)} {ob LB : Nat} {nv pv : Value} {FO FT A B : Nat → Prop} (h : WalIn w W d r seed L ns ps ob LB nv pv FO FT A) (hB : ∀ i, B i → A i) (hs : ∀ i, WF W FT nv pv i → B i) : WalIn w W d r seed L ns ps ob LB nv pv FO FT B :=
  { h with sub := hs, orc := h.orc.to (Kp.refl _ _) fun i hi => .inl (hB i hi), sps := fun x hx => (h.sps x hx).to (Kp.refl _ _) fun i hi => .inl (hB i hi) }
set_option maxRecDepth 100000 in
set_option maxHeartbeats 1600000 in
theorem walUndo_none {w : World} {W d : Nat} {r : Rl} {seed : UInt64} {L : List UInt64} {ns : List OwT} {ob LB : Nat} {nv pv : Value} {FO FT A : Nat → Prop} (h : WalIn w W d r seed L ns [] ob LB nv pv FO FT A) :
    Calls Tryz.prog 30 #[.pointer (some ⟨W, 0, none⟩)] w fun e w' => e = .returned (.bool false) ∧ Ext w w' := by
  obtain ⟨pa, pc, rfl, -⟩ := ownsRow_rd h.past
  obtain ⟨-, -, -, -, -, -, e6⟩ := h.cells
  change w.cell? ⟨W, 14, none⟩ = some (.slice pa 0 pc) at e6
  clear h
  go_enter Tryz.func30, Tryz.ntmps30
  go_wp2_with fail
  go_ret
  exact ⟨rfl, Ext.refl w⟩
theorem RdC'.iat {w : World} {a : Option Addr} {n c : Nat} {l : List Nat} (h : RdI' w (.slice a n c) l) {i x : Nat} (hx : l[i]? = some x) : ∃ b o, a = some ⟨b, o, none⟩ ∧ w.cell? ⟨b, o + i, none⟩ = some (.int .i64 (x : Int)) := by
  obtain ⟨a', c', e, h2, h3, h4, h5⟩ := h
  injection e with e1 e2 e3
  subst e1 e3
  have hu : (is l)[i]? = some (.int .i64 (x : Int)) := by simp [is, hx]
  cases a with
  | none =>
    have := h4 rfl
    have := (List.getElem?_eq_some_iff.1 hx).1
    omega
  | some ad =>
    have h6 := h5 ad rfl 0 _ (show (is l)[0]? = some ((is l)[0]'(by have := (List.getElem?_eq_some_iff.1 hx).1; simp [is]; omega)) from List.getElem?_eq_getElem _)
    have e6 := add_spot h6
    have hs : ad.spot = none := by
      rw [show ad.add 0 = ad by unfold Addr.add; simp] at e6
      rw [e6]
    refine ⟨ad.block, ad.off, by cases ad; simp only at hs; subst hs; rfl, ?_⟩
    have h7 := h5 ad rfl i _ hu
    rw [add_spot h7] at h7
    exact h7
set_option maxRecDepth 100000 in
set_option maxHeartbeats 12800000 in
theorem walUndo_any {w : World} {W d : Nat} {r : Rl} {seed : UInt64} {L : List UInt64} {ns : List OwT} {ps : List (ScT × Value)} {x : ScT × Value} {ob LB : Nat} {nv pv : Value} {FO FT : Nat → Prop} (h : WalIn w W d r seed L ns (ps ++ [x]) ob LB nv pv FO FT (WF W FT nv pv))
    (hL : L.length ≤ 4096) (hp : ps.length ≤ 1000) (hn : ns.length ≤ 10000) (hl : x.1.leaves ≤ L.length) (hm : x.1.notes ≤ ns.length) (hsp : ∀ i ∈ x.1.sp, i < ns.length) (hspl : x.1.sp.length ≤ 10000000) :
    Calls Tryz.prog 30 #[.pointer (some ⟨W, 0, none⟩)] w fun e w' => e = .returned (.bool true) ∧ UndTo w W d r seed L ns ps x.1 ob LB nv pv FO FT w' := by
  obtain ⟨pa, pc, rfl, -, -, -, -⟩ := ownsRow_rd h.past
  obtain ⟨na, nc, rfl, -⟩ := ownsRow_rd h.notes
  obtain ⟨⟨s0, n0, sp⟩, sv⟩ := x
  simp only at hl hm hsp hspl ⊢
  obtain ⟨g, rfl⟩ : ∃ g, pa = some ⟨g, 0, none⟩ := own_shape h.past (by simp)
  have hrow : ∀ j u, j < 3 → (scCells (⟨s0, n0, sp⟩, sv))[j]? = some u → w.cell? ⟨g, ps.length * 3 + j, none⟩ = some u := by
    obtain ⟨b, o, e, hc⟩ := rows_at (i := ps.length) (x := (⟨s0, n0, sp⟩, sv)) scCells_len (by omega) rfl (ownsRow_rd h.past).weak (by simp)
    injection e with e
    injection e with e1 e2
    subst e1 e2
    intro j u hj hu
    have := hc j u hj hu
    rwa [Nat.zero_add] at this
  obtain ⟨sa, sc, rfl⟩ : ∃ sa sc, sv = .slice sa sp.length sc := by
    obtain ⟨a, c, e, -⟩ := (h.sps (⟨s0, n0, sp⟩, sv) (by simp)).now.shape
    exact ⟨a, c, e⟩
  have f0 : w.cell? ⟨g, ps.length * 3, none⟩ = some (.int .i64 (s0 : Int)) := hrow 0 _ (by omega) rfl
  have f1 : w.cell? ⟨g, ps.length * 3 + 1, none⟩ = some (.int .i64 (n0 : Int)) := hrow 1 _ (by omega) rfl
  have f2 : w.cell? ⟨g, ps.length * 3 + 2, none⟩ = some (.slice sa sp.length sc) := hrow 2 _ (by omega) rfl
  have hlen : (ps ++ [((⟨s0, n0, sp⟩ : ScT), Value.slice sa sp.length sc)]).length = ps.length + 1 := by simp
  obtain ⟨-, -, -, -, -, -, e6⟩ := h.cells
  have HPC : ps.length + 1 ≤ pc := by
    obtain ⟨a', c', e, h2, -⟩ := ownsRow_rd h.past
    injection e with e1 e2 e3
    omega
  rw [hlen] at e6 h ⊢
  have HH := hid h
  have HSP : Hid (∀ u, Kp (WF W FT (.slice na ns.length nc) (.slice (some ⟨g, 0, none⟩) (ps.length + 1) pc)) w u → RdI' u (.slice sa sp.length sc) sp) := hid (h.sps (⟨s0, n0, sp⟩, .slice sa sp.length sc) (by simp))
  have hpI : (ps.length : Int) ≤ 1000 := by omega
  have hspI : (sp.length : Int) ≤ 10000000 := by omega
  have HL := hid hL
  have HN := hid hn
  have HHL := hid hl
  have HHM := hid hm
  have HHS := hid hsp
  clear h hrow hlen hL hn hl hm hsp hp hspl
  generalize hP : ps.length = m at *
  have HPL := hid hP
  clear hP
  go_enter Tryz.func30, Tryz.ntmps30
  go_upto_region 5 with fail
  obtain ⟨N, hN⟩ : ∃ N, N = w.heap.size := ⟨_, rfl⟩
  obtain ⟨w0, hw0⟩ : ∃ w0, w0 = w.alloc (.cells #[.int .i64 (s0 : Int), .int .i64 (n0 : Int), .slice sa sp.length sc] 128) := ⟨_, rfl⟩
  rw [← hw0, ← hN]
  have hx0 : Ext w w0 := by rw [hw0]; exact (Ext.refl w).alloc _
  have hb0 : w0.heap[N]? = some (.cells #[.int .i64 (s0 : Int), .int .i64 (n0 : Int), .slice sa sp.length sc] 128 (0, 0)) := by rw [hw0, hN]; exact heap_new _ _
  have HB0 := hid hb0
  have HX0 := hid hx0
  have hH0 := HH.out.ext hx0
  have hA : ∀ j, WF W FT (.slice na ns.length nc) (.slice (some ⟨g, 0, none⟩) (m + 1) pc) j → j < w.heap.size := fun j hj => by
    rcases hj with e | e | e | e
    · subst e; exact heap_lt HH.out.self
    · exact HH.out.tl j e
    · exact ownsRow_lt HH.out.notes e
    · exact ownsRow_lt HH.out.past e
  have HA : Hid (∀ j, WF W FT (.slice na ns.length nc) (.slice (some ⟨g, 0, none⟩) (m + 1) pc) j → j ≠ N) := hid fun j hj => by have := hA j hj; omega
  obtain ⟨-, -, -, -, -, -, g6⟩ := hH0.cells
  have fz := frozen_of hH0.self
  have hpop := hH0.pop
  rw [HPL.out] at hpop
  have P1 := hid hpop.1
  have K1 := hid ((Kp.of_ext hx0).trans (hpop.2.mono fun j _ (e : j = W) => show WF W FT (.slice na ns.length nc) (.slice (some ⟨g, 0, none⟩) (m + 1) pc) j from .inl e))
  have hb1 := hpop.2.heap_some (fun e => (HA.out W (.inl rfl)) e.symm) hb0
  have HB1 := hid hb1
  have hmc : (m : Int) ≤ (pc : Int) := by omega
  clear hw0 hN hx0 hb0 hH0 hA hpop hb1 f0 f1 f2 e6
  go_upto_region 6 with fail
  obtain ⟨A, hAe⟩ : ∃ A, A = WF W FT (.slice na ns.length nc) (.slice (some ⟨g, 0, none⟩) (m + 1) pc) := ⟨_, rfl⟩
  generalize w0.setCell ⟨W, 14, none⟩ (.slice (some ⟨g, 0, none⟩) m pc) = u1 at *
  rw [← hAe] at HH HSP HA P1 K1
  have HAE := hid hAe
  obtain ⟨c0, c1, c2⟩ : u1.cell? ⟨N, 0, none⟩ = some (.int .i64 (s0 : Int)) ∧ u1.cell? ⟨N, 1, none⟩ = some (.int .i64 (n0 : Int)) ∧ u1.cell? ⟨N, 2, none⟩ = some (.slice sa sp.length sc) := ⟨cell_of HB1.out 0, cell_of HB1.out 1, cell_of HB1.out 2⟩
  clear hAe g6 fz
  go_wp2_with fail
  clear c0 c1 c2
  go_loopw [35] (fun iv wr => ∃ i : Nat, i ≤ sp.length ∧ iv = .int .i64 i ∧ Hid (WalIn wr W d r seed L (resetW ns (sp.take i)) ps ob LB (.slice na ns.length nc) (.slice (some ⟨g, 0, none⟩) m pc) FO FT A ∧ Kp A w wr ∧ wr.heap[N]? = u1.heap[N]?)) (fun iv _ => sp.length - (intOf iv).toNat)
  case atStart => exact ⟨0, by omega, rfl, hid ⟨P1.out, K1.out, rfl⟩⟩
  case round =>
    obtain ⟨i, hi, rfl, HI⟩ := hrel
    have hi0 : (0 : Int) ≤ (i : Int) := Int.natCast_nonneg _
    by_cases hlt : i < sp.length
    · have hltB : decide ((i : Int) < (sp.length : Int)) = true := by simp; omega
      have hil : (i : Int) < (sp.length : Int) := by omega
      obtain ⟨j, hj⟩ : ∃ j, sp[i]? = some j := ⟨_, List.getElem?_eq_getElem hlt⟩
      obtain ⟨sb, so, rfl, f0⟩ := (HSP.out wr HI.out.2.1).iat hj
      have hjn := HHS.out j (List.mem_of_getElem? hj)
      have hrl := resetW_length (sp.take i) ns
      obtain ⟨q, rfl⟩ : ∃ q, na = some ⟨q, 0, none⟩ := own_shape HI.out.1.notes (by rw [hrl]; omega)
      obtain ⟨x, hx⟩ : ∃ x, (resetW ns (sp.take i))[j]? = some x := ⟨_, List.getElem?_eq_getElem (by rw [hrl]; exact hjn)⟩
      have f7 : wr.cell? ⟨q, j * 8 + 7, none⟩ = some (.int .i64 (x.spent : Int)) := by
        obtain ⟨b, o, e, hc⟩ := rows_at owCells_len (by omega) hrl.symm (ownsRow_rd (hrl ▸ HI.out.1.notes)).weak hx
        injection e with e
        injection e with e1 e2
        subst e1 e2
        have := hc 7 _ (by omega) rfl
        rwa [Nat.zero_add] at this
      obtain ⟨cur, hcur⟩ : ∃ cur, wr.heap[q]? = some (.cells cur 39 (0, 0)) := by
        rcases HI.out.1.notes.2 with ⟨e, -⟩ | ⟨q', cap, cur, e, -, h3, -⟩
        · cases e
        · injection e with e
          injection e with e
          injection e with e
          subst e
          exact ⟨cur, h3⟩
      have fz := frozen_of hcur
      have hz := HI.out.1.zero (i := j) (by rw [hrl]; exact hjn)
      rw [← resetW_succ hj] at hz
      have hqN : q ≠ N := HA.out q (by rw [HAE.out]; exact .inr (.inr (.inl rfl)))
      have HN2 := hid (And.intro hz.1 (And.intro (HI.out.2.1.trans (hz.2.mono fun k _ (e : k = q) => show A k from by rw [e, HAE.out]; exact .inr (.inr (.inl rfl)))) (show (wr.setCell ⟨q, j * 8 + 7, none⟩ (.int .i64 0)).heap[N]? = u1.heap[N]? from by rw [heap_setCell_ne hqN.symm]; exact HI.out.2.2)))
      have hjI : (j : Int) < (ns.length : Int) := by omega
      have hj0 : (0 : Int) ≤ (j : Int) := Int.natCast_nonneg _
      have hnI : (ns.length : Int) ≤ 10000 := by have := HN.out; omega
      obtain ⟨-, -, -, -, -, e5, -⟩ := HI.out.1.cells
      clear hj hjn hrl hx hcur hz hqN
      go_wp2_with fail
      go_roundw
      case rel => exact ⟨i + 1, by omega, by go_num, HN2⟩
      case measure => simp [intOf]; omega
    · have hltB : decide ((i : Int) < (sp.length : Int)) = false := by simp; omega
      obtain rfl : i = sp.length := by omega
      rw [List.take_length] at HI
      have hrl := resetW_length sp ns
      have hnc : (n0 : Int) ≤ (nc : Int) := by
        obtain ⟨a', c', e, h2, -⟩ := ownsRow_rd HI.out.1.notes
        injection e with e1 e2 e3
        have := HHM.out
        omega
      have hN0 : (0 : Int) ≤ (n0 : Int) := Int.natCast_nonneg _
      have HCY : Hid (∀ u, Ext wr u → u.cell? ⟨W, 13, none⟩ = some (.slice na ns.length nc) ∧ u.cell? ⟨N, 1, none⟩ = some (.int .i64 (n0 : Int))) := hid fun u ku => by
        obtain ⟨-, -, -, -, -, q, -⟩ := (HI.out.1.ext ku).cells
        exact ⟨q, cell_of (ku.heap_some (HI.out.2.2.trans HB1.out)) 1⟩
      have hD := HI.out.1.ext (Ext.refl wr).drew
      have fz := frozen_of hD.self
      have hcut := hD.cut (m := n0) (by rw [hrl]; exact HHM.out)
      have C2 := hid hcut.1
      have K2 := hid (HI.out.2.1.drew.trans (hcut.2.mono fun k _ (e : k = W) => show A k from by rw [e, HAE.out]; exact .inl rfl))
      have hWN : N ≠ W := fun e => HA.out W (by rw [HAE.out]; exact .inl rfl) e.symm
      have HNB := hid (show (wr.drew.setCell ⟨W, 13, none⟩ (.slice na n0 nc)).heap[N]? = u1.heap[N]? from by rw [heap_setCell_ne hWN]; exact HI.out.2.2)
      clear hD hcut hrl hWN
      go_wp2_with fail
      refine wp_region_T (fun u => u.cell? ⟨W, 13, none⟩ = some (.slice na ns.length nc) ∧ u.cell? ⟨N, 1, none⟩ = some (.int .i64 (n0 : Int))) 8 [(0, true), (1, true), (2, true), (3, true), (4, true), (5, true), (6, true), (7, false), (8, false), (9, false), (10, false)] (by kernel_rfl) (by kernel_rfl) (by intro c a d v w h; cases d <;> exact h) ?_
      intro ops hops
      have HSS := HCY.out _ (Ext.refl wr).drew
      iterate 7
        refine wpT_take (v := ?_) (by rw [hops, List.getElem?_toArray]; rfl) (by first | rfl | (rw [hops]; rfl)) ?_ HSS ?_
        rotate_left
        · intro v h; go_simp; with_reducible rfl
        simp only [Act.put, List.getElem_toArray, List.getElem_cons_zero, List.getElem_cons_succ, List.setIfInBounds_toArray, List.set_cons_zero, List.set_cons_succ]
      have HS2 := hid HSS
      clear HSS
      refine wpT_step (by rw [hops, List.getElem?_toArray]; rfl) (by first | rfl | (rw [hops]; rfl)) ?_
      intro K hK
      go_wp2_with fail
      refine ⟨by first | exact fun _ => HS2.out | exact fun _ => HCY.out _ (Ext.refl wr) | exact HCY.out _ (Ext.refl wr) | exact HS2.out, ?_⟩
      try rw [← hops]
      have hcl := HS2.out.1
      clear HS2
      refine wpT_step (by rw [hops, List.getElem?_toArray]; rfl) (by first | rfl | (rw [hops]; rfl)) ?_
      intro K hK
      go_wp2_with fail
      try (with_reducible refine ⟨fun h => absurd h (by decide), ?_⟩)
      try rw [← hops]
      refine wpT_step (by rw [hops, List.getElem?_toArray]; rfl) (by first | rfl | (rw [hops]; rfl)) ?_
      intro K hK
      go_wp2_with fail
      try (with_reducible refine ⟨fun h => absurd h (by decide), ?_⟩)
      try rw [← hops]
      refine wpT_step (by rw [hops, List.getElem?_toArray]; rfl) (by first | rfl | (rw [hops]; rfl)) ?_
      intro K hK
      go_wp2_with fail
      try (with_reducible refine ⟨fun h => absurd h (by decide), ?_⟩)
      try rw [wpT_nil]
      try clear hops ops
      have hdr : wr.drew.setCell ⟨W, 13, none⟩ (.slice na n0 nc) = (wr.setCell ⟨W, 13, none⟩ (.slice na n0 nc)).drew := rfl
      rw [hdr] at C2 K2 HNB
      clear hdr
      generalize (wr.setCell ⟨W, 13, none⟩ (.slice na n0 nc)).drew = u2 at *
      clear hcl fz hnc
      have HCZ : Hid (∀ u, Ext u2 u → u.cell? ⟨W, 12, none⟩ = some (.pointer (some ⟨LB, 0, none⟩)) ∧ u.cell? ⟨N, 0, none⟩ = some (.int .i64 (s0 : Int))) := hid fun u ku => by
        obtain ⟨-, -, -, -, q, -, -⟩ := (C2.out.ext ku).cells
        exact ⟨q, cell_of (ku.heap_some (HNB.out.trans HB1.out)) 0⟩
      have hbn : blk (.slice na n0 nc) = blk (.slice na ns.length nc) := blk_len _ _ _ _ _
      have C3 := hid ((C2.out.ext (Ext.refl u2).drew).reA (B := WF W FT (.slice na n0 nc) (.slice (some ⟨g, 0, none⟩) m pc)) (fun j hj => by
        rw [HAE.out]
        rcases hj with e | e | e | e
        · exact .inl e
        · exact .inr (.inl e)
        · exact .inr (.inr (.inl (by rw [← hbn]; exact e)))
        · exact .inr (.inr (.inr e))) fun j hj => hj)
      have HBA : Hid (∀ j, WF W FT (.slice na n0 nc) (.slice (some ⟨g, 0, none⟩) m pc) j → A j) := hid fun j hj => by
        rw [HAE.out]
        rcases hj with e | e | e | e
        · exact .inl e
        · exact .inr (.inl e)
        · exact .inr (.inr (.inl (by rw [← hbn]; exact e)))
        · exact .inr (.inr (.inr e))
      have TR := hid (treeTruncate_any C3.out.tree C3.out.dep.2.1 C3.out.dep.2.2 (by have := HL.out; omega) s0 HHL.out)
      clear hbn
      go_wp2_with fail
      refine wp_region_T (fun u => u.cell? ⟨W, 12, none⟩ = some (.pointer (some ⟨LB, 0, none⟩)) ∧ u.cell? ⟨N, 0, none⟩ = some (.int .i64 (s0 : Int))) 6 [(0, true), (1, true), (2, true), (3, true), (4, true), (5, true), (6, false)] (by kernel_rfl) (by kernel_rfl) (by intro c a d v w h; cases d <;> exact h) ?_
      intro ops hops
      have HSS := HCZ.out _ (Ext.refl u2).drew
      iterate 6
        refine wpT_take (v := ?_) (by rw [hops, List.getElem?_toArray]; rfl) (by first | rfl | (rw [hops]; rfl)) ?_ HSS ?_
        rotate_left
        · intro v h; go_simp; with_reducible rfl
        simp only [Act.put, List.getElem_toArray, List.getElem_cons_zero, List.getElem_cons_succ, List.setIfInBounds_toArray, List.set_cons_zero, List.set_cons_succ]
      clear HSS
      refine wpT_step (by rw [hops, List.getElem?_toArray]; rfl) (by first | rfl | (rw [hops]; rfl)) ?_
      intro K hK
      go_wp2_with fail
      refine (TR.out).mono ?_
      rintro e u3 ⟨rfl, hto⟩
      have HT : Hid (UndTo w W d r seed L ns ps ⟨s0, n0, sp⟩ ob LB (.slice na ns.length nc) (.slice (some ⟨g, 0, none⟩) (m + 1) pc) FO FT u3) := hid (by
        obtain ⟨FT', h1, h2, h3⟩ := C3.out.tree' hto
        refine ⟨_, _, FT', h1, by rw [← HAE.out]; exact K2.out.drew.trans (h2.mono fun j _ e => HBA.out j e), fun j hj => ?_⟩
        rw [← HAE.out]
        rcases h3 j hj with e | e
        · exact .inl (HBA.out j e)
        · have := K2.out.size
          exact .inr (Nat.le_trans this e))
      clear hto TR
      refine hK _ _ ⟨fun h => absurd h (by decide), ?_⟩
      clear hK K
      try (with_reducible refine ⟨fun h => absurd h (by decide), ?_⟩)
      try rw [wpT_nil]
      try clear hops ops
      go_wp2_with fail
      go_ret
      exact ⟨rfl, HT.out⟩
end Go.Proofs.YtcikjcjfcanloaaGreat
namespace Go.Proofs.YtcikjcjfcanloaaGreat
open Go.RowKit
attribute [local irreducible] perm fAdd fMul fPow fSub fNeg fRed hashU
set_option maxRecDepth 100000 in
theorem walHeight_any {w : World} {W d : Nat} {r : Rl} {seed : UInt64} {L : List UInt64} {ns : List OwT} {ps : List (ScT × Value)} {ob LB : Nat} {nv pv : Value} {FO FT A : Nat → Prop} (h : WalIn w W d r seed L ns ps ob LB nv pv FO FT A) :
    Calls Tryz.prog 29 #[.pointer (some ⟨W, 0, none⟩)] w fun e w' => e = .returned (.int .i64 (ps.length : Int)) ∧ Ext w w' := by
  obtain ⟨pa, pc, rfl, -⟩ := ownsRow_rd h.past
  obtain ⟨-, -, -, -, -, -, e6⟩ := h.cells
  clear h
  generalize ps.length = n at *
  go_enter Tryz.func29, Tryz.ntmps29
  go_wp2_with fail
  go_ret
  exact ⟨rfl, Ext.refl w⟩
set_option maxRecDepth 100000 in
theorem walAnchor_any {w : World} {W d : Nat} {r : Rl} {seed : UInt64} {L : List UInt64} {ns : List OwT} {ps : List (ScT × Value)} {ob LB : Nat} {nv pv : Value} {FO FT A : Nat → Prop} (h : WalIn w W d r seed L ns ps ob LB nv pv FO FT A) :
    Calls Tryz.prog 38 #[.pointer (some ⟨W, 0, none⟩)] w fun e w' => e = .returned (uv (rootU d L)) ∧ Ext w w' := by
  have RT : Hid (∀ v, Ext w v → Calls Tryz.prog 79 #[.pointer (some ⟨LB, 0, none⟩)] v fun e w' => e = .returned (uv (rootU d L)) ∧ Ext v w') := hid fun v k => treeRoot_any (h.tree.ext k) h.dep.2.1 h.dep.2.2
  obtain ⟨-, -, -, -, e4, -, -⟩ := h.cells
  clear h
  generalize rootU d L = x at *
  go_enter Tryz.func38, Tryz.ntmps38
  go_wp2_with fail
  refine (RT.out _ (Ext.refl w)).mono ?_
  rintro e w1 ⟨rfl, hx⟩
  have HX1 := hid hx
  clear hx RT
  go_wp2_with fail
  go_ret
  exact ⟨rfl, HX1.out⟩
end Go.Proofs.YtcikjcjfcanloaaGreat
namespace Go.Proofs.YtcikjcjfcanloaaGreat
open Go.RowKit
attribute [local irreducible] perm fAdd fMul fPow fSub fNeg fRed hashU
def balW (l : List OwT) : UInt64 := l.foldl (fun s n => if n.spent = 0 then s + n.note.value else s) 0
theorem balW_snoc {l : List OwT} {i : Nat} {x : OwT} (h : l[i]? = some x) : balW (l.take (i + 1)) = if x.spent = 0 then balW (l.take i) + x.note.value else balW (l.take i) := by
  unfold balW
  rw [List.take_add_one, h, List.foldl_append]
  rfl
theorem eight_cells {w : World} {b : Nat} {c0 c1 c2 c3 c4 c5 c6 c7 : Value} {T : TypeId} (h : w.heap[b]? = some (.cells #[c0, c1, c2, c3, c4, c5, c6, c7] T (0, 0))) :
    w.cell? ⟨b, 0, none⟩ = some c0 ∧ w.cell? ⟨b, 1, none⟩ = some c1 ∧ w.cell? ⟨b, 2, none⟩ = some c2 ∧ w.cell? ⟨b, 3, none⟩ = some c3 ∧ w.cell? ⟨b, 4, none⟩ = some c4 ∧ w.cell? ⟨b, 5, none⟩ = some c5 ∧ w.cell? ⟨b, 6, none⟩ = some c6 ∧ w.cell? ⟨b, 7, none⟩ = some c7 :=
  ⟨cell_of h 0, cell_of h 1, cell_of h 2, cell_of h 3, cell_of h 4, cell_of h 5, cell_of h 6, cell_of h 7⟩
set_option maxRecDepth 100000 in
set_option maxHeartbeats 6400000 in
theorem walBalance_any {w : World} {W d : Nat} {r : Rl} {seed : UInt64} {L : List UInt64} {ns : List OwT} {ps : List (ScT × Value)} {ob LB : Nat} {nv pv : Value} {FO FT A : Nat → Prop} (h : WalIn w W d r seed L ns ps ob LB nv pv FO FT A) (hn : ns.length ≤ 10000) :
    Calls Tryz.prog 57 #[.pointer (some ⟨W, 0, none⟩)] w fun e w' => e = .returned (uv (balW ns)) ∧ Ext w w' := by
  obtain ⟨na, nc, rfl, -⟩ := ownsRow_rd h.notes
  obtain ⟨-, -, -, -, -, e5, -⟩ := h.cells
  have HO := hid h.notes
  have hnI : (ns.length : Int) ≤ 10000 := by omega
  clear h hn
  go_enter Tryz.func57, Tryz.ntmps57
  go_wp2_with fail
  go_loopw [3, 11] (fun sv iv wr => ∃ i : Nat, i ≤ ns.length ∧ sv = uv (balW (ns.take i)) ∧ iv = .int .i64 i ∧ Hid (Ext w wr)) (fun _ iv _ => ns.length - (intOf iv).toNat)
  case atStart => exact ⟨0, by omega, rfl, rfl, hid (Ext.refl w)⟩
  case round =>
    obtain ⟨i, hi, rfl, rfl, HX⟩ := hrel
    have hi0 : (0 : Int) ≤ (i : Int) := Int.natCast_nonneg _
    by_cases hlt : i < ns.length
    · have hltB : decide ((i : Int) < (ns.length : Int)) = true := by simp; omega
      have hil : (i : Int) < (ns.length : Int) := by omega
      obtain ⟨x, hxi⟩ : ∃ x, ns[i]? = some x := ⟨_, List.getElem?_eq_getElem hlt⟩
      obtain ⟨g, rfl⟩ : ∃ g, na = some ⟨g, 0, none⟩ := own_shape HO.out (by omega)
      have hrow : ∀ j u, j < 8 → (owCells x)[j]? = some u → wr.cell? ⟨g, i * 8 + j, none⟩ = some u := by
        obtain ⟨b, o, e, hc⟩ := rows_at owCells_len (by omega) rfl (ownsRow_rd (ownsRow_ext HO.out HX.out)).weak hxi
        injection e with e
        injection e with e1 e2
        subst e1 e2
        intro j u hj hu
        have := hc j u hj hu
        rwa [Nat.zero_add] at this
      have f0 : wr.cell? ⟨g, i * 8, none⟩ = some (uv x.note.value) := hrow 0 _ (by omega) rfl
      have f1 : wr.cell? ⟨g, i * 8 + 1, none⟩ = some (uv x.note.owner) := hrow 1 _ (by omega) rfl
      have f2 : wr.cell? ⟨g, i * 8 + 2, none⟩ = some (uv x.note.rho) := hrow 2 _ (by omega) rfl
      have f3 : wr.cell? ⟨g, i * 8 + 3, none⟩ = some (uv x.note.blind) := hrow 3 _ (by omega) rfl
      have f4 : wr.cell? ⟨g, i * 8 + 4, none⟩ = some (.int .i64 (x.number : Int)) := hrow 4 _ (by omega) rfl
      have f5 : wr.cell? ⟨g, i * 8 + 5, none⟩ = some (.int .i64 (x.pos : Int)) := hrow 5 _ (by omega) rfl
      have f6 : wr.cell? ⟨g, i * 8 + 6, none⟩ = some (.int .i64 (x.height : Int)) := hrow 6 _ (by omega) rfl
      have f7 : wr.cell? ⟨g, i * 8 + 7, none⟩ = some (.int .i64 (x.spent : Int)) := hrow 7 _ (by omega) rfl
      have HB := hid (balW_snoc hxi)
      clear hrow hxi
      obtain ⟨s, hs⟩ : ∃ s, s = balW (ns.take i) := ⟨_, rfl⟩
      rw [← hs] at HB ⊢
      clear hs
      have hadd : IntKind.u64.wrap ((s.toNat : Int) + (x.note.value.toNat : Int)) = ((s + x.note.value).toNat : Int) := by
        rw [IntKind.wrap_u64, UInt64.toNat_add]; omega
      go_upto_region 5 with fail
      obtain ⟨Q, hQ⟩ : ∃ Q, Q = wr.heap.size := ⟨_, rfl⟩
      obtain ⟨u1, hu1⟩ : ∃ u1, u1 = wr.alloc (.cells #[uv x.note.value, uv x.note.owner, uv x.note.rho, uv x.note.blind, .int .i64 (x.number : Int), .int .i64 (x.pos : Int), .int .i64 (x.height : Int), .int .i64 (x.spent : Int)] 39) := ⟨_, rfl⟩
      rw [← hu1, ← hQ]
      have G1 : Hid (Ext w u1) := hid (by rw [hu1]; exact HX.out.alloc _)
      have hqb : u1.heap[Q]? = some (.cells #[uv x.note.value, uv x.note.owner, uv x.note.rho, uv x.note.blind, .int .i64 (x.number : Int), .int .i64 (x.pos : Int), .int .i64 (x.height : Int), .int .i64 (x.spent : Int)] 39 (0, 0)) := by rw [hu1, hQ]; exact heap_new _ _
      clear hu1 hQ f0 f1 f2 f3 f4 f5 f6 f7
      obtain ⟨c0, c1, c2, c3, c4, c5, c6, c7⟩ := eight_cells hqb
      clear hqb
      by_cases hsp : x.spent = 0
      · have hspI : (x.spent : Int) = 0 := by omega
        have hb := HB.out
        rw [if_pos hsp] at hb
        have HB2 := hid hb
        clear hb HB
        go_wp2_with fail
        go_roundw
        case rel => exact ⟨i + 1, by omega, by rw [HB2.out]; first | rfl | (unfold uv; rw [← hadd]) | (unfold uv; rw [← hadd, IntKind.wrap_u64]), by go_num, G1⟩
        case measure => simp [intOf]; omega
      · have hspB : decide ((x.spent : Int) = 0) = false := decide_eq_false (by omega)
        have hspB2 : ((x.spent : Int) == 0) = false := by rw [beq_eq_false_iff_ne]; omega
        have hb := HB.out
        rw [if_neg hsp] at hb
        have HB2 := hid hb
        clear hb HB
        go_wp2_with fail
        go_roundw
        case rel => exact ⟨i + 1, by omega, by rw [HB2.out], by go_num, G1⟩
        case measure => simp [intOf]; omega
    · have hltB : decide ((i : Int) < (ns.length : Int)) = false := by simp; omega
      obtain rfl : i = ns.length := by omega
      rw [List.take_length]
      go_wp2_with fail
      go_ret
      exact ⟨rfl, HX.out⟩
end Go.Proofs.YtcikjcjfcanloaaGreat
namespace Go.Proofs.YtcikjcjfcanloaaGreat
open Go.RowKit
attribute [local irreducible] perm fAdd fMul fPow fSub fNeg fRed hashU
def FrO (w0 w : World) (m : List UInt8) (e : Ending) (w' : World) : Prop := ∃ v, e = .returned v ∧ FrB w0 w' v m ∧ Ext w w'
theorem NewB.fr {w0 w w' : World} {m : List UInt8} {e : Ending} (hx : Ext w0 w) (h : NewB w m e w') : FrO w0 w m e w' := by
  obtain ⟨v, rfl, h1, h2, h3⟩ := h
  exact ⟨v, rfl, ⟨h1, hx.trans h2, fun k hk => Nat.le_trans hx.size (h3 k hk)⟩, h2⟩
theorem FrB.sl {w v : World} {x : Value} {l : List UInt8} (h : FrB w v x l) : ∃ a c, x = .slice a l.length c := by
  obtain ⟨a, c, h1, -⟩ := ownsRow_rd h.1
  exact ⟨a, c, h1⟩
theorem wUint_fr {w0 w : World} {v : Value} {l : List UInt8} (x : UInt64) (h : FrB w0 w v l) (hL : l.length ≤ 1000000000) : Calls Tryz.prog 83 #[v, uv x] w (FrO w0 w (l ++ leB 8 x)) :=
  (wUint_any v l x w h.1.weak (by omega)).mono fun _ _ h' => h'.fr h.2.1
theorem wInt_fr {w0 w : World} {v : Value} {l : List UInt8} (n : Int) (h : FrB w0 w v l) (hL : l.length ≤ 1000000000) : Calls Tryz.prog 80 #[v, .int .i64 n] w (FrO w0 w (l ++ lenB n)) :=
  (wInt_any v l n w h.1.weak (by omega)).mono fun _ _ h' => h'.fr h.2.1
theorem wList_fr {w0 w : World} {v lv : Value} {l : List UInt8} {xs : List UInt64} (h : FrB w0 w v l) (hx : RdU' w lv xs) (hL : l.length ≤ 1000000000) (hX : xs.length ≤ 1000000) : Calls Tryz.prog 81 #[v, lv] w (FrO w0 w (l ++ listB xs)) :=
  (wList_any v l lv xs w h.1.weak hx (by omega) (by omega)).mono fun _ _ h' => h'.fr h.2.1
theorem listB_length (xs : List UInt64) : (listB xs).length = 4 + 8 * xs.length := by unfold listB; rw [List.length_append, lenB_length, cat_length]
end Go.Proofs.YtcikjcjfcanloaaGreat
namespace Go.Proofs.YtcikjcjfcanloaaGreat
open Go.RowKit
attribute [local irreducible] perm fAdd fMul fPow fSub fNeg fRed hashU
theorem eqIn_slice_nilW {P : Program} (w : World) (d : Nat) (t e : TypeId) (a : Addr) (n c : Nat) (h : P.underlying t = some (.slice e)) : (Op.equalIn (d + 1) t (.slice (some a) n c) (.slice none 0 0)).run P w = .ok false w := by
  simp [Op.equalIn, run_underlying h]
theorem owns_some (w : World) (a : Addr) (n c : Nat) : (binOp .eql 34 (.slice (some a) n c) (.slice none 0 0)).run Tryz.prog w = .ok (.bool false) w := by
  have h2 : (Op.equal 34 (.slice (some a) n c) (.slice none 0 0)).run Tryz.prog w = .ok false w := eqIn_slice_nilW (P := Tryz.prog) w 9999 34 39 a n c (by kernel_rfl)
  simp [binOp, h2]
theorem eqIn_nil_nilW {P : Program} (w : World) (d : Nat) (t e : TypeId) (h : P.underlying t = some (.slice e)) : (Op.equalIn (d + 1) t (.slice none 0 0) (.slice none 0 0)).run P w = .ok true w := by
  simp [Op.equalIn, run_underlying h]
theorem owns_nil (w : World) : (binOp .eql 34 (.slice none 0 0) (.slice none 0 0)).run Tryz.prog w = .ok (.bool true) w := by
  have h2 : (Op.equal 34 (.slice none 0 0) (.slice none 0 0)).run Tryz.prog w = .ok true w := eqIn_nil_nilW (P := Tryz.prog) w 9999 34 39 (by kernel_rfl)
  simp [binOp, h2]
theorem ow_one (l : List OwT) : ∀ u ∈ l.flatMap owCells, u.oneCell' = true := by
  intro u hu
  obtain ⟨x, -, hx⟩ := List.mem_flatMap.1 hu
  unfold owCells at hx
  simp only [List.mem_cons, List.not_mem_nil, or_false] at hx
  rcases hx with rfl | rfl | rfl | rfl | rfl | rfl | rfl | rfl <;> rfl
/-- A list of notes of the call's own. -/
abbrev OwnN (w : World) (v : Value) (l : List OwT) : Prop := w.ownsRow 0 39 8 v l.length (l.flatMap owCells)
theorem own_emptyN (v : World) : (v.alloc (.cells #[] 39)).ownsRow 0 39 8 (.slice (some ⟨v.heap.size, 0, none⟩) 0 0) 0 [] := ⟨rfl, .inr ⟨v.heap.size, 0, #[], rfl, Nat.zero_le _, heap_new v _, Nat.le_refl _, Nat.zero_le _, rfl, rfl⟩⟩
set_option maxRecDepth 100000 in
set_option maxHeartbeats 3200000 in
theorem clone_any {w : World} {v : Value} {l : List OwT} (h : OwnN w v l) (hl : l.length ≤ 100000) :
    Calls Tryz.prog 63 #[v] w fun e w' => ∃ u, e = .returned u ∧ OwnN w' u l ∧ Ext w w' ∧ ∀ k, blk u = some k → w.heap.size ≤ k := by
  obtain ⟨a, c, rfl, -⟩ := ownsRow_rd h
  cases a with
  | none =>
    have hc : c = 0 ∧ l = [] := by
      rcases h.2 with ⟨e, e2⟩ | ⟨g, cap, cur, e, -⟩
      · injection e with e0 e1 e3
        exact ⟨e3, List.eq_nil_of_length_eq_zero e2⟩
      · cases e
    obtain ⟨rfl, rfl⟩ := hc
    simp only [List.length_nil]
    have hcmp := owns_nil
    go_enter Tryz.func63, Tryz.ntmps63
    go_wp2_with fail
    go_ret
    exact ⟨_, rfl, World.ownsRow_nil _ _ _ _, Ext.refl w, fun k hk => by cases hk⟩
  | some ad =>
    have hcmp := fun w : World => owns_some w ad l.length c
    obtain ⟨j0, hj, hjz0, hjz1, hjz2⟩ := info_parts Tryz.infoOw
    have HJ := hid (And.intro hj (And.intro hjz0 (And.intro hjz1 hjz2)))
    have HH := hid h
    have hx1 : Ext w (w.alloc (.cells #[] 39)) := (Ext.refl w).alloc _
    have HX1 := hid hx1
    clear hj hjz0 hjz1 hjz2 h
    go_enter Tryz.func63, Tryz.ntmps63
    go_wp2_with (at_builtin; refine wpList_app' rfl _ _ 34 rfl 39 j0 (.agg #[.int .u64 0, .int .u64 0, .int .u64 0, .int .u64 0, .int .i64 0, .int .i64 0, .int .i64 0, .int .i64 0]) 8 64 (by kernel_rfl) HJ.out.1 HJ.out.2.1 HJ.out.2.2.1 HJ.out.2.2.2 rfl (by decide) _ 0 [] rfl (own_emptyN w) _ l.length (l.flatMap owCells) rfl (ownsRow_rd (ownsRow_ext HH.out HX1.out)).weak (by rw [flat_len owCells_len]) (ow_one l) (by unfold maxLen; omega) (by omega) ?_)
    intro v' w3 hown hk2 hb
    have G : Hid (OwnN w3 v' l ∧ Ext w w3 ∧ ∀ k, blk v' = some k → w.heap.size ≤ k) := hid (by
      refine ⟨by simpa using hown, HX1.out.kp hk2 (fun k e => ?_), fun k e => ?_⟩
      · change some k = some w.heap.size at e
        injection e with e
        omega
      · rcases hb with h | h
        · rw [h] at e
          change some w.heap.size = some k at e
          injection e with e
          omega
        · rw [h] at e
          injection e with e
          have := HX1.out.size
          omega)
    obtain ⟨va, vc, rfl, -⟩ := ownsRow_rd hown
    clear hown hk2 hb hcmp
    go_wp2_with fail
    go_ret
    exact ⟨_, rfl, G.out⟩
set_option maxRecDepth 100000 in
theorem walNotes_any {w : World} {W d : Nat} {r : Rl} {seed : UInt64} {L : List UInt64} {ns : List OwT} {ps : List (ScT × Value)} {ob LB : Nat} {nv pv : Value} {FO FT A : Nat → Prop} (h : WalIn w W d r seed L ns ps ob LB nv pv FO FT A) (hn : ns.length ≤ 100000) :
    Calls Tryz.prog 23 #[.pointer (some ⟨W, 0, none⟩)] w fun e w' => ∃ u, e = .returned u ∧ OwnN w' u ns ∧ Ext w w' ∧ ∀ k, blk u = some k → w.heap.size ≤ k := by
  have CL := hid (clone_any h.notes hn)
  obtain ⟨na, nc, rfl, -⟩ := ownsRow_rd h.notes
  obtain ⟨-, -, -, -, -, e5, -⟩ := h.cells
  clear h
  go_enter Tryz.func23, Tryz.ntmps23
  go_wp2_with fail
  refine (CL.out).mono ?_
  rintro e w1 ⟨u, rfl, h1, h2, h3⟩
  have G := hid (And.intro h1 (And.intro h2 h3))
  obtain ⟨ua, uc, rfl, -⟩ := ownsRow_rd h1
  clear h1 h2 h3 CL
  go_wp2_with fail
  go_ret
  exact ⟨_, rfl, G.out⟩
set_option maxRecDepth 100000 in
set_option maxHeartbeats 6400000 in
theorem walLeaves_any {w : World} {W d : Nat} {r : Rl} {seed : UInt64} {L : List UInt64} {ns : List OwT} {ps : List (ScT × Value)} {ob LB : Nat} {nv pv : Value} {FO FT A : Nat → Prop} (h : WalIn w W d r seed L ns ps ob LB nv pv FO FT A) (hL : L.length ≤ 100000) :
    Calls Tryz.prog 82 #[.pointer (some ⟨W, 0, none⟩)] w fun e w' => ∃ u, e = .returned u ∧ OwnU w' u L ∧ Ext w w' ∧ ∀ k, blk u = some k → w.heap.size ≤ k := by
  have CNT : Hid (∀ v, Ext w v → Calls Tryz.prog 88 #[.pointer (some ⟨LB, 0, none⟩)] v fun e w' => e = .returned (.int .i64 (L.length : Int)) ∧ Ext v w') := hid fun v k => treeCount_any (h.tree.ext k) h.dep.2.1
  have LF : Hid (∀ v (p : Nat) (x : UInt64), Ext w v → L[p]? = some x → Calls Tryz.prog 114 #[.pointer (some ⟨LB, 0, none⟩), .int .i64 (p : Int)] v fun e w' => e = .returned (.tuple #[uv x, .bool true]) ∧ Ext v w') := hid fun v p x k hx => treeLeaf_any (h.tree.ext k) h.dep.2.1 hx
  obtain ⟨-, -, -, -, e4, -, -⟩ := h.cells
  have H4 := hid e4
  obtain ⟨i0, hi, hz0, hz1, hz2⟩ := info_parts Tryz.infoU
  have HI0 := hid (And.intro hi (And.intro hz0 (And.intro hz1 hz2)))
  have hLI : (L.length : Int) ≤ 100000 := by omega
  clear h hi hz0 hz1 hz2
  go_enter Tryz.func82, Tryz.ntmps82
  go_wp2_with fail
  refine (CNT.out _ (Ext.refl w)).mono ?_
  rintro e w1 ⟨rfl, hx⟩
  have X1 := hid hx
  clear hx e4
  go_wp2_with (at_make; refine wpList_make_own _ rfl _ _ 57 rfl 0 22 i0 (.int .u64 0) 1 Tryz.underlying57 HI0.out.1 HI0.out.2.1 HI0.out.2.2.1 _ _ _ L.length rfl rfl rfl (by rw [HI0.out.2.2.2]; omega) (by unfold maxLen; omega) (Nat.zero_le _) ?_)
  intro w2 hown0 hg
  have hE : Ext w1 w2 := (grown_kp hg).toExt (by intro k h; cases h)
  have H1 : Hid (OwnU w2 (.slice (some ⟨w1.heap.size, 0, none⟩) 0 L.length) [] ∧ Ext w w2 ∧ ∀ k, blk (.slice (some ⟨w1.heap.size, 0, none⟩) 0 L.length) = some k → w.heap.size ≤ k) := hid ⟨hown0, X1.out.trans hE, fun k e => by
    change some w1.heap.size = some k at e
    have := Option.some.inj e
    have := X1.out.size
    omega⟩
  have e4 := H1.out.2.1.cell_some H4.out
  clear hown0 hg hE
  go_wp2_with fail
  refine (CNT.out _ H1.out.2.1).mono ?_
  rintro e w3 ⟨rfl, hx⟩
  have H3 : Hid (OwnU w3 (.slice (some ⟨w1.heap.size, 0, none⟩) 0 L.length) [] ∧ Ext w w3 ∧ ∀ k, blk (.slice (some ⟨w1.heap.size, 0, none⟩) 0 L.length) = some k → w.heap.size ≤ k) := hid ⟨ownsRow_ext H1.out.1 hx, H1.out.2.1.trans hx, H1.out.2.2⟩
  clear hx e4 CNT H1
  go_wp2_with fail
  go_loopw [3, 23] (fun bv iv wr => ∃ i : Nat, i ≤ L.length ∧ iv = .int .i64 i ∧ Hid (OwnU wr bv (L.take i) ∧ Ext w wr ∧ ∀ k, blk bv = some k → w.heap.size ≤ k)) (fun _ iv _ => L.length - (intOf iv).toNat)
  case atStart => exact ⟨0, by omega, rfl, H3⟩
  case round =>
    obtain ⟨i, hi, rfl, HI⟩ := hrel
    have hi0 : (0 : Int) ≤ (i : Int) := Int.natCast_nonneg _
    by_cases hlt : i < L.length
    · have hltB : decide ((i : Int) < (L.length : Int)) = true := by simp; omega
      have hil : (i : Int) < (L.length : Int) := by omega
      obtain ⟨y, hy⟩ : ∃ y, L[i]? = some y := ⟨_, List.getElem?_eq_getElem hlt⟩
      have CD := hid (LF.out wr i y HI.out.2.1 hy)
      have HT : Hid (L.take (i + 1) = L.take i ++ [y]) := hid (by rw [List.take_add_one, hy]; rfl)
      have e4 := HI.out.2.1.cell_some H4.out
      obtain ⟨cur, hcur⟩ : ∃ cur, cur = L.take i := ⟨_, rfl⟩
      rw [← hcur] at HI HT
      have HCL : Hid (cur.length ≤ 100000) := hid (by rw [hcur, List.length_take]; omega)
      clear hy hcur
      go_wp2_with fail
      refine (CD.out).mono ?_
      rintro e x2 ⟨rfl, hx⟩
      have HOX := hid (ownsRow_ext HI.out.1 hx)
      have HY2 := hid (HI.out.2.1.trans hx)
      obtain ⟨ba, bc, rfl, -⟩ := ownsRow_rd HI.out.1
      clear hx e4 CD
      go_wp2_with (at_builtin; refine wpList_app rfl _ _ 57 rfl 22 i0 (.int .u64 0) 1 8 Tryz.underlying57 HI0.out.1 HI0.out.2.1 HI0.out.2.2.1 HI0.out.2.2.2 rfl (by decide) _ cur.length (us cur) rfl (ownsRow_ext HOX.out ((Ext.refl _).alloc _)) _ 1 [.int .u64 y.toNat] rfl (RdC.new1 _ _ _) rfl (us_one [y]) (by have := HCL.out; unfold maxLen; omega) (by have := HCL.out; omega) ?_)
      intro v' w3 hown hk2 hb
      have G : Hid (OwnU w3 v' (cur ++ [y]) ∧ Ext w w3 ∧ ∀ k, blk v' = some k → w.heap.size ≤ k) := hid (by
        refine ⟨?_, (HY2.out.alloc _).kp hk2 (fun k e => HI.out.2.2 k e.symm), fun k e => ?_⟩
        · show w3.ownsRow 0 22 1 v' (cur ++ [y]).length (us (cur ++ [y]))
          rw [List.length_append, show us (cur ++ [y]) = us cur ++ [uv y] by simp [us]]
          exact hown
        · rcases hb with h | h
          · exact HI.out.2.2 k (by rw [← h]; exact e)
          · rw [h] at e
            have := Option.some.inj e
            have := HY2.out.size
            have := ((Ext.refl x2).alloc (.cells #[uv y] 22)).size
            omega)
      obtain ⟨va, vc, rfl, -⟩ := ownsRow_rd hown
      clear hown hk2 hb
      go_wp2_with fail
      go_roundw
      case rel => exact ⟨i + 1, by omega, by go_num, by rw [HT.out]; exact G⟩
      case measure => simp [intOf]; omega
    · have hltB : decide ((i : Int) < (L.length : Int)) = false := by simp; omega
      obtain rfl : i = L.length := by omega
      rw [List.take_length] at HI
      obtain ⟨ba, bc, rfl, -⟩ := ownsRow_rd HI.out.1
      go_wp2_with fail
      go_ret
      exact ⟨_, rfl, HI.out⟩
/-- The bytes of a note that is owned. -/
def owB (x : OwT) : List UInt8 := leB 8 x.note.value ++ leB 8 x.note.owner ++ leB 8 x.note.rho ++ leB 8 x.note.blind ++ lenB (x.number : Int) ++ lenB (x.pos : Int) ++ lenB (x.height : Int) ++ lenB (x.spent : Int)
theorem owB_length (x : OwT) : (owB x).length = 48 := by
  unfold owB
  simp only [List.length_append, leB_length, lenB_length]
def owsB (l : List OwT) : List UInt8 := l.flatMap owB
theorem owsB_length (l : List OwT) : (owsB l).length = 48 * l.length := by
  induction l with
  | nil => rfl
  | cons x r ih =>
    unfold owsB at ih ⊢
    rw [List.flatMap_cons, List.length_append, owB_length, ih, List.length_cons]
    omega
theorem owsB_snoc {l : List OwT} {i : Nat} {x : OwT} (h : l[i]? = some x) : owsB (l.take (i + 1)) = owsB (l.take i) ++ owB x := by
  rw [List.take_add_one, h]; simp [owsB]
/-- The bytes of a wallet with n blocks. -/
def walB (n : Nat) (L : List UInt64) (ns : List OwT) : List UInt8 := lenB (n : Int) ++ listB L ++ lenB (ns.length : Int) ++ owsB ns
set_option maxRecDepth 100000 in
set_option maxHeartbeats 12800000 in
theorem walEncode_any {w : World} {W d : Nat} {r : Rl} {seed : UInt64} {L : List UInt64} {ns : List OwT} {ps : List (ScT × Value)} {ob LB : Nat} {nv pv : Value} {FO FT A : Nat → Prop} (h : WalIn w W d r seed L ns ps ob LB nv pv FO FT A) (hL : L.length ≤ 10000) (hn : ns.length ≤ 10000) :
    Calls Tryz.prog 39 #[.pointer (some ⟨W, 0, none⟩)] w (NewB w (walB ps.length L ns)) := by
  obtain ⟨pa, pc, rfl, -⟩ := ownsRow_rd h.past
  obtain ⟨na, nc, rfl, -⟩ := ownsRow_rd h.notes
  have LV : Hid (∀ v, Ext w v → Calls Tryz.prog 82 #[.pointer (some ⟨W, 0, none⟩)] v fun e w' => ∃ u, e = .returned u ∧ OwnU w' u L ∧ Ext v w' ∧ ∀ k, blk u = some k → v.heap.size ≤ k) := hid fun v k => walLeaves_any (h.ext k) (by omega)
  have HO := hid h.notes
  have HC : Hid (∀ v, Ext w v → v.cell? ⟨W, 13, none⟩ = some (.slice na ns.length nc)) := hid fun v k => by
    obtain ⟨-, -, -, -, -, q, -⟩ := (h.ext k).cells
    exact q
  obtain ⟨-, -, -, -, -, -, e6⟩ := h.cells
  have hnI : (ns.length : Int) ≤ 10000 := by omega
  have HL := hid hL
  have F0 : Hid (FrB w w (.slice none 0 0) []) := hid ⟨World.ownsRow_nil _ _ _ _, Ext.refl w, fun k h => by cases h⟩
  have HNL := hid hn
  clear h hL hn
  obtain ⟨n, hpn⟩ : ∃ n, n = ps.length := ⟨_, rfl⟩
  rw [← hpn] at e6 ⊢
  clear hpn
  go_enter Tryz.func39, Tryz.ntmps39
  go_wp2_with fail
  refine (wInt_fr (n : Int) F0.out (by simp)).mono ?_
  rintro e w1 ⟨v1, rfl, hf, -⟩
  obtain ⟨sa1, sc1, rfl⟩ := hf.sl
  obtain ⟨L1, hL1⟩ : ∃ M, M = ([] ++ lenB (n : Int) : List UInt8) := ⟨_, rfl⟩
  rw [← hL1] at hf ⊢
  have F1 := hid hf
  have HL1 := hid hL1
  have B1 : Hid (L1.length ≤ 4) := hid (by rw [hL1]; simp [lenB_length])
  clear hf hL1 e6
  go_wp2_with fail
  refine (LV.out _ F1.out.2.1).mono ?_
  rintro e w2 ⟨u2, rfl, ho2, hx2, hn2⟩
  have O2 := hid ho2
  have F1b := hid (F1.out.ext hx2)
  obtain ⟨ua, uc, rfl, -⟩ := ownsRow_rd ho2
  clear ho2 hx2 hn2 LV
  go_wp2_with fail
  refine (wList_fr (xs := L) F1b.out (ownsRow_rd O2.out).weak (by have := B1.out; omega) (by have := HL.out; omega)).mono ?_
  rintro e w3 ⟨v3, rfl, hf, -⟩
  obtain ⟨sa3, sc3, rfl⟩ := hf.sl
  obtain ⟨L2, hL2⟩ : ∃ M, M = L1 ++ listB L := ⟨_, rfl⟩
  rw [← hL2] at hf ⊢
  have F2 := hid hf
  have HL2 := hid hL2
  have B2 : Hid (L2.length ≤ 100000) := hid (by rw [hL2, List.length_append, listB_length]; have := B1.out; have := HL.out; omega)
  have e5 := HC.out _ hf.2.1
  clear hf hL2
  go_wp2_with fail
  refine (wInt_fr (ns.length : Int) F2.out (by have := B2.out; omega)).mono ?_
  rintro e w4 ⟨v4, rfl, hf, -⟩
  obtain ⟨sa4, sc4, rfl⟩ := hf.sl
  obtain ⟨L3, hL3⟩ : ∃ M, M = L2 ++ lenB (ns.length : Int) := ⟨_, rfl⟩
  rw [← hL3] at hf ⊢
  have F3 := hid hf
  have HL3 := hid hL3
  have B3 : Hid (L3.length ≤ 200000) := hid (by rw [hL3, List.length_append, lenB_length]; have := B2.out; omega)
  clear e5
  have e5 := HC.out _ hf.2.1
  clear hf hL3
  go_wp2_with fail
  clear e5
  go_loopw [3, 28] (fun bv iv wr => ∃ i : Nat, i ≤ ns.length ∧ iv = .int .i64 i ∧ Hid (FrB w wr bv (L3 ++ owsB (ns.take i)))) (fun _ iv _ => ns.length - (intOf iv).toNat)
  case atStart => exact ⟨0, by omega, rfl, hid (by simpa [owsB] using F3.out)⟩
  case round =>
    obtain ⟨i, hi, rfl, HI⟩ := hrel
    have hi0 : (0 : Int) ≤ (i : Int) := Int.natCast_nonneg _
    by_cases hlt : i < ns.length
    · have hltB : decide ((i : Int) < (ns.length : Int)) = true := by simp; omega
      have hil : (i : Int) < (ns.length : Int) := by omega
      obtain ⟨x, hxi⟩ : ∃ x, ns[i]? = some x := ⟨_, List.getElem?_eq_getElem hlt⟩
      obtain ⟨g, rfl⟩ : ∃ g, na = some ⟨g, 0, none⟩ := own_shape HO.out (by omega)
      have hrow : ∀ j u, j < 8 → (owCells x)[j]? = some u → wr.cell? ⟨g, i * 8 + j, none⟩ = some u := by
        obtain ⟨b, o, e, hc⟩ := rows_at owCells_len (by omega) rfl (ownsRow_rd (ownsRow_ext HO.out HI.out.2.1)).weak hxi
        injection e with e
        injection e with e1 e2
        subst e1 e2
        intro j u hj hu
        have := hc j u hj hu
        rwa [Nat.zero_add] at this
      have f0 : wr.cell? ⟨g, i * 8, none⟩ = some (uv x.note.value) := hrow 0 _ (by omega) rfl
      have f1 : wr.cell? ⟨g, i * 8 + 1, none⟩ = some (uv x.note.owner) := hrow 1 _ (by omega) rfl
      have f2 : wr.cell? ⟨g, i * 8 + 2, none⟩ = some (uv x.note.rho) := hrow 2 _ (by omega) rfl
      have f3 : wr.cell? ⟨g, i * 8 + 3, none⟩ = some (uv x.note.blind) := hrow 3 _ (by omega) rfl
      have f4 : wr.cell? ⟨g, i * 8 + 4, none⟩ = some (.int .i64 (x.number : Int)) := hrow 4 _ (by omega) rfl
      have f5 : wr.cell? ⟨g, i * 8 + 5, none⟩ = some (.int .i64 (x.pos : Int)) := hrow 5 _ (by omega) rfl
      have f6 : wr.cell? ⟨g, i * 8 + 6, none⟩ = some (.int .i64 (x.height : Int)) := hrow 6 _ (by omega) rfl
      have f7 : wr.cell? ⟨g, i * 8 + 7, none⟩ = some (.int .i64 (x.spent : Int)) := hrow 7 _ (by omega) rfl
      have HSN : Hid (L3 ++ owsB (ns.take (i + 1)) = (L3 ++ owsB (ns.take i)) ++ owB x) := hid (by rw [owsB_snoc hxi, List.append_assoc])
      obtain ⟨C0, hC0⟩ : ∃ C, C = L3 ++ owsB (ns.take i) := ⟨_, rfl⟩
      rw [← hC0] at HI HSN
      have HN0 : Hid (C0.length ≤ 1000000) := hid (by rw [hC0, List.length_append, owsB_length, List.length_take]; have := B3.out; have := HNL.out; omega)
      obtain ⟨ba, bc, rfl⟩ := HI.out.sl
      clear hrow hxi hC0
      go_upto_region 7 with fail
      obtain ⟨P, hP⟩ : ∃ P, P = wr.heap.size := ⟨_, rfl⟩
      obtain ⟨x0, hx0⟩ : ∃ u, u = wr.alloc (.cells #[uv x.note.value, uv x.note.owner, uv x.note.rho, uv x.note.blind, .int .i64 (x.number : Int), .int .i64 (x.pos : Int), .int .i64 (x.height : Int), .int .i64 (x.spent : Int)] 39) := ⟨_, rfl⟩
      rw [← hx0, ← hP]
      have hy0 : Ext wr x0 := by rw [hx0]; exact (Ext.refl wr).alloc _
      have hbo : x0.heap[P]? = some (.cells #[uv x.note.value, uv x.note.owner, uv x.note.rho, uv x.note.blind, .int .i64 (x.number : Int), .int .i64 (x.pos : Int), .int .i64 (x.height : Int), .int .i64 (x.spent : Int)] 39 (0, 0)) := by rw [hx0, hP]; exact heap_new _ _
      have HBO := hid hbo
      have G0 := hid (HI.out.ext hy0)
      have HXX : Hid (FrB w x0 (.slice ba C0.length bc) C0 ∧ Ext x0 x0) := hid ⟨HI.out.ext hy0, Ext.refl _⟩
      clear hx0 hy0 hbo hP f0 f1 f2 f3 f4 f5 f6 f7 HI
      obtain ⟨c0, c1, c2, c3, c4, c5, c6, c7⟩ := eight_cells (HXX.out.2.heap_some HBO.out)
      go_wp2_with fail
      refine (wUint_fr x.note.value HXX.out.1 (by have := HN0.out; omega)).mono ?_
      rintro e y1 ⟨z1, rfl, hf, hx⟩
      obtain ⟨za1, zc1, rfl⟩ := hf.sl
      obtain ⟨C1, hC⟩ : ∃ C, C = C0 ++ leB 8 x.note.value := ⟨_, rfl⟩
      rw [← hC] at hf ⊢
      have G1 := hid (And.intro hf (HXX.out.2.trans hx))
      have HC1 := hid hC
      have HN1 : Hid (C1.length ≤ 1000008) := hid (by rw [hC, List.length_append, leB_length]; have := HN0.out; omega)
      clear hf hx hC c0 c1 c2 c3 c4 c5 c6 c7 HXX
      obtain ⟨c0, c1, c2, c3, c4, c5, c6, c7⟩ := eight_cells (G1.out.2.heap_some HBO.out)
      go_wp2_with fail
      refine (wUint_fr x.note.owner G1.out.1 (by have := HN1.out; omega)).mono ?_
      rintro e y2 ⟨z2, rfl, hf, hx⟩
      obtain ⟨za2, zc2, rfl⟩ := hf.sl
      obtain ⟨C2, hC⟩ : ∃ C, C = C1 ++ leB 8 x.note.owner := ⟨_, rfl⟩
      rw [← hC] at hf ⊢
      have G2 := hid (And.intro hf (G1.out.2.trans hx))
      have HC2 := hid hC
      have HN2 : Hid (C2.length ≤ 1000016) := hid (by rw [hC, List.length_append, leB_length]; have := HN1.out; omega)
      clear hf hx hC c0 c1 c2 c3 c4 c5 c6 c7 G1
      obtain ⟨c0, c1, c2, c3, c4, c5, c6, c7⟩ := eight_cells (G2.out.2.heap_some HBO.out)
      go_wp2_with fail
      refine (wUint_fr x.note.rho G2.out.1 (by have := HN2.out; omega)).mono ?_
      rintro e y3 ⟨z3, rfl, hf, hx⟩
      obtain ⟨za3, zc3, rfl⟩ := hf.sl
      obtain ⟨C3, hC⟩ : ∃ C, C = C2 ++ leB 8 x.note.rho := ⟨_, rfl⟩
      rw [← hC] at hf ⊢
      have G3 := hid (And.intro hf (G2.out.2.trans hx))
      have HC3 := hid hC
      have HN3 : Hid (C3.length ≤ 1000024) := hid (by rw [hC, List.length_append, leB_length]; have := HN2.out; omega)
      clear hf hx hC c0 c1 c2 c3 c4 c5 c6 c7 G2
      obtain ⟨c0, c1, c2, c3, c4, c5, c6, c7⟩ := eight_cells (G3.out.2.heap_some HBO.out)
      go_wp2_with fail
      refine (wUint_fr x.note.blind G3.out.1 (by have := HN3.out; omega)).mono ?_
      rintro e y4 ⟨z4, rfl, hf, hx⟩
      obtain ⟨za4, zc4, rfl⟩ := hf.sl
      obtain ⟨C4, hC⟩ : ∃ C, C = C3 ++ leB 8 x.note.blind := ⟨_, rfl⟩
      rw [← hC] at hf ⊢
      have G4 := hid (And.intro hf (G3.out.2.trans hx))
      have HC4 := hid hC
      have HN4 : Hid (C4.length ≤ 1000032) := hid (by rw [hC, List.length_append, leB_length]; have := HN3.out; omega)
      clear hf hx hC c0 c1 c2 c3 c4 c5 c6 c7 G3
      obtain ⟨c0, c1, c2, c3, c4, c5, c6, c7⟩ := eight_cells (G4.out.2.heap_some HBO.out)
      go_wp2_with fail
      refine (wInt_fr (x.number : Int) G4.out.1 (by have := HN4.out; omega)).mono ?_
      rintro e y5 ⟨z5, rfl, hf, hx⟩
      obtain ⟨za5, zc5, rfl⟩ := hf.sl
      obtain ⟨C5, hC⟩ : ∃ C, C = C4 ++ lenB (x.number : Int) := ⟨_, rfl⟩
      rw [← hC] at hf ⊢
      have G5 := hid (And.intro hf (G4.out.2.trans hx))
      have HC5 := hid hC
      have HN5 : Hid (C5.length ≤ 1000040) := hid (by rw [hC, List.length_append, lenB_length]; have := HN4.out; omega)
      clear hf hx hC c0 c1 c2 c3 c4 c5 c6 c7 G4
      obtain ⟨c0, c1, c2, c3, c4, c5, c6, c7⟩ := eight_cells (G5.out.2.heap_some HBO.out)
      go_wp2_with fail
      refine (wInt_fr (x.pos : Int) G5.out.1 (by have := HN5.out; omega)).mono ?_
      rintro e y6 ⟨z6, rfl, hf, hx⟩
      obtain ⟨za6, zc6, rfl⟩ := hf.sl
      obtain ⟨C6, hC⟩ : ∃ C, C = C5 ++ lenB (x.pos : Int) := ⟨_, rfl⟩
      rw [← hC] at hf ⊢
      have G6 := hid (And.intro hf (G5.out.2.trans hx))
      have HC6 := hid hC
      have HN6 : Hid (C6.length ≤ 1000048) := hid (by rw [hC, List.length_append, lenB_length]; have := HN5.out; omega)
      clear hf hx hC c0 c1 c2 c3 c4 c5 c6 c7 G5
      obtain ⟨c0, c1, c2, c3, c4, c5, c6, c7⟩ := eight_cells (G6.out.2.heap_some HBO.out)
      go_wp2_with fail
      refine (wInt_fr (x.height : Int) G6.out.1 (by have := HN6.out; omega)).mono ?_
      rintro e y7 ⟨z7, rfl, hf, hx⟩
      obtain ⟨za7, zc7, rfl⟩ := hf.sl
      obtain ⟨C7, hC⟩ : ∃ C, C = C6 ++ lenB (x.height : Int) := ⟨_, rfl⟩
      rw [← hC] at hf ⊢
      have G7 := hid (And.intro hf (G6.out.2.trans hx))
      have HC7 := hid hC
      have HN7 : Hid (C7.length ≤ 1000056) := hid (by rw [hC, List.length_append, lenB_length]; have := HN6.out; omega)
      clear hf hx hC c0 c1 c2 c3 c4 c5 c6 c7 G6
      obtain ⟨c0, c1, c2, c3, c4, c5, c6, c7⟩ := eight_cells (G7.out.2.heap_some HBO.out)
      go_wp2_with fail
      refine (wInt_fr (x.spent : Int) G7.out.1 (by have := HN7.out; omega)).mono ?_
      rintro e y8 ⟨z8, rfl, hf, hx⟩
      obtain ⟨za8, zc8, rfl⟩ := hf.sl
      obtain ⟨C8, hC⟩ : ∃ C, C = C7 ++ lenB (x.spent : Int) := ⟨_, rfl⟩
      rw [← hC] at hf ⊢
      have G8 := hid (And.intro hf (G7.out.2.trans hx))
      have HC8 := hid hC
      have HN8 : Hid (C8.length ≤ 1000064) := hid (by rw [hC, List.length_append, lenB_length]; have := HN7.out; omega)
      clear hf hx hC c0 c1 c2 c3 c4 c5 c6 c7 G7
      go_wp2_with fail
      go_roundw
      case rel => exact ⟨i + 1, by omega, by go_num, hid (by
        have e8 : C0 ++ owB x = C8 := by
          rw [HC8.out, HC7.out, HC6.out, HC5.out, HC4.out, HC3.out, HC2.out, HC1.out]
          unfold owB
          simp only [List.append_assoc]
        rw [HSN.out, e8]
        exact G8.out.1)⟩
      case measure => simp [intOf]; omega
    · have hltB : decide ((i : Int) < (ns.length : Int)) = false := by simp; omega
      obtain rfl : i = ns.length := by omega
      rw [List.take_length] at HI
      obtain ⟨ba, bc, hbv⟩ := HI.out.sl
      go_wp2_with fail
      go_ret
      exact ⟨_, rfl, by
        have := HI.out.1
        rw [HL3.out, HL2.out, HL1.out, List.nil_append] at this
        exact this, HI.out.2⟩
end Go.Proofs.YtcikjcjfcanloaaGreat
namespace Go.Proofs.YtcikjcjfcanloaaGreat
open Go.RowKit
def commitN (n : Nt) : UInt64 := hashU 2 n.list
theorem spendW_notes (key : UInt64) (h : Nat) (marks : List UInt64) (S : StW) : (spendW key h marks S).notes = S.notes.map (outW key h marks) ∧ (spendW key h marks S).leaves = S.leaves := by
  unfold spendW spendTo
  rw [List.take_length, List.drop_length, List.append_nil]
  exact ⟨rfl, rfl⟩
def outsOf (b : BlkT) : List UInt64 := b.txs.flatMap fun t => t.outs.map (·.commit)
def leavesW (l : List BlkT) : List UInt64 := l.flatMap outsOf
theorem fold_leaves (seed : UInt64) (ht : Nat) : ∀ (l : List TxT) (S : StW), (l.foldl (txW seed ht) S).leaves = S.leaves ++ l.flatMap fun t => t.outs.map (·.commit)
  | [], S => by simp
  | t :: r, S => by
    rw [List.foldl_cons, fold_leaves seed ht r, List.flatMap_cons]
    unfold txW
    rw [recvW_leaves, (spendW_notes _ _ _ _).2, List.append_assoc]
theorem stTo_leaves (seed : UInt64) (l : List BlkT) : ∀ i, (stTo seed l i).leaves = leavesW (l.take i)
  | 0 => by simp [stTo, leavesW]
  | i + 1 => by
    unfold stTo
    split
    · next b hb =>
      unfold blkW
      rw [fold_leaves, stTo_leaves seed l i]
      unfold leavesW
      rw [List.take_add_one, hb]
      simp [outsOf]
    · next hb =>
      rw [List.getElem?_eq_none_iff] at hb
      rw [stTo_leaves seed l i, List.take_of_length_le hb, List.take_of_length_le (by omega)]
theorem stW_leaves (seed : UInt64) (l : List BlkT) : (stW seed l).leaves = leavesW l := by
  unfold stW
  rw [stTo_leaves, List.take_length]
theorem outsOf_length (b : BlkT) : (outsOf b).length = outsN b.txs := by
  unfold outsOf outsN
  rw [List.length_flatMap]
  congr 1
  apply List.map_congr_left
  intro t _
  rw [List.length_map]
theorem leavesW_snoc (l : List BlkT) (b : BlkT) : leavesW (l ++ [b]) = leavesW l ++ outsOf b := by simp [leavesW]
/-- The error of a further block. -/
def checkW (d : Nat) (l : List BlkT) (b : BlkT) : Int := fitsW d l.length (leavesW l).length b
theorem fits_check (d : Nat) (seed : UInt64) (l : List BlkT) (b : BlkT) : fitsW d l.length (stW seed l).leaves.length b = checkW d l b := by
  unfold checkW
  rw [stW_leaves]
def okAll (d : Nat) (l : List BlkT) : Prop := ∀ i b, l[i]? = some b → checkW d (l.take i) b = 0
theorem okAll_fits {d : Nat} {seed : UInt64} {l : List BlkT} : fitsAll d seed l ↔ okAll d l := by
  unfold fitsAll okAll checkW
  constructor
  · intro h i b hb
    have := h i b hb
    have hi := (List.getElem?_eq_some_iff.1 hb).1
    rw [stTo_leaves] at this
    rw [show (l.take i).length = i by rw [List.length_take]; omega]
    exact this
  · intro h i b hb
    have := h i b hb
    have hi := (List.getElem?_eq_some_iff.1 hb).1
    rw [stTo_leaves]
    rwa [show (l.take i).length = i by rw [List.length_take]; omega] at this
theorem okAll_valid {d : Nat} {l : List BlkT} (h : okAll d l) : ∀ b ∈ l, ∀ t ∈ b.txs, txV t = 0 := fun b hb t ht => by
  obtain ⟨i, hi, rfl⟩ := List.getElem_of_mem hb
  have h1 := h i _ (List.getElem?_eq_getElem hi)
  unfold checkW fitsW at h1
  split at h1
  · split at h1
    · next h2 => simpa using List.all_eq_true.1 h2 t ht
    · cases h1
  · cases h1
end Go.Proofs.YtcikjcjfcanloaaGreat
