/- Commit: the tree of some leaves. Commit: the lemmas of its loops. -/
import Derived.Test.YtdpgfjnpcjpdpaaTree4
import Derived.Test.YtdpgfjnpcjpdpaaTake
import Derived.Test.YtdpgfjnpcjpdpaaCommitLaw
import Derived.Test.YtdpgfjnpcjpdpaaTwo
set_option linter.unusedSimpArgs false
namespace Go.Proofs.Ytdpgfjnpcjpdpaa
open Go.RowKit
attribute [local irreducible] perm fAdd fMul fPow fSub fNeg fRed hashU drawOf nextState

theorem OrcTo.setOther {w w' : World} {b : Nat} {M : Orc} {F F' : Nat → Prop} (h : OrcTo w b F M w' F') {g : Nat} (hg : w.heap.size ≤ g) (hn : ¬ F' g) (o : Nat) (u : Value) : OrcTo w b F M (w'.setCell ⟨g, o, none⟩ u) F' :=
  ⟨h.at'.kp ((Kp.refl (fun k => k = g) w').setCell (p := ⟨g, o, none⟩) (.inl rfl) u) (by rintro i hi rfl; exact hn hi), h.kp.setCell (.inr hg) u, h.new, h.old⟩
theorem OrcTo.apart {w w' : World} {b : Nat} {M : Orc} {F F' : Nat → Prop} (h : OrcTo w b F M w' F') {g : Nat} (hg : g < w.heap.size) (hF : ¬ F g) : ¬ F' g := fun hf => by
  rcases h.new g hf with h1 | h1
  · exact hF h1
  · omega
/-- What was there, in whatever blocks that are not of F, as long as only F turns. -/
def Stays (F : Nat → Prop) (w : World) (C : World → Prop) : Prop := ∀ w', Kp F w w' → C w'
theorem Stays.of_new {F : Nat → Prop} {w0 w : World} {C : World → Prop} (H : ∀ v, Ext w0 v → C v) (hx : Ext w0 w) (hF : ∀ k, F k → w0.heap.size ≤ k) : Stays F w C := fun _ k => H _ (hx.kp k hF)

def CommitT (w : World) (b : Nat) (M : Orc) (F : Nat → Prop) (leaves : Lv) (salts : List UInt64) (e : Ending) (w' : World) : Prop :=
  ∃ v L, e = .returned (.tuple #[.agg #[v], .int .i64 (if commitOk leaves salts then 0 else 1)]) ∧ L.map (·.1) = (M.commitT leaves salts).1 ∧ ∃ F', OrcTo w b F (M.commitT leaves salts).2 w' F' ∧ BesideL w w' F' v L
theorem commitT_no {w w' : World} {b : Nat} {M : Orc} {F : Nat → Prop} {leaves : Lv} {salts : List UInt64} (h : OrcAt w b M F) (hx : Ext w w') (hno : commitOk leaves salts = false) :
    CommitT w b M F leaves salts (.returned (.tuple #[.agg #[.slice none 0 0], .int .i64 1])) w' := by
  refine ⟨.slice none 0 0, [], by rw [hno]; rfl, ?_, F, ?_, ⟨⟨World.ownsRow_nil _ _ _ _, fun x hx => by cases hx⟩, (fun k hk => by cases hk), fun x hx => by cases hx⟩⟩
  · unfold Orc.commitT; rw [hno]; rfl
  · unfold Orc.commitT; rw [hno]; exact .of_ext h hx

set_option maxRecDepth 100000 in
set_option maxHeartbeats 3200000 in
theorem mCommit_bad {w : World} {b : Nat} {M : Orc} {F : Nat → Prop} {lv sv : Value} {leaves : Lv} {salts : List UInt64} (h : OrcAt w b M F) (hl : RdL w lv leaves) (hs : RdU' w sv salts)
    (hL : leaves.length ≤ 1000000000) (hE : ∀ l ∈ leaves, l.length ≤ 1000000000) (hS : salts.length ≤ 1000000000) (hno : commitOk leaves salts = false) :
    Calls Try.prog 25 #[.pointer (some ⟨b, 0, none⟩), lv, sv] w (CommitT w b M F leaves salts) := by
  obtain ⟨a, c, rfl, -⟩ := hl.shape
  have HS := hid hs
  obtain ⟨sa, sc, rfl, -⟩ := hs
  have hx : Ext w (w.alloc (.cells #[.slice none 0 0] 27)) := (Ext.refl w).alloc _
  have hb := heap_new w (.cells #[.slice none 0 0] 27)
  have HFIN := hid (commitT_no h hx hno)
  have HB := hid hb
  have HEL := hid (melements_any _ salts (w.alloc (.cells #[.slice none 0 0] 27)) (HS.out.ext hx) (by omega))
  have hck : commitOk leaves salts = (isNum leaves.length && (salts.length == leaves.length && (allE salts && leaves.all allE))) := rfl
  have d0 : (w.alloc (.cells #[.slice none 0 0] 27)).cell? ⟨w.heap.size, 0, none⟩ = some (.slice none 0 0) := cell_of hb 0
  have f0 : (w.alloc (.cells #[.slice none 0 0] 27)).frozen? ⟨w.heap.size, 0, none⟩ = false := frozen_of hb 0
  have HL := hid (hl.ext hx)
  have HE := hid hE
  have HX := hid hx
  have HNO := hid hno
  have HCK := hid hck
  clear h hl hx hb hE hno hck
  cases hn : isNum leaves.length with
  | false =>
    have HN := hid hn
    have HQ := hid (isNumber_len leaves.length (w.alloc (.cells #[.slice none 0 0] 27)))
    rw [hn] at HQ
    clear hn
    go_enter Try.func25, Try.ntmps25
    go_wp2_with fail
    refine HQ.out.mono ?_
    rintro e w1 ⟨rfl, rfl⟩
    go_wp2_with fail
    exact bodyPost_ret (v := .tuple #[.agg #[.slice none 0 0], .int .i64 1]) (by simp [results, Try.results25, go_sem, d0]) rfl HFIN.out
  | true =>
    have HN := hid hn
    have HQ := hid (isNumber_len leaves.length (w.alloc (.cells #[.slice none 0 0] 27)))
    rw [hn] at HQ
    clear hn
    by_cases hlen : salts.length = leaves.length
    · have hq : ((salts.length : Int) != (leaves.length : Int)) = false := by simp [hlen]
      have HLEN := hid hlen
      clear hlen
      cases hsa : allE salts with
      | false =>
        rw [hsa] at HEL
        clear hsa
        go_enter Try.func25, Try.ntmps25
        go_wp2_with fail
        refine HQ.out.mono ?_
        rintro e w1 ⟨rfl, rfl⟩
        go_wp2_with fail
        refine HEL.out.mono ?_
        rintro e w1 ⟨rfl, rfl⟩
        go_wp2_with fail
        exact bodyPost_ret (v := .tuple #[.agg #[.slice none 0 0], .int .i64 1]) (by simp [results, Try.results25, go_sem, d0]) rfl HFIN.out
      | true =>
        have HSA := hid hsa
        rw [hsa] at HEL
        clear hsa
        go_enter Try.func25, Try.ntmps25
        go_wp2_with fail
        refine HQ.out.mono ?_
        rintro e w1 ⟨rfl, rfl⟩
        go_wp2_with fail
        refine HEL.out.mono ?_
        rintro e w1 ⟨rfl, rfl⟩
        go_wp2_with fail
        go_loop [35] (fun iv => ∃ i : Nat, i ≤ leaves.length ∧ iv = .int .i64 i ∧ Hid ((leaves.take i).all allE = true)) (fun iv => leaves.length - (intOf iv).toNat)
        case atStart => exact ⟨0, by omega, rfl, hid rfl⟩
        case round =>
          obtain ⟨i, hi, rfl, hI⟩ := hrel
          by_cases hlt : i < leaves.length
          · obtain ⟨l, hkk⟩ : ∃ l, leaves[i]? = some l := ⟨_, List.getElem?_eq_getElem hlt⟩
            obtain ⟨b', o', y, d, rfl, hc, hr, -⟩ := HL.out.at hkk
            have hle := HE.out l (List.mem_of_getElem? hkk)
            have HKK := hid hkk
            have HR := hid (melements_any _ l _ hr (by omega))
            have hi0 : (0 : Int) ≤ (i : Int) := by omega
            clear hkk hr
            cases hla : allE l with
            | true =>
              rw [hla] at HR
              have hnext : (leaves.take (i + 1)).all allE = true := by
                rw [List.take_add_one, HKK.out, List.all_append, hI.out]; simp [hla]
              have HNX := hid hnext
              clear hnext hla
              go_wp2_with fail
              refine HR.out.mono ?_
              rintro e w1 ⟨rfl, rfl⟩
              go_wp2_with fail
              go_round
              case rel => exact ⟨i + 1, by omega, by go_num, HNX⟩
              case measure => simp [intOf]; omega
            | false =>
              rw [hla] at HR
              clear hla
              go_wp2_with fail
              refine HR.out.mono ?_
              rintro e w1 ⟨rfl, rfl⟩
              go_wp2_with fail
              exact bodyPost_ret (v := .tuple #[.agg #[.slice none 0 0], .int .i64 1]) (by simp [results, Try.results25, go_sem, d0]) rfl HFIN.out
          · exfalso
            have h1 := hI.out
            rw [List.take_of_length_le (by omega)] at h1
            have h2 := HNO.out
            rw [HCK.out, HN.out, HSA.out, h1, HLEN.out] at h2
            simp at h2
    · have hq : ((salts.length : Int) != (leaves.length : Int)) = true := by simp; omega
      clear hlen
      go_enter Try.func25, Try.ntmps25
      go_wp2_with fail
      refine HQ.out.mono ?_
      rintro e w1 ⟨rfl, rfl⟩
      go_wp2_with fail
      exact bodyPost_ret (v := .tuple #[.agg #[.slice none 0 0], .int .i64 1]) (by simp [results, Try.results25, go_sem, d0]) rfl HFIN.out
end Go.Proofs.Ytdpgfjnpcjpdpaa
namespace Go.Proofs.Ytdpgfjnpcjpdpaa
open Go.RowKit
attribute [local irreducible] perm fAdd fMul fPow fSub fNeg fRed hashU drawOf nextState

theorem OrcTo.kpOther {G : Nat → Prop} {w w' w'' : World} {b : Nat} {M : Orc} {F F' : Nat → Prop} (h : OrcTo w b F M w' F') (k : Kp G w' w'') (hG : ∀ i, G i → ¬ F' i ∧ w.heap.size ≤ i) : OrcTo w b F M w'' F' :=
  ⟨h.at'.kp k fun i hi hg => (hG i hg).1 hi, ⟨k.os.trans h.kp.os, k.tape.trans h.kp.tape, k.output.trans h.kp.output, Nat.le_trans h.kp.size k.size, fun i hi hF => (k.block i (Nat.lt_of_lt_of_le hi h.kp.size) fun hg => by have := (hG i hg).2; omega).trans (h.kp.block i hi hF)⟩, h.new, h.old⟩
theorem apart_new {w : World} {b : Nat} {M : Orc} {F : Nat → Prop} (h : OrcAt w b M F) {v : Value} (hv : ∀ k, blk v = some k → w.heap.size ≤ k) : ∀ k, blk v = some k → ¬ F k := by
  intro k hk hf
  have h1 := h.foot_lt k hf
  have h2 := hv k hk
  omega
theorem made_part {w : World} {g n c : Nat} {xs : List Value} (h : w.ownsRow 0 28 1 (.slice (some ⟨g, 0, none⟩) n c) n xs) (hc : c = n) (l : List UInt64) : UPart w g n 0 l := by
  subst hc
  rcases h.2 with ⟨h, _⟩ | ⟨g', cap, cur, h, _, h2, _, _, h3, _⟩
  · cases h
  · injection h with h h4 h5
    injection h with h
    injection h with h
    subst h h5
    exact ⟨cur, h2, by rw [h3, Nat.mul_one], by simp⟩
theorem UPart.cellAt {w : World} {g n i j : Nat} {l : List UInt64} (h : UPart w g n i l) (hj : j < n) : (∃ u, w.cell? ⟨g, j, none⟩ = some u) ∧ ∀ o, w.frozen? ⟨g, o, none⟩ = false := by
  obtain ⟨cur, h1, h2, -⟩ := h
  exact ⟨⟨_, (cell_of h1 j).trans (Array.getElem?_eq_getElem (by omega))⟩, frozen_of h1⟩
theorem UPart.lt {w : World} {g n i : Nat} {l : List UInt64} (h : UPart w g n i l) : g < w.heap.size := by
  obtain ⟨cur, h1, -⟩ := h; exact heap_lt h1
theorem UPart.ext {w w' : World} {g n i : Nat} {l : List UInt64} (h : UPart w g n i l) (k : Ext w w') : UPart w' g n i l := by
  obtain ⟨cur, h1, h2, h3⟩ := h; exact ⟨cur, k.heap_some h1, h2, h3⟩
theorem BesideL.kpOther {G : Nat → Prop} {w0 w w' : World} {F : Nat → Prop} {v : Value} {L : List (List UInt64 × Value)} (h : BesideL w0 w F v L) (k : Kp G w w') (hG : ∀ i, G i → blk v ≠ some i ∧ ∀ x ∈ L, blk x.2 ≠ some i) : BesideL w0 w' F v L :=
  ⟨⟨ownsRow_kp h.own.1 k fun i hi hg => (hG i hg).1 hi, fun x hx => ownsRow_kp (h.own.2 x hx) k fun i hi hg => (hG i hg).2 x hx hi⟩, h.no, h.nos⟩
theorem BesideL.lts {w0 w : World} {F : Nat → Prop} {v : Value} {L : List (List UInt64 × Value)} (h : BesideL w0 w F v L) : (∀ i, blk v = some i → i < w.heap.size) ∧ ∀ x ∈ L, ∀ i, blk x.2 = some i → i < w.heap.size :=
  ⟨fun _ hi => ownsRow_lt h.own.1 hi, fun x hx _ hi => ownsRow_lt (h.own.2 x hx) hi⟩
theorem besideL_grow {w0 wr w2 w3 : World} {F : Nat → Prop} {v v' x : Value} {L : List (List UInt64 × Value)} {l : List UInt64} (h : BesideL w0 wr F v L) (hx : OwnU wr x l) (hxn : ∀ t, blk x = some t → ¬ F t ∧ w0.heap.size ≤ t)
    (he : Ext wr w2) (h3 : w3.ownsRow 0 24 1 v' (L.length + 1) (L.map (·.2) ++ [x])) (hk : Kp (fun k => some k = blk v) w2 w3) (hb : blk v' = blk v ∨ blk v' = some w2.heap.size)
    (hF : ∀ k, F k → k < w2.heap.size) (h0 : w0.heap.size ≤ w2.heap.size) : BesideL w0 w3 F v' (L ++ [(l, x)]) where
  own := ownL_grow h.own hx he h3 hk
  no k hk' := by
    rcases hb with hb | hb
    · rw [hb] at hk'; exact h.no k hk'
    · rw [hb] at hk'; cases hk'; exact ⟨fun hf => Nat.lt_irrefl _ (hF _ hf), h0⟩
  nos y hy k hk' := by
    rcases List.mem_append.1 hy with hy | hy
    · exact h.nos y hy k hk'
    · rw [List.mem_singleton] at hy; subst hy; exact hxn k hk'
/-- The list of lists that holds one list. -/
theorem besideL_one {w0 w : World} {F : Nat → Prop} {x : Value} {l : List UInt64} (hx : OwnU w x l) (hxn : ∀ t, blk x = some t → ¬ F t ∧ w0.heap.size ≤ t) (hF : ∀ k, F k → k < w.heap.size) (h0 : w0.heap.size ≤ w.heap.size) :
    BesideL w0 (w.alloc (.cells #[x] 24)) F (.slice (some ⟨w.heap.size, 0, none⟩) 1 1) [(l, x)] where
  own := ⟨⟨rfl, .inr ⟨w.heap.size, 1, #[x], rfl, Nat.zero_le _, heap_new _ _, Nat.le_refl _, by unfold maxLen; omega, rfl, rfl⟩⟩, fun y hy => by
    rw [List.mem_singleton] at hy; subst hy; exact ownsRow_ext hx ((Ext.refl w).alloc _)⟩
  no k hk := by cases hk; exact ⟨fun hf => Nat.lt_irrefl _ (hF _ hf), h0⟩
  nos y hy k hk := by rw [List.mem_singleton] at hy; subst hy; exact hxn k hk
def lenOf : Value → Nat
  | .slice _ n _ => n
  | _ => 0

structure CInv (w wr : World) (b : Nat) (M : Orc) (F : Nat → Prop) (N : Nat) (all : Lv × Orc) (lv lsv : Value) (F' : Nat → Prop) (M' : Orc) (lev : List UInt64) (L : List (List UInt64 × Value)) (k : Nat) : Prop where
  orc : OrcTo w b F M' wr F'
  bes : BesideL w wr F' lsv (L ++ [(lev, lv)])
  spec : all = (L.map (·.1) ++ (M'.climb k lev).1, (M'.climb k lev).2)
  pow : lev.length ≤ 2 ^ k
  len : L.length + k ≤ 10
  qs : M'.qs.length + lev.length ≤ M.qs.length + 2 * N
  draws : M'.draws + lev.length ≤ M.draws + 2 * N
  tree : wr.heap[w.heap.size]? = some (.cells #[.slice none 0 0] 27 (0, 0))
  treeF : ¬ F' w.heap.size
/-- The inner loop: i of the questions have been asked. -/
structure DInv (w wr : World) (b : Nat) (F : Nat → Prop) (M' : Orc) (Q : List (UInt64 × List UInt64)) (A : List UInt64) (g n i : Nat) (lsv : Value) (L : List (List UInt64 × Value)) (F' : Nat → Prop) : Prop where
  orc : OrcTo w b F (M'.asks (Q.take i)).2 wr F'
  bes : BesideL w wr F' lsv L
  part : UPart wr g n i A
  gF : ¬ F' g
  g0 : w.heap.size < g
  gL : blk lsv ≠ some g ∧ ∀ x ∈ L, blk x.2 ≠ some g
  tree : wr.heap[w.heap.size]? = some (.cells #[.slice none 0 0] 27 (0, 0))
  treeF : ¬ F' w.heap.size
theorem DInv.ext {w wr w' : World} {b : Nat} {F : Nat → Prop} {M' : Orc} {Q : List (UInt64 × List UInt64)} {A : List UInt64} {g n i : Nat} {lsv : Value} {L : List (List UInt64 × Value)} {F' : Nat → Prop}
    (h : DInv w wr b F M' Q A g n i lsv L F') (k : Ext wr w') : DInv w w' b F M' Q A g n i lsv L F' :=
  ⟨h.orc.ext k, h.bes.ext k, h.part.ext k, h.gF, h.g0, h.gL, k.heap_some h.tree, h.treeF⟩
/-- One question more, its answer stored. -/
theorem DInv.next {w wr w2 w3 : World} {b : Nat} {F : Nat → Prop} {M' : Orc} {Q : List (UInt64 × List UInt64)} {A : List UInt64} {g n i : Nat} {lsv : Value} {L : List (List UInt64 × Value)} {F' F'' : Nat → Prop}
    (h : DInv w wr b F M' Q A g n i lsv L F') (k : Ext wr w2) {q : UInt64 × List UInt64} (hq : Q[i]? = some q) (hi : i < n) (hA : A = (M'.asks Q).1)
    (t : OrcTo w2 b F' ((M'.asks (Q.take i)).2.hash q.1 q.2).2 w3 F'') :
    DInv w (w3.setCell ⟨g, i, none⟩ (uv ((M'.asks (Q.take i)).2.hash q.1 q.2).1)) b F M' Q A g n (i + 1) lsv L F'' := by
  have h2 := h.ext k
  have hg3 : ¬ F'' g := t.apart h2.part.lt h2.gF
  have hto : OrcTo w b F (M'.asks (Q.take (i + 1))).2 w3 F'' := by
    rw [asks_take_succ hq]; exact h2.orc.trans t
  have hp3 : UPart w3 g n i A := h2.part.kp t.kp h2.gF
  have hs : Kp (fun j => j = g) w3 (w3.setCell ⟨g, i, none⟩ (uv ((M'.asks (Q.take i)).2.hash q.1 q.2).1)) := (Kp.refl (fun j => j = g) w3).setCell (p := ⟨g, i, none⟩) (.inl rfl) _
  have hg0 := h.g0
  exact {
    orc := hto.kpOther hs (by rintro j rfl; exact ⟨hg3, by omega⟩)
    bes := (h2.bes.to t).kpOther hs (by rintro j rfl; exact h.gL)
    part := hp3.more (by rw [hA]; exact asks_at hq M') hi
    gF := hg3
    g0 := hg0
    gL := h.gL
    tree := by rw [heap_setCell_ne (by omega)]; exact t.kp.heap_some h2.treeF h2.tree
    treeF := t.apart (heap_lt h2.tree) h2.treeF }
end Go.Proofs.Ytdpgfjnpcjpdpaa
