/- The reference's oracle of a world (package 12): Peek, Hash. The reference's oracle of a world: Oracle. The reference's Right and Verify of openings (package 12). -/
import Derived.Test.YtdpgfjnpcjpdpaaRefM
import Derived.Test.YtdpgfjnpcjpdpaaRefHash
import Derived.Test.YtdpgfjnpcjpdpaaWorld
import Derived.Test.YtdpgfjnpcjpdpaaVerify
set_option linter.unusedSimpArgs false
namespace Go.Proofs.Ytdpgfjnpcjpdpaa
open Go.RowKit
/-- What the reference's Peek says. -/
def Orc.rpeek (M : Orc) (label : UInt64) (l : List UInt64) : UInt64 × Bool := if M.ideal then peekI M.qs label l else if allE l then (hashU label l, true) else (0, false)
/-- Where the oracle is real, what is known is the hash. -/
def Orc.sound (M : Orc) : Prop := M.ideal = false → ∀ q ∈ M.qs, q.answer = hashU q.label q.elems
theorem rpeek_ideal {M : Orc} (h : M.ideal = true) (label : UInt64) (l : List UInt64) : M.rpeek label l = peekI M.qs label l := by unfold Orc.rpeek; rw [if_pos h]
theorem rpeek_real {M : Orc} (h : M.ideal = false) (label : UInt64) (l : List UInt64) : (allE l = true → M.rpeek label l = (hashU label l, true)) ∧ (allE l = false → M.rpeek label l = (0, false)) := by
  unfold Orc.rpeek
  rw [h]
  constructor <;> intro h' <;> rw [h'] <;> rfl
theorem hash_real_parts {M : Orc} (h : M.ideal = false) (hs : M.sound) (label : UInt64) (l : List UInt64) :
    (allE l = false → M.hash label l = (0, M)) ∧ (allE l = true → ((0 : Int) ≤ findI M.qs label l → M.hash label l = (hashU label l, M)) ∧ (findI M.qs label l < 0 → M.hash label l = (hashU label l, M.add label l (hashU label l)))) := by
  refine ⟨fun h => by unfold Orc.hash; rw [h]; rfl, fun hE => ?_⟩
  unfold findI Orc.hash
  rw [if_pos hE]
  cases hf : findQ M.qs label l with
  | none => exact ⟨fun h => absurd (show (0 : Int) ≤ -1 from h) (by decide), fun _ => by simp only [h]; rfl⟩
  | some i =>
    refine ⟨fun _ => ?_, fun h => absurd (show (i : Int) < 0 from h) (by omega)⟩
    have hi := hf
    unfold findQ at hi
    obtain ⟨hi, he, -⟩ := List.findIdx?_eq_some_iff_getElem.1 hi
    simp only [Bool.and_eq_true, beq_iff_eq] at he
    have h1 := hs h _ (List.getElem_mem hi)
    rw [he.1, he.2] at h1
    have : answerAt M.qs i = hashU label l := by unfold answerAt; rw [List.getElem?_eq_getElem hi]; exact h1
    simp only [this]
attribute [local irreducible] perm fAdd fMul fPow fSub fNeg fRed hashU drawOf nextState
abbrev oVal (b : Bool) (st : UInt64) (n : Nat) (qv sv pv : Value) : Value := .agg #[.bool b, uv st, .int .i64 (n : Int), qv, sv, pv]
set_option maxRecDepth 100000 in
set_option maxHeartbeats 3200000 in
theorem oPeek_any {w : World} {qv sv pv lv : Value} {M : Orc} {label : UInt64} {l : List UInt64} (hc : RdMc w qv sv pv M) (hl : RdU w lv l) (hL : l.length ≤ 100000000) (hf : M.qs.length ≤ 100000000) (hE : ∀ q ∈ M.qs, q.elems.length ≤ 100000000) :
    Calls Try.prog 106 #[oVal M.ideal M.state M.draws qv sv pv, uv label, lv] w fun e w' => e = .returned (.tuple #[uv (M.rpeek label l).1, .bool (M.rpeek label l).2]) ∧ Ext w w' := by
  obtain ⟨⟨qa, qn, qc, rfl⟩, ⟨sa, sn, sc, rfl⟩, ⟨pa, pn, pc, rfl⟩⟩ := hc.sl
  obtain ⟨la, lc, rfl, -⟩ := id hl
  obtain ⟨w0, hw0⟩ : ∃ w0, w0 = w.alloc (.cells #[.bool M.ideal, uv M.state, .int .i64 (M.draws : Int), .slice qa qn qc, .slice sa sn sc, .slice pa pn pc] 105) := ⟨_, rfl⟩
  have hx0 : Ext w w0 := by rw [hw0]; exact (Ext.refl _).alloc _
  have hb0 : w0.heap[w.heap.size]? = some (.cells #[.bool M.ideal, uv M.state, .int .i64 (M.draws : Int), .slice qa qn qc, .slice sa sn sc, .slice pa pn pc] 105 (0, 0)) := by rw [hw0]; exact heap_new _ _
  have HW := hid hw0
  have HX0 := hid hx0
  have HC := hid hc
  have HL := hid hl
  have HE := hid hE
  have c0 : w0.cell? ⟨w.heap.size, 0, none⟩ = some (.bool M.ideal) := cell_of hb0 0
  have c1 : w0.cell? ⟨w.heap.size, 1, none⟩ = some (uv M.state) := cell_of hb0 1
  have c2 : w0.cell? ⟨w.heap.size, 2, none⟩ = some (.int .i64 (M.draws : Int)) := cell_of hb0 2
  have c3 : w0.cell? ⟨w.heap.size, 3, none⟩ = some (.slice qa qn qc) := cell_of hb0 3
  have c4 : w0.cell? ⟨w.heap.size, 4, none⟩ = some (.slice sa sn sc) := cell_of hb0 4
  have c5 : w0.cell? ⟨w.heap.size, 5, none⟩ = some (.slice pa pn pc) := cell_of hb0 5
  clear hw0 hx0 hc hl hE hb0
  go_enter Try.func106, Try.ntmps106
  go_upto_region 1 with fail
  rw [← HW.out]
  cases hI : M.ideal with
  | true =>
    rw [hI] at c0
    have HP := hid (rPeek_any (label := label) (c0 := uv M.state) (c1 := .int .i64 (M.draws : Int)) (c3 := .slice sa sn sc) (c4 := .slice pa pn pc) (HC.out.qs.ext HX0.out) ((HL.out.ext HX0.out).weak) HE.out (by omega) hf)
    have HR := hid (rpeek_ideal hI label l)
    clear hI
    go_wp2_with fail
    refine HP.out.mono ?_
    rintro e w1 ⟨rfl, hx1⟩
    have HX1 := hid (HX0.out.trans hx1)
    clear hx1
    generalize peekI M.qs label l = p at *
    go_wp2_with fail
    refine bodyPost_ret (v := .tuple #[uv p.1, .bool p.2]) (by simp [results, Try.results106, go_sem]) rfl ?_
    rw [HR.out]
    exact ⟨rfl, HX1.out⟩
  | false =>
    rw [hI] at c0
    have HR := hid (rpeek_real hI label l)
    clear hI
    go_wp2_with fail
    refine (ElementsV_any _ l _ (HL.out.ext HX0.out).weak (by omega)).mono ?_
    rintro e w' ⟨rfl, rfl⟩
    cases hA : allE l with
    | false =>
      have HR2 := hid (HR.out.2 hA)
      clear hA
      go_wp2_with fail
      refine bodyPost_ret (v := .tuple #[uv 0, .bool false]) (by simp [results, Try.results106, go_sem]) rfl ?_
      rw [HR2.out]
      exact ⟨rfl, HX0.out⟩
    | true =>
      have HR2 := hid (HR.out.1 hA)
      clear hA
      go_wp2_with fail
      refine (rHash_any _ isBig label _ l _ (HL.out.ext HX0.out) (by omega)).mono ?_
      rintro e w1 ⟨rfl, hx1⟩
      have HX1 := hid (HX0.out.trans hx1)
      clear hx1
      go_wp2_with fail
      refine bodyPost_ret (v := .tuple #[uv (hashU label l), .bool true]) (by simp [results, Try.results106, go_sem]) rfl ?_
      rw [HR2.out]
      exact ⟨rfl, HX1.out⟩

theorem six_cellsO {w : World} {b : Nat} {c0 c1 c2 c3 c4 c5 : Value} {T : TypeId} (h : w.heap[b]? = some (.cells #[c0, c1, c2, c3, c4, c5] T (0, 0))) :
    w.cell? ⟨b, 0, none⟩ = some c0 ∧ w.cell? ⟨b, 1, none⟩ = some c1 ∧ w.cell? ⟨b, 2, none⟩ = some c2 ∧ w.cell? ⟨b, 3, none⟩ = some c3 ∧ w.cell? ⟨b, 4, none⟩ = some c4 ∧ w.cell? ⟨b, 5, none⟩ = some c5 :=
  ⟨cell_of h 0, cell_of h 1, cell_of h 2, cell_of h 3, cell_of h 4, cell_of h 5⟩
abbrev setSix (w : World) (b : Nat) (d0 d1 d2 d3 d4 d5 : Value) : World := (((((w.setCell ⟨b, 0, none⟩ d0).setCell ⟨b, 1, none⟩ d1).setCell ⟨b, 2, none⟩ d2).setCell ⟨b, 3, none⟩ d3).setCell ⟨b, 4, none⟩ d4).setCell ⟨b, 5, none⟩ d5
theorem five_set' {w : World} {b : Nat} {c0 c1 c2 c3 c4 c5 d0 d1 d2 d3 d4 : Value} {T : TypeId} (h : w.heap[b]? = some (.cells #[c0, c1, c2, c3, c4, c5] T (0, 0))) :
    (((((w.setCell ⟨b, 0, none⟩ d0).setCell ⟨b, 1, none⟩ d1).setCell ⟨b, 2, none⟩ d2).setCell ⟨b, 3, none⟩ d3).setCell ⟨b, 4, none⟩ d4).heap[b]? = some (.cells #[d0, d1, d2, d3, d4, c5] T (0, 0)) ∧
      Kp (fun k => k = b) w (((((w.setCell ⟨b, 0, none⟩ d0).setCell ⟨b, 1, none⟩ d1).setCell ⟨b, 2, none⟩ d2).setCell ⟨b, 3, none⟩ d3).setCell ⟨b, 4, none⟩ d4) :=
  ⟨heap_setCell_same (heap_setCell_same (heap_setCell_same (heap_setCell_same (heap_setCell_same h 0 d0) 1 d1) 2 d2) 3 d3) 4 d4,
   (((((Kp.refl (fun k => k = b) w).setCell (p := ⟨b, 0, none⟩) (.inl rfl) _).setCell (p := ⟨b, 1, none⟩) (.inl rfl) _).setCell (p := ⟨b, 2, none⟩) (.inl rfl) _).setCell (p := ⟨b, 3, none⟩) (.inl rfl) _).setCell (p := ⟨b, 4, none⟩) (.inl rfl) _⟩
theorem six_setO {w : World} {b : Nat} {c0 c1 c2 c3 c4 c5 d0 d1 d2 d3 d4 d5 : Value} {T : TypeId} (h : w.heap[b]? = some (.cells #[c0, c1, c2, c3, c4, c5] T (0, 0))) :
    (setSix w b d0 d1 d2 d3 d4 d5).heap[b]? = some (.cells #[d0, d1, d2, d3, d4, d5] T (0, 0)) ∧ Kp (fun k => k = b) w (setSix w b d0 d1 d2 d3 d4 d5) := by
  obtain ⟨h1, h2⟩ := five_set' (d0 := d0) (d1 := d1) (d2 := d2) (d3 := d3) (d4 := d4) h
  exact ⟨heap_setCell_same h1 5 d5, h2.setCell (p := ⟨b, 5, none⟩) (.inl rfl) _⟩
/-- The two blocks of a call: the oracle given, the oracle to be returned. -/
structure BoxO (w w0 : World) (c0 c1 c2 c3 c4 c5 : Value) : Prop where
  ex : Ext w w0
  b0 : w0.heap[w.heap.size]? = some (.cells #[c0, c1, c2, c3, c4, c5] 105 (0, 0))
  b1 : w0.heap[w.heap.size + 1]? = some (.cells #[.bool false, .int .u64 0, .int .i64 0, .slice none 0 0, .slice none 0 0, .slice none 0 0] 105 (0, 0))
  sz : w0.heap.size = w.heap.size + 2
theorem BoxO.cells {w w0 : World} {c0 c1 c2 c3 c4 c5 : Value} (h : BoxO w w0 c0 c1 c2 c3 c4 c5) {v : World} (k : Ext w0 v) :
    v.cell? ⟨w.heap.size, 0, none⟩ = some c0 ∧ v.cell? ⟨w.heap.size, 1, none⟩ = some c1 ∧ v.cell? ⟨w.heap.size, 2, none⟩ = some c2 ∧ v.cell? ⟨w.heap.size, 3, none⟩ = some c3 ∧ v.cell? ⟨w.heap.size, 4, none⟩ = some c4 ∧ v.cell? ⟨w.heap.size, 5, none⟩ = some c5 := six_cellsO (k.heap_some h.b0)
theorem BoxO.put {w w0 : World} {c0 c1 c2 c3 c4 c5 : Value} (h : BoxO w w0 c0 c1 c2 c3 c4 c5) {v : World} (k : Ext w0 v) (d0 d1 d2 d3 d4 d5 : Value) :
    Kp (fun k => k = w.heap.size + 1) v (setSix v (w.heap.size + 1) d0 d1 d2 d3 d4 d5) ∧ (setSix v (w.heap.size + 1) d0 d1 d2 d3 d4 d5).cell? ⟨w.heap.size + 1, 0, none⟩ = some d0 ∧ (setSix v (w.heap.size + 1) d0 d1 d2 d3 d4 d5).cell? ⟨w.heap.size + 1, 1, none⟩ = some d1 ∧ (setSix v (w.heap.size + 1) d0 d1 d2 d3 d4 d5).cell? ⟨w.heap.size + 1, 2, none⟩ = some d2 ∧ (setSix v (w.heap.size + 1) d0 d1 d2 d3 d4 d5).cell? ⟨w.heap.size + 1, 3, none⟩ = some d3 ∧ (setSix v (w.heap.size + 1) d0 d1 d2 d3 d4 d5).cell? ⟨w.heap.size + 1, 4, none⟩ = some d4 ∧ (setSix v (w.heap.size + 1) d0 d1 d2 d3 d4 d5).cell? ⟨w.heap.size + 1, 5, none⟩ = some d5 := by
  obtain ⟨h1, h2⟩ := six_setO (d0 := d0) (d1 := d1) (d2 := d2) (d3 := d3) (d4 := d4) (d5 := d5) (k.heap_some h.b1)
  exact ⟨h2, six_cellsO h1⟩
theorem BoxO.zero {w w0 : World} {c0 c1 c2 c3 c4 c5 : Value} (h : BoxO w w0 c0 c1 c2 c3 c4 c5) {v : World} (k : Ext w0 v) :
    (v.cell? ⟨w.heap.size + 1, 0, none⟩ = some (.bool false) ∧ v.cell? ⟨w.heap.size + 1, 1, none⟩ = some (.int .u64 0) ∧ v.cell? ⟨w.heap.size + 1, 2, none⟩ = some (.int .i64 0) ∧ v.cell? ⟨w.heap.size + 1, 3, none⟩ = some (.slice none 0 0) ∧ v.cell? ⟨w.heap.size + 1, 4, none⟩ = some (.slice none 0 0) ∧ v.cell? ⟨w.heap.size + 1, 5, none⟩ = some (.slice none 0 0)) ∧ ∀ o, v.frozen? ⟨w.heap.size + 1, o, none⟩ = false :=
  ⟨six_cellsO (k.heap_some h.b1), frozen_of (k.heap_some h.b1)⟩
def HashOO (G : Nat → Prop) (w : World) (r : UInt64 × Orc) (e : Ending) (w' : World) : Prop := ∃ qv sv pv, e = .returned (.tuple #[uv r.1, oVal r.2.ideal r.2.state r.2.draws qv sv pv]) ∧ StMc G w' qv sv pv r.2 ∧ Ext w w'
set_option maxRecDepth 100000 in
set_option maxHeartbeats 3200000 in
theorem oHash_any {G : Nat → Prop} {w : World} {qv sv pv lv : Value} {M : Orc} {label : UInt64} {l : List UInt64} (hc : StMc G w qv sv pv M) (hG : ∀ k, G k → k < w.heap.size) (hs : M.sound) (hl : RdU w lv l) (hL : l.length ≤ 100000000) (hf : M.qs.length ≤ 100000000) (hE : ∀ q ∈ M.qs, q.elems.length ≤ 100000000) (hd : M.draws ≤ 1000000000) :
    Calls Try.prog 101 #[oVal M.ideal M.state M.draws qv sv pv, uv label, lv] w (HashOO G w (M.hash label l)) := by
  obtain ⟨⟨qa, qn, qc, rfl⟩, ⟨sa, sn, sc, rfl⟩, ⟨pa, pn, pc, rfl⟩⟩ := hc.now.sl
  obtain ⟨la, lc, rfl, -⟩ := id hl
  obtain ⟨w0, hw0⟩ : ∃ w0, w0 = (w.alloc (.cells #[.bool M.ideal, uv M.state, .int .i64 (M.draws : Int), .slice qa qn qc, .slice sa sn sc, .slice pa pn pc] 105)).alloc (.cells #[.bool false, .int .u64 0, .int .i64 0, .slice none 0 0, .slice none 0 0, .slice none 0 0] 105) := ⟨_, rfl⟩
  have hB : BoxO w w0 (.bool M.ideal) (uv M.state) (.int .i64 (M.draws : Int)) (.slice qa qn qc) (.slice sa sn sc) (.slice pa pn pc) := by
    obtain ⟨hx0, hb0, hb1, hz0⟩ := two_new w (.cells #[.bool M.ideal, uv M.state, .int .i64 (M.draws : Int), .slice qa qn qc, .slice sa sn sc, .slice pa pn pc] 105) (.cells #[.bool false, .int .u64 0, .int .i64 0, .slice none 0 0, .slice none 0 0, .slice none 0 0] 105)
    rw [hw0]
    exact ⟨hx0, hb0, hb1, hz0⟩
  have HB := hid hB
  have HW := hid hw0
  have HG := hid hG
  have HC := hid hc
  have HL := hid hl
  have HE := hid (And.intro hE hd)
  have HSO := hid hs
  clear hG hB hw0 hc hl hE hd hs
  go_enter Try.func101, Try.ntmps101
  go_upto_region 1 with fail
  rw [← HW.out]
  cases hI : M.ideal with
  | true =>
    obtain ⟨c0, c1, c2, c3, c4, c5⟩ := HB.out.cells (Ext.refl w0)
    rw [hI] at c0
    have HH := hid (rHashM_any (G := fun k => G k ∨ k = w.heap.size + 1) (label := label) (HC.out.grow (.of_ext HB.out.ex) (fun i h => h.imp id fun h => by omega)) (fun k h => by
      have h1 := HB.out.sz
      rcases h with h | h
      · have := HG.out k h; omega
      · omega) hI ((HL.out.ext HB.out.ex).weak) hL hf HE.out.1 HE.out.2)
    have HID := hid ((hash_ideal M label l).trans hI)
    clear hI
    generalize M.hash label l = r at *
    obtain ⟨r1, r2⟩ := r
    simp only at HH HID
    go_wp2_with fail
    refine HH.out.mono ?_
    rintro e w1 ⟨qv1, sv1, pv1, rfl, hc1, hx1⟩
    obtain ⟨⟨qa1, qn1, qc1, rfl⟩, ⟨sa1, sn1, sc1, rfl⟩, ⟨pa1, pn1, pc1, rfl⟩⟩ := hc1.now.sl
    have HC1 := hid hc1
    have HX1 := hid hx1
    clear hc1 hx1 HH c0 c1 c2 c3 c4 c5
    go_wp2_with fail
    obtain ⟨w2, hw2⟩ : ∃ w2, w2 = w1.alloc (.cells #[.int .u64 (r2.state.toNat : Int), .int .i64 (r2.draws : Int), .slice qa1 qn1 qc1, .slice sa1 sn1 sc1, .slice pa1 pn1 pc1] 93) := ⟨_, rfl⟩
    have hb2 : w2.heap[w1.heap.size]? = some (.cells #[.int .u64 (r2.state.toNat : Int), .int .i64 (r2.draws : Int), .slice qa1 qn1 qc1, .slice sa1 sn1 sc1, .slice pa1 pn1 pc1] 93 (0, 0)) := by rw [hw2]; exact heap_new _ _
    have hx2 : Ext w1 w2 := by rw [hw2]; exact (Ext.refl _).alloc _
    rw [← hw2]
    have H5 : Hid (∀ v, Ext w2 v → v.cell? ⟨w1.heap.size, 0, none⟩ = some (.int .u64 (r2.state.toNat : Int)) ∧ v.cell? ⟨w1.heap.size, 1, none⟩ = some (.int .i64 (r2.draws : Int)) ∧ v.cell? ⟨w1.heap.size, 2, none⟩ = some (.slice qa1 qn1 qc1) ∧ v.cell? ⟨w1.heap.size, 3, none⟩ = some (.slice sa1 sn1 sc1) ∧ v.cell? ⟨w1.heap.size, 4, none⟩ = some (.slice pa1 pn1 pc1)) := hid fun v k => five_cells (k.heap_some hb2)
    have HX2 := hid hx2
    clear hw2 hb2 hx2
    refine wp_region_T (fun v => (v.cell? ⟨w1.heap.size, 0, none⟩ = some (.int .u64 (r2.state.toNat : Int)) ∧ v.cell? ⟨w1.heap.size, 1, none⟩ = some (.int .i64 (r2.draws : Int)) ∧ v.cell? ⟨w1.heap.size, 2, none⟩ = some (.slice qa1 qn1 qc1) ∧ v.cell? ⟨w1.heap.size, 3, none⟩ = some (.slice sa1 sn1 sc1) ∧ v.cell? ⟨w1.heap.size, 4, none⟩ = some (.slice pa1 pn1 pc1)) ∧ Ext w2 v) 4 [(0, true), (1, true), (2, true), (3, true), (4, false)] (by kernel_rfl) (by kernel_rfl) (by intro c a d v w h; cases d <;> exact h) ?_
    intro ops hops
    have HS := keep0 H5.out
    iterate 4
      refine wpT_take (v := ?_) (by rw [hops, List.getElem?_toArray]; rfl) (by first | rfl | (rw [hops]; rfl)) ?_ HS ?_
      rotate_left
      · intro v h; go_simp; with_reducible rfl
      simp only [Act.put, List.getElem_toArray, List.getElem_cons_zero, List.getElem_cons_succ, List.setIfInBounds_toArray, List.set_cons_zero, List.set_cons_succ]
    obtain ⟨⟨k0, k1, k2, k3, k4, k5⟩, kf⟩ := HB.out.zero (HX1.out.trans HX2.out)
    have HP := hid (HB.out.put (HX1.out.trans HX2.out) (.bool true) (.int .u64 (r2.state.toNat : Int)) (.int .i64 (r2.draws : Int)) (.slice qa1 qn1 qc1) (.slice sa1 sn1 sc1) (.slice pa1 pn1 pc1))
    clear HS
    refine wpT_step (by rw [hops, List.getElem?_toArray]; rfl) (by first | rfl | (rw [hops]; rfl)) ?_
    intro K hK
    go_wp2_with fail
    try (with_reducible refine ⟨fun h => absurd h (by decide), ?_⟩)
    try rw [wpT_nil]
    try clear hops ops
    go_wp2_with fail
    obtain ⟨hk, r0, r1', r2', r3, r4, r5⟩ := HP.out
    have hk' := hk.drew
    have hx := ((HB.out.ex.trans HX1.out).trans HX2.out).kp hk' (fun k h => by subst h; omega)
    refine bodyPost_ret (v := .tuple #[uv r1, oVal true r2.state r2.draws (.slice qa1 qn1 qc1) (.slice sa1 sn1 sc1) (.slice pa1 pn1 pc1)]) (by simp [results, Try.results101, go_sem, r0, r1', r2', r3, r4, r5]) rfl ?_
    have hst := (HC1.out.ext HX2.out).grow (hk'.mono fun k _ h => .inr h) (G' := G) fun i h => .inl (.inl h)
    exact ⟨_, _, _, by rw [show ((r1, r2) : UInt64 × Orc).2.ideal = true from HID.out], hst, hx⟩
  | false =>
    obtain ⟨c0, c1, c2, c3, c4, c5⟩ := HB.out.cells (Ext.refl w0)
    have hpk := oPeek_any (label := label) (HC.out.now.ext HB.out.ex) (HL.out.ext HB.out.ex) hL hf HE.out.1
    rw [hI] at c0 hpk
    have HPK := hid hpk
    have HR := hid (rpeek_real hI label l)
    have HHH := hid (hash_real_parts hI HSO.out label l)
    have HII := hid hI
    clear hI hpk
    go_wp2_with fail
    refine HPK.out.mono ?_
    rintro e w1 ⟨rfl, hx1⟩
    have HX1 := hid hx1
    clear hx1 c0 c1 c2 c3 c4 c5 HPK
    cases hA : allE l with
    | false =>
      have HM := hid (HHH.out.1 hA)
      have hr := HR.out.2 hA
      rw [hr]
      clear hA hr
      go_wp2_with fail
      have H6 : Hid (∀ v, Ext w1 v → v.cell? ⟨w.heap.size, 0, none⟩ = some (.bool false) ∧ v.cell? ⟨w.heap.size, 1, none⟩ = some (uv M.state) ∧ v.cell? ⟨w.heap.size, 2, none⟩ = some (.int .i64 (M.draws : Int)) ∧ v.cell? ⟨w.heap.size, 3, none⟩ = some (.slice qa qn qc) ∧ v.cell? ⟨w.heap.size, 4, none⟩ = some (.slice sa sn sc) ∧ v.cell? ⟨w.heap.size, 5, none⟩ = some (.slice pa pn pc)) := hid (fun v k => by have := HB.out.cells (HX1.out.trans k); rw [HII.out] at this; exact this)
      refine wp_region_T (fun v => (v.cell? ⟨w.heap.size, 0, none⟩ = some (.bool false) ∧ v.cell? ⟨w.heap.size, 1, none⟩ = some (uv M.state) ∧ v.cell? ⟨w.heap.size, 2, none⟩ = some (.int .i64 (M.draws : Int)) ∧ v.cell? ⟨w.heap.size, 3, none⟩ = some (.slice qa qn qc) ∧ v.cell? ⟨w.heap.size, 4, none⟩ = some (.slice sa sn sc) ∧ v.cell? ⟨w.heap.size, 5, none⟩ = some (.slice pa pn pc)) ∧ Ext w1 v) 3 [(0, true), (1, true), (2, true), (3, false)] (by kernel_rfl) (by kernel_rfl) (by intro c a d v w h; cases d <;> exact h) ?_
      intro ops hops
      have HS := keep0 H6.out
      iterate 3
        refine wpT_take (v := ?_) (by rw [hops, List.getElem?_toArray]; rfl) (by first | rfl | (rw [hops]; rfl)) ?_ HS ?_
        rotate_left
        · intro v h; go_simp; with_reducible rfl
        simp only [Act.put, List.getElem_toArray, List.getElem_cons_zero, List.getElem_cons_succ, List.setIfInBounds_toArray, List.set_cons_zero, List.set_cons_succ]
      obtain ⟨⟨k0, k1, k2, k3, k4, k5⟩, kf⟩ := HB.out.zero HX1.out
      have HP := hid (HB.out.put HX1.out (.bool false) (uv M.state) (.int .i64 (M.draws : Int)) (.slice qa qn qc) (.slice sa sn sc) (.slice pa pn pc))
      clear HS
      refine wpT_step (by rw [hops, List.getElem?_toArray]; rfl) (by first | rfl | (rw [hops]; rfl)) ?_
      intro K hK
      go_wp2_with fail
      try (with_reducible refine ⟨fun h => absurd h (by decide), ?_⟩)
      try rw [wpT_nil]
      try clear hops ops
      go_wp2_with fail
      obtain ⟨hk, r0, r1', r2', r3, r4, r5⟩ := HP.out
      have hk' := hk.drew
      refine bodyPost_ret (v := .tuple #[uv 0, oVal false M.state M.draws (.slice qa qn qc) (.slice sa sn sc) (.slice pa pn pc)]) (by simp [results, Try.results101, go_sem, r0, r1', r2', r3, r4, r5]) rfl ?_
      have hx := ((HB.out.ex.trans HX1.out).kp hk' (fun k h => by subst h; omega))
      rw [HM.out]
      exact ⟨_, _, _, by rw [show ((0, M) : UInt64 × Orc).2.ideal = false from HII.out], HC.out.ext hx, hx⟩
    | true =>
      have HM := hid (HHH.out.2 hA)
      have hr := HR.out.1 hA
      rw [hr]
      clear hA hr
      obtain ⟨c0, c1, c2, c3, c4, c5⟩ := HB.out.cells HX1.out
      have HFI := hid (rFind_any (label := label) (HC.out.qs.now.ext (HB.out.ex.trans HX1.out)).rdQ ((HL.out.ext (HB.out.ex.trans HX1.out)).weak) (fun q hq => by have := HE.out.1 q hq; omega) (by omega) (by omega))
      go_wp2_with fail
      refine HFI.out.mono ?_
      rintro e w2 ⟨rfl, hx2⟩
      have HX2 := hid (HX1.out.trans hx2)
      generalize findI M.qs label l = p at *
      clear hx2 c0 c1 c2 c3 c4 c5 HFI
      by_cases hp : 0 ≤ p
      · have HM2 := hid (HM.out.1 hp)
        have hpB : decide (p < 0) = false := decide_eq_false (by omega)
        clear hp
        go_wp2_with fail
        have H6 : Hid (∀ v, Ext w2 v → v.cell? ⟨w.heap.size, 0, none⟩ = some (.bool false) ∧ v.cell? ⟨w.heap.size, 1, none⟩ = some (uv M.state) ∧ v.cell? ⟨w.heap.size, 2, none⟩ = some (.int .i64 (M.draws : Int)) ∧ v.cell? ⟨w.heap.size, 3, none⟩ = some (.slice qa qn qc) ∧ v.cell? ⟨w.heap.size, 4, none⟩ = some (.slice sa sn sc) ∧ v.cell? ⟨w.heap.size, 5, none⟩ = some (.slice pa pn pc)) := hid (fun v k => by have := HB.out.cells (HX2.out.trans k); rw [HII.out] at this; exact this)
        refine wp_region_T (fun v => (v.cell? ⟨w.heap.size, 0, none⟩ = some (.bool false) ∧ v.cell? ⟨w.heap.size, 1, none⟩ = some (uv M.state) ∧ v.cell? ⟨w.heap.size, 2, none⟩ = some (.int .i64 (M.draws : Int)) ∧ v.cell? ⟨w.heap.size, 3, none⟩ = some (.slice qa qn qc) ∧ v.cell? ⟨w.heap.size, 4, none⟩ = some (.slice sa sn sc) ∧ v.cell? ⟨w.heap.size, 5, none⟩ = some (.slice pa pn pc)) ∧ Ext w2 v) 3 [(0, true), (1, true), (2, true), (3, false)] (by kernel_rfl) (by kernel_rfl) (by intro c a d v w h; cases d <;> exact h) ?_
        intro ops hops
        have HS := keep0 H6.out
        iterate 3
          refine wpT_take (v := ?_) (by rw [hops, List.getElem?_toArray]; rfl) (by first | rfl | (rw [hops]; rfl)) ?_ HS ?_
          rotate_left
          · intro v h; go_simp; with_reducible rfl
          simp only [Act.put, List.getElem_toArray, List.getElem_cons_zero, List.getElem_cons_succ, List.setIfInBounds_toArray, List.set_cons_zero, List.set_cons_succ]
        obtain ⟨⟨k0, k1, k2, k3, k4, k5⟩, kf⟩ := HB.out.zero HX2.out
        have HP := hid (HB.out.put HX2.out (.bool false) (uv M.state) (.int .i64 (M.draws : Int)) (.slice qa qn qc) (.slice sa sn sc) (.slice pa pn pc))
        clear HS
        refine wpT_step (by rw [hops, List.getElem?_toArray]; rfl) (by first | rfl | (rw [hops]; rfl)) ?_
        intro K hK
        go_wp2_with fail
        try (with_reducible refine ⟨fun h => absurd h (by decide), ?_⟩)
        try rw [wpT_nil]
        try clear hops ops
        go_wp2_with fail
        obtain ⟨hk, r0, r1', r2', r3, r4, r5⟩ := HP.out
        have hk' := hk.drew
        refine bodyPost_ret (v := .tuple #[uv (hashU label l), oVal false M.state M.draws (.slice qa qn qc) (.slice sa sn sc) (.slice pa pn pc)]) (by simp [results, Try.results101, go_sem, r0, r1', r2', r3, r4, r5]) rfl ?_
        have hx := ((HB.out.ex.trans HX2.out).kp hk' (fun k h => by subst h; omega))
        rw [HM2.out]
        exact ⟨_, _, _, by rw [show ((hashU label l, M) : UInt64 × Orc).2.ideal = false from HII.out], HC.out.ext hx, hx⟩
      · have HM2 := hid (HM.out.2 (by omega))
        have hpB : decide (p < 0) = true := decide_eq_true (by omega)
        clear hp
        obtain ⟨Q, hQs, hQk⟩ := id HC.out.qs
        obtain ⟨hQr, hQe⟩ := hQk w (Kp.refl _ _)
        have hQl : Q.length ≤ 100000000 := by have h := hf; rw [← hQs, List.length_map] at h; exact h
        obtain ⟨qa', qc', he, -⟩ := id hQr
        injection he with he1 he2 he3
        subst he1 he2 he3
        obtain ⟨i0, hi, hz0', hz1, hz2⟩ := info_parts Try.infoU
        obtain ⟨j0, hj, hy0, hy1, hy2⟩ := info_parts Try.infoQ
        have hQ1 := qCells_one Q (fun x hx => (hQe x hx).sl)
        have hQ2 := qCells_len Q
        obtain ⟨-, -, -, c3, -, -⟩ := HB.out.cells HX2.out
        have d2 : (w2.alloc (.cells #[] 49)).cell? ⟨w.heap.size, 3, none⟩ = some (.slice qa Q.length qc) := ((Ext.refl w2).alloc _).cell_some c3
        have hxe := (Ext.refl w2).alloc (.cells #[] 49)
        have ho1 := own_emptyQ w2
        go_wp2_with (at_builtin; refine wpList_app' rfl _ _ 62 rfl 49 j0 (.agg #[.int .u64 0, .slice none 0 0, .int .u64 0]) 3 40 (by kernel_rfl) hj hy0 hy1 hy2 rfl (by decide) (.slice (some ⟨w2.heap.size, 0, none⟩) 0 0) 0 [] rfl ho1 (.slice qa Q.length qc) Q.length (qCells Q) rfl ((hQr.ext ((HB.out.ex.trans HX2.out).trans hxe)).weak) hQ2 hQ1 (by unfold maxLen; omega) (by omega) ?_)
        intro v1 w3 hown1 hk1 hbk1
        have HQE := hid hQk
        have HQS := hid hQs
        have hown1' : w3.ownsRow 0 49 3 v1 Q.length (qCells Q) := by simpa using hown1
        have hx1 : Ext w2 w3 := hxe.kp hk1 (by intro k h; cases h; exact Nat.le_refl _)
        have hb1' : ∀ k, blk v1 = some k → w2.heap.size ≤ k := by
          intro k h
          rcases hbk1 with h' | h' <;> (rw [h'] at h; cases h)
          · exact Nat.le_refl _
          · omega
        obtain ⟨va, vc, rfl, -⟩ := ownsRow_rd hown1'
        have HO1 := hid hown1'
        have HX3 := hid hx1
        have HV1 := hid hb1'
        clear hQk hown1 hk1 hbk1 hxe ho1 d2 hQr hQ1 hQ2 hQe hQs hown1' hx1 hb1' c3
        have ho2 := own_empty w3
        have hxe := (Ext.refl w3).alloc (.cells #[] 28)
        have hl1 := (HL.out.ext (HB.out.ex.trans (HX2.out.trans (HX3.out.trans hxe)))).weak
        go_wp2_with (at_builtin; refine wpList_app' rfl _ _ 24 rfl 28 i0 (.int .u64 0) 1 8 Try.underlying24 hi hz0' hz1 hz2 rfl (by decide) (.slice (some ⟨w3.heap.size, 0, none⟩) 0 0) 0 [] rfl ho2 (.slice la l.length lc) l.length (us l) rfl hl1 (by simp) (us_one l) (by unfold maxLen; omega) (by omega) ?_)
        intro v2 w4 hown2 hk2 hbk2
        obtain ⟨h2a, h2b, -, h2c⟩ := app_new (l := l) hxe (Nat.le_refl _) (by simp) (by simpa using hown2) hk2 (hbk2.imp id fun h => h.trans (by simp))
        obtain ⟨xa, xc, rfl, -⟩ := ownsRow_rd h2a
        have HO2 := hid h2a
        have HX4 := hid h2b
        have HV2 := hid h2c
        clear hown2 hk2 hbk2 hxe ho2 hl1 h2a h2b h2c
        have ho3 : (w4.alloc (.cells #[uv label, .slice xa l.length xc, uv (hashU label l)] 49)).ownsRow 0 49 3 (.slice va Q.length vc) Q.length (qCells Q) := ownsRow_ext HO1.out (HX4.out.alloc _)
        have hrd : RdC' (w4.alloc (.cells #[uv label, .slice xa l.length xc, uv (hashU label l)] 49)) (.slice (some ⟨w4.heap.size, 0, none⟩) 1 1) 1 [uv label, .slice xa l.length xc, uv (hashU label l)] :=
          (RdC.block (heap_new _ _) (by unfold maxLen; omega)).weak
        go_wp2_with (at_builtin; refine wpList_app' rfl _ _ 62 rfl 49 j0 (.agg #[.int .u64 0, .slice none 0 0, .int .u64 0]) 3 40 (by kernel_rfl) hj hy0 hy1 hy2 rfl (by decide) (.slice va Q.length vc) Q.length (qCells Q) rfl ho3 (.slice (some ⟨w4.heap.size, 0, none⟩) 1 1) 1 [uv label, .slice xa l.length xc, uv (hashU label l)] rfl hrd rfl (by intro u hu; simp only [List.mem_cons, List.not_mem_nil, or_false] at hu; rcases hu with rfl | rfl | rfl <;> rfl) (by unfold maxLen; omega) (by omega) ?_)
        intro v3 w5 hown3 hk3 hbk3
        obtain ⟨hx5, hq5⟩ := q_more (l := l) (label := label) (a := hashU label l) HG.out (HB.out.ex.trans HX2.out) HQE.out HO1.out HX3.out HV1.out HO2.out HX4.out HV2.out hown3 hk3 (hbk3.imp id fun h => h.trans (by simp))
        obtain ⟨ya, yc, rfl, -⟩ := ownsRow_rd hown3
        have e0 := (HX2.out.trans hx5).heap_some HB.out.b0
        have c3 : w5.cell? ⟨w.heap.size, 3, none⟩ = some (.slice qa Q.length qc) := cell_of e0 3
        have kf := frozen_of e0
        have HE0 := hid e0
        have HX5 := hid hx5
        have HQ5 := hid hq5
        clear hown3 hk3 hbk3 hx5 hq5 ho3 hrd e0
        go_upto_region 7 with fail
        obtain ⟨w6, hw6⟩ : ∃ w6, w6 = w5.setCell ⟨w.heap.size, 3, none⟩ (.slice ya (Q.length + 1) yc) := ⟨_, rfl⟩
        have e6 : w6.heap[w.heap.size]? = some (.cells #[.bool M.ideal, uv M.state, .int .i64 (M.draws : Int), .slice ya (Q.length + 1) yc, .slice sa sn sc, .slice pa pn pc] 105 (0, 0)) := by rw [hw6]; exact heap_setCell_same HE0.out 3 _
        have hk6 : Kp (fun k => k = w.heap.size) w5 w6 := by rw [hw6]; exact (Kp.refl (fun k => k = w.heap.size) w5).setCell (p := ⟨w.heap.size, 3, none⟩) (.inl rfl) _
        rw [← hw6]
        have HE6 := hid e6
        have HK6 := hid hk6
        have hb6 := hk6.heap_some (by omega) ((HX2.out.trans HX5.out).heap_some HB.out.b1)
        have HB6 := hid hb6
        clear hw6 e6 hk6 c3 kf hb6
        have H6 : Hid (∀ v, Ext w6 v → v.cell? ⟨w.heap.size, 0, none⟩ = some (.bool false) ∧ v.cell? ⟨w.heap.size, 1, none⟩ = some (uv M.state) ∧ v.cell? ⟨w.heap.size, 2, none⟩ = some (.int .i64 (M.draws : Int)) ∧ v.cell? ⟨w.heap.size, 3, none⟩ = some (.slice ya (Q.length + 1) yc) ∧ v.cell? ⟨w.heap.size, 4, none⟩ = some (.slice sa sn sc) ∧ v.cell? ⟨w.heap.size, 5, none⟩ = some (.slice pa pn pc)) := hid (fun v k => by have := six_cellsO (k.heap_some HE6.out); rw [HII.out] at this; exact this)
        refine wp_region_T (fun v => (v.cell? ⟨w.heap.size, 0, none⟩ = some (.bool false) ∧ v.cell? ⟨w.heap.size, 1, none⟩ = some (uv M.state) ∧ v.cell? ⟨w.heap.size, 2, none⟩ = some (.int .i64 (M.draws : Int)) ∧ v.cell? ⟨w.heap.size, 3, none⟩ = some (.slice ya (Q.length + 1) yc) ∧ v.cell? ⟨w.heap.size, 4, none⟩ = some (.slice sa sn sc) ∧ v.cell? ⟨w.heap.size, 5, none⟩ = some (.slice pa pn pc)) ∧ Ext w6 v) 3 [(0, true), (1, true), (2, true), (3, false)] (by kernel_rfl) (by kernel_rfl) (by intro c a d v w h; cases d <;> exact h) ?_
        intro ops hops
        have HS := keep0 H6.out
        iterate 3
          refine wpT_take (v := ?_) (by rw [hops, List.getElem?_toArray]; rfl) (by first | rfl | (rw [hops]; rfl)) ?_ HS ?_
          rotate_left
          · intro v h; go_simp; with_reducible rfl
          simp only [Act.put, List.getElem_toArray, List.getElem_cons_zero, List.getElem_cons_succ, List.setIfInBounds_toArray, List.set_cons_zero, List.set_cons_succ]
        obtain ⟨⟨k0, k1, k2, k3, k4, k5⟩, kf⟩ := (And.intro (six_cellsO HB6.out) (frozen_of HB6.out))
        have HP0 := six_setO (d0 := .bool false) (d1 := uv M.state) (d2 := .int .i64 (M.draws : Int)) (d3 := .slice ya (Q.length + 1) yc) (d4 := .slice sa sn sc) (d5 := .slice pa pn pc) HB6.out
        have HP := hid (And.intro HP0.2 (six_cellsO HP0.1))
        clear HP0
        clear HS
        refine wpT_step (by rw [hops, List.getElem?_toArray]; rfl) (by first | rfl | (rw [hops]; rfl)) ?_
        intro K hK
        go_wp2_with fail
        try (with_reducible refine ⟨fun h => absurd h (by decide), ?_⟩)
        try rw [wpT_nil]
        try clear hops ops
        go_wp2_with fail
        obtain ⟨hk, r0, r1', r2', r3, r4, r5⟩ := HP.out
        have hk' := hk.drew
        refine bodyPost_ret (v := .tuple #[uv (hashU label l), oVal false M.state M.draws (.slice ya (Q.length + 1) yc) (.slice sa sn sc) (.slice pa pn pc)]) (by simp [results, Try.results101, go_sem, r0, r1', r2', r3, r4, r5]) rfl ?_
        have hkk : Kp (fun k => k = w.heap.size ∨ k = w.heap.size + 1) w5 _ := (HK6.out.mono fun k _ h => .inl h).trans (hk'.mono fun k _ h => .inr h)
        have hx := ((HB.out.ex.trans HX2.out).trans HX5.out).kp hkk (by rintro k (h | h) <;> omega)
        have hst0 : ∀ W, Kp (fun k => k = w.heap.size ∨ k = w.heap.size + 1) w5 W → Ext w W → StMc G W (.slice ya (Q.length + 1) yc) (.slice sa sn sc) (.slice pa pn pc) (M.add label l (hashU label l)) := fun W hkk hx => by
          have hz := HB.out.sz
          have hz2 := HX2.out.size
          obtain ⟨Q', hq1, hq2⟩ := HQ5.out
          rw [HQS.out] at hq1
          exact ⟨⟨Q', hq1, fun w'' k'' => hq2 w'' ((hkk.mono fun k _ h => .inr (by omega)).trans (k''.mono fun k _ h => .inl h))⟩, fun w'' k'' => HC.out.ss w'' ((Kp.of_ext hx).trans k''), HC.out.ps⟩
        have hst := hst0 _ hkk hx
        rw [HM2.out]
        exact ⟨_, _, _, by rw [show ((hashU label l, M.add label l (hashU label l)) : UInt64 × Orc).2.ideal = false from HII.out]; rfl, hst, hx⟩
end Go.Proofs.Ytdpgfjnpcjpdpaa
namespace Go.Proofs.Ytdpgfjnpcjpdpaa
open Go.RowKit
attribute [local irreducible] perm fAdd fMul fPow fSub fNeg fRed hashU drawOf nextState
theorem prog_ideal (M : Orc) (a : UInt64) (l : List UInt64) (x : UInt64) : (M.prog a l x).2.ideal = M.ideal := by
  rcases prog_cases M a l x with h | ⟨h, _⟩ <;> rw [h]
  rfl
theorem progs_ideal : ∀ (l : List Qn) (M : Orc), (M.progs l).ideal = M.ideal
  | [], _ => rfl
  | q :: r, M => by
    show ((M.prog q.label q.elems q.answer).2.progs r).ideal = _
    rw [progs_ideal r, prog_ideal]
theorem progs_all {P : Qn → Prop} : ∀ (l : List Qn) (M : Orc), (∀ q ∈ M.qs, P q) → (∀ q ∈ l, P q) → ∀ q ∈ (M.progs l).qs, P q
  | [], _, h, _ => h
  | q :: r, M, h, h' => by
    show ∀ p ∈ ((M.prog q.label q.elems q.answer).2.progs r).qs, P p
    refine progs_all r _ (fun p hp => ?_) fun p hp => h' p (List.mem_cons_of_mem _ hp)
    rcases prog_cases M q.label q.elems q.answer with h1 | ⟨h1, _⟩
    · rw [h1] at hp; exact h p hp
    · rw [h1, add_qs] at hp
      rcases List.mem_append.1 hp with hp | hp
      · exact h p hp
      · rw [List.mem_singleton] at hp; subst hp
        exact h' q (List.mem_cons_self ..)
def OraO (w : World) (M : Orc) (e : Ending) (w' : World) : Prop := ∃ qv sv pv, e = .returned (oVal M.ideal M.state M.draws qv sv pv) ∧ StMc (fun k => k < w.heap.size) w' qv sv pv M ∧ Ext w w'
set_option maxRecDepth 100000 in
set_option maxHeartbeats 3200000 in
theorem wOracle_any {w : World} {real : Bool} {seed : UInt64} {qv : Value} {Q : List Qn} (hq : RdQ' w qv Q) (hf : fewW Q = true) :
    Calls Try.prog 51 #[.agg #[.bool real, uv seed, qv]] w (OraO w (beginM real seed Q)) := by
  obtain ⟨a, c, rfl, hlc, hcm, -⟩ := id hq
  obtain ⟨hx0, hb0, hb1, hz0⟩ := two_new w (.cells #[.bool real, uv seed, .slice a Q.length c] 66) (.cells #[.bool false, .int .u64 0, .int .i64 0, .slice none 0 0, .slice none 0 0, .slice none 0 0] 105)
  obtain ⟨w0, hw0⟩ : ∃ w0, w0 = (w.alloc (.cells #[.bool real, uv seed, .slice a Q.length c] 66)).alloc (.cells #[.bool false, .int .u64 0, .int .i64 0, .slice none 0 0, .slice none 0 0, .slice none 0 0] 105) := ⟨_, rfl⟩
  rw [← hw0] at hx0 hb0 hb1 hz0
  have HW := hid hw0
  have HX0 := hid hx0
  have HB0 := hid hb0
  have HB1 := hid hb1
  have HZ0 := hid hz0
  have HQ := hid hq
  have HF := hid (fewW_parts hf)
  have c0 : w0.cell? ⟨w.heap.size, 0, none⟩ = some (.bool real) := cell_of hb0 0
  have c1 : w0.cell? ⟨w.heap.size, 1, none⟩ = some (uv seed) := cell_of hb0 1
  clear hw0 hx0 hb0 hb1 hz0 hq hf
  go_enter Try.func51, Try.ntmps51
  go_upto_region 1 with fail
  rw [← HW.out]
  cases real with
  | true =>
    obtain ⟨k0, k1, k2, k3, k4, k5⟩ := six_cellsO HB1.out
    have kf := frozen_of HB1.out
    go_wp2_with fail
    obtain ⟨hb2, hk2⟩ := six_setO (d0 := .bool false) (d1 := .int .u64 0) (d2 := .int .i64 0) (d3 := .slice none 0 0) (d4 := .slice none 0 0) (d5 := .slice none 0 0) HB1.out
    obtain ⟨r0, r1, r2, r3, r4, r5⟩ := six_cellsO hb2
    have hx := HX0.out.kp hk2 (fun k h => by subst h; omega)
    refine bodyPost_ret (v := oVal false 0 0 (.slice none 0 0) (.slice none 0 0) (.slice none 0 0)) (by simp [results, Try.results51, go_sem, r0, r1, r2, r3, r4, r5]) rfl ?_
    exact ⟨_, _, _, rfl, ⟨⟨[], rfl, fun v k => ⟨RdC.nil v, fun x hx => by cases hx⟩⟩, fun v k => .nil v, ⟨_, _, _, rfl⟩⟩, hx⟩
  | false =>
    obtain ⟨m, hm⟩ : ∃ m, m = w0.heap.size := ⟨_, rfl⟩
    obtain ⟨n, hn⟩ : ∃ n, n = w.heap.size := ⟨_, rfl⟩
    obtain ⟨w1, hw1⟩ : ∃ w1, w1 = w0.alloc (.cells #[.int .u64 (seed.toNat : Int), .int .i64 0, .slice none 0 0, .slice none 0 0, .slice none 0 0] 93) := ⟨_, rfl⟩
    have hb1 : w1.heap[m]? = some (.cells #[.int .u64 (seed.toNat : Int), .int .i64 0, .slice none 0 0, .slice none 0 0, .slice none 0 0] 93 (0, 0)) := by rw [hw1, hm]; exact heap_new _ _
    have hx1 : Ext w0 w1 := by rw [hw1]; exact (Ext.refl _).alloc _
    have HB2 := hid hb1
    have HX1 := hid hx1
    have HMN : Hid (n = w.heap.size ∧ m = n + 2) := hid ⟨hn, by rw [hm, HZ0.out, hn]⟩
    have d2 : w1.cell? ⟨n, 2, none⟩ = some (.slice a Q.length c) := by rw [hn]; exact hx1.cell_some (cell_of HB0.out 2)
    have H2 : Hid (∀ v, Kp (fun k => k = m) w1 v → v.cell? ⟨n, 2, none⟩ = some (.slice a Q.length c)) := hid fun v k => k.cell_some (by have := HMN.out; omega) d2
    have hQl := HF.out.2
    clear hx1 hb1 d2
    go_upto_region 4 with fail
    rw [← hw1, ← hn, ← hm]
    clear hw1 hm hn c0 c1
    go_wp2_with fail
    go_loopw [4] (fun iv wr => ∃ i : Nat, i ≤ Q.length ∧ iv = .int .i64 i ∧ Hid (∃ qv sv pv, wr.heap[m]? = some (.cells #[uv ((Orc.fresh true seed).progs (Q.take i)).state, .int .i64 (((Orc.fresh true seed).progs (Q.take i)).draws : Int), qv, sv, pv] 93 (0, 0)) ∧ StMc (fun k => (k = m ∨ k = n + 1) ∨ k < w.heap.size) wr qv sv pv ((Orc.fresh true seed).progs (Q.take i)) ∧ Kp (fun k => k = m) w1 wr)) (fun iv _ => Q.length - (intOf iv).toNat)
    case atStart =>
      refine ⟨0, by omega, rfl, hid ⟨_, _, _, by rw [List.take_zero]; exact HB2.out, ?_, Kp.refl _ _⟩⟩
      rw [List.take_zero]
      exact ⟨⟨[], rfl, fun v k => ⟨RdC.nil v, fun x hx => by cases hx⟩⟩, fun v k => .nil v, ⟨_, _, _, rfl⟩⟩
    case round =>
      obtain ⟨i, hi, rfl, HR⟩ := hrel
      obtain ⟨qv, sv, pv, hbm, hst, hk⟩ := HR.out
      clear HR
      obtain ⟨⟨qa, qn, qc, rfl⟩, ⟨sa, sn, sc, rfl⟩, ⟨pa, pn, pc, rfl⟩⟩ := hst.now.sl
      have hxr : Ext w wr := (HX0.out.trans HX1.out).kp hk (by have := HMN.out; rintro k rfl; omega)
      have d2 := H2.out wr hk
      have HXR := hid hxr
      have HST := hid hst
      have HBM := hid hbm
      have HK := hid hk
      by_cases hlt : i < Q.length
      · obtain ⟨q, hqq⟩ : ∃ q, Q[i]? = some q := ⟨_, List.getElem?_eq_getElem hlt⟩
        obtain ⟨b', o', u, rfl, e0, e1, e2, hr⟩ := (HQ.out.ext hxr).at hqq
        obtain ⟨ua, uc, rfl, -⟩ := id hr
        have hi0 : (0 : Int) ≤ (i : Int) := by omega
        have hiq : (i : Int) < (Q.length : Int) := by omega
        have hpq := progs_take hqq (Orc.fresh true seed)
        have HPQ := hid hpq
        have HPR := hid (rProgM_any (w := wr.drew) (label := q.label) (a := q.answer) (HST.out.ext (Ext.refl _).drew) (by
            have h1 := heap_lt hbm
            have h2 := HMN.out
            have h3 := hxr.size
            rintro k ((h | h) | h)
            · subst h; exact h1
            · show k < wr.heap.size; omega
            · show k < wr.heap.size; omega) (by rw [progs_ideal]; rfl) (hr.ext (Ext.refl _).drew) (by have := HF.out.1 q (List.mem_of_getElem? hqq); omega) (by
            have h1 := progs_qs_le (Q.take i) (Orc.fresh true seed)
            have h2 : (Q.take i).length ≤ i := List.length_take_le _ _
            have h3 : (Orc.fresh true seed).qs.length = 0 := rfl
            omega) (progs_all (P := fun q => q.elems.length ≤ 100000000) _ _ (fun p hp => by cases hp) (fun p hp => by have := HF.out.1 p (List.mem_of_mem_take hp); omega)))
        generalize (Orc.fresh true seed).progs (Q.take i) = M at *
        have HS6 : Hid (∀ v, Ext wr v → (v.cell? ⟨m, 0, none⟩ = some (uv M.state) ∧ v.cell? ⟨m, 1, none⟩ = some (.int .i64 (M.draws : Int)) ∧ v.cell? ⟨m, 2, none⟩ = some (.slice qa qn qc) ∧ v.cell? ⟨m, 3, none⟩ = some (.slice sa sn sc) ∧ v.cell? ⟨m, 4, none⟩ = some (.slice pa pn pc)) ∧ v.cell? ⟨n, 2, none⟩ = some (.slice (some ⟨b', o', none⟩) Q.length c) ∧ v.cell? ⟨b', o' + i * 3, none⟩ = some (uv q.label) ∧ v.cell? ⟨b', o' + i * 3 + 1, none⟩ = some (.slice ua q.elems.length uc) ∧ v.cell? ⟨b', o' + i * 3 + 2, none⟩ = some (uv q.answer)) :=
          hid fun v k => ⟨five_cells (k.heap_some hbm), k.cell_some d2, k.cell_some e0, k.cell_some e1, k.cell_some e2⟩
        clear hbm hst hk hxr e0 e1 e2 hqq hr hpq
        go_wp2_with fail
        refine wp_region_T (fun v => ((v.cell? ⟨m, 0, none⟩ = some (uv M.state) ∧ v.cell? ⟨m, 1, none⟩ = some (.int .i64 (M.draws : Int)) ∧ v.cell? ⟨m, 2, none⟩ = some (.slice qa qn qc) ∧ v.cell? ⟨m, 3, none⟩ = some (.slice sa sn sc) ∧ v.cell? ⟨m, 4, none⟩ = some (.slice pa pn pc)) ∧ v.cell? ⟨n, 2, none⟩ = some (.slice (some ⟨b', o', none⟩) Q.length c) ∧ v.cell? ⟨b', o' + i * 3, none⟩ = some (uv q.label) ∧ v.cell? ⟨b', o' + i * 3 + 1, none⟩ = some (.slice ua q.elems.length uc) ∧ v.cell? ⟨b', o' + i * 3 + 2, none⟩ = some (uv q.answer)) ∧ Ext wr v) 23 [(0, true), (1, true), (2, true), (3, true), (4, true), (5, true), (6, true), (7, true), (8, true), (9, true), (10, true), (11, true), (12, true), (13, true), (14, true), (15, true), (16, true), (17, true), (18, true), (19, false), (20, true), (21, true), (22, true), (23, false)] (by kernel_rfl) (by kernel_rfl) (by intro c a d v w h; cases d <;> exact h) ?_
        intro ops hops
        have HS := keep0 HS6.out
        clear d2
        iterate 19
          refine wpT_take (v := ?_) (by rw [hops, List.getElem?_toArray]; rfl) (by first | rfl | (rw [hops]; rfl)) ?_ HS ?_
          rotate_left
          · intro v h; go_simp; with_reducible rfl
          simp only [Act.put, List.getElem_toArray, List.getElem_cons_zero, List.getElem_cons_succ, List.setIfInBounds_toArray, List.set_cons_zero, List.set_cons_succ]
        refine wpT_step (by rw [hops, List.getElem?_toArray]; rfl) (by first | rfl | (rw [hops]; rfl)) ?_
        intro K hK
        go_wp2_with fail
        refine HPR.out.mono ?_
        rintro e w2 ⟨qv2, sv2, pv2, rfl, hc2, hx2⟩
        obtain ⟨⟨qa2, qn2, qc2, rfl⟩, ⟨sa2, sn2, sc2, rfl⟩, ⟨pa2, pn2, pc2, rfl⟩⟩ := hc2.now.sl
        have HS2 := keepE HS6.out HS hx2
        rw [← HPQ.out] at hc2 ⊢
        obtain ⟨N, hN⟩ : ∃ N, N = (Orc.fresh true seed).progs (Q.take (i + 1)) := ⟨_, rfl⟩
        rw [← hN] at hc2 ⊢
        have HN := hid hN
        have hb5 := HS2.2.heap_some HBM.out
        obtain ⟨hb6, hk6⟩ := five_set (d0 := uv N.state) (d1 := .int .i64 (N.draws : Int)) (d2 := .slice qa2 qn2 qc2) (d3 := .slice sa2 sn2 sc2) (d4 := .slice pa2 pn2 pc2) hb5
        have HB6 := hid hb6
        have HK6 := hid hk6
        have HC2 := hid hc2
        have HX2 := hid HS2.2
        have kf := frozen_of hb5
        obtain ⟨l0, l1, l2, l3, l4⟩ := five_cells hb5
        clear hN hb5 hb6 hk6 hc2 hx2 HPQ HPR
        refine hK _ _ ⟨fun _ => HS2, ?_⟩
        clear hK K
        iterate 3
          refine wpT_take (v := ?_) (by rw [hops, List.getElem?_toArray]; rfl) (by first | rfl | (rw [hops]; rfl)) ?_ HS2 ?_
          rotate_left
          · intro v h; go_simp; with_reducible rfl
          simp only [Act.put, List.getElem_toArray, List.getElem_cons_zero, List.getElem_cons_succ, List.setIfInBounds_toArray, List.set_cons_zero, List.set_cons_succ]
        clear HS HS2
        refine wpT_step (by rw [hops, List.getElem?_toArray]; rfl) (by first | rfl | (rw [hops]; rfl)) ?_
        intro K hK
        go_wp2_with fail
        try (with_reducible refine ⟨fun h => absurd h (by decide), ?_⟩)
        try rw [wpT_nil]
        try clear hops ops
        go_wp2_with fail
        go_roundw
        case rel =>
          refine ⟨i + 1, by omega, by go_num, hid ⟨_, _, _, by rw [← HN.out]; exact HB6.out, ?_, ?_⟩⟩
          · rw [← HN.out]
            exact HC2.out.grow (HK6.out.mono fun k _ h => .inl (.inl h)) fun k h => .inl h
          · exact (HK.out.ext HX2.out).trans HK6.out
        case measure => simp [intOf]; omega
      · obtain rfl : i = Q.length := by omega
        have hN : (Orc.fresh true seed).progs Q = beginM false seed Q := rfl
        have hI : (beginM false seed Q).ideal = true := by rw [← hN, progs_ideal]; rfl
        rw [List.take_length, hN] at hst hbm
        generalize beginM false seed Q = N at *
        obtain ⟨k0, k1, k2, k3, k4⟩ := five_cells hbm
        have hb1 := hk.heap_some (by have := HMN.out; omega) (HX1.out.heap_some HB1.out)
        rw [← HMN.out.1] at hb1
        obtain ⟨l0, l1, l2, l3, l4, l5⟩ := six_cellsO hb1
        have kf := frozen_of hb1
        obtain ⟨hb6, hk6⟩ := six_setO (d0 := .bool true) (d1 := uv N.state) (d2 := .int .i64 (N.draws : Int)) (d3 := .slice qa qn qc) (d4 := .slice sa sn sc) (d5 := .slice pa pn pc) hb1
        have HB6 := hid hb6
        have HK6 := hid hk6
        have HI := hid hI
        have HST2 := hid hst
        clear hb6 hk6 hb1 hbm hst hk hxr hN hI HST HBM
        go_wp2_with fail
        obtain ⟨r0, r1, r2, r3, r4, r5⟩ := six_cellsO HB6.out
        have hx := HXR.out.kp HK6.out (fun k h => by have := HMN.out; subst h; omega)
        refine bodyPost_ret (v := oVal true N.state N.draws (.slice qa qn qc) (.slice sa sn sc) (.slice pa pn pc)) (by simp [results, Try.results51, go_sem, r0, r1, r2, r3, r4, r5]) rfl ?_
        exact ⟨_, _, _, by rw [HI.out], HST2.out.grow (HK6.out.mono fun k _ h => .inl (.inr h)) (fun k h => .inl (.inr h)), hx⟩
end Go.Proofs.Ytdpgfjnpcjpdpaa
namespace Go.Proofs.Ytdpgfjnpcjpdpaa
open Go.RowKit
attribute [local irreducible] perm fAdd fMul fPow fSub fNeg fRed hashU drawOf nextState
theorem possible_11 {root : UInt64} {n i : Int} {x : Opn} (h : 10 < x.path.length) : possible root n i x = false := by
  cases hp : possible root n i x with
  | false => rfl
  | true => obtain ⟨j, hj⟩ := possible_parts hp; have := hj.l10; omega
set_option maxRecDepth 1000000 in
set_option maxHeartbeats 3200000 in
theorem Right_any {w : World} {root : UInt64} {n i : Int} {lf pv : Value} {x : Opn} (hl : RdU' w lf x.leaf) (hp : RdU' w pv x.path) (hpl : x.path.length ≤ 40) (hL : x.leaf.length ≤ 1000000000) :
    Calls Try.prog 105 #[uv root, .int .i64 n, .int .i64 i, .agg #[lf, uv x.salt, pv]] w fun e w' => e = .returned (.bool (possible root n i x)) ∧ Ext w w' := by
  obtain ⟨la, lc, rfl, -⟩ := id hl
  obtain ⟨pa, pc, rfl, -⟩ := id hp
  have hx : Ext w (w.alloc (.cells #[.slice la x.leaf.length lc, uv x.salt, .slice pa x.path.length pc] 53)) := (Ext.refl w).alloc _
  have HEL := hid (ElementsV_any _ x.leaf _ (hl.ext hx) (by omega))
  have HEP := hid (ElementsV_any _ x.path _ (hp.ext hx) (by omega))
  have hdef : possible root n i x = (numI n && (decide (0 ≤ i) && (decide (i < n) && ((((2 ^ x.path.length : Nat) : Int) == n) && (decide (root < big) && (decide (x.salt < big) && (allE x.leaf && allE x.path))))))) := rfl
  have h11 := possible_11 (root := root) (n := n) (i := i) (x := x)
  have HX := hid hx
  obtain ⟨P, hP⟩ : ∃ P, P = possible root n i x := ⟨_, rfl⟩
  rw [← hP] at hdef h11 ⊢
  have HD := hid hdef
  have H11 := hid h11
  clear hl hp hx hdef h11 hP hpl
  go_enter Try.func105, Try.ntmps105
  go_wp2_with fail
  refine (Count_any n _).mono ?_
  rintro e w1 ⟨rfl, rfl⟩
  cases hn : numI n with
  | false =>
    have HFIN := hid (show P = false by rw [HD.out, hn]; rfl)
    clear hn
    go_wp2_with fail
    go_ret
    exact ⟨ret_bool HFIN.out.symm, HX.out⟩
  | true =>
    have HN := hid hn
    clear hn
    by_cases h0 : 0 ≤ i
    case neg =>
      have HFIN := hid (show P = false by rw [HD.out, decide_eq_false h0]; simp)
      have d0 : decide (0 ≤ i) = false := decide_eq_false h0
      clear h0
      go_wp2_with fail
      go_ret
      exact ⟨ret_bool HFIN.out.symm, HX.out⟩
    have d0 : decide (0 ≤ i) = true := decide_eq_true h0
    have H0 := hid h0
    clear h0
    by_cases h1 : i < n
    case neg =>
      have HFIN := hid (show P = false by rw [HD.out, decide_eq_false h1]; simp)
      have d1 : decide (i < n) = false := decide_eq_false h1
      clear h1
      go_wp2_with fail
      go_ret
      exact ⟨ret_bool HFIN.out.symm, HX.out⟩
    have d1 : decide (i < n) = true := decide_eq_true h1
    have H1 := hid h1
    clear h1
    by_cases h2 : x.path.length ≤ 10
    case neg =>
      have HFIN := hid (H11.out (by omega))
      have d2 : decide ((x.path.length : Int) ≤ 10) = false := decide_eq_false (by omega)
      clear h2
      go_wp2_with fail
      go_ret
      exact ⟨ret_bool HFIN.out.symm, HX.out⟩
    have d2 : decide ((x.path.length : Int) ≤ 10) = true := decide_eq_true (by omega)
    have H2 := hid h2
    clear h2
    obtain ⟨K, hK⟩ : ∃ K : Int, K = ((2 ^ x.path.length : Nat) : Int) := ⟨_, rfl⟩
    have hsh : ∀ yk : IntKind, Op.shift .shl .i64 1 yk (x.path.length : Int) = pure (.int .i64 K) := by
      intro yk
      have h1 := H2.out
      have h2 : 2 ^ x.path.length ≤ 2 ^ 40 := Nat.pow_le_pow_right (by omega) (by have := H2.out; omega)
      have h3 : ((2 : Int) ^ x.path.length) = ((2 ^ x.path.length : Nat) : Int) := by simp
      have e : IntKind.i64.wrap (1 * 2 ^ ((x.path.length : Int)).toNat) = K := by
        rw [show ((x.path.length : Int)).toNat = x.path.length from Int.toNat_natCast _, Int.one_mul, h3, hK]
        generalize 2 ^ x.path.length = y at *
        exact IntWalk.i64_in _ (by omega)
      rw [shift_shl_i64 yk 1 _ (by omega) (by omega), e]
    have HK := hid hK
    clear hK
    cases hkn : (n == K) with
    | false =>
      have HFIN := hid (show P = false by rw [HD.out, ← HK.out, show (K == n) = false by rw [← hkn, Bool.eq_iff_iff, beq_iff_eq, beq_iff_eq]; exact eq_comm]; simp)
      go_wp2_with fail
      go_ret
      exact ⟨ret_bool HFIN.out.symm, HX.out⟩
    | true =>
      have HG := hid (show P = (decide (root < big) && (decide (x.salt < big) && (allE x.leaf && allE x.path))) by
        rw [HD.out, HN.out, ← HK.out, show (K == n) = true by rw [← hkn, Bool.eq_iff_iff, beq_iff_eq, beq_iff_eq]; exact eq_comm, decide_eq_true H0.out, decide_eq_true H1.out]; simp)
      go_wp2_with fail
      refine (Element_any root _).mono ?_
      rintro e w1 ⟨rfl, rfl⟩
      cases hr : decide (root < big) with
      | false =>
        have HFIN := hid (show P = false by rw [HG.out, hr]; rfl)
        clear hr
        go_wp2_with fail
        go_ret
        exact ⟨ret_bool HFIN.out.symm, HX.out⟩
      | true =>
        have HR := hid hr
        clear hr
        go_wp2_with fail
        refine (Element_any x.salt _).mono ?_
        rintro e w1 ⟨rfl, rfl⟩
        cases hs : decide (x.salt < big) with
        | false =>
          have HFIN := hid (show P = false by rw [HG.out, hs]; simp)
          clear hs
          go_wp2_with fail
          go_ret
          exact ⟨ret_bool HFIN.out.symm, HX.out⟩
        | true =>
          have HS := hid hs
          clear hs
          go_wp2_with fail
          refine HEL.out.mono ?_
          rintro e w1 ⟨rfl, rfl⟩
          cases hal : allE x.leaf with
          | false =>
            have HFIN := hid (show P = false by rw [HG.out, hal]; simp)
            clear hal
            go_wp2_with fail
            go_ret
            exact ⟨ret_bool HFIN.out.symm, HX.out⟩
          | true =>
            have HFIN := hid (show P = allE x.path by rw [HG.out, hal, HR.out, HS.out]; rfl)
            clear hal
            go_wp2_with fail
            refine HEP.out.mono ?_
            rintro e w1 ⟨rfl, rfl⟩
            go_wp2_with fail
            go_ret
            exact ⟨ret_bool (by rw [HFIN.out]), HX.out⟩

/-! ## Verify -/
theorem heap_at {w : World} {k : Nat} (o : Obj) (_ : True) (h : k = w.heap.size) : (w.alloc o).heap[k]? = some o := by subst h; exact heap_new _ _

def walkP (pk : UInt64 → List UInt64 → UInt64 × Bool) : List UInt64 → Nat → UInt64 × List UInt64 → Option UInt64
  | [], _, q => if (pk q.1 q.2).2 then some (pk q.1 q.2).1 else none
  | p :: r, i, q => if (pk q.1 q.2).2 then walkP pk r (i / 2) (17, pairOf i (pk q.1 q.2).1 p) else none
theorem walkP_no {pk : UInt64 → List UInt64 → UInt64 × Bool} {l : List UInt64} {i : Nat} {q : UInt64 × List UInt64} (h : (pk q.1 q.2).2 = false) : walkP pk l i q = none := by
  cases l <;> simp [walkP, h]
theorem walkP_end {pk : UInt64 → List UInt64 → UInt64 × Bool} {i : Nat} {q : UInt64 × List UInt64} (h : (pk q.1 q.2).2 = true) : walkP pk [] i q = some (pk q.1 q.2).1 := by simp [walkP, h]
theorem walkP_go {pk : UInt64 → List UInt64 → UInt64 × Bool} {p : UInt64} {r : List UInt64} {i : Nat} {q : UInt64 × List UInt64} (h : (pk q.1 q.2).2 = true) : walkP pk (p :: r) i q = walkP pk r (i / 2) (17, pairOf i (pk q.1 q.2).1 p) := by simp [walkP, h]
def fitsP (pk : UInt64 → List UInt64 → UInt64 × Bool) (root : UInt64) (n i : Int) (x : Opn) : Bool := possible root n i x && walkP pk x.path i.toNat (16, x.salt :: x.leaf) == some root
theorem hash_elems {M : Orc} {B : Nat} (h : ∀ q ∈ M.qs, q.elems.length ≤ B) (a : UInt64) {l : List UInt64} (hl : l.length ≤ B) : ∀ q ∈ (M.hash a l).2.qs, q.elems.length ≤ B := by
  rcases hash_cases M a l with ⟨h1, -⟩ | ⟨-, i, -, h1⟩ | ⟨-, hn, x, M1, h1, hq, -⟩
  · rw [h1]; exact h
  · rw [h1]; exact h
  · rw [h1]
    intro q hq'
    rw [show (x, M1).2.qs = M1.qs from rfl, hq] at hq'
    rcases List.mem_append.1 hq' with h2 | h2
    · exact h q h2
    · rw [List.mem_singleton] at h2; subst h2; exact hl
theorem hash_sound {M : Orc} (h : M.sound) (a : UInt64) (l : List UInt64) : (M.hash a l).2.sound := by
  intro hi q hq
  rw [hash_ideal] at hi
  rcases hash_cases M a l with ⟨h1, -⟩ | ⟨-, i, -, h1⟩ | ⟨-, hn, x, M1, h1, hq1, -, -, hr, -⟩
  · rw [h1] at hq; exact h hi q hq
  · rw [h1] at hq; exact h hi q hq
  · rw [h1] at hq
    rw [show (x, M1).2.qs = M1.qs from rfl, hq1] at hq
    rcases List.mem_append.1 hq with h2 | h2
    · exact h hi q h2
    · rw [List.mem_singleton] at h2; subst h2; exact (hr hi).1
theorem rpeek_same {M N : Orc} (h : N.ideal = M.ideal) (h2 : M.ideal = true → N = M) (a : UInt64) (l : List UInt64) : N.rpeek a l = M.rpeek a l := by
  cases hi : M.ideal with
  | true => rw [h2 hi]
  | false =>
    unfold Orc.rpeek
    rw [h, hi]
    rfl
set_option maxRecDepth 100000 in
set_option maxHeartbeats 800000 in
theorem rsalted_any (lv : Value) (salt : UInt64) (l : List UInt64) (w : World) (hl : RdU' w lv l) (hL : l.length ≤ 100000000000) :
    Calls Try.prog 102 #[uv salt, lv] w (NewU w (salt :: l)) := by
  obtain ⟨i0, hi, hz0, hz1, hz2⟩ := info_parts Try.infoU
  have hx0 := (Ext.refl w).alloc (.cells #[uv salt] 28)
  have hl1 := hl.ext hx0
  have hb := heap_new w (.cells #[uv salt] 28)
  have how : (w.alloc (.cells #[uv salt] 28)).ownsRow 0 28 1 (.slice (some ⟨w.heap.size, 0, none⟩) 1 1) 1 [uv salt] := ⟨rfl, .inr ⟨w.heap.size, 1, #[uv salt], rfl, Nat.zero_le _, hb, Nat.le_refl _, by unfold maxLen; omega, rfl, rfl⟩⟩
  go_enter Try.func102, Try.ntmps102
  go_wp2_with (at_builtin; refine wpList_app' rfl _ _ 24 rfl 28 i0 (.int .u64 0) 1 8 Try.underlying24 hi hz0 hz1 hz2 rfl (by decide) _ 1 [uv salt] rfl how _ l.length (us l) rfl hl1 (by simp) (us_one l) (by unfold maxLen; omega) (by omega) ?_)
  intro v' w1 hown0 hk hb
  have hown : OwnU w1 v' (salt :: l) := by
    have := hown0
    rw [Nat.add_comm] at this
    exact this
  clear hown0
  have hE : Ext w w1 := hx0.kp hk (by intro k h; simp [Value.ownBlock] at h; omega)
  have hfr : ∀ k, blk v' = some k → w.heap.size ≤ k := by
    intro k h
    rcases hb with hb | hb
    · rw [hb] at h; simp [Value.ownBlock] at h; omega
    · rw [hb] at h; simp at h; omega
  have H1 := hid hown
  have H2 := hid hE
  have H3 := hid hfr
  clear hown hk hb hE hfr
  go_wp2
  go_ret
  exact ⟨v', rfl, H1.out, H2.out, H3.out⟩
def VerR (w : World) (b : Bool) (e : Ending) (w' : World) : Prop := ∃ id st nn qv sv pv, e = .returned (.tuple #[.bool b, oVal id st nn qv sv pv]) ∧ (isSl qv ∧ isSl sv ∧ isSl pv) ∧ Ext w w'
/-- Where a round of Verify begins. -/
structure VRel (w0 wr : World) (n : Nat) (M : Orc) (x : Opn) (i0 k : Nat) (q : UInt64 × List UInt64) (lv : Value) (M' : Orc) (qv sv pv : Value) : Prop where
  box : wr.heap[n]? = some (.cells #[.bool M'.ideal, uv M'.state, .int .i64 (M'.draws : Int), qv, sv, pv] 105 (0, 0))
  st : StMc (fun k => k = n ∨ k = n + 1 + 1) wr qv sv pv M'
  rd : ∀ w', Kp (fun k => k = n ∨ k = n + 1 + 1) wr w' → RdU w' lv q.2
  kp : Kp (fun k => k = n) w0 wr
  id : M'.ideal = M.ideal
  so : M'.sound
  eq : M.ideal = true → M' = M
  qs : M'.qs.length ≤ M.qs.length + k
  dr : M'.draws ≤ M.draws + k
  el : ∀ q ∈ M'.qs, q.elems.length ≤ 50000000
  ql : q.2.length ≤ 50000000
  kl : k ≤ x.path.length
  wk : walkP M.rpeek x.path i0 (16, x.salt :: x.leaf) = walkP M.rpeek (x.path.drop k) (i0 / 2 ^ k) q
/-- The oracle behind the question of a round. -/
structure ARelM (M : Orc) (k : Nat) (M2 : Orc) : Prop where
  id : M2.ideal = M.ideal
  so : M2.sound
  eq : M.ideal = true → M2 = M
  qs : M2.qs.length ≤ M.qs.length + (k + 1)
  dr : M2.draws ≤ M.draws + (k + 1)
  el : ∀ q ∈ M2.qs, q.elems.length ≤ 50000000
structure ARel (w0 w5 : World) (n : Nat) (M : Orc) (k : Nat) (M2 : Orc) (qv sv pv : Value) : Prop where
  box : w5.heap[n]? = some (.cells #[.bool M2.ideal, uv M2.state, .int .i64 (M2.draws : Int), qv, sv, pv] 105 (0, 0))
  st : StMc (fun k => k = n ∨ k = n + 1 + 1) w5 qv sv pv M2
  kp : Kp (fun k => k = n) w0 w5
  m : ARelM M k M2
theorem ARel.next {w0 w5 w6 : World} {n : Nat} {M : Orc} {k : Nat} {M2 : Orc} {qv sv pv : Value} {x : Opn} {i0 g : Nat} {a b : UInt64} {T : TypeId} (h : ARel w0 w5 n M k M2 qv sv pv) (hx : Ext w5 w6) (hn : n + 1 + 1 < w5.heap.size) (hg : w5.heap.size ≤ g)
    (hb : w6.heap[g]? = some (.cells #[uv a, uv b] T (0, 0))) (hw : walkP M.rpeek x.path i0 (16, x.salt :: x.leaf) = walkP M.rpeek (x.path.drop (k + 1)) (i0 / 2 ^ (k + 1)) (17, [a, b])) (hk : k + 1 ≤ x.path.length) :
    VRel w0 w6 n M x i0 (k + 1) (17, [a, b]) (.slice (some ⟨g, 0, none⟩) 2 2) M2 qv sv pv where
  box := hx.heap_some h.box
  st := h.st.ext hx
  rd := fun w' k' => pair_rdu (k'.heap_some (by omega) hb)
  kp := h.kp.ext hx
  id := h.m.id
  so := h.m.so
  eq := h.m.eq
  qs := h.m.qs
  dr := h.m.dr
  el := h.m.el
  ql := by show 2 ≤ _; omega
  kl := hk
  wk := hw
theorem bit_rem (i k : Nat) (_hi : i ≤ 1024) (hk : k ≤ 10) : (((i : Int) / 2 ^ min k 64).tmod 2 == 1) = decide (i / 2 ^ k % 2 = 1) := by
  have h2 : (i : Int) / 2 ^ min k 64 = ((i / 2 ^ k : Nat) : Int) := by
    rw [Nat.min_eq_left (by omega)]; simp
  rw [h2]
  generalize i / 2 ^ k = y
  have h3 : ((y : Int)).tmod 2 = ((y % 2 : Nat) : Int) := by
    rw [Int.tmod_eq_emod_of_nonneg (by omega)]; omega
  rw [h3]
  by_cases h : y % 2 = 1
  · rw [decide_eq_true h, h]; rfl
  · rw [decide_eq_false h, beq_eq_false_iff_ne]; omega
set_option maxRecDepth 100000 in
set_option maxHeartbeats 25600000 in
theorem rVerify_any {w : World} {root : UInt64} {n0 i : Int} {lf pt qv sv pv : Value} {x : Opn} {M : Orc} (hc : RdMc w qv sv pv M) (hs : M.sound) (hl : RdU' w lf x.leaf) (hp : RdU' w pt x.path) (hpl : x.path.length ≤ 40) (hL : x.leaf.length ≤ 1000000) (hf : M.qs.length ≤ 1000000) (hE : ∀ q ∈ M.qs, q.elems.length ≤ 50000000) (hd : M.draws ≤ 1000000) :
    Calls Try.prog 59 #[oVal M.ideal M.state M.draws qv sv pv, uv root, .int .i64 n0, .int .i64 i, .agg #[lf, uv x.salt, pt]] w (VerR w (fitsP M.rpeek root n0 i x)) := by
  obtain ⟨⟨qa, qn, qc, rfl⟩, ⟨sa, sn, sc, rfl⟩, ⟨pa, pn, pc, rfl⟩⟩ := hc.sl
  obtain ⟨la, lc, rfl, -⟩ := id hl
  obtain ⟨ta, tc, rfl, -⟩ := id hp
  obtain ⟨n, hn⟩ : ∃ n, n = w.heap.size := ⟨_, rfl⟩
  obtain ⟨w0, hw0⟩ : ∃ w0, w0 = ((w.alloc (.cells #[.bool M.ideal, uv M.state, .int .i64 (M.draws : Int), .slice qa qn qc, .slice sa sn sc, .slice pa pn pc] 105)).alloc (.cells #[.slice la x.leaf.length lc, uv x.salt, .slice ta x.path.length tc] 53)).alloc (.cells #[.bool false, .int .u64 0, .int .i64 0, .slice none 0 0, .slice none 0 0, .slice none 0 0] 105) := ⟨_, rfl⟩
  have hx0 : Ext w w0 := by rw [hw0]; exact (((Ext.refl w).alloc _).alloc _).alloc _
  have hz0 : w0.heap.size = n + 3 := by rw [hw0, hn]; simp
  have hb0 : w0.heap[n]? = some (.cells #[.bool M.ideal, uv M.state, .int .i64 (M.draws : Int), .slice qa qn qc, .slice sa sn sc, .slice pa pn pc] 105 (0, 0)) := by rw [hw0, hn]; exact heap_alloc_some (heap_alloc_some (heap_new _ _))
  have hb1 : w0.heap[n + 1]? = some (.cells #[.slice la x.leaf.length lc, uv x.salt, .slice ta x.path.length tc] 53 (0, 0)) := by rw [hw0, hn]; exact heap_alloc_some (heap_at _ trivial (by simp))
  have hb2 : w0.heap[n + 1 + 1]? = some (.cells #[.bool false, .int .u64 0, .int .i64 0, .slice none 0 0, .slice none 0 0, .slice none 0 0] 105 (0, 0)) := by rw [hw0, hn]; exact heap_at _ trivial (by simp)
  have HW := hid hw0
  have HN := hid hn
  have HX0 := hid hx0
  have HZ0 := hid hz0
  have HB0 := hid hb0
  have HB1 := hid hb1
  have HB2 := hid hb2
  have HC := hid hc
  have HS := hid hs
  have HL := hid hl
  have HP := hid hp
  have HE := hid (And.intro hE hd)
  have HRI := hid (Right_any (root := root) (n := n0) (i := i) (hl.ext hx0) (hp.ext hx0) hpl (by omega))
  obtain ⟨x0, x1, x2⟩ : w0.cell? ⟨n + 1, 0, none⟩ = some (.slice la x.leaf.length lc) ∧ w0.cell? ⟨n + 1, 1, none⟩ = some (uv x.salt) ∧ w0.cell? ⟨n + 1, 2, none⟩ = some (.slice ta x.path.length tc) := ⟨cell_of hb1 0, cell_of hb1 1, cell_of hb1 2⟩
  clear hw0 hx0 hz0 hb0 hb1 hb2 hc hs hl hp hE hd
  go_enter Try.func59, Try.ntmps59
  go_upto_region 1 with fail
  rw [← HW.out, ← hn]
  clear hn
  go_wp2_with fail
  refine HRI.out.mono ?_
  rintro e w1 ⟨rfl, hx1⟩
  have HX1 := hid hx1
  clear hx1 HRI x0 x1 x2
  cases hpo : possible root n0 i x with
  | false =>
    have HFIN := hid (show fitsP M.rpeek root n0 i x = false by unfold fitsP; rw [hpo]; rfl)
    clear hpo
    go_wp2_with fail
    have H6 : Hid (∀ v, Ext w1 v → v.cell? ⟨n, 0, none⟩ = some (.bool M.ideal) ∧ v.cell? ⟨n, 1, none⟩ = some (uv M.state) ∧ v.cell? ⟨n, 2, none⟩ = some (.int .i64 (M.draws : Int)) ∧ v.cell? ⟨n, 3, none⟩ = some (.slice qa qn qc) ∧ v.cell? ⟨n, 4, none⟩ = some (.slice sa sn sc) ∧ v.cell? ⟨n, 5, none⟩ = some (.slice pa pn pc)) := hid fun v k => six_cellsO (k.heap_some (HX1.out.heap_some HB0.out))
    refine wp_region_T (fun v => (v.cell? ⟨n, 0, none⟩ = some (.bool M.ideal) ∧ v.cell? ⟨n, 1, none⟩ = some (uv M.state) ∧ v.cell? ⟨n, 2, none⟩ = some (.int .i64 (M.draws : Int)) ∧ v.cell? ⟨n, 3, none⟩ = some (.slice qa qn qc) ∧ v.cell? ⟨n, 4, none⟩ = some (.slice sa sn sc) ∧ v.cell? ⟨n, 5, none⟩ = some (.slice pa pn pc)) ∧ Ext w1 v) 2 [(0, true), (1, true), (2, false)] (by kernel_rfl) (by kernel_rfl) (by intro c a d v w h; cases d <;> exact h) ?_
    intro ops hops
    have HS := keep0 H6.out
    iterate 2
      refine wpT_take (v := ?_) (by rw [hops, List.getElem?_toArray]; rfl) (by first | rfl | (rw [hops]; rfl)) ?_ HS ?_
      rotate_left
      · intro v h; go_simp; with_reducible rfl
      simp only [Act.put, List.getElem_toArray, List.getElem_cons_zero, List.getElem_cons_succ, List.setIfInBounds_toArray, List.set_cons_zero, List.set_cons_succ]
    obtain ⟨k0, k1, k2, k3, k4, k5⟩ := six_cellsO (HX1.out.heap_some HB2.out)
    have kf := frozen_of (HX1.out.heap_some HB2.out)
    have HPT := hid (six_setO (d0 := .bool M.ideal) (d1 := uv M.state) (d2 := .int .i64 (M.draws : Int)) (d3 := .slice qa qn qc) (d4 := .slice sa sn sc) (d5 := .slice pa pn pc) (HX1.out.heap_some HB2.out))
    clear HS
    refine wpT_step (by rw [hops, List.getElem?_toArray]; rfl) (by first | rfl | (rw [hops]; rfl)) ?_
    intro K hK
    go_wp2_with fail
    try (with_reducible refine ⟨fun h => absurd h (by decide), ?_⟩)
    try rw [wpT_nil]
    try clear hops ops
    go_wp2_with fail
    obtain ⟨hb9, hk9⟩ := HPT.out
    obtain ⟨r0, r1, r2, r3, r4, r5⟩ := six_cellsO hb9
    have hx9 := (HX0.out.trans HX1.out).kp hk9.drew (fun k h => by have := HN.out; subst h; omega)
    refine bodyPost_ret (v := .tuple #[.bool (false), oVal M.ideal M.state M.draws (.slice qa qn qc) (.slice sa sn sc) (.slice pa pn pc)]) (by simp [results, Try.results59, go_sem, r0, r1, r2, r3, r4, r5]) rfl ?_
    rw [HFIN.out]
    exact ⟨_, _, _, _, _, _, rfl, ⟨⟨_, _, _, rfl⟩, ⟨_, _, _, rfl⟩, ⟨_, _, _, rfl⟩⟩, hx9⟩
  | true =>
    obtain ⟨i0, hposs⟩ := possible_parts hpo
    obtain rfl := hposs.eq
    have HFIN := hid (show fitsP M.rpeek root n0 (i0 : Int) x = (walkP M.rpeek x.path i0 (16, x.salt :: x.leaf) == some root) by unfold fitsP; rw [hpo]; rfl)
    have HPO := hid hposs
    have hpl10 := hposs.l10
    have hb1 := HX1.out.heap_some HB1.out
    obtain ⟨x0, x1, x2⟩ : w1.cell? ⟨n + 1, 0, none⟩ = some (.slice la x.leaf.length lc) ∧ w1.cell? ⟨n + 1, 1, none⟩ = some (uv x.salt) ∧ w1.cell? ⟨n + 1, 2, none⟩ = some (.slice ta x.path.length tc) := ⟨cell_of hb1 0, cell_of hb1 1, cell_of hb1 2⟩
    have HSA := hid (rsalted_any _ x.salt x.leaf w1 (HL.out.ext (HX0.out.trans HX1.out)) (by omega))
    clear hpo hposs hb1
    go_wp2_with fail
    refine HSA.out.mono ?_
    rintro e w2 ⟨lv, rfl, hown, hx2, hnew⟩
    obtain ⟨ga, gc, rfl, -⟩ := ownsRow_rd hown
    have HV : Hid (VRel w0 w2 n M x i0 0 (16, x.salt :: x.leaf) (.slice ga (x.salt :: x.leaf).length gc) M (.slice qa qn qc) (.slice sa sn sc) (.slice pa pn pc)) := by
      have h0 : Ext w w2 := (HX0.out.trans HX1.out).trans hx2
      have hgt : ∀ k, (k = n ∨ k = n + 1 + 1) → w.heap.size ≤ k := by have := HN.out; intro k h; omega
      exact hid {
        box := (HX1.out.trans hx2).heap_some HB0.out
        st := HC.out.st0.grow (.of_ext h0) fun k h => .inr (hgt k h)
        rd := fun w' k' => OwnU.rdu (ownsRow_kp hown k' fun k h h' => by have := hnew k h; have := (heap_lt (HX1.out.heap_some HB2.out)); have := HZ0.out; have := HX1.out.size; omega)
        kp := .of_ext (HX1.out.trans hx2)
        id := rfl
        so := HS.out
        eq := fun _ => rfl
        qs := Nat.le_refl _
        dr := Nat.le_refl _
        el := HE.out.1
        ql := by show x.leaf.length + 1 ≤ _; omega
        kl := Nat.zero_le _
        wk := by simp }
    have HX2 := hid (HX1.out.trans hx2)
    clear hown hx2 hnew HSA x0 x1 x2
    go_wp2_with fail
    go_loopw [12, 13, 14] (fun lab lvv kv wr => ∃ (k : Nat) (q : UInt64 × List UInt64) (M' : Orc) (qv sv pv : Value), lab = uv q.1 ∧ kv = .int .i64 k ∧ Hid (VRel w0 wr n M x i0 k q lvv M' qv sv pv)) (fun _ _ kv _ => 64 - (intOf kv).toNat)
    case atStart => exact ⟨0, (16, x.salt :: x.leaf), M, _, _, _, rfl, rfl, HV.out⟩
    case round =>
      obtain ⟨k, q, M', qv2, sv2, pv2, rfl, rfl, HVR⟩ := hrel
      obtain ⟨⟨qa2, qn2, qc2, rfl⟩, ⟨sa2, sn2, sc2, rfl⟩, ⟨pa2, pn2, pc2, rfl⟩⟩ := HVR.out.st.now.sl
      have hrd := HVR.out.rd wr (Kp.refl _ _)
      have hkl := HVR.out.kl
      have hmq := HVR.out.qs
      have hmd := HVR.out.dr
      have hql := HVR.out.ql
      have hpk := oPeek_any (label := q.1) HVR.out.st.now hrd (by omega) (by omega) (fun q hq => by have := HVR.out.el q hq; omega)
      rw [rpeek_same HVR.out.id HVR.out.eq] at hpk
      have HPK := hid hpk
      have HHA := hid fun (v : World) (k' : Ext wr v) => oHash_any (G := fun k => k = n ∨ k = n + 1 + 1) (label := q.1) (HVR.out.st.ext k') (by
        have h1 := heap_lt (HVR.out.kp.heap_some (by omega) HB2.out)
        have h2 := k'.size
        rintro j (h | h) <;> omega) HVR.out.so (hrd.ext k') (by omega) (by omega) (fun q hq => by have := HVR.out.el q hq; omega) (by have := HE.out.2; omega)
      obtain ⟨lva, lvc, rfl, -⟩ := id hrd
      have HXW : Hid (Ext w wr) := hid (HX0.out.kp HVR.out.kp (fun k h => by have := HN.out; subst h; omega))
      have HBN := hid HVR.out.box
      have HBX := hid (HVR.out.kp.heap_some (by omega) HB1.out)
      have HBT := hid (HVR.out.kp.heap_some (by omega) HB2.out)
      have HW1 := hid (fun h => walkP_no (pk := M.rpeek) (l := x.path.drop k) (i := i0 / 2 ^ k) (q := q) h)
      have HW2 := hid (fun h => walkP_end (pk := M.rpeek) (i := i0 / 2 ^ k) (q := q) h)
      have HW3 := hid (fun pp rr h => walkP_go (pk := M.rpeek) (p := pp) (r := rr) (i := i0 / 2 ^ k) (q := q) h)
      have HRP : Hid ((M.rpeek q.1 q.2).1 = (M.rpeek q.1 q.2).1) := hid rfl
      obtain ⟨k0, k1, k2, k3, k4, k5⟩ := six_cellsO HBN.out
      clear hrd hpk
      generalize M.rpeek q.1 q.2 = r at *
      obtain ⟨ra, rb⟩ := r
      simp only at HW1 HW2 HW3
      go_wp2_with fail
      refine HPK.out.mono ?_
      rintro e w3 ⟨rfl, hx3⟩
      have HX3 := hid hx3
      clear hx3 k0 k1 k2 k3 k4 k5 HPK
      cases rb with
      | false =>
        have HFI := hid (show fitsP M.rpeek root n0 (i0 : Int) x = false by rw [HFIN.out, HVR.out.wk, HW1.out (by trivial)]; rfl)
        go_wp2_with fail
        have H6 : Hid (∀ v, Ext w3 v → v.cell? ⟨n, 0, none⟩ = some (.bool M'.ideal) ∧ v.cell? ⟨n, 1, none⟩ = some (uv M'.state) ∧ v.cell? ⟨n, 2, none⟩ = some (.int .i64 (M'.draws : Int)) ∧ v.cell? ⟨n, 3, none⟩ = some (.slice qa2 qn2 qc2) ∧ v.cell? ⟨n, 4, none⟩ = some (.slice sa2 sn2 sc2) ∧ v.cell? ⟨n, 5, none⟩ = some (.slice pa2 pn2 pc2)) := hid fun v k => six_cellsO (k.heap_some (HX3.out.heap_some HBN.out))
        refine wp_region_T (fun v => (v.cell? ⟨n, 0, none⟩ = some (.bool M'.ideal) ∧ v.cell? ⟨n, 1, none⟩ = some (uv M'.state) ∧ v.cell? ⟨n, 2, none⟩ = some (.int .i64 (M'.draws : Int)) ∧ v.cell? ⟨n, 3, none⟩ = some (.slice qa2 qn2 qc2) ∧ v.cell? ⟨n, 4, none⟩ = some (.slice sa2 sn2 sc2) ∧ v.cell? ⟨n, 5, none⟩ = some (.slice pa2 pn2 pc2)) ∧ Ext w3 v) 2 [(0, true), (1, true), (2, false)] (by kernel_rfl) (by kernel_rfl) (by intro c a d v w h; cases d <;> exact h) ?_
        intro ops hops
        have HS := keep0 H6.out
        iterate 2
          refine wpT_take (v := ?_) (by rw [hops, List.getElem?_toArray]; rfl) (by first | rfl | (rw [hops]; rfl)) ?_ HS ?_
          rotate_left
          · intro v h; go_simp; with_reducible rfl
          simp only [Act.put, List.getElem_toArray, List.getElem_cons_zero, List.getElem_cons_succ, List.setIfInBounds_toArray, List.set_cons_zero, List.set_cons_succ]
        obtain ⟨k0, k1, k2, k3, k4, k5⟩ := six_cellsO (HX3.out.heap_some HBT.out)
        have kf := frozen_of (HX3.out.heap_some HBT.out)
        have HPT := hid (six_setO (d0 := .bool M'.ideal) (d1 := uv M'.state) (d2 := .int .i64 (M'.draws : Int)) (d3 := .slice qa2 qn2 qc2) (d4 := .slice sa2 sn2 sc2) (d5 := .slice pa2 pn2 pc2) (HX3.out.heap_some HBT.out))
        clear HS
        refine wpT_step (by rw [hops, List.getElem?_toArray]; rfl) (by first | rfl | (rw [hops]; rfl)) ?_
        intro K hK
        go_wp2_with fail
        try (with_reducible refine ⟨fun h => absurd h (by decide), ?_⟩)
        try rw [wpT_nil]
        try clear hops ops
        go_wp2_with fail
        obtain ⟨hb9, hk9⟩ := HPT.out
        obtain ⟨r0, r1, r2, r3, r4, r5⟩ := six_cellsO hb9
        have hx9 := (HXW.out.trans HX3.out).kp hk9.drew (fun k h => by have := HN.out; subst h; omega)
        refine bodyPost_ret (v := .tuple #[.bool (false), oVal M'.ideal M'.state M'.draws (.slice qa2 qn2 qc2) (.slice sa2 sn2 sc2) (.slice pa2 pn2 pc2)]) (by simp [results, Try.results59, go_sem, r0, r1, r2, r3, r4, r5]) rfl ?_
        rw [HFI.out]
        exact ⟨_, _, _, _, _, _, rfl, ⟨⟨_, _, _, rfl⟩, ⟨_, _, _, rfl⟩, ⟨_, _, _, rfl⟩⟩, hx9⟩
      | true =>
        have e3 := HX3.out.heap_some HBN.out
        obtain ⟨c0, c1, c2, c3, c4, c5⟩ := six_cellsO e3
        cases hI : M'.ideal
        case' true =>
          rw [hI] at c0
          have HA : Hid (ARel w0 w3 n M k M' (.slice qa2 qn2 qc2) (.slice sa2 sn2 sc2) (.slice pa2 pn2 pc2)) := hid {
            box := e3
            st := HVR.out.st.ext HX3.out
            kp := HVR.out.kp.ext HX3.out
            m := ⟨HVR.out.id, HVR.out.so, HVR.out.eq, by omega, by omega, HVR.out.el⟩ }
          have HA2 : Hid (∃ M2 qa qn qc sa sn sc pa pn pc, ARel w0 w3 n M k M2 (.slice qa qn qc) (.slice sa sn sc) (.slice pa pn pc)) := hid ⟨_, _, _, _, _, _, _, _, _, _, HA.out⟩
          clear e3 hI HA
          go_upto_region 11 with fail
          clear c0 c1 c2 c3 c4 c5
          generalize w3 = w5 at *
        case' false =>
          have hh := HHA.out w3 HX3.out
          rw [hI] at c0 hh
          have HH := hid hh
          have hN : ARelM M k (M'.hash q.1 q.2).2 := {
            id := (hash_ideal _ _ _).trans HVR.out.id
            so := hash_sound HVR.out.so _ _
            eq := fun h => by rw [← HVR.out.id, hI] at h; cases h
            qs := by have := hash_qs_le M' q.1 q.2; omega
            dr := by have := hash_draws_le M' q.1 q.2; omega
            el := hash_elems HVR.out.el _ hql }
          have HNI := hid ((hash_ideal M' q.1 q.2).trans hI)
          have HNN := hid hN
          clear hI hh hN e3
          generalize M'.hash q.1 q.2 = r2 at *
          obtain ⟨rr, N⟩ := r2
          simp only at HH HNI HNN
          go_wp2_with fail
          refine HH.out.mono ?_
          rintro e w4 ⟨qv3, sv3, pv3, rfl, hc4, hx4⟩
          obtain ⟨⟨qa3, qn3, qc3, rfl⟩, ⟨sa3, sn3, sc3, rfl⟩, ⟨pa3, pn3, pc3, rfl⟩⟩ := hc4.now.sl
          have hb4 := (HX3.out.trans hx4).heap_some HBN.out
          obtain ⟨k0, k1, k2, k3, k4, k5⟩ := six_cellsO hb4
          have kf := frozen_of hb4
          obtain ⟨hb5, hk5⟩ := six_setO (d0 := .bool N.ideal) (d1 := uv N.state) (d2 := .int .i64 (N.draws : Int)) (d3 := .slice qa3 qn3 qc3) (d4 := .slice sa3 sn3 sc3) (d5 := .slice pa3 pn3 pc3) hb4
          have HA := hid (ARel.mk hb5 (hc4.grow (hk5.mono fun k _ h => .inl h) fun k h => .inl h) ((HVR.out.kp.ext (HX3.out.trans hx4)).trans hk5) HNN.out)
          clear hb4 hb5 hk5 hc4 hx4 c0 c1 c2 c3 c4 c5 HH
          go_upto_region 11 with fail
          clear k0 k1 k2 k3 k4 k5 kf
          have HA2 : Hid (∃ M2 qa qn qc sa sn sc pa pn pc, ARel w0 ((((((w4.setCell ⟨n, 0, none⟩ (.bool N.ideal)).setCell ⟨n, 1, none⟩ (.int .u64 (N.state.toNat : Int))).setCell ⟨n, 2, none⟩ (.int .i64 (N.draws : Int))).setCell ⟨n, 3, none⟩ (.slice qa3 qn3 qc3)).setCell ⟨n, 4, none⟩ (.slice sa3 sn3 sc3)).setCell ⟨n, 5, none⟩ (.slice pa3 pn3 pc3)) n M k M2 (.slice qa qn qc) (.slice sa sn sc) (.slice pa pn pc)) := hid ⟨_, _, _, _, _, _, _, _, _, _, HA.out⟩
          clear HA
          generalize ((((((w4.setCell ⟨n, 0, none⟩ (.bool N.ideal)).setCell ⟨n, 1, none⟩ (.int .u64 (N.state.toNat : Int))).setCell ⟨n, 2, none⟩ (.int .i64 (N.draws : Int))).setCell ⟨n, 3, none⟩ (.slice qa3 qn3 qc3)).setCell ⟨n, 4, none⟩ (.slice sa3 sn3 sc3)).setCell ⟨n, 5, none⟩ (.slice pa3 pn3 pc3)) = w5 at *
        all_goals
          obtain ⟨M2, qa3, qn3, qc3, sa3, sn3, sc3, pa3, pn3, pc3, hA⟩ := HA2.out
          have HA := hid hA
          have HX5 := hid (HX0.out.kp hA.kp (fun k h => by have := HN.out; subst h; omega))
          have hb5 := hA.kp.heap_some (by omega) HB1.out
          have HBT5 := hid (hA.kp.heap_some (by omega) HB2.out)
          have hx2c : w5.cell? ⟨n + 1, 2, none⟩ = some (.slice ta x.path.length tc) := cell_of hb5 2
          clear hA hb5 HA2
          by_cases hk : k = x.path.length
          case pos =>
            have hkB : ((k : Int) == (x.path.length : Int)) = true := by simp [hk]
            have HFI := hid (show fitsP M.rpeek root n0 (i0 : Int) x = (ra == root) by rw [HFIN.out, HVR.out.wk, hk, List.drop_length, ← hk, HW2.out (by trivial)]; rfl)
            have hre := u_eqv ra root
            clear hk
            go_wp2_with fail
            have H6 : Hid (∀ v, Ext w5 v → v.cell? ⟨n, 0, none⟩ = some (.bool M2.ideal) ∧ v.cell? ⟨n, 1, none⟩ = some (uv M2.state) ∧ v.cell? ⟨n, 2, none⟩ = some (.int .i64 (M2.draws : Int)) ∧ v.cell? ⟨n, 3, none⟩ = some (.slice qa3 qn3 qc3) ∧ v.cell? ⟨n, 4, none⟩ = some (.slice sa3 sn3 sc3) ∧ v.cell? ⟨n, 5, none⟩ = some (.slice pa3 pn3 pc3)) := hid fun v k => six_cellsO (k.heap_some HA.out.box)
            refine wp_region_T (fun v => (v.cell? ⟨n, 0, none⟩ = some (.bool M2.ideal) ∧ v.cell? ⟨n, 1, none⟩ = some (uv M2.state) ∧ v.cell? ⟨n, 2, none⟩ = some (.int .i64 (M2.draws : Int)) ∧ v.cell? ⟨n, 3, none⟩ = some (.slice qa3 qn3 qc3) ∧ v.cell? ⟨n, 4, none⟩ = some (.slice sa3 sn3 sc3) ∧ v.cell? ⟨n, 5, none⟩ = some (.slice pa3 pn3 pc3)) ∧ Ext w5 v) 5 [(0, true), (1, true), (2, true), (3, true), (4, true), (5, false)] (by kernel_rfl) (by kernel_rfl) (by intro c a d v w h; cases d <;> exact h) ?_
            intro ops hops
            have HS := keep0 H6.out
            iterate 5
              refine wpT_take (v := ?_) (by rw [hops, List.getElem?_toArray]; rfl) (by first | rfl | (rw [hops]; rfl)) ?_ HS ?_
              rotate_left
              · intro v h; go_simp; with_reducible rfl
              simp only [Act.put, List.getElem_toArray, List.getElem_cons_zero, List.getElem_cons_succ, List.setIfInBounds_toArray, List.set_cons_zero, List.set_cons_succ]
            obtain ⟨k0, k1, k2, k3, k4, k5⟩ := six_cellsO HBT5.out
            have kf := frozen_of HBT5.out
            have HPT := hid (six_setO (d0 := .bool M2.ideal) (d1 := uv M2.state) (d2 := .int .i64 (M2.draws : Int)) (d3 := .slice qa3 qn3 qc3) (d4 := .slice sa3 sn3 sc3) (d5 := .slice pa3 pn3 pc3) HBT5.out)
            clear HS
            refine wpT_step (by rw [hops, List.getElem?_toArray]; rfl) (by first | rfl | (rw [hops]; rfl)) ?_
            intro K hK
            go_wp2_with fail
            try (with_reducible refine ⟨fun h => absurd h (by decide), ?_⟩)
            try rw [wpT_nil]
            try clear hops ops
            go_wp2_with fail
            obtain ⟨hb9, hk9⟩ := HPT.out
            obtain ⟨r0, r1, r2, r3, r4, r5⟩ := six_cellsO hb9
            have hx9 := HX5.out.kp hk9.drew (fun k h => by have := HN.out; subst h; omega)
            refine bodyPost_ret (v := .tuple #[.bool (ra == root), oVal M2.ideal M2.state M2.draws (.slice qa3 qn3 qc3) (.slice sa3 sn3 sc3) (.slice pa3 pn3 pc3)]) (by simp [results, Try.results59, go_sem, r0, r1, r2, r3, r4, r5]) rfl ?_
            rw [HFI.out]
            exact ⟨_, _, _, _, _, _, rfl, ⟨⟨_, _, _, rfl⟩, ⟨_, _, _, rfl⟩, ⟨_, _, _, rfl⟩⟩, hx9⟩
          case neg =>
            have hkB : ((k : Int) == (x.path.length : Int)) = false := by simp; omega
            have hk2 : k < x.path.length := by omega
            obtain ⟨pp, hpp⟩ : ∃ pp, x.path[k]? = some pp := ⟨_, List.getElem?_eq_getElem hk2⟩
            have hdr : x.path.drop k = pp :: x.path.drop (k + 1) := by
              obtain ⟨hlt, he⟩ := List.getElem?_eq_some_iff.1 hpp
              rw [List.drop_eq_getElem_cons hlt, he]
            have HWK := hid (show walkP M.rpeek x.path i0 (16, x.salt :: x.leaf) = walkP M.rpeek (x.path.drop (k + 1)) (i0 / 2 ^ (k + 1)) (17, pairOf (i0 / 2 ^ k) ra pp) by rw [HVR.out.wk, hdr, HW3.out _ _ (by trivial), half_pow])
            obtain ⟨pb, po, rfl, hcp⟩ := (HP.out.ext HX5.out).uat hpp
            have hk3 : (k : Int) < (x.path.length : Int) := by omega
            have hk4 : (0 : Int) ≤ (k : Int) := by omega
            have H3 : Hid (∀ v, Ext w5 v → v.cell? ⟨n + 1, 2, none⟩ = some (.slice (some ⟨pb, po, none⟩) x.path.length tc) ∧ v.cell? ⟨pb, po + k, none⟩ = some (uv pp)) := hid fun v k' => ⟨k'.cell_some hx2c, k'.cell_some hcp⟩
            clear hpp hdr hk
            go_wp2_with fail
            refine wp_region_T (fun v => (v.cell? ⟨n + 1, 2, none⟩ = some (.slice (some ⟨pb, po, none⟩) x.path.length tc) ∧ v.cell? ⟨pb, po + k, none⟩ = some (uv pp)) ∧ Ext w5 v) 8 [(0, true), (1, true), (2, true), (3, true), (4, true), (5, true), (7, true), (6, false), (8, false)] (by kernel_rfl) (by kernel_rfl) (by intro c a d v w h; cases d <;> exact h) ?_
            intro ops hops
            have HS := keep0 H3.out
            iterate 7
              refine wpT_take (v := ?_) (by rw [hops, List.getElem?_toArray]; rfl) (by first | rfl | (rw [hops]; rfl)) ?_ HS ?_
              rotate_left
              · intro v h; go_simp; with_reducible rfl
              simp only [Act.put, List.getElem_toArray, List.getElem_cons_zero, List.getElem_cons_succ, List.setIfInBounds_toArray, List.set_cons_zero, List.set_cons_succ]
            have hx6 := (HS.2.alloc (.cells #[uv ra, uv pp] 28))
            have HS6 := keepE H3.out HS ((Ext.refl w5.drew).alloc (.cells #[uv ra, uv pp] 28))
            have HX6 := hid hx6
            have HB6 := hid (heap_new w5.drew (.cells #[uv ra, uv pp] 28))
            clear HS hx6
            refine wpT_step (by rw [hops, List.getElem?_toArray]; rfl) (by first | rfl | (rw [hops]; rfl)) ?_
            intro K hK
            go_wp2_with fail
            refine ⟨fun _ => HS6, ?_⟩
            refine wpT_step (by rw [hops, List.getElem?_toArray]; rfl) (by first | rfl | (rw [hops]; rfl)) ?_
            intro K hK
            go_wp2_with fail
            try (with_reducible refine ⟨fun h => absurd h (by decide), ?_⟩)
            try rw [wpT_nil]
            try clear hops ops
            have hbit := bit_rem i0 k HPO.out.j1024 (by omega)
            have hbit2 : (((i0 : Int) / 2 ^ k).tmod 2 == 1) = decide (i0 / 2 ^ k % 2 = 1) := by rw [← hbit, Nat.min_eq_left (by omega)]
            have hk10 : k ≤ 10 := by omega
            obtain ⟨x0, x1⟩ := H3.out _ ((Ext.refl w5).alloc (.cells #[uv ra, uv pp] 28))
            have H7 := hid (fun (v : World) (k' : Ext (w5.drew.alloc (.cells #[uv ra, uv pp] 28)) v) => H3.out v (HX6.out.trans k'))
            clear HS6 hx2c
            by_cases hpar : i0 / 2 ^ k % 2 = 1
            · rw [decide_eq_true hpar] at hbit hbit2
              have hpo : pairOf (i0 / 2 ^ k) ra pp = [pp, ra] := by unfold pairOf; rw [if_pos hpar]
              have hwk := HWK.out
              rw [hpo] at hwk
              have HWK2 := hid hwk
              clear hpar hpo hwk
              go_wp2_with fail
              go_roundw
              case rel =>
                exact ⟨k + 1, (17, [pp, ra]), M2, _, _, _, rfl, by go_num, hid (HA.out.next (x := x) (i0 := i0) (((Ext.refl w5).alloc (.cells #[uv ra, uv pp] 28)).alloc (.cells #[uv pp, uv ra] 28)).drew (by have := HBT5.out; have := heap_lt this; omega) (g := w5.heap.size + 1) (by omega) ((Ext.refl ((w5.alloc (.cells #[uv ra, uv pp] 28)).alloc (.cells #[uv pp, uv ra] 28))).drew.heap_some (heap_at (w := w5.alloc (.cells #[uv ra, uv pp] 28)) (.cells #[uv pp, uv ra] 28) trivial (by simp))) HWK2.out (by omega))⟩
              case measure => simp [intOf]; omega
            · rw [decide_eq_false hpar] at hbit hbit2
              have hpo : pairOf (i0 / 2 ^ k) ra pp = [ra, pp] := by unfold pairOf; rw [if_neg hpar]
              have hwk := HWK.out
              rw [hpo] at hwk
              have HWK2 := hid hwk
              clear hpar hpo hwk
              go_wp2_with fail
              go_roundw
              case rel =>
                exact ⟨k + 1, (17, [ra, pp]), M2, _, _, _, rfl, by go_num, hid (HA.out.next (x := x) (i0 := i0) HX6.out (by have := HBT5.out; have := heap_lt this; omega) (Nat.le_refl _) HB6.out HWK2.out (by omega))⟩
              case measure => simp [intOf]; omega
end Go.Proofs.Ytdpgfjnpcjpdpaa
