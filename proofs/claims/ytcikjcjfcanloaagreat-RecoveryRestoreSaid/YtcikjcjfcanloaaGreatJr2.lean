/- Texts of this claim, joined: Permute, Sponge. -/
import Derived.Deep.DeepCutAuto
import Derived.Test.YtcikjcjfcanloaaGreatJr1
set_option linter.unusedSimpArgs false
namespace Go.Proofs.YtcikjcjfcanloaaGreat
open Go.RowKit
structure S3 where
  a : UInt64
  b : UInt64
  c : UInt64
def pConst (r i : Nat) : UInt64 := fRed (UInt64.ofNat (3 * r + i + 1) * 11400714819323198485)
def pSum (s : S3) : UInt64 := fAdd (fAdd s.a s.b) s.c
def pMix (s : S3) : S3 := ⟨fAdd s.a (pSum s), fAdd s.b (pSum s), fAdd s.c (pSum s)⟩
def pBox (r i : Nat) (x : UInt64) : UInt64 := fPow (fAdd x (pConst r i)) 7
def pRound (r : Nat) (s : S3) : S3 := pMix ⟨pBox r 0 s.a, pBox r 1 s.b, pBox r 2 s.c⟩
def pRounds : Nat → S3 → S3
  | 0, s => s
  | n + 1, s => pRound n (pRounds n s)
def perm (s : S3) : S3 := pRounds 8 s
abbrev S3.v (s : S3) : Value := .agg #[.int .u64 s.a.toNat, .int .u64 s.b.toNat, .int .u64 s.c.toNat]
theorem pConst_arg (r i : Nat) (hr : r < 8) (hi : i < 3) : IntKind.u64.wrap ((3 * (r : Int) + (i : Int) + 1) * 11400714819323198485) = ((UInt64.ofNat (3 * r + i + 1) * 11400714819323198485).toNat : Int) := by
  rw [IntKind.wrap_u64, UInt64.toNat_mul, toNat_ofNat_lt (by omega)]
  show _ = (((3 * r + i + 1) * 11400714819323198485 % 18446744073709551616 : Nat) : Int)
  omega
set_option maxRecDepth 100000 in
set_option maxHeartbeats 400000 in
theorem Constant_any (p : Int) (hp : IsBig p) (r i : Nat) (hr : r < 8) (hi : i < 3) (w : World) :
    Calls Tryz.prog 191 #[.int .u64 p, .int .i64 r, .int .i64 i] w fun e w' => e = .returned (.int .u64 (pConst r i).toNat) ∧ Ext w w' := by
  have harg := pConst_arg r i hr hi
  unfold pConst
  generalize UInt64.ofNat (3 * r + i + 1) * 11400714819323198485 = x at *
  go_enter Tryz.func191, Tryz.ntmps191
  go_wp2_with fail
  refine (Reduce_any p hp x _).mono ?_
  rintro e w1 ⟨rfl, hb⟩
  go_wp2
  go_ret
  exact ⟨rfl, hb⟩
def MixC (n : Nat) (s : S3) (p : Int) (v : World) : Prop :=
  v.cell? ⟨n, 0, none⟩ = some (.int .u64 s.a.toNat) ∧ v.cell? ⟨n, 1, none⟩ = some (.int .u64 s.b.toNat) ∧ v.cell? ⟨n, 2, none⟩ = some (.int .u64 s.c.toNat) ∧ v.cell? ⟨n + 1 + 1, 0, none⟩ = some (.int .u64 p)
theorem MixC.ow {n m : Nat} {s : S3} {p : Int} {T : TypeId} {w v : World} (h : MixC n s p w) (k : Ow (n + 1) m T w v) : MixC n s p v :=
  ⟨k.kp.cell_some (by omega) h.1, k.kp.cell_some (by omega) h.2.1, k.kp.cell_some (by omega) h.2.2.1, k.kp.cell_some (by omega) h.2.2.2⟩
/-- A block of three cells, written whole. -/
theorem set3 {b : Nat} {T : TypeId} {w0 W : World} {x y z : Value} (h : Ow b 3 T w0 (((W.setCell ⟨b, 0, none⟩ x).setCell ⟨b, 1, none⟩ y).setCell ⟨b, 2, none⟩ z)) :
    (((W.setCell ⟨b, 0, none⟩ x).setCell ⟨b, 1, none⟩ y).setCell ⟨b, 2, none⟩ z).heap[b]? = some (.cells #[x, y, z] T (0, 0)) := by
  obtain ⟨cs, h1, h2⟩ := h.mine
  rw [h1]
  cases hW : W.heap[b]? with
  | none => simp [World.setCell, Array.getElem?_modify, hW] at h1
  | some o =>
    cases o <;> simp [World.setCell, Array.getElem?_modify, hW] at h1
    rename_i c0 T0 fz
    obtain ⟨e1, e2, e3⟩ := h1
    subst e2 e3
    have hc : c0.size = 3 := by rw [← e1] at h2; simpa using h2
    rw [← e1]
    congr 2
    apply Array.ext
    · simp [hc]
    · intro i hi1 hi2
      simp at hi2
      have : i = 0 ∨ i = 1 ∨ i = 2 := by omega
      rcases this with rfl | rfl | rfl <;> simp [hc]
set_option maxHeartbeats 1000000 in
theorem Mix_any (p : Int) (hp : IsBig p) (s : S3) (w : World) :
    Calls Tryz.prog 192 #[.int .u64 p, s.v] w fun e w' => e = .returned (pMix s).v ∧ Ext w w' := by
  go_enter Tryz.func192, Tryz.ntmps192
  go_wp2_with fail
  have hE : Ext w (((w.alloc (.cells #[.int .u64 s.a.toNat, .int .u64 s.b.toNat, .int .u64 s.c.toNat] 160)).alloc (.cells #[.int .u64 0, .int .u64 0, .int .u64 0] 160)).alloc (.cells #[.int .u64 p] 202)) :=
    (((Ext.refl _).alloc _).alloc _).alloc _
  have hz : w.heap.size + 1 < (((w.alloc (.cells #[.int .u64 s.a.toNat, .int .u64 s.b.toNat, .int .u64 s.c.toNat] 160)).alloc (.cells #[.int .u64 0, .int .u64 0, .int .u64 0] 160)).alloc (.cells #[.int .u64 p] 202)).heap.size := by simp
  have hr : (((w.alloc (.cells #[.int .u64 s.a.toNat, .int .u64 s.b.toNat, .int .u64 s.c.toNat] 160)).alloc (.cells #[.int .u64 0, .int .u64 0, .int .u64 0] 160)).alloc (.cells #[.int .u64 p] 202)).heap[w.heap.size + 1]? = some (.cells #[.int .u64 0, .int .u64 0, .int .u64 0] 160 (0, 0)) := by
    refine heap_alloc_some ?_
    have := heap_new (w.alloc (.cells #[.int .u64 s.a.toNat, .int .u64 s.b.toNat, .int .u64 s.c.toNat] 160)) (.cells #[.int .u64 0, .int .u64 0, .int .u64 0] 160)
    simpa using this
  have H : Hid (∀ v, Ext (((w.alloc (.cells #[.int .u64 s.a.toNat, .int .u64 s.b.toNat, .int .u64 s.c.toNat] 160)).alloc (.cells #[.int .u64 0, .int .u64 0, .int .u64 0] 160)).alloc (.cells #[.int .u64 p] 202)) v → MixC w.heap.size s p v) :=
    by unfold Hid; intro v k; refine ⟨k.cell_some ?_, k.cell_some ?_, k.cell_some ?_, k.cell_some ?_⟩ <;> simp [go_sem]
  generalize (((w.alloc (.cells #[.int .u64 s.a.toNat, .int .u64 s.b.toNat, .int .u64 s.c.toNat] 160)).alloc (.cells #[.int .u64 0, .int .u64 0, .int .u64 0] 160)).alloc (.cells #[.int .u64 p] 202)) = w0 at *
  have HR := hid hr
  clear hr
  go_region_held3 (fun v => (v.cell? ⟨w.heap.size, 0, none⟩ = some (.int .u64 s.a.toNat) ∧ v.cell? ⟨w.heap.size, 1, none⟩ = some (.int .u64 s.b.toNat) ∧ v.cell? ⟨w.heap.size, 2, none⟩ = some (.int .u64 s.c.toNat) ∧ v.cell? ⟨w.heap.size + 1 + 1, 0, none⟩ = some (.int .u64 p)) ∧ Ext w0 v)
    (first | exact keep0 H.out | exact keepE H.out ‹_ ∧ _› hb2)
    (first | (go_at_call_of 177 (Value.int .u64 s.a.toNat); refine (Add_any p hp s.a s.b _).mono ?_; rintro e w2 ⟨rfl, hb2⟩)
           | (go_at_call_of 177 (Value.int .u64 s.c.toNat); refine (Add_any p hp (fAdd s.a s.b) s.c _).mono ?_; rintro e w2 ⟨rfl, hb2⟩))
  have E2 := And.right ‹_ ∧ _›
  have O2 : Ow (w.heap.size + 1) 3 160 w2 w2 := Ow.start (E2.heap_some HR.out) rfl
  have H2 : Hid (∀ v, Ow (w.heap.size + 1) 3 160 w2 v → MixC w.heap.size s p v) := fun v k => (H.out w2 E2).ow k
  clear ‹_ ∧ Ext w0 _›
  have f0 : ∀ v, Ow (w.heap.size + 1) 3 160 w2 v → v.cell? ⟨w.heap.size + 1, 0, none⟩ = some (getC v (w.heap.size + 1) 0) := fun v k => k.cell 0 (by omega)
  have f1 : ∀ v, Ow (w.heap.size + 1) 3 160 w2 v → v.cell? ⟨w.heap.size + 1, 1, none⟩ = some (getC v (w.heap.size + 1) 1) := fun v k => k.cell 1 (by omega)
  have f2 : ∀ v, Ow (w.heap.size + 1) 3 160 w2 v → v.cell? ⟨w.heap.size + 1, 2, none⟩ = some (getC v (w.heap.size + 1) 2) := fun v k => k.cell 2 (by omega)
  have ff : ∀ v, Ow (w.heap.size + 1) 3 160 w2 v → ∀ i, v.frozen? ⟨w.heap.size + 1, i, none⟩ = false := fun v k i => k.frozen i
  go_wp2_with fail
  go_region_held3 (fun v => (v.cell? ⟨w.heap.size, 0, none⟩ = some (.int .u64 s.a.toNat) ∧ v.cell? ⟨w.heap.size, 1, none⟩ = some (.int .u64 s.b.toNat) ∧ v.cell? ⟨w.heap.size, 2, none⟩ = some (.int .u64 s.c.toNat) ∧ v.cell? ⟨w.heap.size + 1 + 1, 0, none⟩ = some (.int .u64 p)) ∧ Ow (w.heap.size + 1) 3 160 w2 v)
    (first | exact keepOs H2.out O2.drew | exact keepO H2.out ‹_ ∧ _› hb2 | exact keepOs H2.out (((Ow.setCell (And.right ‹_ ∧ _›) _ _).setCell _ _).setCell _ _))
    (first | (go_at_call_of 177 (Value.int .u64 s.a.toNat); refine (Add_any p hp s.a _ _).mono ?_; rintro e w2 ⟨rfl, hb2⟩)
           | (go_at_call_of 177 (Value.int .u64 s.b.toNat); refine (Add_any p hp s.b _ _).mono ?_; rintro e w2 ⟨rfl, hb2⟩)
           | (go_at_call_of 177 (Value.int .u64 s.c.toNat); refine (Add_any p hp s.c _ _).mono ?_; rintro e w2 ⟨rfl, hb2⟩))
  have O3 := And.right ‹_ ∧ _›
  have hB := set3 O3
  have r0 := cell_of hB 0
  have r1 := cell_of hB 1
  have r2 := cell_of hB 2
  have hfin := (hE.trans E2).kp O3.kp (by intro k hk; omega)
  clear f0 f1 f2 ff
  go_wp2
  exact bodyPost_ret (v := (pMix s).v) (by simp [results, Tryz.results192, go_sem, r0, r1, r2, pMix, pSum]) rfl ⟨rfl, hfin⟩
end Go.Proofs.YtcikjcjfcanloaaGreat
namespace Go.Proofs.YtcikjcjfcanloaaGreat
open Go.RowKit
def pPart (r : Nat) : Nat → S3 → S3
  | 0, s => s
  | 1, s => ⟨pBox r 0 s.a, s.b, s.c⟩
  | 2, s => ⟨pBox r 0 s.a, pBox r 1 s.b, s.c⟩
  | _, s => ⟨pBox r 0 s.a, pBox r 1 s.b, pBox r 2 s.c⟩
def S3.get (s : S3) : Nat → UInt64
  | 0 => s.a
  | 1 => s.b
  | _ => s.c
abbrev S3.arr (s : S3) : Array Value := #[.int .u64 s.a.toNat, .int .u64 s.b.toNat, .int .u64 s.c.toNat]
theorem cells3 (s : S3) (i : Nat) (h : i < 3) : s.arr[i]? = some (.int .u64 (s.get i).toNat) := by
  have : i = 0 ∨ i = 1 ∨ i = 2 := by omega
  rcases this with rfl | rfl | rfl <;> rfl
theorem part_succ {T : TypeId} (r i : Nat) (s : S3) (h : i < 3) (x : UInt64) (hx : x = (pPart r i s).get i) :
    Obj.cells ((pPart r i s).arr.setIfInBounds i (.int .u64 (fPow (fAdd x (pConst r i)) 7).toNat)) T (0, 0) = Obj.cells (pPart r (i + 1) s).arr T (0, 0) := by
  have : i = 0 ∨ i = 1 ∨ i = 2 := by omega
  rcases this with rfl | rfl | rfl <;> (subst hx; simp [pPart, S3.get, S3.arr, pBox])
set_option maxHeartbeats 2000000 in
theorem Permute_any (p : Int) (hp : IsBig p) (s : S3) (w : World) :
    Calls Tryz.prog 179 #[.int .u64 p, s.v] w fun e w' => e = .returned (perm s).v ∧ Ext w w' := by
  go_enter Tryz.func179, Tryz.ntmps179
  go_wp2_with fail
  have hE : Ext w (((w.alloc (.cells #[.int .u64 s.a.toNat, .int .u64 s.b.toNat, .int .u64 s.c.toNat] 160)).alloc (.cells #[.int .u64 0, .int .u64 0, .int .u64 0] 160)).alloc (.cells #[.int .u64 p] 202)) :=
    (((Ext.refl _).alloc _).alloc _).alloc _
  have hr0 : (((w.alloc (.cells #[.int .u64 s.a.toNat, .int .u64 s.b.toNat, .int .u64 s.c.toNat] 160)).alloc (.cells #[.int .u64 0, .int .u64 0, .int .u64 0] 160)).alloc (.cells #[.int .u64 p] 202)).heap[w.heap.size]? = some (.cells #[.int .u64 s.a.toNat, .int .u64 s.b.toNat, .int .u64 s.c.toNat] 160 (0, 0)) :=
    heap_alloc_some (heap_alloc_some (heap_new _ _))
  have hr1 : (((w.alloc (.cells #[.int .u64 s.a.toNat, .int .u64 s.b.toNat, .int .u64 s.c.toNat] 160)).alloc (.cells #[.int .u64 0, .int .u64 0, .int .u64 0] 160)).alloc (.cells #[.int .u64 p] 202)).heap[w.heap.size + 1]? = some (.cells #[.int .u64 0, .int .u64 0, .int .u64 0] 160 (0, 0)) := by
    refine heap_alloc_some ?_
    have := heap_new (w.alloc (.cells #[.int .u64 s.a.toNat, .int .u64 s.b.toNat, .int .u64 s.c.toNat] 160)) (.cells #[.int .u64 0, .int .u64 0, .int .u64 0] 160)
    simpa using this
  have hr2 : (((w.alloc (.cells #[.int .u64 s.a.toNat, .int .u64 s.b.toNat, .int .u64 s.c.toNat] 160)).alloc (.cells #[.int .u64 0, .int .u64 0, .int .u64 0] 160)).alloc (.cells #[.int .u64 p] 202)).heap[w.heap.size + 1 + 1]? = some (.cells #[.int .u64 p] 202 (0, 0)) := by
    have := heap_new ((w.alloc (.cells #[.int .u64 s.a.toNat, .int .u64 s.b.toNat, .int .u64 s.c.toNat] 160)).alloc (.cells #[.int .u64 0, .int .u64 0, .int .u64 0] 160)) (.cells #[.int .u64 p] 202)
    simpa using this
  generalize (((w.alloc (.cells #[.int .u64 s.a.toNat, .int .u64 s.b.toNat, .int .u64 s.c.toNat] 160)).alloc (.cells #[.int .u64 0, .int .u64 0, .int .u64 0] 160)).alloc (.cells #[.int .u64 p] 202)) = w0 at *
  generalize hn : w.heap.size = n at *
  have hc2 : w0.cell? ⟨n + 1 + 1, 0, none⟩ = some (.int .u64 p) := cell_of hr2 0
  go_wp2_with fail
  refine (valid_any p hp _).mono ?_
  rintro e w1 ⟨rfl, hb1⟩
  have hc3 := hb1.cell_some hc2
  clear hc2
  go_wp2_with fail
  refine (Exponent_any p hp _).mono ?_
  rintro e w2 ⟨rfl, hb2⟩
  have R0 := hid (hb2.heap_some (hb1.heap_some hr0))
  have R1 := hid (hb2.heap_some (hb1.heap_some hr1))
  have R2 := hid (hb2.heap_some (hb1.heap_some hr2))
  have E2 := hid ((hE.trans hb1).trans hb2)
  have HN := hid hn
  clear hc3 hb1 hb2 hr0 hr1 hr2 hE hn
  go_wp2_with fail
  go_loopw [17] (fun rv wr => ∃ r : Nat, r ≤ 8 ∧ rv = .int .i64 r ∧ wr.heap[n]? = some (.cells #[.int .u64 (pRounds r s).a.toNat, .int .u64 (pRounds r s).b.toNat, .int .u64 (pRounds r s).c.toNat] 160 (0, 0)) ∧ Kp (fun k => k = n) w2 wr) (fun rv _ => (8 - intOf rv).toNat)
  case atStart => exact ⟨0, by omega, rfl, R0.out, Kp.refl _ _⟩
  case round =>
    obtain ⟨r, hr8, rfl, hB, hK⟩ := hrel
    by_cases hlt : r < 8
    · have hltB : decide ((r : Int) < 8) = true := by simp; omega
      have HB := hid hB
      have HK := hid hK
      clear hB hK
      go_wp2
      obtain ⟨wo, rfl⟩ : ∃ wo : World, wo = wr := ⟨_, rfl⟩
      obtain ⟨s1, hs1⟩ : ∃ s1, s1 = pRounds r s := ⟨_, rfl⟩
      rw [← hs1] at HB
      have HS1' := hid hs1
      clear hs1
      go_loopw [20] (fun iv wr => ∃ i : Nat, i ≤ 3 ∧ iv = .int .i64 i ∧ wr.heap[n]? = some (.cells #[.int .u64 (pPart r i s1).a.toNat, .int .u64 (pPart r i s1).b.toNat, .int .u64 (pPart r i s1).c.toNat] 160 (0, 0)) ∧ Kp (fun k => k = n) w2 wr) (fun iv _ => (3 - intOf iv).toNat)
      case atStart => exact ⟨0, by omega, rfl, HB.out, HK.out⟩
      case round =>
        obtain ⟨i, hi3, rfl, hB, hK⟩ := hrel
        by_cases hlt2 : i < 3
        · have c2 : wr.cell? ⟨n + 1 + 1, 0, none⟩ = some (.int .u64 p) := hK.cell_some (by omega) (cell_of R2.out 0)
          have E1 : Ext wr wr := Ext.refl _
          have hr8' : r < 8 := hlt
          have K2 : ∀ v, Ext wr v → v.cell? ⟨n + 1 + 1, 0, none⟩ = some (.int .u64 p) := fun v k => k.cell_some c2
          have HK := hid hK
          have F2 : ∀ v, Ext wr v → ∀ i, v.frozen? ⟨n, i, none⟩ = false := fun v k => frozen_of (k.heap_some hB)
          have hi2 : ((i : Int)).toNat = i := by omega
          obtain ⟨x, hx⟩ : ∃ x, x = (pPart r i s1).get i := ⟨_, rfl⟩
          have C0 : ∀ v, Ext wr v → v.cell? ⟨n, i, none⟩ = some (.int .u64 x.toNat) := fun v k => by
            rw [cell_of (k.heap_some hB) i, hx]
            exact cells3 _ i hlt2
          have HX := hid hx
          have HB := hid hB
          have hi0 : (0 : Int) ≤ (i : Int) := by omega
          have hi3' : (i : Int) < 3 := by omega
          clear c2 hlt hr8 hi3 hK hB hx
          go_wp2_with fail
          refine wp_region_T (fun v => (v.cell? ⟨n, i, none⟩ = some (.int .u64 x.toNat) ∧ v.cell? ⟨n + 1 + 1, 0, none⟩ = some (.int .u64 p)) ∧ Ext wr v) 13 [(0, true), (1, true), (2, true), (3, true), (4, true), (5, true), (6, true), (7, true), (8, true), (11, true), (9, false), (10, false), (12, false), (13, false), (14, false)] (by kernel_rfl) (by kernel_rfl) (by intro c a d v w h; cases d <;> exact h) ?_
          intro ops hops
          have HS : (wr.drew.cell? ⟨n, i, none⟩ = some (.int .u64 x.toNat) ∧ wr.drew.cell? ⟨n + 1 + 1, 0, none⟩ = some (.int .u64 p)) ∧ Ext wr wr.drew := ⟨⟨C0 _ (Ext.refl _).drew, K2 _ (Ext.refl _).drew⟩, (Ext.refl _).drew⟩
          iterate 10
            refine wpT_take (v := ?_) (by rw [hops, List.getElem?_toArray]; rfl) (by first | rfl | (rw [hops]; rfl)) ?_ HS ?_
            rotate_left
            · intro v h; go_simp; with_reducible rfl
            simp only [Act.put, List.getElem_toArray, List.getElem_cons_zero, List.getElem_cons_succ, List.setIfInBounds_toArray, List.set_cons_zero, List.set_cons_succ]
          refine wpT_step (by rw [hops, List.getElem?_toArray]; rfl) (by first | rfl | (rw [hops]; rfl)) ?_
          intro K hK
          go_wp2_with fail
          refine (Constant_any p hp r i hr8' hlt2 _).mono ?_
          rintro e v1 ⟨rfl, hb1⟩
          have HS1 : (v1.cell? ⟨n, i, none⟩ = some (.int .u64 x.toNat) ∧ v1.cell? ⟨n + 1 + 1, 0, none⟩ = some (.int .u64 p)) ∧ Ext wr v1 := ⟨⟨C0 _ (HS.2.trans hb1), K2 _ (HS.2.trans hb1)⟩, HS.2.trans hb1⟩
          refine hK _ _ ⟨fun _ => HS1, ?_⟩
          clear hK K
          refine wpT_step (by rw [hops, List.getElem?_toArray]; rfl) (by first | rfl | (rw [hops]; rfl)) ?_
          intro K hK
          go_wp2_with fail
          refine (Add_any p hp x (pConst r i) _).mono ?_
          rintro e v2 ⟨rfl, hb2⟩
          have HS2 : (v2.cell? ⟨n, i, none⟩ = some (.int .u64 x.toNat) ∧ v2.cell? ⟨n + 1 + 1, 0, none⟩ = some (.int .u64 p)) ∧ Ext wr v2 := ⟨⟨C0 _ (HS1.2.trans hb2), K2 _ (HS1.2.trans hb2)⟩, HS1.2.trans hb2⟩
          refine hK _ _ ⟨fun _ => HS2, ?_⟩
          clear hK K
          refine wpT_step (by rw [hops, List.getElem?_toArray]; rfl) (by first | rfl | (rw [hops]; rfl)) ?_
          intro K hK
          go_wp2_with fail
          refine (Pow_any p hp (fAdd x (pConst r i)) 7 _).mono ?_
          rintro e v3 ⟨rfl, hb3⟩
          have HS3 : (v3.cell? ⟨n, i, none⟩ = some (.int .u64 x.toNat) ∧ v3.cell? ⟨n + 1 + 1, 0, none⟩ = some (.int .u64 p)) ∧ Ext wr v3 := ⟨⟨C0 _ (HS2.2.trans hb3), K2 _ (HS2.2.trans hb3)⟩, HS2.2.trans hb3⟩
          refine hK _ _ ⟨fun _ => HS3, ?_⟩
          clear hK K
          refine wpT_step (by rw [hops, List.getElem?_toArray]; rfl) (by first | rfl | (rw [hops]; rfl)) ?_
          intro K hK
          go_wp2_with fail
          refine ⟨fun h => absurd h (by decide), ?_⟩
          have hf := F2 v3 HS3.2 i
          have hc := HS3.1.1
          refine wpT_step (by rw [hops, List.getElem?_toArray]; rfl) (by first | rfl | (rw [hops]; rfl)) ?_
          intro K hK
          go_wp2_with fail
          refine ⟨fun h => absurd h (by decide), ?_⟩
          rw [wpT_nil]
          clear hops ops
          have E3 := HS3.2
          clear hb1 hb2 hb3 HS HS1 HS2 HS3 E1 K2 F2 C0 hf hc
          go_wp2
          go_roundw
          case rel =>
            refine ⟨i + 1, by omega, by go_num, ?_, ?_⟩
            · rw [heap_setCell_same (E3.heap_some HB.out) i _, part_succ r i s1 hlt2 x HX.out]
            · exact (HK.out.ext E3).setCell (.inl rfl) _
          case measure => simp [intOf]; omega
        · have hi3'' : i = 3 := by omega
          subst hi3''
          have c0 : wr.cell? ⟨n, 0, none⟩ = some (.int .u64 (pPart r 3 s1).a.toNat) := cell_of hB 0
          have c1 : wr.cell? ⟨n, 1, none⟩ = some (.int .u64 (pPart r 3 s1).b.toNat) := cell_of hB 1
          have c2 : wr.cell? ⟨n, 2, none⟩ = some (.int .u64 (pPart r 3 s1).c.toNat) := cell_of hB 2
          have HB := hid hB
          have HK := hid hK
          obtain ⟨s2, hs2⟩ : ∃ s2, s2 = pPart r 3 s1 := ⟨_, rfl⟩
          rw [← hs2] at c0 c1 c2 HB
          have HS2 := hid hs2
          clear hB hK hs2
          go_wp2_with fail
          refine (Mix_any p hp s2 _).mono ?_
          rintro e v1 ⟨rfl, hb1⟩
          have HB1 := hb1.heap_some HB.out
          have d0 : v1.cell? ⟨n, 0, none⟩ = some (.int .u64 s2.a.toNat) := cell_of HB1 0
          have d1 : v1.cell? ⟨n, 1, none⟩ = some (.int .u64 s2.b.toNat) := cell_of HB1 1
          have d2 : v1.cell? ⟨n, 2, none⟩ = some (.int .u64 s2.c.toNat) := cell_of HB1 2
          have df : ∀ i, v1.frozen? ⟨n, i, none⟩ = false := fun i => frozen_of HB1 i
          have HB2 := hid HB1
          clear c0 c1 c2 HB1
          go_wp2
          go_roundw
          case rel =>
            refine ⟨r + 1, by omega, by go_num, ?_, ?_⟩
            · rw [heap_setCell_same (heap_setCell_same (heap_setCell_same HB2.out 0 _) 1 _) 2 _]
              have e : pRounds (r + 1) s = pMix s2 := by rw [HS2.out, HS1'.out]; rfl
              rw [e]; rfl
            · exact (((HK.out.ext hb1).setCell (.inl rfl) _).setCell (.inl rfl) _).setCell (.inl rfl) _
          case measure => simp [intOf]; omega
    · have hr : r = 8 := by omega
      subst hr
      have c0 : wr.cell? ⟨n, 0, none⟩ = some (.int .u64 (pRounds 8 s).a.toNat) := cell_of hB 0
      have c1 : wr.cell? ⟨n, 1, none⟩ = some (.int .u64 (pRounds 8 s).b.toNat) := cell_of hB 1
      have c2 : wr.cell? ⟨n, 2, none⟩ = some (.int .u64 (pRounds 8 s).c.toNat) := cell_of hB 2
      have HR := hK.heap_some (by omega) R1.out
      have d0 : wr.cell? ⟨n + 1, 0, none⟩ = some (.int .u64 0) := cell_of HR 0
      have d1 : wr.cell? ⟨n + 1, 1, none⟩ = some (.int .u64 0) := cell_of HR 1
      have d2 : wr.cell? ⟨n + 1, 2, none⟩ = some (.int .u64 0) := cell_of HR 2
      have df : ∀ i, wr.frozen? ⟨n + 1, i, none⟩ = false := fun i => frozen_of HR i
      have HK := hid hK
      have HR' := hid HR
      clear hB hK HR
      go_wp2
      have hB3 := heap_setCell_same (heap_setCell_same (heap_setCell_same HR'.out 0 (.int .u64 (pRounds 8 s).a.toNat)) 1 (.int .u64 (pRounds 8 s).b.toNat)) 2 (.int .u64 (pRounds 8 s).c.toNat)
      have r0 := cell_of hB3 0
      have r1 := cell_of hB3 1
      have r2 := cell_of hB3 2
      have hfin := E2.out.kp ((((HK.out.mono (G := fun k => k = n ∨ k = n + 1) (fun _ _ h => .inl h)).setCell (p := ⟨n + 1, 0, none⟩) (.inl (.inr rfl)) (.int .u64 (pRounds 8 s).a.toNat)).setCell (p := ⟨n + 1, 1, none⟩) (.inl (.inr rfl)) (.int .u64 (pRounds 8 s).b.toNat)).setCell (p := ⟨n + 1, 2, none⟩) (.inl (.inr rfl)) (.int .u64 (pRounds 8 s).c.toNat)) (by intro k hk; have := HN.out; omega)
      exact bodyPost_ret (v := (perm s).v) (by simp [results, Tryz.results179, go_sem, r0, r1, r2, perm]) rfl ⟨rfl, hfin⟩
end Go.Proofs.YtcikjcjfcanloaaGreat
namespace Go.Proofs.YtcikjcjfcanloaaGreat
open Go.RowKit
/-- The slice value v reads as the list l of numbers. -/
def RdU (w : World) (v : Value) (l : List UInt64) : Prop :=
  ∃ a c, v = .slice a l.length c ∧ l.length ≤ c ∧ c ≤ maxLen ∧ (a = none → c = 0) ∧
    ∀ ad, a = some ad → ad.spot = none ∧ ∀ i x, l[i]? = some x → w.cell? ⟨ad.block, ad.off + i, none⟩ = some (.int .u64 x.toNat)
attribute [local irreducible] perm fAdd fMul fPow fSub fNeg fRed
def labelOf (label : UInt64) (n : Nat) : UInt64 := fAdd (fMul label 65536) (UInt64.ofNat n)
def absorbAll : S3 → List UInt64 → S3
  | s, [] => s
  | s, [x] => perm ⟨fAdd s.a x, s.b, s.c⟩
  | s, x :: y :: r => absorbAll (perm ⟨fAdd s.a x, fAdd s.b y, s.c⟩) r
def sponge (label : UInt64) (l : List UInt64) : S3 :=
  if l = [] then perm ⟨0, 0, labelOf label 0⟩ else absorbAll ⟨0, 0, labelOf label l.length⟩ l
def hashU (label : UInt64) (l : List UInt64) : UInt64 := (sponge label l).a
theorem zero3 {v v' : World} {T : TypeId} (h : Ext (v.alloc (.cells #[.int .u64 0, .int .u64 0, .int .u64 0] T)) v') :
    v'.heap[v.heap.size]? = some (.cells #[.int .u64 0, .int .u64 0, .int .u64 0] T (0, 0)) := h.heap_some (heap_new _ _)
theorem Add_int (p : Int) (hp : IsBig p) (a b : UInt64) (B : Int) (hB : (b.toNat : Int) = B) (w : World) :
    Calls Tryz.prog 177 #[.agg #[.int .u64 p], .int .u64 a.toNat, .int .u64 B] w fun e w' => e = .returned (.int .u64 (fAdd a b).toNat) ∧ Ext w w' := by
  subst hB; exact Add_any p hp a b w
/-- Behind an alloc and what grew out of it, the new block written whole. -/
theorem stored3 {v v' : World} {T : TypeId} (h : Ext (v.alloc (.cells #[.int .u64 0, .int .u64 0, .int .u64 0] T)) v') (x y z : Value) :
    (((v'.setCell ⟨v.heap.size, 0, none⟩ x).setCell ⟨v.heap.size, 1, none⟩ y).setCell ⟨v.heap.size, 2, none⟩ z).heap[v.heap.size]? = some (.cells #[x, y, z] T (0, 0)) :=
  heap_setCell_same (heap_setCell_same (heap_setCell_same (zero3 h) 0 x) 1 y) 2 z
theorem stored3E {w0 v v' : World} {T : TypeId} (hv : Ext w0 v) (h : Ext (v.alloc (.cells #[.int .u64 0, .int .u64 0, .int .u64 0] T)) v') (x y z : Value) :
    Ext w0 (((v'.setCell ⟨v.heap.size, 0, none⟩ x).setCell ⟨v.heap.size, 1, none⟩ y).setCell ⟨v.heap.size, 2, none⟩ z) :=
  (((((hv.alloc _).trans h).setCell (p := ⟨v.heap.size, 0, none⟩) hv.size _).setCell (p := ⟨v.heap.size, 1, none⟩) hv.size _).setCell (p := ⟨v.heap.size, 2, none⟩) hv.size _)
theorem drop_cons {l : List UInt64} {i : Nat} {x : UInt64} {r : List UInt64} (h : l.drop i = x :: r) : l[i]? = some x ∧ i < l.length ∧ l.drop (i + 1) = r := by
  have hi : i < l.length := by
    rcases Nat.lt_or_ge i l.length with h1 | h1
    · exact h1
    · rw [List.drop_eq_nil_of_le h1] at h; cases h
  rw [List.drop_eq_getElem_cons hi] at h
  injection h with h1 h2
  exact ⟨by rw [List.getElem?_eq_getElem hi, h1], hi, h2⟩
theorem absorb_nil (s : S3) : absorbAll s [] = s := by rw [absorbAll]
theorem absorb_one (s : S3) (x : UInt64) : absorbAll s [x] = perm ⟨fAdd s.a x, s.b, s.c⟩ := by rw [absorbAll]
theorem absorb_two (s : S3) (x y : UInt64) (r : List UInt64) : absorbAll s (x :: y :: r) = absorbAll (perm ⟨fAdd s.a x, fAdd s.b y, s.c⟩) r := by rw [absorbAll]
theorem ab_one {s : S3} {x : UInt64} {t : S3} (h : Hid (absorbAll s [x] = t)) : Hid (absorbAll (perm ⟨fAdd s.a x, s.b, s.c⟩) [] = t) := by
  have h := h.out
  rw [absorb_one] at h
  exact hid ((absorb_nil _).trans h)
theorem ab_two {s : S3} {x y : UInt64} {r : List UInt64} {t : S3} (h : Hid (absorbAll s (x :: y :: r) = t)) : Hid (absorbAll (perm ⟨fAdd s.a x, fAdd s.b y, s.c⟩) r = t) := by
  have h := h.out
  rw [absorb_two] at h
  exact hid h
theorem Mul_unit (p : Int) (hp : IsBig p) (a : UInt64) (w : World) :
    Calls Tryz.prog 178 #[.agg #[.int .u64 p], .int .u64 a.toNat, .int .u64 65536] w fun e w' => e = .returned (.int .u64 (fMul a 65536).toNat) ∧ Ext w w' := Mul_any p hp a 65536 w
theorem len_u {n : Nat} (h : n ≤ 9223372036854775807) : ((UInt64.ofNat n).toNat : Int) = (n : Int) := by rw [toNat_ofNat_lt (by omega)]
theorem frozen_zero {v v' : World} {T : TypeId} (h : Ext (v.alloc (.cells #[.int .u64 0, .int .u64 0, .int .u64 0] T)) v') (i : Nat) : v'.frozen? ⟨v.heap.size, i, none⟩ = false := frozen_of (zero3 h) i
theorem cell_zero {v v' : World} {T : TypeId} (h : Ext (v.alloc (.cells #[.int .u64 0, .int .u64 0, .int .u64 0] T)) v') (i : Nat) (hi : i < 3) : v'.cell? ⟨v.heap.size, i, none⟩ = some (.int .u64 0) := by
  rw [cell_of (zero3 h) i]
  have : i = 0 ∨ i = 1 ∨ i = 2 := by omega
  rcases this with rfl | rfl | rfl <;> rfl
set_option maxHeartbeats 2000000 in
theorem absorb_any (p : Int) (hp : IsBig p) (label : UInt64) (lv : Value) (l : List UInt64) (w : World) (hl : RdU w lv l) (hL : l.length ≤ 1000000000000000) :
    Calls Tryz.prog 158 #[.int .u64 p, .int .u64 label.toNat, lv] w fun e w' => e = .returned (sponge label l).v ∧ Ext w w' := by
  obtain ⟨a, c, rfl, hlc, hcm, hnil, hcell⟩ := hl
  unfold maxLen at hcm
  have hL1 : (l.length : Int) ≤ 1000000000000000 := by omega
  have hlen : l.length ≤ 9223372036854775807 := by omega
  go_enter Tryz.func158, Tryz.ntmps158
  go_upto_region 2 with fail
  have hE : Ext w ((w.alloc (.cells #[.int .u64 0, .int .u64 0, .int .u64 0] 160)).alloc (.cells #[.int .u64 p] 202)) := ((Ext.refl _).alloc _).alloc _
  have hr0 : ((w.alloc (.cells #[.int .u64 0, .int .u64 0, .int .u64 0] 160)).alloc (.cells #[.int .u64 p] 202)).heap[w.heap.size]? = some (.cells #[.int .u64 0, .int .u64 0, .int .u64 0] 160 (0, 0)) :=
    heap_alloc_some (heap_new _ _)
  have hr1 : ((w.alloc (.cells #[.int .u64 0, .int .u64 0, .int .u64 0] 160)).alloc (.cells #[.int .u64 p] 202)).heap[w.heap.size + 1]? = some (.cells #[.int .u64 p] 202 (0, 0)) := by
    have := heap_new (w.alloc (.cells #[.int .u64 0, .int .u64 0, .int .u64 0] 160)) (.cells #[.int .u64 p] 202)
    simpa using this
  have hz : w.heap.size + 1 < ((w.alloc (.cells #[.int .u64 0, .int .u64 0, .int .u64 0] 160)).alloc (.cells #[.int .u64 p] 202)).heap.size := by simp
  generalize ((w.alloc (.cells #[.int .u64 0, .int .u64 0, .int .u64 0] 160)).alloc (.cells #[.int .u64 p] 202)) = w0 at *
  generalize hn : w.heap.size = n at *
  have HN := hid hn
  clear hn
  obtain ⟨x0, hx0⟩ : ∃ x0, x0 = labelOf label l.length := ⟨_, rfl⟩
  have HX0 := hid hx0
  clear hx0
  go_cut [8] (fun s8 wx => ∃ g : Nat, s8 = .pointer (some ⟨g, 0, none⟩) ∧ w0.heap.size ≤ g ∧ wx.heap[g]? = some (.cells #[.int .u64 0, .int .u64 0, .int .u64 x0.toNat] 160 (0, 0)) ∧ Ext w0 wx)
  case first =>
    have hc1 : ∀ v, Ext w0 v → v.cell? ⟨n + 1, 0, none⟩ = some (.int .u64 p) := fun v k => cell_of (k.heap_some hr1) 0
    have H := hid hc1
    clear hc1
    go_wp2_with fail
    refine wp_region_N (fun v => v.cell? ⟨n + 1, 0, none⟩ = some (.int .u64 p) ∧ Ext w0 v) 10 11 (by kernel_rfl) (by kernel_rfl) ?_
    intro ops hops
    have HS : w0.drew.cell? ⟨n + 1, 0, none⟩ = some (.int .u64 p) ∧ Ext w0 w0.drew := keep0 H.out
    refine N_take (i := 0) (v := ?_) (by rw [hops, List.getElem?_toArray]; rfl) (by rw [hops]; kernel_rfl) (by intro c a d v w h; cases d <;> exact h) (by first | rfl | (rw [hops]; rfl)) ?_ HS ?_
    rotate_left
    · intro v h; go_simp; with_reducible rfl
    simp only [Act.put, List.getElem_toArray, List.getElem_cons_zero, List.getElem_cons_succ, List.setIfInBounds_toArray, List.set_cons_zero, List.set_cons_succ]
    refine N_take (i := 1) (v := ?_) (by rw [hops, List.getElem?_toArray]; rfl) (by rw [hops]; kernel_rfl) (by intro c a d v w h; cases d <;> exact h) (by first | rfl | (rw [hops]; rfl)) ?_ HS ?_
    rotate_left
    · intro v h; go_simp; with_reducible rfl
    simp only [Act.put, List.getElem_toArray, List.getElem_cons_zero, List.getElem_cons_succ, List.setIfInBounds_toArray, List.set_cons_zero, List.set_cons_succ]
    refine N_take (i := 2) (v := ?_) (by rw [hops, List.getElem?_toArray]; rfl) (by rw [hops]; kernel_rfl) (by intro c a d v w h; cases d <;> exact h) (by first | rfl | (rw [hops]; rfl)) ?_ HS ?_
    rotate_left
    · intro v h; go_simp; with_reducible rfl
    simp only [Act.put, List.getElem_toArray, List.getElem_cons_zero, List.getElem_cons_succ, List.setIfInBounds_toArray, List.set_cons_zero, List.set_cons_succ]
    refine N_take (i := 4) (v := ?_) (by rw [hops, List.getElem?_toArray]; rfl) (by rw [hops]; kernel_rfl) (by intro c a d v w h; cases d <;> exact h) (by first | rfl | (rw [hops]; rfl)) ?_ HS ?_
    rotate_left
    · intro v h; go_simp; with_reducible rfl
    simp only [Act.put, List.getElem_toArray, List.getElem_cons_zero, List.getElem_cons_succ, List.setIfInBounds_toArray, List.set_cons_zero, List.set_cons_succ]
    refine N_take (i := 5) (v := ?_) (by rw [hops, List.getElem?_toArray]; rfl) (by rw [hops]; kernel_rfl) (by intro c a d v w h; cases d <;> exact h) (by first | rfl | (rw [hops]; rfl)) ?_ HS ?_
    rotate_left
    · intro v h; go_simp; with_reducible rfl
    simp only [Act.put, List.getElem_toArray, List.getElem_cons_zero, List.getElem_cons_succ, List.setIfInBounds_toArray, List.set_cons_zero, List.set_cons_succ]
    refine N_take (i := 6) (v := ?_) (by rw [hops, List.getElem?_toArray]; rfl) (by rw [hops]; kernel_rfl) (by intro c a d v w h; cases d <;> exact h) (by first | rfl | (rw [hops]; rfl)) ?_ HS ?_
    rotate_left
    · intro v h; go_simp; with_reducible rfl
    simp only [Act.put, List.getElem_toArray, List.getElem_cons_zero, List.getElem_cons_succ, List.setIfInBounds_toArray, List.set_cons_zero, List.set_cons_succ]
    refine N_two (i := 3) (k := 9) (by rw [hops]; rfl) (by rw [hops, List.getElem?_toArray]; rfl) (by rw [hops]; kernel_rfl) (by first | rfl | (rw [hops]; rfl)) (by first | rfl | (rw [hops]; rfl)) ?_ ?_
    · intro K hK
      go_wp2_with fail
      refine (Mul_unit p hp label _).mono ?_
      rintro e v1 ⟨rfl, hb1⟩
      have HS1 := keepE H.out HS hb1
      refine hK _ _ ⟨fun _ => HS1, ?_⟩
      clear hK K
      refine N_two (i := 7) (k := 9) (by rw [hops]; rfl) (by rw [hops, List.getElem?_toArray]; rfl) (by rw [hops]; kernel_rfl) (by first | rfl | (rw [hops]; rfl)) (by first | rfl | (rw [hops]; rfl)) ?_ ?_
      · intro K hK
        go_wp2_with fail
        refine (Add_int p hp _ (UInt64.ofNat l.length) l.length (len_u hlen) _).mono ?_
        rintro e v2 ⟨rfl, hb2⟩
        have HS2 := keepE H.out HS1 hb2
        refine hK _ _ ⟨fun _ => HS2, ?_⟩
        clear hK K
        refine N_take (i := 8) (v := ?_) (by rw [hops, List.getElem?_toArray]; rfl) (by rw [hops]; kernel_rfl) (by intro c a d v w h; cases d <;> exact h) (by first | rfl | (rw [hops]; rfl)) ?_ HS2 ?_
        rotate_left
        · intro v h; go_simp; with_reducible rfl
        simp only [Act.put, List.getElem_toArray, List.getElem_cons_zero, List.getElem_cons_succ, List.setIfInBounds_toArray, List.set_cons_zero, List.set_cons_succ]
        refine N_one (i := 9) (by rw [hops, List.getElem?_toArray]; rfl) (by rw [hops]; kernel_rfl) (by first | rfl | (rw [hops]; rfl)) ?_
        intro K hK
        go_wp2_with fail
        refine ⟨fun _ => keepE H.out HS2 ((Ext.refl _).alloc _), ?_⟩
        refine N_one (i := 10) (by rw [hops, List.getElem?_toArray]; rfl) (by rw [hops]; kernel_rfl) (by first | rfl | (rw [hops]; rfl)) ?_
        intro K hK
        go_wp2_with fail
        refine ⟨fun h => absurd h (by decide), ?_⟩
        refine N_done (by rw [hops]; kernel_rfl) ?_
        clear hops ops
        go_wp2_with fail
        go_meet
        exact ⟨v2.heap.size, rfl, HS2.2.size, by rw [HX0.out]; exact heap_new _ _, HS2.2.alloc _⟩
      · intro K hK
        go_wp2_with fail
        have HS2 := keepE H.out HS1 ((Ext.refl _).alloc (.cells #[.int .u64 0, .int .u64 0, .int .u64 0] 160))
        refine ⟨fun _ => HS2, ?_⟩
        refine N_one (i := 7) (by rw [hops, List.getElem?_toArray]; rfl) (by rw [hops]; kernel_rfl) (by first | rfl | (rw [hops]; rfl)) ?_
        intro K hK
        go_wp2_with fail
        refine (Add_int p hp _ (UInt64.ofNat l.length) l.length (len_u hlen) _).mono ?_
        rintro e v2 ⟨rfl, hb2⟩
        have HS3 := keepE H.out HS2 hb2
        refine hK _ _ ⟨fun _ => HS3, ?_⟩
        clear hK K
        refine N_take (i := 8) (v := ?_) (by rw [hops, List.getElem?_toArray]; rfl) (by rw [hops]; kernel_rfl) (by intro c a d v w h; cases d <;> exact h) (by first | rfl | (rw [hops]; rfl)) ?_ HS3 ?_
        rotate_left
        · intro v h; go_simp; with_reducible rfl
        simp only [Act.put, List.getElem_toArray, List.getElem_cons_zero, List.getElem_cons_succ, List.setIfInBounds_toArray, List.set_cons_zero, List.set_cons_succ]
        have z0 := cell_zero hb2 0 (by omega)
        have z1 := cell_zero hb2 1 (by omega)
        have z2 := cell_zero hb2 2 (by omega)
        have zf := frozen_zero hb2
        refine N_one (i := 10) (by rw [hops, List.getElem?_toArray]; rfl) (by rw [hops]; kernel_rfl) (by first | rfl | (rw [hops]; rfl)) ?_
        intro K hK
        go_wp2_with fail
        refine ⟨fun h => absurd h (by decide), ?_⟩
        refine N_done (by rw [hops]; kernel_rfl) ?_
        clear hops ops
        clear z0 z1 z2 zf
        go_wp2_with fail
        go_meet
        exact ⟨v1.heap.size, rfl, HS1.2.size, by rw [HX0.out]; exact stored3 hb2 _ _ _, stored3E HS1.2 hb2 _ _ _⟩
    · intro K hK
      go_wp2_with fail
      have HS1 := keepE H.out HS ((Ext.refl _).alloc (.cells #[.int .u64 0, .int .u64 0, .int .u64 0] 160))
      refine ⟨fun _ => HS1, ?_⟩
      refine N_one (i := 3) (by rw [hops, List.getElem?_toArray]; rfl) (by rw [hops]; kernel_rfl) (by first | rfl | (rw [hops]; rfl)) ?_
      intro K hK
      go_wp2_with fail
      refine (Mul_unit p hp label _).mono ?_
      rintro e v1 ⟨rfl, hb1⟩
      have HS2 := keepE H.out HS1 hb1
      refine hK _ _ ⟨fun _ => HS2, ?_⟩
      clear hK K
      refine N_one (i := 7) (by rw [hops, List.getElem?_toArray]; rfl) (by rw [hops]; kernel_rfl) (by first | rfl | (rw [hops]; rfl)) ?_
      intro K hK
      go_wp2_with fail
      refine (Add_int p hp _ (UInt64.ofNat l.length) l.length (len_u hlen) _).mono ?_
      rintro e v2 ⟨rfl, hb2⟩
      have HS3 := keepE H.out HS2 hb2
      have hb3 := (Ext.refl (w0.alloc (.cells #[.int .u64 0, .int .u64 0, .int .u64 0] 160))).drew.trans (hb1.trans hb2)
      refine hK _ _ ⟨fun _ => HS3, ?_⟩
      clear hK K
      refine N_take (i := 8) (v := ?_) (by rw [hops, List.getElem?_toArray]; rfl) (by rw [hops]; kernel_rfl) (by intro c a d v w h; cases d <;> exact h) (by first | rfl | (rw [hops]; rfl)) ?_ HS3 ?_
      rotate_left
      · intro v h; go_simp; with_reducible rfl
      simp only [Act.put, List.getElem_toArray, List.getElem_cons_zero, List.getElem_cons_succ, List.setIfInBounds_toArray, List.set_cons_zero, List.set_cons_succ]
      have z0 := cell_zero hb3 0 (by omega)
      have z1 := cell_zero hb3 1 (by omega)
      have z2 := cell_zero hb3 2 (by omega)
      have zf := frozen_zero hb3
      refine N_one (i := 10) (by rw [hops, List.getElem?_toArray]; rfl) (by rw [hops]; kernel_rfl) (by first | rfl | (rw [hops]; rfl)) ?_
      intro K hK
      go_wp2_with fail
      refine ⟨fun h => absurd h (by decide), ?_⟩
      refine N_done (by rw [hops]; kernel_rfl) ?_
      clear hops ops
      clear z0 z1 z2 zf
      go_wp2_with fail
      go_meet
      exact ⟨w0.heap.size, rfl, Nat.le_refl _, by rw [HX0.out]; exact stored3 hb3 _ _ _, stored3E (Ext.refl _) hb3 _ _ _⟩
  case rest =>
    obtain ⟨g, rfl, hg, hB, hE2⟩ := hcut
    have R0 := hid (hE2.heap_some hr0)
    have R1 := hid (hE2.heap_some hr1)
    have EW := hid (hE.trans hE2)
    have HB := hid hB
    have hgn : n + 1 < g := by omega
    have hlw : ∀ b o, a = some ⟨b, o, none⟩ → 0 < l.length → b < n := fun b o ha h0 => by
      obtain ⟨_, hc⟩ := hcell _ ha
      have h1 : b < w.heap.size := cell_lt (hc 0 l[0] (by simp [h0]))
      rw [HN.out] at h1; exact h1
    have HLW := hid hlw
    have HC := hid hcell
    have HNIL := hid hnil
    clear hcell hlw hE hE2 hr0 hr1 hz hB hg hnil
    by_cases hl0 : l.length = 0
    · have hle : ((l.length : Int) == 0) = true := by rw [hl0]; rfl
      have c0 : wc.cell? ⟨g, 0, none⟩ = some (.int .u64 0) := cell_of HB.out 0
      have c1 : wc.cell? ⟨g, 1, none⟩ = some (.int .u64 0) := cell_of HB.out 1
      have c2 : wc.cell? ⟨g, 2, none⟩ = some (.int .u64 x0.toNat) := cell_of HB.out 2
      have HL0 := hid hl0
      clear hl0
      go_wp2_with fail
      refine (Permute_any p hp ⟨0, 0, x0⟩ _).mono ?_
      rintro e v1 ⟨rfl, hb1⟩
      have HR := hb1.heap_some R0.out
      have d0 : v1.cell? ⟨n, 0, none⟩ = some (.int .u64 0) := cell_of HR 0
      have d1 : v1.cell? ⟨n, 1, none⟩ = some (.int .u64 0) := cell_of HR 1
      have d2 : v1.cell? ⟨n, 2, none⟩ = some (.int .u64 0) := cell_of HR 2
      have df : ∀ i, v1.frozen? ⟨n, i, none⟩ = false := fun i => frozen_of HR i
      have HR' := hid HR
      clear HR c0 c1 c2
      go_wp2
      have hfn : sponge label l = perm ⟨0, 0, x0⟩ := by
        have : l = [] := List.eq_nil_of_length_eq_zero HL0.out
        rw [HX0.out]; subst this; simp [sponge]
      have hB3 := heap_setCell_same (heap_setCell_same (heap_setCell_same HR'.out 0 (.int .u64 (perm ⟨0, 0, x0⟩).a.toNat)) 1 (.int .u64 (perm ⟨0, 0, x0⟩).b.toNat)) 2 (.int .u64 (perm ⟨0, 0, x0⟩).c.toNat)
      have r0 := cell_of hB3 0
      have r1 := cell_of hB3 1
      have r2 := cell_of hB3 2
      have hnn := HN.out
      have hfin := (((EW.out.trans hb1).setCell (p := ⟨n, 0, none⟩) (Nat.le_of_eq hnn) (.int .u64 (perm ⟨0, 0, x0⟩).a.toNat)).setCell (p := ⟨n, 1, none⟩) (Nat.le_of_eq hnn) (.int .u64 (perm ⟨0, 0, x0⟩).b.toNat)).setCell (p := ⟨n, 2, none⟩) (Nat.le_of_eq hnn) (.int .u64 (perm ⟨0, 0, x0⟩).c.toNat)
      exact bodyPost_ret (v := (sponge label l).v) (by rw [hfn]; simp [results, Tryz.results158, go_sem, r0, r1, r2]) rfl ⟨rfl, hfin⟩
    · have hle : ((l.length : Int) == 0) = false := by simp; intro h; exact hl0 (by rw [h]; rfl)
      obtain ⟨b, o, rfl⟩ : ∃ b o, a = some ⟨b, o, none⟩ := by
        cases a with
        | none => have := HNIL.out rfl; omega
        | some ad => obtain ⟨h1, _⟩ := HC.out ad rfl; exact ⟨ad.block, ad.off, by cases ad; simp only at h1; subst h1; rfl⟩
      have hbn := HLW.out b o rfl (by omega)
      obtain ⟨_, hcl0⟩ := HC.out _ rfl
      have hcl := hid hcl0
      have hsp : absorbAll ⟨0, 0, x0⟩ l = sponge label l := by
        unfold sponge; rw [if_neg (by rintro rfl; exact hl0 rfl), HX0.out]
      have HSP := hid hsp
      clear hcl0 hsp hl0
      go_wp2_with fail
      go_loopw [9] (fun iv wr => ∃ (i : Nat) (s : S3) (r : List UInt64), iv = .int .i64 i ∧ i ≤ l.length + 1 ∧ Hid (l.drop i = r) ∧ Hid (absorbAll s r = sponge label l) ∧ wr.heap[g]? = some (.cells s.arr 160 (0, 0)) ∧ Kp (fun k => k = g) wc wr) (fun iv _ => (l.length + 2 - intOf iv).toNat)
      case atStart => exact ⟨0, ⟨0, 0, x0⟩, l, rfl, by omega, hid rfl, HSP, HB.out, Kp.refl _ _⟩
      case round =>
        obtain ⟨i, s, r, rfl, hil, hdr, hab, hBw, hKw⟩ := hrel
        have c0 : wr.cell? ⟨g, 0, none⟩ = some (.int .u64 s.a.toNat) := cell_of hBw 0
        have c1 : wr.cell? ⟨g, 1, none⟩ = some (.int .u64 s.b.toNat) := cell_of hBw 1
        have c2 : wr.cell? ⟨g, 2, none⟩ = some (.int .u64 s.c.toNat) := cell_of hBw 2
        have HBw := hid hBw
        have HKw := hid hKw
        clear hBw hKw
        cases r with
        | nil =>
          have hge : ¬ (i : Int) < l.length := by
            have := hdr.out
            intro h
            have h2 : (l.drop i).length = 0 := by rw [this]; rfl
            rw [List.length_drop] at h2; omega
          have hfn : s = sponge label l := hab.out
          have HF := hid hfn
          have HR := HKw.out.heap_some (by omega) R0.out
          have d0 : wr.cell? ⟨n, 0, none⟩ = some (.int .u64 0) := cell_of HR 0
          have d1 : wr.cell? ⟨n, 1, none⟩ = some (.int .u64 0) := cell_of HR 1
          have d2 : wr.cell? ⟨n, 2, none⟩ = some (.int .u64 0) := cell_of HR 2
          have df : ∀ i, wr.frozen? ⟨n, i, none⟩ = false := fun i => frozen_of HR i
          have HR' := hid HR
          clear HR hfn
          go_wp2
          have hB3 := heap_setCell_same (heap_setCell_same (heap_setCell_same HR'.out 0 (.int .u64 s.a.toNat)) 1 (.int .u64 s.b.toNat)) 2 (.int .u64 s.c.toNat)
          have r0 := cell_of hB3 0
          have r1 := cell_of hB3 1
          have r2 := cell_of hB3 2
          have hnn := HN.out
          have hfin := (((EW.out.kp HKw.out (by intro k hk; omega)).setCell (p := ⟨n, 0, none⟩) (Nat.le_of_eq hnn) (.int .u64 s.a.toNat)).setCell (p := ⟨n, 1, none⟩) (Nat.le_of_eq hnn) (.int .u64 s.b.toNat)).setCell (p := ⟨n, 2, none⟩) (Nat.le_of_eq hnn) (.int .u64 s.c.toNat)
          exact bodyPost_ret (v := (sponge label l).v) (by rw [← HF.out]; simp [results, Tryz.results158, go_sem, r0, r1, r2]) rfl ⟨rfl, hfin⟩
        | cons x r1 =>
          obtain ⟨hx, hilt, hdr1⟩ := drop_cons hdr.out
          have hlt : (i : Int) < l.length := by omega
          have hbg : b ≠ g := by omega
          have cx0 : wr.cell? ⟨b, o + i, none⟩ = some (.int .u64 x.toNat) := HKw.out.cell_some hbg (EW.out.cell_some (hcl.out i x hx))
          have HDR := hid hdr1
          have HAB := hab
          have hc1 : wr.cell? ⟨n + 1, 0, none⟩ = some (.int .u64 p) := HKw.out.cell_some (by omega) (cell_of R1.out 0)
          have H : Hid (∀ v, Ext wr v → v.cell? ⟨g, 0, none⟩ = some (.int .u64 s.a.toNat) ∧ v.cell? ⟨b, o + i, none⟩ = some (.int .u64 x.toNat) ∧ v.cell? ⟨n + 1, 0, none⟩ = some (.int .u64 p)) := fun v k => ⟨k.cell_some c0, k.cell_some cx0, k.cell_some hc1⟩
          clear hdr hab hx hdr1 c0 c1 c2 hc1 cx0
          go_wp2_with fail
          refine wp_region_T (fun v => (v.cell? ⟨g, 0, none⟩ = some (.int .u64 s.a.toNat) ∧ v.cell? ⟨b, o + i, none⟩ = some (.int .u64 x.toNat) ∧ v.cell? ⟨n + 1, 0, none⟩ = some (.int .u64 p)) ∧ Ext wr v) 7 [(0, true), (1, true), (2, true), (3, true), (4, true), (5, true), (6, true), (7, false), (8, false), (9, false)] (by kernel_rfl) (by kernel_rfl) (by intro c a d v w h; cases d <;> exact h) ?_
          intro ops hops
          have HS := keep0 H.out
          iterate 7
            refine wpT_take (v := ?_) (by rw [hops, List.getElem?_toArray]; rfl) (by first | rfl | (rw [hops]; rfl)) ?_ HS ?_
            rotate_left
            · intro v h; go_simp; with_reducible rfl
            simp only [Act.put, List.getElem_toArray, List.getElem_cons_zero, List.getElem_cons_succ, List.setIfInBounds_toArray, List.set_cons_zero, List.set_cons_succ]
          refine wpT_step (by rw [hops, List.getElem?_toArray]; rfl) (by first | rfl | (rw [hops]; rfl)) ?_
          intro K hK
          go_wp2_with fail
          refine (Add_any p hp s.a x _).mono ?_
          rintro e v1 ⟨rfl, hb1⟩
          have E1 := HS.2.trans hb1
          have HB1 := hid (E1.heap_some HBw.out)
          have f0 : v1.cell? ⟨g, 0, none⟩ = some (.int .u64 s.a.toNat) := cell_of HB1.out 0
          have ff : ∀ i, v1.frozen? ⟨g, i, none⟩ = false := fun i => frozen_of HB1.out i
          refine hK _ _ ⟨fun h => absurd h (by decide), ?_⟩
          clear hK K
          refine wpT_step (by rw [hops, List.getElem?_toArray]; rfl) (by first | rfl | (rw [hops]; rfl)) ?_
          intro K hK
          go_wp2_with fail
          refine ⟨fun h => absurd h (by decide), ?_⟩
          refine wpT_step (by rw [hops, List.getElem?_toArray]; rfl) (by first | rfl | (rw [hops]; rfl)) ?_
          intro K hK
          go_wp2_with fail
          refine ⟨fun h => absurd h (by decide), ?_⟩
          rw [wpT_nil]
          clear hops ops
          have HB2 := hid (heap_setCell_same HB1.out 0 (.int .u64 (fAdd s.a x).toNat))
          have HK2 := hid ((HKw.out.ext E1).setCell (p := ⟨g, 0, none⟩) (.inl rfl) (.int .u64 (fAdd s.a x).toNat))
          clear f0 ff H HS hb1 E1 HB1 HBw HKw
          generalize v1.setCell ⟨g, 0, none⟩ (.int .u64 (fAdd s.a x).toNat) = v2 at *
          obtain ⟨s1, hs1⟩ : ∃ s1 : S3, s1 = ⟨fAdd s.a x, s.b, s.c⟩ := ⟨_, rfl⟩
          have HB2' : Hid (v2.heap[g]? = some (.cells s1.arr 160 (0, 0))) := by rw [hs1]; exact HB2.out
          have HS1 := hid hs1
          clear HB2 hs1
          cases r1 with
          | nil =>
            have hge : ¬ (i : Int) + 1 < l.length := by
              have := HDR.out
              intro h
              have h2 : (l.drop (i + 1)).length = 0 := by rw [this]; rfl
              rw [List.length_drop] at h2; omega
            have c0 : v2.cell? ⟨g, 0, none⟩ = some (.int .u64 s1.a.toNat) := cell_of HB2'.out 0
            have c1 : v2.cell? ⟨g, 1, none⟩ = some (.int .u64 s1.b.toNat) := cell_of HB2'.out 1
            have c2 : v2.cell? ⟨g, 2, none⟩ = some (.int .u64 s1.c.toNat) := cell_of HB2'.out 2
            go_wp2_with fail
            refine (Permute_any p hp s1 _).mono ?_
            rintro e u ⟨rfl, hbu⟩
            have hBu := hid (hbu.heap_some HB2'.out)
            have e0 : u.cell? ⟨g, 0, none⟩ = some (.int .u64 s1.a.toNat) := cell_of hBu.out 0
            have e1 : u.cell? ⟨g, 1, none⟩ = some (.int .u64 s1.b.toNat) := cell_of hBu.out 1
            have e2 : u.cell? ⟨g, 2, none⟩ = some (.int .u64 s1.c.toNat) := cell_of hBu.out 2
            have ef : ∀ i, u.frozen? ⟨g, i, none⟩ = false := fun i => frozen_of hBu.out i
            clear c0 c1 c2
            go_wp2
            go_roundw
            case rel =>
              refine ⟨i + 2, perm s1, [], by go_num, by omega, ?_, by rw [HS1.out]; exact ab_one HAB, ?_, ?_⟩
              · have := HDR.out
                show l.drop (i + 2) = []
                rw [show i + 2 = (i + 1) + 1 from rfl, ← List.drop_drop, this]; rfl
              · rw [heap_setCell_same (heap_setCell_same (heap_setCell_same hBu.out 0 _) 1 _) 2 _]; rfl
              · exact (((HK2.out.ext hbu).setCell (.inl rfl) _).setCell (.inl rfl) _).setCell (.inl rfl) _
            case measure => simp [intOf]; omega
          | cons y r2 =>
            obtain ⟨hy, hilt1, hdr2⟩ := drop_cons HDR.out
            have hlt1 : (i : Int) + 1 < l.length := by omega
            have cy0 : v2.cell? ⟨b, o + (i + 1), none⟩ = some (.int .u64 y.toNat) := HK2.out.cell_some hbg (EW.out.cell_some (hcl.out (i + 1) y hy))
            have c1 : v2.cell? ⟨g, 1, none⟩ = some (.int .u64 s1.b.toNat) := cell_of HB2'.out 1
            have HDR2 := hid hdr2
            have hc1 : v2.cell? ⟨n + 1, 0, none⟩ = some (.int .u64 p) := HK2.out.cell_some (by omega) (cell_of R1.out 0)
            have H : Hid (∀ v, Ext v2 v → v.cell? ⟨g, 1, none⟩ = some (.int .u64 s1.b.toNat) ∧ v.cell? ⟨b, o + (i + 1), none⟩ = some (.int .u64 y.toNat) ∧ v.cell? ⟨n + 1, 0, none⟩ = some (.int .u64 p)) := fun v k => ⟨k.cell_some c1, k.cell_some cy0, k.cell_some hc1⟩
            clear hy hdr2 c1 hc1 cy0 HDR
            go_wp2_with fail
            have hw1 : IntKind.i64.wrap ((i : Int) + 1) = (i : Int) + 1 := IntWalk.i64_in _ (by omega)
            have hw2 : ((i : Int) + 1).toNat = i + 1 := by omega
            have hw3 : (0 : Int) ≤ (i : Int) + 1 := by omega
            refine wp_region_T (fun v => (v.cell? ⟨g, 1, none⟩ = some (.int .u64 s1.b.toNat) ∧ v.cell? ⟨b, o + (i + 1), none⟩ = some (.int .u64 y.toNat) ∧ v.cell? ⟨n + 1, 0, none⟩ = some (.int .u64 p)) ∧ Ext v2 v) 8 [(0, true), (1, true), (2, true), (3, true), (4, true), (5, true), (6, true), (7, true), (8, false), (9, false), (10, false)] (by kernel_rfl) (by kernel_rfl) (by intro c a d v w h; cases d <;> exact h) ?_
            intro ops hops
            have HS := keep0 H.out
            iterate 8
              refine wpT_take (v := ?_) (by rw [hops, List.getElem?_toArray]; rfl) (by first | rfl | (rw [hops]; rfl)) ?_ HS ?_
              rotate_left
              · intro v h; go_simp; with_reducible rfl
              simp only [Act.put, List.getElem_toArray, List.getElem_cons_zero, List.getElem_cons_succ, List.setIfInBounds_toArray, List.set_cons_zero, List.set_cons_succ]
            refine wpT_step (by rw [hops, List.getElem?_toArray]; rfl) (by first | rfl | (rw [hops]; rfl)) ?_
            intro K hK
            go_wp2_with fail
            refine (Add_any p hp s1.b y _).mono ?_
            rintro e v3 ⟨rfl, hb3⟩
            have E1 := HS.2.trans hb3
            have HB1 := hid (E1.heap_some HB2'.out)
            have f0 : v3.cell? ⟨g, 1, none⟩ = some (.int .u64 s1.b.toNat) := cell_of HB1.out 1
            have ff : ∀ i, v3.frozen? ⟨g, i, none⟩ = false := fun i => frozen_of HB1.out i
            refine hK _ _ ⟨fun h => absurd h (by decide), ?_⟩
            clear hK K
            refine wpT_step (by rw [hops, List.getElem?_toArray]; rfl) (by first | rfl | (rw [hops]; rfl)) ?_
            intro K hK
            go_wp2_with fail
            refine ⟨fun h => absurd h (by decide), ?_⟩
            refine wpT_step (by rw [hops, List.getElem?_toArray]; rfl) (by first | rfl | (rw [hops]; rfl)) ?_
            intro K hK
            go_wp2_with fail
            refine ⟨fun h => absurd h (by decide), ?_⟩
            rw [wpT_nil]
            clear hops ops
            have HB3 := hid (heap_setCell_same HB1.out 1 (.int .u64 (fAdd s1.b y).toNat))
            have HK3 := hid ((HK2.out.ext E1).setCell (p := ⟨g, 1, none⟩) (.inl rfl) (.int .u64 (fAdd s1.b y).toNat))
            clear f0 ff H HS hb3 E1 HB1 HB2' HK2 hw1 hw2 hw3
            generalize v3.setCell ⟨g, 1, none⟩ (.int .u64 (fAdd s1.b y).toNat) = v4 at *
            obtain ⟨s2, hs2⟩ : ∃ s2 : S3, s2 = ⟨s1.a, fAdd s1.b y, s1.c⟩ := ⟨_, rfl⟩
            have HB4 : Hid (v4.heap[g]? = some (.cells s2.arr 160 (0, 0))) := by rw [hs2]; exact HB3.out
            have HS2 := hid hs2
            clear HB3 hs2
            have c0 : v4.cell? ⟨g, 0, none⟩ = some (.int .u64 s2.a.toNat) := cell_of HB4.out 0
            have c1 : v4.cell? ⟨g, 1, none⟩ = some (.int .u64 s2.b.toNat) := cell_of HB4.out 1
            have c2 : v4.cell? ⟨g, 2, none⟩ = some (.int .u64 s2.c.toNat) := cell_of HB4.out 2
            go_wp2_with fail
            refine (Permute_any p hp s2 _).mono ?_
            rintro e u ⟨rfl, hbu⟩
            have hBu := hid (hbu.heap_some HB4.out)
            have e0 : u.cell? ⟨g, 0, none⟩ = some (.int .u64 s2.a.toNat) := cell_of hBu.out 0
            have e1 : u.cell? ⟨g, 1, none⟩ = some (.int .u64 s2.b.toNat) := cell_of hBu.out 1
            have e2 : u.cell? ⟨g, 2, none⟩ = some (.int .u64 s2.c.toNat) := cell_of hBu.out 2
            have ef : ∀ i, u.frozen? ⟨g, i, none⟩ = false := fun i => frozen_of hBu.out i
            clear c0 c1 c2
            go_wp2
            go_roundw
            case rel =>
              refine ⟨i + 2, perm s2, r2, by go_num, by omega, HDR2, by rw [HS2.out, HS1.out]; exact ab_two HAB, ?_, ?_⟩
              · rw [heap_setCell_same (heap_setCell_same (heap_setCell_same hBu.out 0 _) 1 _) 2 _]; rfl
              · exact (((HK3.out.ext hbu).setCell (.inl rfl) _).setCell (.inl rfl) _).setCell (.inl rfl) _
            case measure => simp [intOf]; omega
theorem index0 (a b c : Value) (w : World) : (Instr.index 160 (.agg #[a, b, c]) (.int .i64 0)).run Tryz.prog w = .ok a w := by kernel_rfl
set_option maxHeartbeats 400000 in
theorem Hash_any (p : Int) (hp : IsBig p) (label : UInt64) (lv : Value) (l : List UInt64) (w : World) (hl : RdU w lv l) (hL : l.length ≤ 1000000000000000) :
    Calls Tryz.prog 133 #[.int .u64 p, .int .u64 label.toNat, lv] w fun e w' => e = .returned (.int .u64 (hashU label l).toNat) ∧ Ext w w' := by
  obtain ⟨s, hs⟩ : ∃ s, sponge label l = s := ⟨_, rfl⟩
  unfold hashU
  rw [hs]
  have HS := hid hs
  clear hs
  go_enter Tryz.func133, Tryz.ntmps133
  go_wp2_with fail
  refine (valid_any p hp _).mono ?_
  rintro e w1 ⟨rfl, hb1⟩
  have hl1 : RdU w1 lv l := by
    obtain ⟨a, c, h1, h2, h3, h4, h5⟩ := hl
    exact ⟨a, c, h1, h2, h3, h4, fun ad ha => ⟨(h5 ad ha).1, fun i x hx => hb1.cell_some ((h5 ad ha).2 i x hx)⟩⟩
  go_wp2_with fail
  have hab := absorb_any p hp label lv l w1 hl1 hL
  rw [HS.out] at hab
  refine hab.mono ?_
  clear hab
  rintro e w2 ⟨rfl, hb2⟩
  have hix := index0 (.int .u64 s.a.toNat) (.int .u64 s.b.toNat) (.int .u64 s.c.toNat)
  go_wp2
  go_ret
  exact ⟨rfl, hb1.trans hb2⟩
end Go.Proofs.YtcikjcjfcanloaaGreat
