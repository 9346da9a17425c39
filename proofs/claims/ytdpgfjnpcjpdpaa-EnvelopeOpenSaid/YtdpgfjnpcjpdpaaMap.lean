/- Maps with string keys (and with keys of 64-bit numbers) as lists of pairs: what a look-up gives, what an update leaves. -/
import Derived.Test.YtdpgfjnpcjpdpaaBase
namespace Go.Proofs.Ytdpgfjnpcjpdpaa
open Go.RowKit
section
variable {P : Program}

/-- The first entry of a key. -/
def assoc {κ ν : Type} [BEq κ] (L : List (κ × ν)) (k : κ) : Option ν :=
  match L with
  | [] => none
  | x :: r => if x.1 == k then some x.2 else assoc r k
def assocSet {κ ν : Type} [BEq κ] (L : List (κ × ν)) (k : κ) (v : ν) : List (κ × ν) :=
  match L with
  | [] => [(k, v)]
  | x :: r => if x.1 == k then (x.1, v) :: r else x :: assocSet r k v

/-- Block m is a map whose entries are, in the order of their making, those of L, keys as 'key' writes them. -/
def KMap {κ : Type} (key : κ → Value) (w : World) (m : Nat) (L : List (κ × Value)) : Prop :=
  ∃ es clock, w.heap[m]? = some (.map es clock) ∧ es.toList.map (fun e => (e.key, e.val)) = L.map (fun x => (key x.1, x.2))

theorem KMap.of_heap {κ : Type} {key : κ → Value} {w w' : World} {m : Nat} {L : List (κ × Value)} (h : KMap key w m L) (he : w'.heap[m]? = w.heap[m]?) : KMap key w' m L := by
  obtain ⟨es, c, h1, h2⟩ := h; exact ⟨es, c, he.trans h1, h2⟩
theorem KMap.lt {κ : Type} {key : κ → Value} {w : World} {m : Nat} {L : List (κ × Value)} (h : KMap key w m L) : m < w.heap.size := by
  obtain ⟨es, c, h1, _⟩ := h; exact heap_lt h1
theorem KMap.made {κ : Type} {key : κ → Value} (w : World) : KMap key (w.alloc (.map #[] 0)) w.heap.size ([] : List (κ × Value)) := ⟨#[], 0, heap_new _ _, rfl⟩

/-- How a kind of keys is compared. -/
structure KeyLaw {κ : Type} [BEq κ] [LawfulBEq κ] (key : κ → Value) (d : TypeDesc) : Prop where
  same : ∀ a b, Instr.sameNow d (key a) (key b) = some (a == b)
  bits : ∀ a, Instr.sameBits 10000 (key a) (key a) = true
  check : ∀ (P : Program) (t : TypeId) (w : World) (e : Bool) (a : κ), P.underlying t = some d → (Instr.checkKey e 10000 t (key a)).run P w = .ok () w

variable {κ : Type} [BEq κ] [LawfulBEq κ] {key : κ → Value} {d : TypeDesc}

theorem findNow_none (hk : KeyLaw key d) (k : κ) : ∀ (es : List MapEntry) (L : List (κ × Value)) (i : Nat), es.map (fun e => (e.key, e.val)) = L.map (fun x => (key x.1, x.2)) → assoc L k = none →
    Instr.findNow d (key k) es i = some none
  | [], L, i, _, _ => rfl
  | e :: es, [], i, h, _ => by simp at h
  | e :: es, x :: L, i, h, ha => by
    simp only [List.map_cons, List.cons.injEq, Prod.mk.injEq] at h
    obtain ⟨⟨h1, h2⟩, h3⟩ := h
    simp only [assoc] at ha
    by_cases hx : x.1 == k
    · simp [hx] at ha
    · simp only [hx] at ha
      unfold Instr.findNow
      rw [h1, hk.same, show (k == x.1) = false from by
        rw [Bool.eq_false_iff]; intro h; exact hx (by rw [beq_iff_eq] at h ⊢; exact h.symm)]
      exact findNow_none hk k es L (i + 1) h3 ha

theorem findNow_some (hk : KeyLaw key d) (k : κ) (v : Value) : ∀ (es : List MapEntry) (L : List (κ × Value)) (i : Nat), es.map (fun e => (e.key, e.val)) = L.map (fun x => (key x.1, x.2)) → assoc L k = some v →
    ∃ j, Instr.findNow d (key k) es i = some (some (i + j, v)) ∧ (es[j]?).map (·.key) = some (key k) ∧
      ∀ u : Value, (es.modify j fun e => { e with key := key k, val := u }).map (fun e => (e.key, e.val)) = (assocSet L k u).map (fun x => (key x.1, x.2))
  | [], [], i, _, ha => by simp [assoc] at ha
  | [], x :: L, i, h, ha => by simp at h
  | e :: es, [], i, h, _ => by simp at h
  | e :: es, x :: L, i, h, ha => by
    simp only [List.map_cons, List.cons.injEq, Prod.mk.injEq] at h
    obtain ⟨⟨h1, h2⟩, h3⟩ := h
    simp only [assoc] at ha
    by_cases hx : x.1 == k
    · have hxk : x.1 = k := by rw [beq_iff_eq] at hx; exact hx
      simp only [hx, if_true, Option.some.injEq] at ha
      refine ⟨0, ?_, by simp [h1, hxk], fun u => ?_⟩
      · unfold Instr.findNow
        rw [h1, hk.same, hxk, show (k == k) = true from by simp, h2, ha]; rfl
      · simp [assocSet, hxk, h3]
    · simp only [hx] at ha
      obtain ⟨j, g1, g2, g3⟩ := findNow_some hk k v es L (i + 1) h3 ha
      refine ⟨j + 1, ?_, by simpa using g2, fun u => ?_⟩
      · unfold Instr.findNow
        rw [h1, hk.same, show (k == x.1) = false from by
          rw [Bool.eq_false_iff]; intro h; exact hx (by rw [beq_iff_eq] at h ⊢; exact h.symm)]
        simp only
        rw [g1, show i + 1 + j = i + (j + 1) from by omega]
      · simp only [List.modify_succ_cons, List.map_cons, assocSet]
        rw [g3 u]
        simp [hx, h1, h2]

theorem run_lookup (hk : KeyLaw key d) (w : World) (t tk te : TypeId) (z : Value) (ht : P.underlying t = some (.map tk te)) (htk : P.underlying tk = some d) (hz : (zeroValue te).run P w = .ok z w)
    (m : Nat) (L : List (κ × Value)) (hm : KMap key w m L) (k : κ) :
    (Instr.lookup t (.map (some m)) (key k) true).run P w = .ok (.tuple #[(assoc L k).getD z, .bool (assoc L k).isSome]) w := by
  obtain ⟨es, c, h1, h2⟩ := hm
  have hc := hk.check P tk w es.isEmpty k htk
  cases ha : assoc L k with
  | none => simp [Instr.lookup, run_underlying ht, MapKept.run_getObj_map h1, hc, Instr.findKey, run_underlying htk, findNow_none hk k es.toList L 0 h2 ha, hz, Result.andThen]
  | some v =>
    obtain ⟨j, g1, _⟩ := findNow_some hk k v es.toList L 0 h2 ha
    simp [Instr.lookup, run_underlying ht, MapKept.run_getObj_map h1, hc, Instr.findKey, run_underlying htk, g1, Result.andThen]

theorem run_update (hk : KeyLaw key d) (w : World) (t tk te : TypeId) (ht : P.underlying t = some (.map tk te)) (htk : P.underlying tk = some d)
    (m : Nat) (L : List (κ × Value)) (hm : KMap key w m L) (k : κ) (v : Value) :
    ∃ w', (Instr.mapUpdate t (.map (some m)) (key k) v).run P w = .ok () w' ∧ KMap key w' m (assocSet L k v) ∧ Kp (fun b => b = m) w w' := by
  obtain ⟨es, c, h1, h2⟩ := hm
  have hc := hk.check P tk w false k htk
  have hml := heap_lt h1
  have hset : ∀ o : Obj, (setObj m o).run P w = .ok () { w with heap := w.heap.setIfInBounds m o } := fun o => by
    simp [setObj, Sem.run, h1]
  have hkp : ∀ o : Obj, Kp (fun b => b = m) w { w with heap := w.heap.setIfInBounds m o } := fun o =>
    ⟨rfl, rfl, rfl, by simp, fun b _ hb => by simp [Ne.symm hb]⟩
  have hget : ∀ o : Obj, (w.heap.setIfInBounds m o)[m]? = some o := fun o => by simp [hml]
  cases ha : assoc L k with
  | none =>
    refine ⟨{ w with heap := w.heap.setIfInBounds m (.map (es.push { key := key k, val := v, born := c }) (c + 1)) }, ?_, ⟨_, _, hget _, ?_⟩, hkp _⟩
    · simp [Instr.mapUpdate, run_underlying ht, MapKept.run_getObj_map h1, hc, Instr.findKey, run_underlying htk, findNow_none hk k es.toList L 0 h2 ha, hset, Result.andThen]
    · have : ∀ L : List (κ × Value), assoc L k = none → assocSet L k v = L ++ [(k, v)] := by
        intro L
        induction L with
        | nil => intro _; rfl
        | cons x r ih =>
          intro h
          simp only [assoc] at h
          by_cases hx : x.1 == k
          · simp [hx] at h
          · simp only [hx] at h
            simp [assocSet, hx, ih h]
      rw [this L ha]
      simp [h2]
  | some v0 =>
    obtain ⟨j, g1, g2, g3⟩ := findNow_some hk k v0 es.toList L 0 h2 ha
    have hkey : ((es[j]?).map (·.key)).getD (key k) = key k := by
      have : es[j]? = es.toList[j]? := by simp
      rw [this, g2]; rfl
    refine ⟨{ w with heap := w.heap.setIfInBounds m (.map (es.modify j fun e => { e with key := key k, val := v }) c) }, ?_, ⟨_, _, hget _, ?_⟩, hkp _⟩
    · simp only [Nat.zero_add] at g1
      simp [Instr.mapUpdate, run_underlying ht, MapKept.run_getObj_map h1, hc, Instr.findKey, run_underlying htk, g1, hkey, Instr.keyThatStays, hk.bits, hset, Result.andThen]
    · rw [Array.toList_modify]; exact g3 v

theorem assoc_set_same (L : List (κ × Value)) (k : κ) (v : Value) : assoc (assocSet L k v) k = some v := by
  induction L with
  | nil => simp [assocSet, assoc]
  | cons x r ih => by_cases hx : x.1 == k <;> simp [assocSet, assoc, hx, ih]
theorem assoc_set_other (L : List (κ × Value)) (k k' : κ) (v : Value) (h : k' ≠ k) : assoc (assocSet L k v) k' = assoc L k' := by
  induction L with
  | nil => simp [assocSet, assoc, Ne.symm h]
  | cons x r ih =>
    by_cases hx : x.1 == k
    · have : x.1 = k := by rw [beq_iff_eq] at hx; exact hx
      simp [assocSet, assoc, this, Ne.symm h]
    · simp [assocSet, assoc, hx, ih]
end

instance lawfulBytes : LawfulBEq ByteArray where
  rfl {a} := by
    show (a.data == a.data) = true
    simp
  eq_of_beq {a b} h := by
    have : a.data = b.data := by
      have h' : (a.data == b.data) = true := h
      simpa using h'
    cases a; cases b; simpa using this
theorem keyStr : KeyLaw Value.string .string where
  same _ _ := rfl
  bits a := by simp [Instr.sameBits]
  check P t w e a h := by
    unfold Instr.checkKey
    simp [run_underlying h]
theorem keyU64 : KeyLaw (fun x : UInt64 => Value.int .u64 (x.toNat : Int)) (.int .u64) where
  same a b := by
    simp only [Instr.sameNow, if_true]
    congr 1
    rw [Bool.eq_iff_iff]
    simp only [beq_iff_eq]
    constructor
    · intro h; exact UInt64.toNat_inj.1 (by omega)
    · rintro rfl; rfl
  bits a := by simp [Instr.sameBits]
  check P t w e a h := by
    unfold Instr.checkKey
    simp [run_underlying h]
end Go.Proofs.Ytdpgfjnpcjpdpaa
