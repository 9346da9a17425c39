/- Commit: the tree of some leaves. -/
import Derived.Test.YtdpgfjnpcjpdpaaTree7
import Derived.Test.YtdpgfjnpcjpdpaaTake
import Derived.Test.YtdpgfjnpcjpdpaaCommitLaw
set_option linter.unusedSimpArgs false
namespace Go.Proofs.Ytdpgfjnpcjpdpaa
open Go.RowKit
attribute [local irreducible] perm fAdd fMul fPow fSub fNeg fRed hashU drawOf nextState

theorem OrcTo.setOther {w w' : World} {b : Nat} {M : Orc} {F F' : Nat → Prop} (h : OrcTo w b F M w' F') {g : Nat} (hg : w.heap.size ≤ g) (hn : ¬ F' g) (o : Nat) (u : Value) : OrcTo w b F M (w'.setCell ⟨g, o, none⟩ u) F' :=
  ⟨h.at'.kp ((Kp.refl (fun k => k = g) w').setCell (p := ⟨g, o, none⟩) (.inl rfl) u) (by rintro i hi rfl; exact hn hi), h.kp.setCell (.inr hg) u, h.new, h.old⟩
theorem OrcTo.apart {w w' : World} {b : Nat} {M : Orc} {F F' : Nat → Prop} (h : OrcTo w b F M w' F') {g : Nat} (hg : g < w.heap.size) (hF : ¬ F g) : ¬ F' g := fun hf => by
  rcases h.new g hf with h1 | h1
  · exact hF h1
  · omega
/-- What was there, in whatever blocks that are not of F, as long as only F turns. -/
def Stays (F : Nat → Prop) (w : World) (C : World → Prop) : Prop := ∀ w', Kp F w w' → C w'
theorem Stays.of_new {F : Nat → Prop} {w0 w : World} {C : World → Prop} (H : ∀ v, Ext w0 v → C v) (hx : Ext w0 w) (hF : ∀ k, F k → w0.heap.size ≤ k) : Stays F w C := fun _ k => H _ (hx.kp k hF)

def CommitT (w : World) (b : Nat) (M : Orc) (F : Nat → Prop) (leaves : Lv) (salts : List UInt64) (e : Ending) (w' : World) : Prop :=
  ∃ v L, e = .returned (.tuple #[.agg #[v], .int .i64 (if commitOk leaves salts then 0 else 1)]) ∧ L.map (·.1) = (M.commitT leaves salts).1 ∧ ∃ F', OrcTo w b F (M.commitT leaves salts).2 w' F' ∧ BesideL w w' F' v L
theorem commitT_no {w w' : World} {b : Nat} {M : Orc} {F : Nat → Prop} {leaves : Lv} {salts : List UInt64} (h : OrcAt w b M F) (hx : Ext w w') (hno : commitOk leaves salts = false) :
    CommitT w b M F leaves salts (.returned (.tuple #[.agg #[.slice none 0 0], .int .i64 1])) w' := by
  refine ⟨.slice none 0 0, [], by rw [hno]; rfl, ?_, F, ?_, ⟨⟨World.ownsRow_nil _ _ _ _, fun x hx => by cases hx⟩, (fun k hk => by cases hk), fun x hx => by cases hx⟩⟩
  · unfold Orc.commitT; rw [hno]; rfl
  · unfold Orc.commitT; rw [hno]; exact .of_ext h hx

set_option maxRecDepth 100000 in
set_option maxHeartbeats 3200000 in
theorem mCommit_bad {w : World} {b : Nat} {M : Orc} {F : Nat → Prop} {lv sv : Value} {leaves : Lv} {salts : List UInt64} (h : OrcAt w b M F) (hl : RdL w lv leaves) (hs : RdU' w sv salts)
    (hL : leaves.length ≤ 1000000000) (hE : ∀ l ∈ leaves, l.length ≤ 1000000000) (hS : salts.length ≤ 1000000000) (hno : commitOk leaves salts = false) :
    Calls Try.prog 25 #[.pointer (some ⟨b, 0, none⟩), lv, sv] w (CommitT w b M F leaves salts) := by
  obtain ⟨a, c, rfl, -⟩ := hl.shape
  have HS := hid hs
  obtain ⟨sa, sc, rfl, -⟩ := hs
  have hx : Ext w (w.alloc (.cells #[.slice none 0 0] 27)) := (Ext.refl w).alloc _
  have hb := heap_new w (.cells #[.slice none 0 0] 27)
  have HFIN := hid (commitT_no h hx hno)
  have HB := hid hb
  have HEL := hid (melements_any _ salts (w.alloc (.cells #[.slice none 0 0] 27)) (HS.out.ext hx) (by omega))
  have hck : commitOk leaves salts = (isNum leaves.length && (salts.length == leaves.length && (allE salts && leaves.all allE))) := rfl
  have d0 : (w.alloc (.cells #[.slice none 0 0] 27)).cell? ⟨w.heap.size, 0, none⟩ = some (.slice none 0 0) := cell_of hb 0
  have f0 : (w.alloc (.cells #[.slice none 0 0] 27)).frozen? ⟨w.heap.size, 0, none⟩ = false := frozen_of hb 0
  have HL := hid (hl.ext hx)
  have HE := hid hE
  have HX := hid hx
  have HNO := hid hno
  have HCK := hid hck
  clear h hl hx hb hE hno hck
  cases hn : isNum leaves.length with
  | false =>
    have HN := hid hn
    have HQ := hid (isNumber_len leaves.length (w.alloc (.cells #[.slice none 0 0] 27)))
    rw [hn] at HQ
    clear hn
    go_enter Try.func25, Try.ntmps25
    go_wp2_with fail
    refine HQ.out.mono ?_
    rintro e w1 ⟨rfl, rfl⟩
    go_wp2_with fail
    exact bodyPost_ret (v := .tuple #[.agg #[.slice none 0 0], .int .i64 1]) (by simp [results, Try.results25, go_sem, d0]) rfl HFIN.out
  | true =>
    have HN := hid hn
    have HQ := hid (isNumber_len leaves.length (w.alloc (.cells #[.slice none 0 0] 27)))
    rw [hn] at HQ
    clear hn
    by_cases hlen : salts.length = leaves.length
    · have hq : ((salts.length : Int) != (leaves.length : Int)) = false := by simp [hlen]
      have HLEN := hid hlen
      clear hlen
      cases hsa : allE salts with
      | false =>
        rw [hsa] at HEL
        clear hsa
        go_enter Try.func25, Try.ntmps25
        go_wp2_with fail
        refine HQ.out.mono ?_
        rintro e w1 ⟨rfl, rfl⟩
        go_wp2_with fail
        refine HEL.out.mono ?_
        rintro e w1 ⟨rfl, rfl⟩
        go_wp2_with fail
        exact bodyPost_ret (v := .tuple #[.agg #[.slice none 0 0], .int .i64 1]) (by simp [results, Try.results25, go_sem, d0]) rfl HFIN.out
      | true =>
        have HSA := hid hsa
        rw [hsa] at HEL
        clear hsa
        go_enter Try.func25, Try.ntmps25
        go_wp2_with fail
        refine HQ.out.mono ?_
        rintro e w1 ⟨rfl, rfl⟩
        go_wp2_with fail
        refine HEL.out.mono ?_
        rintro e w1 ⟨rfl, rfl⟩
        go_wp2_with fail
        go_loop [35] (fun iv => ∃ i : Nat, i ≤ leaves.length ∧ iv = .int .i64 i ∧ Hid ((leaves.take i).all allE = true)) (fun iv => leaves.length - (intOf iv).toNat)
        case atStart => exact ⟨0, by omega, rfl, hid rfl⟩
        case round =>
          obtain ⟨i, hi, rfl, hI⟩ := hrel
          by_cases hlt : i < leaves.length
          · obtain ⟨l, hkk⟩ : ∃ l, leaves[i]? = some l := ⟨_, List.getElem?_eq_getElem hlt⟩
            obtain ⟨b', o', y, d, rfl, hc, hr, -⟩ := HL.out.at hkk
            have hle := HE.out l (List.mem_of_getElem? hkk)
            have HKK := hid hkk
            have HR := hid (melements_any _ l _ hr (by omega))
            have hi0 : (0 : Int) ≤ (i : Int) := by omega
            clear hkk hr
            cases hla : allE l with
            | true =>
              rw [hla] at HR
              have hnext : (leaves.take (i + 1)).all allE = true := by
                rw [List.take_add_one, HKK.out, List.all_append, hI.out]; simp [hla]
              have HNX := hid hnext
              clear hnext hla
              go_wp2_with fail
              refine HR.out.mono ?_
              rintro e w1 ⟨rfl, rfl⟩
              go_wp2_with fail
              go_round
              case rel => exact ⟨i + 1, by omega, by go_num, HNX⟩
              case measure => simp [intOf]; omega
            | false =>
              rw [hla] at HR
              clear hla
              go_wp2_with fail
              refine HR.out.mono ?_
              rintro e w1 ⟨rfl, rfl⟩
              go_wp2_with fail
              exact bodyPost_ret (v := .tuple #[.agg #[.slice none 0 0], .int .i64 1]) (by simp [results, Try.results25, go_sem, d0]) rfl HFIN.out
          · exfalso
            have h1 := hI.out
            rw [List.take_of_length_le (by omega)] at h1
            have h2 := HNO.out
            rw [HCK.out, HN.out, HSA.out, h1, HLEN.out] at h2
            simp at h2
    · have hq : ((salts.length : Int) != (leaves.length : Int)) = true := by simp; omega
      clear hlen
      go_enter Try.func25, Try.ntmps25
      go_wp2_with fail
      refine HQ.out.mono ?_
      rintro e w1 ⟨rfl, rfl⟩
      go_wp2_with fail
      exact bodyPost_ret (v := .tuple #[.agg #[.slice none 0 0], .int .i64 1]) (by simp [results, Try.results25, go_sem, d0]) rfl HFIN.out
end Go.Proofs.Ytdpgfjnpcjpdpaa
