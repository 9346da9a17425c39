/- Parcels: in a list. -/
import Derived.Test.YtgfmjfkdogcnhaaGreatEnv
set_option linter.unusedSimpArgs false
namespace Go.Proofs.YtgfmjfkdogcnhaaGreat
open Go.RowKit
structure Pc where
  num : Int
  owner : UInt64
  a : E2
  n : Nt
  e : UInt64
abbrev Pc.cells (x : Pc) : List Value := [.int .i64 x.num, uv x.owner, uv x.a.a, uv x.a.b, uv x.n.value, uv x.n.owner, uv x.n.rho, uv x.n.blind, uv x.e]
/-- A slice that reads as a list of parcels. -/
def RdP (w : World) (v : Value) (l : List Pc) : Prop :=
  ∃ a c, v = .slice a l.length c ∧ l.length ≤ c ∧ c ≤ maxLen ∧ (a = none → c = 0) ∧ ∀ ad, a = some ad → ad.spot = none ∧ ∀ (i : Nat) (x : Pc), l[i]? = some x → ∀ (j : Nat) (u : Value), x.cells[j]? = some u → w.cell? ⟨ad.block, ad.off + i * 9 + j, none⟩ = some u
theorem RdP.ext {w w' : World} {v : Value} {l : List Pc} (h : RdP w v l) (k : Ext w w') : RdP w' v l := by
  obtain ⟨a, c, rfl, h2, h3, h4, h5⟩ := h
  exact ⟨a, c, rfl, h2, h3, h4, fun ad ha => ⟨(h5 ad ha).1, fun i x hx j u hu => k.cell_some ((h5 ad ha).2 i x hx j u hu)⟩⟩
theorem RdP.at {w : World} {a : Option Addr} {n c : Nat} {l : List Pc} (h : RdP w (.slice a n c) l) {i : Nat} {x : Pc} (hx : l[i]? = some x) :
    ∃ b o, a = some ⟨b, o, none⟩ ∧ w.cell? ⟨b, o + i * 9, none⟩ = some (.int .i64 x.num) ∧ w.cell? ⟨b, o + i * 9 + 1, none⟩ = some (uv x.owner) ∧ w.cell? ⟨b, o + i * 9 + 2, none⟩ = some (uv x.a.a) ∧ w.cell? ⟨b, o + i * 9 + 3, none⟩ = some (uv x.a.b) ∧
      w.cell? ⟨b, o + i * 9 + 4, none⟩ = some (uv x.n.value) ∧ w.cell? ⟨b, o + i * 9 + 5, none⟩ = some (uv x.n.owner) ∧ w.cell? ⟨b, o + i * 9 + 6, none⟩ = some (uv x.n.rho) ∧ w.cell? ⟨b, o + i * 9 + 7, none⟩ = some (uv x.n.blind) ∧ w.cell? ⟨b, o + i * 9 + 8, none⟩ = some (uv x.e) := by
  obtain ⟨a', c', he, hlc, -, hnil, hcell⟩ := h
  injection he with h1 h2 h3
  subst h1
  have hi : i < l.length := (List.getElem?_eq_some_iff.1 hx).1
  cases a with
  | none => have := hnil rfl; omega
  | some ad =>
    obtain ⟨hs, hc⟩ := hcell ad rfl
    obtain ⟨b, o, s⟩ := ad
    simp only at hs
    subst hs
    have h := hc i x hx
    exact ⟨b, o, rfl, h 0 _ rfl, h 1 _ rfl, h 2 _ rfl, h 3 _ rfl, h 4 _ rfl, h 5 _ rfl, h 6 _ rfl, h 7 _ rfl, h 8 _ rfl⟩
end Go.Proofs.YtgfmjfkdogcnhaaGreat
