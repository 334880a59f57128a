/- MedianMore: with the one in the middle added once more it stays; of some twice it is the same: the walk. -/
import Derived.Test.YtiflogohalceaaaGreatOrder
import Derived.Test.YtiflogohalceaaaGreatArgs
set_option linter.unusedVariables false
namespace Go.Chron
open Go Go.RowKit
/-- What came in as a list of numbers. -/
theorem ints_in {k : IntKind} {w : World} {a : Option Addr} {len cap : Nat} {els : List (List Value)} (h : FlatIn [.int k] w a len cap els) : ∃ zs, IntsIn k w a len cap zs := by
  have key : ∀ els : List (List Value), (∀ x ∈ els, okAll [.int k] x) → ∃ zs : List Int, els = zs.map (fun z => [.int k z]) ∧ ∀ z ∈ zs, (Lit.int k z).wf = true := by
    intro els
    induction els with
    | nil => intro _; exact ⟨[], rfl, by simp⟩
    | cons y els ih =>
      intro hx
      obtain ⟨zs, rfl, hw⟩ := ih (fun x hx' => hx x (List.mem_cons_of_mem _ hx'))
      obtain ⟨n, rfl, hn⟩ := ok_one_int (hx y (by simp))
      refine ⟨n :: zs, rfl, fun z hz => ?_⟩
      rcases List.mem_cons.1 hz with rfl | hz
      · exact hn
      · exact hw z hz
  obtain ⟨zs, rfl, hw⟩ := key els h.ok
  exact ⟨zs, by have := h.lenE; rw [List.length_map] at this; exact this, h.nilE, h.leE, h.capE, h.reads, hw⟩
theorem enc_each (k : IntKind) (zs : List Int) : ∀ y ∈ zs.map (fun z => [Value.int k z]), y.length = 1 := by intro x hx; obtain ⟨z, _, rfl⟩ := List.mem_map.1 hx; rfl
theorem enc_one (k : IntKind) (zs : List Int) : ∀ u ∈ (zs.map (fun z => [Value.int k z])).flatten, u.oneCell' = true := by intro u hu; obtain ⟨x, hx, hxu⟩ := List.mem_flatten.1 hu; obtain ⟨z, _, rfl⟩ := List.mem_map.1 hx; simp at hxu; subst hxu; rfl
end Go.Chron
