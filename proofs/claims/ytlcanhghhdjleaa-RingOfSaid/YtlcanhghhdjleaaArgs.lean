/- What the walks are told of the arguments: plain lemmas. -/
import Derived.Test.YtlcanhghhdjleaaBase
set_option linter.unusedVariables false
namespace Go.Chron
open Go Go.RowKit

/-- What is known of a slice of integers that came in: it is nil; or it leads to a row of 'cap' cells, the numbers 'zs' (the first 'len' are its elements). -/
def IsRow (k : IntKind) (w : World) (a : Option Addr) (len cap : Nat) (zs : List Int) : Prop :=
  (a = none ∧ len = 0 ∧ cap = 0 ∧ zs = []) ∨
  ∃ x, a = some x ∧ len ≤ cap ∧ cap ≤ maxLen ∧ zs.length = cap ∧ (∀ i, i < zs.length → w.cell? (x.add i) = some (.int k (zs.getD i 0))) ∧ ∀ n ∈ zs, (Lit.int k n).wf = true

/-- The same, of its elements alone. -/
structure IntsIn (k : IntKind) (w : World) (a : Option Addr) (len cap : Nat) (zs : List Int) : Prop where
  lenE : len = zs.length
  nilE : a = none → len = 0 ∧ cap = 0
  leE : len ≤ cap
  capE : cap ≤ 9223372036854775807
  reads : Reads w 1 a (zs.map fun z => [.int k z])
  wf : ∀ z ∈ zs, (Lit.int k z).wf = true

theorem IsRow.ints {k : IntKind} {w : World} {a : Option Addr} {len cap : Nat} {zs : List Int} (h : IsRow k w a len cap zs) : IntsIn k w a len cap (zs.take len) := by
  rcases h with ⟨rfl, rfl, rfl, rfl⟩ | ⟨x, rfl, hl, hm, hz, hc, hw⟩
  · exact ⟨rfl, fun _ => ⟨rfl, rfl⟩, Nat.le_refl _, by omega, fun h => by simp at h, by simp⟩
  · refine ⟨by rw [List.length_take]; omega, (by intro h; cases h), hl, by simpa [maxLen] using hm, fun hp => ?_, fun z hz' => hw z (List.mem_of_mem_take hz')⟩
    have hp' : 0 < zs.length := by simp at hp; omega
    obtain ⟨b, off, spot⟩ := x
    have hspot : spot = none := by simpa [Addr.add] using World.cell?_spot (hc 0 hp')
    subst hspot
    refine ⟨b, off, rfl, fun i y hy j u hu => ?_⟩
    rw [List.getElem?_map] at hy
    obtain ⟨z, hz1, rfl⟩ := Option.map_eq_some_iff.1 hy
    match j, hu with
    | 0, hu =>
      simp at hu
      subst hu
      have hi : i < zs.length := by
        have := (List.getElem?_eq_some_iff.1 hz1).1
        rw [List.length_take] at this
        omega
      have h2 := hc i hi
      rw [Addr.add_lit] at h2
      rw [Nat.mul_one, Nat.add_zero, h2]
      have : zs[i]? = some z := by
        rw [List.getElem?_take] at hz1
        split at hz1
        · exact hz1
        · cases hz1
      simp [List.getD, this]

theorem IntsIn.cell {k : IntKind} {w : World} {a : Option Addr} {len cap : Nat} {zs : List Int} (h : IntsIn k w a len cap zs) (hp : 0 < len) :
    ∃ b off, a = some ⟨b, off, none⟩ ∧ b < w.heap.size ∧ ∀ i z, zs[i]? = some z → w.cell? ⟨b, off + i, none⟩ = some (.int k z) := by
  have hlen := h.lenE
  obtain ⟨b, off, rfl, hc⟩ := h.reads (by simp; omega)
  have key : ∀ i z, zs[i]? = some z → w.cell? ⟨b, off + i, none⟩ = some (.int k z) := fun i z hz => by
    have := hc i [.int k z] (by simp [hz]) 0 _ rfl
    simpa using this
  refine ⟨b, off, rfl, ?_, key⟩
  exact World.block_lt_of_cell? _ _ (key 0 _ (List.getElem?_eq_getElem (by omega)))

end Go.Chron
