/- Slices of stores of the call's own. -/
import Derived.Test.YtnfnonphccnbkaaStores
set_option linter.unusedVariables false
namespace Go.Proofs.Ytnfnonphccnbkaa
open Go.RowKit Go.Chron
theorem info_ptr : (Try.prog.info? 24).map (fun i => (i.zero, i.size, i.bytes)) = some (some (.pointer none), 1, 8) := by kernel_rfl
theorem StoreAt.chgG {w w' : World} {s b cnt : Nat} {g G : Option Nat} {L : List Sam} (h : StoreAt w s b g cnt L) (hG : ∀ k, G = some k → ∃ cur, Blk w k 24 cur) (hc : Chg (fun k => G = some k) w w') : StoreAt w' s b g cnt L := by
  refine h.chg hc (fun e => ?_) (fun e => ?_) (fun j hj e => ?_)
  · obtain ⟨cur, hb⟩ := hG _ e
    exact absurd (blk_typ h.st hb) (by decide)
  · obtain ⟨cur, hb⟩ := hG _ e
    obtain ⟨v, hv, _⟩ := h.ring.ex
    exact absurd (blk_typ hv hb) (by decide)
  · obtain ⟨cur, hb⟩ := hG _ e
    obtain ⟨v, _, ho⟩ := h.ring.ex
    obtain ⟨c', hc'⟩ := ho.blk hj
    exact absurd (blk_typ hc' hb) (by decide)
theorem StAt.chgG {w w' : World} {v : Value} {G : Option Nat} {L : List Sam} (h : StAt w v L) (hG : ∀ k, G = some k → ∃ cur, Blk w k 24 cur) (hc : Chg (fun k => G = some k) w w') : StAt w' v L := by
  rcases h with h | ⟨s, b, g, cnt, hv, h⟩
  · exact .inl h
  · exact .inr ⟨s, b, g, cnt, hv, h.chgG hG hc⟩
/-- A slice of pointers to stores, of the call's own. -/
structure StoresIn (w wr : World) (v : Value) (G : Option Nat) (P : List Value) (Ls : List (List Sam)) : Prop where
  sts : StsAt wr P Ls
  o : Owns wr 24 1 v G (P.map fun p => [p])
  n : ∀ k, G = some k → w.heap.size ≤ k
  c : Chg (fun _ => False) w wr
theorem StoresIn.chg0 {w wr w' : World} {v : Value} {G : Option Nat} {P : List Value} {Ls : List (List Sam)} (h : StoresIn w wr v G P Ls) (k : Chg (fun _ => False) wr w') : StoresIn w w' v G P Ls :=
  ⟨h.sts.chg0 k, h.o.chg k (fun _ _ h => h), h.n, h.c.trans k⟩
theorem StoresIn.add {w wr w' : World} {v v' p : Value} {G : Option Nat} {P : List Value} {Ls : List (List Sam)} {L : List Sam} {k : Nat} (h : StoresIn w wr v G P Ls) (hp : StAt wr p L) (hok : ∀ x ∈ L, x.Ok)
    (ho : Owns w' 24 1 v' (some k) ((P ++ [p]).map fun p => [p])) (hc : Chg (fun b => G = some b) wr w') (hk : G = some k ∨ wr.heap.size ≤ k) : StoresIn w w' v' (some k) (P ++ [p]) (Ls ++ [L]) := by
  have hG : ∀ k, G = some k → ∃ cur, Blk wr k 24 cur := fun k e => h.o.blk e
  refine ⟨⟨by simp [h.sts.len], fun i u M hu hM => ?_, fun M hM => ?_⟩, ho, fun j hj => ?_, h.c.trans' hc (fun i hi e => by have := h.n i e; omega)⟩
  · have hl := h.sts.len
    by_cases hi : i < P.length
    · rw [List.getElem?_append_left hi] at hu
      rw [List.getElem?_append_left (by omega)] at hM
      exact (h.sts.at_ i u M hu hM).chgG hG hc
    · have hi2 := (List.getElem?_eq_some_iff.1 hu).1
      rw [List.length_append] at hi2
      have : i = P.length := by simp at hi2; omega
      subst this
      rw [List.getElem?_append_right (Nat.le_refl _)] at hu
      rw [hl, List.getElem?_append_right (Nat.le_refl _)] at hM
      simp at hu hM
      subst hu
      subst hM
      exact hp.chgG hG hc
  · rcases List.mem_append.1 hM with h1 | h1
    · exact h.sts.ok M h1
    · simp at h1; subst h1; exact hok
  · cases hj
    rcases hk with h1 | h1
    · exact h.n _ h1
    · exact Nat.le_trans h.c.size h1
end Go.Proofs.Ytnfnonphccnbkaa
