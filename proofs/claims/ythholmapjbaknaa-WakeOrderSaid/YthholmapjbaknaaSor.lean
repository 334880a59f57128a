/- A row sorted by a comparison that may lay blocks; what is due is the list sorted so. -/
import Derived.Test.YthholmapjbaknaaClo
set_option linter.unusedVariables false
set_option linter.unusedSectionVars false
namespace Go.Chron
open Go Go.RowKit Go.Sort Go.Proofs
section
variable {α : Type} [Inhabited α] {enc : α → Value} {w : World} {g n : Nat} {os : Array Obj} {cur : Array Value} {e : TypeId}
theorem sw_heap {fr : Nat × Nat} (d : Array α) (hb : w.heap[g]? = some (.cells cur e fr)) : (sortWorld enc w g 0 n d os).heap[g]? = some (.cells (putCells enc 0 d cur) e fr) := by
  have hg : g < w.heap.size := (Array.getElem?_eq_some_iff.1 hb).1
  unfold sortWorld
  rw [heap_grow_old _ _ (by simpa [putRow, mapBlock, Sort.ahead] using hg)]
  simp [putRow, mapBlock, Sort.ahead, Array.getElem?_modify, hb, onCells]
theorem sw_chg (d : Array α) : Chg (fun k => k = g) w (sortWorld enc w g 0 n d os) := by
  refine ⟨rfl, rfl, rfl, by simp [sortWorld, putRow, mapBlock, Sort.ahead], fun k hk hne => ?_⟩
  unfold sortWorld
  rw [heap_grow_old _ _ (by simpa [putRow, mapBlock, Sort.ahead] using hk)]
  have : g ≠ k := fun e => hne e.symm
  simp [putRow, mapBlock, Sort.ahead, Array.getElem?_modify, this]
theorem sw_take (cur : Array Value) (ts : List α) (h : ts.length ≤ cur.size) : (putCells enc 0 ts.toArray cur).toList.take ts.length = ts.map enc := by
  apply List.ext_getElem?
  intro j
  by_cases hj : j < ts.length
  · rw [List.getElem?_take_of_lt hj, Array.getElem?_toList]
    simp [putCells, hj, show j < cur.size by omega]
  · rw [List.getElem?_take_eq_none (by omega), List.getElem?_eq_none (by simp; omega)]
theorem flat_ones {β : Type} (f : β → Value) : ∀ l : List β, (l.map fun z => [f z]).flatten = l.map f
  | [] => rfl
  | x :: l => by simp [flat_ones f l]
theorem sw_holds {ss : List α} (hb : Blk w g e cur) (ht : cur.toList.take ss.length = ss.map enc) : Holds enc w g 0 ss.toArray := by
  intro j hj
  have hj' : j < ss.length := by simpa using hj
  refine ⟨?_, hb.frozen _⟩
  have h1 : (cur.toList.take ss.length)[j]? = (ss.map enc)[j]? := by rw [ht]
  rw [List.getElem?_take_of_lt hj', Array.getElem?_toList] at h1
  rw [hb.cell, Nat.zero_add, h1]
  simp [hj']
/-- Behind the sort the same slice owns the sorted list. -/
theorem sw_owns {cap : Nat} {ss ts : List α} (h : Owns w e 1 (.slice (some ⟨g, 0, none⟩) ss.length cap) (some g) (ss.map fun z => [enc z])) (hl : ts.length = ss.length) :
    Holds enc w g 0 ss.toArray ∧ Owns (sortWorld enc w g 0 n ts.toArray os) e 1 (.slice (some ⟨g, 0, none⟩) ts.length cap) (some g) (ts.map fun z => [enc z]) := by
  rcases h.row with ⟨_, h0, _⟩ | ⟨k, cap', cur, hk, hv, hb, h1, h2, h3, h4⟩
  · cases h0
  · cases hk
    simp only [Value.slice.injEq, true_and] at hv
    obtain ⟨-, rfl⟩ := hv
    rw [List.length_map] at h1 h4
    rw [Nat.mul_one, flat_ones] at h4
    refine ⟨sw_holds hb h4, ⟨by intro x hx; obtain ⟨z, _, rfl⟩ := List.mem_map.1 hx; rfl, .inr ⟨g, cap, _, rfl, by rw [List.length_map], sw_heap _ hb, by rw [List.length_map]; omega, h2, by simp [putCells, h3], ?_⟩⟩⟩
    rw [List.length_map, Nat.mul_one, flat_ones]
    exact sw_take cur ts (by omega)
end

section
variable {κ : Type} [DecidableEq κ] {L : List (Ent κ)}
instance (x y : Ent κ) : Decidable (dueLt x y) := by unfold dueLt; infer_instance
theorem dueC_lt (x y : Ent κ) : dueC x y < 0 ↔ dueLt x y := by
  unfold dueC dueLt Lib.compareInt
  repeat' split
  all_goals omega
theorem lt_due (x y : {e : Ent κ // e ∈ L}) : ltOf (fun x y : {e : Ent κ // e ∈ L} => dueC x.1 y.1) x y = decide (dueLt x.1 y.1) := by
  unfold ltOf
  exact decide_eq_decide.2 (dueC_lt x.1 y.1)
theorem due_swo : SWO (ltOf (fun x y : {e : Ent κ // e ∈ L} => dueC x.1 y.1)) where
  irrefl x := by rw [lt_due]; simp [dueLt]
  trans x y z h1 h2 := by rw [lt_due, decide_eq_true_eq] at *; unfold dueLt at *; omega
  ntrans x y z h1 h2 := by rw [lt_due, decide_eq_false_iff_not] at *; unfold dueLt at *; omega
theorem ent_eq_s (hr : L.Pairwise (fun a b => a.s < b.s)) {a b : Ent κ} (ha : a ∈ L) (hb : b ∈ L) (h : a.s = b.s) : a = b := by
  induction L with
  | nil => cases ha
  | cons c L ih =>
    obtain ⟨p1, p2⟩ := List.pairwise_cons.1 hr
    rcases List.mem_cons.1 ha with ea | ha'
    · rcases List.mem_cons.1 hb with eb | hb'
      · rw [ea, eb]
      · have := p1 b hb'; rw [← ea, h] at this; omega
    · rcases List.mem_cons.1 hb with eb | hb'
      · have := p1 a ha'; rw [← eb, h] at this; omega
      · exact ih p2 ha' hb'
theorem due_tot (hr : L.Pairwise (fun a b => a.s < b.s)) (x y : {e : Ent κ // e ∈ L}) (h1 : ltOf (fun x y : {e : Ent κ // e ∈ L} => dueC x.1 y.1) x y = false) (h2 : ltOf (fun x y : {e : Ent κ // e ∈ L} => dueC x.1 y.1) y x = false) : x = y := by
  rw [lt_due, decide_eq_false_iff_not] at h1 h2
  apply Subtype.ext
  refine ent_eq_s hr x.2 y.2 ?_
  unfold dueLt at *
  omega
def dueSort (A : List {e : Ent κ // e ∈ L}) : List {e : Ent κ // e ∈ L} := A.mergeSort fun x y => !(ltOf (fun x y : {e : Ent κ // e ∈ L} => dueC x.1 y.1)) y x
theorem dueSort_perm (A : List {e : Ent κ // e ∈ L}) : (dueSort A).Perm A := List.mergeSort_perm _ _
theorem dueSort_is (hr : L.Pairwise (fun a b => a.s < b.s)) {h : Int} (A : List {e : Ent κ // e ∈ L}) (hA : (A.map (·.1)).Perm (L.filter (fun e => decide (e.d ≤ h)))) : IsDue L h ((dueSort A).map (·.1)) := by
  have hnd : L.Nodup := hr.imp (fun h e => by rw [e] at h; omega)
  have hp := (dueSort_perm A).map (·.1)
  have hnd2 : ((dueSort A).map (·.1)).Nodup := (hp.trans hA).nodup_iff.2 (hnd.filter _)
  refine ⟨hp.trans hA, ?_⟩
  have hs : (dueSort A).Pairwise (fun x y => (!(ltOf (fun x y : {e : Ent κ // e ∈ L} => dueC x.1 y.1)) y x) = true) := by
    refine List.pairwise_mergeSort (fun a b c h1 h2 => ?_) (fun a b => ?_) A
    · rw [lt_due] at *
      simp only [Bool.not_eq_true', decide_eq_false_iff_not] at *
      unfold dueLt at *; omega
    · rw [lt_due, lt_due]
      simp only [Bool.or_eq_true, Bool.not_eq_true', decide_eq_false_iff_not]
      unfold dueLt; omega
  rw [List.pairwise_map]
  have hnd3 := List.pairwise_map.1 hnd2
  refine (hs.and hnd3).imp ?_
  rintro x y ⟨h1, h2⟩
  rw [lt_due] at h1
  simp only [Bool.not_eq_true', decide_eq_false_iff_not] at h1
  have hne : x.1.s ≠ y.1.s := fun e => h2 (ent_eq_s hr x.2 y.2 e)
  unfold dueLt at *
  omega
end
end Go.Chron
