/- The k-th one of a list in order, by how many are below it: plain lemmas. -/
import Derived.Test.YtiflogohalceaaaGreatBase
set_option linter.unusedVariables false
namespace Go.Chron
open Go Go.RowKit
/-- A whole order, as a Bool. -/
structure Ord (α : Type) (le : α → α → Bool) : Prop where
  tot : ∀ x y, (le x y || le y x) = true
  trans : ∀ x y z, le x y = true → le y z = true → le x z = true
  anti : ∀ x y, le x y = true → le y x = true → x = y
section
variable {α : Type} {le : α → α → Bool}
theorem Ord.refl (h : Ord α le) (x : α) : le x x = true := by have := h.tot x x; simpa using this
theorem Ord.of_not (h : Ord α le) {x y : α} (hn : le x y = false) : le y x = true := by have := h.tot x y; rw [hn] at this; simpa using this
def loOf (le : α → α → Bool) (l : List α) (v : α) : Nat := l.countP (fun x => !le v x)
def upOf (le : α → α → Bool) (l : List α) (v : α) : Nat := l.countP (fun x => le x v)
theorem sorted_get (h : Ord α le) {s : List α} (hs : s.Pairwise (fun x y => le x y = true)) {i j : Nat} {x y : α} (hij : i ≤ j) (hx : s[i]? = some x) (hy : s[j]? = some y) : le x y = true := by
  by_cases e : i = j
  · subst e; rw [hx] at hy; cases hy; exact h.refl x
  · obtain ⟨hi, rfl⟩ := List.getElem?_eq_some_iff.1 hx
    obtain ⟨hj, rfl⟩ := List.getElem?_eq_some_iff.1 hy
    exact List.pairwise_iff_getElem.1 hs i j hi hj (by omega)
theorem sorted_counts (h : Ord α le) {s : List α} (hs : s.Pairwise (fun x y => le x y = true)) {k : Nat} {v : α} (hv : s[k]? = some v) : loOf le s v ≤ k ∧ k < upOf le s v := by
  obtain ⟨hk, hkv⟩ := List.getElem?_eq_some_iff.1 hv
  constructor
  · unfold loOf
    have e : s = s.take k ++ s.drop k := (List.take_append_drop k s).symm
    rw [e, List.countP_append]
    have h0 : (s.drop k).countP (fun x => !le v x) = 0 := by
      rw [List.countP_eq_zero]
      intro x hx
      obtain ⟨j, hj⟩ := List.mem_iff_getElem?.1 hx
      rw [List.getElem?_drop] at hj
      have := sorted_get h hs (Nat.le_add_right k j) hv hj
      simp [this]
    rw [h0]
    have := List.countP_le_length (p := fun x => !le v x) (l := s.take k)
    rw [List.length_take] at this
    omega
  · unfold upOf
    have e : s = s.take (k + 1) ++ s.drop (k + 1) := (List.take_append_drop (k + 1) s).symm
    rw [e, List.countP_append]
    have h0 : (s.take (k + 1)).countP (fun x => le x v) = (s.take (k + 1)).length := by
      rw [List.countP_eq_length]
      intro x hx
      obtain ⟨j, hj⟩ := List.mem_iff_getElem?.1 hx
      have hjk : j < k + 1 := by
        have := (List.getElem?_eq_some_iff.1 hj).1
        rw [List.length_take] at this; omega
      rw [List.getElem?_take_of_lt hjk] at hj
      exact sorted_get h hs (by omega) hj hv
    rw [h0, List.length_take]
    omega
theorem counts_unique (h : Ord α le) {l : List α} {k : Nat} {u v : α} (hu : loOf le l u ≤ k ∧ k < upOf le l u) (hv : loOf le l v ≤ k ∧ k < upOf le l v) : u = v := by
  have key : ∀ x y : α, le y x = false → upOf le l x ≤ loOf le l y := by
    intro x y hxy
    unfold upOf loOf
    apply List.countP_mono_left
    intro z _ hz
    cases hyz : le y z with
    | false => rfl
    | true => rw [h.trans y z x hyz hz] at hxy; cases hxy
  cases huv : le u v with
  | false => have := key v u huv; omega
  | true =>
    cases hvu : le v u with
    | false => have := key u v hvu; omega
    | true => exact h.anti u v huv hvu
def msort (le : α → α → Bool) (l : List α) : List α := l.mergeSort le
theorem msort_perm (l : List α) : (msort le l).Perm l := List.mergeSort_perm l le
theorem msort_len (l : List α) : (msort le l).length = l.length := (msort_perm l).length_eq
theorem msort_sorted (h : Ord α le) (l : List α) : (msort le l).Pairwise (fun x y => le x y = true) :=
  List.pairwise_mergeSort (fun a b c => h.trans a b c) (fun a b => h.tot a b) l
theorem lo_perm {l l' : List α} (hp : l.Perm l') (v : α) : loOf le l v = loOf le l' v := hp.countP_eq _
theorem up_perm {l l' : List α} (hp : l.Perm l') (v : α) : upOf le l v = upOf le l' v := hp.countP_eq _
/-- The k-th one, by counts. -/
theorem sel_iff (h : Ord α le) {l : List α} {k : Nat} (hk : k < l.length) (v : α) : (msort le l)[k]? = some v ↔ loOf le l v ≤ k ∧ k < upOf le l v := by
  constructor
  · intro hv
    have := sorted_counts h (msort_sorted h l) hv
    rw [lo_perm (msort_perm l), up_perm (msort_perm l)] at this
    exact this
  · intro hc
    obtain ⟨u, hu⟩ : ∃ u, (msort le l)[k]? = some u := ⟨_, List.getElem?_eq_getElem (by rw [msort_len]; exact hk)⟩
    have h1 := sorted_counts h (msort_sorted h l) hu
    rw [lo_perm (msort_perm l), up_perm (msort_perm l)] at h1
    rw [hu, counts_unique h h1 hc]
theorem msort_mem {l : List α} {v : α} : v ∈ msort le l ↔ v ∈ l := (msort_perm l).mem_iff
theorem msort_of_perm (h : Ord α le) {l l' : List α} (hp : l.Perm l') : msort le l = msort le l' := by
  apply List.ext_getElem?
  intro k
  by_cases hk : k < l.length
  · obtain ⟨u, hu⟩ : ∃ u, (msort le l)[k]? = some u := ⟨_, List.getElem?_eq_getElem (by rw [msort_len]; exact hk)⟩
    have h1 := (sel_iff h hk u).1 hu
    rw [lo_perm hp, up_perm hp] at h1
    rw [hu, (sel_iff h (by rw [← hp.length_eq]; exact hk) u).2 h1]
  · rw [List.getElem?_eq_none (by rw [msort_len]; omega), List.getElem?_eq_none (by rw [msort_len, ← hp.length_eq]; omega)]
end

/-! ### Of numbers -/
def ile (x y : Int) : Bool := decide (x ≤ y)
theorem ord_int : Ord Int ile := ⟨fun x y => by unfold ile; simp; omega, fun x y z h1 h2 => by unfold ile at *; simp at *; omega, fun x y h1 h2 => by unfold ile at *; simp at *; omega⟩
/-- The lower one in the middle. -/
def medOf (l : List Int) : Int := (msort ile l).getD ((l.length - 1) / 2) 0
theorem med_get {l : List Int} (hl : l ≠ []) : (msort ile l)[(l.length - 1) / 2]? = some (medOf l) := by
  have : 0 < l.length := List.length_pos_iff.2 hl
  obtain ⟨u, hu⟩ : ∃ u, (msort ile l)[(l.length - 1) / 2]? = some u := ⟨_, List.getElem?_eq_getElem (by rw [msort_len]; omega)⟩
  rw [hu]
  unfold medOf
  rw [List.getD_eq_getElem?_getD, hu]
  rfl
theorem medOf_nil : medOf [] = 0 := by unfold medOf msort; simp
theorem medOf_get {l : List Int} (hl : l ≠ []) : (msort ile l)[(l.length - 1) / 2]? = some (medOf l) := med_get hl
theorem med_iff {l : List Int} (hl : l ≠ []) (v : Int) : medOf l = v ↔ loOf ile l v ≤ (l.length - 1) / 2 ∧ (l.length - 1) / 2 < upOf ile l v := by
  have : 0 < l.length := List.length_pos_iff.2 hl
  rw [← sel_iff ord_int (by omega) v, med_get hl]
  simp
theorem med_mem {l : List Int} (hl : l ≠ []) : medOf l ∈ l := msort_mem.1 (List.mem_of_getElem? (med_get hl))
theorem lo_int (l : List Int) (v : Int) : loOf ile l v = l.countP (fun x => decide (x < v)) := by
  unfold loOf ile
  congr 1
  funext x
  by_cases h : v ≤ x <;> simp [h] <;> omega
theorem up_int (l : List Int) (v : Int) : upOf ile l v = l.countP (fun x => decide (x ≤ v)) := rfl
theorem med_perm {l l' : List Int} (hp : l.Perm l') : medOf l = medOf l' := by
  unfold medOf
  rw [msort_of_perm ord_int hp, hp.length_eq]
theorem med_shift {l : List Int} (hl : l ≠ []) (c : Int) : medOf (l.map (· + c)) = medOf l + c := by
  have h := (med_iff hl (medOf l)).1 rfl
  rw [med_iff (by simpa using hl), List.length_map, lo_int, up_int, List.countP_map, List.countP_map]
  rw [lo_int, up_int] at h
  have e1 : ((fun x => decide (x < medOf l + c)) ∘ fun x => x + c) = fun x => decide (x < medOf l) := by
    funext x
    show decide (x + c < medOf l + c) = decide (x < medOf l)
    by_cases hx : x < medOf l
    · rw [decide_eq_true hx, decide_eq_true (by omega)]
    · rw [decide_eq_false hx, decide_eq_false (by omega)]
  have e2 : ((fun x => decide (x ≤ medOf l + c)) ∘ fun x => x + c) = fun x => decide (x ≤ medOf l) := by
    funext x
    show decide (x + c ≤ medOf l + c) = decide (x ≤ medOf l)
    by_cases hx : x ≤ medOf l
    · rw [decide_eq_true hx, decide_eq_true (by omega)]
    · rw [decide_eq_false hx, decide_eq_false (by omega)]
  rw [e1, e2]
  exact h
theorem countP_not {α : Type} (l : List α) (p : α → Bool) : l.countP (fun x => !p x) + l.countP p = l.length := by
  induction l with
  | nil => rfl
  | cons x l ih =>
    rw [List.countP_cons, List.countP_cons, List.length_cons]
    cases hp : p x <;> simp <;> omega
/-- Of all the other sign it is the other one in the middle. -/
theorem med_neg {l : List Int} (hl : l ≠ []) {v : Int} (hv : (msort ile l)[l.length / 2]? = some v) : medOf (l.map (fun x => -x)) = -v := by
  have hlen : 0 < l.length := List.length_pos_iff.2 hl
  have h := (sel_iff ord_int (by omega) v).1 hv
  rw [med_iff (by simpa using hl), List.length_map, lo_int, up_int, List.countP_map, List.countP_map]
  rw [lo_int, up_int] at h
  have e1 : ((fun x => decide (x < -v)) ∘ fun x => -x) = fun x => !decide (x ≤ v) := by
    funext x
    show decide (-x < -v) = !decide (x ≤ v)
    by_cases hx : x ≤ v
    · rw [decide_eq_true hx, decide_eq_false (by omega)]; rfl
    · rw [decide_eq_false hx, decide_eq_true (by omega)]; rfl
  have e2 : ((fun x => decide (x ≤ -v)) ∘ fun x => -x) = fun x => !decide (x < v) := by
    funext x
    show decide (-x ≤ -v) = !decide (x < v)
    by_cases hx : x < v
    · rw [decide_eq_true hx, decide_eq_false (by omega)]; rfl
    · rw [decide_eq_false hx, decide_eq_true (by omega)]; rfl
  rw [e1, e2]
  have c1 := countP_not l (fun x => decide (x ≤ v))
  have c2 := countP_not l (fun x => decide (x < v))
  omega
theorem med_twice {l : List Int} (hl : l ≠ []) : medOf (l ++ l) = medOf l := by
  have hlen : 0 < l.length := List.length_pos_iff.2 hl
  have h := (med_iff hl (medOf l)).1 rfl
  rw [med_iff (by simpa using hl), List.length_append, lo_int, up_int, List.countP_append, List.countP_append]
  rw [lo_int, up_int] at h
  omega
theorem med_more {l : List Int} (hl : l ≠ []) : medOf (l ++ [medOf l]) = medOf l := by
  have hlen : 0 < l.length := List.length_pos_iff.2 hl
  have h := (med_iff hl (medOf l)).1 rfl
  rw [med_iff (by simp), List.length_append, lo_int, up_int, List.countP_append, List.countP_append]
  rw [lo_int, up_int] at h
  simp
  omega
/-- Fewer than half that lie: what is told is between the others. -/
theorem med_between {honest lies : List Int} (hl : lies.length < honest.length) {lo hi : Int} (h1 : ∀ x ∈ honest, lo ≤ x) (h2 : ∀ x ∈ honest, x ≤ hi) : lo ≤ medOf (honest ++ lies) ∧ medOf (honest ++ lies) ≤ hi := by
  have hne : honest ++ lies ≠ [] := by intro e; obtain ⟨rfl, _⟩ := List.append_eq_nil_iff.1 e; simp at hl
  have h := (med_iff hne (medOf (honest ++ lies))).1 rfl
  generalize medOf (honest ++ lies) = m at h ⊢
  rw [lo_int, up_int, List.length_append, List.countP_append, List.countP_append] at h
  have u1 := List.countP_le_length (p := fun x => decide (x < m)) (l := lies)
  have u2 := List.countP_le_length (p := fun x => decide (x ≤ m)) (l := lies)
  constructor
  · apply Int.not_lt.1
    intro hm
    have : honest.countP (fun x => decide (x ≤ m)) = 0 := by
      rw [List.countP_eq_zero]
      intro x hx
      have := h1 x hx
      simp; omega
    omega
  · apply Int.not_lt.1
    intro hm
    have : honest.countP (fun x => decide (x < m)) = honest.length := by
      rw [List.countP_eq_length]
      intro x hx
      have := h2 x hx
      simp; omega
    omega
/-! ### Of texts -/
def sle (x y : List UInt8) : Bool := decide (x ≤ y)
theorem ord_str : Ord (List UInt8) sle := ⟨fun x y => by unfold sle; simp; exact List.le_total x y, fun x y z h1 h2 => by unfold sle at *; simp only [decide_eq_true_eq] at *; exact List.le_trans h1 h2, fun x y h1 h2 => by unfold sle at *; simp only [decide_eq_true_eq] at *; exact List.le_antisymm h1 h2⟩
def medS (l : List (List UInt8)) : List UInt8 := (msort sle l).getD ((l.length - 1) / 2) []
theorem medS_nil : medS [] = [] := by unfold medS msort; simp
theorem medS_get {l : List (List UInt8)} (hl : l ≠ []) : (msort sle l)[(l.length - 1) / 2]? = some (medS l) := by
  have : 0 < l.length := List.length_pos_iff.2 hl
  obtain ⟨u, hu⟩ : ∃ u, (msort sle l)[(l.length - 1) / 2]? = some u := ⟨_, List.getElem?_eq_getElem (by rw [msort_len]; omega)⟩
  rw [hu]
  unfold medS
  rw [List.getD_eq_getElem?_getD, hu]
  rfl
end Go.Chron
