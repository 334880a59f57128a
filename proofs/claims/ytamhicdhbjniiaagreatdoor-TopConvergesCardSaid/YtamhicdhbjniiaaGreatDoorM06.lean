/- A region that draws its order, by an invariant of what has come up. The k-th one of a list in order, by how many are below it: plain lemmas. Slices that begin anywhere in their block: append, and the first one off. A slice that begins anywhere in its block: an element stored anew, two exchanged. -/
import Derived.Test.YtamhicdhbjniiaaGreatDoorM05
import Derived.Deep.RegionHeld
import Derived.ArgAppend
set_option linter.unusedVariables false
section
namespace Go
section
variable {P : Program} {ops : Array Oper} {Q : Exit → Act → World → Prop} {md : Region.Mode} {S : World → Prop}
def unl (l : Array Bool) : Nat := l.toList.count false
theorem count_set_true : ∀ (l : List Bool) (i : Nat), l[i]? = some false → (l.set i true).count false + 1 = l.count false
 | [], i, h => by simp at h
 | x :: r, 0, h => by
  simp at h
  subst h
  simp
 | x :: r, i + 1, h => by
  have := count_set_true r i (by simpa using h)
  simp only [List.set_cons_succ, List.count_cons]
  omega
theorem unl_set {l : Array Bool} {i : Nat} (h : l.getD i true = false) : unl (l.setIfInBounds i true) + 1 = unl l := by
 unfold unl
 rw [Array.toList_setIfInBounds]
 refine count_set_true _ _ ?_
 rw [Array.getElem?_toList]
 rcases Nat.lt_or_ge i l.size with hi | hi
 ·simp [hi] at h ⊢
  exact h
 ·simp [Array.getElem?_eq_none hi] at h
theorem unl_zero {l : Array Bool} (h : unl l = 0) (i : Nat) (hi : i < l.size) : l.getD i false = true := by
 have h1 : (false : Bool) ∉ l.toList := List.count_eq_zero.1 h
 cases hb : l.getD i false with
 | true => rfl
 | false =>
  exfalso
  apply h1
  simp [hi] at hb
  rw [← hb]
  simp
theorem ready_nil {l : Array Bool} (hls : l.size = ops.size) (hdep : ∀ (i : Nat) (o : Oper), ops[i]? = some o → ∀ e ∈ o.after, e.on < i) (h : Region.ready md ops l = []) : ∀ i, i < ops.size → l.getD i false = true := by
 intro i
 induction i using Nat.strongRecOn with
 | ind i ih =>
  intro hi
  cases hb : l.getD i false with
  | true => rfl
  | false =>
   exfalso
   have : i ∈ Region.ready md ops l := mem_ready.2 ⟨by
    rw [← hls] at hi
    simp [hi] at hb ⊢
    exact hb, ops[i], Array.getElem?_eq_getElem hi, fun e he _ => ih e.on (hdep i _ (Array.getElem?_eq_getElem hi) e he) (Nat.lt_trans (hdep i _ (Array.getElem?_eq_getElem hi) e he) hi)⟩
   rw [h] at this
   cases this
def depOk (ops : Array Oper) : Bool := (List.range ops.size).all fun i => match ops[i]? with
 | some o => o.after.all fun e => decide (e.on < i)
 | none => true
theorem depOk_spec (h : depOk ops = true) (i : Nat) (o : Oper) (ho : ops[i]? = some o) : ∀ e ∈ o.after, e.on < i := by
 intro e he
 have hlt : i < ops.size := (Array.getElem?_eq_some_iff.1 ho).1
 unfold depOk at h
 rw [List.all_eq_true] at h
 have := h i (List.mem_range.2 hlt)
 rw [ho] at this
 simp only [Array.all_eq_true_iff_forall_mem, decide_eq_true_eq] at this
 exact this e he
def depsOf (md : Region.Mode) (ops : Array Oper) (i : Nat) : List Nat := ((ops[i]?).map fun o => (o.after.toList.filter fun e => Region.binds md e).map (·.on)).getD []
theorem wpAnyH_steps {I : Nat → Array Bool → Act → World → Prop} (hdep : ∀ (i : Nat) (o : Oper), ops[i]? = some o → ∀ e ∈ o.after, e.on < i)
  (hstep : ∀ f l a w i, I (f + 1) l a w → l.size = ops.size → i < ops.size → l.getD i false = false → (∀ j, (depsOf md ops i).contains j = true → l.getD j false = true) → wpOp P ops Q i (fun a' w' => S w' ∧ I f (l.setIfInBounds i true) a' w') a w)
  (hend : ∀ f l a w, I f l a w → (∀ i, i < ops.size → l.getD i false = true) → Q .normal a w) :
  ∀ (fuel : Nat) (l : Array Bool) (a : Act) (w : World), l.size = ops.size → unl l ≤ fuel → I fuel l a w → wpAnyH P md ops Q S fuel l a w := by
 intro fuel
 induction fuel with
 | zero =>
  intro l a w hls hu hI
  have hall := fun i hi => unl_zero (by omega : unl l = 0) i hi
  refine ⟨?_, hend _ _ _ _ hI (fun i hi => hall i (by omega))⟩
  cases hr : Region.ready md ops l with
  | nil => rfl
  | cons x r =>
   have hx : x ∈ Region.ready md ops l := by rw [hr]; simp
   obtain ⟨h1, o, ho, _⟩ := mem_ready.1 hx
   have hlt : x < ops.size := (Array.getElem?_eq_some_iff.1 ho).1
   have := hall x (by omega)
   have hlt2 : x < l.size := by omega
   simp [hlt2] at h1 this
   rw [h1] at this
   cases this
 | succ f ih =>
  intro l a w hls hu hI
  refine ⟨fun hr => hend _ _ _ _ hI (ready_nil hls hdep hr), fun i hi => ?_⟩
  obtain ⟨h1, o, ho, h2⟩ := mem_ready.1 hi
  have hlt : i < ops.size := (Array.getElem?_eq_some_iff.1 ho).1
  have hlt2 : i < l.size := by omega
  have h1' : l.getD i false = false := by
   simp [hlt2] at h1 ⊢
   exact h1
  refine wpOp_mono (fun a' w' h => ⟨h.1, ih _ _ _ (by rw [Array.size_setIfInBounds]; exact hls) (by have := unl_set h1; omega) h.2⟩) (hstep f l a w i hI hls hlt h1' (fun j hj => ?_))
  unfold depsOf at hj
  rw [ho] at hj
  simp only [Option.map_some, Option.getD_some, List.contains_iff_mem, List.mem_map, List.mem_filter] at hj
  obtain ⟨e, ⟨he, hb⟩, rfl⟩ := hj
  exact h2 e (by simpa using he) hb
/-! A condition that holds till one operation (the first store, say) comes up: loads that it waits for may be taken first. -/
def closedB (md : Region.Mode) (ops : Array Oper) (l : Array Bool) : Bool :=
 (l.size == ops.size) && (List.range ops.size).all fun j => !(l.getD j false) || (depsOf md ops j).all fun k => l.getD k false
theorem closedB_spec {l : Array Bool} (h : closedB md ops l = true) {j k : Nat} (hj : j < ops.size) (hl : l.getD j false = true) (hk : (depsOf md ops j).contains k = true) : l.getD k false = true := by
 unfold closedB at h
 rw [Bool.and_eq_true, List.all_eq_true] at h
 have := h.2 j (List.mem_range.2 hj)
 rw [hl] at this
 simp only [Bool.not_true, Bool.false_or, List.all_eq_true] at this
 exact this k (by simpa using hk)
theorem closedB_size {l : Array Bool} (h : closedB md ops l = true) : l.size = ops.size := by
 unfold closedB at h
 rw [Bool.and_eq_true] at h
 exact eq_of_beq h.1
theorem closedB_set {l : Array Bool} (h : closedB md ops l = true) {i : Nat} (hi : i ∈ Region.ready md ops l) : closedB md ops (l.setIfInBounds i true) = true := by
 have hs := closedB_size h
 unfold closedB
 rw [Bool.and_eq_true, List.all_eq_true]
 refine ⟨by rw [Array.size_setIfInBounds, hs]; exact beq_self_eq_true _, fun j hj => ?_⟩
 have hj' := List.mem_range.1 hj
 cases hb : (l.setIfInBounds i true).getD j false with
 | false => rfl
 | true =>
  simp only [Bool.not_true, Bool.false_or, List.all_eq_true]
  intro k hk
  refine getD_set_true ?_
  by_cases hij : j = i
  ·subst hij
   obtain ⟨_, o, ho, hall⟩ := mem_ready.1 hi
   unfold depsOf at hk
   rw [ho] at hk
   simp only [Option.map_some, Option.getD_some, List.mem_map, List.mem_filter] at hk
   obtain ⟨e, ⟨he, hbd⟩, rfl⟩ := hk
   exact hall e (by simpa using he) hbd
  ·rw [getD_set_ne false (fun e => hij e.symm)] at hb
   exact closedB_spec h hj' hb (by simpa using hk)
def wpTill (P : Program) (md : Region.Mode) (ops : Array Oper) (Q : Exit → Act → World → Prop) (s : Nat) (S : World → Prop) : Nat → Array Bool → Act → World → Prop
 | 0, l, a, w => Region.ready md ops l = [] ∧ Q .normal a w
 | f + 1, l, a, w => (Region.ready md ops l = [] → Q .normal a w) ∧ ∀ i ∈ Region.ready md ops l, wpOp P ops Q i (fun a' w' => ((l.setIfInBounds i true).getD s true = false → S w') ∧ wpTill P md ops Q s S f (l.setIfInBounds i true) a' w') a w
theorem wpAny_of_till {s : Nat} : ∀ (f : Nat) (l : Array Bool) (a : Act) (w : World), wpTill P md ops Q s S f l a w → wpAny P md ops Q f l a w
 | 0, _, _, _, h => h
 | f + 1, _, _, _, h => ⟨h.1, fun i hi => wpOp_mono (fun a' w' h' => wpAny_of_till f _ a' w' h'.2) (h.2 i hi)⟩
theorem wpTill_first {S' : World → Prop} {s i : Nat} {oi : Oper} {v : Value} (hi : ops[i]? = some oi) (hsi : i ≠ s) (hsel : ∀ (j : Nat) (o : Oper) cs b, ops[j]? = some o → o.op ≠ .select cs b)
  (hQ : ∀ c a w, Q (.panic c) (a.put oi.dst v) w → Q (.panic c) a w) (hT : ∀ l w, closedB md ops l = true → l.getD i true = false → (l.getD s true = false → S w) → S' w) :
  ∀ (f : Nat) (l : Array Bool) (a : Act) (w : World),
   (∀ j oj, ops[j]? = some oj → j ≠ i → l.getD j true = false → (∀ e ∈ oj.after, Region.binds md e = true → e.on ≠ i) → oi.apart ops oj = true) →
   i ∈ Region.ready md ops l → closedB md ops l = true → YieldsIf P ops S' oi v a → (l.getD s true = false → S w) →
   wpTill P md ops Q s S f (l.setIfInBounds i true) (a.put oi.dst v) w → wpTill P md ops Q s S (f + 1) l a w := by
 intro f
 induction f with
 | zero =>
  intro l a w _ hr hc hy hS H
  refine ⟨fun h => (by rw [h] at hr; cases hr), fun j hj => ?_⟩
  by_cases hji : j = i
  ·subst hji
   exact hy.wpOp hi (hT l w hc (mem_ready.1 hr).1 hS) ⟨fun h => hS (by rwa [getD_set_ne true hsi] at h), H⟩
  ·have := ready_mono hj hji
   rw [H.1] at this
   cases this
 | succ f ih =>
  intro l a w hfree hr hc hy hS H
  refine ⟨fun h => (by rw [h] at hr; cases hr), fun j hj => ?_⟩
  by_cases hji : j = i
  ·subst hji
   exact hy.wpOp hi (hT l w hc (mem_ready.1 hr).1 hS) ⟨fun h => hS (by rwa [getD_set_ne true hsi] at h), H⟩
  ·have h1 := H.2 j (ready_mono hj hji)
   obtain ⟨hjun, oj, hoj, hall⟩ := mem_ready.1 hj
   have hnot : ∀ e ∈ oj.after, Region.binds md e = true → e.on ≠ i := fun e he hb heq => by
    have h1 := hall e he hb
    have h0 := (mem_ready.1 hr).1
    rw [heq] at h1
    rcases Nat.lt_or_ge i l.size with h' | h'
    ·simp [h'] at h0 h1
     rw [h0] at h1
     cases h1
    ·simp [Array.getElem?_eq_none h'] at h1
   have h2 := wpOp_putIf hoj (hfree j oj hoj hji hjun hnot) (fun cs b => hsel i oi cs b hi) (fun cs b => hsel j oj cs b hoj) hQ hy h1
   refine wpOp_mono (fun a' w' h3 => ?_) h2
   have hS2 : (l.setIfInBounds j true).getD s true = false → S w' := fun h => h3.2.1 (by rw [Array.setIfInBounds_comm _ _ (fun e => hji e.symm), getD_set_ne true hsi]; exact h)
   refine ⟨hS2, ih (l.setIfInBounds j true) a' w' (fun k ok hk hki hun hno => hfree k ok hk hki (by
    by_cases hjk : j = k
    ·subst hjk; exact hjun
    ·rwa [getD_set_ne true hjk] at hun) hno) (ready_mono hr (fun e => hji e.symm)) (closedB_set hc hj) h3.1 hS2 ?_⟩
   have h4 := h3.2.2
   rwa [Array.setIfInBounds_comm _ _ (fun e => hji e.symm)] at h4
theorem wpTill_pure {s i : Nat} {oi : Oper} {v : Value} {f : Nat} {l : Array Bool} {a : Act} {w : World} (hi : ops[i]? = some oi) (hsi : (i == s) = false)
  (hs : Region.noSelect ops = true) (hf : Region.free md ops l i = true) (hr : (Region.ready md ops l).contains i = true) (hc : closedB md ops l = true)
  (hQ : ∀ c a w, Q (.panic c) (a.put oi.dst v) w → Q (.panic c) a w) (hy : YieldsIf P ops (fun _ => True) oi v a) (hS : l.getD s true = false → S w)
  (h : wpTill P md ops Q s S f (l.setIfInBounds i true) (a.put oi.dst v) w) : wpTill P md ops Q s S (f + 1) l a w :=
 wpTill_first (S' := fun _ => True) hi (by simpa using hsi) (Region.noSelect_spec hs) hQ (fun _ _ _ _ _ => trivial) f l a w (Region.free_spec hi hf) (by simpa using hr) hc hy hS h
theorem wpTill_load {s i : Nat} {oi : Oper} {v : Value} {f : Nat} {l : Array Bool} {a : Act} {w : World} (hi : ops[i]? = some oi) (hsi : (i == s) = false)
  (hs : Region.noSelect ops = true) (hf : Region.free md ops l i = true) (hr : (Region.ready md ops l).contains i = true) (hc : closedB md ops l = true) (hd : (decide (s < ops.size) && (depsOf md ops s).contains i) = true)
  (hQ : ∀ c a w, Q (.panic c) (a.put oi.dst v) w → Q (.panic c) a w) (hy : YieldsIf P ops S oi v a) (hS : l.getD s true = false → S w)
  (h : wpTill P md ops Q s S f (l.setIfInBounds i true) (a.put oi.dst v) w) : wpTill P md ops Q s S (f + 1) l a w := by
 rw [Bool.and_eq_true, decide_eq_true_eq] at hd
 refine wpTill_first (S' := S) hi (by simpa using hsi) (Region.noSelect_spec hs) hQ (fun l' w' hc' hl' hT => hT ?_) f l a w (Region.free_spec hi hf) (by simpa using hr) hc hy hS h
 have hsz := closedB_size hc'
 have hs1 : s < l'.size := by omega
 cases hb : l'.getD s true with
 | false => rfl
 | true =>
  have h1 : l'.getD s false = true := by
   simp [hs1] at hb ⊢
   exact hb
  have h2 := closedB_spec hc' hd.1 h1 hd.2
  rcases Nat.lt_or_ge i l'.size with h' | h'
  ·simp [h'] at h2 hl'
   rw [hl'] at h2
   cases h2
  ·simp [Array.getElem?_eq_none h'] at h2
theorem wpTill_one {s i : Nat} {oi : Oper} {f : Nat} {l : Array Bool} {a : Act} {w : World} (hi : ops[i]? = some oi) (hr : Region.ready md ops l = [i])
  (h : ∀ K' : Act → World → Prop, (∀ a' w', ((l.setIfInBounds i true).getD s true = false → S w') ∧ wpTill P md ops Q s S f (l.setIfInBounds i true) a' w' → K' a' w') → if Region.wanted oi (yielded ops a.tmps) = true then Oper.wp P oi a w K' Q else K' (a.put oi.dst undef) w) : wpTill P md ops Q s S (f + 1) l a w :=
 ⟨fun h0 => (by rw [hr] at h0; cases h0), fun j hj => by
  rw [hr] at hj
  rw [List.mem_singleton.1 hj]
  exact wpOp_step hi h⟩
theorem andS {p q r : Prop} (hp : p) (h : p → q) : (r → p) ∧ q := ⟨fun _ => hp, h hp⟩
def TillAll (P : Program) (md : Region.Mode) (ops : Array Oper) (Q : Exit → Act → World → Prop) (s : Nat) (S : World → Prop) (f : Nat) (l : Array Bool) (a : Act) (w : World) (rs : List Nat) : Prop :=
 ∀ i ∈ rs, wpOp P ops Q i (fun a' w' => ((l.setIfInBounds i true).getD s true = false → S w') ∧ wpTill P md ops Q s S f (l.setIfInBounds i true) a' w') a w
theorem TillAll.nil {s f : Nat} {l : Array Bool} {a : Act} {w : World} : TillAll P md ops Q s S f l a w [] := fun _ h => by cases h
theorem TillAll.cons {s i : Nat} {oi : Oper} {f : Nat} {l : Array Bool} {a : Act} {w : World} {rs : List Nat} (hi : ops[i]? = some oi)
  (h : ∀ K' : Act → World → Prop, (∀ a' w', ((l.setIfInBounds i true).getD s true = false → S w') ∧ wpTill P md ops Q s S f (l.setIfInBounds i true) a' w' → K' a' w') → if Region.wanted oi (yielded ops a.tmps) = true then Oper.wp P oi a w K' Q else K' (a.put oi.dst undef) w) (hs : TillAll P md ops Q s S f l a w rs) : TillAll P md ops Q s S f l a w (i :: rs) := fun j hj => by
 rcases List.mem_cons.1 hj with rfl | hj
 ·exact wpOp_step hi h
 ·exact hs j hj
theorem wpTill_more {s f : Nat} {l : Array Bool} {a : Act} {w : World} (rs : List Nat) (hr : Region.ready md ops l = rs) (hne : rs ≠ []) (h : TillAll P md ops Q s S f l a w rs) : wpTill P md ops Q s S (f + 1) l a w :=
 ⟨fun h0 => absurd (hr ▸ h0) hne, fun j hj => h j (hr ▸ hj)⟩
theorem wpTill_done {s f : Nat} {l : Array Bool} {a : Act} {w : World} (hr : Region.ready md ops l = []) (h : Q .normal a w) : wpTill P md ops Q s S f l a w := by
 cases f with
 | zero => exact ⟨hr, h⟩
 | succ f => exact ⟨fun _ => h, by rw [hr]; simp⟩
theorem wp_region_till {s : Nat} {id : Nat} {a : Act} {w : World} (hm : P.follows .mixedOrders = true) (h : wpTill P .any ops Q s S ops.size (Array.replicate ops.size false) a w.drew) : (Code.region id ops true).wp P Q a w :=
 wp_region_any hm (wpAny_of_till _ _ _ _ h)
end
end Go
namespace Go
section
variable {P : Program} {ops : Array Oper} {Q : Exit → Act → World → Prop} {md : Region.Mode} {S : World → Prop} {s f : Nat} {l : Array Bool} {a : Act} {w : World} {op : Op} {t : TypeId} {ps : String} {af : Array Edge} {gd : Option (Nat × Bool)} {a' : Act}
/-- wpTill_pure, as a walk writes it. -/
theorem wP (i d : Nat) (v : Value) (hS : l.getD s true = false → S w)
  (h : wpTill P md ops Q s S f (l.setIfInBounds i true) a' w)
  (hi : ops[i]? = some ⟨some d, op, t, ps, af, gd⟩ := by exact rfl) (hsi : (i == s) = false := by exact rfl)
  (hs : Region.noSelect ops = true := by kernel_rfl) (hf : Region.free md ops l i = true := by kernel_rfl) (hr : (Region.ready md ops l).contains i = true := by kernel_rfl) (hc : closedB md ops l = true := by kernel_rfl)
  (hQ : ∀ c (a : Act) w, Q (.panic c) (a.put (some d) v) w → Q (.panic c) a w := by exact fun _ _ _ h => h)
  (hw : Region.wanted ⟨some d, op, t, ps, af, gd⟩ (yielded ops a.tmps) = true := by rfl)
  (hy : ∀ w, True → (execOp a.eval ⟨some d, op, t, ps, af, gd⟩).run P w = .ok (.value v) w := by intro w hSw; go_simp; try with_reducible rfl)
  (hp : a.put (some d) v = a' := by (try simp only [Act.put, qA, qB, qC]); exact rfl) : wpTill P md ops Q s S (f + 1) l a w :=
 wpTill_pure hi hsi hs hf hr hc hQ (.inl ⟨hw, hy⟩) hS (hp ▸ h)
/-- wpTill_load, as a walk writes it. -/
theorem wL (i d : Nat) (v : Value) (hS : l.getD s true = false → S w)
  (h : wpTill P md ops Q s S f (l.setIfInBounds i true) a' w)
  (hi : ops[i]? = some ⟨some d, op, t, ps, af, gd⟩ := by exact rfl) (hsi : (i == s) = false := by exact rfl)
  (hs : Region.noSelect ops = true := by kernel_rfl) (hf : Region.free md ops l i = true := by kernel_rfl) (hr : (Region.ready md ops l).contains i = true := by kernel_rfl) (hc : closedB md ops l = true := by kernel_rfl)
  (hd : (decide (s < ops.size) && (depsOf md ops s).contains i) = true := by kernel_rfl)
  (hQ : ∀ c (a : Act) w, Q (.panic c) (a.put (some d) v) w → Q (.panic c) a w := by exact fun _ _ _ h => h)
  (hw : Region.wanted ⟨some d, op, t, ps, af, gd⟩ (yielded ops a.tmps) = true := by rfl)
  (hy : ∀ w, S w → (execOp a.eval ⟨some d, op, t, ps, af, gd⟩).run P w = .ok (.value v) w := by intro w hSw; (try dsimp only at hSw); (try go_split_ands); go_simp; try with_reducible rfl)
  (hp : a.put (some d) v = a' := by (try simp only [Act.put, qA, qB, qC]); exact rfl) : wpTill P md ops Q s S (f + 1) l a w :=
 wpTill_load hi hsi hs hf hr hc hd hQ (.inl ⟨hw, hy⟩) hS (hp ▸ h)
end
end Go
end
section
namespace Go.Chron
open Go Go.RowKit
structure Ord (α : Type) (le : α → α → Bool) : Prop where
 tot : ∀ x y, (le x y || le y x) = true
 trans : ∀ x y z, le x y = true → le y z = true → le x z = true
 anti : ∀ x y, le x y = true → le y x = true → x = y
section
variable {α : Type} {le : α → α → Bool}
theorem Ord.refl (h : Ord α le) (x : α) : le x x = true := by have := h.tot x x; simpa using this
def loOf (le : α → α → Bool) (l : List α) (v : α) : Nat := l.countP (fun x => !le v x)
def upOf (le : α → α → Bool) (l : List α) (v : α) : Nat := l.countP (fun x => le x v)
theorem sorted_get (h : Ord α le) {s : List α} (hs : s.Pairwise (fun x y => le x y = true)) {i j : Nat} {x y : α} (hij : i ≤ j) (hx : s[i]? = some x) (hy : s[j]? = some y) : le x y = true := by
 by_cases e : i = j
 ·subst e; rw [hx] at hy; cases hy; exact h.refl x
 ·obtain ⟨hi, rfl⟩ := List.getElem?_eq_some_iff.1 hx
  obtain ⟨hj, rfl⟩ := List.getElem?_eq_some_iff.1 hy
  exact List.pairwise_iff_getElem.1 hs i j hi hj (by omega)
theorem sorted_counts (h : Ord α le) {s : List α} (hs : s.Pairwise (fun x y => le x y = true)) {k : Nat} {v : α} (hv : s[k]? = some v) : loOf le s v ≤ k ∧ k < upOf le s v := by
 obtain ⟨hk, hkv⟩ := List.getElem?_eq_some_iff.1 hv
 constructor
 ·unfold loOf
  have e : s = s.take k ++ s.drop k := (List.take_append_drop k s).symm
  rw [e, List.countP_append]
  have h0 : (s.drop k).countP (fun x => !le v x) = 0 := by
   rw [List.countP_eq_zero]
   intro x hx
   obtain ⟨j, hj⟩ := List.mem_iff_getElem?.1 hx
   rw [List.getElem?_drop] at hj
   have := sorted_get h hs (Nat.le_add_right k j) hv hj
   simp [this]
  rw [h0]
  have := List.countP_le_length (p := fun x => !le v x) (l := s.take k)
  rw [List.length_take] at this
  omega
 ·unfold upOf
  have e : s = s.take (k + 1) ++ s.drop (k + 1) := (List.take_append_drop (k + 1) s).symm
  rw [e, List.countP_append]
  have h0 : (s.take (k + 1)).countP (fun x => le x v) = (s.take (k + 1)).length := by
   rw [List.countP_eq_length]
   intro x hx
   obtain ⟨j, hj⟩ := List.mem_iff_getElem?.1 hx
   have hjk : j < k + 1 := by
    have := (List.getElem?_eq_some_iff.1 hj).1
    rw [List.length_take] at this; omega
   rw [List.getElem?_take_of_lt hjk] at hj
   exact sorted_get h hs (by omega) hj hv
  rw [h0, List.length_take]
  omega
theorem counts_unique (h : Ord α le) {l : List α} {k : Nat} {u v : α} (hu : loOf le l u ≤ k ∧ k < upOf le l u) (hv : loOf le l v ≤ k ∧ k < upOf le l v) : u = v := by
 have key : ∀ x y : α, le y x = false → upOf le l x ≤ loOf le l y := by
  intro x y hxy
  unfold upOf loOf
  apply List.countP_mono_left
  intro z _ hz
  cases hyz : le y z with
  | false => rfl
  | true => rw [h.trans y z x hyz hz] at hxy; cases hxy
 cases huv : le u v with
 | false => have := key v u huv; omega
 | true =>
  cases hvu : le v u with
  | false => have := key u v hvu; omega
  | true => exact h.anti u v huv hvu
def msort (le : α → α → Bool) (l : List α) : List α := l.mergeSort le
theorem msort_perm (l : List α) : (msort le l).Perm l := List.mergeSort_perm l le
theorem msort_len (l : List α) : (msort le l).length = l.length := (msort_perm l).length_eq
theorem msort_sorted (h : Ord α le) (l : List α) : (msort le l).Pairwise (fun x y => le x y = true) :=
 List.pairwise_mergeSort (fun a b c => h.trans a b c) (fun a b => h.tot a b) l
theorem lo_perm {l l' : List α} (hp : l.Perm l') (v : α) : loOf le l v = loOf le l' v := hp.countP_eq _
theorem up_perm {l l' : List α} (hp : l.Perm l') (v : α) : upOf le l v = upOf le l' v := hp.countP_eq _
theorem sel_iff (h : Ord α le) {l : List α} {k : Nat} (hk : k < l.length) (v : α) : (msort le l)[k]? = some v ↔ loOf le l v ≤ k ∧ k < upOf le l v := by
 constructor
 ·intro hv
  have := sorted_counts h (msort_sorted h l) hv
  rw [lo_perm (msort_perm l), up_perm (msort_perm l)] at this
  exact this
 ·intro hc
  obtain ⟨u, hu⟩ : ∃ u, (msort le l)[k]? = some u := ⟨_, List.getElem?_eq_getElem (by rw [msort_len]; exact hk)⟩
  have h1 := sorted_counts h (msort_sorted h l) hu
  rw [lo_perm (msort_perm l), up_perm (msort_perm l)] at h1
  rw [hu, counts_unique h h1 hc]
theorem msort_mem {l : List α} {v : α} : v ∈ msort le l ↔ v ∈ l := (msort_perm l).mem_iff
theorem msort_of_perm (h : Ord α le) {l l' : List α} (hp : l.Perm l') : msort le l = msort le l' := by
 apply List.ext_getElem?
 intro k
 by_cases hk : k < l.length
 ·obtain ⟨u, hu⟩ : ∃ u, (msort le l)[k]? = some u := ⟨_, List.getElem?_eq_getElem (by rw [msort_len]; exact hk)⟩
  have h1 := (sel_iff h hk u).1 hu
  rw [lo_perm hp, up_perm hp] at h1
  rw [hu, (sel_iff h (by rw [← hp.length_eq]; exact hk) u).2 h1]
 ·rw [List.getElem?_eq_none (by rw [msort_len]; omega), List.getElem?_eq_none (by rw [msort_len, ← hp.length_eq]; omega)]
end
/-! ### Of numbers -/
def ile (x y : Int) : Bool := decide (x ≤ y)
theorem ord_int : Ord Int ile := ⟨fun x y => by unfold ile; simp; omega, fun x y z h1 h2 => by unfold ile at *; simp at *; omega, fun x y h1 h2 => by unfold ile at *; simp at *; omega⟩
def medOf (l : List Int) : Int := (msort ile l).getD ((l.length - 1) / 2) 0
theorem med_get {l : List Int} (hl : l ≠ []) : (msort ile l)[(l.length - 1) / 2]? = some (medOf l) := by
 have : 0 < l.length := List.length_pos_iff.2 hl
 obtain ⟨u, hu⟩ : ∃ u, (msort ile l)[(l.length - 1) / 2]? = some u := ⟨_, List.getElem?_eq_getElem (by rw [msort_len]; omega)⟩
 rw [hu]
 unfold medOf
 rw [List.getD_eq_getElem?_getD, hu]
 rfl
theorem medOf_nil : medOf [] = 0 := by unfold medOf msort; simp
theorem medOf_get {l : List Int} (hl : l ≠ []) : (msort ile l)[(l.length - 1) / 2]? = some (medOf l) := med_get hl
theorem med_iff {l : List Int} (hl : l ≠ []) (v : Int) : medOf l = v ↔ loOf ile l v ≤ (l.length - 1) / 2 ∧ (l.length - 1) / 2 < upOf ile l v := by
 have : 0 < l.length := List.length_pos_iff.2 hl
 rw [← sel_iff ord_int (by omega) v, med_get hl]
 simp
theorem med_mem {l : List Int} (hl : l ≠ []) : medOf l ∈ l := msort_mem.1 (List.mem_of_getElem? (med_get hl))
theorem lo_int (l : List Int) (v : Int) : loOf ile l v = l.countP (fun x => decide (x < v)) := by
 unfold loOf ile
 congr 1
 funext x
 by_cases h : v ≤ x <;> simp [h] <;> omega
theorem up_int (l : List Int) (v : Int) : upOf ile l v = l.countP (fun x => decide (x ≤ v)) := rfl
theorem med_perm {l l' : List Int} (hp : l.Perm l') : medOf l = medOf l' := by
 unfold medOf
 rw [msort_of_perm ord_int hp, hp.length_eq]
theorem med_between {honest lies : List Int} (hl : lies.length < honest.length) {lo hi : Int} (h1 : ∀ x ∈ honest, lo ≤ x) (h2 : ∀ x ∈ honest, x ≤ hi) : lo ≤ medOf (honest ++ lies) ∧ medOf (honest ++ lies) ≤ hi := by
 have hne : honest ++ lies ≠ [] := by intro e; obtain ⟨rfl, _⟩ := List.append_eq_nil_iff.1 e; simp at hl
 have h := (med_iff hne (medOf (honest ++ lies))).1 rfl
 generalize medOf (honest ++ lies) = m at h ⊢
 rw [lo_int, up_int, List.length_append, List.countP_append, List.countP_append] at h
 have u1 := List.countP_le_length (p := fun x => decide (x < m)) (l := lies)
 have u2 := List.countP_le_length (p := fun x => decide (x ≤ m)) (l := lies)
 constructor
 ·apply Int.not_lt.1
  intro hm
  have : honest.countP (fun x => decide (x ≤ m)) = 0 := by
   rw [List.countP_eq_zero]
   intro x hx
   have := h1 x hx
   simp; omega
  omega
 ·apply Int.not_lt.1
  intro hm
  have : honest.countP (fun x => decide (x < m)) = honest.length := by
   rw [List.countP_eq_length]
   intro x hx
   have := h2 x hx
   simp; omega
  omega
/-! ### Of texts -/
end Go.Chron
end
section
namespace Go.Chron
open Go Go.RowKit
structure OwnsF (w : World) (e : TypeId) (sz : Nat) (v : Value) (g : Option Nat) (els : List (List Value)) : Prop where
 each : ∀ x ∈ els, x.length = sz
 row : (v = .slice none 0 0 ∧ g = none ∧ els = []) ∨
  ∃ k off cap cur, g = some k ∧ v = .slice (some ⟨k, off, none⟩) els.length cap ∧ Blk w k e cur ∧ els.length ≤ cap ∧ cap ≤ maxLen ∧ off + cap * sz ≤ cur.size ∧ (cur.toList.drop off).take (els.length * sz) = els.flatten
section
variable {w w' : World} {e : TypeId} {sz : Nat} {v : Value} {g : Option Nat} {els : List (List Value)} {S : Nat → Prop}
theorem OwnsF.nil (w : World) (e : TypeId) (sz : Nat) : OwnsF w e sz (.slice none 0 0) none [] := ⟨by simp, .inl ⟨rfl, rfl, rfl⟩⟩
theorem Owns.toF (h : Owns w e sz v g els) : OwnsF w e sz v g els := by
 refine ⟨h.each, ?_⟩
 rcases h.row with h' | ⟨k, cap, cur, h1, h2, h3, h4, h5, h6, h7⟩
 ·exact .inl h'
 ·exact .inr ⟨k, 0, cap, cur, h1, h2, h3, h4, h5, by omega, by simpa using h7⟩
theorem OwnsF.lt (h : OwnsF w e sz v g els) : ∀ k, g = some k → k < w.heap.size := by
 intro k hk
 rcases h.row with ⟨_, h0, _⟩ | ⟨k', off, cap, cur, hk', _, hb, _⟩
 ·rw [h0] at hk; cases hk
 ·rw [hk'] at hk; cases hk; exact hb.lt
theorem OwnsF.blk (h : OwnsF w e sz v g els) {k : Nat} (hk : g = some k) : ∃ cs, Blk w k e cs := by
 rcases h.row with ⟨_, h0, _⟩ | ⟨k', off, cap, cur, hk', _, hb, _⟩
 ·rw [h0] at hk; cases hk
 ·rw [hk'] at hk; cases hk; exact ⟨_, hb⟩
theorem OwnsF.chg (h : OwnsF w e sz v g els) (hc : Chg S w w') (hn : ∀ k, g = some k → ¬ S k) : OwnsF w' e sz v g els := by
 refine ⟨h.each, ?_⟩
 rcases h.row with hnil | ⟨k, off, cap, cur, hk, hv, hb, r⟩
 ·exact .inl hnil
 ·exact .inr ⟨k, off, cap, cur, hk, hv, hb.chg hc (hn k hk), r⟩
theorem OwnsF.form (h : OwnsF w e sz v g els) : ∃ a cap, v = .slice a els.length cap ∧ els.length ≤ cap ∧ cap ≤ maxLen ∧ (a = none → els = [] ∧ cap = 0 ∧ g = none) ∧ (∀ ad, a = some ad → ∃ k off, ad = ⟨k, off, none⟩ ∧ g = some k) := by
 rcases h.row with ⟨rfl, rfl, rfl⟩ | ⟨k, off, cap, cur, rfl, rfl, _, h1, h2, _⟩
 ·exact ⟨none, 0, rfl, Nat.le_refl _, Nat.zero_le _, fun _ => ⟨rfl, rfl, rfl⟩, by intro ad h; cases h⟩
 ·exact ⟨_, cap, rfl, h1, h2, (by intro hh; cases hh), fun ad h => by cases h; exact ⟨k, off, rfl, rfl⟩⟩
theorem OwnsF.pos (h : OwnsF w e sz v g els) (hp : 0 < els.length) : ∃ k off cap, g = some k ∧ v = .slice (some ⟨k, off, none⟩) els.length cap ∧ els.length ≤ cap ∧ cap ≤ maxLen := by
 rcases h.row with ⟨_, _, rfl⟩ | ⟨k, off, cap, cur, hk, hv, _, h1, h2, _⟩
 ·simp at hp
 ·exact ⟨k, off, cap, hk, hv, h1, h2⟩
theorem OwnsF.cell {k off n cap : Nat} (h : OwnsF w e sz (.slice (some ⟨k, off, none⟩) n cap) g els) {i : Nat} {x : List Value} (hx : els[i]? = some x) {j : Nat} {u : Value} (hu : x[j]? = some u) :
  w.cell? ⟨k, off + (i * sz + j), none⟩ = some u := by
 rcases h.row with ⟨h0, _, _⟩ | ⟨k', off', cap', cur, _, hv, hb, _, _, _, ht⟩
 ·cases h0
 ·cases hv
  have h1 := flat_get h.each hx hu
  rw [← ht, List.getElem?_take] at h1
  split at h1
  ·rw [hb.cell, ← h1, List.getElem?_drop]; simp
  ·cases h1
theorem OwnsF.reads {k off n cap : Nat} (h : OwnsF w e sz (.slice (some ⟨k, off, none⟩) n cap) g els) : Reads w sz (some ⟨k, off, none⟩) els :=
 fun _ => ⟨k, off, rfl, fun i x hx j u hu => h.cell hx hu⟩
theorem OwnsF.frozen {k off n cap : Nat} (h : OwnsF w e sz (.slice (some ⟨k, off, none⟩) n cap) g els) (i : Nat) : w.frozen? ⟨k, i, none⟩ = false := by
 rcases h.row with ⟨h0, _, _⟩ | ⟨k', off', cap', cur, _, hv, hb, _⟩
 ·cases h0
 ·cases hv; exact hb.frozen i
theorem OwnsF.tail {k off n cap : Nat} {x : List Value} (h : OwnsF w e sz (.slice (some ⟨k, off, none⟩) n cap) g (x :: els)) : OwnsF w e sz (.slice (some ⟨k, off + sz, none⟩) (n - 1) (cap - 1)) g els := by
 refine ⟨fun y hy => h.each y (List.mem_cons_of_mem _ hy), ?_⟩
 have hx := h.each x (by simp)
 rcases h.row with ⟨h0, _, _⟩ | ⟨k', off', cap', cur, hk, hv, hb, h1, h2, h3, h4⟩
 ·cases h0
 ·cases hv
  simp only [List.length_cons] at h1 h4 ⊢
  refine .inr ⟨k, off + sz, cap - 1, cur, hk, by simp, hb, by omega, by omega, ?_, ?_⟩
  ·obtain ⟨c, rfl⟩ : ∃ c, cap = c + 1 := ⟨cap - 1, by omega⟩
   rw [Nat.succ_mul] at h3
   rw [Nat.add_sub_cancel]; omega
  ·rw [List.flatten_cons] at h4
   have h5 := congrArg (List.drop sz) h4
   rw [← hx, List.drop_left, List.drop_take, List.drop_drop, hx] at h5
   rw [← h5]
   congr 1
   rw [Nat.succ_mul]; omega
theorem OwnsF.tail' {k off n cap : Nat} {x : List Value} (h : OwnsF w e sz (.slice (some ⟨k, off, none⟩) n cap) g (x :: els)) : OwnsF w e sz (.slice (if cap = 1 then some ⟨k, off, none⟩ else some ⟨k, off + sz, none⟩) (n - 1) (cap - 1)) g els := by
 by_cases hc : cap = 1
 ·rw [if_pos hc]
  rcases h.row with ⟨h0, _, _⟩ | ⟨k', off', cap', cur, hk, hv, hb, h1, h2, h3, h4⟩
  ·cases h0
  ·cases hv
   simp only [List.length_cons] at h1
   have he : els = [] := List.eq_nil_of_length_eq_zero (by omega)
   subst he
   refine ⟨by simp, .inr ⟨k, off, 0, cur, hk, ?_, hb, by simp, by omega, ?_, by simp⟩⟩
   ·simp [hc]
   ·rw [hc] at h3; omega
 ·rw [if_neg hc]
  exact h.tail
end
theorem chg_setCells {S : Nat → Prop} {k : Nat} (hS : S k) : ∀ (x : List Value) (o : Nat) (w : World), Chg S w (w.setCells k o x)
 | [], o, w => Chg.refl _ _
 | v :: r, o, w => by
  simp only [World.setCells]
  exact ((Chg.refl S w).setCell (p := ⟨k, o, none⟩) (fun _ => hS) v).trans (chg_setCells hS r (o + 1) _)
theorem off_list {α : Type} (cur M news : List α) (off a b : Nat) (h : (cur.drop off).take a = M) (hM : M.length = a) (hn : news.length = b) (hl : off + a + b ≤ cur.length) (hl0 : off + a ≤ cur.length) :
  ((cur.take (off + a) ++ (news ++ cur.drop (off + a + b))).drop off).take (a + b) = M ++ news := by
 rw [List.drop_append_of_le_length (by rw [List.length_take]; omega), List.drop_take, Nat.add_sub_cancel_left, h, ← List.append_assoc, List.take_left' (by rw [List.length_append, hM, hn])]
section
variable {P : Program} {w : World} {ops : Array Oper} {rest : List Oper} {o : Oper} {a : Act} {Q : Exit → Act → World → Prop} {e : TypeId} {sz : Nat} {g : Option Nat} {els : List (List Value)} {v : Value}
theorem run_appF (t ty : TypeId) (e : TypeId) (i : TypeInfo) (z : Value) (sz bytes : Nat) (ht : P.underlying t = some (.slice e)) (hi : P.info? e = some i) (hz : i.zero = some z)
  (hsize : i.size = sz) (hby : i.bytes = bytes) (hzs : z.cells.size = sz) (hsz : 0 < sz) (hown : OwnsF w e sz v g els)
  (ad : Addr) (news : List (List Value)) (c : Nat) (hb : ∀ j u, news.flatten[j]? = some u → w.cell? (ad.add j) = some u)
  (hne : ∀ y ∈ news, y.length = sz) (h1 : ∀ u ∈ news.flatten, u.oneCell' = true) (hpos : 0 < news.length)
  (hbytes : (els.length + news.length) * bytes ≤ 140737488355328) (h63 : els.length + news.length ≤ maxLen) :
  ∃ k off cap w', (Builtin.append_ #[t, t] ty #[v, .slice (some ad) news.length c]).run P w = .ok (.slice (some ⟨k, off, none⟩) (els.length + news.length) cap) w' ∧
   OwnsF w' e sz (.slice (some ⟨k, off, none⟩) (els.length + news.length) cap) (some k) (els ++ news) ∧ Chg (fun b => g = some b) w w' ∧ (g = some k ∨ w.heap.size ≤ k) := by
 have hE : ∀ y ∈ els ++ news, y.length = sz := fun y hy => by
  rcases List.mem_append.1 hy with h' | h'
  ·exact hown.each y h'
  ·exact hne y h'
 have hfl := flat_len hown.each
 have hfn := flat_len hne
 rcases hown.row with ⟨rfl, rfl, rfl⟩ | ⟨k, off, cap, cur, rfl, rfl, hbk, hc1, hc2, hc3, hc4⟩
 ·obtain ⟨k, cap, w', hr, h2, h3, h4, _⟩ := run_append_lies (P := P) w t ty 0 e i z sz bytes ht hi hz hsize hby hzs hsz (.slice none 0 0) 0 [] (World.ownsRow_nil w 0 e sz) ad news.length c news.flatten hfn hb h1 hpos (by simpa using h63) (by simpa using hbytes) (Nat.zero_le _) _ rfl
  simp only [List.length_nil, Nat.zero_add, List.nil_append] at hr h2 ⊢
  refine ⟨k, 0, cap, w', hr, (Owns.of_row (base := 0) h2 hne).toF, (Chg.refl _ w).grown h3 (fun b _ hb' => by cases hb'), ?_⟩
  rcases h4 with h4 | h4
  ·cases h4
  ·exact .inr (by omega)
 ·by_cases hroom : els.length + news.length ≤ cap
  ·have hm1 : (els.length + news.length) * sz ≤ cap * sz := Nat.mul_le_mul_right _ hroom
   rw [Nat.add_mul] at hm1
   have hcell : ∀ j, j < news.flatten.length → (w.cell? ⟨k, off + els.length * i.size + j, none⟩).isSome = true := fun j hj => by
    rw [hfn] at hj
    rw [hbk.cell, hsize, Array.getElem?_eq_getElem (by omega)]
    rfl
   have hr := run_append_room_cells (P := P) w t ty e i ht hi k off els.length cap ad news.length c news.flatten (by rw [hsize]; exact hfn) hb h1 hroom hcell (fun j _ => hbk.frozen _)
   rw [hsize] at hr
   refine ⟨k, off, cap, _, hr, ⟨hE, .inr ⟨k, off, cap, _, rfl, by rw [List.length_append], Blk.setCells news.flatten (off + els.length * sz) w cur hbk (by rw [hfn]; omega), by rw [List.length_append]; exact hroom, hc2, ?_, ?_⟩⟩, chg_setCells (S := fun b => some k = some b) rfl _ _ _, .inl rfl⟩
   ·simp only [List.size_toArray, List.length_append, List.length_take, List.length_drop, Array.length_toList, hfn]
    omega
   ·rw [List.length_append, Nat.add_mul, List.flatten_append, hfn]
    have q0 : cur.toList.length = cur.size := rfl
    have q1 : off + els.length * sz + news.length * sz ≤ cur.toList.length := by rw [q0]; omega
    exact off_list cur.toList els.flatten news.flatten off (els.length * sz) (news.length * sz) hc4 hfl hfn q1 (Nat.le_trans (Nat.le_add_right _ _) q1)
  ·have holds : ∀ j u, els.flatten[j]? = some u → w.cell? ((⟨k, off, none⟩ : Addr).add j) = some u := fun j u hu => by
    rw [← hc4, List.getElem?_take] at hu
    split at hu
    ·rw [Addr.add_lit, hbk.cell, ← hu, List.getElem?_drop]; simp
    ·cases hu
   obtain ⟨v', w', hr, h2, h3⟩ := run_append_arg_grows (P := P) w t ty e i z sz bytes ht hi hz hsize hby hzs hsz ⟨k, off, none⟩ els.length cap els.flatten hfl holds ad news.length c news.flatten hfn hb (by omega) h63 hbytes
   obtain ⟨g', cap', rfl, hg', _⟩ := h2.form (by omega)
   have h2' : w'.ownsRow w.heap.size e sz (.slice (some ⟨g', 0, none⟩) (els.length + news.length) cap') (els ++ news).length (els ++ news).flatten := by rw [List.length_append, List.flatten_append]; exact h2
   have ho := Owns.of_row h2' hE
   exact ⟨g', 0, cap', w', hr, ho.toF, (Chg.refl _ w).grown h3 (fun b _ hb' => by cases hb'), .inr hg'⟩
end
end Go.Chron
end
section
namespace Go.Chron
open Go Go.RowKit
section
variable {w w' : World} {e : TypeId} {sz : Nat} {v : Value} {g : Option Nat} {els : List (List Value)} {S : Nat → Prop}
theorem off_splice {α : Type} (cur x : List α) (off a z : Nat) (h : off + a ≤ cur.length) :
  (cur.take (off + a) ++ (x ++ cur.drop (off + a + z))).drop off = (cur.drop off).take a ++ (x ++ (cur.drop off).drop (a + z)) := by
 rw [List.drop_append_of_le_length (by rw [List.length_take]; omega), List.drop_take, Nat.add_sub_cancel_left, List.drop_drop, Nat.add_assoc]
theorem OwnsF.set {k off n cap : Nat} (h : OwnsF w e sz (.slice (some ⟨k, off, none⟩) n cap) g els) {i : Nat} (hi : i < els.length) {x : List Value} (hx : x.length = sz) :
  OwnsF (w.setCells k (off + i * sz) x) e sz (.slice (some ⟨k, off, none⟩) n cap) g (els.set i x) := by
 rcases h.row with ⟨h0, _, _⟩ | ⟨k', off', cap', cur, hk, hv, hb, h1, h2, h3, h4⟩
 ·cases h0
 ·cases hv
  have hlen := flat_len h.each
  have hmul : (i + 1) * sz ≤ els.length * sz := Nat.mul_le_mul_right _ hi
  have hmul2 : els.length * sz ≤ cap * sz := Nat.mul_le_mul_right _ h1
  have hs : (i + 1) * sz = i * sz + sz := Nat.succ_mul i sz
  have hcl : off + cap * sz ≤ cur.toList.length := h3
  refine ⟨fun y hy => ?_, .inr ⟨k, off, cap, _, hk, by rw [List.length_set], Blk.setCells x (off + i * sz) w cur hb (by rw [hx]; omega), by rw [List.length_set]; exact h1, h2, ?_, ?_⟩⟩
  ·rcases List.mem_or_eq_of_mem_set hy with h' | h'
   ·exact h.each y h'
   ·rw [h']; exact hx
  ·simp only [List.size_toArray, List.length_append, List.length_take, List.length_drop, Array.length_toList, hx]
   omega
  ·rw [List.length_set, flat_set h.each hi, ← h4, hs]
   rw [off_splice cur.toList x off (i * sz) x.length (by omega), hx]
   exact take_splice (cur.toList.drop off) (i * sz) sz (els.length * sz) x hx (by omega) (by rw [List.length_drop]; omega)
theorem OwnsF.swap {k off n cap : Nat} (h : OwnsF w e sz (.slice (some ⟨k, off, none⟩) n cap) g els) {i j : Nat} {x y : List Value} (hx : els[i]? = some x) (hy : els[j]? = some y) :
  ∃ els', els'.Perm els ∧ OwnsF ((w.setCells k (off + i * sz) y).setCells k (off + j * sz) x) e sz (.slice (some ⟨k, off, none⟩) n cap) g els' := by
 obtain ⟨hi, rfl⟩ := List.getElem?_eq_some_iff.1 hx
 obtain ⟨hj, rfl⟩ := List.getElem?_eq_some_iff.1 hy
 exact ⟨(els.set i els[j]).set j els[i], List.set_set_perm hi hj, (h.set hi (h.each _ (List.getElem_mem hj))).set (by rw [List.length_set]; exact hj) (h.each _ (List.getElem_mem hi))⟩
end
end Go.Chron
end
