/- Keys and when they are due, in the order in which they were set; a map that reads as such a list; what is due. -/
import Derived.Test.YthholmapjbaknaaBase
import Derived.Maps.RangeWalk
import Derived.Sort.EncStr
import Derived.WalkArith
set_option linter.unusedVariables false
set_option linter.unusedSectionVars false
namespace Go.Chron
open Go Go.RowKit
def In64 (a : Int) : Prop := -9223372036854775808 ≤ a ∧ a ≤ 9223372036854775807
theorem in64_wf {a : Int} (h : In64 a) : (Lit.int .i64 a).wf = true := by
  simp only [Lit.wf, IntKind.min, IntKind.max, IntKind.signed, IntKind.bits, Bool.and_eq_true, decide_eq_true_eq, if_true]
  exact ⟨by have := h.1; simpa using this, by have := h.2; simp; omega⟩
theorem wf_in64 {a : Int} (h : (Lit.int .i64 a).wf = true) : In64 a := by
  simp only [Lit.wf, IntKind.min, IntKind.max, IntKind.signed, IntKind.bits, Bool.and_eq_true, decide_eq_true_eq, if_true] at h
  obtain ⟨h1, h2⟩ := h
  simp at h1 h2
  exact ⟨by omega, by omega⟩
theorem bel0 {B : Nat} {w0 w w' : World} (h : Below B w0 w) (hc : Chg (fun _ => False) w w') (hB : B ≤ w0.heap.size) : Below B w0 w' := below_chg h hc hB (fun _ _ h => h)
theorem chg0_alloc (w : World) (o : Obj) : Chg (fun _ => False) w (w.alloc o) := (Chg.refl _ w).alloc o
theorem chg0_drewN (w : World) (n : Nat) : Chg (fun _ => False) w (w.drewN n) := (Chg.refl _ w).drewN n
theorem chg0_drew (w : World) : Chg (fun _ => False) w w.drew := (Chg.refl _ w).drew
theorem ownsMap_chg {H : Type} {P : Program} {k : TypeId} {R : Value → Option (DataW H × List MemPlace)} {w w' : World} {b n : Nat} {D : DataW H} {S : Nat → Prop} (h : w.ownsMap P k R b n D) (hc : Chg S w w') (hn : ¬ S b) : w'.ownsMap P k R b n D := by
  have hlt := h.lt
  obtain ⟨es, clock, hb, r⟩ := h
  exact ⟨es, clock, (hc.block b hlt hn).trans hb, r⟩
theorem ranges_chg {H : Type} {P : Program} {k : TypeId} {R : Value → Option (DataW H × List MemPlace)} {w w' : World} {b r n : Nat} {D : DataW H} {left : Lit → Bool} {cnt : Nat} {S : Nat → Prop} (h : w.ranges P k R b r n D left cnt) (hc : Chg S w w') (hb : ¬ S b) (hr : ¬ S r) : w'.ranges P k R b r n D left cnt := by
  have h1 := h.owns.lt
  have h2 := h.lt
  obtain ⟨es, clock, since, seen, c0, hb', F, hs, hD, hr', rest⟩ := h
  exact ⟨es, clock, since, seen, c0, (hc.block b h1 hb).trans hb', F, hs, hD, (hc.block r h2 hr).trans hr', rest⟩
theorem Chg.turned {S : Nat → Prop} {w w' w'' : World} {b : Nat} (h : Chg S w w') (ht : w'.mapTurned w'' b) (hb : b < w.heap.size → S b) : Chg S w w'' :=
  h.grown ht.grown (fun k hk e => by cases e; exact hb hk)

/-- A key, when it is due, and when it was set. -/
structure Ent (κ : Type) where
  k : κ
  d : Int
  s : Int

/-- A struct of two numbers, as a map's element. -/
def oneD (a s : Int) : DataW Unit := .agg [.lit (.int .i64 a), .lit (.int .i64 s)]
def oneR : Value → Option (DataW Unit × List MemPlace)
  | .agg ⟨[.int .i64 a, .int .i64 s]⟩ => some (oneD a s, [])
  | _ => none
theorem oneR_mk (a s : Int) : oneR (.agg #[.int .i64 a, .int .i64 s]) = some (oneD a s, []) := rfl
theorem oneR_inv {v : Value} {y : DataW Unit × List MemPlace} (h : oneR v = some y) : ∃ c : Int × Int, v = .agg #[.int .i64 c.1, .int .i64 c.2] ∧ y = (oneD c.1 c.2, []) := by
  unfold oneR at h
  split at h
  · cases h; exact ⟨(_, _), rfl, rfl⟩
  · cases h
theorem oneD_inj {a s a' s' : Int} (h : oneD a s = oneD a' s') : a = a' ∧ s = s' := by
  unfold oneD at h
  simp at h
  exact h

section
variable {κ : Type} [DecidableEq κ] {lit : κ → Lit} {f : Ent κ → DataW Unit} {D : DataW Unit} {L : List (Ent κ)}
/-- L without the key x. -/
def dropL (L : List (Ent κ)) (x : κ) : List (Ent κ) := L.filter (fun e => decide (e.k ≠ x))
def setL (L : List (Ent κ)) (x : κ) (d s : Int) : List (Ent κ) := dropL L x ++ [⟨x, d, s⟩]
def lookL (L : List (Ent κ)) (x : κ) : Option (Ent κ) := L.find? (fun e => decide (e.k = x))
def hasL (L : List (Ent κ)) (x : κ) : Bool := L.any (fun e => decide (e.k = x))
theorem mem_dropL {x : κ} {e : Ent κ} : e ∈ dropL L x ↔ e ∈ L ∧ e.k ≠ x := by unfold dropL; simp
theorem mem_setL {x : κ} {d s : Int} {e : Ent κ} : e ∈ setL L x d s ↔ (e ∈ L ∧ e.k ≠ x) ∨ e = ⟨x, d, s⟩ := by unfold setL; simp [mem_dropL]
theorem dropL_len (x : κ) : (dropL L x).length ≤ L.length := List.length_filter_le _ _
theorem setL_len (x : κ) (d s : Int) : (setL L x d s).length ≤ L.length + 1 := by unfold setL; have := dropL_len (L := L) x; simp; omega
theorem lookL_some {x : κ} {e : Ent κ} (h : lookL L x = some e) : e ∈ L ∧ e.k = x := ⟨List.mem_of_find?_eq_some h, by simpa using List.find?_some h⟩
theorem lookL_none {x : κ} (h : lookL L x = none) : ∀ e ∈ L, e.k ≠ x := fun e he => by
  have := List.find?_eq_none.1 h e he
  simpa using this
theorem hasL_eq (x : κ) : hasL L x = (lookL L x).isSome := by
  rw [Bool.eq_iff_iff]
  unfold hasL lookL
  rw [List.find?_isSome, List.any_eq_true]
theorem hasL_iff {x : κ} : hasL L x = true ↔ ∃ e ∈ L, e.k = x := by unfold hasL; simp
theorem lookL_of_mem (hn : L.Pairwise (fun a b => a.k ≠ b.k)) {e : Ent κ} (he : e ∈ L) : lookL L e.k = some e := by
  cases h : lookL L e.k with
  | none => exact absurd rfl (lookL_none h e he)
  | some e' =>
    obtain ⟨h1, h2⟩ := lookL_some h
    have : ∀ {l : List (Ent κ)}, l.Pairwise (fun a b => a.k ≠ b.k) → ∀ {a b}, a ∈ l → b ∈ l → a.k = b.k → a = b := by
      intro l
      induction l with
      | nil => intro _ a b ha; cases ha
      | cons c l ih =>
        intro hp a b ha hb hab
        obtain ⟨p1, p2⟩ := List.pairwise_cons.1 hp
        rcases List.mem_cons.1 ha with ea | ha'
        · rcases List.mem_cons.1 hb with eb | hb'
          · rw [ea, eb]
          · exact absurd (ea ▸ hab) (p1 b hb')
        · rcases List.mem_cons.1 hb with eb | hb'
          · exact absurd (eb ▸ hab).symm (p1 a ha')
          · exact ih p2 ha' hb' hab
    rw [this hn h1 he h2]
theorem lookL_set_same (x : κ) (d s : Int) : lookL (setL L x d s) x = some ⟨x, d, s⟩ := by
  unfold lookL setL
  rw [List.find?_append, List.find?_eq_none.2 (by intro e he; simpa using (mem_dropL.1 he).2)]
  simp
theorem lookL_drop_same (x : κ) : lookL (dropL L x) x = none := by
  unfold lookL
  rw [List.find?_eq_none]
  intro e he
  simpa using (mem_dropL.1 he).2

/-- The map reads as the list: each key with what f tells of it. -/
structure QL (lit : κ → Lit) (f : Ent κ → DataW Unit) (D : DataW Unit) (L : List (Ent κ)) : Prop where
  has : ∀ x, Maps.has D (lit x) = hasL L x
  at_ : ∀ e ∈ L, ∀ z, D.atKey (lit e.k) z = f e
  size : Maps.size D = L.length
  nodup : L.Pairwise (fun a b => a.k ≠ b.k)

theorem QL.nil : QL lit f (.map []) ([] : List (Ent κ)) := ⟨fun _ => rfl, by simp, rfl, List.Pairwise.nil⟩

theorem strike_len : ∀ {L : List (Ent κ)} (x : κ), L.Pairwise (fun a b => a.k ≠ b.k) → (dropL L x).length + (if hasL L x = true then 1 else 0) = L.length
  | [], _, _ => rfl
  | e :: L, x, h => by
    obtain ⟨h1, h2⟩ := List.pairwise_cons.1 h
    have ih := strike_len (L := L) x h2
    by_cases he : e.k = x
    · have hr : hasL L x = false := by
        unfold hasL
        rw [List.any_eq_false]
        intro y hy
        have := h1 y hy
        simp only [decide_eq_true_eq]
        intro hyx
        exact this (he.trans hyx.symm)
      rw [hr] at ih
      simp only [Bool.false_eq_true, if_false, Nat.add_zero] at ih
      have e1 : dropL (e :: L) x = dropL L x := by unfold dropL; simp [he]
      have e2 : hasL (e :: L) x = true := by unfold hasL; simp [he]
      rw [e1, e2, ih]
      simp
    · have e1 : dropL (e :: L) x = e :: dropL L x := by unfold dropL; simp [he]
      have e2 : hasL (e :: L) x = hasL L x := by unfold hasL; simp [he]
      rw [e1, e2, List.length_cons, List.length_cons]
      omega

theorem QL.del (hinj : ∀ x y, lit x = lit y → x = y) (h : QL lit f D L) (hT : Maps.Tidy D) (x : κ) : QL lit f (D.del (lit x)) (dropL L x) := by
  refine ⟨fun y => ?_, fun e he z => ?_, ?_, h.nodup.filter _⟩
  · by_cases hy : y = x
    · subst hy
      rw [Maps.has_del_same, hasL_eq, lookL_drop_same]; rfl
    · rw [Maps.has_del_other (fun e => hy (hinj _ _ e)), h.has]
      unfold hasL dropL
      rw [List.any_filter]
      congr 1
      funext e
      by_cases he : e.k = y
      · simp [he, hy]
      · simp [he]
  · obtain ⟨he1, he2⟩ := mem_dropL.1 he
    rw [Maps.atKey_del_other (fun e => he2 (hinj _ _ e)), h.at_ e he1]
  · have h1 := Maps.size_del (k := lit x) hT
    have h2 := strike_len (L := L) x h.nodup
    rw [h.has, h.size] at h1
    omega

theorem QL.put (hinj : ∀ x y, lit x = lit y → x = y) (h : QL lit f D L) (hT : Maps.Tidy D) {x : κ} (hk : WideAt.IsKeyLit (lit x)) (d s : Int) : QL lit f (D.put (lit x) (f ⟨x, d, s⟩)) (setL L x d s) := by
  refine ⟨fun y => ?_, fun e he z => ?_, ?_, ?_⟩
  · by_cases hy : y = x
    · subst hy
      rw [Maps.has_put_same hT.isMap hk, hasL_eq, lookL_set_same]; rfl
    · rw [Maps.has_put_other (fun e => hy (hinj _ _ e)), h.has]
      unfold hasL setL dropL
      rw [List.any_append, List.any_filter]
      simp only [List.any_cons, List.any_nil, Bool.or_false]
      rw [decide_eq_false (fun e : x = y => hy e.symm), Bool.or_false]
      congr 1
      funext e
      by_cases he : e.k = y
      · simp [he, hy]
      · simp [he]
  · rcases mem_setL.1 he with ⟨he1, he2⟩ | rfl
    · rw [Maps.atKey_put_other (fun e => he2 (hinj _ _ e)), h.at_ e he1]
    · rw [Maps.atKey_put_same hT.isMap hk]
  · have h1 := Maps.size_put (k := lit x) hT (f ⟨x, d, s⟩)
    have h2 := strike_len (L := L) x h.nodup
    rw [h1, h.has, h.size]
    unfold setL
    rw [List.length_append, List.length_singleton]
    cases hh : hasL L x <;> rw [hh] at h2 <;> simp at h2 ⊢ <;> omega
  · unfold setL
    refine List.pairwise_append.2 ⟨h.nodup.filter _, by simp, ?_⟩
    intro a ha b hb
    simp at hb
    subst hb
    exact (mem_dropL.1 ha).2
theorem QL.atKey (h : QL lit f D L) (x : κ) (z : DataW Unit) : D.atKey (lit x) z = (match lookL L x with | some e => f e | none => z) := by
  cases hl : lookL L x with
  | none => exact Maps.atKey_of_not_has (by rw [h.has, hasL_eq, hl]; rfl) z
  | some e =>
    obtain ⟨h1, h2⟩ := lookL_some hl
    rw [← h2]
    exact h.at_ e h1 z

/-! ### What is due -/
def dueLt (x y : Ent κ) : Prop := x.d < y.d ∨ (x.d = y.d ∧ x.s < y.s)
/-- r is what is due at h, the first one ahead. -/
structure IsDue (L : List (Ent κ)) (h : Int) (r : List (Ent κ)) : Prop where
  perm : r.Perm (L.filter (fun e => decide (e.d ≤ h)))
  sorted : r.Pairwise dueLt
theorem dueLt_asymm {x y : Ent κ} (h : dueLt x y) : ¬ dueLt y x := by unfold dueLt at *; omega
theorem due_unique {r r' : List (Ent κ)} : r.Perm r' → r.Pairwise dueLt → r'.Pairwise dueLt → r = r' := by
  intro hp h1 h2
  induction r generalizing r' with
  | nil => exact (List.nil_perm.1 hp).symm
  | cons a r ih =>
    cases r' with
    | nil => exact absurd hp.length_eq (by simp)
    | cons b r' =>
      obtain ⟨a1, a2⟩ := List.pairwise_cons.1 h1
      obtain ⟨b1, b2⟩ := List.pairwise_cons.1 h2
      have hab : a = b := by
        have ha : a ∈ b :: r' := hp.subset (by simp)
        have hb : b ∈ a :: r := hp.symm.subset (by simp)
        rcases List.mem_cons.1 ha with e | ha'
        · exact e
        · rcases List.mem_cons.1 hb with e | hb'
          · exact e.symm
          · exact absurd (a1 b hb') (dueLt_asymm (b1 a ha'))
      subst hab
      rw [ih (List.perm_cons a |>.1 hp) a2 b2]
theorem IsDue.unique {h : Int} {r r' : List (Ent κ)} (a : IsDue L h r) (b : IsDue L h r') : r = r' := due_unique (a.perm.trans b.perm.symm) a.sorted b.sorted
theorem IsDue.mem {h : Int} {r : List (Ent κ)} (a : IsDue L h r) {e : Ent κ} : e ∈ r ↔ e ∈ L ∧ e.d ≤ h := by
  rw [a.perm.mem_iff]; simp
theorem IsDue.len {h : Int} {r : List (Ent κ)} (a : IsDue L h r) : r.length ≤ L.length := by
  rw [a.perm.length_eq]; exact List.length_filter_le _ _
theorem IsDue.nil (h : Int) : IsDue ([] : List (Ent κ)) h [] := ⟨List.Perm.refl _, List.Pairwise.nil⟩

/-- When the first one is due. -/
def IsNext (L : List (Ent κ)) (n : Int) : Prop := (∃ e ∈ L, e.d = n) ∧ ∀ e ∈ L, n ≤ e.d
def nextL (L : List (Ent κ)) : Int := match L with | [] => 0 | e :: r => r.foldl (fun n x => if x.d < n then x.d else n) e.d
theorem foldmin (r : List (Ent κ)) : ∀ n : Int, (r.foldl (fun n x => if x.d < n then x.d else n) n = n ∨ ∃ x ∈ r, x.d = r.foldl (fun n x => if x.d < n then x.d else n) n) ∧ r.foldl (fun n x => if x.d < n then x.d else n) n ≤ n ∧ ∀ x ∈ r, r.foldl (fun n x => if x.d < n then x.d else n) n ≤ x.d := by
  induction r with
  | nil => intro n; simp
  | cons y r ih =>
    intro n
    rw [List.foldl_cons]
    obtain ⟨h1, h2, h3⟩ := ih (if y.d < n then y.d else n)
    have hmin : (if y.d < n then y.d else n) ≤ n ∧ (if y.d < n then y.d else n) ≤ y.d := by split <;> omega
    refine ⟨?_, by omega, ?_⟩
    · rcases h1 with h1 | ⟨x, hx, hxe⟩
      · rw [h1]
        by_cases hy : y.d < n
        · rw [if_pos hy]; exact .inr ⟨y, by simp, rfl⟩
        · rw [if_neg hy]; exact .inl rfl
      · exact .inr ⟨x, by simp [hx], hxe⟩
    · intro x hx
      rcases List.mem_cons.1 hx with rfl | hx
      · omega
      · exact h3 x hx
theorem nextL_is (h : L ≠ []) : IsNext L (nextL L) := by
  cases L with
  | nil => exact absurd rfl h
  | cons e r =>
    obtain ⟨h1, h2, h3⟩ := foldmin r e.d
    refine ⟨?_, ?_⟩
    · rcases h1 with h1 | ⟨x, hx, hxe⟩
      · exact ⟨e, by simp, h1.symm⟩
      · exact ⟨x, by simp [hx], hxe⟩
    · intro x hx
      rcases List.mem_cons.1 hx with rfl | hx
      · exact h2
      · exact h3 x hx
theorem IsNext.unique {n m : Int} (a : IsNext L n) (b : IsNext L m) : n = m := by
  obtain ⟨⟨x, hx, rfl⟩, h1⟩ := a
  obtain ⟨⟨y, hy, rfl⟩, h2⟩ := b
  have := h1 y hy
  have := h2 x hx
  omega
theorem IsNext.eq {n : Int} (a : IsNext L n) : n = nextL L := a.unique (nextL_is (by rintro rfl; obtain ⟨⟨x, hx, _⟩, _⟩ := a; cases hx))
theorem nextL_in (h : ∀ e ∈ L, In64 e.d) : In64 (nextL L) := by
  by_cases hL : L = []
  · subst hL; simp [nextL, In64]
  · obtain ⟨⟨x, hx, he⟩, _⟩ := nextL_is hL
    rw [← he]; exact h x hx
end
end Go.Chron
