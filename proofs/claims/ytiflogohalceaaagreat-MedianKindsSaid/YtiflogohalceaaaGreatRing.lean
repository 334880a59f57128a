/- A ring in memory, and what its methods leave: plain lemmas. -/
import Derived.Test.YtiflogohalceaaaGreatBase
namespace Go.Chron
open Go Go.RowKit
/-- A ring behind the pointer to block b: its slice in block g, how many it keeps, how many were added, the elements. -/
structure RingAt (T e : TypeId) (sz : Nat) (w : World) (b : Nat) (g : Option Nat) (most cnt : Nat) (els : List (List Value)) : Prop where
  ex : ∃ v, Blk w b T #[v, .int .i64 most, .int .i64 cnt] ∧ Owns w e sz v g els
  ne : g ≠ some b
  few : els.length ≤ most
  one : ∀ u ∈ els.flatten, u.oneCell' = true

theorem RingAt.chg {T e : TypeId} {sz : Nat} {w w' : World} {b : Nat} {g : Option Nat} {most cnt : Nat} {els : List (List Value)} {S : Nat → Prop} (h : RingAt T e sz w b g most cnt els) (hc : Chg S w w')
    (hb : ¬ S b) (hg : ∀ k, g = some k → ¬ S k) : RingAt T e sz w' b g most cnt els := by
  obtain ⟨⟨v, h1, h2⟩, h3, h4, h5⟩ := h
  exact ⟨⟨v, h1.chg hc hb, h2.chg hc hg⟩, h3, h4, h5⟩

theorem RingAt.lt {T e : TypeId} {sz : Nat} {w : World} {b : Nat} {g : Option Nat} {most cnt : Nat} {els : List (List Value)} (h : RingAt T e sz w b g most cnt els) : b < w.heap.size := by
  obtain ⟨⟨v, h1, h2⟩, _⟩ := h; exact h1.lt

theorem RingAt.ltg {T e : TypeId} {sz : Nat} {w : World} {b : Nat} {g : Option Nat} {most cnt : Nat} {els : List (List Value)} (h : RingAt T e sz w b g most cnt els) : ∀ k, g = some k → k < w.heap.size := by
  obtain ⟨⟨v, h1, h2⟩, _⟩ := h; exact h2.lt

def rpush {α : Type} (most : Nat) (els : List α) (x : α) : List α := if els.length < most then els ++ [x] else els.tail ++ [x]

theorem rpush_len {α : Type} {most : Nat} {els : List α} {x : α} (h : els.length ≤ most) (hm : 1 ≤ most) : (rpush most els x).length = min (els.length + 1) most := by
  unfold rpush; split <;> simp <;> omega

theorem ringAt_new (T e : TypeId) (sz : Nat) (w : World) (m : Nat) : RingAt T e sz (w.alloc (.cells #[.slice none 0 0, .int .i64 m, .int .i64 0] T)) w.heap.size none m 0 [] :=
  ⟨⟨_, Blk.new _ _ _, Owns.nil _ _ _⟩, by simp, by simp, by simp⟩

theorem ringAt_clear {T e : TypeId} {sz : Nat} {w : World} {b : Nat} {g : Option Nat} {most cnt : Nat} {els : List (List Value)} (h : RingAt T e sz w b g most cnt els) :
    RingAt T e sz (w.setCell ⟨b, 0, none⟩ (.slice none 0 0)) b none most cnt [] := by
  obtain ⟨⟨v, h1, h2⟩, h3, h4, h5⟩ := h
  refine ⟨⟨_, ?_, Owns.nil _ _ _⟩, by simp, by simp, by simp⟩
  have := h1.set_ 0 (.slice none 0 0)
  simpa using this

theorem blk_typ {w : World} {g : Nat} {t t' : TypeId} {cs cs' : Array Value} (h : Blk w g t cs) (h' : Blk w g t' cs') : t = t' := by
  unfold Blk at h h'
  rw [h] at h'
  injection h' with h'
  injection h'

theorem Owns.blk {w : World} {e : TypeId} {sz : Nat} {v : Value} {g : Option Nat} {els : List (List Value)} (h : Owns w e sz v g els) {k : Nat} (hg : g = some k) : ∃ cur, Blk w k e cur := by
  rcases h.row with ⟨_, h0, _⟩ | ⟨k', cap, cur, hk', _, hb, _⟩
  · rw [h0] at hg; cases hg
  · rw [hk'] at hg; cases hg; exact ⟨cur, hb⟩

/-- Two rings of types that differ lie apart. -/
theorem rings_apart {T e T' e' : TypeId} {sz sz' : Nat} {w : World} {b b' : Nat} {g g' : Option Nat} {most cnt most' cnt' : Nat} {els els' : List (List Value)}
    (h : RingAt T e sz w b g most cnt els) (h' : RingAt T' e' sz' w b' g' most' cnt' els') (h1 : T ≠ T') (h2 : T ≠ e') (h3 : e ≠ T') (h4 : e ≠ e') :
    b ≠ b' ∧ g ≠ some b' ∧ g' ≠ some b ∧ ∀ j, g = some j → g' ≠ some j := by
  obtain ⟨⟨v, hb, ho⟩, _⟩ := h
  obtain ⟨⟨v', hb', ho'⟩, _⟩ := h'
  refine ⟨?_, ?_, ?_, ?_⟩
  · rintro rfl; exact h1 (blk_typ hb hb')
  · intro hg; obtain ⟨c, hc⟩ := ho.blk hg; exact h3 (blk_typ hc hb')
  · intro hg; obtain ⟨c, hc⟩ := ho'.blk hg; exact h2 (blk_typ hb hc)
  · intro j hg hg'; obtain ⟨c, hc⟩ := ho.blk hg; obtain ⟨c', hc'⟩ := ho'.blk hg'; exact h4 (blk_typ hc hc')

theorem rpush_last {α : Type} (most : Nat) (els : List α) (x : α) : (rpush most els x)[(rpush most els x).length - 1]? = some x := by
  unfold rpush; split <;> simp

/-- A new slice with the same elements. -/
def Cloned (e : TypeId) (sz : Nat) (w : World) (els : List (List Value)) (en : Ending) (w' : World) : Prop :=
  ∃ a cap g, en = .returned (.slice a els.length cap) ∧ Owns w' e sz (.slice a els.length cap) g els ∧ Chg (fun _ => False) w w' ∧ (∀ k, g = some k → w.heap.size ≤ k)

theorem cloned_nil (e : TypeId) (sz : Nat) (w : World) : Cloned e sz w [] (.returned (.slice none 0 0)) w := ⟨none, 0, none, rfl, Owns.nil _ _ _, Chg.refl _ _, by simp⟩

theorem owns_empty (e : TypeId) (sz : Nat) (w : World) : Owns (w.alloc (.cells #[] e)) e sz (.slice (some ⟨w.heap.size, 0, none⟩) 0 0) (some w.heap.size) [] :=
  ⟨by simp, .inr ⟨w.heap.size, 0, #[], rfl, rfl, Blk.new _ _ _, by simp, by simp, by simp, by simp⟩⟩

theorem cloned_mk {e : TypeId} {sz : Nat} {w w' : World} {o : Obj} {els : List (List Value)} {k cap n : Nat} (ho : Owns w' e sz (.slice (some ⟨k, 0, none⟩) n cap) (some k) ([] ++ els))
    (hc : Chg (fun b => b = w.heap.size) (w.alloc o) w') (hk : w.heap.size = k ∨ (w.alloc o).heap.size ≤ k) : Cloned e sz w els (.returned (.slice (some ⟨k, 0, none⟩) n cap)) w' := by
  simp only [List.nil_append] at ho
  obtain ⟨cap', hv, _⟩ := ho.some_form
  have hn : n = els.length := by
    simp only [Value.slice.injEq] at hv
    exact hv.2.1
  subst hn
  refine ⟨_, _, some k, rfl, ho, Chg.trans' ((Chg.refl (fun _ => False) w).alloc o) hc (fun i hi h => by omega), fun j hj => ?_⟩
  cases hj
  simp at hk
  omega

/-- What Add leaves. -/
def Added (T e : TypeId) (sz : Nat) (w : World) (b : Nat) (g : Option Nat) (most cnt : Nat) (els : List (List Value)) (x : List Value) (w' : World) : Prop :=
  ∃ k, RingAt T e sz w' b (some k) most (cnt + 1) (rpush most els x) ∧ Chg (fun k => k = b ∨ g = some k) w w' ∧ (g = some k ∨ w.heap.size ≤ k)

theorem added_room {T e : TypeId} {sz : Nat} {w W w' : World} {b : Nat} {g : Option Nat} {most cnt : Nat} {els : List (List Value)} {x : List Value} {k cap : Nat} {v : Value} {n : Nat}
    (hr : RingAt T e sz w b g most cnt els) (hlt : els.length < most) (hx : ∀ u ∈ x, u.oneCell' = true) (C : Chg (fun k => k = b) w W) (B : Blk W b T #[v, .int .i64 most, .int .i64 ((cnt : Int) + 1)])
    (hc : Chg (fun b => g = some b) W w') (ho : Owns w' e sz (.slice (some ⟨k, 0, none⟩) n cap) (some k) (els ++ [x])) (hk : g = some k ∨ W.heap.size ≤ k) :
    Added T e sz w b g most cnt els x (w'.setCell ⟨b, 0, none⟩ (.slice (some ⟨k, 0, none⟩) n cap)) := by
  have hkb : k ≠ b := by
    rintro rfl
    rcases hk with h | h
    · exact hr.ne h
    · have := B.lt; omega
  refine ⟨k, ⟨⟨.slice (some ⟨k, 0, none⟩) n cap, ?_, ?_⟩, ?_, ?_, ?_⟩, ?_, ?_⟩
  · have := (B.chg hc hr.ne).set_ 0 (.slice (some ⟨k, 0, none⟩) n cap)
    simpa using this
  · unfold rpush; rw [if_pos hlt]
    exact ho.chg (Chg.setCell (S := fun i => i = b) (p := ⟨b, 0, none⟩) (Chg.refl _ w') (fun _ => rfl) _) (fun j hj e => by cases hj; exact hkb e)
  · simpa using hkb
  · unfold rpush; rw [if_pos hlt]; simp; omega
  · unfold rpush; rw [if_pos hlt]
    intro u hu
    simp only [List.flatten_append, List.flatten_cons, List.flatten_nil, List.append_nil] at hu
    rcases List.mem_append.1 hu with h | h
    · exact hr.one u h
    · exact hx u h
  · refine Chg.setCell (p := ⟨b, 0, none⟩) (Chg.trans' (C.mono (fun i _ h => .inl h)) hc (fun i _ h => .inr h)) (fun _ => .inl rfl) _
  · rcases hk with h | h
    · exact .inl h
    · exact .inr (Nat.le_trans C.size h)

theorem added_full {T e : TypeId} {sz : Nat} {w W w' : World} {b : Nat} {g : Option Nat} {most cnt : Nat} {els : List (List Value)} {x : List Value} {k cap : Nat} {n : Nat}
    (hr : RingAt T e sz w b g most cnt els) (hlt : ¬ els.length < most) (hpos : 0 < els.length) (hx : ∀ u ∈ x, u.oneCell' = true) (hxl : x.length = sz) (C : Chg (fun k => k = b) w W) (B : Blk W b T #[.slice (some ⟨k, 0, none⟩) n cap, .int .i64 most, .int .i64 ((cnt : Int) + 1)])
    (hgk : g = some k) (hc : Chg (fun b => b = k) W w') (ho : Owns w' e sz (.slice (some ⟨k, 0, none⟩) n cap) (some k) (els.tail ++ els.drop (n - 1))) (hn : n = els.length) :
    Added T e sz w b g most cnt els x (w'.setCells k ((n - 1) * sz) x) := by
  subst hn
  have hkb : k ≠ b := fun h => hr.ne (by rw [hgk, h])
  have hset := ho.set (i := els.length - 1) (by simp; omega) hxl
  have hl : (els.tail ++ els.drop (els.length - 1)).set (els.length - 1) x = els.tail ++ [x] := by
    rw [List.set_append, if_neg (by simp)]
    congr 1
    have : els.drop (els.length - 1) = [els[els.length - 1]] := by
      rw [List.drop_eq_getElem_cons (by omega)]
      congr 1
      exact List.drop_eq_nil_of_le (by omega)
    rw [this]
    simp
  rw [hl] at hset
  have hcs : ∀ (x : List Value) (o : Nat) (w' : World), Chg (fun i => i = k) w' (w'.setCells k o x) := by
    intro x
    induction x with
    | nil => intro o w'; exact Chg.refl _ _
    | cons u r ih => intro o w'; exact Chg.trans (Chg.setCell (S := fun i => i = k) (p := ⟨k, o, none⟩) (Chg.refl _ w') (fun _ => rfl) u) (ih (o + 1) _)
  refine ⟨k, ⟨⟨_, (B.chg hc (fun h => hkb h.symm)).chg (hcs x _ w') (fun h => hkb h.symm), ?_⟩, ?_, ?_, ?_⟩, ?_, .inl hgk⟩
  · unfold rpush; rw [if_neg hlt]; exact hset
  · simpa using hkb
  · unfold rpush; rw [if_neg hlt]; have := hr.few; simp; omega
  · unfold rpush; rw [if_neg hlt]
    intro u hu
    simp only [List.flatten_append, List.flatten_cons, List.flatten_nil, List.append_nil] at hu
    rcases List.mem_append.1 hu with h | h
    · obtain ⟨y, hy, hu'⟩ := List.mem_flatten.1 h
      exact hr.one u (List.mem_flatten.2 ⟨y, List.mem_of_mem_tail hy, hu'⟩)
    · exact hx u h
  · exact Chg.trans' (Chg.trans' (C.mono (fun i _ h => .inl h)) hc (fun i _ h => .inr (by rw [hgk, h]))) (hcs x _ w') (fun i _ h => .inr (by rw [hgk, h]))
end Go.Chron
