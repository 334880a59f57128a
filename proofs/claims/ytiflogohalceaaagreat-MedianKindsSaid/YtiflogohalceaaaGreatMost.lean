/- How many a ring may keep, of any number; the end of a list. -/
import Derived.Test.YtiflogohalceaaaGreatRows
import Derived.Test.YtiflogohalceaaaGreatRing
set_option linter.unusedVariables false
namespace Go.Chron
open Go Go.RowKit
/-- The last m of a list. -/
def lastN {α : Type} (m : Nat) (l : List α) : List α := l.drop (l.length - m)

theorem lastN_len {α : Type} (m : Nat) (l : List α) : (lastN m l).length = min l.length m := by unfold lastN; rw [List.length_drop]; omega

theorem lastN_push {α : Type} {m : Nat} (hm : 1 ≤ m) (l : List α) (x : α) : rpush m (lastN m l) x = lastN m (l ++ [x]) := by
  unfold rpush
  rw [lastN_len]
  unfold lastN
  rw [List.length_append, List.length_singleton]
  by_cases h : l.length < m
  · rw [if_pos (by omega), show l.length - m = 0 by omega, show l.length + 1 - m = 0 by omega]; rfl
  · rw [if_neg (by omega), List.tail_drop, List.drop_append_of_le_length (by omega)]
    congr 2
    omega

theorem lastN_get {α : Type} (m : Nat) (l : List α) (i : Nat) : (lastN m l)[i]? = l[l.length - m + i]? := by unfold lastN; rw [List.getElem?_drop]

theorem lastN_map {α β : Type} (f : α → β) (m : Nat) (l : List α) : (lastN m l).map f = lastN m (l.map f) := by unfold lastN; rw [List.map_drop, List.length_map]

def mostN (n : Int) : Nat := 1 + (n % 64).toNat
theorem most_eq (n : Int) : wrap64 (1 + wrap64 ((IntKind.u64.wrap n).tmod 64)) = (mostN n : Nat) := by
  have h : IntKind.u64.wrap n = n % 18446744073709551616 := IntKind.wrap_u64 n
  rw [h, Int.tmod_eq_emod_of_nonneg (by omega)]
  unfold mostN wrap64
  omega
theorem ret_int {k : IntKind} {a b : Int} (h : a = b) : Ending.returned (.int k a) = .returned (.int k b) := by rw [h]
/-- A step that only makes new blocks. -/
theorem bel0 {B : Nat} {w0 w w' : World} (h : Below B w0 w) (hc : Chg (fun _ => False) w w') (hB : B ≤ w0.heap.size) : Below B w0 w' := below_chg h hc hB (fun _ _ h => h)
theorem RingAt.chg0 {T e : TypeId} {sz : Nat} {w w' : World} {b : Nat} {g : Option Nat} {most cnt : Nat} {els : List (List Value)} (h : RingAt T e sz w b g most cnt els) (hc : Chg (fun _ => False) w w') : RingAt T e sz w' b g most cnt els :=
  h.chg hc (fun h => h) (fun _ _ h => h)
theorem chg0_alloc (w : World) (o : Obj) : Chg (fun _ => False) w (w.alloc o) := (Chg.refl _ w).alloc o
theorem chg0_drewN (w : World) (n : Nat) : Chg (fun _ => False) w (w.drewN n) := (Chg.refl _ w).drewN n
theorem chg0_drew (w : World) : Chg (fun _ => False) w w.drew := (Chg.refl _ w).drew
theorem Owns.whole {α : Type} {w : World} {e : TypeId} {k n cap : Nat} {L : List α} {f : α → Value} (h : Owns w e 1 (.slice (some ⟨k, 0, none⟩) n cap) (some k) (L.map fun z => [f z])) :
    ∃ cur, Blk w k e cur ∧ L.length ≤ cur.size ∧ ∀ (t : Nat) z, L[t]? = some z → cur[t]? = some (f z) := by
  rcases h.row with ⟨_, h0, _⟩ | ⟨k', cap', cur, hk', _, hb, h1, _, h3, h4⟩
  · cases h0
  · cases hk'
    refine ⟨cur, hb, by rw [h3]; simpa using h1, fun t z hz => ?_⟩
    have := h.cell rfl (i := t) (x := [f z]) (by simp [hz]) (j := 0) rfl
    rw [hb.cell] at this
    simpa using this
theorem lastN_last {α : Type} {m : Nat} (hm : 1 ≤ m) (l : List α) (x : α) : (lastN m (l ++ [x]))[(lastN m (l ++ [x])).length - 1]? = some x := by
  rw [← lastN_push hm]; exact rpush_last _ _ _
theorem mostN_lo (n : Int) : 1 ≤ mostN n := by unfold mostN; omega
theorem mostN_hi (n : Int) : mostN n ≤ 64 := by unfold mostN; omega
end Go.Chron
