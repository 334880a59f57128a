/- Plain lemmas on worlds and blocks: a block that is known whole; a world that has changed only in some blocks; a slice that owns its elements; append, copy and store upon such a slice. A ring in memory, and what its methods leave: plain lemmas. -/
import Derived.WalkKit
import Derived.WalkSpells
import Derived.WalkLawsBesides
import Derived.Laws.CopyOwn
import Derived.Maps.AppendAt
import Derived.Deep.AppendLies
import Derived.Deep.QuietTactic
import Derived.BigQuiet
import Derived.StillTailTactics
import Derived.Deep.DeepCutAuto
import Derived.Deep.RegionHeld3
import Derived.Deep.Draws
import Derived.Lib.Hide
import Derived.DataReads
import Derived.KernelRfl
set_option linter.unusedVariables false
section
namespace Go
theorem qA {α : Type} (l : List α) (i : Nat) (a : α) : l.toArray.setIfInBounds i a = (l.set i a).toArray := List.setIfInBounds_toArray ..
theorem qB {α : Type} {x : α} {l : List α} {a : α} : (x :: l).set 0 a = a :: l := rfl
theorem qC {α : Type} {x : α} {l : List α} {n : Nat} {a : α} : (x :: l).set (n + 1) a = x :: l.set n a := rfl
end Go
namespace Go.Chron
open Go Go.RowKit
def Blk (w : World) (g : Nat) (t : TypeId) (cs : Array Value) : Prop := w.heap[g]? = some (.cells cs t (0, 0))
section
variable {w w' : World} {g : Nat} {t : TypeId} {cs : Array Value}
theorem Blk.lt (h : Blk w g t cs) : g < w.heap.size := by
 rcases Nat.lt_or_ge g w.heap.size with hlt | hge
 ·exact hlt
 ·unfold Blk at h; rw [Array.getElem?_eq_none hge] at h; cases h
theorem Blk.cell (h : Blk w g t cs) (i : Nat) : w.cell? ⟨g, i, none⟩ = cs[i]? := cell_of_row w g i cs t (0, 0) h
theorem Blk.frozen (h : Blk w g t cs) (i : Nat) : w.frozen? ⟨g, i, none⟩ = false := by
 unfold Blk at h
 simp [World.frozen?, h]
theorem Blk.new (w : World) (t : TypeId) (cs : Array Value) : Blk (w.alloc (.cells cs t)) w.heap.size t cs := heap_alloc_new w _
theorem Blk.drew (h : Blk w g t cs) : Blk w.drew g t cs := h
theorem Blk.drewN (h : Blk w g t cs) (n : Nat) : Blk (w.drewN n) g t cs := h
theorem Blk.alloc (h : Blk w g t cs) (o : Obj) : Blk (w.alloc o) g t cs := (Below.heap_alloc w o g h.lt).trans h
theorem Blk.set_ (h : Blk w g t cs) (i : Nat) (u : Value) : Blk (w.setCell ⟨g, i, none⟩ u) g t (cs.setIfInBounds i u) := by
 unfold Blk at h ⊢
 simp [World.setCell, Array.getElem?_modify, h]
theorem Blk.far (h : Blk w g t cs) {p : Addr} (hp : g ≠ p.block) (u : Value) : Blk (w.setCell p u) g t cs := (Below.heap_setCell w p u g hp).trans h
theorem Blk.setCells {k : Nat} {e : TypeId} : ∀ (x : List Value) (o : Nat) (w : World) (cur : Array Value), Blk w k e cur → o + x.length ≤ cur.size →
  Blk (w.setCells k o x) k e (cur.toList.take o ++ (x ++ cur.toList.drop (o + x.length))).toArray
 | [], o, w, cur, h, _ => by simpa [World.setCells] using h
 | v :: r, o, w, cur, h, hl => by
  simp only [List.length_cons] at hl
  have ih := Blk.setCells r (o + 1) (w.setCell ⟨k, o, none⟩ v) _ (h.set_ o v) (by simp; omega)
  simp only [World.setCells]
  have e : ((cur.setIfInBounds o v).toList.take (o + 1) ++ (r ++ (cur.setIfInBounds o v).toList.drop (o + 1 + r.length))) = cur.toList.take o ++ (v :: r ++ cur.toList.drop (o + (v :: r).length)) := by
   have e1 : (cur.setIfInBounds o v).toList.take (o + 1) = cur.toList.take o ++ [v] := by
    rw [Array.toList_setIfInBounds, List.take_add_one, List.take_set_of_le (Nat.le_refl _)]
    rw [List.getElem?_set_self (by simp; omega)]
    rfl
   have e2 : (cur.setIfInBounds o v).toList.drop (o + 1 + r.length) = cur.toList.drop (o + (v :: r).length) := by
    rw [Array.toList_setIfInBounds, List.drop_set_of_lt (by omega)]
    congr 1
    simp; omega
   rw [e1, e2]; simp
  rw [e] at ih
  exact ih
end
structure Chg (S : Nat → Prop) (w w' : World) : Prop where
 os : w'.os = w.os
 tape : w'.tape = w.tape
 output : w'.output = w.output
 size : w.heap.size ≤ w'.heap.size
 block : ∀ k, k < w.heap.size → ¬ S k → w'.heap[k]? = w.heap[k]?
section
variable {S S' : Nat → Prop} {w w' w'' : World}
theorem Chg.refl (S : Nat → Prop) (w : World) : Chg S w w := ⟨rfl, rfl, rfl, Nat.le_refl _, fun _ _ _ => rfl⟩
theorem Chg.trans (h : Chg S w w') (k : Chg S w' w'') : Chg S w w'' :=
 ⟨k.os.trans h.os, k.tape.trans h.tape, k.output.trans h.output, Nat.le_trans h.size k.size, fun i hi hn => (k.block i (Nat.lt_of_lt_of_le hi h.size) hn).trans (h.block i hi hn)⟩
theorem Chg.trans' (h : Chg S w w') (k : Chg S' w' w'') (hS : ∀ i, i < w.heap.size → S' i → S i) : Chg S w w'' :=
 ⟨k.os.trans h.os, k.tape.trans h.tape, k.output.trans h.output, Nat.le_trans h.size k.size, fun i hi hn => (k.block i (Nat.lt_of_lt_of_le hi h.size) (fun e => hn (hS i hi e))).trans (h.block i hi hn)⟩
theorem Chg.mono (h : Chg S w w') (hS : ∀ i, i < w.heap.size → S i → S' i) : Chg S' w w' := ⟨h.os, h.tape, h.output, h.size, fun i hi hn => h.block i hi (fun e => hn (hS i hi e))⟩
theorem Chg.drew (h : Chg S w w') : Chg S w w'.drew := ⟨h.os, h.tape, h.output, h.size, h.block⟩
theorem Chg.drewN (h : Chg S w w') (n : Nat) : Chg S w (w'.drewN n) := ⟨h.os, h.tape, h.output, h.size, h.block⟩
theorem Chg.alloc (h : Chg S w w') (o : Obj) : Chg S w (w'.alloc o) :=
 h.trans ⟨rfl, rfl, rfl, by simp, fun i hi _ => Below.heap_alloc _ _ _ hi⟩
theorem Chg.setCell (h : Chg S w w') {p : Addr} (hp : p.block < w.heap.size → S p.block) (u : Value) : Chg S w (w'.setCell p u) :=
 h.trans' (S' := fun k => k = p.block) ⟨rfl, rfl, rfl, by simp [World.setCell], fun i _ hn => Below.heap_setCell _ _ _ _ hn⟩ (fun i hi e => by subst e; exact hp hi)
theorem Chg.setRow (h : Chg S w w') {g : Nat} (hp : g < w.heap.size → S g) (cs : Array Value) : Chg S w (w'.setRow g cs) :=
 h.trans' (S' := fun k => k = g) ⟨rfl, rfl, rfl, by simp [World.setRow], fun i _ hn => setRow_other _ _ _ _ hn⟩ (fun i hi e => by subst e; exact hp hi)
theorem Chg.grown (h : Chg S w w') {row : Option Nat} (hg : w'.grownBy w'' row) (hr : ∀ k, k < w.heap.size → row = some k → S k) : Chg S w w'' :=
 h.trans' (S' := fun k => row = some k) ⟨hg.os, hg.tape, hg.output, hg.size, fun i hi hn => hg.block i hi (fun e => hn e.symm)⟩ hr
theorem Chg.of_below {B : Nat} (h : Below B w w') : Chg (fun k => B ≤ k) w w' := ⟨h.os, h.tape, h.output, h.size, fun i _ hn => h.block i (Nat.lt_of_not_le hn)⟩
theorem Chg.below {B : Nat} (h : Chg S w w') (hB : B ≤ w.heap.size) (hS : ∀ k, k < B → ¬ S k) : Below B w w' := ⟨h.os, h.tape, h.output, h.size, fun i hi => h.block i (Nat.lt_of_lt_of_le hi hB) (hS i hi)⟩
theorem below_chg {B : Nat} {w0 : World} (h : Below B w0 w) (hc : Chg S w w') (hB : B ≤ w0.heap.size) (hS : ∀ k, k < B → ¬ S k) : Below B w0 w' :=
 h.trans (hc.below (Nat.le_trans hB h.size) hS)
theorem Blk.chg {g : Nat} {t : TypeId} {cs : Array Value} (h : Blk w g t cs) (hc : Chg S w w') (hn : ¬ S g) : Blk w' g t cs := (hc.block g h.lt hn).trans h
theorem Chg.cell (hc : Chg S w w') {p : Addr} (hp : p.block < w.heap.size) (hn : ¬ S p.block) : w'.cell? p = w.cell? p := World.cell?_of_block (w := w) (hc.block p.block hp hn)
theorem Chg.keep (hc : Chg S w w') {p : Addr} {v : Value} (h : w.cell? p = some v) (hn : ¬ S p.block) : w'.cell? p = some v := (hc.cell (World.block_lt_of_cell? w p h) hn).trans h
theorem Chg.frozen (hc : Chg S w w') {p : Addr} (hp : p.block < w.heap.size) (hn : ¬ S p.block) : w'.frozen? p = w.frozen? p := World.frozen?_of_block (w := w) (hc.block p.block hp hn)
end
/-! ### Lists of elements, each of sz cells -/
theorem flat_len {α : Type} {sz : Nat} : ∀ {els : List (List α)}, (∀ x ∈ els, x.length = sz) → els.flatten.length = els.length * sz
 | [], _ => by simp
 | x :: r, h => by
  have := flat_len (sz := sz) (els := r) (fun y hy => h y (List.mem_cons_of_mem _ hy))
  rw [List.flatten_cons, List.length_append, h x (List.mem_cons_self ..), this, List.length_cons, Nat.succ_mul, Nat.add_comm]
theorem flat_drop {α : Type} {sz : Nat} : ∀ {els : List (List α)} (i : Nat), (∀ x ∈ els, x.length = sz) → els.flatten.drop (i * sz) = (els.drop i).flatten
 | els, 0, _ => by simp
 | [], i + 1, _ => by simp
 | x :: r, i + 1, h => by
  rw [List.flatten_cons, List.drop_succ_cons, ← flat_drop i (fun y hy => h y (List.mem_cons_of_mem _ hy)), Nat.succ_mul, Nat.add_comm (i * sz) sz, ← List.drop_drop]
  congr 1
  rw [← h x (List.mem_cons_self ..)]
  exact List.drop_left
theorem flat_take {α : Type} {sz : Nat} : ∀ {els : List (List α)} (i : Nat), (∀ x ∈ els, x.length = sz) → els.flatten.take (i * sz) = (els.take i).flatten
 | els, 0, _ => by simp
 | [], i + 1, _ => by simp
 | x :: r, i + 1, h => by
  rw [List.flatten_cons, List.take_succ_cons, List.flatten_cons, ← flat_take i (fun y hy => h y (List.mem_cons_of_mem _ hy)), Nat.succ_mul, Nat.add_comm (i * sz) sz, List.take_append, h x (List.mem_cons_self ..)]
  congr 1
  ·exact List.take_of_length_le (by rw [h x (List.mem_cons_self ..)]; omega)
  ·congr 1; omega
theorem flat_get {α : Type} {sz : Nat} {els : List (List α)} {i : Nat} {x : List α} (he : ∀ x ∈ els, x.length = sz) (hx : els[i]? = some x) {j : Nat} {u : α} (hu : x[j]? = some u) :
  els.flatten[i * sz + j]? = some u := by
 have h1 : (els.flatten.drop (i * sz))[j]? = some u := by
  rw [flat_drop i he]
  have : els.drop i = x :: els.drop (i + 1) := by
   obtain ⟨hlt, rfl⟩ := List.getElem?_eq_some_iff.1 hx
   exact List.drop_eq_getElem_cons hlt
  rw [this, List.flatten_cons, List.getElem?_append_left (List.getElem?_eq_some_iff.1 hu).1]
  exact hu
 rwa [List.getElem?_drop] at h1
theorem flat_set {α : Type} {sz : Nat} {els : List (List α)} {i : Nat} (he : ∀ x ∈ els, x.length = sz) (hi : i < els.length) (x : List α) :
  (els.set i x).flatten = els.flatten.take (i * sz) ++ (x ++ els.flatten.drop ((i + 1) * sz)) := by
 rw [flat_take i he, flat_drop (i + 1) he, List.set_eq_take_append_cons_drop, if_pos hi]
 simp
theorem take_splice {α : Type} (M : List α) (a s N : Nat) (x : List α) (hx : x.length = s) (h1 : a + s ≤ N) (h2 : N ≤ M.length) :
  (M.take a ++ (x ++ M.drop (a + s))).take N = (M.take N).take a ++ (x ++ (M.take N).drop (a + s)) := by
 apply List.ext_getElem?
 intro i
 have e1 : min a M.length = a := by omega
 have e2 : min a (min N M.length) = a := by omega
 simp only [List.getElem?_append, List.getElem?_take, List.getElem?_drop, List.length_take, e1, e2, hx]
 have e3 : ∀ h : ¬ i < a, ¬ i - a < s → a + s + (i - a - s) = i := fun _ _ => by omega
 repeat' split
 all_goals first | rfl | omega | (rw [e3 ‹_› ‹_›])
/-! ### A slice that owns its elements -/
structure Owns (w : World) (e : TypeId) (sz : Nat) (v : Value) (g : Option Nat) (els : List (List Value)) : Prop where
 each : ∀ x ∈ els, x.length = sz
 row : (v = .slice none 0 0 ∧ g = none ∧ els = []) ∨
  ∃ k cap cur, g = some k ∧ v = .slice (some ⟨k, 0, none⟩) els.length cap ∧ Blk w k e cur ∧ els.length ≤ cap ∧ cap ≤ maxLen ∧ cur.size = cap * sz ∧ cur.toList.take (els.length * sz) = els.flatten
section
variable {w w' : World} {e : TypeId} {sz : Nat} {v : Value} {g : Option Nat} {els : List (List Value)} {S : Nat → Prop}
theorem Owns.nil (w : World) (e : TypeId) (sz : Nat) : Owns w e sz (.slice none 0 0) none [] := ⟨by simp, .inl ⟨rfl, rfl, rfl⟩⟩
theorem Owns.form (h : Owns w e sz v g els) : ∃ a cap, v = .slice a els.length cap ∧ els.length ≤ cap ∧ cap ≤ maxLen ∧ (a = none → cap = 0) ∧ a = g.map (fun k => ⟨k, 0, none⟩) := by
 rcases h.row with ⟨rfl, rfl, rfl⟩ | ⟨k, cap, cur, rfl, rfl, _, h1, h2, _⟩
 ·exact ⟨none, 0, rfl, Nat.le_refl _, Nat.zero_le _, fun _ => rfl, rfl⟩
 ·exact ⟨_, cap, rfl, h1, h2, (by intro hh; cases hh), rfl⟩
theorem Owns.some_form {k : Nat} (h : Owns w e sz v (some k) els) : ∃ cap, v = .slice (some ⟨k, 0, none⟩) els.length cap ∧ els.length ≤ cap ∧ cap ≤ maxLen := by
 rcases h.row with ⟨_, h0, _⟩ | ⟨k', cap, cur, hk, rfl, _, h1, h2, _⟩
 ·cases h0
 ·cases hk; exact ⟨cap, rfl, h1, h2⟩
theorem Owns.pos (h : Owns w e sz v g els) (hp : 0 < els.length) : ∃ k, g = some k := by
 rcases h.row with ⟨_, _, rfl⟩ | ⟨k, _, _, hk, _⟩
 ·simp at hp
 ·exact ⟨k, hk⟩
theorem Owns.lt (h : Owns w e sz v g els) : ∀ k, g = some k → k < w.heap.size := by
 intro k hk
 rcases h.row with ⟨_, h0, _⟩ | ⟨k', cap, cur, hk', _, hb, _⟩
 ·rw [h0] at hk; cases hk
 ·rw [hk'] at hk; cases hk; exact hb.lt
theorem Owns.chg (h : Owns w e sz v g els) (hc : Chg S w w') (hn : ∀ k, g = some k → ¬ S k) : Owns w' e sz v g els := by
 refine ⟨h.each, ?_⟩
 rcases h.row with hnil | ⟨k, cap, cur, hk, hv, hb, r⟩
 ·exact .inl hnil
 ·exact .inr ⟨k, cap, cur, hk, hv, hb.chg hc (hn k hk), r⟩
theorem Owns.alloc (h : Owns w e sz v g els) (o : Obj) : Owns (w.alloc o) e sz v g els := h.chg ((Chg.refl (fun _ => False) w).alloc o) (fun _ _ h => h)
theorem Owns.drew (h : Owns w e sz v g els) : Owns w.drew e sz v g els := h.chg ((Chg.refl (fun _ => False) w).drew) (fun _ _ h => h)
theorem Owns.drewN (h : Owns w e sz v g els) (n : Nat) : Owns (w.drewN n) e sz v g els := h.chg ((Chg.refl (fun _ => False) w).drewN n) (fun _ _ h => h)
theorem Owns.cell (h : Owns w e sz v g els) {k : Nat} (hg : g = some k) {i : Nat} {x : List Value} (hx : els[i]? = some x) {j : Nat} {u : Value} (hu : x[j]? = some u) :
  w.cell? ⟨k, i * sz + j, none⟩ = some u := by
 rcases h.row with ⟨_, h0, _⟩ | ⟨k', cap, cur, hk', _, hb, _, _, _, ht⟩
 ·rw [h0] at hg; cases hg
 ·rw [hk'] at hg; cases hg
  have h1 := flat_get h.each hx hu
  rw [← ht, List.getElem?_take] at h1
  split at h1
  ·rw [hb.cell, ← h1]; simp
  ·cases h1
theorem Owns.frozen (h : Owns w e sz v g els) {k : Nat} (hg : g = some k) (i : Nat) : w.frozen? ⟨k, i, none⟩ = false := by
 rcases h.row with ⟨_, h0, _⟩ | ⟨k', cap, cur, hk', _, hb, _⟩
 ·rw [h0] at hg; cases hg
 ·rw [hk'] at hg; cases hg
  exact hb.frozen i
theorem Owns.there (h : Owns w e sz v g els) {k : Nat} (hg : g = some k) {i j : Nat} (hi : i < els.length) (hj : j < sz) : ∃ u, w.cell? ⟨k, i * sz + j, none⟩ = some u := by
 have hx : els[i]? = some els[i] := List.getElem?_eq_getElem hi
 have hl : els[i].length = sz := h.each _ (List.getElem_mem hi)
 exact ⟨els[i][j]'(by omega), h.cell hg hx (List.getElem?_eq_getElem (by omega))⟩
theorem Owns.to_row (h : Owns w e sz v g els) : w.ownsRow 0 e sz v els.length els.flatten := by
 refine ⟨flat_len h.each, ?_⟩
 rcases h.row with ⟨rfl, _, rfl⟩ | ⟨k, cap, cur, _, hv, hb, h1, h2, h3, h4⟩
 ·exact .inl ⟨rfl, rfl⟩
 ·exact .inr ⟨k, cap, cur, hv, Nat.zero_le _, hb, h1, h2, h3, h4⟩
theorem Owns.of_row {base : Nat} (h : w.ownsRow base e sz v els.length els.flatten) (he : ∀ x ∈ els, x.length = sz) : Owns w e sz v v.ownBlock els := by
 refine ⟨he, ?_⟩
 rcases h.2 with ⟨rfl, h0⟩ | ⟨k, cap, cur, rfl, _, hb, h1, h2, h3, h4⟩
 ·exact .inl ⟨rfl, rfl, List.eq_nil_of_length_eq_zero h0⟩
 ·exact .inr ⟨k, cap, cur, rfl, rfl, hb, h1, h2, h3, h4⟩
theorem Owns.ownBlock (h : Owns w e sz v g els) : v.ownBlock = g := by
 rcases h.row with ⟨rfl, rfl, rfl⟩ | ⟨k, cap, cur, rfl, rfl, _⟩ <;> rfl
theorem Owns.set {k : Nat} (h : Owns w e sz v (some k) els) {i : Nat} (hi : i < els.length) {x : List Value} (hx : x.length = sz) :
  Owns (w.setCells k (i * sz) x) e sz v (some k) (els.set i x) := by
 rcases h.row with ⟨_, h0, _⟩ | ⟨k', cap, cur, hk', hv, hb, h1, h2, h3, h4⟩
 ·cases h0
 ·cases hk'
  have hlen := flat_len h.each
  have hmul : (i + 1) * sz ≤ els.length * sz := Nat.mul_le_mul_right _ hi
  have hmul2 : els.length * sz ≤ cap * sz := Nat.mul_le_mul_right _ h1
  have hs : (i + 1) * sz = i * sz + sz := Nat.succ_mul i sz
  refine ⟨fun y hy => ?_, .inr ⟨k, cap, _, rfl, by simpa using hv, Blk.setCells x (i * sz) w cur hb (by rw [hx, h3]; omega), by simpa using h1, h2, ?_, ?_⟩⟩
  ·rcases List.mem_or_eq_of_mem_set hy with h' | h'
   ·exact h.each y h'
   ·rw [h']; exact hx
  ·simp only [List.size_toArray, List.length_append, List.length_take, List.length_drop, Array.length_toList, hx, h3]
   omega
  ·rw [List.length_set, flat_set h.each hi, ← h4, hs]
   rw [hx]
   exact take_splice cur.toList (i * sz) sz (els.length * sz) x hx (by omega) (by have : cur.toList.length = cap * sz := h3; omega)
end
def Reads (w : World) (sz : Nat) (a : Option Addr) (els : List (List Value)) : Prop :=
 0 < els.length → ∃ b off, a = some ⟨b, off, none⟩ ∧ ∀ i x, els[i]? = some x → ∀ j u, x[j]? = some u → w.cell? ⟨b, off + (i * sz + j), none⟩ = some u
theorem Reads.flat {w : World} {sz : Nat} {ad : Addr} {els : List (List Value)} (h : Reads w sz (some ad) els) (he : ∀ x ∈ els, x.length = sz) : ∀ j u, els.flatten[j]? = some u → w.cell? (ad.add j) = some u := by
 intro j u hu
 have hlt := (List.getElem?_eq_some_iff.1 hu).1
 rw [flat_len he] at hlt
 have hpos : 0 < els.length := by
  rcases Nat.eq_zero_or_pos els.length with h0 | h0
  ·rw [h0] at hlt; simp at hlt
  ·exact h0
 obtain ⟨b, off, hab, hc⟩ := h hpos
 cases hab
 have hszp : 0 < sz := by
  rcases Nat.eq_zero_or_pos sz with h0 | h0
  ·rw [h0] at hlt; simp at hlt
  ·exact h0
 have hd : j / sz < els.length := Nat.div_lt_of_lt_mul (by rw [Nat.mul_comm]; exact hlt)
 have hj : j / sz * sz + j % sz = j := by rw [Nat.mul_comm]; exact Nat.div_add_mod j sz
 have hx : els[j / sz]? = some els[j / sz] := List.getElem?_eq_getElem hd
 have hl : els[j / sz].length = sz := he _ (List.getElem_mem hd)
 have hm : j % sz < els[j / sz].length := by rw [hl]; exact Nat.mod_lt _ hszp
 have hg := flat_get he hx (List.getElem?_eq_getElem hm)
 rw [hj, hu] at hg
 rw [Addr.add_lit]
 have := hc _ _ hx _ _ (List.getElem?_eq_getElem hm)
 rw [hj] at this
 rw [this, hg]
theorem Owns.reads {w : World} {e : TypeId} {sz : Nat} {v : Value} {g : Option Nat} {els : List (List Value)} (h : Owns w e sz v g els) : Reads w sz (g.map fun k => ⟨k, 0, none⟩) els := by
 intro hp
 obtain ⟨k, rfl⟩ := h.pos hp
 exact ⟨k, 0, rfl, fun i x hx j u hu => by rw [Nat.zero_add]; exact h.cell rfl hx hu⟩
theorem Reads.chg {w w' : World} {sz : Nat} {a : Option Addr} {els : List (List Value)} {S : Nat → Prop} (h : Reads w sz a els) (hc : Chg S w w') (hn : ∀ ad, a = some ad → ¬ S ad.block) : Reads w' sz a els := by
 intro hp
 obtain ⟨b, off, rfl, hcell⟩ := h hp
 exact ⟨b, off, rfl, fun i x hx j u hu => hc.keep (hcell i x hx j u hu) (hn ⟨b, off, none⟩ rfl)⟩
section
variable {P : Program} {w : World} {ops : Array Oper} {rest : List Oper} {o : Oper} {a : Act} {Q : Exit → Act → World → Prop} {e : TypeId} {sz : Nat} {g : Option Nat} {els : List (List Value)} {v : Value}
theorem wpList_app (hgd : o.guard = none) (s x : Operand) (t : TypeId)
  (ho : o.op = .call { callee := .builtin .append, args := #[s, x], argTypes := #[t, t] })
  (e : TypeId) (i : TypeInfo) (z : Value) (sz bytes : Nat) (ht : P.underlying t = some (.slice e)) (hi : P.info? e = some i) (hz : i.zero = some z)
  (hsize : i.size = sz) (hby : i.bytes = bytes) (hzs : z.cells.size = sz) (hsz : 0 < sz)
  (v : Value) (g : Option Nat) (els : List (List Value)) (hs : a.eval s = v) (hown : Owns w e sz v g els)
  (tb : Nat) (tt : TypeId) (news : List (List Value)) (m c : Nat) (hx : a.eval x = .slice (some ⟨tb, 0, none⟩) m c) (hm : m = news.length) (hb : Blk w tb tt news.flatten.toArray)
  (hne : ∀ y ∈ news, y.length = sz) (h1 : ∀ u ∈ news.flatten, u.oneCell' = true) (hpos : 0 < news.length)
  (hbytes : (els.length + news.length) * bytes ≤ 140737488355328) (h63 : els.length + news.length ≤ maxLen)
  (h : ∀ k cap w', Owns w' e sz (.slice (some ⟨k, 0, none⟩) (els.length + news.length) cap) (some k) (els ++ news) → Chg (fun b => g = some b) w w' → (g = some k ∨ w.heap.size ≤ k) →
   wpList P ops Q rest (a.put o.dst (.slice (some ⟨k, 0, none⟩) (els.length + news.length) cap)) w') :
  wpList P ops Q (o :: rest) a w := by
 subst hm
 refine wpList_append_lies w hgd s x t ho 0 e i z sz bytes ht hi hz hsize hby hzs hsz v els.length els.flatten hs hown.to_row ⟨tb, 0, none⟩ news.length c news.flatten hx (flat_len hne)
  (fun j u hu => by rw [Addr.add_lit, hb.cell]; simpa using hu) h1 hpos h63 hbytes (Nat.zero_le _) _ rfl ?_
 intro k cap w' ho' hg hat _
 refine h k cap w' ?_ ?_ ?_
 ·refine Owns.of_row (base := 0) ?_ ?_
  ·rw [List.length_append, List.flatten_append]; exact ho'
  ·intro y hy
   rcases List.mem_append.1 hy with h' | h'
   ·exact hown.each y h'
   ·exact hne y h'
 ·exact (Chg.refl _ w).grown hg (fun b _ hb' => by rw [← hown.ownBlock]; exact hb')
 ·rw [hown.ownBlock] at hat
  rcases hat with h' | h'
  ·exact .inl h'
  ·exact .inr (by rw [h']; exact Nat.le_refl _)
theorem wpList_app_any (hgd : o.guard = none) (s x : Operand) (t : TypeId)
  (ho : o.op = .call { callee := .builtin .append, args := #[s, x], argTypes := #[t, t] })
  (e : TypeId) (i : TypeInfo) (z : Value) (sz bytes : Nat) (ht : P.underlying t = some (.slice e)) (hi : P.info? e = some i) (hz : i.zero = some z)
  (hsize : i.size = sz) (hby : i.bytes = bytes) (hzs : z.cells.size = sz) (hsz : 0 < sz)
  (v : Value) (k0 : Nat) (els : List (List Value)) (hs : a.eval s = v) (hown : Owns w e sz v (some k0) els)
  (ad : Addr) (news : List (List Value)) (m c : Nat) (hx : a.eval x = .slice (some ad) m c) (hm : m = news.length) (hb : ∀ j u, news.flatten[j]? = some u → w.cell? (ad.add j) = some u)
  (hne : ∀ y ∈ news, y.length = sz) (h1 : ∀ u ∈ news.flatten, u.oneCell' = true)
  (hbytes : (els.length + news.length) * bytes ≤ 140737488355328) (h63 : els.length + news.length ≤ maxLen)
  (h : ∀ k cap w', Owns w' e sz (.slice (some ⟨k, 0, none⟩) (els.length + news.length) cap) (some k) (els ++ news) → Chg (fun b => b = k0) w w' → (k0 = k ∨ w.heap.size ≤ k) →
   wpList P ops Q rest (a.put o.dst (.slice (some ⟨k, 0, none⟩) (els.length + news.length) cap)) w') :
  wpList P ops Q (o :: rest) a w := by
 subst hm
 refine wpList_append_own_at w hgd s x t ho 0 e i z sz bytes ht hi hz hsize hby hzs hsz v els.length els.flatten hs hown.to_row ad news.length c news.flatten hx (flat_len hne)
  hb h1 h63 hbytes (Nat.zero_le _) ?_
 intro v' w' ho' hg hnil hat
 obtain ⟨c0, hv0, _⟩ := hown.some_form
 have hne' : v' ≠ .slice none 0 0 := fun h => by
  have := (hnil.1 h).1
  rw [hv0] at this
  cases this
 obtain ⟨k, cap, rfl⟩ : ∃ k cap, v' = .slice (some ⟨k, 0, none⟩) (els.length + news.length) cap := by
  rcases ho'.2 with ⟨h, _⟩ | ⟨g, cap, _, hv, _⟩
  ·exact absurd h hne'
  ·exact ⟨g, cap, hv⟩
 refine h k cap w' ?_ ?_ ?_
 ·refine Owns.of_row (base := 0) ?_ ?_
  ·rw [List.length_append, List.flatten_append]; exact ho'
  ·intro y hy
   rcases List.mem_append.1 hy with h' | h'
   ·exact hown.each y h'
   ·exact hne y h'
 ·exact Chg.grown (S := fun b => b = k0) (Chg.refl _ w) hg (fun b _ hb' => by rw [hown.ownBlock] at hb'; cases hb'; rfl)
 ·rw [hown.ownBlock] at hat
  rcases hat with h' | h'
  ·exact .inl (by simpa [Value.ownBlock] using h'.symm)
  ·exact .inr (by have : k = w.heap.size := by simpa [Value.ownBlock] using h'
                  omega)
theorem step_app {K : Act → World → Prop} {E : Prop} (hgd : o.guard = none) (s x : Operand) (t : TypeId)
  (ho : o.op = .call { callee := .builtin .append, args := #[s, x], argTypes := #[t, t] })
  (e : TypeId) (i : TypeInfo) (z : Value) (sz bytes : Nat) (ht : P.underlying t = some (.slice e)) (hi : P.info? e = some i) (hz : i.zero = some z)
  (hsize : i.size = sz) (hby : i.bytes = bytes) (hzs : z.cells.size = sz) (hsz : 0 < sz)
  (v : Value) (g : Option Nat) (els : List (List Value)) (hs : a.eval s = v) (hown : Owns w e sz v g els)
  (tb : Nat) (tt : TypeId) (news : List (List Value)) (m c : Nat) (hx : a.eval x = .slice (some ⟨tb, 0, none⟩) m c) (hm : m = news.length) (hb : Blk w tb tt news.flatten.toArray)
  (hne : ∀ y ∈ news, y.length = sz) (h1 : ∀ u ∈ news.flatten, u.oneCell' = true) (hpos : 0 < news.length)
  (hbytes : (els.length + news.length) * bytes ≤ 140737488355328) (h63 : els.length + news.length ≤ maxLen)
  (h : ∀ k cap w', Owns w' e sz (.slice (some ⟨k, 0, none⟩) (els.length + news.length) cap) (some k) (els ++ news) → Chg (fun b => g = some b) w w' → (g = some k ∨ w.heap.size ≤ k) →
   K (a.put o.dst (.slice (some ⟨k, 0, none⟩) (els.length + news.length) cap)) w') :
  if Region.wanted o (yielded ops a.tmps) = true then Oper.wp P o a w K Q else E := by
 subst hm
 refine step_append_lies w hgd s x t ho 0 e i z sz bytes ht hi hz hsize hby hzs hsz v els.length els.flatten hs hown.to_row ⟨tb, 0, none⟩ news.length c news.flatten hx (flat_len hne)
  (fun j u hu => by rw [Addr.add_lit, hb.cell]; simpa using hu) h1 hpos h63 hbytes (Nat.zero_le _) _ rfl ?_
 intro k cap w' ho' hg hat _
 refine h k cap w' ?_ ?_ ?_
 ·refine Owns.of_row (base := 0) ?_ ?_
  ·rw [List.length_append, List.flatten_append]; exact ho'
  ·intro y hy
   rcases List.mem_append.1 hy with h' | h'
   ·exact hown.each y h'
   ·exact hne y h'
 ·exact (Chg.refl _ w).grown hg (fun b _ hb' => by rw [← hown.ownBlock]; exact hb')
 ·rw [hown.ownBlock] at hat
  rcases hat with h' | h'
  ·exact .inl h'
  ·exact .inr (by rw [h']; exact Nat.le_refl _)
theorem run_shift (dT sT ty : TypeId) (e : TypeId) (i : TypeInfo) (sz : Nat) (ht : P.underlying dT = some (.slice e)) (hi : P.info? e = some i) (hsize : i.size = sz)
  (k n cap : Nat) (els : List (List Value)) (hown : Owns w e sz (.slice (some ⟨k, 0, none⟩) n cap) (some k) els) (hn : n = els.length) (hpos : 0 < n) (h1 : ∀ u ∈ els.flatten, u.oneCell' = true)
  (sp : Option Addr) (sc : Nat) (hsp : 1 < n → sp = some ⟨k, sz, none⟩) :
  ∃ w', (Builtin.copy_ #[dT, sT] ty #[.slice (some ⟨k, 0, none⟩) n cap, .slice sp (n - 1) sc]).run P w = .ok (goInt (n - 1 : Nat)) w' ∧
   Owns w' e sz (.slice (some ⟨k, 0, none⟩) n cap) (some k) (els.tail ++ els.drop (n - 1)) ∧ Chg (fun b => b = k) w w' := by
 subst hn
 have hmin : Nat.min (els.length - 1) els.length = els.length - 1 := Nat.min_eq_left (by omega)
 rcases hown.row with ⟨_, h0, _⟩ | ⟨k', cap', cur, hk', hv, hb, h1', h2, h3, h4⟩
 ·cases h0
 cases hk'
 simp only [Value.slice.injEq, true_and] at hv
 subst hv
 have het : ∀ x ∈ els.tail, x.length = sz := fun x hx => hown.each x (List.mem_of_mem_tail hx)
 have hlt : els.tail.flatten.length = (els.length - 1) * sz := by rw [flat_len het, List.length_tail]
 have hmul : els.length * sz ≤ cap * sz := Nat.mul_le_mul_right _ h1'
 have hmul1 : (els.length - 1) * sz ≤ els.length * sz := Nat.mul_le_mul_right _ (by omega)
 have hL : (els.tail ++ els.drop (els.length - 1)).length = els.length := by simp [List.length_drop]
 have hfit : 0 + 0 + els.tail.flatten.length ≤ cur.size := by rw [hlt, h3]; omega
 have hst := run_storeCells_at P k 0 e els.tail.flatten 0 cur w hb hfit (fun u hu => h1 u (by
  obtain ⟨x, hx, hu'⟩ := List.mem_flatten.1 hu
  exact List.mem_flatten.2 ⟨x, List.mem_of_mem_tail hx, hu'⟩))
 have hfc : (Builtin.firstCells sz (els.length - 1) (.slice sp (els.length - 1) sc)).run P w = .ok els.tail.flatten.toArray w := by
  by_cases h1n : 1 < els.length
  ·rw [hsp h1n]
   refine run_firstCells_some w sz _ _ _ _ _ hlt (fun j u hu => ?_)
   rw [Addr.add_lit]
   have : (els.flatten.drop (1 * sz))[j]? = some u := by rw [flat_drop 1 hown.each, List.drop_one]; exact hu
   rw [List.getElem?_drop, Nat.one_mul] at this
   rw [← h4, List.getElem?_take] at this
   split at this
   ·rw [hb.cell, ← this]; simp
   ·cases this
  ·have h0 : els.length - 1 = 0 := by omega
   have ht0 : els.tail = [] := List.eq_nil_of_length_eq_zero (by simp; omega)
   rw [h0, ht0]
   cases sp with
   | none => simp [Builtin.firstCells]
   | some ad => exact run_firstCells_some w sz 0 ad 0 sc [] (by simp) (by simp)
 refine ⟨w.setRow k (els.tail.flatten ++ cur.toList.drop els.tail.flatten.length).toArray, ?_, ⟨?_, .inr ⟨k, cap, _, rfl, ?_, setRow_heap w k cur _ e _ hb, ?_, h2, ?_, ?_⟩⟩, Chg.setRow (S := fun b => b = k) (Chg.refl _ w) (fun _ => rfl) _⟩
 ·simp only [Nat.add_zero, Nat.zero_add, List.take_zero, List.nil_append] at hst
  simp [Builtin.copy_, run_underlying ht, Builtin.lenOf, sizeOf, typeInfo, hi, hsize, hmin, hfc, hst]
 ·intro x hx
  rcases List.mem_append.1 hx with h' | h'
  ·exact het x h'
  ·exact hown.each x (List.mem_of_mem_drop h')
 ·rw [hL]
 ·rw [hL]; exact h1'
 ·simp only [List.size_toArray, List.length_append, List.length_drop, Array.length_toList, hlt, h3]; omega
 ·rw [hL]
  simp only [List.flatten_append]
  rw [List.take_append, hlt, List.take_of_length_le (by rw [hlt]; exact hmul1), ← flat_drop _ hown.each, ← h4, List.drop_take]
theorem wpList_shift (hgd : o.guard = none) (d s : Operand) (dT sT : TypeId)
  (ho : o.op = .call { callee := .builtin .copy, args := #[d, s], argTypes := #[dT, sT] })
  (e : TypeId) (i : TypeInfo) (sz : Nat) (ht : P.underlying dT = some (.slice e)) (hi : P.info? e = some i) (hsize : i.size = sz)
  (k n cap : Nat) (els : List (List Value)) (hown : Owns w e sz (.slice (some ⟨k, 0, none⟩) n cap) (some k) els) (hn : n = els.length) (hpos : 0 < n) (h1 : ∀ u ∈ els.flatten, u.oneCell' = true)
  (sp : Option Addr) (sl sc : Nat) (hd : a.eval d = .slice (some ⟨k, 0, none⟩) n cap) (hs : a.eval s = .slice sp sl sc) (hsl : sl = n - 1) (hsp : 1 < n → sp = some ⟨k, sz, none⟩)
  (h : ∀ w', Owns w' e sz (.slice (some ⟨k, 0, none⟩) n cap) (some k) (els.tail ++ els.drop (n - 1)) → Chg (fun b => b = k) w w' → wpList P ops Q rest (a.put o.dst (goInt (n - 1 : Nat))) w') :
  wpList P ops Q (o :: rest) a w := by
 subst hsl
 obtain ⟨w', hrun, h2, h3⟩ := run_shift (P := P) (w := w) dT sT o.type e i sz ht hi hsize k n cap els hown hn hpos h1 sp sc hsp
 refine wpList_plain hgd fun K hK => ?_
 unfold Oper.wp
 simp [execOp, ho, resolve, invoke, builtin, hd, hs, hrun, Result.andThen]
 exact hK _ _ (h w' h2 h3)
end
end Go.Chron
namespace Go
open Go.Chron
theorem kC {S : Nat → Prop} {w w' : World} (h : Chg S w w' := by repeat (first | (with_reducible exact Chg.refl _ _) | assumption | (with_reducible apply Chg.drewN) | (with_reducible apply Chg.drew) | (with_reducible apply Chg.alloc))) : Chg S w w' := h
end Go
end
section
namespace Go.Chron
open Go Go.RowKit
structure RingAt (T e : TypeId) (sz : Nat) (w : World) (b : Nat) (g : Option Nat) (most cnt : Nat) (els : List (List Value)) : Prop where
 ex : ∃ v, Blk w b T #[v, .int .i64 most, .int .i64 cnt] ∧ Owns w e sz v g els
 ne : g ≠ some b
 few : els.length ≤ most
 one : ∀ u ∈ els.flatten, u.oneCell' = true
theorem RingAt.chg {T e : TypeId} {sz : Nat} {w w' : World} {b : Nat} {g : Option Nat} {most cnt : Nat} {els : List (List Value)} {S : Nat → Prop} (h : RingAt T e sz w b g most cnt els) (hc : Chg S w w')
  (hb : ¬ S b) (hg : ∀ k, g = some k → ¬ S k) : RingAt T e sz w' b g most cnt els := by
 obtain ⟨⟨v, h1, h2⟩, h3, h4, h5⟩ := h
 exact ⟨⟨v, h1.chg hc hb, h2.chg hc hg⟩, h3, h4, h5⟩
theorem RingAt.lt {T e : TypeId} {sz : Nat} {w : World} {b : Nat} {g : Option Nat} {most cnt : Nat} {els : List (List Value)} (h : RingAt T e sz w b g most cnt els) : b < w.heap.size := by
 obtain ⟨⟨v, h1, h2⟩, _⟩ := h; exact h1.lt
theorem RingAt.ltg {T e : TypeId} {sz : Nat} {w : World} {b : Nat} {g : Option Nat} {most cnt : Nat} {els : List (List Value)} (h : RingAt T e sz w b g most cnt els) : ∀ k, g = some k → k < w.heap.size := by
 obtain ⟨⟨v, h1, h2⟩, _⟩ := h; exact h2.lt
def rpush {α : Type} (most : Nat) (els : List α) (x : α) : List α := if els.length < most then els ++ [x] else els.tail ++ [x]
theorem ringAt_new (T e : TypeId) (sz : Nat) (w : World) (m : Nat) : RingAt T e sz (w.alloc (.cells #[.slice none 0 0, .int .i64 m, .int .i64 0] T)) w.heap.size none m 0 [] :=
 ⟨⟨_, Blk.new _ _ _, Owns.nil _ _ _⟩, by simp, by simp, by simp⟩
theorem blk_typ {w : World} {g : Nat} {t t' : TypeId} {cs cs' : Array Value} (h : Blk w g t cs) (h' : Blk w g t' cs') : t = t' := by
 unfold Blk at h h'
 rw [h] at h'
 injection h' with h'
 injection h'
theorem Owns.blk {w : World} {e : TypeId} {sz : Nat} {v : Value} {g : Option Nat} {els : List (List Value)} (h : Owns w e sz v g els) {k : Nat} (hg : g = some k) : ∃ cur, Blk w k e cur := by
 rcases h.row with ⟨_, h0, _⟩ | ⟨k', cap, cur, hk', _, hb, _⟩
 ·rw [h0] at hg; cases hg
 ·rw [hk'] at hg; cases hg; exact ⟨cur, hb⟩
theorem rpush_last {α : Type} (most : Nat) (els : List α) (x : α) : (rpush most els x)[(rpush most els x).length - 1]? = some x := by
 unfold rpush; split <;> simp
def Cloned (e : TypeId) (sz : Nat) (w : World) (els : List (List Value)) (en : Ending) (w' : World) : Prop :=
 ∃ a cap g, en = .returned (.slice a els.length cap) ∧ Owns w' e sz (.slice a els.length cap) g els ∧ Chg (fun _ => False) w w' ∧ (∀ k, g = some k → w.heap.size ≤ k)
theorem cloned_nil (e : TypeId) (sz : Nat) (w : World) : Cloned e sz w [] (.returned (.slice none 0 0)) w := ⟨none, 0, none, rfl, Owns.nil _ _ _, Chg.refl _ _, by simp⟩
theorem owns_empty (e : TypeId) (sz : Nat) (w : World) : Owns (w.alloc (.cells #[] e)) e sz (.slice (some ⟨w.heap.size, 0, none⟩) 0 0) (some w.heap.size) [] :=
 ⟨by simp, .inr ⟨w.heap.size, 0, #[], rfl, rfl, Blk.new _ _ _, by simp, by simp, by simp, by simp⟩⟩
theorem cloned_mk {e : TypeId} {sz : Nat} {w w' : World} {o : Obj} {els : List (List Value)} {k cap n : Nat} (ho : Owns w' e sz (.slice (some ⟨k, 0, none⟩) n cap) (some k) ([] ++ els))
  (hc : Chg (fun b => b = w.heap.size) (w.alloc o) w') (hk : w.heap.size = k ∨ (w.alloc o).heap.size ≤ k) : Cloned e sz w els (.returned (.slice (some ⟨k, 0, none⟩) n cap)) w' := by
 simp only [List.nil_append] at ho
 obtain ⟨cap', hv, _⟩ := ho.some_form
 have hn : n = els.length := by
  simp only [Value.slice.injEq] at hv
  exact hv.2.1
 subst hn
 refine ⟨_, _, some k, rfl, ho, Chg.trans' ((Chg.refl (fun _ => False) w).alloc o) hc (fun i hi h => by omega), fun j hj => ?_⟩
 cases hj
 simp at hk
 omega
def Added (T e : TypeId) (sz : Nat) (w : World) (b : Nat) (g : Option Nat) (most cnt : Nat) (els : List (List Value)) (x : List Value) (w' : World) : Prop :=
 ∃ k, RingAt T e sz w' b (some k) most (cnt + 1) (rpush most els x) ∧ Chg (fun k => k = b ∨ g = some k) w w' ∧ (g = some k ∨ w.heap.size ≤ k)
theorem added_room {T e : TypeId} {sz : Nat} {w W w' : World} {b : Nat} {g : Option Nat} {most cnt : Nat} {els : List (List Value)} {x : List Value} {k cap : Nat} {v : Value} {n : Nat}
  (hr : RingAt T e sz w b g most cnt els) (hlt : els.length < most) (hx : ∀ u ∈ x, u.oneCell' = true) (C : Chg (fun k => k = b) w W) (B : Blk W b T #[v, .int .i64 most, .int .i64 ((cnt : Int) + 1)])
  (hc : Chg (fun b => g = some b) W w') (ho : Owns w' e sz (.slice (some ⟨k, 0, none⟩) n cap) (some k) (els ++ [x])) (hk : g = some k ∨ W.heap.size ≤ k) :
  Added T e sz w b g most cnt els x (w'.setCell ⟨b, 0, none⟩ (.slice (some ⟨k, 0, none⟩) n cap)) := by
 have hkb : k ≠ b := by
  rintro rfl
  rcases hk with h | h
  ·exact hr.ne h
  ·have := B.lt; omega
 refine ⟨k, ⟨⟨.slice (some ⟨k, 0, none⟩) n cap, ?_, ?_⟩, ?_, ?_, ?_⟩, ?_, ?_⟩
 ·have := (B.chg hc hr.ne).set_ 0 (.slice (some ⟨k, 0, none⟩) n cap)
  simpa using this
 ·unfold rpush; rw [if_pos hlt]
  exact ho.chg (Chg.setCell (S := fun i => i = b) (p := ⟨b, 0, none⟩) (Chg.refl _ w') (fun _ => rfl) _) (fun j hj e => by cases hj; exact hkb e)
 ·simpa using hkb
 ·unfold rpush; rw [if_pos hlt]; simp; omega
 ·unfold rpush; rw [if_pos hlt]
  intro u hu
  simp only [List.flatten_append, List.flatten_cons, List.flatten_nil, List.append_nil] at hu
  rcases List.mem_append.1 hu with h | h
  ·exact hr.one u h
  ·exact hx u h
 ·refine Chg.setCell (p := ⟨b, 0, none⟩) (Chg.trans' (C.mono (fun i _ h => .inl h)) hc (fun i _ h => .inr h)) (fun _ => .inl rfl) _
 ·rcases hk with h | h
  ·exact .inl h
  ·exact .inr (Nat.le_trans C.size h)
theorem added_full {T e : TypeId} {sz : Nat} {w W w' : World} {b : Nat} {g : Option Nat} {most cnt : Nat} {els : List (List Value)} {x : List Value} {k cap : Nat} {n : Nat}
  (hr : RingAt T e sz w b g most cnt els) (hlt : ¬ els.length < most) (hpos : 0 < els.length) (hx : ∀ u ∈ x, u.oneCell' = true) (hxl : x.length = sz) (C : Chg (fun k => k = b) w W) (B : Blk W b T #[.slice (some ⟨k, 0, none⟩) n cap, .int .i64 most, .int .i64 ((cnt : Int) + 1)])
  (hgk : g = some k) (hc : Chg (fun b => b = k) W w') (ho : Owns w' e sz (.slice (some ⟨k, 0, none⟩) n cap) (some k) (els.tail ++ els.drop (n - 1))) (hn : n = els.length) :
  Added T e sz w b g most cnt els x (w'.setCells k ((n - 1) * sz) x) := by
 subst hn
 have hkb : k ≠ b := fun h => hr.ne (by rw [hgk, h])
 have hset := ho.set (i := els.length - 1) (by simp; omega) hxl
 have hl : (els.tail ++ els.drop (els.length - 1)).set (els.length - 1) x = els.tail ++ [x] := by
  rw [List.set_append, if_neg (by simp)]
  congr 1
  have : els.drop (els.length - 1) = [els[els.length - 1]] := by
   rw [List.drop_eq_getElem_cons (by omega)]
   congr 1
   exact List.drop_eq_nil_of_le (by omega)
  rw [this]
  simp
 rw [hl] at hset
 have hcs : ∀ (x : List Value) (o : Nat) (w' : World), Chg (fun i => i = k) w' (w'.setCells k o x) := by
  intro x
  induction x with
  | nil => intro o w'; exact Chg.refl _ _
  | cons u r ih => intro o w'; exact Chg.trans (Chg.setCell (S := fun i => i = k) (p := ⟨k, o, none⟩) (Chg.refl _ w') (fun _ => rfl) u) (ih (o + 1) _)
 refine ⟨k, ⟨⟨_, (B.chg hc (fun h => hkb h.symm)).chg (hcs x _ w') (fun h => hkb h.symm), ?_⟩, ?_, ?_, ?_⟩, ?_, .inl hgk⟩
 ·unfold rpush; rw [if_neg hlt]; exact hset
 ·simpa using hkb
 ·unfold rpush; rw [if_neg hlt]; have := hr.few; simp; omega
 ·unfold rpush; rw [if_neg hlt]
  intro u hu
  simp only [List.flatten_append, List.flatten_cons, List.flatten_nil, List.append_nil] at hu
  rcases List.mem_append.1 hu with h | h
  ·obtain ⟨y, hy, hu'⟩ := List.mem_flatten.1 h
   exact hr.one u (List.mem_flatten.2 ⟨y, List.mem_of_mem_tail hy, hu'⟩)
  ·exact hx u h
 ·exact Chg.trans' (Chg.trans' (C.mono (fun i _ h => .inl h)) hc (fun i _ h => .inr (by rw [hgk, h]))) (hcs x _ w') (fun i _ h => .inr (by rw [hgk, h]))
end Go.Chron
end
