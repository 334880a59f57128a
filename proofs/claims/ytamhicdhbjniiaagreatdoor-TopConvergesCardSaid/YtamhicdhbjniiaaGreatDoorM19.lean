/- (*fresh.Store).Best: a loop over the store's iterator. A store among what was made since a call began; Best of a store, and of none; the document's example of package fresh holds. -/
import Derived.Test.YtamhicdhbjniiaaGreatDoorM18
import Derived.Test.YtamhicdhbjniiaaGreatDoorM13
set_option linter.unusedVariables false
set_option maxHeartbeats 4000000
set_option maxRecDepth 100000
section
namespace Go.Chron
open Go Go.RowKit
def bestStep (acc : Option Sam) (x : Sam) : Option Sam :=
 match acc with
 | none => some x
 | some y => if btOf y x then some y else some x
def bestOf (l : List Sam) : Option Sam := l.foldl bestStep none
theorem bestOf_snoc (l : List Sam) (x : Sam) : bestOf (l ++ [x]) = bestStep (bestOf l) x := by simp [bestOf]
theorem bestOf_mem_acc : ∀ (l : List Sam) (acc : Option Sam) (x : Sam), l.foldl bestStep acc = some x → x ∈ l ∨ acc = some x := by
 intro l
 induction l with
 | nil => intro acc x h; exact .inr h
 | cons y l ih =>
  intro acc x h
  rcases ih _ _ h with h1 | h1
  ·exact .inl (List.mem_cons_of_mem _ h1)
  ·unfold bestStep at h1
   split at h1
   ·cases h1; exact .inl (by simp)
   ·split at h1
    ·exact .inr h1
    ·cases h1; exact .inl (by simp)
theorem bestOf_mem (l : List Sam) (x : Sam) (h : bestOf l = some x) : x ∈ l := by
 rcases bestOf_mem_acc l none x h with h | h
 ·exact h
 ·cases h
def sam0 : Sam := ⟨0, 0, 0, 0⟩
def bestRes (acc : Option Sam) (sl : Int) : Value :=
 match acc with
 | none => .tuple #[.agg #[.int .i64 0, .int .i64 0, .int .i64 0, .int .i64 0], .int .i64 0, .bool false]
 | some x => .tuple #[.agg #[.int .i64 x.o, .int .i64 x.d, .int .i64 x.t, .int .i64 x.s], .int .i64 (nowOf x sl), .bool true]
def samCells (x : Sam) : Array Value := #[.int .i64 x.o, .int .i64 x.d, .int .i64 x.t, .int .i64 x.s]
theorem KeepsFrom.of_chg {S : Nat → Prop} {B : Nat} {W W' : World} (h : Chg S W W') (hS : ∀ i, S i → i < B) : KeepsFrom B W W' :=
 ⟨h.size, fun k o hB hk _ => (h.block k (Array.getElem?_eq_some_iff.1 hk).1 (fun hs => by have := hS k hs; omega)).trans hk⟩
theorem Chg.of_bel {w w' : World} (h : Below w.heap.size w w') : Chg (fun _ => False) w w' := ⟨h.os, h.tape, h.output, h.size, fun i hi _ => h.block i hi⟩
theorem put_best {W : World} {g g' : Nat} {cur : Sam} {c : Value} (h : Blk W g 223 (samCells cur)) (h' : Blk W g' 4 #[c]) (hne : g ≠ g') (x : Sam) :
  Blk (((((W.setCell ⟨g, 0, none⟩ (.int .i64 x.o)).setCell ⟨g, 1, none⟩ (.int .i64 x.d)).setCell ⟨g, 2, none⟩ (.int .i64 x.t)).setCell ⟨g, 3, none⟩ (.int .i64 x.s)).setCell ⟨g', 0, none⟩ (.bool true)) g 223 (samCells x) ∧
  Blk (((((W.setCell ⟨g, 0, none⟩ (.int .i64 x.o)).setCell ⟨g, 1, none⟩ (.int .i64 x.d)).setCell ⟨g, 2, none⟩ (.int .i64 x.t)).setCell ⟨g, 3, none⟩ (.int .i64 x.s)).setCell ⟨g', 0, none⟩ (.bool true)) g' 4 #[.bool true] ∧
  Chg (fun i => i = g ∨ i = g') W (((((W.setCell ⟨g, 0, none⟩ (.int .i64 x.o)).setCell ⟨g, 1, none⟩ (.int .i64 x.d)).setCell ⟨g, 2, none⟩ (.int .i64 x.t)).setCell ⟨g, 3, none⟩ (.int .i64 x.s)).setCell ⟨g', 0, none⟩ (.bool true)) := by
 refine ⟨?_, ?_, ?_⟩
 ·have := ((((h.set_ 0 (.int .i64 x.o)).set_ 1 (.int .i64 x.d)).set_ 2 (.int .i64 x.t)).set_ 3 (.int .i64 x.s)).far (p := ⟨g', 0, none⟩) hne (.bool true)
  simpa [samCells] using this
 ·have := ((((h'.far (p := ⟨g, 0, none⟩) (Ne.symm hne) (.int .i64 x.o)).far (p := ⟨g, 1, none⟩) (Ne.symm hne) (.int .i64 x.d)).far (p := ⟨g, 2, none⟩) (Ne.symm hne) (.int .i64 x.t)).far (p := ⟨g, 3, none⟩) (Ne.symm hne) (.int .i64 x.s)).set_ 0 (.bool true)
  simpa using this
 ·exact (((((Chg.refl (fun i => i = g ∨ i = g') W).setCell (p := ⟨g, 0, none⟩) (fun _ => .inl rfl) _).setCell (p := ⟨g, 1, none⟩) (fun _ => .inl rfl) _).setCell (p := ⟨g, 2, none⟩) (fun _ => .inl rfl) _).setCell (p := ⟨g, 3, none⟩) (fun _ => .inl rfl) _).setCell (p := ⟨g', 0, none⟩) (fun _ => .inr rfl) _
structure BS (n : Nat) (w : World) (b8 b10 D : Nat) (c : Sam) (ok : Bool) (W : World) : Prop where
 x8 : Blk W b8 223 (samCells c)
 x10 : Blk W b10 4 #[.bool ok]
 d : W.heap[D]? = some (.deferred (some []))
 b : Below n w W
theorem bs_all {n : Nat} {w : World} {b8 b10 D : Nat} {c : Sam} {ok : Bool} {W : World} (h : BS n w b8 b10 D c ok W) : (W.cell? ⟨b8, 0, none⟩ = some (.int .i64 c.o) ∧ W.cell? ⟨b8, 1, none⟩ = some (.int .i64 c.d) ∧ W.cell? ⟨b8, 2, none⟩ = some (.int .i64 c.t) ∧ W.cell? ⟨b8, 3, none⟩ = some (.int .i64 c.s) ∧ W.frozen? ⟨b8, 0, none⟩ = false ∧ W.frozen? ⟨b8, 1, none⟩ = false ∧ W.frozen? ⟨b8, 2, none⟩ = false ∧ W.frozen? ⟨b8, 3, none⟩ = false ∧ W.cell? ⟨b10, 0, none⟩ = some (.bool ok) ∧ W.frozen? ⟨b10, 0, none⟩ = false) ∧ BS n w b8 b10 D c ok W :=
 ⟨⟨h.x8.cell 0, h.x8.cell 1, h.x8.cell 2, h.x8.cell 3, h.x8.frozen 0, h.x8.frozen 1, h.x8.frozen 2, h.x8.frozen 3, h.x10.cell 0, h.x10.frozen 0⟩, h⟩
theorem bs_drew {n : Nat} {w : World} {b8 b10 D : Nat} {c : Sam} {ok : Bool} {W : World} (h : BS n w b8 b10 D c ok W) : BS n w b8 b10 D c ok W.drew := ⟨h.x8, h.x10, h.d, h.b.drew⟩
theorem bs_put8 {n : Nat} {w : World} {b8 b10 D : Nat} {c : Sam} {ok : Bool} {W : World} (h : BS n w b8 b10 D c ok W) (h1 : b8 ≠ b10) (h2 : b8 ≠ D) (hn : n ≤ b8) (hw : n ≤ w.heap.size) :
  BS n w b8 b10 D c ok ((((W.setCell ⟨b8, 0, none⟩ (.int .i64 c.o)).setCell ⟨b8, 1, none⟩ (.int .i64 c.d)).setCell ⟨b8, 2, none⟩ (.int .i64 c.t)).setCell ⟨b8, 3, none⟩ (.int .i64 c.s)) := by
 have ch : Chg (fun i => i = b8) W ((((W.setCell ⟨b8, 0, none⟩ (.int .i64 c.o)).setCell ⟨b8, 1, none⟩ (.int .i64 c.d)).setCell ⟨b8, 2, none⟩ (.int .i64 c.t)).setCell ⟨b8, 3, none⟩ (.int .i64 c.s)) :=
  ((((Chg.refl (fun i => i = b8) W).setCell (p := ⟨b8, 0, none⟩) (fun _ => rfl) _).setCell (p := ⟨b8, 1, none⟩) (fun _ => rfl) _).setCell (p := ⟨b8, 2, none⟩) (fun _ => rfl) _).setCell (p := ⟨b8, 3, none⟩) (fun _ => rfl) _
 refine ⟨?_, h.x10.chg ch (fun e => h1 e.symm), ?_, below_chg h.b ch hw (fun i hi e => by omega)⟩
 ·have := (((h.x8.set_ 0 (.int .i64 c.o)).set_ 1 (.int .i64 c.d)).set_ 2 (.int .i64 c.t)).set_ 3 (.int .i64 c.s)
  simpa [samCells] using this
 ·exact (ch.block D (Array.getElem?_eq_some_iff.1 h.d).1 (fun e => h2 e.symm)).trans h.d
theorem bs_put10 {n : Nat} {w : World} {b8 b10 D : Nat} {c : Sam} {ok : Bool} {W : World} (h : BS n w b8 b10 D c ok W) (h1 : b8 ≠ b10) (h2 : b10 ≠ D) (hn : n ≤ b10) (hw : n ≤ w.heap.size) :
  BS n w b8 b10 D c ok (W.setCell ⟨b10, 0, none⟩ (.bool ok)) := by
 have ch : Chg (fun i => i = b10) W (W.setCell ⟨b10, 0, none⟩ (.bool ok)) := (Chg.refl (fun i => i = b10) W).setCell (p := ⟨b10, 0, none⟩) (fun _ => rfl) _
 refine ⟨h.x8.chg ch h1, ?_, ?_, below_chg h.b ch hw (fun i hi e => by omega)⟩
 ·have := h.x10.set_ 0 (.bool ok)
  simpa using this
 ·exact (ch.block D (Array.getElem?_eq_some_iff.1 h.d).1 (fun e => h2 e.symm)).trans h.d
theorem bs_end {n : Nat} {w : World} {b8 b10 D : Nat} {c : Sam} {ok : Bool} {W : World} (h : BS n w b8 b10 D c ok W) (o : Obj) (h1 : b8 ≠ D) (h2 : b10 ≠ D) (hn : n ≤ D) (hw : n ≤ w.heap.size) :
  Blk (W.putObj D o) b8 223 (samCells c) ∧ Blk (W.putObj D o) b10 4 #[.bool ok] ∧ Below n w (W.putObj D o) := by
 have g := grownBy_putObj' W D o
 have ch : Chg (fun i => i = D) W (W.putObj D o) := ⟨g.os, g.tape, g.output, g.size, fun k hk hd => g.block k hk (fun e => hd (by cases e; rfl))⟩
 exact ⟨h.x8.chg ch h1, h.x10.chg ch h2, below_chg h.b ch hw (fun i hi e => by omega)⟩
theorem blk_own {β : Type} (g : Nat) (t : TypeId) (f : β → Array Value) : Own (fun s W => Blk W g t (f s)) := fun s X Y row hs hg hrow => by
 refine (hg.block g (Blk.lt hs) (fun e => ?_)).trans hs
 obtain ⟨o, ho, hc⟩ := hrow g e.symm
 rw [show X.heap[g]? = _ from hs] at ho
 cases ho
 cases hc
end Go.Chron
namespace Go.Proofs.YtamhicdhbjniiaaGreatDoor
open Go.RowKit Go.Shelf Go.Chron
attribute [local go_sem] Oper.semAt_some
theorem best188 (q : Option Addr) (L : List Sam) (hL8 : L.length ≤ 8) (hok : ∀ x ∈ L, x.Ok) (h life sl : Int) (hh : In64 h) (hsl : In64 sl) (w : World)
  (hall : ∀ W, Below w.heap.size w W → Calls Tryz.prog 230 #[.pointer q] W (Cloned 223 4 W (L.map samc))) :
  Calls Tryz.prog 188 #[.pointer q, .int .i64 h, .int .i64 life, .int .i64 sl] w fun e w' => e = .returned (bestRes (bestOf (L.filter (frOf · h life))) sl) ∧ Below w.heap.size w w' := by
 refine (callsIn_wide (n := 4)).1 ?_
 refine callsIn_of_wp_marks Tryz.func188 rfl trivial ?_ rfl
 simp only [Tryz.ntmps188, List.size_toArray, List.length_cons, List.length_nil, Nat.reduceAdd, Nat.reduceSub, Array.replicate_succ, Array.replicate_zero, List.push_toArray, List.append_toArray, List.nil_append, List.cons_append]
 gi_wp2_with fail
 refine ⟨trivial, (fresh211 q h life _ _).mono ?_⟩
 rintro e w' ⟨rfl, rfl⟩
 have b8 := ((((Blk.new w 223 #[Value.int .i64 0, Value.int .i64 0, Value.int .i64 0, Value.int .i64 0]).alloc (Obj.cells #[.bool false] 4)).alloc (Obj.cells #[.pointer q] 144)).alloc (Obj.cells #[.int .i64 h] 2)).alloc (Obj.cells #[.int .i64 life] 2)
 have b10 := (((Blk.new (w.alloc (Obj.cells #[Value.int .i64 0, Value.int .i64 0, Value.int .i64 0, Value.int .i64 0] 223)) 4 #[.bool false]).alloc (Obj.cells #[.pointer q] 144)).alloc (Obj.cells #[.int .i64 h] 2)).alloc (Obj.cells #[.int .i64 life] 2)
 have c1 := ((Blk.new ((w.alloc (Obj.cells #[Value.int .i64 0, Value.int .i64 0, Value.int .i64 0, Value.int .i64 0] 223)).alloc (Obj.cells #[.bool false] 4)) 144 #[.pointer q]).alloc (Obj.cells #[.int .i64 h] 2)).alloc (Obj.cells #[.int .i64 life] 2)
 have c2 := (Blk.new (((w.alloc (Obj.cells #[Value.int .i64 0, Value.int .i64 0, Value.int .i64 0, Value.int .i64 0] 223)).alloc (Obj.cells #[.bool false] 4)).alloc (Obj.cells #[.pointer q] 144)) 2 #[.int .i64 h]).alloc (Obj.cells #[.int .i64 life] 2)
 have c3 := Blk.new ((((w.alloc (Obj.cells #[Value.int .i64 0, Value.int .i64 0, Value.int .i64 0, Value.int .i64 0] 223)).alloc (Obj.cells #[.bool false] 4)).alloc (Obj.cells #[.pointer q] 144)).alloc (Obj.cells #[.int .i64 h] 2)) 2 #[.int .i64 life]
 have cw : Chg (fun _ => False) w (((((w.alloc (Obj.cells #[Value.int .i64 0, Value.int .i64 0, Value.int .i64 0, Value.int .i64 0] 223)).alloc (Obj.cells #[.bool false] 4)).alloc (Obj.cells #[.pointer q] 144)).alloc (Obj.cells #[.int .i64 h] 2)).alloc (Obj.cells #[.int .i64 life] 2)) := ((((Chg.refl _ w).alloc _).alloc _).alloc _).alloc _ |>.alloc _
 have hsz : (((((w.alloc (Obj.cells #[Value.int .i64 0, Value.int .i64 0, Value.int .i64 0, Value.int .i64 0] 223)).alloc (Obj.cells #[.bool false] 4)).alloc (Obj.cells #[.pointer q] 144)).alloc (Obj.cells #[.int .i64 h] 2)).alloc (Obj.cells #[.int .i64 life] 2)).heap.size = w.heap.size + 5 := by simp
 simp only [World.size_alloc] at b10 c1 c2 c3 ⊢
 obtain ⟨W0, hW0⟩ : ∃ W0, W0 = ((((w.alloc (Obj.cells #[Value.int .i64 0, Value.int .i64 0, Value.int .i64 0, Value.int .i64 0] 223)).alloc (Obj.cells #[.bool false] 4)).alloc (Obj.cells #[.pointer q] 144)).alloc (Obj.cells #[.int .i64 h] 2)).alloc (Obj.cells #[.int .i64 life] 2) := ⟨_, rfl⟩
 rw [← hW0] at b8 b10 c1 c2 c3 cw hsz ⊢
 clear hW0
 have bel : Below w.heap.size w W0 := bel0 (Below.refl _ _) cw (Nat.le_refl _)
 have hall' : ∀ W, Below W0.heap.size W0 W → Calls Tryz.prog 230 #[.pointer q] W (Cloned 223 4 W (L.map samc)) := fun W hW => hall W (bel.trans (hW.mono (by omega)))
 clear hall
 gi_wp2_with fail
 refine wpIn_rangeFunc_ownH rfl (by omega) (gf := 229) (lb := #[.pointer (some ⟨w.heap.size + 1 + 1, 0, none⟩), .pointer (some ⟨w.heap.size + 1 + 1 + 1, 0, none⟩), .pointer (some ⟨w.heap.size + 1 + 1 + 1 + 1, 0, none⟩)]) rfl trivial (enters_of Tryz.func229 (by kernel_rfl) rfl)
  (iter_stops 3 (by omega) (w.heap.size + 1 + 1) (w.heap.size + 1 + 1 + 1) (w.heap.size + 1 + 1 + 1 + 1) q L hL8 hok h life hh (fun i => i = w.heap.size ∨ i = w.heap.size + 1) W0 (fun i hi => by omega) c1 c2 c3 (by omega) (by omega) (by omega) hall')
  KpC.trans (fun W l o o' a b c d => KpC.book W l o o' a b c d) (Below.refl _ _) (fun _ => rfl)
  (fun pre W => (Blk W w.heap.size 223 (samCells ((bestOf pre).getD sam0)) ∧ Blk W (w.heap.size + 1) 4 #[.bool (bestOf pre).isSome]) ∧ Below w.heap.size w W)
  (fun _ _ _ => False)
  (OwnFrom.and (OwnFrom.and (Own.from (blk_own _ _ _) _) (Own.from (blk_own _ _ _) _)) (ownFrom_below (Nat.le_refl _) (by omega)))
  (fun _ _ _ _ _ hs _ _ => hs)
  ⟨⟨b8, b10⟩, bel⟩
  (fun x a' W => ∃ Bx, w.heap.size + 1 < Bx ∧ Blk W Bx 223 (samCells x) ∧ a' = { tmps := #[.pointer q, .int .i64 h, .int .i64 life, .int .i64 sl, undef, undef, undef, undef, .pointer (some ⟨w.heap.size, 0, none⟩), .int .i64 0, .pointer (some ⟨w.heap.size + 1, 0, none⟩), .pointer (some ⟨Bx, 0, none⟩), .pointer q, .int .i64 h, .int .i64 life, Value.func (.func 229) #[] #[.pointer (some ⟨w.heap.size + 1 + 1, 0, none⟩), .pointer (some ⟨w.heap.size + 1 + 1 + 1, 0, none⟩), .pointer (some ⟨w.heap.size + 1 + 1 + 1 + 1, 0, none⟩)], samv x, undef, undef, undef, undef, undef, undef, undef, undef, undef, undef, undef, undef, undef, undef, undef, undef], defers := [] })
  (fun x a' _ X Y row hs hg hr => by obtain ⟨Bx, h1, h2, h3⟩ := hs; exact ⟨Bx, h1, blk_own Bx 223 (fun (_ : Unit) => samCells x) () X Y row h2 hg (fun r e => (hr r e).2), h3⟩)
  ?assign ?body ?done ?stop
 case assign =>
  rintro l pre x W K ⟨⟨i8, i10⟩, ib⟩ hK
  have hlt := i10.lt
  unfold samv
  gi_wp2
  exact hK _ _ ((KeepsOthers.alloc _ _).from _) (KpC.of_chg ((Chg.refl _ W).alloc _)) ⟨⟨i8.alloc _, i10.alloc _⟩, ib.alloc ib.size _⟩ ⟨W.heap.size, by omega, Blk.new W 223 _, rfl⟩
 case body =>
  rintro l pre x a' W hl ⟨r, hr⟩ ⟨⟨i8, i10⟩, ib⟩ ⟨Bx, hBx, bX, rfl⟩ hlt
  obtain ⟨acc, hacc⟩ : ∃ acc, acc = bestOf pre := ⟨_, rfl⟩
  rw [← hacc] at i8 i10
  have hs : bestOf (pre ++ [x]) = bestStep acc x := by rw [bestOf_snoc, hacc]
  have HS := Lib.hid hs
  clear hacc hs
  clear hl hr hlt r
  cases acc with
  | none =>
   have e10 := i10.cell 0
   have f10 := i10.frozen 0
   have f0 := i8.frozen 0
   have f1 := i8.frozen 1
   have f2 := i8.frozen 2
   have f3 := i8.frozen 3
   have x0 := bX.cell 0
   have x1 := bX.cell 1
   have x2 := bX.cell 2
   have x3 := bX.cell 3
   have e0 := i8.cell 0
   have e1 := i8.cell 1
   have e2 := i8.cell 2
   have e3 := i8.cell 3
   simp only [samCells] at e0 e1 e2 e3 x0 x1 x2 x3
   simp at e10 x0 x1 x2 x3 e0 e1 e2 e3
   gi_wp2_with fail
   refine ⟨trivial, ?_⟩
   gi_wp2_with fail
   obtain ⟨p8, p10, pc⟩ := put_best i8 i10 (by omega) x
   exact ⟨KeepsFrom.of_chg pc (fun i hi => by omega), KpC.of_chg pc, ⟨by rw [HS.out]; exact p8, by rw [HS.out]; exact p10⟩, below_chg ib pc (Nat.le_refl _) (fun i hi h => by omega)⟩
  | some y =>
   obtain ⟨bt, hbt⟩ : ∃ bt, bt = btOf y x := ⟨_, rfl⟩
   have Bt : ∀ W : World, Calls Tryz.prog 212 #[.agg #[.int .i64 y.o, .int .i64 y.d, .int .i64 y.t, .int .i64 y.s], .agg #[.int .i64 x.o, .int .i64 x.d, .int .i64 x.t, .int .i64 x.s]] W fun e w' => e = .returned (.bool bt) ∧ Chg (fun _ => False) W w' := fun W => by
    rw [hbt]; exact better212 y.o y.d y.t y.s x.o x.d x.t x.s W
   have HB := Lib.hid Bt
   clear Bt
   have hst : bestStep (some y) x = if bt then some y else some x := by rw [hbt]; rfl
   have HST := Lib.hid hst
   clear hbt hst
   have e10 := i10.cell 0
   have f10 := i10.frozen 0
   have f0 := i8.frozen 0
   have f1 := i8.frozen 1
   have f2 := i8.frozen 2
   have f3 := i8.frozen 3
   have x0 := bX.cell 0
   have x1 := bX.cell 1
   have x2 := bX.cell 2
   have x3 := bX.cell 3
   have e0 := i8.cell 0
   have e1 := i8.cell 1
   have e2 := i8.cell 2
   have e3 := i8.cell 3
   simp only [samCells] at e0 e1 e2 e3 x0 x1 x2 x3
   simp at e10 x0 x1 x2 x3 e0 e1 e2 e3
   cases bt with
   | true =>
    gi_wp2_with fail
    refine ⟨trivial, (CallsIn.inRound l (callsIn_wide.2 (HB.out W))).mono ?_⟩
    rintro e W2 ⟨rfl, c2⟩
    have j8 := i8.chg c2 (fun h => h)
    have j10 := i10.chg c2 (fun h => h)
    have jb := bel0 ib c2 (Nat.le_refl _)
    clear e10 f10 f0 f1 f2 f3 x0 x1 x2 x3 e0 e1 e2 e3
    gi_wp2_with fail
    exact ⟨KeepsFrom.of_chg c2 (fun i hi => hi.elim), KpC.of_chg (c2.mono (fun _ _ h => h.elim)), ⟨by rw [HS.out, HST.out]; exact j8, by rw [HS.out, HST.out]; exact j10⟩, jb⟩
   | false =>
    gi_wp2_with fail
    refine ⟨trivial, (CallsIn.inRound l (callsIn_wide.2 (HB.out W))).mono ?_⟩
    rintro e W2 ⟨rfl, c2⟩
    have j8 := i8.chg c2 (fun h => h)
    have j10 := i10.chg c2 (fun h => h)
    have jX := bX.chg c2 (fun h => h)
    have jb := bel0 ib c2 (Nat.le_refl _)
    clear e10 f10 f0 f1 f2 f3 x0 x1 x2 x3 e0 e1 e2 e3
    have e10 := j10.cell 0
    have f10 := j10.frozen 0
    have f0 := j8.frozen 0
    have f1 := j8.frozen 1
    have f2 := j8.frozen 2
    have f3 := j8.frozen 3
    have x0 := jX.cell 0
    have x1 := jX.cell 1
    have x2 := jX.cell 2
    have x3 := jX.cell 3
    have e0 := j8.cell 0
    have e1 := j8.cell 1
    have e2 := j8.cell 2
    have e3 := j8.cell 3
    simp only [samCells] at e0 e1 e2 e3 x0 x1 x2 x3
    simp at e10 x0 x1 x2 x3 e0 e1 e2 e3
    gi_wp2_with fail
    obtain ⟨p8, p10, pc⟩ := put_best j8 j10 (by omega) x
    have pc' := (c2.mono (S' := fun i => i = w.heap.size ∨ i = w.heap.size + 1) (fun _ _ h => h.elim)).trans pc
    exact ⟨KeepsFrom.of_chg pc' (fun i hi => by omega), KpC.of_chg pc', ⟨by rw [HS.out, HST.out]; exact p8, by rw [HS.out, HST.out]; exact p10⟩, below_chg jb pc (Nat.le_refl _) (fun i hi h => by omega)⟩
 case done =>
  rintro D ys W hD rfl ⟨⟨i8, i10⟩, ib⟩ hK
  obtain ⟨acc, hacc⟩ : ∃ acc, acc = bestOf (L.filter (frOf · h life)) := ⟨_, rfl⟩
  rw [← hacc] at i8 i10
  have HA := Lib.hid hacc
  have hbs : BS w.heap.size w w.heap.size (w.heap.size + 1) D (acc.getD sam0) acc.isSome W := ⟨i8, i10, hK, ib⟩
  have hmem : ∀ x, acc = some x → x ∈ L := fun x hx => (List.mem_filter.1 (bestOf_mem _ x (by rw [← hacc]; exact hx))).1
  clear hacc i8 i10 ib hK
  have hne : w.heap.size ≠ w.heap.size + 1 := by omega
  have h8D : w.heap.size ≠ D := by omega
  have h10D : w.heap.size + 1 ≠ D := by omega
  have hnD : w.heap.size ≤ D := by omega
  have hn8 : w.heap.size ≤ w.heap.size := Nat.le_refl _
  have hn10 : w.heap.size ≤ w.heap.size + 1 := by omega
  have HN := Lib.hid hn8
  have HN10 := Lib.hid hn10
  clear cw hsz bel b8 b10 c1 c2 c3 hD hn8 hn10
  cases acc with
  | none =>
   change BS w.heap.size w w.heap.size (w.heap.size + 1) D ⟨0, 0, 0, 0⟩ false W at hbs
   have e10 := hbs.x10.cell 0
   have f10 := hbs.x10.frozen 0
   have f0 := hbs.x8.frozen 0
   have f1 := hbs.x8.frozen 1
   have f2 := hbs.x8.frozen 2
   have f3 := hbs.x8.frozen 3
   have e0 := hbs.x8.cell 0
   have e1 := hbs.x8.cell 1
   have e2 := hbs.x8.cell 2
   have e3 := hbs.x8.cell 3
   simp only [samCells] at e0 e1 e2 e3
   simp at e10 e0 e1 e2 e3
   gi_wp2_with fail
   refine wpIn_wide.2 ?_
   go_region_held3 (fun w' => (w'.cell? ⟨w.heap.size, 0, none⟩ = some (.int .i64 0) ∧ w'.cell? ⟨w.heap.size, 1, none⟩ = some (.int .i64 0) ∧ w'.cell? ⟨w.heap.size, 2, none⟩ = some (.int .i64 0) ∧ w'.cell? ⟨w.heap.size, 3, none⟩ = some (.int .i64 0) ∧ w'.frozen? ⟨w.heap.size, 0, none⟩ = false ∧ w'.frozen? ⟨w.heap.size, 1, none⟩ = false ∧ w'.frozen? ⟨w.heap.size, 2, none⟩ = false ∧ w'.frozen? ⟨w.heap.size, 3, none⟩ = false ∧ w'.cell? ⟨w.heap.size + 1, 0, none⟩ = some (.bool false) ∧ w'.frozen? ⟨w.heap.size + 1, 0, none⟩ = false) ∧ BS w.heap.size w (w.heap.size) (w.heap.size + 1) D ⟨0, 0, 0, 0⟩ false w') (first | (refine bs_all (c := ⟨0, 0, 0, 0⟩) (ok := false) ?_; first | (with_reducible exact bs_drew hbs) | (with_reducible exact bs_drew (bs_put8 hbs hne h8D HN.out (Nat.le_refl _))) | (with_reducible exact bs_drew (bs_put10 (bs_put8 hbs hne h8D HN.out (Nat.le_refl _)) hne h10D HN10.out (Nat.le_refl _))) | exact And.right (by assumption)))
    (fail)
   have hF : BS w.heap.size w w.heap.size (w.heap.size + 1) D ⟨0, 0, 0, 0⟩ false ((((((W.setCell ⟨w.heap.size, 0, none⟩ (.int .i64 0)).setCell ⟨w.heap.size, 1, none⟩ (.int .i64 0)).setCell ⟨w.heap.size, 2, none⟩ (.int .i64 0)).setCell ⟨w.heap.size, 3, none⟩ (.int .i64 0)).setCell ⟨w.heap.size + 1, 0, none⟩ (.bool false)).drew) := bs_drew (bs_put10 (bs_put8 hbs hne h8D HN.out (Nat.le_refl _)) hne h10D HN10.out (Nat.le_refl _))
   generalize (((((W.setCell ⟨w.heap.size, 0, none⟩ (.int .i64 0)).setCell ⟨w.heap.size, 1, none⟩ (.int .i64 0)).setCell ⟨w.heap.size, 2, none⟩ (.int .i64 0)).setCell ⟨w.heap.size, 3, none⟩ (.int .i64 0)).setCell ⟨w.heap.size + 1, 0, none⟩ (.bool false)).drew = WF at hF ⊢
   have hD := hF.d
   obtain ⟨p8, p10, pb⟩ := bs_end hF (.deferred none) h8D h10D hnD (Nat.le_refl _)
   have q0 := p8.cell 0
   have q1 := p8.cell 1
   have q2 := p8.cell 2
   have q3 := p8.cell 3
   have q4 := p10.cell 0
   simp only [samCells] at q0 q1 q2 q3
   simp at q4 q0 q1 q2 q3
   have HPB := Lib.hid pb
   have HD := Lib.hid hD
   clear hF p8 p10 pb hbs e0 e1 e2 e3 e10 f0 f1 f2 f3 f10 hD
   gi_wp2_with fail
   refine ⟨by simp, .inl ⟨_, _, rfl, run_takeDeferred HD.out, ?_⟩⟩
   refine ⟨.tuple #[.agg #[.int .i64 0, .int .i64 0, .int .i64 0, .int .i64 0], .int .i64 0, .bool false], ?_, by rw [← HA.out]; rfl, HPB.out⟩
   simp [results, Tryz.f188, go_sem, q0, q1, q2, q3, q4]
  | some y =>
   change BS w.heap.size w w.heap.size (w.heap.size + 1) D y true W at hbs
   have hy := hok y (hmem y rfl)
   have e10 := hbs.x10.cell 0
   have f10 := hbs.x10.frozen 0
   have f0 := hbs.x8.frozen 0
   have f1 := hbs.x8.frozen 1
   have f2 := hbs.x8.frozen 2
   have f3 := hbs.x8.frozen 3
   have e0 := hbs.x8.cell 0
   have e1 := hbs.x8.cell 1
   have e2 := hbs.x8.cell 2
   have e3 := hbs.x8.cell 3
   simp only [samCells] at e0 e1 e2 e3
   simp at e10 e0 e1 e2 e3
   gi_wp2_with fail
   refine ⟨trivial, (callsIn_wide.2 (now213 y.o y.d y.t y.s sl hy.o hy.s hsl W)).mono ?_⟩
   rintro e W2 ⟨rfl, c2⟩
   have hbs2 : BS w.heap.size w w.heap.size (w.heap.size + 1) D y true W2 := ⟨hbs.x8.chg c2 (fun h => h), hbs.x10.chg c2 (fun h => h), (c2.block D (Array.getElem?_eq_some_iff.1 hbs.d).1 (fun h => h)).trans hbs.d, bel0 hbs.b c2 (Nat.le_refl _)⟩
   clear e10 f10 f0 f1 f2 f3 e0 e1 e2 e3 hbs c2
   have hbs := hbs2
   clear hbs2
   have e10 := hbs.x10.cell 0
   have f10 := hbs.x10.frozen 0
   have f0 := hbs.x8.frozen 0
   have f1 := hbs.x8.frozen 1
   have f2 := hbs.x8.frozen 2
   have f3 := hbs.x8.frozen 3
   have e0 := hbs.x8.cell 0
   have e1 := hbs.x8.cell 1
   have e2 := hbs.x8.cell 2
   have e3 := hbs.x8.cell 3
   simp only [samCells] at e0 e1 e2 e3
   simp at e10 e0 e1 e2 e3
   gi_wp2_with fail
   refine wpIn_wide.2 ?_
   go_region_held3 (fun w' => (w'.cell? ⟨w.heap.size, 0, none⟩ = some (.int .i64 y.o) ∧ w'.cell? ⟨w.heap.size, 1, none⟩ = some (.int .i64 y.d) ∧ w'.cell? ⟨w.heap.size, 2, none⟩ = some (.int .i64 y.t) ∧ w'.cell? ⟨w.heap.size, 3, none⟩ = some (.int .i64 y.s) ∧ w'.frozen? ⟨w.heap.size, 0, none⟩ = false ∧ w'.frozen? ⟨w.heap.size, 1, none⟩ = false ∧ w'.frozen? ⟨w.heap.size, 2, none⟩ = false ∧ w'.frozen? ⟨w.heap.size, 3, none⟩ = false ∧ w'.cell? ⟨w.heap.size + 1, 0, none⟩ = some (.bool true) ∧ w'.frozen? ⟨w.heap.size + 1, 0, none⟩ = false) ∧ BS w.heap.size w (w.heap.size) (w.heap.size + 1) D y true w') (first | (refine bs_all (c := y) (ok := true) ?_; first | (with_reducible exact bs_drew hbs) | (with_reducible exact bs_drew (bs_put8 hbs hne h8D HN.out (Nat.le_refl _))) | (with_reducible exact bs_drew (bs_put10 (bs_put8 hbs hne h8D HN.out (Nat.le_refl _)) hne h10D HN10.out (Nat.le_refl _))) | exact And.right (by assumption)))
    (fail)
   have hF : BS w.heap.size w w.heap.size (w.heap.size + 1) D y true ((((((W2.setCell ⟨w.heap.size, 0, none⟩ (.int .i64 y.o)).setCell ⟨w.heap.size, 1, none⟩ (.int .i64 y.d)).setCell ⟨w.heap.size, 2, none⟩ (.int .i64 y.t)).setCell ⟨w.heap.size, 3, none⟩ (.int .i64 y.s)).setCell ⟨w.heap.size + 1, 0, none⟩ (.bool true)).drew) := bs_drew (bs_put10 (bs_put8 hbs hne h8D HN.out (Nat.le_refl _)) hne h10D HN10.out (Nat.le_refl _))
   generalize (((((W2.setCell ⟨w.heap.size, 0, none⟩ (.int .i64 y.o)).setCell ⟨w.heap.size, 1, none⟩ (.int .i64 y.d)).setCell ⟨w.heap.size, 2, none⟩ (.int .i64 y.t)).setCell ⟨w.heap.size, 3, none⟩ (.int .i64 y.s)).setCell ⟨w.heap.size + 1, 0, none⟩ (.bool true)).drew = WF at hF ⊢
   have hD := hF.d
   obtain ⟨p8, p10, pb⟩ := bs_end hF (.deferred none) h8D h10D hnD (Nat.le_refl _)
   have q0 := p8.cell 0
   have q1 := p8.cell 1
   have q2 := p8.cell 2
   have q3 := p8.cell 3
   have q4 := p10.cell 0
   simp only [samCells] at q0 q1 q2 q3
   simp at q4 q0 q1 q2 q3
   have HPB := Lib.hid pb
   have HD := Lib.hid hD
   clear hF p8 p10 pb hbs e0 e1 e2 e3 e10 f0 f1 f2 f3 f10 hD
   gi_wp2_with fail
   refine ⟨by simp, .inl ⟨_, _, rfl, run_takeDeferred HD.out, ?_⟩⟩
   refine ⟨.tuple #[.agg #[.int .i64 y.o, .int .i64 y.d, .int .i64 y.t, .int .i64 y.s], .int .i64 (nowOf y sl), .bool true], ?_, by rw [← HA.out]; rfl, HPB.out⟩
   simp [results, Tryz.f188, go_sem, q0, q1, q2, q3, q4]
 case stop =>
  rintro D c pre W _ _ h _
  exact h.elim
end Go.Proofs.YtamhicdhbjniiaaGreatDoor
end
namespace Go.Proofs.YtamhicdhbjniiaaGreatDoor
section
open Go.RowKit Go.Chron
theorem storeBest (s b : Nat) (g : Option Nat) (cnt : Nat) (L : List Sam) (hok : ∀ x ∈ L, x.Ok) (h life sl : Int) (hh : In64 h) (hsl : In64 sl) (w : World) (st : StoreAt w s b g cnt L) :
  Calls Tryz.prog 188 #[.pointer (some ⟨s, 0, none⟩), .int .i64 h, .int .i64 life, .int .i64 sl] w fun e w' => e = .returned (bestRes (bestOf (L.filter (frOf · h life))) sl) ∧ Chg (fun _ => False) w w' := by
 have hL8 : L.length ≤ 8 := by have := st.ring.few; simpa using this
 refine (best188 (some ⟨s, 0, none⟩) L hL8 hok h life sl hh hsl w (fun W hW => ?_)).mono fun e w' hr => ⟨hr.1, Chg.of_bel hr.2⟩
 have c := Chg.of_below hW
 have qs := st.st.lt
 have qb := st.ring.lt
 have qg := st.ring.ltg
 exact storeAll s b g cnt L W (st.chg c (by omega) (by omega) (fun j hj => by have := qg j hj; omega))
theorem noneBest (h life sl : Int) (hh : In64 h) (hsl : In64 sl) (w : World) :
  Calls Tryz.prog 188 #[.pointer none, .int .i64 h, .int .i64 life, .int .i64 sl] w fun e w' => e = .returned (bestRes none sl) ∧ Chg (fun _ => False) w w' := by
 refine (best188 none [] (by simp) (by simp) h life sl hh hsl w (fun W hW => ?_)).mono fun e w' hr => ⟨hr.1, Chg.of_bel hr.2⟩
 refine (storeAllNil W).mono ?_
 rintro e w' ⟨rfl, rfl⟩
 exact cloned_nil _ _ _
structure StoreW (w0 w : World) (s b : Nat) (g : Option Nat) (cnt : Nat) (L : List Sam) : Prop where
 st : StoreAt w s b g cnt L
 hb : w0.heap.size ≤ b
 hg : ∀ j, g = some j → w0.heap.size ≤ j
 bel : Below w0.heap.size w0 w
theorem StoreW.chg0 {w0 w w' : World} {s b : Nat} {g : Option Nat} {cnt : Nat} {L : List Sam} (h : StoreW w0 w s b g cnt L) (c : Chg (fun _ => False) w w') : StoreW w0 w' s b g cnt L :=
 ⟨h.st.chg0 c, h.hb, h.hg, bel0 h.bel c (Nat.le_refl _)⟩
theorem StoreW.add {w0 w w' : World} {s b : Nat} {g : Option Nat} {cnt : Nat} {L : List Sam} {x : Sam} (h : StoreW w0 w s b g cnt L) (a : StoreAdded w s b g cnt L x w') :
  ∃ k, StoreW w0 w' s b (some k) (cnt + 1) (rpush 8 L x) ∧ Chg (fun j => j = b ∨ g = some j) w w' := by
 obtain ⟨k, st, c, hk⟩ := a
 refine ⟨k, ⟨st, h.hb, ?_, below_chg h.bel c (Nat.le_refl _) (fun j hj hs => ?_)⟩, c⟩
 ·intro j hj
  cases hj
  rcases hk with hk | hk
  ·exact h.hg _ hk
  ·exact Nat.le_trans h.bel.size hk
 ·have := h.hb
  rcases hs with hs | hs
  ·omega
  ·have := h.hg j hs; omega
theorem StoreW.clear {w0 w w' : World} {s b : Nat} {g : Option Nat} {cnt : Nat} {L : List Sam} (h : StoreW w0 w s b g cnt L) (st : StoreAt w' s b none cnt []) (c : Chg (fun j => j = b) w w') : StoreW w0 w' s b none cnt [] :=
 ⟨st, h.hb, by simp, below_chg h.bel c (Nat.le_refl _) (fun j hj hs => by have := h.hb; omega)⟩
theorem StoreAt.far {w w' : World} {s b : Nat} {g : Option Nat} {cnt : Nat} {L : List Sam} (h : StoreAt w s b g cnt L) (c : Chg (fun j => j = b ∨ g = some j) w w') {j : Nat} {t : TypeId} {cs : Array Value} (hj : Blk w j t cs)
  (h1 : t ≠ 278) (h2 : t ≠ 223) : Blk w' j t cs := by
 obtain ⟨v, hb, ho⟩ := h.ring.ex
 refine hj.chg c (fun e => ?_)
 rcases e with e | e
 ·subst e; exact h1 (blk_typ hj hb)
 ·obtain ⟨c', hc'⟩ := ho.blk e
  exact h2 (blk_typ hj hc')
end
end Go.Proofs.YtamhicdhbjniiaaGreatDoor
