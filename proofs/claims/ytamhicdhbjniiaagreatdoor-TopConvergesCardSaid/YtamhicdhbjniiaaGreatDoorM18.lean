/- The iterator of package fresh: what it hands to the loop's body, in order. A range over an iterator that keeps what it has left in a cell of its own: the caller's law. -/
import Derived.RangeFuncNested
import Derived.RangeFuncBound
import Derived.RangeFuncCalls
import Derived.RangeFuncLeaves
import Derived.Shelf.Abstract
import Derived.Shelf.RegionOpen
import Derived.WalkKit
import Derived.OwnWalkIn
import Derived.TacticsInMore
import Derived.LoopNIn
import Derived.LoopIn
import Derived.Test.YtamhicdhbjniiaaGreatDoorM12
set_option linter.unusedVariables false
set_option maxHeartbeats 2000000
set_option maxRecDepth 100000
section
namespace Go.Proofs.YtamhicdhbjniiaaGreatDoor
open Go.RowKit Go.Shelf Go.Chron
theorem Chg.none {W W' : World} (h : Chg (fun _ => False) W W') : W.grownBy W' none := ⟨h.os, h.tape, h.output, h.size, fun k hk _ => h.block k hk (fun h => h)⟩
structure KpC (S : Nat → Prop) (W W' : World) : Prop where
 os : W'.os = W.os
 tape : W'.tape = W.tape
 output : W'.output = W.output
 size : W.heap.size ≤ W'.heap.size
 cells : ∀ i cs t p, W.heap[i]? = some (Obj.cells cs t p) → ¬ S i → W'.heap[i]? = some (Obj.cells cs t p)
theorem KpC.trans {S : Nat → Prop} {A B C : World} (h : KpC S A B) (k : KpC S B C) : KpC S A C :=
 ⟨k.os.trans h.os, k.tape.trans h.tape, k.output.trans h.output, Nat.le_trans h.size k.size, fun i cs t p hi hs => k.cells i cs t p (h.cells i cs t p hi hs) hs⟩
theorem KpC.of_chg {S : Nat → Prop} {A B : World} (h : Chg S A B) : KpC S A B :=
 ⟨h.os, h.tape, h.output, h.size, fun i cs t p hi hs => (h.block i (Array.getElem?_eq_some_iff.1 hi).1 hs).trans hi⟩
theorem KpC.book {S : Nat → Prop} {B : Nat} (W : World) (l : Nat) (o o' : Obj) (_ : B ≤ l) (hl : W.heap[l]? = some o) (ho : o.isCells = false) (_ : o.isWalk = false) : KpC S W (W.putObj l o') := by
 have g := grownBy_putObj' W l o'
 refine ⟨g.os, g.tape, g.output, g.size, fun i cs t p hi hs => ?_⟩
 refine (g.block i (Array.getElem?_eq_some_iff.1 hi).1 (fun e => ?_)).trans hi
 cases e
 rw [hi] at hl
 cases hl
 cases ho
end Go.Proofs.YtamhicdhbjniiaaGreatDoor
namespace Go.Chron
open Go Go.RowKit Go.Proofs.YtamhicdhbjniiaaGreatDoor
theorem Blk.kpc {S : Nat → Prop} {W W' : World} {g : Nat} {t : TypeId} {cs : Array Value} (h : Blk W g t cs) (k : KpC S W W') (hs : ¬ S g) : Blk W' g t cs := k.cells g cs t (0, 0) h hs
theorem Owns.kpc {S : Nat → Prop} {W W' : World} {e : TypeId} {sz : Nat} {v : Value} {g : Option Nat} {els : List (List Value)} (h : Owns W e sz v g els) (k : KpC S W W') (hs : ∀ j, g = some j → ¬ S j) : Owns W' e sz v g els := by
 refine ⟨h.each, ?_⟩
 rcases h.row with h0 | ⟨j, cap, cur, hj, hv, hb, h1, h2, h3, h4⟩
 ·exact .inl h0
 ·exact .inr ⟨j, cap, cur, hj, hv, Blk.kpc hb k (hs j hj), h1, h2, h3, h4⟩
end Go.Chron
namespace Go.Proofs.YtamhicdhbjniiaaGreatDoor
open Go.RowKit Go.Shelf Go.Chron
attribute [local go_sem] Oper.semAt_some
theorem StoreAt.chg {S : Nat → Prop} {w w' : World} {s b cnt : Nat} {g : Option Nat} {L : List Sam} (h : StoreAt w s b g cnt L) (c : Chg S w w') (hs : ¬ S s) (hb : ¬ S b) (hg : ∀ j, g = some j → ¬ S j) : StoreAt w' s b g cnt L :=
 ⟨h.st.chg c hs, h.ring.chg c hb hg⟩
theorem iter1 (n : Nat) (hn : 1 ≤ n) (l B1 B2 B3 : Nat) (q : Option Addr) (L : List Sam) (hL8 : L.length ≤ 8) (hok : ∀ x ∈ L, x.Ok) (h life : Int) (hh : In64 h) (S : Nat → Prop) (W : World) (hS : ∀ i, S i → i < W.heap.size)
  (b1 : Blk W B1 144 #[.pointer q]) (b2 : Blk W B2 2 #[.int .i64 h]) (b3 : Blk W B3 2 #[.int .i64 life]) (n1 : ¬ S B1) (n2 : ¬ S B2) (n3 : ¬ S B3) (hall : Calls Tryz.prog 230 #[.pointer q] W (Cloned 223 4 W (L.map samc)))
  (J Jx : List Sam → World → Prop) (hJ : AbidesFrom W.heap.size J)
  (hY : ∀ pre x W, J pre W → pre.length < L.length → YieldAt Fence.wide (n - 1) Tryz.prog l #[samv x] W fun e W' =>
   (e = .returned (.bool true) ∧ J (pre ++ [x]) W' ∧ KpC S W W') ∨ (e = .returned (.bool false) ∧ Jx (pre ++ [x]) W'))
  (h0 : J [] W) :
  CallsIn Fence.wide n Tryz.prog 229 #[.func (.yield l) #[] #[], .pointer (some ⟨B1, 0, none⟩), .pointer (some ⟨B2, 0, none⟩), .pointer (some ⟨B3, 0, none⟩)] W fun e W' => (∃ v, e = .returned v) ∧
   ((∃ ys, ys = L.filter (frOf · h life) ∧ J ys W') ∨ (∃ pre, pre <+: L.filter (frOf · h life) ∧ Jx pre W')) := by
 have c1 := b1.cell 0
 simp at c1
 have HS := Lib.hid hall
 clear hall
 refine callsIn_of_wp Tryz.func229 rfl trivial ?_ rfl
 simp only [Tryz.ntmps229, List.size_toArray, List.length_cons, List.length_nil, Nat.reduceAdd, Nat.reduceSub, Array.replicate_succ, Array.replicate_zero, List.push_toArray, List.append_toArray, List.nil_append, List.cons_append]
 gi_wp2_with fail
 refine ⟨trivial, (callsIn_wide.2 HS.out).mono ?_⟩
 rintro e W1 ⟨a, cap, gA, rfl, oA, cA, hgA⟩
 simp only [List.length_map] at oA ⊢
 have J1 : J [] W1 := hJ _ _ _ none h0 (Chg.none cA) (fun _ e => by cases e)
 have B1' := b1.chg cA (fun h => h)
 have B2' := b2.chg cA (fun h => h)
 have B3' := b3.chg cA (fun h => h)
 have hgS : ∀ j, gA = some j → ¬ S j := fun j hj hs => by have := hS j hs; have := hgA j hj; omega
 clear b1 b2 b3 c1
 gi_wp2
 gi_loopw [10] (fun i wr => ∃ k : Nat, k ≤ L.length ∧ i = .int .i64 k ∧ J ((L.take k).filter (frOf · h life)) wr ∧ Owns wr 223 4 (.slice a L.length cap) gA (L.map samc) ∧ Blk wr B1 144 #[.pointer q] ∧
   Blk wr B2 2 #[.int .i64 h] ∧ Blk wr B3 2 #[.int .i64 life])
  (fun i _ => L.length - (intOf i).toNat)
 case atStart => exact ⟨0, by omega, rfl, by simpa using J1, oA, B1', B2', B3'⟩
 case round =>
  obtain ⟨k, hk, rfl, hj, o, x1, x2, x3⟩ := hrel
  by_cases hlt : k < L.length
  ·obtain ⟨x, hx⟩ : ∃ x, L[k]? = some x := ⟨_, List.getElem?_eq_getElem hlt⟩
   obtain ⟨kA, hkA⟩ := o.pos (by simp; omega)
   obtain ⟨cap', hv, -, -⟩ := (hkA ▸ o).some_form
   simp only [Value.slice.injEq] at hv
   obtain ⟨rfl, -, -⟩ := hv
   have hxx : (L.map samc)[k]? = some (samc x) := by rw [List.getElem?_map, hx]; rfl
   have e0 := o.cell hkA hxx (j := 0) rfl
   have e1 := o.cell hkA hxx (j := 1) rfl
   have e2 := o.cell hkA hxx (j := 2) rfl
   have e3 := o.cell hkA hxx (j := 3) rfl
   simp only [Nat.add_zero] at e0
   have Z2 := x2.alloc (Obj.cells #[Value.int .i64 x.o, Value.int .i64 x.d, Value.int .i64 x.t, Value.int .i64 x.s] 223)
   have Z3 := x3.alloc (Obj.cells #[Value.int .i64 x.o, Value.int .i64 x.d, Value.int .i64 x.t, Value.int .i64 x.s] 223)
   have cZ := chg0_alloc wr (Obj.cells #[Value.int .i64 x.o, Value.int .i64 x.d, Value.int .i64 x.t, Value.int .i64 x.s] 223)
   have bX := Blk.new wr 223 #[Value.int .i64 x.o, Value.int .i64 x.d, Value.int .i64 x.t, Value.int .i64 x.s]
   have y2 := Z2.cell 0
   have y3 := Z3.cell 0
   simp at y2 y3
   have hi1 : (k : Int) < (L.length : Int) := by omega
   have hP : (L.take (k + 1)).filter (frOf · h life) = (L.take k).filter (frOf · h life) ++ [x].filter (frOf · h life) := by
    rw [List.take_add_one, hx, List.filter_append]; rfl
   have hpre : (L.take (k + 1)).filter (frOf · h life) <+: L.filter (frOf · h life) := (List.take_prefix _ _).filter _
   have hlen : ((L.take k).filter (frOf · h life)).length < L.length := by
    have := List.length_filter_le (frOf · h life) (L.take k)
    rw [List.length_take] at this
    omega
   obtain ⟨fr, hfr⟩ : ∃ fr, fr = frOf x h life := ⟨_, rfl⟩
   have F : ∀ W : World, Calls Tryz.prog 231 #[.agg #[.int .i64 x.o, .int .i64 x.d, .int .i64 x.t, .int .i64 x.s], .int .i64 h, .int .i64 life] W fun e w' => e = .returned (.bool fr) ∧ Chg (fun _ => False) W w' := fun W => by
    rw [hfr]; exact fresh231 x.o x.d x.t x.s h life (hok x (List.mem_of_getElem? hx)).t hh W
   have HF := Lib.hid F
   have HPre := Lib.hid hpre
   clear F hpre
   cases fr with
   | false =>
    rw [show [x].filter (frOf · h life) = [] by simp [← hfr], List.append_nil] at hP
    have HP := Lib.hid hP
    have HL := Lib.hid hlen
    clear hfr hP hlen
    gi_wp2_with fail
    refine ⟨trivial, (callsIn_wide.2 (HF.out _)).mono ?_⟩
    rintro e W2 ⟨rfl, c2⟩
    have cc := cZ.trans c2
    have O2 := o.chg cc (fun _ _ h => h)
    have X1 := x1.chg cc (fun h => h)
    have X2 := x2.chg cc (fun h => h)
    have X3 := x3.chg cc (fun h => h)
    have T2 := bX.chg c2 (fun h => h)
    have J2 : J _ W2 := hJ _ _ _ none hj (Chg.none cc) (fun _ e => by cases e)
    have t0 := T2.cell 0
    have t1 := T2.cell 1
    have t2 := T2.cell 2
    have t3 := T2.cell 3
    simp at t0 t1 t2 t3
    clear Z2 Z3 y2 y3 cZ bX c2 cc hj o x1 x2 x3 e0 e1 e2 e3
    gi_wp2_with fail
    refine ⟨fun _ h => (by cases h), ?_⟩
    gi_wp2_with fail
    go_roundw
    case rel => exact ⟨k + 1, by omega, by go_num, by rw [HP.out]; exact J2, O2, X1, X2, X3⟩
    case measure => simp [intOf]; omega
   | true =>
    rw [show [x].filter (frOf · h life) = [x] by simp [← hfr]] at hP
    have HP := Lib.hid hP
    have HL := Lib.hid hlen
    clear hfr hP hlen
    gi_wp2_with fail
    refine ⟨trivial, (callsIn_wide.2 (HF.out _)).mono ?_⟩
    rintro e W2 ⟨rfl, c2⟩
    have cc := cZ.trans c2
    have O2 := o.chg cc (fun _ _ h => h)
    have X1 := x1.chg cc (fun h => h)
    have X2 := x2.chg cc (fun h => h)
    have X3 := x3.chg cc (fun h => h)
    have T2 := bX.chg c2 (fun h => h)
    have J2 : J _ W2 := hJ _ _ _ none hj (Chg.none cc) (fun _ e => by cases e)
    have t0 := T2.cell 0
    have t1 := T2.cell 1
    have t2 := T2.cell 2
    have t3 := T2.cell 3
    simp at t0 t1 t2 t3
    clear Z2 Z3 y2 y3 cZ bX c2 cc hj o x1 x2 x3 e0 e1 e2 e3
    obtain ⟨fn, tmps, assign, body, hy, hR⟩ := hY _ x W2 J2 HL.out
    unfold samv at hy
    gi_wp2_with fail
    refine hR.mono ?_
    rintro e W3 (⟨rfl, hJ3, hk3⟩ | ⟨rfl, hJx3⟩)
    ·gi_wp2
     go_roundw
     case rel => exact ⟨k + 1, by omega, by go_num, by rw [HP.out]; exact hJ3, O2.kpc hk3 hgS, Blk.kpc X1 hk3 n1, Blk.kpc X2 hk3 n2, Blk.kpc X3 hk3 n3⟩
     case measure => simp [intOf]; omega
    ·gi_wp2
     refine bodyPost_ret (results_none rfl _ _ _) rfl ?_
     exact ⟨⟨_, rfl⟩, .inr ⟨_, HP.out ▸ HPre.out, hJx3⟩⟩
  ·obtain rfl : k = L.length := by omega
   gi_wp2
   go_end0
   exact ⟨⟨_, rfl⟩, .inl ⟨_, rfl, by simpa using hj⟩⟩
theorem iter_stops (n : Nat) (hn : 1 ≤ n) (B1 B2 B3 : Nat) (q : Option Addr) (L : List Sam) (hL8 : L.length ≤ 8) (hok : ∀ x ∈ L, x.Ok) (h life : Int) (hh : In64 h) (S : Nat → Prop) (w : World) (hS : ∀ i, S i → i < w.heap.size)
  (b1 : Blk w B1 144 #[.pointer q]) (b2 : Blk w B2 2 #[.int .i64 h]) (b3 : Blk w B3 2 #[.int .i64 life]) (n1 : ¬ S B1) (n2 : ¬ S B2) (n3 : ¬ S B3)
  (hall : ∀ W, Below w.heap.size w W → Calls Tryz.prog 230 #[.pointer q] W (Cloned 223 4 W (L.map samc))) :
  SeqStopsK Fence.wide n Tryz.prog 229 #[.pointer (some ⟨B1, 0, none⟩), .pointer (some ⟨B2, 0, none⟩), .pointer (some ⟨B3, 0, none⟩)] (fun x : Sam => #[samv x]) (KpC S) (fun ys => ys = L.filter (frOf · h life)) (fun pre => pre <+: L.filter (frOf · h life)) L.length w := fun l J Jx W hW hJ _ hY h0 => by
 have c := Chg.of_below hW
 have q1 := b1.lt
 have q2 := b2.lt
 have q3 := b3.lt
 exact iter1 n hn l B1 B2 B3 q L hL8 hok h life hh S W (fun i hi => Nat.lt_of_lt_of_le (hS i hi) hW.size) (b1.chg c (by omega)) (b2.chg c (by omega)) (b3.chg c (by omega)) n1 n2 n3
  (hall W hW) J Jx hJ hY h0
theorem fresh211 (q : Option Addr) (h life : Int) (n : Nat) (w : World) :
  CallsIn Fence.wide n Tryz.prog 211 #[.pointer q, .int .i64 h, .int .i64 life] w fun e w' => e = .returned (.func (.func 229) #[] #[.pointer (some ⟨w.heap.size, 0, none⟩), .pointer (some ⟨w.heap.size + 1, 0, none⟩), .pointer (some ⟨w.heap.size + 1 + 1, 0, none⟩)]) ∧
   w' = ((w.alloc (.cells #[.pointer q] 144)).alloc (.cells #[.int .i64 h] 2)).alloc (.cells #[.int .i64 life] 2) := by
 refine callsIn_wide.2 ?_
 go_enter Tryz.func211, Tryz.ntmps211
 go_wp2
 go_ret
 exact ⟨rfl, rfl⟩
end Go.Proofs.YtamhicdhbjniiaaGreatDoor
end
namespace Go.Proofs.YtamhicdhbjniiaaGreatDoor
section
open Go Go.RowKit Go.Shelf Go.Chron
def SeqT {α : Type} (F : Fence) (n : Nat) (P : Program) (g : Nat) (lb : Array Value) (encs : α → Array Value) (Kp : World → World → Prop) (T : Nat → Prop) (xs : List α) (w : World) : Prop :=
 ∀ (l : Nat) (J Jx : List α → World → Prop) (W : World), Below w.heap.size w W → AbidesFrom W.heap.size J → AbidesFrom W.heap.size Jx → (∀ s A B, J s A → Chg T A B → J s B) →
  (∀ pre x W1, J pre W1 → pre ++ [x] <+: xs → YieldAt F (n - 1) P l (encs x) W1 fun e W' =>
   (e = .returned (.bool true) ∧ J (pre ++ [x]) W' ∧ Kp W1 W') ∨ (e = .returned (.bool false) ∧ Jx (pre ++ [x]) W')) →
  J [] W →
  CallsIn F n P g (#[.func (.yield l) #[] #[]] ++ lb) W fun e W' => (∃ v, e = .returned v) ∧ (J xs W' ∨ (∃ pre, pre <+: xs ∧ Jx pre W'))
theorem wpIn_rangeT {F : Fence} {n : Nat} {P : Program} {α : Type} {g : Operand} {ps : Array Tmp} {assign body : Code} {Q : Exit → Act → World → Prop} {a : Act} {w : World}
  (hro : F.round = none) (h1 : 1 ≤ n) {gf : Nat} {lb : Array Value} (hg : a.eval g = .func (.func gf) #[] lb) (hFg : F.fn gf) (eg : ∀ args w, (callFunc gf args).run P w = .ok (.enter gf args) w)
  {encs : α → Array Value} {Kp : World → World → Prop} {T : Nat → Prop} {xs : List α} {w0 : World} (hseq : SeqT F (n - 1) P gf lb encs Kp T xs w0) (hT : ∀ i, T i → i < w.heap.size)
  (hKt : ∀ {A B C : World}, Kp A B → Kp B C → Kp A C) (hKb : ∀ (W : World) (l : Nat) (o o' : Obj), w.heap.size ≤ l → W.heap[l]? = some o → o.isCells = false → o.isWalk = false → Kp W (W.putObj l o')) (hb0 : Below w0.heap.size w0 w) (hps : ∀ x, (encs x).size = ps.size)
  (I : List α → World → Prop) (Ix : Code → List α → World → Prop) (hI : OwnFrom w.heap.size I) (hIT : ∀ s A B, I s A → Chg T A B → I s B) (hIx : ∀ c, OwnFrom w.heap.size (Ix c)) (h0 : I [] w) (Ax : α → Act → World → Prop) (hAx : ∀ x a', OwnFrom w.heap.size (fun (_ : Unit) W => Ax x a' W))
  (hassign : ∀ (l : Nat) (pre : List α) (x : α) (W : World) (K : Act → World → Prop), I pre W → (∀ a' W', KeepsFrom w.heap.size W W' → Kp W W' → I pre W' → Ax x a' W' → K a' W') →
   assign.wpIn (F.inRound l) (n - 1 - 1) P (Exit.then K (fun _ _ _ => False)) { tmps := (ps.zip (encs x)).foldl (fun t (p, v) => t.setIfInBounds p v) a.tmps, defers := [] } W)
  (hbody : ∀ (l : Nat) (pre : List α) (x : α) (a' : Act) (W : World), I pre W → Ax x a' W → pre ++ [x] <+: xs → body.wpIn (F.inRound l) (n - 1 - 1) P (ownPostG w.heap.size Kp I Ix (pre ++ [x]) W) a' W)
  (hdone : ∀ (D : Nat) (W : World), w.heap.size ≤ D → I xs W → W.heap[D]? = some (.deferred (some [])) → Q .normal { a with defers := { target := .collected D, args := #[] } :: a.defers } W)
  (hstop : ∀ (D : Nat) (c : Code) (pre : List α) (W : World), w.heap.size ≤ D → pre <+: xs → Ix c pre W → W.heap[D]? = some (.deferred (some [])) → c.wpIn F n P Q { a with defers := { target := .collected D, args := #[] } :: a.defers } W) :
  (Code.rangeFunc g ps assign body).wpIn F n P Q a w := by
 refine wpIn_rangeFunc ?_
 intro fn hfn
 rw [hro]
 obtain ⟨rec, hrec⟩ : ∃ rec : LoopState → Option Code → Loop, rec = fun st pe => { state := st, pending := pe, fn, tmps := a.tmps, params := ps, assign, body, defers := w.heap.size } := ⟨_, rfl⟩
 obtain ⟨W1, hW1⟩ : ∃ W1, (w.alloc (.deferred (some []))).alloc (.loop (rec .ready none)) = W1 := ⟨_, rfl⟩
 obtain ⟨hL, hD⟩ : W1.heap[w.heap.size + 1]? = some (.loop (rec .ready none)) ∧ W1.heap[w.heap.size]? = some (.deferred (some [])) := by
  rw [← hW1]
  refine ⟨?_, (Below.heap_alloc _ _ _ (by simp)).trans (World.alloc_heap_new w _)⟩
  have := World.alloc_heap_new (w.alloc (.deferred (some []))) (.loop (rec .ready none))
  rwa [World.size_alloc] at this
 have hs1 : W1.heap.size = w.heap.size + 2 := by rw [← hW1]; simp
 have hI1 : I [] W1 := by rw [← hW1]; exact hI.alloc _ (hI.alloc _ h0)
 have hb1 : Below w0.heap.size w0 W1 := by
  rw [← hW1]
  exact hb0.trans ((((Below.refl _ w).alloc (Nat.le_refl _) _).alloc (by simp) _).mono hb0.size)
 refine ⟨w.heap.size + 1, [{ target := .collected w.heap.size, args := #[] }], W1, { target := .fn (.func gf) lb, args := #[.func (.yield (w.heap.size + 1)) #[] #[]] }, W1, gf,
  #[.func (.yield (w.heap.size + 1)) #[] #[]] ++ lb, W1, ?_, ?_, ?_, ?_, fun _ => h1, ?_⟩
 ·rw [← hW1, hrec]; exact run_enterLoop_outer _ _ _ _ _
 ·simp only [resolve, hg]
  simp [go_sem]
 ·intro f' hf'; simp [Target.leads] at hf'; subst hf'; exact hFg
 ·simp [invoke, go_sem, eg]
 -- the row that an iterator's step turns is no block of cells and lies behind the loop's own two
 have hnw : ∀ {A : World} {row : Option Nat}, (∀ r, row = some r → W1.heap.size ≤ r ∧ ∃ o : Obj, A.heap[r]? = some o ∧ o.isWalk = true) → ∀ r, row = some r → w.heap.size ≤ r ∧ ∃ o : Obj, A.heap[r]? = some o ∧ o.isCells = false := fun hr r e => by
  obtain ⟨hB, o, ho, hw⟩ := hr r e
  exact ⟨by omega, o, ho, Obj.not_cells_of_walk hw⟩
 have two : ∀ {A B : World} {row : Option Nat} {L : Loop}, A.grownBy B row → (∀ r, row = some r → W1.heap.size ≤ r ∧ ∃ o : Obj, A.heap[r]? = some o ∧ o.isWalk = true) →
   A.heap[w.heap.size + 1]? = some (.loop L) ∧ A.heap[w.heap.size]? = some (.deferred (some [])) → B.heap[w.heap.size + 1]? = some (.loop L) ∧ B.heap[w.heap.size]? = some (.deferred (some [])) := fun hg' hr h =>
  ⟨(grownBy_keeps hg' (fun r e => (hr r e).2) h.1 rfl).trans h.1, (grownBy_keeps hg' (fun r e => (hr r e).2) h.2 rfl).trans h.2⟩
 refine (hseq (w.heap.size + 1)
  (fun pre W => I pre W ∧ W.heap[w.heap.size + 1]? = some (.loop (rec .ready none)) ∧ W.heap[w.heap.size]? = some (.deferred (some [])))
  (fun pre W => ∃ c, Ix c pre W ∧ W.heap[w.heap.size + 1]? = some (.loop (rec .done (some c))) ∧ W.heap[w.heap.size]? = some (.deferred (some [])))
  W1 hb1 (fun s A B row hs hg' hr => ⟨hI s A B row hs.1 hg' (hnw hr), two hg' hr hs.2⟩)
  (fun s A B row hs hg' hr => by
   obtain ⟨c, hc, hl⟩ := hs
   exact ⟨c, hIx c s A B row hc hg' (hnw hr), two hg' hr hl⟩)
  (fun s A B hs c => ⟨hIT s A B hs.1 c, (c.block _ (Array.getElem?_eq_some_iff.1 hs.2.1).1 (fun h => by have := hT _ h; omega)).trans hs.2.1, (c.block _ (Array.getElem?_eq_some_iff.1 hs.2.2).1 (fun h => by have := hT _ h; omega)).trans hs.2.2⟩)
  ?_ ⟨hI1, hL, hD⟩).mono ?_
 ·rintro pre x W ⟨hi, hl, hk⟩ hlen
  have hlt : w.heap.size + 1 < W.heap.size := (Array.getElem?_eq_some_iff.1 hl).1
  have hy := run_yield (P := P) (args := encs x) hl (by rw [hrec]; exact hps x)
  rw [hrec] at hy
  refine ⟨fn, _, assign, body, hy, roundIn_of_wpIn hfn (hassign _ pre x W _ hi ?_)⟩
  clear hy
  intro a' V hkf hkp hia hax
  have hlV := hkf.same _ _ (by omega) hl rfl
  have hkV := hkf.same _ _ (Nat.le_refl _) hk rfl
  have hltV : w.heap.size + 1 < V.heap.size := (Array.getElem?_eq_some_iff.1 hlV).1
  refine ⟨_, run_beginRound hlV (by rw [hrec]), ?_⟩
  obtain ⟨U, hU⟩ : ∃ U, U = V.putObj (w.heap.size + 1) (.loop { rec .ready none with state := .busy }) := ⟨_, rfl⟩
  have hlU : U.heap[w.heap.size + 1]? = some (.loop { rec .ready none with state := .busy }) := by rw [hU]; exact World.putObj_heap_same hltV
  have hkU : U.heap[w.heap.size]? = some (.deferred (some [])) := by rw [hU]; exact (World.putObj_heap_other (by omega)).trans hkV
  have hKU : Kp V U := by rw [hU]; exact hKb _ _ _ _ (by omega) hlV rfl rfl
  have hIU : I pre U := by rw [hU]; exact hI.putObj _ hia (by omega) hlV rfl
  have hAU : Ax x a' U := by rw [hU]; exact (hAx x a').putObj (s := ()) _ hax (by omega) hlV rfl
  rw [← hU]
  refine wpIn_mono (hbody _ pre x a' U hIU hAU hlen) ?_
  have fin : ∀ (jump : Option Code) (X : World), KeepsFrom w.heap.size U X →
    (Instr.endRound (w.heap.size + 1) jump).run P X = .ok (.bool jump.isNone) (X.putObj (w.heap.size + 1) (.loop (rec (if jump.isNone then .ready else .done) jump))) ∧
    X.heap[w.heap.size + 1]? = some (.loop { rec .ready none with state := .busy }) ∧
    (X.putObj (w.heap.size + 1) (.loop (rec (if jump.isNone then .ready else .done) jump))).heap[w.heap.size + 1]? = some (.loop (rec (if jump.isNone then .ready else .done) jump)) ∧
    (X.putObj (w.heap.size + 1) (.loop (rec (if jump.isNone then .ready else .done) jump))).heap[w.heap.size]? = some (.deferred (some [])) := fun jump X hX => by
   have hlX := hX.same _ _ (by omega) hlU rfl
   have := run_endRound (P := P) jump hlX
   rw [hrec] at this ⊢
   exact ⟨this, by rw [hrec] at hlX; exact hlX, World.putObj_heap_same (Array.getElem?_eq_some_iff.1 hlX).1, (World.putObj_heap_other (by omega)).trans (hX.same _ _ (Nat.le_refl _) hkU rfl)⟩
  rintro e a3 X hp
  have away : ∀ c : Code, KeepsFrom w.heap.size U X → Ix c (pre ++ [x]) X → ∃ v W', (Instr.endRound (w.heap.size + 1) (some c)).run P X = .ok v W' ∧ v = .bool false ∧ (∃ c', Ix c' (pre ++ [x]) W' ∧ W'.heap[w.heap.size + 1]? = some (.loop (rec .done (some c'))) ∧ W'.heap[w.heap.size]? = some (.deferred (some []))) := fun c hX hc => by
   obtain ⟨hr, hl3, hl4, hk4⟩ := fin (some c) X hX
   exact ⟨_, _, hr, rfl, c, (hIx c).putObj _ hc (by omega) hl3 rfl, hl4, hk4⟩
  cases e with
  | normal =>
   obtain ⟨hX, hKX, hiX⟩ := hp
   obtain ⟨hr, hl3, hl4, hk4⟩ := fin none X hX
   exact ⟨_, _, hr, .inl ⟨rfl, ⟨hI.putObj _ hiX (by omega) hl3 rfl, hl4, hk4⟩, hKt hkp (hKt (hKt hKU hKX) (hKb _ _ _ _ (by omega) hl3 rfl rfl))⟩⟩
  | ret =>
   obtain ⟨v, W', hr, rfl, hh⟩ := away .ret hp.1 hp.2
   exact ⟨_, _, hr, .inr ⟨rfl, hh⟩⟩
  | exit id =>
   obtain ⟨v, W', hr, rfl, hh⟩ := away (.exit id) hp.1 hp.2
   exact ⟨_, _, hr, .inr ⟨rfl, hh⟩⟩
  | goto t =>
   obtain ⟨v, W', hr, rfl, hh⟩ := away (.goto t) hp.1 hp.2
   exact ⟨_, _, hr, .inr ⟨rfl, hh⟩⟩
  | panic ch => exact hp.elim
  | outgrown => exact hp.elim
 ·rintro e X ⟨⟨v, rfl⟩, (⟨hi, hl, hk⟩ | ⟨pre, hSp, c, hi, hl, hk⟩)⟩
  ·refine ⟨none, _, by have := run_endLoop (P := P) hl (by rw [hrec]; simp); rw [hrec] at this; exact this, hdone _ _ (Nat.le_refl _) (hI.putObj _ hi (by omega) hl rfl) ((World.putObj_heap_other (by omega)).trans hk)⟩
  ·refine ⟨some c, _, by have := run_endLoop (P := P) hl (by rw [hrec]; simp); rw [hrec] at this; exact this, hstop _ c pre _ (Nat.le_refl _) hSp ((hIx c).putObj _ hi (by omega) hl rfl) ((World.putObj_heap_other (by omega)).trans hk)⟩
end
end Go.Proofs.YtamhicdhbjniiaaGreatDoor
