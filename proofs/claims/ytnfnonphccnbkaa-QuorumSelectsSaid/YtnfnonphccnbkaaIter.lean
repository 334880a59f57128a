/- The iterator of package fresh: what it hands to the loop's body, in order. -/
import Derived.RangeFuncNested
import Derived.RangeFuncBound
import Derived.RangeFuncCalls
import Derived.RangeFuncLeaves
import Derived.Shelf.Abstract
import Derived.Shelf.RegionOpen
import Derived.WalkKit
import Derived.OwnWalkIn
import Derived.TacticsInMore
import Derived.LoopNIn
import Derived.LoopIn
import Derived.Test.YtnfnonphccnbkaaStore
set_option linter.unusedVariables false
namespace Go.Proofs.Ytnfnonphccnbkaa
open Go.RowKit Go.Shelf Go.Chron

theorem Chg.none {W W' : World} (h : Chg (fun _ => False) W W') : W.grownBy W' none := ⟨h.os, h.tape, h.output, h.size, fun k hk _ => h.block k hk (fun h => h)⟩

/-- What a round keeps: every block of cells that isn't in S. -/
structure KpC (S : Nat → Prop) (W W' : World) : Prop where
  os : W'.os = W.os
  tape : W'.tape = W.tape
  output : W'.output = W.output
  size : W.heap.size ≤ W'.heap.size
  cells : ∀ i cs t p, W.heap[i]? = some (Obj.cells cs t p) → ¬ S i → W'.heap[i]? = some (Obj.cells cs t p)
theorem KpC.trans {S : Nat → Prop} {A B C : World} (h : KpC S A B) (k : KpC S B C) : KpC S A C :=
  ⟨k.os.trans h.os, k.tape.trans h.tape, k.output.trans h.output, Nat.le_trans h.size k.size, fun i cs t p hi hs => k.cells i cs t p (h.cells i cs t p hi hs) hs⟩
theorem KpC.of_chg {S : Nat → Prop} {A B : World} (h : Chg S A B) : KpC S A B :=
  ⟨h.os, h.tape, h.output, h.size, fun i cs t p hi hs => (h.block i (Array.getElem?_eq_some_iff.1 hi).1 hs).trans hi⟩
theorem KpC.book {S : Nat → Prop} {B : Nat} (W : World) (l : Nat) (o o' : Obj) (_ : B ≤ l) (hl : W.heap[l]? = some o) (ho : o.isCells = false) (_ : o.isWalk = false) : KpC S W (W.putObj l o') := by
  have g := grownBy_putObj' W l o'
  refine ⟨g.os, g.tape, g.output, g.size, fun i cs t p hi hs => ?_⟩
  refine (g.block i (Array.getElem?_eq_some_iff.1 hi).1 (fun e => ?_)).trans hi
  cases e
  rw [hi] at hl
  cases hl
  cases ho
end Go.Proofs.Ytnfnonphccnbkaa
namespace Go.Chron
open Go Go.RowKit Go.Proofs.Ytnfnonphccnbkaa
theorem Blk.kpc {S : Nat → Prop} {W W' : World} {g : Nat} {t : TypeId} {cs : Array Value} (h : Blk W g t cs) (k : KpC S W W') (hs : ¬ S g) : Blk W' g t cs := k.cells g cs t (0, 0) h hs
theorem Owns.kpc {S : Nat → Prop} {W W' : World} {e : TypeId} {sz : Nat} {v : Value} {g : Option Nat} {els : List (List Value)} (h : Owns W e sz v g els) (k : KpC S W W') (hs : ∀ j, g = some j → ¬ S j) : Owns W' e sz v g els := by
  refine ⟨h.each, ?_⟩
  rcases h.row with h0 | ⟨j, cap, cur, hj, hv, hb, h1, h2, h3, h4⟩
  · exact .inl h0
  · exact .inr ⟨j, cap, cur, hj, hv, Blk.kpc hb k (hs j hj), h1, h2, h3, h4⟩
end Go.Chron
namespace Go.Proofs.Ytnfnonphccnbkaa
open Go.RowKit Go.Shelf Go.Chron
attribute [local go_sem] Oper.semAt_some
theorem StoreAt.chg {S : Nat → Prop} {w w' : World} {s b cnt : Nat} {g : Option Nat} {L : List Sam} (h : StoreAt w s b g cnt L) (c : Chg S w w') (hs : ¬ S s) (hb : ¬ S b) (hg : ∀ j, g = some j → ¬ S j) : StoreAt w' s b g cnt L :=
  ⟨h.st.chg c hs, h.ring.chg c hb hg⟩

set_option maxRecDepth 100000 in
set_option maxHeartbeats 2000000 in
theorem iter1 (n : Nat) (hn : 1 ≤ n) (l B1 B2 B3 : Nat) (q : Option Addr) (L : List Sam) (hL8 : L.length ≤ 8) (hok : ∀ x ∈ L, x.Ok) (h life : Int) (hh : In64 h) (S : Nat → Prop) (W : World) (hS : ∀ i, S i → i < W.heap.size)
    (b1 : Blk W B1 24 #[.pointer q]) (b2 : Blk W B2 2 #[.int .i64 h]) (b3 : Blk W B3 2 #[.int .i64 life]) (n1 : ¬ S B1) (n2 : ¬ S B2) (n3 : ¬ S B3) (hall : Calls Try.prog 25 #[.pointer q] W (Cloned 28 4 W (L.map samc)))
    (J Jx : List Sam → World → Prop) (hJ : AbidesFrom W.heap.size J)
    (hY : ∀ pre x W, J pre W → pre.length < L.length → YieldAt Fence.wide (n - 1) Try.prog l #[samv x] W fun e W' =>
      (e = .returned (.bool true) ∧ J (pre ++ [x]) W' ∧ KpC S W W') ∨ (e = .returned (.bool false) ∧ Jx (pre ++ [x]) W'))
    (h0 : J [] W) :
    CallsIn Fence.wide n Try.prog 64 #[.func (.yield l) #[] #[], .pointer (some ⟨B1, 0, none⟩), .pointer (some ⟨B2, 0, none⟩), .pointer (some ⟨B3, 0, none⟩)] W fun e W' => (∃ v, e = .returned v) ∧
      ((∃ ys, ys = L.filter (frOf · h life) ∧ J ys W') ∨ (∃ pre, pre <+: L.filter (frOf · h life) ∧ Jx pre W')) := by
  have c1 := b1.cell 0
  simp at c1
  have HS := Lib.hid hall
  clear hall
  refine callsIn_of_wp Try.func64 rfl trivial ?_ rfl
  simp only [Try.ntmps64, List.size_toArray, List.length_cons, List.length_nil, Nat.reduceAdd, Nat.reduceSub, Array.replicate_succ, Array.replicate_zero, List.push_toArray, List.append_toArray, List.nil_append, List.cons_append]
  gi_wp2_with fail
  refine ⟨trivial, (callsIn_wide.2 HS.out).mono ?_⟩
  rintro e W1 ⟨a, cap, gA, rfl, oA, cA, hgA⟩
  simp only [List.length_map] at oA ⊢
  have J1 : J [] W1 := hJ _ _ _ none h0 (Chg.none cA) (fun _ e => by cases e)
  have B1' := b1.chg cA (fun h => h)
  have B2' := b2.chg cA (fun h => h)
  have B3' := b3.chg cA (fun h => h)
  have hgS : ∀ j, gA = some j → ¬ S j := fun j hj hs => by have := hS j hs; have := hgA j hj; omega
  clear b1 b2 b3 c1
  gi_wp2
  gi_loopw [10] (fun i wr => ∃ k : Nat, k ≤ L.length ∧ i = .int .i64 k ∧ J ((L.take k).filter (frOf · h life)) wr ∧ Owns wr 28 4 (.slice a L.length cap) gA (L.map samc) ∧ Blk wr B1 24 #[.pointer q] ∧
      Blk wr B2 2 #[.int .i64 h] ∧ Blk wr B3 2 #[.int .i64 life])
    (fun i _ => L.length - (intOf i).toNat)
  case atStart => exact ⟨0, by omega, rfl, by simpa using J1, oA, B1', B2', B3'⟩
  case round =>
    obtain ⟨k, hk, rfl, hj, o, x1, x2, x3⟩ := hrel
    by_cases hlt : k < L.length
    · obtain ⟨x, hx⟩ : ∃ x, L[k]? = some x := ⟨_, List.getElem?_eq_getElem hlt⟩
      obtain ⟨kA, hkA⟩ := o.pos (by simp; omega)
      obtain ⟨cap', hv, -, -⟩ := (hkA ▸ o).some_form
      simp only [Value.slice.injEq] at hv
      obtain ⟨rfl, -, -⟩ := hv
      have hxx : (L.map samc)[k]? = some (samc x) := by rw [List.getElem?_map, hx]; rfl
      have e0 := o.cell hkA hxx (j := 0) rfl
      have e1 := o.cell hkA hxx (j := 1) rfl
      have e2 := o.cell hkA hxx (j := 2) rfl
      have e3 := o.cell hkA hxx (j := 3) rfl
      simp only [Nat.add_zero] at e0
      have Z2 := x2.alloc (Obj.cells #[Value.int .i64 x.o, Value.int .i64 x.d, Value.int .i64 x.t, Value.int .i64 x.s] 28)
      have Z3 := x3.alloc (Obj.cells #[Value.int .i64 x.o, Value.int .i64 x.d, Value.int .i64 x.t, Value.int .i64 x.s] 28)
      have cZ := chg0_alloc wr (Obj.cells #[Value.int .i64 x.o, Value.int .i64 x.d, Value.int .i64 x.t, Value.int .i64 x.s] 28)
      have bX := Blk.new wr 28 #[Value.int .i64 x.o, Value.int .i64 x.d, Value.int .i64 x.t, Value.int .i64 x.s]
      have y2 := Z2.cell 0
      have y3 := Z3.cell 0
      simp at y2 y3
      have hi1 : (k : Int) < (L.length : Int) := by omega
      have hP : (L.take (k + 1)).filter (frOf · h life) = (L.take k).filter (frOf · h life) ++ [x].filter (frOf · h life) := by
        rw [List.take_add_one, hx, List.filter_append]; rfl
      have hpre : (L.take (k + 1)).filter (frOf · h life) <+: L.filter (frOf · h life) := (List.take_prefix _ _).filter _
      have hlen : ((L.take k).filter (frOf · h life)).length < L.length := by
        have := List.length_filter_le (frOf · h life) (L.take k)
        rw [List.length_take] at this
        omega
      obtain ⟨fr, hfr⟩ : ∃ fr, fr = frOf x h life := ⟨_, rfl⟩
      have F : ∀ W : World, Calls Try.prog 65 #[.agg #[.int .i64 x.o, .int .i64 x.d, .int .i64 x.t, .int .i64 x.s], .int .i64 h, .int .i64 life] W fun e w' => e = .returned (.bool fr) ∧ Chg (fun _ => False) W w' := fun W => by
        rw [hfr]; exact fresh65 x.o x.d x.t x.s h life (hok x (List.mem_of_getElem? hx)).t hh W
      have HF := Lib.hid F
      have HPre := Lib.hid hpre
      clear F hpre
      cases fr with
      | false =>
        rw [show [x].filter (frOf · h life) = [] by simp [← hfr], List.append_nil] at hP
        have HP := Lib.hid hP
        have HL := Lib.hid hlen
        clear hfr hP hlen
        gi_wp2_with fail
        refine ⟨trivial, (callsIn_wide.2 (HF.out _)).mono ?_⟩
        rintro e W2 ⟨rfl, c2⟩
        have cc := cZ.trans c2
        have O2 := o.chg cc (fun _ _ h => h)
        have X1 := x1.chg cc (fun h => h)
        have X2 := x2.chg cc (fun h => h)
        have X3 := x3.chg cc (fun h => h)
        have T2 := bX.chg c2 (fun h => h)
        have J2 : J _ W2 := hJ _ _ _ none hj (Chg.none cc) (fun _ e => by cases e)
        have t0 := T2.cell 0
        have t1 := T2.cell 1
        have t2 := T2.cell 2
        have t3 := T2.cell 3
        simp at t0 t1 t2 t3
        clear Z2 Z3 y2 y3 cZ bX c2 cc hj o x1 x2 x3 e0 e1 e2 e3
        gi_wp2_with fail
        refine ⟨fun _ h => (by cases h), ?_⟩
        gi_wp2_with fail
        go_roundw
        case rel => exact ⟨k + 1, by omega, by go_num, by rw [HP.out]; exact J2, O2, X1, X2, X3⟩
        case measure => simp [intOf]; omega
      | true =>
        rw [show [x].filter (frOf · h life) = [x] by simp [← hfr]] at hP
        have HP := Lib.hid hP
        have HL := Lib.hid hlen
        clear hfr hP hlen
        gi_wp2_with fail
        refine ⟨trivial, (callsIn_wide.2 (HF.out _)).mono ?_⟩
        rintro e W2 ⟨rfl, c2⟩
        have cc := cZ.trans c2
        have O2 := o.chg cc (fun _ _ h => h)
        have X1 := x1.chg cc (fun h => h)
        have X2 := x2.chg cc (fun h => h)
        have X3 := x3.chg cc (fun h => h)
        have T2 := bX.chg c2 (fun h => h)
        have J2 : J _ W2 := hJ _ _ _ none hj (Chg.none cc) (fun _ e => by cases e)
        have t0 := T2.cell 0
        have t1 := T2.cell 1
        have t2 := T2.cell 2
        have t3 := T2.cell 3
        simp at t0 t1 t2 t3
        clear Z2 Z3 y2 y3 cZ bX c2 cc hj o x1 x2 x3 e0 e1 e2 e3
        obtain ⟨fn, tmps, assign, body, hy, hR⟩ := hY _ x W2 J2 HL.out
        unfold samv at hy
        gi_wp2_with fail
        refine hR.mono ?_
        rintro e W3 (⟨rfl, hJ3, hk3⟩ | ⟨rfl, hJx3⟩)
        · gi_wp2
          go_roundw
          case rel => exact ⟨k + 1, by omega, by go_num, by rw [HP.out]; exact hJ3, O2.kpc hk3 hgS, Blk.kpc X1 hk3 n1, Blk.kpc X2 hk3 n2, Blk.kpc X3 hk3 n3⟩
          case measure => simp [intOf]; omega
        · gi_wp2
          refine bodyPost_ret (results_none rfl _ _ _) rfl ?_
          exact ⟨⟨_, rfl⟩, .inr ⟨_, HP.out ▸ HPre.out, hJx3⟩⟩
    · obtain rfl : k = L.length := by omega
      gi_wp2
      go_end0
      exact ⟨⟨_, rfl⟩, .inl ⟨_, rfl, by simpa using hj⟩⟩

/-- s.fresh(h, life) hands back a value that gives the fresh ones of what the store keeps, in order. -/
theorem iter_stops (n : Nat) (hn : 1 ≤ n) (B1 B2 B3 : Nat) (q : Option Addr) (L : List Sam) (hL8 : L.length ≤ 8) (hok : ∀ x ∈ L, x.Ok) (h life : Int) (hh : In64 h) (S : Nat → Prop) (w : World) (hS : ∀ i, S i → i < w.heap.size)
    (b1 : Blk w B1 24 #[.pointer q]) (b2 : Blk w B2 2 #[.int .i64 h]) (b3 : Blk w B3 2 #[.int .i64 life]) (n1 : ¬ S B1) (n2 : ¬ S B2) (n3 : ¬ S B3)
    (hall : ∀ W, Below w.heap.size w W → Calls Try.prog 25 #[.pointer q] W (Cloned 28 4 W (L.map samc))) :
    SeqStopsK Fence.wide n Try.prog 64 #[.pointer (some ⟨B1, 0, none⟩), .pointer (some ⟨B2, 0, none⟩), .pointer (some ⟨B3, 0, none⟩)] (fun x : Sam => #[samv x]) (KpC S) (fun ys => ys = L.filter (frOf · h life)) (fun pre => pre <+: L.filter (frOf · h life)) L.length w := fun l J Jx W hW hJ _ hY h0 => by
  have c := Chg.of_below hW
  have q1 := b1.lt
  have q2 := b2.lt
  have q3 := b3.lt
  exact iter1 n hn l B1 B2 B3 q L hL8 hok h life hh S W (fun i hi => Nat.lt_of_lt_of_le (hS i hi) hW.size) (b1.chg c (by omega)) (b2.chg c (by omega)) (b3.chg c (by omega)) n1 n2 n3
    (hall W hW) J Jx hJ hY h0

set_option maxRecDepth 100000 in
theorem fresh49 (q : Option Addr) (h life : Int) (n : Nat) (w : World) :
    CallsIn Fence.wide n Try.prog 49 #[.pointer q, .int .i64 h, .int .i64 life] w fun e w' => e = .returned (.func (.func 64) #[] #[.pointer (some ⟨w.heap.size, 0, none⟩), .pointer (some ⟨w.heap.size + 1, 0, none⟩), .pointer (some ⟨w.heap.size + 1 + 1, 0, none⟩)]) ∧
      w' = ((w.alloc (.cells #[.pointer q] 24)).alloc (.cells #[.int .i64 h] 2)).alloc (.cells #[.int .i64 life] 2) := by
  refine callsIn_wide.2 ?_
  go_enter Try.func49, Try.ntmps49
  go_wp2
  go_ret
  exact ⟨rfl, rfl⟩
end Go.Proofs.Ytnfnonphccnbkaa
