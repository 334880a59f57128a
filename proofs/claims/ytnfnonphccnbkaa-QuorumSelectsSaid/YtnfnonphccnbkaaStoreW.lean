/- A store among what was made since a call began; Best of a store, and of none; the document's example of package fresh holds. -/
import Derived.Test.YtnfnonphccnbkaaBest
set_option linter.unusedVariables false
namespace Go.Proofs.Ytnfnonphccnbkaa
open Go.RowKit Go.Chron

theorem storeBest (s b : Nat) (g : Option Nat) (cnt : Nat) (L : List Sam) (hok : ∀ x ∈ L, x.Ok) (h life sl : Int) (hh : In64 h) (hsl : In64 sl) (w : World) (st : StoreAt w s b g cnt L) :
    Calls Try.prog 23 #[.pointer (some ⟨s, 0, none⟩), .int .i64 h, .int .i64 life, .int .i64 sl] w fun e w' => e = .returned (bestRes (bestOf (L.filter (frOf · h life))) sl) ∧ Chg (fun _ => False) w w' := by
  have hL8 : L.length ≤ 8 := by have := st.ring.few; simpa using this
  refine (best23 (some ⟨s, 0, none⟩) L hL8 hok h life sl hh hsl w (fun W hW => ?_)).mono fun e w' hr => ⟨hr.1, Chg.of_bel hr.2⟩
  have c := Chg.of_below hW
  have qs := st.st.lt
  have qb := st.ring.lt
  have qg := st.ring.ltg
  exact storeAll s b g cnt L W (st.chg c (by omega) (by omega) (fun j hj => by have := qg j hj; omega))

theorem noneBest (h life sl : Int) (hh : In64 h) (hsl : In64 sl) (w : World) :
    Calls Try.prog 23 #[.pointer none, .int .i64 h, .int .i64 life, .int .i64 sl] w fun e w' => e = .returned (bestRes none sl) ∧ Chg (fun _ => False) w w' := by
  refine (best23 none [] (by simp) (by simp) h life sl hh hsl w (fun W hW => ?_)).mono fun e w' hr => ⟨hr.1, Chg.of_bel hr.2⟩
  refine (storeAllNil W).mono ?_
  rintro e w' ⟨rfl, rfl⟩
  exact cloned_nil _ _ _

/-- A store that was made since w0: its ring and its slice lie behind what lay in w0. -/
structure StoreW (w0 w : World) (s b : Nat) (g : Option Nat) (cnt : Nat) (L : List Sam) : Prop where
  st : StoreAt w s b g cnt L
  hb : w0.heap.size ≤ b
  hg : ∀ j, g = some j → w0.heap.size ≤ j
  bel : Below w0.heap.size w0 w
theorem StoreW.chg0 {w0 w w' : World} {s b : Nat} {g : Option Nat} {cnt : Nat} {L : List Sam} (h : StoreW w0 w s b g cnt L) (c : Chg (fun _ => False) w w') : StoreW w0 w' s b g cnt L :=
  ⟨h.st.chg0 c, h.hb, h.hg, bel0 h.bel c (Nat.le_refl _)⟩
theorem StoreW.add {w0 w w' : World} {s b : Nat} {g : Option Nat} {cnt : Nat} {L : List Sam} {x : Sam} (h : StoreW w0 w s b g cnt L) (a : StoreAdded w s b g cnt L x w') :
    ∃ k, StoreW w0 w' s b (some k) (cnt + 1) (rpush 8 L x) ∧ Chg (fun j => j = b ∨ g = some j) w w' := by
  obtain ⟨k, st, c, hk⟩ := a
  refine ⟨k, ⟨st, h.hb, ?_, below_chg h.bel c (Nat.le_refl _) (fun j hj hs => ?_)⟩, c⟩
  · intro j hj
    cases hj
    rcases hk with hk | hk
    · exact h.hg _ hk
    · exact Nat.le_trans h.bel.size hk
  · have := h.hb
    rcases hs with hs | hs
    · omega
    · have := h.hg j hs; omega
theorem StoreW.clear {w0 w w' : World} {s b : Nat} {g : Option Nat} {cnt : Nat} {L : List Sam} (h : StoreW w0 w s b g cnt L) (st : StoreAt w' s b none cnt []) (c : Chg (fun j => j = b) w w') : StoreW w0 w' s b none cnt [] :=
  ⟨st, h.hb, by simp, below_chg h.bel c (Nat.le_refl _) (fun j hj hs => by have := h.hb; omega)⟩
/-- What is no sample, no ring and no slice of samples stays as it is when a sample is added. -/
theorem StoreAt.far {w w' : World} {s b : Nat} {g : Option Nat} {cnt : Nat} {L : List Sam} (h : StoreAt w s b g cnt L) (c : Chg (fun j => j = b ∨ g = some j) w w') {j : Nat} {t : TypeId} {cs : Array Value} (hj : Blk w j t cs)
    (h1 : t ≠ 109) (h2 : t ≠ 28) : Blk w' j t cs := by
  obtain ⟨v, hb, ho⟩ := h.ring.ex
  refine hj.chg c (fun e => ?_)
  rcases e with e | e
  · subst e; exact h1 (blk_typ hj hb)
  · obtain ⟨c', hc'⟩ := ho.blk e
    exact h2 (blk_typ hj hc')
theorem rpush_room {α : Type} {L : List α} {m : Nat} (h : L.length < m) (x : α) : rpush m L x = L ++ [x] := by unfold rpush; rw [if_pos h]

def demo : List Sam := [⟨0, 7, 10, 0⟩, ⟨0, 3, 1, 0⟩, ⟨0, 5, 12, 0⟩]
theorem demo_ok : ∀ x ∈ demo, x.Ok := by
  intro x hx
  simp only [demo, List.mem_cons, List.not_mem_nil, or_false] at hx
  rcases hx with rfl | rfl | rfl <;> exact ⟨⟨by decide, by decide⟩, ⟨by decide, by decide⟩, ⟨by decide, by decide⟩, ⟨by decide, by decide⟩⟩
theorem demo_1 : bestOf (demo.filter (frOf · 12 20)) = some ⟨0, 3, 1, 0⟩ := by decide
theorem demo_2 : bestOf (demo.filter (frOf · 22 20)) = some ⟨0, 5, 12, 0⟩ := by decide

def DemoInv (w : World) (s b bI : Nat) (i : Value) (wr : World) : Prop :=
  ∃ (k : Nat) (g : Option Nat), k ≤ 3 ∧ i = .int .i64 k ∧ StoreW w wr s b g k (demo.take k) ∧ Blk wr bI 2 #[.int .i64 7, .int .i64 3, .int .i64 5]

set_option maxRecDepth 100000 in
set_option maxHeartbeats 3200000 in
theorem alive (w : World) : Calls Try.prog 21 #[] w fun e w' => e = .returned (.bool true) ∧ Chg (fun _ => False) w w' := by
  go_enter Try.func21, Try.ntmps21
  go_wp2_with fail
  refine (storeNew w).mono ?_
  rintro e w1 ⟨s, b, rfl, st, hs, hb, c1⟩
  have S0 : StoreW w w1 s b none 0 [] := ⟨st, hb, by simp, bel0 (Below.refl _ _) c1 (Nat.le_refl _)⟩
  clear st hb c1
  go_wp2_with fail
  have S1 := S0.chg0 (chg0_alloc w1 (Obj.cells #[Value.int IntKind.i64 7, Value.int IntKind.i64 3, Value.int IntKind.i64 5] 2))
  have bI := Blk.new w1 2 #[Value.int IntKind.i64 7, Value.int IntKind.i64 3, Value.int IntKind.i64 5]
  generalize w1.alloc (Obj.cells #[Value.int IntKind.i64 7, Value.int IntKind.i64 3, Value.int IntKind.i64 5] 2) = w2 at *
  generalize w1.heap.size = i1 at *
  clear S0
  go_loopw [15] (fun i wr => DemoInv w s b i1 i wr) (fun i _ => 3 - (intOf i).toNat)
  case atStart => exact ⟨0, none, by omega, rfl, S1, bI⟩
  case round =>
    clear S1 bI
    obtain ⟨k, g, hk, rfl, S1, bI⟩ := hrel
    have e0 := bI.cell 0
    have e1 := bI.cell 1
    have e2 := bI.cell 2
    simp at e0 e1 e2
    by_cases hlt : k < 3
    · obtain rfl | rfl | rfl : k = 0 ∨ k = 1 ∨ k = 2 := by omega
      · have cI := chg0_alloc wr (Obj.cells #[Value.int IntKind.i64 10, Value.int IntKind.i64 1, Value.int IntKind.i64 12] 3)
        have S2 := S1.chg0 cI
        have J2 := bI.chg cI (fun h => h)
        clear S1
        go_wp2_with fail
        refine (storeAdd s b g 0 _ 0 7 10 0 _ S2.st (by omega)).mono ?_
        rintro e wB ⟨rfl, A⟩
        obtain ⟨k2, S3, c3⟩ := S2.add A
        have J3 := S2.st.far c3 J2 (by decide) (by decide)
        rw [rpush_room (by simp [demo])] at S3
        clear S2 J2 c3 A bI e0 e1 e2
        go_wp2_with fail
        go_roundw
        case rel => exact ⟨1, some k2, by omega, by go_num, S3, J3⟩
        case measure => simp [intOf]
      · have cI := chg0_alloc wr (Obj.cells #[Value.int IntKind.i64 10, Value.int IntKind.i64 1, Value.int IntKind.i64 12] 3)
        have S2 := S1.chg0 cI
        have J2 := bI.chg cI (fun h => h)
        clear S1
        go_wp2_with fail
        refine (storeAdd s b g 1 _ 0 3 1 0 _ S2.st (by omega)).mono ?_
        rintro e wB ⟨rfl, A⟩
        obtain ⟨k2, S3, c3⟩ := S2.add A
        have J3 := S2.st.far c3 J2 (by decide) (by decide)
        rw [rpush_room (by simp [demo])] at S3
        clear S2 J2 c3 A bI e0 e1 e2
        go_wp2_with fail
        go_roundw
        case rel => exact ⟨2, some k2, by omega, by go_num, S3, J3⟩
        case measure => simp [intOf]
      · have cI := chg0_alloc wr (Obj.cells #[Value.int IntKind.i64 10, Value.int IntKind.i64 1, Value.int IntKind.i64 12] 3)
        have S2 := S1.chg0 cI
        have J2 := bI.chg cI (fun h => h)
        clear S1
        go_wp2_with fail
        refine (storeAdd s b g 2 _ 0 5 12 0 _ S2.st (by omega)).mono ?_
        rintro e wB ⟨rfl, A⟩
        obtain ⟨k2, S3, c3⟩ := S2.add A
        have J3 := S2.st.far c3 J2 (by decide) (by decide)
        rw [rpush_room (by simp [demo])] at S3
        clear S2 J2 c3 A bI e0 e1 e2
        go_wp2_with fail
        go_roundw
        case rel => exact ⟨3, some k2, by omega, by go_num, S3, J3⟩
        case measure => simp [intOf]
    · obtain rfl : k = 3 := by omega
      clear e0 e1 e2 bI
      go_wp2_with fail
      refine (storeBest s b g 3 _ demo_ok 12 20 0 ⟨by decide, by decide⟩ ⟨by decide, by decide⟩ _ S1.st).mono ?_
      rintro e wB ⟨rfl, cB⟩
      rw [demo_1]
      have S2 := S1.chg0 cB
      clear S1 cB
      simp only [bestRes]
      go_wp2_with fail
      have cx := chg0_alloc wB (Obj.cells #[Value.int IntKind.i64 0, Value.int IntKind.i64 3, Value.int IntKind.i64 1, Value.int IntKind.i64 0] 28)
      have S3 := S2.chg0 cx
      have bx := Blk.new wB 28 #[Value.int IntKind.i64 0, Value.int IntKind.i64 3, Value.int IntKind.i64 1, Value.int IntKind.i64 0]
      clear S2
      refine (storeBest s b g 3 demo demo_ok 22 20 0 ⟨by decide, by decide⟩ ⟨by decide, by decide⟩ _ S3.st).mono ?_
      rintro e wC ⟨rfl, cC⟩
      rw [demo_2]
      have S4 := S3.chg0 cC
      have by1 := bx.chg cC (fun h => h)
      have x1 := (by1.alloc (Obj.cells #[Value.int IntKind.i64 0, Value.int IntKind.i64 5, Value.int IntKind.i64 12, Value.int IntKind.i64 0] 28)).cell 1
      simp at x1
      have HB := Lib.hid S4.bel
      clear S3 S4 bx cx cC by1
      simp only [bestRes]
      go_wp2_with fail
      go_ret
      exact ⟨rfl, Chg.of_bel (HB.out.trans ((Below.refl _ _).alloc (by have := HB.out.size; omega) _))⟩
end Go.Proofs.Ytnfnonphccnbkaa
