/- package fresh's store: the contracts of New, Add, All, Clear. -/
import Derived.Test.YtnfnonphccnbkaaSam
import Derived.Test.YtnfnonphccnbkaaRingsam
import Derived.Deep.RegionWith
import Derived.Lib.Builder
set_option linter.unusedVariables false
namespace Go.Proofs.Ytnfnonphccnbkaa
open Go.RowKit Go.Chron

/-- A store behind the pointer to block s: its ring in block b, the ring's slice in block g. -/
structure StoreAt (w : World) (s b : Nat) (g : Option Nat) (cnt : Nat) (L : List Sam) : Prop where
  st : Blk w s 94 #[.pointer (some ⟨b, 0, none⟩)]
  ring : RingAt 109 28 4 w b g 8 cnt (L.map samc)

theorem StoreAt.sb {w : World} {s b cnt : Nat} {g : Option Nat} {L : List Sam} (h : StoreAt w s b g cnt L) : s ≠ b := by
  rintro rfl
  obtain ⟨v, hb, _⟩ := h.ring.ex
  exact absurd (blk_typ h.st hb) (by decide)
theorem StoreAt.sg {w : World} {s b cnt : Nat} {g : Option Nat} {L : List Sam} (h : StoreAt w s b g cnt L) : g ≠ some s := by
  intro hg
  obtain ⟨v, _, ho⟩ := h.ring.ex
  obtain ⟨c, hc⟩ := ho.blk hg
  exact absurd (blk_typ h.st hc) (by decide)
theorem StoreAt.chg0 {w w' : World} {s b cnt : Nat} {g : Option Nat} {L : List Sam} (h : StoreAt w s b g cnt L) (c : Chg (fun _ => False) w w') : StoreAt w' s b g cnt L := ⟨h.st.chg c (fun h => h), h.ring.chg0 c⟩
theorem samc_len (L : List Sam) : ∀ x ∈ L.map samc, x.length = 4 := by
  intro x hx
  obtain ⟨y, _, rfl⟩ := List.mem_map.1 hx
  rfl
theorem rpush_map {α β : Type} (f : α → β) (m : Nat) (L : List α) (x : α) : rpush m (L.map f) (f x) = (rpush m L x).map f := by
  unfold rpush
  rw [List.length_map]
  split <;> simp

set_option maxRecDepth 100000 in
theorem storeNew (w : World) : Calls Try.prog 20 #[] w fun e w' => ∃ s b, e = .returned (.pointer (some ⟨s, 0, none⟩)) ∧ StoreAt w' s b none 0 [] ∧ w.heap.size ≤ s ∧ w.heap.size ≤ b ∧ Chg (fun _ => False) w w' := by
  go_enter Try.func20, Try.ntmps20
  go_wp2_with fail
  refine (new_sam 8 (by omega) (by omega) w).mono ?_
  rintro e w1 ⟨rfl, r1, c1⟩
  have s1 := c1.size
  have S : StoreAt (w1.alloc (Obj.cells #[Value.pointer (some { block := w.heap.size, off := 0 })] 94)) w1.heap.size w.heap.size none 0 [] := ⟨Blk.new _ _ _, r1.chg0 (chg0_alloc _ _)⟩
  have C := c1.alloc (Obj.cells #[Value.pointer (some { block := w.heap.size, off := 0 })] 94)
  clear r1 c1
  go_wp2_with fail
  go_ret
  exact ⟨_, _, rfl, S, s1, Nat.le_refl _, C⟩

def StoreAdded (w : World) (s b : Nat) (g : Option Nat) (cnt : Nat) (L : List Sam) (x : Sam) (w' : World) : Prop :=
  ∃ k, StoreAt w' s b (some k) (cnt + 1) (rpush 8 L x) ∧ Chg (fun j => j = b ∨ g = some j) w w' ∧ (g = some k ∨ w.heap.size ≤ k)

set_option maxRecDepth 100000 in
set_option maxHeartbeats 800000 in
theorem storeAdd (s b : Nat) (g : Option Nat) (cnt : Nat) (L : List Sam) (o d t l : Int) (w : World) (h : StoreAt w s b g cnt L) (hc : cnt < 1000000) :
    Calls Try.prog 22 #[.pointer (some ⟨s, 0, none⟩), .agg #[.int .i64 o, .int .i64 d, .int .i64 t, .int .i64 l]] w fun e w' => e = .returned (.int .i64 0) ∧ StoreAdded w s b g cnt L ⟨o, d, t, l⟩ w' := by
  have cs := chg0_alloc w (Obj.cells #[Value.int .i64 o, Value.int .i64 d, Value.int .i64 t, Value.int .i64 l] 28)
  have h1 := h.chg0 cs
  have c0 := h1.st.cell 0
  simp at c0
  have bx := Blk.new w 28 #[Value.int .i64 o, Value.int .i64 d, Value.int .i64 t, Value.int .i64 l]
  have x0 : (w.alloc (Obj.cells #[Value.int .i64 o, Value.int .i64 d, Value.int .i64 t, Value.int .i64 l] 28)).cell? ⟨w.heap.size, 0, none⟩ = some (.int .i64 o) := bx.cell 0
  have x1 : (w.alloc (Obj.cells #[Value.int .i64 o, Value.int .i64 d, Value.int .i64 t, Value.int .i64 l] 28)).cell? ⟨w.heap.size, 1, none⟩ = some (.int .i64 d) := bx.cell 1
  have x2 : (w.alloc (Obj.cells #[Value.int .i64 o, Value.int .i64 d, Value.int .i64 t, Value.int .i64 l] 28)).cell? ⟨w.heap.size, 2, none⟩ = some (.int .i64 t) := bx.cell 2
  have x3 : (w.alloc (Obj.cells #[Value.int .i64 o, Value.int .i64 d, Value.int .i64 t, Value.int .i64 l] 28)).cell? ⟨w.heap.size, 3, none⟩ = some (.int .i64 l) := bx.cell 3
  have H1 := Lib.hid h1
  have HC := Lib.hid cs
  clear h h1 cs bx
  go_enter Try.func22, Try.ntmps22
  go_upto_region 3 with (fail)
  generalize w.alloc (Obj.cells #[Value.int .i64 o, Value.int .i64 d, Value.int .i64 t, Value.int .i64 l] 28) = W0 at *
  go_region_with (first | (go_at_call 48; refine (add_sam b g 8 cnt _ o d t l _ (H1.out.ring.chg0 (chg0_drew _)) (by omega) (by omega) hc).mono ?_; rintro e w2 ⟨rfl, k, r2, c2, hk⟩))
  all_goals (
    have A : StoreAdded w s b g cnt L ⟨o, d, t, l⟩ w2 := by
      have sb := H1.out.sb
      have sg := H1.out.sg
      have hz := HC.out.size
      refine ⟨k, ⟨(H1.out.st.drew).chg c2 (fun h => h.elim (fun h => sb h) (fun h => sg h)), ?_⟩, ((HC.out.mono (fun _ _ h => h.elim)).drew).trans c2, ?_⟩
      · rw [← rpush_map]; exact r2
      · rcases hk with hk | hk
        · exact .inl hk
        · exact .inr (Nat.le_trans hz hk)
    clear r2 c2 hk
    go_wp2_with fail
    go_ret
    exact ⟨rfl, A⟩)

set_option maxRecDepth 100000 in
theorem storeAddNil (o d t l : Int) (w : World) :
    Calls Try.prog 22 #[.pointer none, .agg #[.int .i64 o, .int .i64 d, .int .i64 t, .int .i64 l]] w fun e w' => e = .returned (.int .i64 1) ∧ Chg (fun _ => False) w w' := by
  go_enter Try.func22, Try.ntmps22
  go_wp2_with fail
  go_ret
  exact ⟨rfl, (Chg.refl _ w).alloc _⟩

set_option maxRecDepth 100000 in
theorem storeAll (s b : Nat) (g : Option Nat) (cnt : Nat) (L : List Sam) (w : World) (h : StoreAt w s b g cnt L) :
    Calls Try.prog 25 #[.pointer (some ⟨s, 0, none⟩)] w (Cloned 28 4 w (L.map samc)) := by
  have c0 := h.st.cell 0
  simp at c0
  have H := Lib.hid h
  clear h
  go_enter Try.func25, Try.ntmps25
  go_wp2_with fail
  refine (all_sam b g 8 cnt _ w H.out.ring (by omega)).mono ?_
  rintro e w' ⟨a', cap', g', rfl, K⟩
  go_wp2_with fail
  go_ret
  exact ⟨a', cap', g', by rw [List.length_map]; rfl, K⟩

theorem storeAllNil (w : World) : Calls Try.prog 25 #[.pointer none] w fun e w' => e = .returned (.slice none 0 0) ∧ w = w' := by
  go_enter Try.func25, Try.ntmps25
  go_wp2
  go_ret
  exact ⟨rfl, rfl⟩

set_option maxRecDepth 100000 in
theorem storeClear (s b : Nat) (g : Option Nat) (cnt : Nat) (L : List Sam) (w : World) (h : StoreAt w s b g cnt L) :
    Calls Try.prog 29 #[.pointer (some ⟨s, 0, none⟩)] w fun e w' => e = .returned (.tuple #[]) ∧ StoreAt w' s b none cnt [] ∧ Chg (fun k => k = b) w w' := by
  have c0 := h.st.cell 0
  simp at c0
  have H := Lib.hid h
  clear h
  go_enter Try.func29, Try.ntmps29
  go_wp2_with fail
  refine (clear_sam b g 8 cnt _ w H.out.ring).mono ?_
  rintro e w' ⟨rfl, r1, c1⟩
  have S : StoreAt w' s b none cnt [] := ⟨H.out.st.chg c1 H.out.sb, r1⟩
  clear r1
  go_wp2_with fail
  go_end0
  exact ⟨rfl, S, c1⟩

theorem storeClearNil (w : World) : Calls Try.prog 29 #[.pointer none] w fun e w' => e = .returned (.tuple #[]) ∧ w = w' := by
  go_enter Try.func29, Try.ntmps29
  go_wp2
  go_end0
  exact ⟨rfl, rfl⟩
end Go.Proofs.Ytnfnonphccnbkaa
