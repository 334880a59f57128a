/- The document's examples of package median hold. -/
import Derived.Test.YtiflogohalceaaaGreatMed
import Derived.Test.YtiflogohalceaaaGreatMost
set_option linter.unusedVariables false
namespace Go.Chron
open Go Go.RowKit
theorem Blk.reads {α : Type} {w : World} {g : Nat} {t : TypeId} {cs : Array Value} (h : Blk w g t cs) (zs : List α) (f : α → Value) (hc : cs.toList = zs.map f) : Reads w 1 (some ⟨g, 0, none⟩) (zs.map fun z => [f z]) := by
  intro hp
  refine ⟨g, 0, rfl, fun i x hx j u hu => ?_⟩
  rw [List.getElem?_map] at hx
  cases hz : zs[i]? with
  | none => rw [hz] at hx; cases hx
  | some z =>
    rw [hz] at hx
    simp only [Option.map_some, Option.some.injEq] at hx
    subst hx
    have hj : j = 0 := by
      cases j with
      | zero => rfl
      | succ j => simp at hu
    subst hj
    simp at hu
    subst hu
    rw [Nat.zero_add, Nat.mul_one, Nat.add_zero, h.cell, ← Array.getElem?_toList, hc, List.getElem?_map, hz]
    rfl
theorem medS_iff {l : List (List UInt8)} (hl : l ≠ []) (v : List UInt8) : medS l = v ↔ loOf sle l v ≤ (l.length - 1) / 2 ∧ (l.length - 1) / 2 < upOf sle l v := by
  have : 0 < l.length := List.length_pos_iff.2 hl
  rw [← sel_iff ord_str (by omega) v, medS_get hl]
  simp
theorem med_519 : medOf [5, 1, 9] = 5 := (med_iff (by simp) 5).2 (by decide)
theorem med_5197 : medS [[53], [49], [57], [55]] = [53] := (medS_iff (by simp) [53]).2 (by decide)
end Go.Chron
namespace Go.Proofs.YtiflogohalceaaaGreat
open Go.RowKit Go.Chron

set_option maxRecDepth 100000 in
set_option maxHeartbeats 1600000 in
theorem alive4 (w : World) : Calls Tryz.prog 4 #[] w fun e w' => e = .returned (.bool true) ∧ Chg (fun _ => False) w w' := by
  go_enter Tryz.func4, Tryz.ntmps4
  go_wp2_with fail
  have b1 := Blk.new w 3 #[Value.int IntKind.i64 5, Value.int IntKind.i64 1, Value.int IntKind.i64 9]
  refine (of_int (some ⟨w.heap.size, 0, none⟩) 3 3 [5, 1, 9] _ rfl (by simp) (b1.reads [5, 1, 9] (Value.int .i64) rfl) (by simp)).mono ?_
  rintro e w1 ⟨rfl, c1⟩
  rw [med_519]
  have c1' : Chg (fun _ => False) w w1 := (chg0_alloc w _).trans c1
  clear c1 b1
  go_wp2_with fail
  have b2 := Blk.new w1 9 #[Value.string { data := #[53] }, Value.string { data := #[49] }, Value.string { data := #[57] }, Value.string { data := #[55] }]
  refine (of_str (some ⟨w1.heap.size, 0, none⟩) 4 4 [[53], [49], [57], [55]] _ rfl (by simp) (b2.reads [[53], [49], [57], [55]] encStr rfl) (by simp)).mono ?_
  rintro e w2 ⟨rfl, c2⟩
  rw [med_5197]
  have c3 := (c1'.alloc _).trans c2
  clear c1' c2 b2
  go_wp2_with fail
  go_ret
  exact ⟨rfl, c3⟩
end Go.Proofs.YtiflogohalceaaaGreat
