/- sample.Better: one region that draws its order, of two calls, two new variables and two stores: twelve ways. -/
import Derived.Test.YtnfnonphccnbkaaSam
import Derived.Deep.RegionHeld3
set_option linter.unusedVariables false
namespace Go.Proofs.Ytnfnonphccnbkaa
open Go.RowKit Go.Chron

theorem keepSam {W0 w' : World} {b0 b1 : Nat} {o d t s o' d' t' s' : Int} (h : W0.cell? ⟨b0, 0, none⟩ = some (.int .i64 o) ∧ W0.cell? ⟨b0, 1, none⟩ = some (.int .i64 d) ∧ W0.cell? ⟨b0, 2, none⟩ = some (.int .i64 t) ∧ W0.cell? ⟨b0, 3, none⟩ = some (.int .i64 s) ∧ W0.cell? ⟨b1, 0, none⟩ = some (.int .i64 o') ∧ W0.cell? ⟨b1, 1, none⟩ = some (.int .i64 d') ∧ W0.cell? ⟨b1, 2, none⟩ = some (.int .i64 t') ∧ W0.cell? ⟨b1, 3, none⟩ = some (.int .i64 s')) (k : Chg (fun _ => False) W0 w') : (w'.cell? ⟨b0, 0, none⟩ = some (.int .i64 o) ∧ w'.cell? ⟨b0, 1, none⟩ = some (.int .i64 d) ∧ w'.cell? ⟨b0, 2, none⟩ = some (.int .i64 t) ∧ w'.cell? ⟨b0, 3, none⟩ = some (.int .i64 s) ∧ w'.cell? ⟨b1, 0, none⟩ = some (.int .i64 o') ∧ w'.cell? ⟨b1, 1, none⟩ = some (.int .i64 d') ∧ w'.cell? ⟨b1, 2, none⟩ = some (.int .i64 t') ∧ w'.cell? ⟨b1, 3, none⟩ = some (.int .i64 s')) ∧ Chg (fun _ => False) W0 w' := by
  obtain ⟨h0, h1, h2, h3, h4, h5, h6, h7⟩ := h
  exact ⟨⟨k.keep h0 id, k.keep h1 id, k.keep h2 id, k.keep h3 id, k.keep h4 id, k.keep h5 id, k.keep h6 id, k.keep h7 id⟩, k⟩
set_option maxHeartbeats 1600000 in
set_option maxRecDepth 100000 in
theorem better50 (o d t s o' d' t' s' : Int) (w : World) : Calls Try.prog 50 #[.agg #[.int .i64 o, .int .i64 d, .int .i64 t, .int .i64 s], .agg #[.int .i64 o', .int .i64 d', .int .i64 t', .int .i64 s']] w fun e w' =>
    e = .returned (.bool (btOf ⟨o, d, t, s⟩ ⟨o', d', t', s'⟩)) ∧ Chg (fun _ => False) w w' := by
  obtain ⟨r, hr⟩ : ∃ r, r = btOf ⟨o, d, t, s⟩ ⟨o', d', t', s'⟩ := ⟨_, rfl⟩
  have HR := Lib.hid hr
  rw [← hr]
  clear hr
  go_enter Try.func50, Try.ntmps50
  go_upto_region 1 with (fail)
  have hrd : ∀ (h : d ≠ d'), r = decide (d < d') := fun h => by
    rw [HR.out]; show (decide (d < d') || (decide (d = d') && decide (t' < t))) = _; rw [decide_eq_false h]; simp
  have hrt : ∀ (h : d = d'), r = decide (t' < t) := fun h => by
    rw [HR.out]; show (decide (d < d') || (decide (d = d') && decide (t' < t))) = _; rw [decide_eq_true h, decide_eq_false (by omega)]; rfl
  have HRD := Lib.hid hrd
  have HRT := Lib.hid hrt
  clear hrd hrt
  have B0 := (Blk.new w 28 #[Value.int IntKind.i64 o, Value.int IntKind.i64 d, Value.int IntKind.i64 t, Value.int IntKind.i64 s]).alloc (Obj.cells #[Value.int IntKind.i64 o', Value.int IntKind.i64 d', Value.int IntKind.i64 t', Value.int IntKind.i64 s'] 28)
  have B1 := Blk.new (w.alloc (Obj.cells #[Value.int IntKind.i64 o, Value.int IntKind.i64 d, Value.int IntKind.i64 t, Value.int IntKind.i64 s] 28)) 28 #[Value.int IntKind.i64 o', Value.int IntKind.i64 d', Value.int IntKind.i64 t', Value.int IntKind.i64 s']
  have C0 : Chg (fun _ => False) w _ := ((Chg.refl (fun _ => False) w).alloc (Obj.cells #[Value.int IntKind.i64 o, Value.int IntKind.i64 d, Value.int IntKind.i64 t, Value.int IntKind.i64 s] 28)).alloc (Obj.cells #[Value.int IntKind.i64 o', Value.int IntKind.i64 d', Value.int IntKind.i64 t', Value.int IntKind.i64 s'] 28)
  rw [World.size_alloc] at B1
  generalize (w.alloc (Obj.cells #[Value.int IntKind.i64 o, Value.int IntKind.i64 d, Value.int IntKind.i64 t, Value.int IntKind.i64 s] 28)).alloc (Obj.cells #[Value.int IntKind.i64 o', Value.int IntKind.i64 d', Value.int IntKind.i64 t', Value.int IntKind.i64 s'] 28) = W0 at *
  generalize w.heap.size = b0 at *
  generalize b0 + 1 = b1 at *
  have H : W0.cell? ⟨b0, 0, none⟩ = some (.int .i64 o) ∧ W0.cell? ⟨b0, 1, none⟩ = some (.int .i64 d) ∧ W0.cell? ⟨b0, 2, none⟩ = some (.int .i64 t) ∧ W0.cell? ⟨b0, 3, none⟩ = some (.int .i64 s) ∧ W0.cell? ⟨b1, 0, none⟩ = some (.int .i64 o') ∧ W0.cell? ⟨b1, 1, none⟩ = some (.int .i64 d') ∧ W0.cell? ⟨b1, 2, none⟩ = some (.int .i64 t') ∧ W0.cell? ⟨b1, 3, none⟩ = some (.int .i64 s') := ⟨B0.cell 0, B0.cell 1, B0.cell 2, B0.cell 3, B1.cell 0, B1.cell 1, B1.cell 2, B1.cell 3⟩
  have HH := Lib.hid H
  have HC := Lib.hid C0
  clear B0 B1 H C0
  by_cases hd : d = d'
  · go_region_held3 (fun w' => (w'.cell? ⟨b0, 0, none⟩ = some (.int .i64 o) ∧ w'.cell? ⟨b0, 1, none⟩ = some (.int .i64 d) ∧ w'.cell? ⟨b0, 2, none⟩ = some (.int .i64 t) ∧ w'.cell? ⟨b0, 3, none⟩ = some (.int .i64 s) ∧ w'.cell? ⟨b1, 0, none⟩ = some (.int .i64 o') ∧ w'.cell? ⟨b1, 1, none⟩ = some (.int .i64 d') ∧ w'.cell? ⟨b1, 2, none⟩ = some (.int .i64 t') ∧ w'.cell? ⟨b1, 3, none⟩ = some (.int .i64 s')) ∧ Chg (fun _ => False) W0 w') (refine keepSam HH.out ?_ <;> (repeat (first | (with_reducible exact Chg.refl _ _) | (with_reducible apply Chg.drewN) | (with_reducible apply Chg.drew) | (with_reducible apply Chg.alloc) | (with_reducible refine Chg.setCell ?_ (fun h => by simp at h; omega) _)))) (first | (go_at_call 66; refine (hold66x _ _ _ _ _).mono ?_; rintro e w' ⟨rfl, rfl⟩))
    all_goals (
      go_wp2_with fail
      refine (after67 t t' _).mono ?_
      rintro e w2 ⟨rfl, c2⟩
      go_wp2_with fail
      go_ret
      exact ⟨by rw [HRT.out hd]; rfl, HC.out.trans (Chg.trans (by repeat (first | (with_reducible exact Chg.refl _ _) | (with_reducible apply Chg.drewN) | (with_reducible apply Chg.drew) | (with_reducible apply Chg.alloc) | (with_reducible refine Chg.setCell ?_ (fun h => by simp at h; omega) _))) c2)⟩)
  · have hdd : (d == d') = false := by simpa using hd
    go_region_held3 (fun w' => (w'.cell? ⟨b0, 0, none⟩ = some (.int .i64 o) ∧ w'.cell? ⟨b0, 1, none⟩ = some (.int .i64 d) ∧ w'.cell? ⟨b0, 2, none⟩ = some (.int .i64 t) ∧ w'.cell? ⟨b0, 3, none⟩ = some (.int .i64 s) ∧ w'.cell? ⟨b1, 0, none⟩ = some (.int .i64 o') ∧ w'.cell? ⟨b1, 1, none⟩ = some (.int .i64 d') ∧ w'.cell? ⟨b1, 2, none⟩ = some (.int .i64 t') ∧ w'.cell? ⟨b1, 3, none⟩ = some (.int .i64 s')) ∧ Chg (fun _ => False) W0 w') (refine keepSam HH.out ?_ <;> (repeat (first | (with_reducible exact Chg.refl _ _) | (with_reducible apply Chg.drewN) | (with_reducible apply Chg.drew) | (with_reducible apply Chg.alloc) | (with_reducible refine Chg.setCell ?_ (fun h => by simp at h; omega) _)))) (first | (go_at_call 66; refine (hold66x _ _ _ _ _).mono ?_; rintro e w' ⟨rfl, rfl⟩))
    all_goals (
      go_wp2_with fail
      go_ret
      exact ⟨by rw [HRD.out hd]; rfl, HC.out.trans (by repeat (first | (with_reducible exact Chg.refl _ _) | (with_reducible apply Chg.drewN) | (with_reducible apply Chg.drew) | (with_reducible apply Chg.alloc) | (with_reducible refine Chg.setCell ?_ (fun h => by simp at h; omega) _)))⟩)
end Go.Proofs.Ytnfnonphccnbkaa
