/- slices.Sort at float64, of small whole numbers: the encoding, and cmp.Less. -/
import Derived.Test.YtiflogohalceaaaGreatFlt
import Derived.Test.YtiflogohalceaaaGreatS0
set_option linter.unusedVariables false
set_option linter.unusedSectionVars false
namespace Go.Proofs.YtiflogohalceaaaGreat
open Go.RowKit Go.Sort Go.Chron

noncomputable abbrev encF : Int → Value := fun l => Value.float .f64 (fb l)
theorem run_store_F (n : Nat) (a : Addr) (m : Mode) (w : World) : Sem.run Tryz.prog (store a (Value.float .f64 n) m) w = stored Tryz.prog w a (Value.float .f64 n) m := run_store _ w a _ m rfl
theorem run_lssF (x y : Int) (w : World) : Sem.run Tryz.prog (binOp .lss 28 (Value.float .f64 (fb x)) (Value.float .f64 (fb y))) w = .ok (.bool (ltC x y)) w := by
  rw [← fb_lt]
  simp [binOp, Op.floatCmp, FloatKind.format]
theorem run_eqlF (x y : Int) (w : World) : Sem.run Tryz.prog (binOp .eql 28 (Value.float .f64 (fb x)) (Value.float .f64 (fb y))) w = .ok (.bool (decide (cl x = cl y))) w := by
  rw [← fb_eq]
  simp [binOp, Op.floatCmp, FloatKind.format]
theorem run_neqF (x : Int) (w : World) : Sem.run Tryz.prog (binOp .neq 28 (Value.float .f64 (fb x)) (Value.float .f64 (fb x))) w = .ok (.bool false) w := by
  have h : (Ieee.double.order (fb x) (fb x) == some .eq) = true := by rw [fb_eq]; simp
  have h2 : Ieee.double.order (fb x) (fb x) = some .eq := by simpa using h
  simp [binOp, Op.floatCmp, FloatKind.format, h2]
set_option maxHeartbeats 1000000 in
theorem cmp_isNaN_F (x : Int) (w : World) : Calls Tryz.prog 90 #[.float .f64 (fb x)] w fun e w' => e = .returned (.bool false) ∧ w' = w := by
  have h := run_neqF x
  go_enter Tryz.func90, Tryz.ntmps90
  go_wp2
  go_ret
  exact ⟨rfl, rfl⟩
set_option maxHeartbeats 1000000 in
theorem cmp_Less_F (x y : Int) (w : World) : Calls Tryz.prog 51 #[.float .f64 (fb x), .float .f64 (fb y)] w fun e w' => e = .returned (.bool (ltC x y)) ∧ w' = w := by
  have h := run_lssF x y
  go_enter Tryz.func51, Tryz.ntmps51
  go_wp2_with (go_at_call 90; refine (cmp_isNaN_F _ _).mono ?_; rintro e w' ⟨rfl, rfl⟩)
  go_ret
  exact ⟨rfl, rfl⟩
end Go.Proofs.YtiflogohalceaaaGreat
