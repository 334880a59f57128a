/- slices.Sort at uint8: the encoding, and cmp.Less. -/
import Derived.Test.YtiflogohalceaaaGreatS0
set_option linter.unusedVariables false
set_option linter.unusedSectionVars false
namespace Go.Proofs.YtiflogohalceaaaGreat
open Go.RowKit Go.Sort

abbrev encB : Int → Value := fun l => Value.int .u8 l
set_option maxHeartbeats 1000000 in
theorem cmp_isNaN_B (x : Int) (w : World) : Calls Tryz.prog 94 #[.int .u8 x] w fun e w' => e = .returned (.bool false) ∧ w' = w := by
  go_enter Tryz.func94, Tryz.ntmps94
  go_wp2
  go_ret
  exact ⟨by simp, rfl⟩
set_option maxHeartbeats 1000000 in
theorem cmp_Less_B (x y : Int) (w : World) : Calls Tryz.prog 60 #[.int .u8 x, .int .u8 y] w fun e w' => e = .returned (.bool (ltInt x y)) ∧ w' = w := by
  go_enter Tryz.func60, Tryz.ntmps60
  go_wp2_with (go_at_call 94; refine (cmp_isNaN_B _ _).mono ?_; rintro e w' ⟨rfl, rfl⟩)
  go_ret
  exact ⟨rfl, rfl⟩
end Go.Proofs.YtiflogohalceaaaGreat
