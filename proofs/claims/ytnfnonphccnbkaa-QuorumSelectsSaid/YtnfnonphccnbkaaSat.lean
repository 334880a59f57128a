/- Sums that stop at the ends: what sat.Sub and the document's Sub answer. -/
import Derived.Test.YtnfnonphccnbkaaMost
set_option linter.unusedVariables false
namespace Go.Chron
open Go Go.RowKit
def satSub (a b : Int) : Int := if 9223372036854775807 < a - b then 9223372036854775807 else if a - b < -9223372036854775808 then -9223372036854775808 else a - b

def In64 (a : Int) : Prop := -9223372036854775808 ≤ a ∧ a ≤ 9223372036854775807
theorem satSub_in (a b : Int) : In64 (satSub a b) := by unfold satSub In64; repeat' split <;> omega
theorem in64_wf {a : Int} (h : In64 a) : (Lit.int .i64 a).wf = true := by
  simp only [Lit.wf, IntKind.min, IntKind.max, IntKind.signed, IntKind.bits, Bool.and_eq_true, decide_eq_true_eq, if_true]
  exact ⟨by have := h.1; simpa using this, by have := h.2; simp; omega⟩
theorem wf_in64 {a : Int} (h : (Lit.int .i64 a).wf = true) : In64 a := by
  simp only [Lit.wf, IntKind.min, IntKind.max, IntKind.signed, IntKind.bits, Bool.and_eq_true, decide_eq_true_eq, if_true] at h
  obtain ⟨h1, h2⟩ := h
  simp at h1 h2
  exact ⟨by omega, by omega⟩

theorem toNat_msb (x : BitVec 64) : x.msb = decide (9223372036854775808 ≤ x.toNat) := by
  rw [BitVec.msb_eq_decide]
theorem wrap_neg (x : BitVec 64) : IntKind.i64.wrap (x.toNat : Int) < 0 ↔ x.msb = true := by
  rw [toNat_msb, decide_eq_true_eq, IntKind.wrap_i64]
  have := x.isLt
  omega
theorem ofInt_msb {a : Int} (h : In64 a) : (BitVec.ofInt 64 a).msb = decide (a < 0) := by
  obtain ⟨h1, h2⟩ := h
  rw [toNat_msb, BitVec.toNat_ofInt]
  apply decide_eq_decide.2
  omega
theorem xor_neg {a b : Int} (ha : In64 a) (hb : In64 b) : bits .xor .i64 a b < 0 ↔ ¬ ((a < 0) ↔ (b < 0)) := by
  show IntKind.i64.wrap ((BitVec.ofInt 64 a ^^^ BitVec.ofInt 64 b).toNat : Int) < 0 ↔ _
  rw [wrap_neg, BitVec.msb_xor, ofInt_msb ha, ofInt_msb hb]
  by_cases h1 : a < 0 <;> by_cases h2 : b < 0 <;> simp [h1, h2]
theorem and_neg {a b : Int} (ha : In64 a) (hb : In64 b) : bits .and .i64 a b < 0 ↔ (a < 0 ∧ b < 0) := by
  show IntKind.i64.wrap ((BitVec.ofInt 64 a &&& BitVec.ofInt 64 b).toNat : Int) < 0 ↔ _
  rw [wrap_neg, BitVec.msb_and, ofInt_msb ha, ofInt_msb hb]
  by_cases h1 : a < 0 <;> by_cases h2 : b < 0 <;> simp [h1, h2]
theorem bits_in (op : BinOp) (a b : Int) : In64 (bits op .i64 a b) := by
  unfold bits In64
  rw [IntKind.wrap_i64]
  omega
theorem wrap64_in64 (n : Int) : In64 (wrap64 n) := by unfold wrap64 In64; omega
/-- '(a^b)&(a^s) < 0' with s = a - b gone round. -/
theorem sat_test {a b : Int} (ha : In64 a) (hb : In64 b) : bits .and .i64 (bits .xor .i64 a b) (bits .xor .i64 a (wrap64 (a - b))) < 0 ↔ (9223372036854775807 < a - b ∨ a - b < -9223372036854775808) := by
  rw [and_neg (bits_in _ _ _) (bits_in _ _ _), xor_neg ha hb, xor_neg ha (wrap64_in64 _)]
  obtain ⟨a1, a2⟩ := ha
  obtain ⟨b1, b2⟩ := hb
  have hw : wrap64 (a - b) = (a - b + 9223372036854775808) % 18446744073709551616 - 9223372036854775808 := by unfold wrap64; rfl
  rw [hw]
  omega
end Go.Chron
namespace Go.Proofs.Ytnfnonphccnbkaa
open Go.RowKit Go.Chron

theorem sub54 (a b : Int) (ha : In64 a) (hb : In64 b) (w : World) : Calls Try.prog 54 #[.int .i64 a, .int .i64 b] w fun e w' => e = .returned (.int .i64 (satSub a b)) ∧ w = w' := by
  obtain ⟨a1, a2⟩ := ha
  obtain ⟨b1, b2⟩ := hb
  obtain ⟨r, hr⟩ : ∃ r, r = satSub a b := ⟨_, rfl⟩
  have HR := Lib.hid hr
  rw [← hr]
  clear hr
  by_cases h1 : b < 0
  · by_cases h2 : 9223372036854775807 + b < a
    · go_enter Try.func54, Try.ntmps54
      go_wp2
      go_ret
      rw [HR.out, show satSub a b = 9223372036854775807 by unfold satSub; rw [if_pos (by omega)]]
      exact ⟨rfl, rfl⟩
    · go_enter Try.func54, Try.ntmps54
      go_wp2
      go_ret
      rw [HR.out, show satSub a b = a - b by unfold satSub; rw [if_neg (by omega), if_neg (by omega)]]
      exact ⟨rfl, rfl⟩
  · by_cases h3 : 0 < b
    · by_cases h2 : a < -9223372036854775808 + b
      · go_enter Try.func54, Try.ntmps54
        go_wp2
        go_ret
        rw [HR.out, show satSub a b = -9223372036854775808 by unfold satSub; rw [if_neg (by omega), if_pos (by omega)]]
        exact ⟨rfl, rfl⟩
      · go_enter Try.func54, Try.ntmps54
        go_wp2
        go_ret
        rw [HR.out, show satSub a b = a - b by unfold satSub; rw [if_neg (by omega), if_neg (by omega)]]
        exact ⟨rfl, rfl⟩
    · go_enter Try.func54, Try.ntmps54
      go_wp2
      go_ret
      rw [HR.out, show satSub a b = a - b by unfold satSub; rw [if_neg (by omega), if_neg (by omega)]]
      exact ⟨rfl, rfl⟩

def endOf (a : Int) : Int := if a < 0 then -9223372036854775808 else 9223372036854775807
theorem end78 (a : Int) (ha : In64 a) (w : World) : Calls Try.prog 78 #[.int .i64 a] w fun e w' => e = .returned (.int .i64 (endOf a)) ∧ w = w' := by
  obtain ⟨a1, a2⟩ := ha
  obtain ⟨r, hr⟩ : ∃ r, r = endOf a := ⟨_, rfl⟩
  have HR := Lib.hid hr
  rw [← hr]
  clear hr
  go_enter Try.func78, Try.ntmps78
  go_wp2
  go_ret
  refine ⟨ret_int ?_, rfl⟩
  rw [HR.out]
  unfold endOf
  by_cases h : a < 0
  · rw [if_pos h, show a / 9223372036854775808 = -1 by omega]; decide
  · rw [if_neg h, show a / 9223372036854775808 = 0 by omega]; decide

theorem sub68 (a b : Int) (ha : In64 a) (hb : In64 b) (w : World) : Calls Try.prog 68 #[.int .i64 a, .int .i64 b] w fun e w' => e = .returned (.int .i64 (satSub a b)) ∧ w = w' := by
  have T := sat_test ha hb
  have HA := Lib.hid ha
  by_cases h : 9223372036854775807 < a - b ∨ a - b < -9223372036854775808
  · have T1 := T.2 h
    have hs : satSub a b = endOf a := by
      obtain ⟨a1, a2⟩ := ha
      obtain ⟨b1, b2⟩ := hb
      unfold satSub endOf
      repeat' split <;> omega
    rw [hs]
    clear hs h T hb ha
    go_enter Try.func68, Try.ntmps68
    go_wp2_with fail
    refine (end78 a HA.out w).mono ?_
    rintro e w' ⟨rfl, rfl⟩
    go_wp2_with fail
    go_ret
    exact ⟨rfl, rfl⟩
  · have T1 : ¬ _ := fun x => h (T.1 x)
    have hs : satSub a b = wrap64 (a - b) := by
      unfold satSub wrap64
      rw [if_neg (by omega), if_neg (by omega)]
      omega
    rw [hs]
    clear hs h T hb ha
    go_enter Try.func68, Try.ntmps68
    go_wp2_with fail
    go_ret
    exact ⟨rfl, rfl⟩
end Go.Proofs.Ytnfnonphccnbkaa
