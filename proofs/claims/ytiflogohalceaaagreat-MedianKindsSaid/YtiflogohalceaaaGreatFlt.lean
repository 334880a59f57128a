/- Small whole numbers as float64: how two of them stand to each other. -/
import Ieee.Arith
import GoSem.Core.Float
import GoSem.Op.FloatCmp
import Derived.Sort.Row
import Derived.Sort.Statements
import Derived.Lib.Hide
set_option linter.unusedVariables false
namespace Go.Chron
open Go Ieee
/-- x, kept between -32768 and 32767. -/
def cl (x : Int) : Int := if x < -32768 then -32768 else if 32767 < x then 32767 else x
theorem cl_lo (x : Int) : -32768 ≤ cl x := by unfold cl; split <;> (try split) <;> omega
theorem cl_hi (x : Int) : cl x ≤ 32767 := by unfold cl; split <;> (try split) <;> omega
theorem cl_id {x : Int} (h1 : -32768 ≤ x) (h2 : x ≤ 32767) : cl x = x := by unfold cl; rw [if_neg (by omega), if_neg (by omega)]
/-- The float64 of x (chosen, so that nothing unfolds it). -/
theorem fb_ex : ∃ f : Int → Nat, ∀ x, f x = FloatKind.f64.nearest (cl x) := ⟨_, fun _ => rfl⟩
noncomputable def fb : Int → Nat := Classical.choose fb_ex
theorem fb_def (x : Int) : fb x = FloatKind.f64.nearest (cl x) := Classical.choose_spec fb_ex x
/-- What the float64 of a small number reads as. -/
theorem dbl_word : Ieee.double.signWeight = 9223372036854775808 := by decide +kernel
theorem dbl_bin : Ieee.double.binade = 4503599627370496 := by decide +kernel
theorem dbl_inf : Ieee.double.infRung = 9218868437227405312 := by decide +kernel
theorem dbl_least : Ieee.double.leastPlace = -1074 := by decide +kernel
theorem log_bits {n : Nat} (h0 : n ≠ 0) (h1 : n ≤ 32768) : n.log2 ≤ 15 ∧ 4503599627370496 ≤ n * 2 ^ (52 - n.log2) ∧ n * 2 ^ (52 - n.log2) < 9007199254740992 := by
  have l1 : 2 ^ n.log2 ≤ n := Nat.log2_self_le h0
  have l2 : n < 2 ^ (n.log2 + 1) := Nat.lt_log2_self
  have hL : n.log2 ≤ 15 := by
    rcases Nat.lt_or_ge 15 n.log2 with h | h
    · have : 2 ^ 16 ≤ 2 ^ n.log2 := Nat.pow_le_pow_right (by decide) h
      omega
    · exact h
  have a1 := Nat.mul_le_mul_right (2 ^ (52 - n.log2)) l1
  have a2 := Nat.mul_lt_mul_of_pos_right l2 (Nat.two_pow_pos (52 - n.log2))
  rw [← Nat.pow_add, show n.log2 + (52 - n.log2) = 52 by omega] at a1
  rw [← Nat.pow_add, show n.log2 + 1 + (52 - n.log2) = 53 by omega] at a2
  exact ⟨hL, a1, a2⟩
theorem cut_whole (s : Bool) (K : Nat) : Toward.even.cut s K 0 = K := by unfold Toward.cut; simp [Nat.mod_one]
theorem near_word (s : Bool) (n L K : Nat) (h0 : n ≠ 0) (hL : n.log2 = L) (h15 : L ≤ 15) (hK : n * 2 ^ (52 - L) = K) (k2 : K < 9007199254740992) : Ieee.double.nearest s n 0 = Ieee.double.word s ((L + 1022) * 4503599627370496 + K) := by
  unfold Format.nearest
  rw [if_neg h0, hL, dbl_least, dbl_bin, dbl_inf, show (double.fractionBits : Int) = 52 from rfl]
  have e1 : max ((0 : Int) + (L : Int) - 52) (-1074) = (L : Int) - 52 := by omega
  have t1 : ((0 : Int) - ((L : Int) - 52)).toNat = 52 - L := by omega
  have t2 : ((L : Int) - 52 - 0).toNat = 0 := by omega
  have t3 : ((L : Int) - 52 - -1074).toNat = L + 1022 := by omega
  simp only [e1, t1, t2, t3]
  rw [Nat.shiftLeft_eq, hK, cut_whole, Nat.min_eq_left (by omega)]
theorem read_word (s : Bool) (L K : Nat) (h15 : L ≤ 15) (k1 : 4503599627370496 ≤ K) (k2 : K < 9007199254740992) : Ieee.double.read (Ieee.double.word s ((L + 1022) * 4503599627370496 + K)) = .number s K ((L : Int) - 52) := by
  obtain ⟨R, hR⟩ : ∃ R, R = (L + 1022) * 4503599627370496 + K := ⟨_, rfl⟩
  have d1 : R % 4503599627370496 = K - 4503599627370496 := by omega
  have d2 : R / 4503599627370496 = L + 1023 := by omega
  have r1 : R < 9218868437227405312 := by omega
  have r2 : ¬ R < 4503599627370496 := by omega
  have w1 : Ieee.double.word s R / 9223372036854775808 % 2 = s.toNat := by
    unfold Format.word
    rw [dbl_word]
    cases s
    · simp; omega
    · simp; omega
  have w2 : Ieee.double.word s R % 9223372036854775808 = R := by
    unfold Format.word
    rw [dbl_word]
    cases s
    · simp; omega
    · simp; omega
  rw [← hR]
  unfold Format.read
  rw [dbl_word, dbl_bin, dbl_inf, dbl_least]
  simp only [w1, w2]
  rw [if_neg r2, if_pos r1, d1, d2]
  have e1 : 4503599627370496 + (K - 4503599627370496) = K := by omega
  have e2 : (-1074 : Int) + ((L + 1023 - 1 : Nat) : Int) = (L : Int) - 52 := by omega
  have e3 : (s.toNat == 1) = s := by cases s <;> rfl
  rw [e1, e2, e3]
theorem read_pos (s : Bool) (n : Nat) (h0 : n ≠ 0) (h1 : n ≤ 32768) : Ieee.double.read (Ieee.double.nearest s n 0) = .number s (n * 2 ^ (52 - n.log2)) ((n.log2 : Int) - 52) := by
  obtain ⟨hL, k1, k2⟩ := log_bits h0 h1
  rw [near_word s n n.log2 _ h0 rfl hL rfl k2, read_word s _ _ hL k1 k2]
theorem read_zero (s : Bool) : Ieee.double.read (Ieee.double.nearest s 0 0) = .number s 0 (-1074) := by cases s <;> decide +kernel
theorem compare_mul (x y : Int) (c : Nat) (hc : 0 < c) : compare (x * (c : Int)) (y * (c : Int)) = compare x y := by
  have hc' : (0 : Int) < (c : Int) := by omega
  have hcmp : ∀ a b : Int, compare a b = if a < b then .lt else if a = b then .eq else .gt := fun a b => rfl
  rw [hcmp, hcmp]
  have e1 : x * (c : Int) < y * (c : Int) ↔ x < y := Int.mul_lt_mul_right hc'
  have e2 : x * (c : Int) = y * (c : Int) ↔ x = y := Int.mul_eq_mul_right_iff (by omega)
  simp only [e1, e2]
/-- A datum whose value is x's, at no place below -1074. -/
theorem fb_read (x : Int) (E C : Nat) (hE : E = 1074) (hC : C = 2 ^ E) : ∃ (s : Bool) (m : Nat) (i : Int), Ieee.double.read (fb x) = .number s m i ∧ -1074 ≤ i ∧ (if s then -(m : Int) else (m : Int)) * ((2 ^ (i + 1074).toNat : Nat) : Int) = cl x * (C : Int) := by
  have h1 := cl_lo x
  have h2 := cl_hi x
  rw [fb_def]
  unfold FloatKind.nearest FloatKind.encode FloatKind.format Format.write
  simp only
  obtain ⟨n, hn⟩ : ∃ n, n = (cl x).natAbs := ⟨_, rfl⟩
  rw [← hn]
  by_cases h0 : n = 0
  · rw [h0, read_zero]
    refine ⟨_, _, _, rfl, by omega, ?_⟩
    have : cl x = 0 := by omega
    rw [this]
    cases decide ((0 : Int) < 0) <;> simp
  · rw [read_pos _ n h0 (by omega)]
    obtain ⟨hL, -, -⟩ := log_bits h0 (by omega)
    obtain ⟨L, hLe⟩ : ∃ L, L = n.log2 := ⟨_, rfl⟩
    rw [← hLe] at hL ⊢
    refine ⟨_, _, _, rfl, by omega, ?_⟩
    have t1 : ((L : Int) - 52 + 1074).toNat = L + 1022 := by omega
    have t2 : (n : Int) * ((2 ^ (52 - L) : Nat) : Int) * ((2 ^ (L + 1022) : Nat) : Int) = (n : Int) * (C : Int) := by
      rw [Int.mul_assoc, ← Int.natCast_mul, ← Nat.pow_add, show 52 - L + (L + 1022) = E by omega, ← hC]
    rw [t1]
    by_cases hs : cl x < 0
    · rw [decide_eq_true hs, if_pos rfl, Int.natCast_mul, Int.neg_mul, t2, show cl x = -(n : Int) by omega, Int.neg_mul]
    · rw [decide_eq_false hs, if_neg (by simp), Int.natCast_mul, t2, show cl x = (n : Int) by omega]
theorem signed_eq (s : Bool) (m k : Nat) : signed s m k = (if s then -(m : Int) else (m : Int)) * ((2 ^ k : Nat) : Int) := by
  unfold signed
  rw [Nat.shiftLeft_eq]
  cases s
  · rw [if_neg (by simp), if_neg (by simp), Int.natCast_mul]
  · rw [if_pos rfl, if_pos rfl, Int.natCast_mul, Int.neg_mul]
/-- HOW TWO SMALL NUMBERS' FLOATS STAND TO EACH OTHER: as the numbers do. -/
theorem fb_order (x y : Int) : Ieee.double.order (fb x) (fb y) = some (compare (cl x) (cl y)) := by
  obtain ⟨E, hE⟩ : ∃ E : Nat, E = 1074 := ⟨_, rfl⟩
  obtain ⟨C, hC⟩ : ∃ C : Nat, C = 2 ^ E := ⟨_, rfl⟩
  have hC0 : 0 < C := by rw [hC]; exact Nat.two_pow_pos _
  obtain ⟨s, m, i, e1, b1, v1⟩ := fb_read x E C hE hC
  obtain ⟨t, n, j, e2, b2, v2⟩ := fb_read y E C hE hC
  unfold Format.order Datum.order
  rw [e1, e2]
  simp only
  obtain ⟨b, hb⟩ : ∃ b, b = min i j := ⟨_, rfl⟩
  rw [← hb, signed_eq, signed_eq, ← compare_mul _ _ (2 ^ (b + 1074).toNat) (Nat.two_pow_pos _)]
  have p1 : ((2 ^ (i - b).toNat : Nat) : Int) * ((2 ^ (b + 1074).toNat : Nat) : Int) = ((2 ^ (i + 1074).toNat : Nat) : Int) := by
    rw [← Int.natCast_mul, ← Nat.pow_add, show (i - b).toNat + (b + 1074).toNat = (i + 1074).toNat by omega]
  have p2 : ((2 ^ (j - b).toNat : Nat) : Int) * ((2 ^ (b + 1074).toNat : Nat) : Int) = ((2 ^ (j + 1074).toNat : Nat) : Int) := by
    rw [← Int.natCast_mul, ← Nat.pow_add, show (j - b).toNat + (b + 1074).toNat = (j + 1074).toNat by omega]
  rw [Int.mul_assoc, Int.mul_assoc, p1, p2, v1, v2, compare_mul _ _ C hC0]
/-- Whether one is less. -/
def ltC (x y : Int) : Bool := decide (cl x < cl y)
theorem fb_lt (x y : Int) : (Ieee.double.order (fb x) (fb y) == some .lt) = ltC x y := by
  rw [fb_order]
  have hcmp : ∀ a b : Int, compare a b = if a < b then .lt else if a = b then .eq else .gt := fun a b => rfl
  rw [hcmp]
  unfold ltC
  by_cases h : cl x < cl y
  · simp [h]
  · by_cases h2 : cl x = cl y <;> simp [h, h2]
theorem fb_eq (x y : Int) : (Ieee.double.order (fb x) (fb y) == some .eq) = decide (cl x = cl y) := by
  rw [fb_order]
  have hcmp : ∀ a b : Int, compare a b = if a < b then .lt else if a = b then .eq else .gt := fun a b => rfl
  rw [hcmp]
  by_cases h : cl x < cl y
  · have : ¬ cl x = cl y := by omega
    simp [h, this]
  · by_cases h2 : cl x = cl y <;> simp [h, h2]
theorem swo_ltC : Sort.SWO ltC := by
  refine ⟨fun x => ?_, fun x y z h1 h2 => ?_, fun x y z h1 h2 => ?_⟩
  · unfold ltC; simp
  · unfold ltC at *; simp at *; omega
  · unfold ltC at *; simp at *; omega
end Go.Chron
