/- math/bits.LeadingZeros64, Div64: contracts. -/
import Derived.Test.YtamhicdhbjniiaaGreatDoorM07
import Derived.Test.YtamhicdhbjniiaaGreatDoorM01
import Derived.Laws.Bits64
import Derived.Laws.Bits64b
import Derived.Lib.ItoaNum
set_option linter.unusedVariables false
set_option maxHeartbeats 3200000
set_option maxRecDepth 100000
section
set_option linter.unusedSectionVars false
namespace Go.Chron
open Go
theorem norm_of {y : Nat} (h0 : 0 < y) (h1 : y < 18446744073709551616) : ∃ s : Nat, s ≤ 63 ∧ (64 : Int) - (Lib.bitLen y : Int) = s ∧ 9223372036854775808 ≤ y * 2 ^ s ∧ y * 2 ^ s < 18446744073709551616 := by
 obtain ⟨b1, b2, b3⟩ := Lib.bitLenAux_bounds 64 y h1 (by omega)
 have b4 := Lib.bitLen_le y 64 (Nat.le_refl _) h1
 obtain ⟨n, hn⟩ : ∃ n, n = Lib.bitLen y := ⟨_, rfl⟩
 have hn' : Lib.bitLenAux 64 y = n := hn.symm
 rw [hn'] at b1 b2 b3
 rw [← hn] at b4 ⊢
 refine ⟨64 - n, by omega, by omega, ?_, ?_⟩
 ·have := Nat.mul_le_mul_right (2 ^ (64 - n)) b2
  rw [← Nat.pow_add, show n - 1 + (64 - n) = 63 by omega] at this
  exact this
 ·have := Nat.mul_lt_mul_of_pos_right b3 (Nat.two_pow_pos (64 - n))
  rw [← Nat.pow_add, show n + (64 - n) = 64 by omega] at this
  exact this
theorem or_parts {A B s : Nat} (hA : ∃ k, A = k * 2 ^ s) (hB : B < 2 ^ s) : A ||| B = A + B := by
 obtain ⟨k, rfl⟩ := hA
 rw [← Nat.shiftLeft_eq, Nat.shiftLeft_add_eq_or_of_lt hB]
theorem moved {hi lo s : Nat} (hs : s ≤ 63) (hlo : lo < 18446744073709551616) : (hi * 18446744073709551616 + lo) * 2 ^ s = (hi * 2 ^ s + lo / 2 ^ (64 - s)) * 18446744073709551616 + lo * 2 ^ s % 18446744073709551616 ∧ lo / 2 ^ (64 - s) < 2 ^ s := by
 have e1 : lo * 2 ^ s / 18446744073709551616 = lo / 2 ^ (64 - s) := by
  rw [show (18446744073709551616 : Nat) = 2 ^ (64 - s) * 2 ^ s by rw [← Nat.pow_add, show 64 - s + s = 64 by omega]]
  exact Nat.mul_div_mul_right _ _ (Nat.two_pow_pos s)
 have e2 := Nat.div_add_mod (lo * 2 ^ s) 18446744073709551616
 rw [e1] at e2
 constructor
 ·have e3 : (hi * 18446744073709551616 + lo) * 2 ^ s = hi * 2 ^ s * 18446744073709551616 + lo * 2 ^ s := by
   rw [Nat.add_mul, Nat.mul_right_comm]
  rw [e3, Nat.add_mul]
  omega
 ·refine (Nat.div_lt_iff_lt_mul (Nat.two_pow_pos _)).2 ?_
  rw [← Nat.pow_add, show s + (64 - s) = 64 by omega]
  exact hlo
def divIdx (v : Value) : Nat := match v with | .int _ k => k.toNat | _ => 0
end Go.Chron
namespace Go.Proofs.YtamhicdhbjniiaaGreatDoor
open Go.RowKit Go.Chron
theorem lead215 (x : Nat) (hx : x < 18446744073709551616) (w : World) : Calls Tryz.prog 215 #[.int .u64 x] w fun e w' => e = .returned (.int .i64 (64 - (Lib.bitLen x : Int))) ∧ w = w' := by
 have h := bits_Len64 (x : Int) w (by omega) (by omega)
 rw [Int.toNat_natCast] at h
 have H := Lib.hid h
 have hb : Lib.bitLen x ≤ 64 := Lib.bitLen_le x 64 (Nat.le_refl _) hx
 clear h
 go_enter Tryz.func215, Tryz.ntmps215
 go_wp2_with fail
 refine H.out.mono ?_
 rintro e w' ⟨rfl, rfl⟩
 go_wp2_with fail
 go_ret
 exact ⟨rfl, rfl⟩
theorem div191 (hi lo y : Nat) (hy : hi < y) (hy2 : y < 18446744073709551616) (hlo : lo < 18446744073709551616) (w : World) :
  Calls Tryz.prog 191 #[.int .u64 hi, .int .u64 lo, .int .u64 y] w fun e w' => e = .returned (.tuple #[.int .u64 ((hi * 18446744073709551616 + lo) / y : Nat), .int .u64 ((hi * 18446744073709551616 + lo) % y : Nat)]) ∧ Chg (fun _ => False) w w' := by
 by_cases h0 : hi = 0
 ·subst h0
  rw [Nat.zero_mul, Nat.zero_add]
  obtain ⟨Q, hQ⟩ : ∃ Q, Q = lo / y := ⟨_, rfl⟩
  obtain ⟨R, hR⟩ : ∃ R, R = lo % y := ⟨_, rfl⟩
  have q1 : (lo : Int) / (y : Int) = (Q : Int) := by rw [hQ]; rfl
  have q2 : (lo : Int) % (y : Int) = (R : Int) := by rw [hR]; rfl
  have hy0 : ((y : Int) == 0) = false := by rw [beq_eq_false_iff_ne]; omega
  have hy1 : ¬ ((y : Int) = 0) := by omega
  rw [← hQ, ← hR]
  have q3 : (lo : Int).tdiv (y : Int) = (Q : Int) := by rw [Int.tdiv_eq_ediv_of_nonneg (by omega)]; exact q1
  have q4 : (lo : Int).tmod (y : Int) = (R : Int) := by rw [Int.tmod_eq_emod_of_nonneg (by omega)]; exact q2
  have q5 : IntKind.u64.wrap (Q : Int) = (Q : Int) := by
   have : Q ≤ lo := by rw [hQ]; exact Nat.div_le_self _ _
   rw [IntKind.wrap_u64]; omega
  clear hQ hR
  go_enter Tryz.func191, Tryz.ntmps191
  go_wp2_with fail
  go_quiet (fail)
  go_wp2_with fail
  go_ret2
  exact ⟨by simp, chg0_drewN _ _⟩
 ·obtain ⟨s, hs63, hs, n1, n2⟩ := norm_of (y := y) (by omega) hy2
  have h := lead215 y hy2 w
  rw [hs] at h
  have H := Lib.hid h
  have h0' : ((hi : Int) == 0) = false := by rw [beq_eq_false_iff_ne]; omega
  obtain ⟨m1, m2⟩ := moved (hi := hi) hs63 hlo
  obtain ⟨d1', d2'⟩ := shifted (y := y) (by omega) m1
  obtain ⟨Y, hY⟩ : ∃ Y, Y = y * 2 ^ s := ⟨_, rfl⟩
  obtain ⟨A, hA⟩ : ∃ A, A = hi * 2 ^ s := ⟨_, rfl⟩
  obtain ⟨B, hB⟩ : ∃ B, B = lo / 2 ^ (64 - s) := ⟨_, rfl⟩
  obtain ⟨V, hV⟩ : ∃ V, V = lo * 2 ^ s % 18446744073709551616 := ⟨_, rfl⟩
  have hAY : A + 2 ^ s ≤ Y := by
   rw [hA, hY, ← Nat.succ_mul]
   exact Nat.mul_le_mul_right _ hy
  have hor : A ||| B = A + B := or_parts ⟨hi, hA⟩ (by rw [hB]; exact m2)
  rw [← hB] at m2
  rw [← hA, ← hB, ← hV, ← hY] at d1' d2'
  rw [← hY] at n1 n2
  have f1 : IntKind.u64.wrap ((y : Int) * 2 ^ s) = (Y : Int) := by
   rw [show (y : Int) * 2 ^ s = ((y * 2 ^ s : Nat) : Int) by push_cast; rfl, ← hY, IntKind.wrap_u64]; omega
  have f2 : IntKind.u64.wrap ((hi : Int) * 2 ^ s) = (A : Int) := by
   rw [show (hi : Int) * 2 ^ s = ((hi * 2 ^ s : Nat) : Int) by push_cast; rfl, ← hA, IntKind.wrap_u64]; omega
  have f3 : (lo : Int) / 2 ^ (64 - s) = (B : Int) := by rw [hB]; push_cast; rfl
  have f4 : IntKind.u64.wrap ((lo : Int) * 2 ^ s) = (V : Int) := by
   rw [show (lo : Int) * 2 ^ s = ((lo * 2 ^ s : Nat) : Int) by push_cast; rfl, IntKind.wrap_u64, hV]; omega
  obtain ⟨U, hU⟩ : ∃ U, U = A + B := ⟨_, rfl⟩
  rw [← hU] at d1' d2'
  have f5 : bits .or .u64 (A : Int) (B : Int) = (U : Int) := by rw [bits_or_u64_nat _ _ (by omega) (by omega), hor, hU]
  have hUY : U < Y := by omega
  have hV2 : V < 18446744073709551616 := by rw [hV]; exact Nat.mod_lt _ (by decide)
  obtain ⟨a, ha⟩ : ∃ a, a = Y / 4294967296 := ⟨_, rfl⟩
  obtain ⟨b, hb⟩ : ∃ b, b = Y % 4294967296 := ⟨_, rfl⟩
  obtain ⟨v1, hv1⟩ : ∃ v1, v1 = V / 4294967296 := ⟨_, rfl⟩
  obtain ⟨v0, hv0⟩ : ∃ v0, v0 = V % 4294967296 := ⟨_, rfl⟩
  have g1 : (Y : Int) / 4294967296 = (a : Int) := by omega
  have g2 : (V : Int) / 4294967296 = (v1 : Int) := by omega
  have g3 : bits .and .u64 (Y : Int) 4294967295 = (b : Int) := by
   have := bits_and_u64_nat Y 4294967295 (by omega) (by omega)
   rw [show (4294967295 : Nat) = 2 ^ 32 - 1 by rfl, Nat.and_two_pow_sub_one_eq_mod, ← hb] at this
   exact this
  have g4 : bits .and .u64 (V : Int) 4294967295 = (v0 : Int) := by
   have := bits_and_u64_nat V 4294967295 (by omega) (by omega)
   rw [show (4294967295 : Nat) = 2 ^ 32 - 1 by rfl, Nat.and_two_pow_sub_one_eq_mod, ← hv0] at this
   exact this
  have ha1 : 2147483648 ≤ a ∧ a < 4294967296 := by omega
  have hb1 : b < 4294967296 := by omega
  have hv11 : v1 < 4294967296 := by omega
  have hv01 : v0 < 4294967296 := by omega
  have hYe : Y = a * 4294967296 + b := by omega
  have hVe : V = v1 * 4294967296 + v0 := by omega
  obtain ⟨Q1, hQ1⟩ : ∃ Q1, Q1 = (U * 4294967296 + v1) / Y := ⟨_, rfl⟩
  obtain ⟨R1, hR1⟩ : ∃ R1, R1 = (U * 4294967296 + v1) % Y := ⟨_, rfl⟩
  obtain ⟨Q0, hQ0⟩ : ∃ Q0, Q0 = (R1 * 4294967296 + v0) / Y := ⟨_, rfl⟩
  have hR1Y : R1 < Y := by rw [hR1]; exact Nat.mod_lt _ (by omega)
  have D1 : Digit U Y v1 a b Q1 := ⟨hYe, ha1.1, ha1.2, hb1, hUY, hv11, hQ1⟩
  have D0 : Digit R1 Y v0 a b Q0 := ⟨hYe, ha1.1, ha1.2, hb1, hR1Y, hv01, hQ0⟩
  obtain ⟨t1, t2⟩ := two_digits (B := 4294967296) (U := U) (Y := Y) (d1 := v1) (d0 := v0) (by omega) hQ1 hR1 hQ0
  rw [show (4294967296 : Nat) * 4294967296 = 18446744073709551616 by rfl, ← hVe] at t1 t2
  rw [d1', d2', t1, t2]
  have hR1e : U * 4294967296 + v1 = Q1 * Y + R1 := by rw [hQ1, hR1, Nat.mul_comm (_ / _) Y]; exact (Nat.div_add_mod _ _).symm
  obtain ⟨R0, hR0⟩ : ∃ R0, R0 = (R1 * 4294967296 + v0) % Y := ⟨_, rfl⟩
  have hR0e : R1 * 4294967296 + v0 = Q0 * Y + R0 := by rw [hQ0, hR0, Nat.mul_comm (_ / _) Y]; exact (Nat.div_add_mod _ _).symm
  have hR0Y : R0 < Y := by rw [hR0]; exact Nat.mod_lt _ (by omega)
  rw [← hR0]
  obtain ⟨q, hq⟩ : ∃ q, q = U / a := ⟨_, rfl⟩
  have k1 : (U : Int) / (a : Int) = (q : Int) := by rw [hq]; rfl
  have k1' : (U : Int).tdiv (a : Int) = (q : Int) := by rw [Int.tdiv_eq_ediv_of_nonneg (by omega)]; exact k1
  have ha0 : ¬ ((a : Int) = 0) := by omega
  have hY0 : (Y : Int) = a * 4294967296 + b := by omega
  obtain ⟨gu1, gu2⟩ := D1.guess
  rw [← hq] at gu1 gu2
  have hqe : q * a + U % a = U := by rw [hq, Nat.mul_comm]; exact Nat.div_add_mod _ _
  have hra : U % a < a := Nat.mod_lt _ (by omega)
  obtain ⟨r, hr⟩ : ∃ r, r = U % a := ⟨_, rfl⟩
  rw [← hr] at hqe hra
  have k2 : IntKind.u64.wrap ((U : Int) - IntKind.u64.wrap ((q : Int) * (a : Int))) = (r : Int) := by
   rw [show (q : Int) * (a : Int) = ((q * a : Nat) : Int) by push_cast; rfl, IntKind.wrap_u64, IntKind.wrap_u64]; omega
  -- what follows the first digit
  have x1 : IntKind.u64.wrap ((U : Int) * 4294967296) = ((U * 4294967296 % 18446744073709551616 : Nat) : Int) := by rw [IntKind.wrap_u64]; omega
  obtain ⟨X1, hX1⟩ : ∃ X1, X1 = U * 4294967296 % 18446744073709551616 := ⟨_, rfl⟩
  rw [← hX1] at x1
  have x2 : IntKind.u64.wrap ((X1 : Int) + (v1 : Int)) = (((X1 + v1) % 18446744073709551616 : Nat) : Int) := by rw [IntKind.wrap_u64]; omega
  obtain ⟨X2, hX2⟩ : ∃ X2, X2 = (X1 + v1) % 18446744073709551616 := ⟨_, rfl⟩
  rw [← hX2] at x2
  obtain ⟨P1, hP1⟩ : ∃ P1, P1 = Q1 * Y := ⟨_, rfl⟩
  have x3 : IntKind.u64.wrap ((Q1 : Int) * (Y : Int)) = ((P1 % 18446744073709551616 : Nat) : Int) := by
   rw [show (Q1 : Int) * (Y : Int) = ((Q1 * Y : Nat) : Int) by push_cast; rfl, ← hP1, IntKind.wrap_u64]; omega
  obtain ⟨X3, hX3⟩ : ∃ X3, X3 = P1 % 18446744073709551616 := ⟨_, rfl⟩
  rw [← hX3] at x3
  rw [← hP1] at hR1e
  have x4 : IntKind.u64.wrap ((X2 : Int) - (X3 : Int)) = (R1 : Int) := by rw [IntKind.wrap_u64]; omega
  obtain ⟨q3, hq3⟩ : ∃ q3, q3 = R1 / a := ⟨_, rfl⟩
  have x5 : (R1 : Int) / (a : Int) = (q3 : Int) := by rw [hq3]; rfl
  obtain ⟨gv1, gv2⟩ := D0.guess
  rw [← hq3] at gv1 gv2
  have hqe3 : q3 * a + R1 % a = R1 := by rw [hq3, Nat.mul_comm]; exact Nat.div_add_mod _ _
  have hra2 : R1 % a < a := Nat.mod_lt _ (by omega)
  obtain ⟨r3, hr3⟩ : ∃ r3, r3 = R1 % a := ⟨_, rfl⟩
  rw [← hr3] at hqe3 hra2
  have x6 : IntKind.u64.wrap ((R1 : Int) - IntKind.u64.wrap ((q3 : Int) * (a : Int))) = (r3 : Int) := by
   rw [show (q3 : Int) * (a : Int) = ((q3 * a : Nat) : Int) by push_cast; rfl, IntKind.wrap_u64, IntKind.wrap_u64]; omega
  -- what follows the second digit
  have hs1 := D1.small
  have hs0 := D0.small
  have y1 : IntKind.u64.wrap ((Q1 : Int) * 4294967296) = ((Q1 * 4294967296 : Nat) : Int) := by rw [IntKind.wrap_u64]; omega
  obtain ⟨Z1, hZ1⟩ : ∃ Z1, Z1 = Q1 * 4294967296 := ⟨_, rfl⟩
  rw [← hZ1] at y1 ⊢
  have y2 : IntKind.u64.wrap ((Z1 : Int) + (Q0 : Int)) = ((Z1 + Q0 : Nat) : Int) := by rw [IntKind.wrap_u64]; omega
  obtain ⟨Z2, hZ2⟩ : ∃ Z2, Z2 = Z1 + Q0 := ⟨_, rfl⟩
  rw [← hZ2] at y2 ⊢
  have y3 : IntKind.u64.wrap ((R1 : Int) * 4294967296) = ((R1 * 4294967296 % 18446744073709551616 : Nat) : Int) := by rw [IntKind.wrap_u64]; omega
  obtain ⟨Z3, hZ3⟩ : ∃ Z3, Z3 = R1 * 4294967296 % 18446744073709551616 := ⟨_, rfl⟩
  rw [← hZ3] at y3
  have y4 : IntKind.u64.wrap ((Z3 : Int) + (v0 : Int)) = (((Z3 + v0) % 18446744073709551616 : Nat) : Int) := by rw [IntKind.wrap_u64]; omega
  obtain ⟨Z4, hZ4⟩ : ∃ Z4, Z4 = (Z3 + v0) % 18446744073709551616 := ⟨_, rfl⟩
  rw [← hZ4] at y4
  obtain ⟨P0, hP0⟩ : ∃ P0, P0 = Q0 * Y := ⟨_, rfl⟩
  have y5 : IntKind.u64.wrap ((Q0 : Int) * (Y : Int)) = ((P0 % 18446744073709551616 : Nat) : Int) := by
   rw [show (Q0 : Int) * (Y : Int) = ((Q0 * Y : Nat) : Int) by push_cast; rfl, ← hP0, IntKind.wrap_u64]; omega
  obtain ⟨Z5, hZ5⟩ : ∃ Z5, Z5 = P0 % 18446744073709551616 := ⟨_, rfl⟩
  rw [← hZ5] at y5
  rw [← hP0] at hR0e
  have y6 : IntKind.u64.wrap ((Z4 : Int) - (Z5 : Int)) = (R0 : Int) := by rw [IntKind.wrap_u64]; omega
  obtain ⟨Z6, hZ6⟩ : ∃ Z6, Z6 = R0 / 2 ^ s := ⟨_, rfl⟩
  have y7 : (R0 : Int) / 2 ^ s = (Z6 : Int) := by rw [hZ6]; push_cast; rfl
  rw [← hZ6]
  have HD1 := Lib.hid D1
  have HD0 := Lib.hid D0
  have HR1 := Lib.hid hR1e
  have HR0 := Lib.hid hR0e
  have HG := Lib.hid gu1
  have HQE := Lib.hid hqe
  have HG2 := Lib.hid gv1
  have HQE2 := Lib.hid hqe3
  clear hs h m1 m2 d1' d2' hY hA hB hV hAY hor n1 hU ha hb hv1 hv0 hYe hVe hQ1 hR1 hQ0 D1 D0 t1 t2 hR1e hR0e hR0 hq gu1 hqe hr hY0 hX1 hX2 hP1 hX3 hq3 gv1 hqe3 hr3 hs1 hs0 hZ1 hZ2 hZ3 hZ4 hP0 hZ5 hZ6
  go_enter Tryz.func191, Tryz.ntmps191
  go_wp2_with fail
  refine H.out.mono ?_
  rintro e w' ⟨rfl, rfl⟩
  go_wp2_with fail
  go_loopw [15, 16] (fun vq vr wX => wX = w ∧ ∃ q r : Nat, vq = .int .u64 q ∧ vr = .int .u64 r ∧ Q1 ≤ q ∧ q ≤ 4294967297 ∧ q * a + r = U ∧ r < 4294967296) (fun vq _ _ => divIdx vq - Q1)
  case atStart => exact ⟨rfl, q, r, rfl, rfl, HG.out, gu2, HQE.out, by omega⟩
  case round =>
   obtain ⟨hwr, q', r', rfl, rfl, j1, j2, j3, j4⟩ := hrel
   subst hwr
   have htest := HD1.out.test j1 j3
   obtain ⟨T, hT⟩ : ∃ T, T = 4294967296 * r' := ⟨_, rfl⟩
   obtain ⟨P, hP⟩ : ∃ P, P = q' * b := ⟨_, rfl⟩
   rw [← hT, ← hP] at htest
   have p2 : IntKind.u64.wrap (4294967296 * (r' : Int)) = (T : Int) := by rw [IntKind.wrap_u64]; omega
   obtain ⟨T2, hT2⟩ : ∃ T2, T2 = T + v1 := ⟨_, rfl⟩
   rw [← hT2] at htest
   have p3 : IntKind.u64.wrap ((T : Int) + (v1 : Int)) = (T2 : Int) := by rw [IntKind.wrap_u64]; omega
   have p1 : q' < 4294967296 → IntKind.u64.wrap ((q' : Int) * (b : Int)) = (P : Int) := fun h => by
    have : q' * b ≤ 4294967296 * b := Nat.mul_le_mul_right _ (by omega)
    rw [show (q' : Int) * (b : Int) = ((q' * b : Nat) : Int) by push_cast; rfl, ← hP, IntKind.wrap_u64]; omega
   have hsm := HD1.out.small
   obtain ⟨qz, hqz⟩ : ∃ qz : Int, (q' : Int) = qz := ⟨_, rfl⟩
   obtain ⟨rz, hrz⟩ : ∃ rz : Int, (r' : Int) = rz := ⟨_, rfl⟩
   rw [hqz] at p1
   rw [hrz] at p2
   rw [hqz, hrz]
   by_cases hgt : Q1 < q'
   ·have ht := htest.1 hgt
    obtain ⟨q2, hq2⟩ : ∃ q2, q' = q2 + 1 := ⟨q' - 1, by omega⟩
    obtain ⟨r2, hr2⟩ : ∃ r2, r2 = r' + a := ⟨_, rfl⟩
    have e2 : q2 * a + r2 = U := by rw [hr2, ← j3, hq2, Nat.add_mul, Nat.one_mul]; omega
    obtain ⟨qz2, hqz2⟩ : ∃ qz2 : Int, (q2 : Int) = qz2 := ⟨_, rfl⟩
    obtain ⟨rz2, hrz2⟩ : ∃ rz2 : Int, (r2 : Int) = rz2 := ⟨_, rfl⟩
    have p4 : IntKind.u64.wrap (qz - 1) = qz2 := by rw [IntKind.wrap_u64]; omega
    have p5 : IntKind.u64.wrap (rz + (a : Int)) = rz2 := by rw [IntKind.wrap_u64]; omega
    have ht' : (T2 : Int) < (P : Int) := by omega
    have hm2 : q2 - Q1 < q' - Q1 := by omega
    have HR := Lib.hid (show rz2 < 4294967296 → (∃ q r : Nat, Value.int .u64 qz2 = .int .u64 q ∧ Value.int .u64 rz2 = .int .u64 r ∧ Q1 ≤ q ∧ q ≤ 4294967297 ∧ q * a + r = U ∧ r < 4294967296) ∧ divIdx (.int .u64 qz2) - Q1 < divIdx (.int .u64 qz) - Q1 from
     fun h => ⟨⟨q2, r2, by rw [hqz2], by rw [hrz2], by omega, by omega, e2, by omega⟩, by rw [← hqz2, ← hqz]; simpa [divIdx] using hm2⟩)
    have HS := Lib.hid (show 4294967296 ≤ rz2 → (Q1 : Int) = qz2 from fun h => by
     have := HD1.out.stop (by omega) e2 (by omega) (by omega)
     rw [← hqz2, this])
    by_cases h32 : 4294967296 ≤ q'
    ·have h32' : (4294967296 : Int) ≤ qz := by omega
     clear p1 ht ht' htest hT hP hT2 j1 j2 j3 j4 e2 hgt hq2 hr2 hqz hrz hqz2 hrz2 hm2 h32 hsm p2 p3
     by_cases hb2 : 4294967296 ≤ rz2
     ·have hQz := HS.out hb2
      have x3a := x3
      rw [hQz] at x3a
      have y1a := y1
      rw [hQz] at y1a
      clear hQz
      go_wp2_with fail
      go_loopw [18, 16] (fun vq vr wX => wX = wr ∧ ∃ q r : Nat, vq = .int .u64 q ∧ vr = .int .u64 r ∧ Q0 ≤ q ∧ q ≤ 4294967297 ∧ q * a + r = R1 ∧ r < 4294967296) (fun vq _ _ => divIdx vq - Q0)
      case atStart => exact ⟨rfl, q3, r3, rfl, rfl, HG2.out, gv2, HQE2.out, by omega⟩
      case round =>
       obtain ⟨hwr, q', r', rfl, rfl, j1, j2, j3, j4⟩ := hrel
       subst hwr
       have htest := HD0.out.test j1 j3
       obtain ⟨T, hT⟩ : ∃ T, T = 4294967296 * r' := ⟨_, rfl⟩
       obtain ⟨P, hP⟩ : ∃ P, P = q' * b := ⟨_, rfl⟩
       rw [← hT, ← hP] at htest
       have p2 : IntKind.u64.wrap (4294967296 * (r' : Int)) = (T : Int) := by rw [IntKind.wrap_u64]; omega
       obtain ⟨T2, hT2⟩ : ∃ T2, T2 = T + v0 := ⟨_, rfl⟩
       rw [← hT2] at htest
       have p3 : IntKind.u64.wrap ((T : Int) + (v0 : Int)) = (T2 : Int) := by rw [IntKind.wrap_u64]; omega
       have p1 : q' < 4294967296 → IntKind.u64.wrap ((q' : Int) * (b : Int)) = (P : Int) := fun h => by
        have : q' * b ≤ 4294967296 * b := Nat.mul_le_mul_right _ (by omega)
        rw [show (q' : Int) * (b : Int) = ((q' * b : Nat) : Int) by push_cast; rfl, ← hP, IntKind.wrap_u64]; omega
       have hsm := HD0.out.small
       obtain ⟨qz, hqz⟩ : ∃ qz : Int, (q' : Int) = qz := ⟨_, rfl⟩
       obtain ⟨rz, hrz⟩ : ∃ rz : Int, (r' : Int) = rz := ⟨_, rfl⟩
       rw [hqz] at p1
       rw [hrz] at p2
       rw [hqz, hrz]
       by_cases hgt : Q0 < q'
       ·have ht := htest.1 hgt
        obtain ⟨q2, hq2⟩ : ∃ q2, q' = q2 + 1 := ⟨q' - 1, by omega⟩
        obtain ⟨r2, hr2⟩ : ∃ r2, r2 = r' + a := ⟨_, rfl⟩
        have e2 : q2 * a + r2 = R1 := by rw [hr2, ← j3, hq2, Nat.add_mul, Nat.one_mul]; omega
        obtain ⟨qz2, hqz2⟩ : ∃ qz2 : Int, (q2 : Int) = qz2 := ⟨_, rfl⟩
        obtain ⟨rz2, hrz2⟩ : ∃ rz2 : Int, (r2 : Int) = rz2 := ⟨_, rfl⟩
        have p4 : IntKind.u64.wrap (qz - 1) = qz2 := by rw [IntKind.wrap_u64]; omega
        have p5 : IntKind.u64.wrap (rz + (a : Int)) = rz2 := by rw [IntKind.wrap_u64]; omega
        have ht' : (T2 : Int) < (P : Int) := by omega
        have hm2 : q2 - Q0 < q' - Q0 := by omega
        have HR := Lib.hid (show rz2 < 4294967296 → (∃ q r : Nat, Value.int .u64 qz2 = .int .u64 q ∧ Value.int .u64 rz2 = .int .u64 r ∧ Q0 ≤ q ∧ q ≤ 4294967297 ∧ q * a + r = R1 ∧ r < 4294967296) ∧ divIdx (.int .u64 qz2) - Q0 < divIdx (.int .u64 qz) - Q0 from
         fun h => ⟨⟨q2, r2, by rw [hqz2], by rw [hrz2], by omega, by omega, e2, by omega⟩, by rw [← hqz2, ← hqz]; simpa [divIdx] using hm2⟩)
        have HS := Lib.hid (show 4294967296 ≤ rz2 → (Q0 : Int) = qz2 from fun h => by
         have := HD0.out.stop (by omega) e2 (by omega) (by omega)
         rw [← hqz2, this])
        by_cases h32 : 4294967296 ≤ q'
        ·have h32' : (4294967296 : Int) ≤ qz := by omega
         clear p1 ht ht' htest hT hP hT2 j1 j2 j3 j4 e2 hgt hq2 hr2 hqz hrz hqz2 hrz2 hm2 h32 hsm p2 p3
         by_cases hb2 : 4294967296 ≤ rz2
         ·have hQz := HS.out hb2
          have y2b := y2
          rw [hQz] at y2b
          have y5b := y5
          rw [hQz] at y5b
          clear hQz
          go_wp2_with fail
          go_ret2
          exact ⟨by simp, Chg.refl _ _⟩
         ·have hrr := HR.out (by omega)
          have HRR := Lib.hid hrr
          clear hrr
          go_wp2_with fail
          go_roundw
          case rel => exact ⟨by trivial, HRR.out.1⟩
          case measure => exact HRR.out.2
        ·have p1 := p1 (by omega)
         have h32' : ¬ (4294967296 : Int) ≤ qz := by omega
         clear ht htest hT hP hT2 j1 j2 j3 j4 e2 hgt hq2 hr2 hqz hrz hqz2 hrz2 hm2 h32 hsm
         by_cases hb2 : 4294967296 ≤ rz2
         ·have hQz := HS.out hb2
          have y2b := y2
          rw [hQz] at y2b
          have y5b := y5
          rw [hQz] at y5b
          clear hQz
          go_wp2_with fail
          go_ret2
          exact ⟨by simp, Chg.refl _ _⟩
         ·have hrr := HR.out (by omega)
          have HRR := Lib.hid hrr
          clear hrr
          go_wp2_with fail
          go_roundw
          case rel => exact ⟨by trivial, HRR.out.1⟩
          case measure => exact HRR.out.2
       ·have hqQ : q' = Q0 := by omega
        have p1 := p1 (by omega)
        have h32' : ¬ (4294967296 : Int) ≤ qz := by omega
        have hnt : ¬ T2 < P := fun h => hgt (htest.2 h)
        have hnt' : ¬ (T2 : Int) < (P : Int) := by omega
        have hQz : (Q0 : Int) = qz := by rw [← hqz, hqQ]
        have y2b := y2
        rw [hQz] at y2b
        have y5b := y5
        rw [hQz] at y5b
        clear htest hT hP hT2 j1 j2 j3 j4 hgt hqQ hqz hrz hQz hnt hsm
        go_wp2_with fail
        go_ret2
        exact ⟨by simp, Chg.refl _ _⟩
     ·have hrr := HR.out (by omega)
      have HRR := Lib.hid hrr
      clear hrr
      go_wp2_with fail
      go_roundw
      case rel => exact ⟨by trivial, HRR.out.1⟩
      case measure => exact HRR.out.2
    ·have p1 := p1 (by omega)
     have h32' : ¬ (4294967296 : Int) ≤ qz := by omega
     clear ht htest hT hP hT2 j1 j2 j3 j4 e2 hgt hq2 hr2 hqz hrz hqz2 hrz2 hm2 h32 hsm
     by_cases hb2 : 4294967296 ≤ rz2
     ·have hQz := HS.out hb2
      have x3a := x3
      rw [hQz] at x3a
      have y1a := y1
      rw [hQz] at y1a
      clear hQz
      go_wp2_with fail
      go_loopw [18, 16] (fun vq vr wX => wX = wr ∧ ∃ q r : Nat, vq = .int .u64 q ∧ vr = .int .u64 r ∧ Q0 ≤ q ∧ q ≤ 4294967297 ∧ q * a + r = R1 ∧ r < 4294967296) (fun vq _ _ => divIdx vq - Q0)
      case atStart => exact ⟨rfl, q3, r3, rfl, rfl, HG2.out, gv2, HQE2.out, by omega⟩
      case round =>
       obtain ⟨hwr, q', r', rfl, rfl, j1, j2, j3, j4⟩ := hrel
       subst hwr
       have htest := HD0.out.test j1 j3
       obtain ⟨T, hT⟩ : ∃ T, T = 4294967296 * r' := ⟨_, rfl⟩
       obtain ⟨P, hP⟩ : ∃ P, P = q' * b := ⟨_, rfl⟩
       rw [← hT, ← hP] at htest
       have p2 : IntKind.u64.wrap (4294967296 * (r' : Int)) = (T : Int) := by rw [IntKind.wrap_u64]; omega
       obtain ⟨T2, hT2⟩ : ∃ T2, T2 = T + v0 := ⟨_, rfl⟩
       rw [← hT2] at htest
       have p3 : IntKind.u64.wrap ((T : Int) + (v0 : Int)) = (T2 : Int) := by rw [IntKind.wrap_u64]; omega
       have p1 : q' < 4294967296 → IntKind.u64.wrap ((q' : Int) * (b : Int)) = (P : Int) := fun h => by
        have : q' * b ≤ 4294967296 * b := Nat.mul_le_mul_right _ (by omega)
        rw [show (q' : Int) * (b : Int) = ((q' * b : Nat) : Int) by push_cast; rfl, ← hP, IntKind.wrap_u64]; omega
       have hsm := HD0.out.small
       obtain ⟨qz, hqz⟩ : ∃ qz : Int, (q' : Int) = qz := ⟨_, rfl⟩
       obtain ⟨rz, hrz⟩ : ∃ rz : Int, (r' : Int) = rz := ⟨_, rfl⟩
       rw [hqz] at p1
       rw [hrz] at p2
       rw [hqz, hrz]
       by_cases hgt : Q0 < q'
       ·have ht := htest.1 hgt
        obtain ⟨q2, hq2⟩ : ∃ q2, q' = q2 + 1 := ⟨q' - 1, by omega⟩
        obtain ⟨r2, hr2⟩ : ∃ r2, r2 = r' + a := ⟨_, rfl⟩
        have e2 : q2 * a + r2 = R1 := by rw [hr2, ← j3, hq2, Nat.add_mul, Nat.one_mul]; omega
        obtain ⟨qz2, hqz2⟩ : ∃ qz2 : Int, (q2 : Int) = qz2 := ⟨_, rfl⟩
        obtain ⟨rz2, hrz2⟩ : ∃ rz2 : Int, (r2 : Int) = rz2 := ⟨_, rfl⟩
        have p4 : IntKind.u64.wrap (qz - 1) = qz2 := by rw [IntKind.wrap_u64]; omega
        have p5 : IntKind.u64.wrap (rz + (a : Int)) = rz2 := by rw [IntKind.wrap_u64]; omega
        have ht' : (T2 : Int) < (P : Int) := by omega
        have hm2 : q2 - Q0 < q' - Q0 := by omega
        have HR := Lib.hid (show rz2 < 4294967296 → (∃ q r : Nat, Value.int .u64 qz2 = .int .u64 q ∧ Value.int .u64 rz2 = .int .u64 r ∧ Q0 ≤ q ∧ q ≤ 4294967297 ∧ q * a + r = R1 ∧ r < 4294967296) ∧ divIdx (.int .u64 qz2) - Q0 < divIdx (.int .u64 qz) - Q0 from
         fun h => ⟨⟨q2, r2, by rw [hqz2], by rw [hrz2], by omega, by omega, e2, by omega⟩, by rw [← hqz2, ← hqz]; simpa [divIdx] using hm2⟩)
        have HS := Lib.hid (show 4294967296 ≤ rz2 → (Q0 : Int) = qz2 from fun h => by
         have := HD0.out.stop (by omega) e2 (by omega) (by omega)
         rw [← hqz2, this])
        by_cases h32 : 4294967296 ≤ q'
        ·have h32' : (4294967296 : Int) ≤ qz := by omega
         clear p1 ht ht' htest hT hP hT2 j1 j2 j3 j4 e2 hgt hq2 hr2 hqz hrz hqz2 hrz2 hm2 h32 hsm p2 p3
         by_cases hb2 : 4294967296 ≤ rz2
         ·have hQz := HS.out hb2
          have y2b := y2
          rw [hQz] at y2b
          have y5b := y5
          rw [hQz] at y5b
          clear hQz
          go_wp2_with fail
          go_ret2
          exact ⟨by simp, Chg.refl _ _⟩
         ·have hrr := HR.out (by omega)
          have HRR := Lib.hid hrr
          clear hrr
          go_wp2_with fail
          go_roundw
          case rel => exact ⟨by trivial, HRR.out.1⟩
          case measure => exact HRR.out.2
        ·have p1 := p1 (by omega)
         have h32' : ¬ (4294967296 : Int) ≤ qz := by omega
         clear ht htest hT hP hT2 j1 j2 j3 j4 e2 hgt hq2 hr2 hqz hrz hqz2 hrz2 hm2 h32 hsm
         by_cases hb2 : 4294967296 ≤ rz2
         ·have hQz := HS.out hb2
          have y2b := y2
          rw [hQz] at y2b
          have y5b := y5
          rw [hQz] at y5b
          clear hQz
          go_wp2_with fail
          go_ret2
          exact ⟨by simp, Chg.refl _ _⟩
         ·have hrr := HR.out (by omega)
          have HRR := Lib.hid hrr
          clear hrr
          go_wp2_with fail
          go_roundw
          case rel => exact ⟨by trivial, HRR.out.1⟩
          case measure => exact HRR.out.2
       ·have hqQ : q' = Q0 := by omega
        have p1 := p1 (by omega)
        have h32' : ¬ (4294967296 : Int) ≤ qz := by omega
        have hnt : ¬ T2 < P := fun h => hgt (htest.2 h)
        have hnt' : ¬ (T2 : Int) < (P : Int) := by omega
        have hQz : (Q0 : Int) = qz := by rw [← hqz, hqQ]
        have y2b := y2
        rw [hQz] at y2b
        have y5b := y5
        rw [hQz] at y5b
        clear htest hT hP hT2 j1 j2 j3 j4 hgt hqQ hqz hrz hQz hnt hsm
        go_wp2_with fail
        go_ret2
        exact ⟨by simp, Chg.refl _ _⟩
     ·have hrr := HR.out (by omega)
      have HRR := Lib.hid hrr
      clear hrr
      go_wp2_with fail
      go_roundw
      case rel => exact ⟨by trivial, HRR.out.1⟩
      case measure => exact HRR.out.2
   ·have hqQ : q' = Q1 := by omega
    have p1 := p1 (by omega)
    have h32' : ¬ (4294967296 : Int) ≤ qz := by omega
    have hnt : ¬ T2 < P := fun h => hgt (htest.2 h)
    have hnt' : ¬ (T2 : Int) < (P : Int) := by omega
    have hQz : (Q1 : Int) = qz := by rw [← hqz, hqQ]
    have x3a := x3
    rw [hQz] at x3a
    have y1a := y1
    rw [hQz] at y1a
    clear htest hT hP hT2 j1 j2 j3 j4 hgt hqQ hqz hrz hQz hnt hsm
    go_wp2_with fail
    go_loopw [18, 16] (fun vq vr wX => wX = wr ∧ ∃ q r : Nat, vq = .int .u64 q ∧ vr = .int .u64 r ∧ Q0 ≤ q ∧ q ≤ 4294967297 ∧ q * a + r = R1 ∧ r < 4294967296) (fun vq _ _ => divIdx vq - Q0)
    case atStart => exact ⟨rfl, q3, r3, rfl, rfl, HG2.out, gv2, HQE2.out, by omega⟩
    case round =>
     obtain ⟨hwr, q', r', rfl, rfl, j1, j2, j3, j4⟩ := hrel
     subst hwr
     have htest := HD0.out.test j1 j3
     obtain ⟨T, hT⟩ : ∃ T, T = 4294967296 * r' := ⟨_, rfl⟩
     obtain ⟨P, hP⟩ : ∃ P, P = q' * b := ⟨_, rfl⟩
     rw [← hT, ← hP] at htest
     have p2 : IntKind.u64.wrap (4294967296 * (r' : Int)) = (T : Int) := by rw [IntKind.wrap_u64]; omega
     obtain ⟨T2, hT2⟩ : ∃ T2, T2 = T + v0 := ⟨_, rfl⟩
     rw [← hT2] at htest
     have p3 : IntKind.u64.wrap ((T : Int) + (v0 : Int)) = (T2 : Int) := by rw [IntKind.wrap_u64]; omega
     have p1 : q' < 4294967296 → IntKind.u64.wrap ((q' : Int) * (b : Int)) = (P : Int) := fun h => by
      have : q' * b ≤ 4294967296 * b := Nat.mul_le_mul_right _ (by omega)
      rw [show (q' : Int) * (b : Int) = ((q' * b : Nat) : Int) by push_cast; rfl, ← hP, IntKind.wrap_u64]; omega
     have hsm := HD0.out.small
     obtain ⟨qz, hqz⟩ : ∃ qz : Int, (q' : Int) = qz := ⟨_, rfl⟩
     obtain ⟨rz, hrz⟩ : ∃ rz : Int, (r' : Int) = rz := ⟨_, rfl⟩
     rw [hqz] at p1
     rw [hrz] at p2
     rw [hqz, hrz]
     by_cases hgt : Q0 < q'
     ·have ht := htest.1 hgt
      obtain ⟨q2, hq2⟩ : ∃ q2, q' = q2 + 1 := ⟨q' - 1, by omega⟩
      obtain ⟨r2, hr2⟩ : ∃ r2, r2 = r' + a := ⟨_, rfl⟩
      have e2 : q2 * a + r2 = R1 := by rw [hr2, ← j3, hq2, Nat.add_mul, Nat.one_mul]; omega
      obtain ⟨qz2, hqz2⟩ : ∃ qz2 : Int, (q2 : Int) = qz2 := ⟨_, rfl⟩
      obtain ⟨rz2, hrz2⟩ : ∃ rz2 : Int, (r2 : Int) = rz2 := ⟨_, rfl⟩
      have p4 : IntKind.u64.wrap (qz - 1) = qz2 := by rw [IntKind.wrap_u64]; omega
      have p5 : IntKind.u64.wrap (rz + (a : Int)) = rz2 := by rw [IntKind.wrap_u64]; omega
      have ht' : (T2 : Int) < (P : Int) := by omega
      have hm2 : q2 - Q0 < q' - Q0 := by omega
      have HR := Lib.hid (show rz2 < 4294967296 → (∃ q r : Nat, Value.int .u64 qz2 = .int .u64 q ∧ Value.int .u64 rz2 = .int .u64 r ∧ Q0 ≤ q ∧ q ≤ 4294967297 ∧ q * a + r = R1 ∧ r < 4294967296) ∧ divIdx (.int .u64 qz2) - Q0 < divIdx (.int .u64 qz) - Q0 from
       fun h => ⟨⟨q2, r2, by rw [hqz2], by rw [hrz2], by omega, by omega, e2, by omega⟩, by rw [← hqz2, ← hqz]; simpa [divIdx] using hm2⟩)
      have HS := Lib.hid (show 4294967296 ≤ rz2 → (Q0 : Int) = qz2 from fun h => by
       have := HD0.out.stop (by omega) e2 (by omega) (by omega)
       rw [← hqz2, this])
      by_cases h32 : 4294967296 ≤ q'
      ·have h32' : (4294967296 : Int) ≤ qz := by omega
       clear p1 ht ht' htest hT hP hT2 j1 j2 j3 j4 e2 hgt hq2 hr2 hqz hrz hqz2 hrz2 hm2 h32 hsm p2 p3
       by_cases hb2 : 4294967296 ≤ rz2
       ·have hQz := HS.out hb2
        have y2b := y2
        rw [hQz] at y2b
        have y5b := y5
        rw [hQz] at y5b
        clear hQz
        go_wp2_with fail
        go_ret2
        exact ⟨by simp, Chg.refl _ _⟩
       ·have hrr := HR.out (by omega)
        have HRR := Lib.hid hrr
        clear hrr
        go_wp2_with fail
        go_roundw
        case rel => exact ⟨by trivial, HRR.out.1⟩
        case measure => exact HRR.out.2
      ·have p1 := p1 (by omega)
       have h32' : ¬ (4294967296 : Int) ≤ qz := by omega
       clear ht htest hT hP hT2 j1 j2 j3 j4 e2 hgt hq2 hr2 hqz hrz hqz2 hrz2 hm2 h32 hsm
       by_cases hb2 : 4294967296 ≤ rz2
       ·have hQz := HS.out hb2
        have y2b := y2
        rw [hQz] at y2b
        have y5b := y5
        rw [hQz] at y5b
        clear hQz
        go_wp2_with fail
        go_ret2
        exact ⟨by simp, Chg.refl _ _⟩
       ·have hrr := HR.out (by omega)
        have HRR := Lib.hid hrr
        clear hrr
        go_wp2_with fail
        go_roundw
        case rel => exact ⟨by trivial, HRR.out.1⟩
        case measure => exact HRR.out.2
     ·have hqQ : q' = Q0 := by omega
      have p1 := p1 (by omega)
      have h32' : ¬ (4294967296 : Int) ≤ qz := by omega
      have hnt : ¬ T2 < P := fun h => hgt (htest.2 h)
      have hnt' : ¬ (T2 : Int) < (P : Int) := by omega
      have hQz : (Q0 : Int) = qz := by rw [← hqz, hqQ]
      have y2b := y2
      rw [hQz] at y2b
      have y5b := y5
      rw [hQz] at y5b
      clear htest hT hP hT2 j1 j2 j3 j4 hgt hqQ hqz hrz hQz hnt hsm
      go_wp2_with fail
      go_ret2
      exact ⟨by simp, Chg.refl _ _⟩
end Go.Proofs.YtamhicdhbjniiaaGreatDoor
end
