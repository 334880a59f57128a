/- sat.MulDiv, and package stamp: contracts. What a sample tells: the contracts of package sample, and of the document's answer. package fresh's store: the contracts of New, Add, All, Clear. conf.Check: what it tells, and its contract. sample.Make: contract. -/
import Derived.Test.YtamhicdhbjniiaaGreatDoorM10
import Derived.Test.YtamhicdhbjniiaaGreatDoorM07
import Derived.Test.YtamhicdhbjniiaaGreatDoorM03
import Derived.Deep.RegionWith
import Derived.Lib.Builder
import Derived.Test.YtamhicdhbjniiaaGreatDoorM04
import Derived.Test.YtamhicdhbjniiaaGreatDoorM08
set_option linter.unusedVariables false
set_option maxHeartbeats 1600000
set_option maxRecDepth 100000
section
namespace Go.Chron
open Go Go.RowKit
def mulDivI (a b c : Int) : Int := max (-9223372036854775808) (min 9223372036854775807 (a * b / c))
theorem mulDivI_in (a b c : Int) : In64 (mulDivI a b c) := by unfold mulDivI In64; omega
theorem mulDivI_neg {a b c q r : Int} (hc : 1 ≤ c) (h : -a * b = q * c + r) (h0 : 0 ≤ r) (h1 : r < c) : mulDivI a b c = max (-9223372036854775808) (min 9223372036854775807 (if 0 < r then -q - 1 else -q)) := by
 unfold mulDivI
 congr 2
 have e : a * b = -(q * c + r) := by rw [← h, Int.neg_mul, Int.neg_neg]
 rw [e]
 split
 ·rw [show -(q * c + r) = (c - r) + c * (-q - 1) by rw [Int.mul_sub, Int.mul_neg, Int.mul_one, Int.mul_comm c q]; omega, Int.add_mul_ediv_left _ _ (by omega), Int.ediv_eq_zero_of_lt (by omega) (by omega)]
  omega
 ·rw [show -(q * c + r) = c * (-q) by rw [Int.mul_neg, Int.mul_comm c q]; omega, Int.mul_ediv_cancel_left _ (by omega)]
theorem wide_ge {P H L c : Int} (h : P = H * 18446744073709551616 + L) (hl : 0 ≤ L) (hc : 1 ≤ c) (hh : c ≤ H) : 18446744073709551616 ≤ P / c := by
 apply Int.le_ediv_of_mul_le (by omega)
 omega
theorem wide_lt {P H L c : Int} (h : P = H * 18446744073709551616 + L) (hl : L < 18446744073709551616) (hc : 1 ≤ c) (hh : H < c) : P / c < 18446744073709551616 := by
 apply Int.ediv_lt_of_lt_mul (by omega)
 omega
end Go.Chron
namespace Go.Proofs.YtamhicdhbjniiaaGreatDoor
open Go.RowKit Go.Chron
theorem wrap64_wu (a : Int) : wrap64 (IntKind.u64.wrap a) = wrap64 a := by simp only [IntKind.wrap_u64]; unfold wrap64; omega
theorem ret_int2 {k l : IntKind} {a b c d : Int} (h : a = c) (h2 : b = d) : Ending.returned (.tuple #[.int k a, .int l b]) = Ending.returned (.tuple #[.int k c, .int l d]) := by rw [h, h2]
theorem mul110 (x y : Int) (hx : 0 ≤ x ∧ x < 18446744073709551616) (hy : 0 ≤ y ∧ y < 18446744073709551616) (w : World) :
  Calls Tryz.prog 110 #[.int .u64 x, .int .u64 y] w fun e w' => e = .returned (.tuple #[.int .u64 (x * y / 18446744073709551616), .int .u64 (x * y % 18446744073709551616)]) ∧ w = w' := by
 obtain ⟨m, rfl⟩ := Int.eq_ofNat_of_zero_le hx.1
 obtain ⟨n, rfl⟩ := Int.eq_ofNat_of_zero_le hy.1
 refine (Tryz.bits_Mul64 m n (by omega) (by omega) w).mono ?_
 rintro e w' ⟨rfl, rfl⟩
 exact ⟨rfl, rfl⟩
theorem div191i (hi lo y : Int) (h0 : 0 ≤ hi) (hy : hi < y) (hy2 : y < 18446744073709551616) (hl : 0 ≤ lo ∧ lo < 18446744073709551616) (w : World) :
  Calls Tryz.prog 191 #[.int .u64 hi, .int .u64 lo, .int .u64 y] w fun e w' => e = .returned (.tuple #[.int .u64 ((hi * 18446744073709551616 + lo) / y), .int .u64 ((hi * 18446744073709551616 + lo) % y)]) ∧ Chg (fun _ => False) w w' := by
 obtain ⟨m, rfl⟩ := Int.eq_ofNat_of_zero_le h0
 obtain ⟨n, rfl⟩ := Int.eq_ofNat_of_zero_le hl.1
 obtain ⟨k, rfl⟩ := Int.eq_ofNat_of_zero_le (show 0 ≤ y by omega)
 refine (div191 m n k (by omega) (by omega) (by omega) w).mono ?_
 rintro e w' ⟨rfl, h⟩
 exact ⟨rfl, h⟩
theorem mulDiv163 (a b c : Int) (ha : In64 a) (hb : 0 ≤ b ∧ b ≤ 9223372036854775807) (hc : 1 ≤ c ∧ c ≤ 9223372036854775807) (w : World) :
  Calls Tryz.prog 163 #[.int .i64 a, .int .i64 b, .int .i64 c] w fun e w' => e = .returned (.tuple #[.int .i64 (mulDivI a b c), .int .i64 0]) ∧ Chg (fun _ => False) w w' := by
 obtain ⟨a1, a2⟩ := ha
 obtain ⟨b1, b2⟩ := hb
 obtain ⟨c1, c2⟩ := hc
 obtain ⟨M, hM⟩ : ∃ M, M = mulDivI a b c := ⟨_, rfl⟩
 rw [← hM]
 have hE := end106 a ⟨a1, a2⟩
 have HE := Lib.hid hE
 clear hE
 have hD : ∀ hi lo : Int, 0 ≤ hi → hi < c → 0 ≤ lo ∧ lo < 18446744073709551616 → ∀ w, _ := fun hi lo h0 h1 h2 w => div191i hi lo c h0 h1 (by omega) h2 w
 have HD := Lib.hid hD
 clear hD
 by_cases hneg : a < 0
 ·obtain ⟨s, hs⟩ : ∃ s, s = -a := ⟨_, rfl⟩
  have hC := mul110 s b ⟨by omega, by omega⟩ ⟨b1, by omega⟩
  obtain ⟨P, hP⟩ : ∃ P, P = s * b := ⟨_, rfl⟩
  rw [← hP] at hC
  have hP0 : 0 ≤ P := by rw [hP]; exact Int.mul_nonneg (by omega) b1
  obtain ⟨H, hH⟩ : ∃ H, H = P / 18446744073709551616 := ⟨_, rfl⟩
  obtain ⟨L, hL⟩ : ∃ L, L = P % 18446744073709551616 := ⟨_, rfl⟩
  rw [← hH, ← hL] at hC
  have HC := Lib.hid hC
  have hPe : P = H * 18446744073709551616 + L := by omega
  have hL0 : 0 ≤ L := by omega
  have hL1 : L < 18446744073709551616 := by omega
  have hH0 : 0 ≤ H := by omega
  have hH1 : H < 18446744073709551616 := by
   have : P < 18446744073709551616 * 18446744073709551616 := by
    rw [hP]
    have := Int.mul_le_mul (show s ≤ 9223372036854775808 by omega) b2 b1 (by omega)
    omega
   omega
  obtain ⟨q, hq⟩ : ∃ q, q = P / c := ⟨_, rfl⟩
  obtain ⟨r, hr⟩ : ∃ r, r = P % c := ⟨_, rfl⟩
  have hr0 : 0 ≤ r := by rw [hr]; exact Int.emod_nonneg _ (by omega)
  have hr1 : r < c := by rw [hr]; exact Int.emod_lt_of_pos _ (by omega)
  have hq0 : 0 ≤ q := by rw [hq]; exact Int.ediv_nonneg hP0 (by omega)
  have hM1 := mulDivI_neg (a := a) (b := b) (q := q) (r := r) c1 (by rw [← hs, ← hP, hq, hr]; have := Int.mul_ediv_add_emod P c; rw [Int.mul_comm] at this; omega) hr0 hr1
  rw [← hM] at hM1
  have hw : IntKind.u64.wrap (-IntKind.u64.wrap a) = s := by simp only [IntKind.wrap_u64]; omega
  have HW := Lib.hid hw
  by_cases hbig : c ≤ H
  ·have hq2 := wide_ge hPe hL0 c1 hbig
   rw [← hq] at hq2
   have HM : endOf a = M := by rw [hM1]; unfold endOf; rw [if_pos hneg]; split <;> omega
   have HM := Lib.hid HM
   clear hC hP hH hL hPe hq hr hM1 hM hw hs hq2 hr0 hr1 hq0
   go_enter Tryz.func163, Tryz.ntmps163
   go_wp2_with fail
   rw [HW.out]
   refine (HC.out _).mono ?_
   rintro e w' ⟨rfl, rfl⟩
   go_wp2_with fail
   refine (HE.out _).mono ?_
   rintro e w' ⟨rfl, rfl⟩
   rw [HM.out]
   go_wp2_with fail
   go_ret2
   exact ⟨by simp, Chg.refl _ _⟩
  ·have hq2 := wide_lt hPe hL1 c1 (by omega)
   rw [← hq] at hq2
   have hDD := HD.out H L hH0 (by omega) ⟨hL0, hL1⟩
   rw [← hPe, ← hq, ← hr] at hDD
   have HDD := Lib.hid hDD
   have HM1 := Lib.hid hM1
   clear hDD hC hP hH hL hPe hq hr hM1 hM hw hs
   go_enter Tryz.func163, Tryz.ntmps163
   go_wp2_with fail
   rw [HW.out]
   refine (HC.out _).mono ?_
   rintro e w' ⟨rfl, rfl⟩
   go_wp2_with fail
   refine (HDD.out _).mono ?_
   rintro e w' ⟨rfl, hc⟩
   go_wp2_with fail
   ·have hM := HM1.out
    split at hM
    ·obtain rfl : M = -9223372036854775808 := by omega
     go_ret2
     exact ⟨by simp, hc⟩
    ·obtain rfl : M = -9223372036854775808 := by omega
     go_ret2
     exact ⟨by simp, hc⟩
   ·have hM := HM1.out
    rw [if_pos (by omega)] at hM
    obtain rfl : M = -q - 1 := by omega
    go_ret2
    exact ⟨by simp, hc⟩
   ·have hM := HM1.out
    rw [if_neg (by omega)] at hM
    obtain rfl : M = -q := by omega
    go_ret2
    exact ⟨by simp, hc⟩
 ·have hC := mul110 a b ⟨by omega, by omega⟩ ⟨b1, by omega⟩
  obtain ⟨P, hP⟩ : ∃ P, P = a * b := ⟨_, rfl⟩
  rw [← hP] at hC
  have hP0 : 0 ≤ P := by rw [hP]; exact Int.mul_nonneg (by omega) b1
  obtain ⟨H, hH⟩ : ∃ H, H = P / 18446744073709551616 := ⟨_, rfl⟩
  obtain ⟨L, hL⟩ : ∃ L, L = P % 18446744073709551616 := ⟨_, rfl⟩
  rw [← hH, ← hL] at hC
  have HC := Lib.hid hC
  have hPe : P = H * 18446744073709551616 + L := by omega
  have hL0 : 0 ≤ L := by omega
  have hL1 : L < 18446744073709551616 := by omega
  have hH0 : 0 ≤ H := by omega
  have hH1 : H < 18446744073709551616 := by
   have : P < 18446744073709551616 * 18446744073709551616 := by
    rw [hP]
    have := Int.mul_le_mul (show a ≤ 9223372036854775808 by omega) b2 b1 (by omega)
    omega
   omega
  obtain ⟨q, hq⟩ : ∃ q, q = P / c := ⟨_, rfl⟩
  obtain ⟨r, hr⟩ : ∃ r, r = P % c := ⟨_, rfl⟩
  have hq0 : 0 ≤ q := by rw [hq]; exact Int.ediv_nonneg hP0 (by omega)
  have hM1 : M = min 9223372036854775807 q := by rw [hM, hq, hP]; unfold mulDivI; rw [← hP, ← hq]; omega
  by_cases hbig : c ≤ H
  ·have hq2 := wide_ge hPe hL0 c1 hbig
   rw [← hq] at hq2
   have HM : endOf a = M := by rw [hM1]; unfold endOf; rw [if_neg hneg]; omega
   have HM := Lib.hid HM
   clear hC hP hH hL hPe hq hr hM1 hM hq2 hq0
   go_enter Tryz.func163, Tryz.ntmps163
   go_wp2_with fail
   refine (HC.out _).mono ?_
   rintro e w' ⟨rfl, rfl⟩
   go_wp2_with fail
   refine (HE.out _).mono ?_
   rintro e w' ⟨rfl, rfl⟩
   rw [HM.out]
   go_wp2_with fail
   go_ret2
   exact ⟨by simp, Chg.refl _ _⟩
  ·have hq2 := wide_lt hPe hL1 c1 (by omega)
   rw [← hq] at hq2
   have hDD := HD.out H L hH0 (by omega) ⟨hL0, hL1⟩
   rw [← hPe, ← hq, ← hr] at hDD
   have HDD := Lib.hid hDD
   have HM1 := Lib.hid hM1
   clear hDD hC hP hH hL hPe hq hr hM1 hM
   go_enter Tryz.func163, Tryz.ntmps163
   go_wp2_with fail
   refine (HC.out _).mono ?_
   rintro e w' ⟨rfl, rfl⟩
   go_wp2_with fail
   refine (HDD.out _).mono ?_
   rintro e w' ⟨rfl, hc⟩
   go_wp2_with fail
   go_ret2
   exact ⟨ret_int2 (by rw [HM1.out, Int.min_comm]) rfl, hc⟩
def pairVal (s : Int) : Value := .agg #[.int .u32 (s / 4294967296), .int .u32 (s % 4294967296)]
theorem halves210 (s : Int) (h0 : 0 ≤ s) (h1 : s < 18446744073709551616) (w : World) : Calls Tryz.prog 210 #[.int .u64 s] w fun e w' => e = .returned (pairVal s) ∧ Chg (fun _ => False) w w' := by
 go_enter Tryz.func210, Tryz.ntmps210
 go_wp2_with fail
 exact bodyPost_ret (v := pairVal s) (by simp [results, Tryz.results210, go_sem, pairVal]) rfl ⟨rfl, by repeat (first | exact Chg.refl _ _ | exact (by assumption) | apply Chg.drewN | apply Chg.drew | apply Chg.alloc)⟩
def diffI (a b : Int) : Int := mulDivI (wrap64 (a - b)) 1000000000 4294967296
theorem diffI_in (a b : Int) : In64 (diffI a b) := mulDivI_in _ _ _
theorem diff184 (a b : Int) (ha : 0 ≤ a ∧ a < 18446744073709551616) (hb : 0 ≤ b ∧ b < 18446744073709551616) (w : World) : Calls Tryz.prog 184 #[.int .u64 a, .int .u64 b] w fun e w' => e = .returned (.int .i64 (diffI a b)) ∧ Chg (fun _ => False) w w' := by
 obtain ⟨a0, a1⟩ := ha
 obtain ⟨b0, b1⟩ := hb
 have HM := Lib.hid (mulDiv163 (wrap64 (a - b)) 1000000000 4294967296 (wrap64_in64 _) (by omega) (by omega))
 obtain ⟨r, hr⟩ : ∃ r, r = diffI a b := ⟨_, rfl⟩
 have HR := Lib.hid hr
 rw [show mulDivI (wrap64 (a - b)) 1000000000 4294967296 = r from hr.symm] at HM
 rw [← hr]
 have hA := halves210 a a0 a1
 have hB := halves210 b b0 b1
 unfold pairVal at hA hB
 obtain ⟨x, hx⟩ : ∃ x, x = a / 4294967296 := ⟨_, rfl⟩
 obtain ⟨y, hy⟩ : ∃ y, y = a % 4294967296 := ⟨_, rfl⟩
 obtain ⟨x', hx'⟩ : ∃ x', x' = b / 4294967296 := ⟨_, rfl⟩
 obtain ⟨y', hy'⟩ : ∃ y', y' = b % 4294967296 := ⟨_, rfl⟩
 rw [← hx, ← hy] at hA
 rw [← hx', ← hy'] at hB
 have hab : (x = x' ∧ y = y') → a = b := by omega
 have hr0 : a = b → r = 0 := by
  intro h
  rw [hr, h]
  unfold diffI mulDivI wrap64
  omega
 have HX := Lib.hid (show (x = x' ∧ y = y') → r = 0 from fun h => hr0 (hab h))
 have HA := Lib.hid hA
 have HB := Lib.hid hB
 clear hr hA hB hx hy hx' hy' hab hr0
 go_enter Tryz.func184, Tryz.ntmps184
 go_wp2_with fail
 refine (HA.out _).mono ?_
 rintro e w1 ⟨rfl, c1⟩
 go_wp2_with fail
 refine (HB.out _).mono ?_
 rintro e w2 ⟨rfl, c2⟩
 have c3 := c1.trans c2
 clear c1 c2
 go_wp2_with fail
 ·go_ret
  exact ⟨ret_int (HX.out ⟨by first | rfl | assumption | omega, by first | rfl | assumption | omega⟩).symm, c3⟩
 all_goals (
  rw [wrap64_wu]
  refine (HM.out _).mono ?_
  rintro e w4 ⟨rfl, c4⟩
  have c5 := c3.trans c4
  clear c3 c4
  go_wp2_with fail
  go_ret
  exact ⟨rfl, c5⟩)
theorem tdiv_neg {n : Int} (h : n < 0) : n.tdiv 1000000000 = -((-n) / 1000000000) := by
 rw [← Int.tdiv_eq_ediv_of_nonneg (by omega), Int.neg_tdiv, Int.neg_neg]
def fromI (ns : Int) : Int := (ns / 1000000000 * 4294967296 + ns % 1000000000 * 4294967296 / 1000000000) % 18446744073709551616
theorem from185 (ns : Int) (h : In64 ns) (w : World) : Calls Tryz.prog 185 #[.int .i64 ns] w fun e w' => e = .returned (.int .u64 (fromI ns)) ∧ Chg (fun _ => False) w w' := by
 obtain ⟨h1, h2⟩ := h
 obtain ⟨r, hr⟩ : ∃ r, r = fromI ns := ⟨_, rfl⟩
 have HR := Lib.hid hr
 rw [← hr]
 clear hr
 obtain ⟨R, hR⟩ : ∃ R, R = ns % 1000000000 := ⟨_, rfl⟩
 obtain ⟨P, hP⟩ : ∃ P, P = R * 4294967296 := ⟨_, rfl⟩
 have HC := Lib.hid (mul110 R 4294967296 (by omega) (by omega))
 rw [← hP] at HC
 have HD := Lib.hid (div191i (P / 18446744073709551616) (P % 18446744073709551616) 1000000000 (by omega) (by omega) (by omega) (by omega))
 rw [show P / 18446744073709551616 * 18446744073709551616 + P % 18446744073709551616 = P by omega] at HD
 obtain ⟨q, hq⟩ : ∃ q, q = P / 1000000000 := ⟨_, rfl⟩
 obtain ⟨r2, hr2⟩ : ∃ q, q = P % 1000000000 := ⟨_, rfl⟩
 rw [← hq, ← hr2] at HD
 have hq0 : 0 ≤ q := by omega
 have hq1 : q < 4294967296 := by omega
 have hRe : r = (ns / 1000000000 * 4294967296 + q) % 18446744073709551616 := by rw [HR.out, hq, hP, hR]; rfl
 have HR := Lib.hid hRe
 have HR2 := Lib.hid hR
 obtain ⟨x, hx⟩ : ∃ q, q = P / 18446744073709551616 := ⟨_, rfl⟩
 obtain ⟨y, hy⟩ : ∃ q, q = P % 18446744073709551616 := ⟨_, rfl⟩
 rw [← hx, ← hy] at HC HD
 clear hRe hR hP hq hr2 hx hy
 by_cases hn : ns < 0
 ·have HT := Lib.hid (tdiv_neg hn)
  go_enter Tryz.func185, Tryz.ntmps185
  go_wp2_with fail
  ·have hr := HR2.out
   have ht := HT.out
   rw [show IntKind.u64.wrap (wrap64 (wrap64 (ns - wrap64 (ns.tdiv 1000000000 * 1000000000)) + 1000000000)) = R by simp only [IntKind.wrap_u64, wrap64] at *; omega]
   clear hr ht
   refine (HC.out _).mono ?_
   rintro e w1 ⟨rfl, rfl⟩
   go_wp2_with fail
   refine (HD.out _).mono ?_
   rintro e w2 ⟨rfl, c2⟩
   go_wp2_with fail
   go_ret
   refine ⟨ret_int ?_, c2⟩
   have hr := HR.out
   have ht := HT.out
   have hR := HR2.out
   rw [hr]
   simp only [IntKind.wrap_u64, wrap64] at *
   omega
  ·have hr := HR2.out
   have ht := HT.out
   rw [show IntKind.u64.wrap (wrap64 (ns - wrap64 (ns.tdiv 1000000000 * 1000000000))) = R by simp only [IntKind.wrap_u64, wrap64] at *; omega]
   clear hr ht
   refine (HC.out _).mono ?_
   rintro e w1 ⟨rfl, rfl⟩
   go_wp2_with fail
   refine (HD.out _).mono ?_
   rintro e w2 ⟨rfl, c2⟩
   go_wp2_with fail
   go_ret
   refine ⟨ret_int ?_, c2⟩
   have hr := HR.out
   have ht := HT.out
   have hR := HR2.out
   rw [hr]
   simp only [IntKind.wrap_u64, wrap64] at *
   omega
 ·go_enter Tryz.func185, Tryz.ntmps185
  go_wp2_with fail
  have hr := HR2.out
  rw [show ns - ns / 1000000000 * 1000000000 = R by omega]
  clear hr
  refine (HC.out _).mono ?_
  rintro e w1 ⟨rfl, rfl⟩
  go_wp2_with fail
  refine (HD.out _).mono ?_
  rintro e w2 ⟨rfl, c2⟩
  go_wp2_with fail
  go_ret
  refine ⟨ret_int ?_, c2⟩
  have hr := HR.out
  rw [hr]
  simp only [IntKind.wrap_u64] at *
  omega
end Go.Proofs.YtamhicdhbjniiaaGreatDoor
end
section
namespace Go.Chron
open Go Go.RowKit
structure Sam where
 o : Int
 d : Int
 t : Int
 s : Int
deriving DecidableEq
def samc (x : Sam) : List Value := [.int .i64 x.o, .int .i64 x.d, .int .i64 x.t, .int .i64 x.s]
def samv (x : Sam) : Value := .agg #[.int .i64 x.o, .int .i64 x.d, .int .i64 x.t, .int .i64 x.s]
structure Sam.Ok (x : Sam) : Prop where
 o : In64 x.o
 d : In64 x.d
 t : In64 x.t
 s : In64 x.s
def frOf (x : Sam) (h life : Int) : Bool := decide (x.t ≤ h) && decide (satSub h x.t ≤ life)
def btOf (x y : Sam) : Bool := decide (x.d < y.d) || (decide (x.d = y.d) && decide (y.t < x.t))
def nowOf (x : Sam) (sl : Int) : Int := satSub x.o (satSub sl x.s)
end Go.Chron
namespace Go.Proofs.YtamhicdhbjniiaaGreatDoor
open Go.RowKit Go.Chron
theorem hold232 (a b c d : Int) (w : World) : Calls Tryz.prog 232 #[.agg #[.int .i64 a, .int .i64 b, .int .i64 c, .int .i64 d]] w fun e w' => e = .returned (.agg #[.int .i64 c, .int .i64 b]) ∧ Chg (fun _ => False) w w' := by
 go_enter Tryz.func232, Tryz.ntmps232
 go_wp2
 exact bodyPost_ret (v := .agg #[.int .i64 c, .int .i64 b]) (by simp [results, Tryz.results232, go_sem]) rfl ⟨rfl, by repeat (first | exact Chg.refl _ _ | apply Chg.drewN | apply Chg.drew | apply Chg.alloc)⟩
theorem after233 (a b : Int) (w : World) : Calls Tryz.prog 233 #[.agg #[.int .i64 a], .agg #[.int .i64 b]] w fun e w' => e = .returned (.bool (decide (b < a))) ∧ Chg (fun _ => False) w w' := by
 go_enter Tryz.func233, Tryz.ntmps233
 go_wp2
 go_ret
 exact ⟨rfl, by repeat (first | exact Chg.refl _ _ | apply Chg.drewN | apply Chg.drew | apply Chg.alloc)⟩
theorem since246 (a h : Int) (ha : In64 a) (hh : In64 h) (w : World) : Calls Tryz.prog 246 #[.agg #[.int .i64 a], .int .i64 h] w fun e w' => e = .returned (.int .i64 (satSub h a)) ∧ Chg (fun _ => False) w w' := by
 have HA := Lib.hid ha
 have HH := Lib.hid hh
 clear ha hh
 go_enter Tryz.func246, Tryz.ntmps246
 go_wp2_with fail
 refine (sub66 h a HH.out HA.out _).mono ?_
 rintro e w' ⟨rfl, rfl⟩
 go_wp2_with fail
 go_ret
 exact ⟨rfl, by repeat (first | exact Chg.refl _ _ | apply Chg.drewN | apply Chg.drew | apply Chg.alloc)⟩
theorem fresh231 (o d t s h life : Int) (ht : In64 t) (hh : In64 h) (w : World) : Calls Tryz.prog 231 #[.agg #[.int .i64 o, .int .i64 d, .int .i64 t, .int .i64 s], .int .i64 h, .int .i64 life] w fun e w' =>
  e = .returned (.bool (frOf ⟨o, d, t, s⟩ h life)) ∧ Chg (fun _ => False) w w' := by
 obtain ⟨r, hr⟩ : ∃ r, r = frOf ⟨o, d, t, s⟩ h life := ⟨_, rfl⟩
 have HR := Lib.hid hr
 rw [← hr]
 clear hr
 have HT := Lib.hid ht
 have HH := Lib.hid hh
 clear ht hh
 go_enter Tryz.func231, Tryz.ntmps231
 go_wp2_with fail
 refine (hold232 o d t s _).mono ?_
 rintro e w1 ⟨rfl, c1⟩
 have c1' : Chg (fun _ => False) w w1 := ((Chg.refl _ w).alloc _).trans c1
 clear c1
 have b1 := Blk.new w1 402 #[Value.int IntKind.i64 t, Value.int IntKind.i64 d]
 go_wp2_with fail
 refine (after233 t h _).mono ?_
 rintro e w2 ⟨rfl, c2⟩
 have c3 : Chg (fun _ => False) w w2 := (c1'.alloc _).trans c2
 have b2 := b1.chg c2 (fun h => h)
 have x0 := b2.cell 0
 simp at x0
 clear c1' c2 b1 b2
 by_cases hd : h < t
 ·have hd' : decide (h < t) = true := by simpa using hd
  have hfr : r = false := by
   rw [HR.out]; unfold frOf; rw [decide_eq_false (by simp; omega)]; rfl
  subst hfr
  go_wp2_with fail
  go_ret
  exact ⟨rfl, c3⟩
 ·have hd' : decide (h < t) = false := by simpa using hd
  go_wp2_with fail
  refine (since246 t h HT.out HH.out _).mono ?_
  rintro e w4 ⟨rfl, c4⟩
  have c5 := c3.trans c4
  have hfr : r = decide (satSub h t ≤ life) := by
   rw [HR.out]; unfold frOf; rw [decide_eq_true (by simp; omega)]; rfl
  subst hfr
  clear c3 c4
  go_wp2_with fail
  go_ret
  exact ⟨rfl, c5⟩
theorem now213 (o d t s sl : Int) (ho : In64 o) (hs : In64 s) (hl : In64 sl) (w : World) : Calls Tryz.prog 213 #[.agg #[.int .i64 o, .int .i64 d, .int .i64 t, .int .i64 s], .int .i64 sl] w fun e w' =>
  e = .returned (.int .i64 (nowOf ⟨o, d, t, s⟩ sl)) ∧ Chg (fun _ => False) w w' := by
 have HO := Lib.hid ho
 have HS := Lib.hid hs
 have HL := Lib.hid hl
 clear ho hs hl
 go_enter Tryz.func213, Tryz.ntmps213
 go_wp2_with fail
 go_quiet (first | (go_at_call_of 66 (Value.int IntKind.i64 sl); exact Calls.quiet_of_same ((sub66 sl s HL.out HS.out _).mono fun _ _ h => ⟨h.1, h.2.symm⟩)) | (go_at_call_of 66 (Value.int IntKind.i64 o); exact Calls.quiet_of_same ((sub66 o (satSub sl s) HO.out (satSub_in _ _) _).mono fun _ _ h => ⟨h.1, h.2.symm⟩)))
 go_wp2_with fail
 go_ret
 exact ⟨rfl, by repeat (first | exact Chg.refl _ _ | apply Chg.drewN | apply Chg.drew | apply Chg.alloc)⟩
theorem hold232x (a b c d : Int) (w : World) : Calls Tryz.prog 232 #[.agg #[.int .i64 a, .int .i64 b, .int .i64 c, .int .i64 d]] w fun e w' => e = .returned (.agg #[.int .i64 c, .int .i64 b]) ∧
  w' = (w.alloc (Obj.cells #[.int .i64 a, .int .i64 b, .int .i64 c, .int .i64 d] 223)).alloc (Obj.cells #[.int .i64 c, .int .i64 b] 402) := by
 go_enter Tryz.func232, Tryz.ntmps232
 go_wp2
 exact bodyPost_ret (v := .agg #[.int .i64 c, .int .i64 b]) (by simp [results, Tryz.results232, go_sem]) rfl ⟨rfl, rfl⟩
end Go.Proofs.YtamhicdhbjniiaaGreatDoor
end
namespace Go.Proofs.YtamhicdhbjniiaaGreatDoor
section
open Go.RowKit Go.Chron
structure StoreAt (w : World) (s b : Nat) (g : Option Nat) (cnt : Nat) (L : List Sam) : Prop where
 st : Blk w s 225 #[.pointer (some ⟨b, 0, none⟩)]
 ring : RingAt 278 223 4 w b g 8 cnt (L.map samc)
theorem StoreAt.sb {w : World} {s b cnt : Nat} {g : Option Nat} {L : List Sam} (h : StoreAt w s b g cnt L) : s ≠ b := by
 rintro rfl
 obtain ⟨v, hb, _⟩ := h.ring.ex
 exact absurd (blk_typ h.st hb) (by decide)
theorem StoreAt.sg {w : World} {s b cnt : Nat} {g : Option Nat} {L : List Sam} (h : StoreAt w s b g cnt L) : g ≠ some s := by
 intro hg
 obtain ⟨v, _, ho⟩ := h.ring.ex
 obtain ⟨c, hc⟩ := ho.blk hg
 exact absurd (blk_typ h.st hc) (by decide)
theorem StoreAt.chg0 {w w' : World} {s b cnt : Nat} {g : Option Nat} {L : List Sam} (h : StoreAt w s b g cnt L) (c : Chg (fun _ => False) w w') : StoreAt w' s b g cnt L := ⟨h.st.chg c (fun h => h), h.ring.chg0 c⟩
theorem rpush_map {α β : Type} (f : α → β) (m : Nat) (L : List α) (x : α) : rpush m (L.map f) (f x) = (rpush m L x).map f := by
 unfold rpush
 rw [List.length_map]
 split <;> simp
theorem storeNew (w : World) : Calls Tryz.prog 52 #[] w fun e w' => ∃ s b, e = .returned (.pointer (some ⟨s, 0, none⟩)) ∧ StoreAt w' s b none 0 [] ∧ w.heap.size ≤ s ∧ w.heap.size ≤ b ∧ Chg (fun _ => False) w w' := by
 go_enter Tryz.func52, Tryz.ntmps52
 go_wp2_with fail
 refine (new_sam 8 (by omega) (by omega) w).mono ?_
 rintro e w1 ⟨rfl, r1, c1⟩
 have s1 := c1.size
 have S : StoreAt (w1.alloc (Obj.cells #[Value.pointer (some { block := w.heap.size, off := 0 })] 225)) w1.heap.size w.heap.size none 0 [] := ⟨Blk.new _ _ _, r1.chg0 (chg0_alloc _ _)⟩
 have C := c1.alloc (Obj.cells #[Value.pointer (some { block := w.heap.size, off := 0 })] 225)
 clear r1 c1
 go_wp2_with fail
 go_ret
 exact ⟨_, _, rfl, S, s1, Nat.le_refl _, C⟩
def StoreAdded (w : World) (s b : Nat) (g : Option Nat) (cnt : Nat) (L : List Sam) (x : Sam) (w' : World) : Prop :=
 ∃ k, StoreAt w' s b (some k) (cnt + 1) (rpush 8 L x) ∧ Chg (fun j => j = b ∨ g = some j) w w' ∧ (g = some k ∨ w.heap.size ≤ k)
theorem storeAdd (s b : Nat) (g : Option Nat) (cnt : Nat) (L : List Sam) (o d t l : Int) (w : World) (h : StoreAt w s b g cnt L) (hc : cnt < 1000000) :
  Calls Tryz.prog 134 #[.pointer (some ⟨s, 0, none⟩), .agg #[.int .i64 o, .int .i64 d, .int .i64 t, .int .i64 l]] w fun e w' => e = .returned (.int .i64 0) ∧ StoreAdded w s b g cnt L ⟨o, d, t, l⟩ w' := by
 have cs := chg0_alloc w (Obj.cells #[Value.int .i64 o, Value.int .i64 d, Value.int .i64 t, Value.int .i64 l] 223)
 have h1 := h.chg0 cs
 have c0 := h1.st.cell 0
 simp at c0
 have bx := Blk.new w 223 #[Value.int .i64 o, Value.int .i64 d, Value.int .i64 t, Value.int .i64 l]
 have x0 : (w.alloc (Obj.cells #[Value.int .i64 o, Value.int .i64 d, Value.int .i64 t, Value.int .i64 l] 223)).cell? ⟨w.heap.size, 0, none⟩ = some (.int .i64 o) := bx.cell 0
 have x1 : (w.alloc (Obj.cells #[Value.int .i64 o, Value.int .i64 d, Value.int .i64 t, Value.int .i64 l] 223)).cell? ⟨w.heap.size, 1, none⟩ = some (.int .i64 d) := bx.cell 1
 have x2 : (w.alloc (Obj.cells #[Value.int .i64 o, Value.int .i64 d, Value.int .i64 t, Value.int .i64 l] 223)).cell? ⟨w.heap.size, 2, none⟩ = some (.int .i64 t) := bx.cell 2
 have x3 : (w.alloc (Obj.cells #[Value.int .i64 o, Value.int .i64 d, Value.int .i64 t, Value.int .i64 l] 223)).cell? ⟨w.heap.size, 3, none⟩ = some (.int .i64 l) := bx.cell 3
 have H1 := Lib.hid h1
 have HC := Lib.hid cs
 clear h h1 cs bx
 go_enter Tryz.func134, Tryz.ntmps134
 go_upto_region 3 with (fail)
 generalize w.alloc (Obj.cells #[Value.int .i64 o, Value.int .i64 d, Value.int .i64 t, Value.int .i64 l] 223) = W0 at *
 go_region_with (first | (go_at_call 159; refine (add_sam b g 8 cnt _ o d t l _ (H1.out.ring.chg0 (chg0_drew _)) (by omega) (by omega) hc).mono ?_; rintro e w2 ⟨rfl, k, r2, c2, hk⟩))
 all_goals (
  have A : StoreAdded w s b g cnt L ⟨o, d, t, l⟩ w2 := by
   have sb := H1.out.sb
   have sg := H1.out.sg
   have hz := HC.out.size
   refine ⟨k, ⟨(H1.out.st.drew).chg c2 (fun h => h.elim (fun h => sb h) (fun h => sg h)), ?_⟩, ((HC.out.mono (fun _ _ h => h.elim)).drew).trans c2, ?_⟩
   ·rw [← rpush_map]; exact r2
   ·rcases hk with hk | hk
    ·exact .inl hk
    ·exact .inr (Nat.le_trans hz hk)
  clear r2 c2 hk
  go_wp2_with fail
  go_ret
  exact ⟨rfl, A⟩)
theorem storeAll (s b : Nat) (g : Option Nat) (cnt : Nat) (L : List Sam) (w : World) (h : StoreAt w s b g cnt L) :
  Calls Tryz.prog 230 #[.pointer (some ⟨s, 0, none⟩)] w (Cloned 223 4 w (L.map samc)) := by
 have c0 := h.st.cell 0
 simp at c0
 have H := Lib.hid h
 clear h
 go_enter Tryz.func230, Tryz.ntmps230
 go_wp2_with fail
 refine (all_sam b g 8 cnt _ w H.out.ring (by omega)).mono ?_
 rintro e w' ⟨a', cap', g', rfl, K⟩
 go_wp2_with fail
 go_ret
 exact ⟨a', cap', g', by rw [List.length_map]; rfl, K⟩
theorem storeAllNil (w : World) : Calls Tryz.prog 230 #[.pointer none] w fun e w' => e = .returned (.slice none 0 0) ∧ w = w' := by
 go_enter Tryz.func230, Tryz.ntmps230
 go_wp2
 go_ret
 exact ⟨rfl, rfl⟩
end
section
open Go Go.RowKit Go.Chron
structure Cfg where
 servers : List Int
 quorum : Int
 least : Int
 most : Int
 delay : Int
 slew : Int
deriving DecidableEq
def servErr : List Int → List Int → Int
 | _, [] => 0
 | d, a :: r => if ¬ (1 ≤ a ∧ a ≤ 65535) then 3 else if d.contains a then 12 else servErr (d ++ [a]) r
def Cfg.check (c : Cfg) : Int :=
 if c.servers.length = 0 then 13 else if 16 < c.servers.length then 11 else if servErr [] c.servers ≠ 0 then servErr [] c.servers
 else if (4 ≤ c.least ∧ c.least ≤ 1024) ∧ (c.least ≤ c.most ∧ c.most ≤ 1024) ∧ (1 ≤ c.quorum ∧ c.quorum ≤ (c.servers.length : Int)) ∧ (1 ≤ c.delay ∧ c.delay ≤ 1000 * c.least - 2000) ∧ (1 ≤ c.slew ∧ c.slew ≤ 500) then 0 else 3
def cfgv (v : Value) (c : Cfg) : Value := .agg #[v, .int .i64 c.quorum, .int .i64 c.least, .int .i64 c.most, .int .i64 c.delay, .int .i64 c.slew]
def i64c (z : Int) : List Value := [.int .i64 z]
theorem ret_bool {a b : Bool} (h : a = b) : Ending.returned (.bool a) = Ending.returned (.bool b) := by rw [h]
theorem within123 (n lo hi : Int) (w : World) : Calls Tryz.prog 123 #[.int .i64 n, .int .i64 lo, .int .i64 hi] w fun e w' => e = .returned (.bool (decide (lo ≤ n ∧ n ≤ hi))) ∧ w' = w := by
 by_cases h : lo ≤ n
 ·go_enter Tryz.func123, Tryz.ntmps123
  go_wp2_with fail
  go_ret
  exact ⟨ret_bool (by rw [Bool.eq_iff_iff]; simp [h]), rfl⟩
 ·go_enter Tryz.func123, Tryz.ntmps123
  go_wp2_with fail
  go_ret
  exact ⟨ret_bool (by rw [Bool.eq_iff_iff]; simp; omega), rfl⟩
theorem contains_int (b off n cap : Nat) (L : List Int) (z : Int) (w : World) (hn : n ≤ L.length) (hb : n ≤ 9223372036854775807) (hg : ∀ j z, L[j]? = some z → w.cell? ⟨b, off + j, none⟩ = some (.int .i64 z)) :
  Calls Tryz.prog 121 #[.slice (some ⟨b, off, none⟩) n cap, .int .i64 z] w fun e w' => e = .returned (.bool ((L.take n).contains z)) ∧ w' = w :=
 Tryz.slices_Contains_int b off n cap L z w hn hb (fun j hj => by rw [List.getD_eq_getElem?_getD, List.getElem?_eq_getElem hj]; exact hg j _ (List.getElem?_eq_getElem hj))
theorem check85 (a : Option Addr) (n cap : Nat) (c : Cfg) (hn : n = c.servers.length) (hc : n ≤ cap) (hcm : cap ≤ 9223372036854775807) (w : World) (hR : Reads w 1 a (c.servers.map i64c)) :
  Calls Tryz.prog 85 #[cfgv (.slice a n cap) c] w fun e w' => e = .returned (.int .i64 c.check) ∧ Chg (fun _ => False) w w' := by
 obtain ⟨L, qu, le, mo, de, sl⟩ := c
 have hk : Cfg.check ⟨L, qu, le, mo, de, sl⟩ = if L.length = 0 then 13 else if 16 < L.length then 11 else if servErr [] L ≠ 0 then servErr [] L
  else if (4 ≤ le ∧ le ≤ 1024) ∧ (le ≤ mo ∧ mo ≤ 1024) ∧ (1 ≤ qu ∧ qu ≤ (L.length : Int)) ∧ (1 ≤ de ∧ de ≤ 1000 * le - 2000) ∧ (1 ≤ sl ∧ sl ≤ 500) then 0 else 3 := rfl
 generalize Cfg.check ⟨L, qu, le, mo, de, sl⟩ = K at *
 unfold cfgv
 simp only at hn hR ⊢
 rw [← hn] at hk
 have c0 := chg0_alloc w (Obj.cells #[.slice a n cap, .int .i64 qu, .int .i64 le, .int .i64 mo, .int .i64 de, .int .i64 sl] 29)
 have B0 := Blk.new w 29 #[.slice a n cap, .int .i64 qu, .int .i64 le, .int .i64 mo, .int .i64 de, .int .i64 sl]
 have HR := Lib.hid (hR.chg c0 (fun _ _ h => h))
 have HN := Lib.hid hn
 clear hR hn
 by_cases hn0 : n = 0
 ·subst hn0
  rw [if_pos rfl] at hk
  subst hk
  go_enter Tryz.func85, Tryz.ntmps85
  go_wp2_with fail
  go_ret
  exact ⟨rfl, c0⟩
 ·rw [if_neg hn0] at hk
  have hp : 0 < n := by omega
  have hnI : ¬ (n : Int) = 0 := by omega
  by_cases hn16 : 16 < n
  ·rw [if_pos hn16] at hk
   subst hk
   have hI : (16 : Int) < n := by omega
   go_enter Tryz.func85, Tryz.ntmps85
   go_wp2_with fail
   go_ret
   exact ⟨rfl, c0⟩
  ·rw [if_neg hn16] at hk
   have hI : ¬ (16 : Int) < n := by omega
   have HK0 := Lib.hid hk
   obtain ⟨b, off, rfl, hcell⟩ := HR.out (by have := HN.out; simp; omega)
   have hg : ∀ j z, L[j]? = some z → (w.alloc (Obj.cells #[.slice (some ⟨b, off, none⟩) n cap, .int .i64 qu, .int .i64 le, .int .i64 mo, .int .i64 de, .int .i64 sl] 29)).cell? ⟨b, off + j, none⟩ = some (.int .i64 z) := by
    intro j z hz
    have := hcell j (i64c z) (by simp [hz]) 0 (.int .i64 z) rfl
    simpa using this
   have HG := Lib.hid hg
   clear hk hcell hg HR
   go_enter Tryz.func85, Tryz.ntmps85
   go_upto_region 1 with (fail)
   generalize w.alloc (Obj.cells #[.slice (some ⟨b, off, none⟩) n cap, .int .i64 qu, .int .i64 le, .int .i64 mo, .int .i64 de, .int .i64 sl] 29) = W at *
   generalize hgg : w.heap.size = g at *
   have b0 := B0.cell 0
   have b1 := B0.cell 1
   have b2 := B0.cell 2
   have b3 := B0.cell 3
   have b4 := B0.cell 4
   have b5 := B0.cell 5
   simp at b0 b1 b2 b3 b4 b5
   go_wp2_with fail
   go_loopw [18] (fun i wr => ∃ j : Nat, j ≤ n ∧ i = .int .i64 j ∧ wr = W ∧ servErr (L.take j) (L.drop j) = servErr [] L) (fun i _ => n - (intOf i).toNat)
   case atStart => exact ⟨0, by omega, rfl, rfl, by simp⟩
   case round =>
    obtain ⟨j, hj, rfl, rfl, hs⟩ := hrel
    by_cases hjn : j < n
    ·obtain ⟨z, hz⟩ : ∃ z, L[j]? = some z := ⟨_, List.getElem?_eq_getElem (by have := HN.out; omega)⟩
     have e0 := HG.out j z hz
     have hd : L.drop j = z :: L.drop (j + 1) := by
      obtain ⟨hlt, rfl⟩ := List.getElem?_eq_some_iff.1 hz
      exact List.drop_eq_getElem_cons hlt
     have ht : L.take (j + 1) = L.take j ++ [z] := by rw [List.take_add_one, hz]; rfl
     rw [hd, servErr] at hs
     have hlI : (j : Int) < n := by omega
     by_cases hw : 1 ≤ z ∧ z ≤ 65535
     ·rw [if_neg (by simpa using hw)] at hs
      have q := within123 z 1 65535 wr
      rw [decide_eq_true hw] at q
      have QW := Lib.hid q
      clear hw q
      have hC := contains_int b off j cap L z wr (by have := HN.out; omega) (by omega) HG.out
      have HC := Lib.hid hC
      have hjc : j ≤ cap := by omega
      have hjcI : (j : Int) ≤ cap := by omega
      have HT := Lib.hid ht
      have HS := Lib.hid hs
      clear hC hd ht hs hz
      go_wp2_with fail
      refine QW.out.mono ?_
      rintro e w2 ⟨rfl, rfl⟩
      by_cases hct : (L.take j).contains z = true
      ·have hs := HS.out
       rw [if_pos hct] at hs
       have hc2 := HC.out
       rw [hct] at hc2
       have HC2 := Lib.hid hc2
       have HK1 := HK0.out
       rw [if_pos (by rw [← hs]; decide), ← hs] at HK1
       subst HK1
       clear HC hc2 hct hs HK0
       go_wp2_with fail
       refine HC2.out.mono ?_
       rintro e w2 ⟨rfl, rfl⟩
       go_wp2_with fail
       go_ret
       exact ⟨rfl, c0⟩
      ·have hs := HS.out
       rw [if_neg hct, ← HT.out] at hs
       have hc2 := HC.out
       rw [show (L.take j).contains z = false by simpa using hct] at hc2
       have HC2 := Lib.hid hc2
       have HS2 := Lib.hid hs
       clear HC hc2 hct hs HS
       go_wp2_with fail
       refine HC2.out.mono ?_
       rintro e w2 ⟨rfl, rfl⟩
       go_wp2_with fail
       go_roundw
       case rel => exact ⟨j + 1, by omega, by go_num, trivial, HS2.out⟩
       case measure => simp [intOf]; omega
     ·rw [if_pos hw] at hs
      have q := within123 z 1 65535 wr
      rw [decide_eq_false hw] at q
      have QW := Lib.hid q
      have HK1 := HK0.out
      rw [if_pos (by rw [← hs]; decide), ← hs] at HK1
      subst HK1
      clear hw q hs HK0 hd ht hz
      go_wp2_with fail
      refine QW.out.mono ?_
      rintro e w2 ⟨rfl, rfl⟩
      go_wp2_with fail
      go_ret
      exact ⟨rfl, c0⟩
    ·obtain rfl : j = n := by omega
     have hs' : servErr [] L = 0 := by rw [← hs, List.drop_of_length_le (by have := HN.out; omega)]; unfold servErr; rfl
     have HK1 := HK0.out
     rw [if_neg (by rw [hs']; simp)] at HK1
     have HK := Lib.hid HK1
     have c1 := c0
     clear hs hs' HK1 HK0 c0
     by_cases h0 : 4 ≤ le ∧ le ≤ 1024
     ·have q0 := within123 le 4 1024 wr
      rw [decide_eq_true h0] at q0
      have g0 := Lib.hid h0
      have l0 := h0.1
      have l1 := h0.2
      clear h0
      have Q0 := Lib.hid q0
      clear q0
      go_wp2_with fail
      refine Q0.out.mono ?_
      rintro e w2 ⟨rfl, rfl⟩
      by_cases h1 : le ≤ mo ∧ mo ≤ 1024
      ·have q1 := within123 mo le 1024 w2
       rw [decide_eq_true h1] at q1
       have g1 := Lib.hid h1
       clear h1
       have Q1 := Lib.hid q1
       clear q1
       go_wp2_with fail
       refine Q1.out.mono ?_
       rintro e w2 ⟨rfl, rfl⟩
       by_cases h2 : 1 ≤ qu ∧ qu ≤ (j : Int)
       ·have q2 := within123 qu 1 j w2
        rw [decide_eq_true h2] at q2
        have g2 := Lib.hid h2
        clear h2
        have Q2 := Lib.hid q2
        clear q2
        go_wp2_with fail
        refine Q2.out.mono ?_
        rintro e w2 ⟨rfl, rfl⟩
        by_cases h3 : 1 ≤ de ∧ de ≤ 1000 * le - 2000
        ·have q3 := within123 de 1 (1000 * le - 2000) w2
         rw [decide_eq_true h3] at q3
         have g3 := Lib.hid h3
         clear h3
         have Q3 := Lib.hid q3
         clear q3
         go_wp2_with fail
         refine Q3.out.mono ?_
         rintro e w2 ⟨rfl, rfl⟩
         by_cases h4 : 1 ≤ sl ∧ sl ≤ 500
         ·have q4 := within123 sl 1 500 w2
          rw [decide_eq_true h4] at q4
          have g4 := Lib.hid h4
          clear h4
          have Q4 := Lib.hid q4
          clear q4
          go_wp2_with fail
          refine Q4.out.mono ?_
          rintro e w2 ⟨rfl, rfl⟩
          have hk := HK.out
          rw [if_pos ⟨g0.out, g1.out, g2.out, g3.out, g4.out⟩] at hk
          subst hk
          go_wp2_with fail
          go_ret
          exact ⟨rfl, c1⟩
         ·have q4 := within123 sl 1 500 w2
          rw [decide_eq_false h4] at q4
          have Q4 := Lib.hid q4
          clear q4
          have hk := HK.out
          rw [if_neg (fun hh => h4 hh.2.2.2.2)] at hk
          subst hk
          clear h4
          go_wp2_with fail
          refine Q4.out.mono ?_
          rintro e w2 ⟨rfl, rfl⟩
          go_wp2_with fail
          go_ret
          exact ⟨rfl, c1⟩
        ·have q3 := within123 de 1 (1000 * le - 2000) w2
         rw [decide_eq_false h3] at q3
         have Q3 := Lib.hid q3
         clear q3
         have hk := HK.out
         rw [if_neg (fun hh => h3 hh.2.2.2.1)] at hk
         subst hk
         clear h3
         go_wp2_with fail
         refine Q3.out.mono ?_
         rintro e w2 ⟨rfl, rfl⟩
         go_wp2_with fail
         go_ret
         exact ⟨rfl, c1⟩
       ·have q2 := within123 qu 1 j w2
        rw [decide_eq_false h2] at q2
        have Q2 := Lib.hid q2
        clear q2
        have hk := HK.out
        rw [if_neg (fun hh => h2 hh.2.2.1)] at hk
        subst hk
        clear h2
        go_wp2_with fail
        refine Q2.out.mono ?_
        rintro e w2 ⟨rfl, rfl⟩
        go_wp2_with fail
        go_ret
        exact ⟨rfl, c1⟩
      ·have q1 := within123 mo le 1024 w2
       rw [decide_eq_false h1] at q1
       have Q1 := Lib.hid q1
       clear q1
       have hk := HK.out
       rw [if_neg (fun hh => h1 hh.2.1)] at hk
       subst hk
       clear h1
       go_wp2_with fail
       refine Q1.out.mono ?_
       rintro e w2 ⟨rfl, rfl⟩
       go_wp2_with fail
       go_ret
       exact ⟨rfl, c1⟩
     ·have q0 := within123 le 4 1024 wr
      rw [decide_eq_false h0] at q0
      have Q0 := Lib.hid q0
      clear q0
      have hk := HK.out
      rw [if_neg (fun hh => h0 hh.1)] at hk
      subst hk
      clear h0
      go_wp2_with fail
      refine Q0.out.mono ?_
      rintro e w2 ⟨rfl, rfl⟩
      go_wp2_with fail
      go_ret
      exact ⟨rfl, c1⟩
end
section
open Go Go.RowKit Go.Chron
def makeO (sent came recv xmit : Int) : Int := midI (diffI recv (fromI sent)) (diffI xmit (fromI came))
def makeD (sent came recv xmit : Int) : Int := max 0 (satSub (satSub came sent) (diffI xmit recv))
theorem fromI_in (n : Int) : 0 ≤ fromI n ∧ fromI n < 18446744073709551616 := by unfold fromI; omega
theorem makeO_in (a b c d : Int) : In64 (makeO a b c d) := midI_in (diffI_in _ _) (diffI_in _ _)
theorem makeD_in (a b c d : Int) : In64 (makeD a b c d) := by unfold makeD; have := satSub_in (satSub b a) (diffI d c); unfold In64 at *; omega
theorem make157 (sent came recv xmit : Int) (hs : In64 sent) (hc : In64 came) (hr : 0 ≤ recv ∧ recv < 18446744073709551616) (hx : 0 ≤ xmit ∧ xmit < 18446744073709551616) (w : World) :
  Calls Tryz.prog 157 #[.int .i64 sent, .int .i64 came, .int .u64 recv, .int .u64 xmit] w fun e w' =>
   e = .returned (.tuple #[.int .i64 (makeO sent came recv xmit), .int .i64 (makeD sent came recv xmit)]) ∧ Chg (fun _ => False) w w' := by
 have h1 := from185 sent hs
 have h2 := diff184 recv (fromI sent) hr (fromI_in _)
 have h3 := from185 came hc
 have h4 := diff184 xmit (fromI came) hx (fromI_in _)
 have h5 := sub66 came sent hc hs
 have h6 := diff184 xmit recv hx hr
 have h7 := sub66 (satSub came sent) (diffI xmit recv) (satSub_in _ _) (diffI_in _ _)
 have h8 := mid186 (diffI recv (fromI sent)) (diffI xmit (fromI came)) (diffI_in _ _) (diffI_in _ _)
 rw [show midI (diffI recv (fromI sent)) (diffI xmit (fromI came)) = makeO sent came recv xmit from rfl] at h8
 have hD : makeD sent came recv xmit = max 0 (satSub (satSub came sent) (diffI xmit recv)) := rfl
 obtain ⟨T, hT⟩ : ∃ T, T = satSub (satSub came sent) (diffI xmit recv) := ⟨_, rfl⟩
 rw [← hT] at h7 hD
 generalize makeO sent came recv xmit = O at *
 obtain ⟨D, hDD⟩ : ∃ D, D = makeD sent came recv xmit := ⟨_, rfl⟩
 rw [← hDD] at hD ⊢
 generalize satSub came sent = U at *
 generalize diffI recv (fromI sent) = A at *
 generalize diffI xmit (fromI came) = B at *
 generalize diffI xmit recv = E at *
 generalize fromI sent = F at *
 generalize fromI came = G at *
 have H1 := Lib.hid h1
 have H2 := Lib.hid h2
 have H3 := Lib.hid h3
 have H4 := Lib.hid h4
 have H5 := Lib.hid h5
 have H6 := Lib.hid h6
 have H7 := Lib.hid h7
 have H8 := Lib.hid h8
 have HD := Lib.hid hD
 clear h1 h2 h3 h4 h5 h6 h7 h8 hD hDD hT hs hc hr hx
 go_enter Tryz.func157, Tryz.ntmps157
 go_wp2_with fail
 refine (H1.out _).mono ?_
 rintro e w1 ⟨rfl, c1⟩
 go_wp2_with fail
 refine (H2.out _).mono ?_
 rintro e w2 ⟨rfl, c2⟩
 go_wp2_with fail
 refine (H3.out _).mono ?_
 rintro e w3 ⟨rfl, c3⟩
 go_wp2_with fail
 refine (H4.out _).mono ?_
 rintro e w4 ⟨rfl, c4⟩
 go_wp2_with fail
 refine (H5.out _).mono ?_
 rintro e w5 ⟨rfl, rfl⟩
 go_wp2_with fail
 refine (H6.out _).mono ?_
 rintro e w6 ⟨rfl, c6⟩
 go_wp2_with fail
 refine (H7.out _).mono ?_
 rintro e w7 ⟨rfl, rfl⟩
 go_wp2_with fail
 refine (H8.out _).mono ?_
 rintro e w8 ⟨rfl, rfl⟩
 have cc := (((c1.trans c2).trans c3).trans c4).trans c6
 clear c1 c2 c3 c4 c6
 go_wp2_with fail
 all_goals (go_ret2; exact ⟨ret_int2 rfl (by first | exact HD.out.symm | (rw [HD.out]; omega)), cc⟩)
end
end Go.Proofs.YtamhicdhbjniiaaGreatDoor
