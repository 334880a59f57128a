/- slices.Min, slices.Max and Spread at int16: contracts. -/
import Derived.Test.YtiflogohalceaaaGreatMedal
import Derived.Test.YtiflogohalceaaaGreatMore
set_option linter.unusedVariables false
namespace Go.Chron
open Go Go.RowKit
def IsMin (zs : List Int) (lo : Int) : Prop := lo ∈ zs ∧ ∀ x ∈ zs, lo ≤ x
def IsMax (zs : List Int) (hi : Int) : Prop := hi ∈ zs ∧ ∀ x ∈ zs, x ≤ hi
theorem min_old {A : List Int} {lo x : Int} (h : IsMin A lo) (hx : lo ≤ x) : IsMin (A ++ [x]) lo := ⟨List.mem_append_left _ h.1, fun y hy => by rcases List.mem_append.1 hy with hy | hy; exact h.2 y hy; simp at hy; omega⟩
theorem min_new {A : List Int} {lo x : Int} (h : IsMin A lo) (hx : x ≤ lo) : IsMin (A ++ [x]) x := ⟨by simp, fun y hy => by rcases List.mem_append.1 hy with hy | hy; (have := h.2 y hy; omega); simp at hy; omega⟩
theorem max_old {A : List Int} {lo x : Int} (h : IsMax A lo) (hx : x ≤ lo) : IsMax (A ++ [x]) lo := ⟨List.mem_append_left _ h.1, fun y hy => by rcases List.mem_append.1 hy with hy | hy; exact h.2 y hy; simp at hy; omega⟩
theorem max_new {A : List Int} {lo x : Int} (h : IsMax A lo) (hx : lo ≤ x) : IsMax (A ++ [x]) x := ⟨by simp, fun y hy => by rcases List.mem_append.1 hy with hy | hy; (have := h.2 y hy; omega); simp at hy; omega⟩
theorem min_step {A : List Int} {lo : Int} (h : IsMin A lo) (x : Int) : IsMin (A ++ [x]) (min lo x) := by rcases Int.le_total lo x with h1 | h1; (rw [Int.min_eq_left h1]; exact min_old h h1); (rw [Int.min_eq_right h1]; exact min_new h h1)
theorem max_step {A : List Int} {lo : Int} (h : IsMax A lo) (x : Int) : IsMax (A ++ [x]) (max lo x) := by rcases Int.le_total lo x with h1 | h1; (rw [Int.max_eq_right h1]; exact max_new h h1); (rw [Int.max_eq_left h1]; exact max_old h h1)
theorem min_one (x : Int) : IsMin [x] x := ⟨by simp, by simp⟩
theorem max_one (x : Int) : IsMax [x] x := ⟨by simp, by simp⟩
end Go.Chron
namespace Go.Proofs.YtiflogohalceaaaGreat
open Go.RowKit Go.Chron

def idxOf : Value → Int | .int _ q => q | _ => 0
def MinInv (zs : List Int) (n : Nat) (w : World) (mv i : Value) (wr : World) : Prop :=
  ∃ (t : Nat) (lo : Int), 1 ≤ t ∧ t ≤ n ∧ i = .int .i64 t ∧ mv = .int .i16 lo ∧ IsMin (zs.take t) lo ∧ wr = w
set_option maxRecDepth 100000 in
set_option maxHeartbeats 1600000 in
theorem min14 (a : Option Addr) (n cap : Nat) (zs : List Int) (w : World) (hn : n = zs.length) (hpos : 0 < n) (hcap : n ≤ cap) (hcm : cap ≤ 9223372036854775807) (hr : Reads w 1 a (zs.map fun z => [Value.int .i16 z])) (hb : n ≤ 1000000) :
    Calls Tryz.prog 14 #[.slice a n cap] w fun e w' => ∃ lo, e = .returned (.int .i16 lo) ∧ IsMin zs lo ∧ w = w' := by
  obtain ⟨bl, off, rfl, hcell⟩ := hr (by rw [List.length_map, ← hn]; exact hpos)
  have HC := Lib.hid hcell
  have HN := Lib.hid hn
  have hn1 : ¬ ((n : Int) < 1) := by omega
  obtain ⟨x, hx⟩ : ∃ x, zs[0]? = some x := ⟨_, List.getElem?_eq_getElem (by rw [← hn]; exact hpos)⟩
  have e0 := hcell 0 [Value.int .i16 x] (by rw [List.getElem?_map, hx]; rfl) 0 _ rfl
  simp only [Nat.zero_mul, Nat.add_zero] at e0
  have h1 : zs.take 1 = [x] := by rw [List.take_add_one, hx]; rfl
  have H1 := Lib.hid h1
  clear hr hcell hn hx h1
  go_enter Tryz.func14, Tryz.ntmps14
  go_wp2_with fail
  go_loopw [3, 4] (fun mv i wr => MinInv zs n w mv i wr) (fun _ i _ => n - (idxOf i).toNat)
  case atStart => exact ⟨1, x, by omega, by omega, rfl, rfl, by rw [H1.out]; exact min_one x, rfl⟩
  case round =>
    clear e0
    obtain ⟨t, lo, ht1, ht2, rfl, rfl, hm, rfl⟩ := hrel
    by_cases hlt : t < n
    · obtain ⟨y, hy⟩ : ∃ y, zs[t]? = some y := ⟨_, List.getElem?_eq_getElem (by rw [← HN.out]; exact hlt)⟩
      have e1 := HC.out t [Value.int .i16 y] (by rw [List.getElem?_map, hy]; rfl) 0 _ rfl
      simp only [Nat.mul_one, Nat.add_zero] at e1
      have hyt : zs.take (t + 1) = zs.take t ++ [y] := by rw [List.take_add_one, hy]; rfl
      have htn : (t : Int) < (n : Int) := by omega
      have HY := Lib.hid hyt
      have HM := Lib.hid hm
      clear hy hyt hm
      go_wp2_with fail
      all_goals (
        go_roundw
        case rel =>
          refine ⟨t + 1, _, by omega, by omega, by go_num, rfl, ?_, rfl⟩
          rw [HY.out]
          exact min_step HM.out _
        case measure => simp [idxOf]; omega)
    · obtain rfl : t = n := by omega
      have hzt : zs.take t = zs := List.take_of_length_le (by have := HN.out; omega)
      rw [hzt] at hm
      have HM := Lib.hid hm
      clear hm hzt
      go_wp2_with fail
      go_ret
      exact ⟨lo, rfl, HM.out, rfl⟩

def MaxInv (zs : List Int) (n : Nat) (w : World) (mv i : Value) (wr : World) : Prop :=
  ∃ (t : Nat) (lo : Int), 1 ≤ t ∧ t ≤ n ∧ i = .int .i64 t ∧ mv = .int .i16 lo ∧ IsMax (zs.take t) lo ∧ wr = w
set_option maxRecDepth 100000 in
set_option maxHeartbeats 1600000 in
theorem max15 (a : Option Addr) (n cap : Nat) (zs : List Int) (w : World) (hn : n = zs.length) (hpos : 0 < n) (hcap : n ≤ cap) (hcm : cap ≤ 9223372036854775807) (hr : Reads w 1 a (zs.map fun z => [Value.int .i16 z])) (hb : n ≤ 1000000) :
    Calls Tryz.prog 15 #[.slice a n cap] w fun e w' => ∃ lo, e = .returned (.int .i16 lo) ∧ IsMax zs lo ∧ w = w' := by
  obtain ⟨bl, off, rfl, hcell⟩ := hr (by rw [List.length_map, ← hn]; exact hpos)
  have HC := Lib.hid hcell
  have HN := Lib.hid hn
  have hn1 : ¬ ((n : Int) < 1) := by omega
  obtain ⟨x, hx⟩ : ∃ x, zs[0]? = some x := ⟨_, List.getElem?_eq_getElem (by rw [← hn]; exact hpos)⟩
  have e0 := hcell 0 [Value.int .i16 x] (by rw [List.getElem?_map, hx]; rfl) 0 _ rfl
  simp only [Nat.zero_mul, Nat.add_zero] at e0
  have h1 : zs.take 1 = [x] := by rw [List.take_add_one, hx]; rfl
  have H1 := Lib.hid h1
  clear hr hcell hn hx h1
  go_enter Tryz.func15, Tryz.ntmps15
  go_wp2_with fail
  go_loopw [3, 4] (fun mv i wr => MaxInv zs n w mv i wr) (fun _ i _ => n - (idxOf i).toNat)
  case atStart => exact ⟨1, x, by omega, by omega, rfl, rfl, by rw [H1.out]; exact max_one x, rfl⟩
  case round =>
    clear e0
    obtain ⟨t, lo, ht1, ht2, rfl, rfl, hm, rfl⟩ := hrel
    by_cases hlt : t < n
    · obtain ⟨y, hy⟩ : ∃ y, zs[t]? = some y := ⟨_, List.getElem?_eq_getElem (by rw [← HN.out]; exact hlt)⟩
      have e1 := HC.out t [Value.int .i16 y] (by rw [List.getElem?_map, hy]; rfl) 0 _ rfl
      simp only [Nat.mul_one, Nat.add_zero] at e1
      have hyt : zs.take (t + 1) = zs.take t ++ [y] := by rw [List.take_add_one, hy]; rfl
      have htn : (t : Int) < (n : Int) := by omega
      have HY := Lib.hid hyt
      have HM := Lib.hid hm
      clear hy hyt hm
      go_wp2_with fail
      all_goals (
        go_roundw
        case rel =>
          refine ⟨t + 1, _, by omega, by omega, by go_num, rfl, ?_, rfl⟩
          rw [HY.out]
          exact max_step HM.out _
        case measure => simp [idxOf]; omega)
    · obtain rfl : t = n := by omega
      have hzt : zs.take t = zs := List.take_of_length_le (by have := HN.out; omega)
      rw [hzt] at hm
      have HM := Lib.hid hm
      clear hm hzt
      go_wp2_with fail
      go_ret
      exact ⟨lo, rfl, HM.out, rfl⟩

set_option maxRecDepth 100000 in
set_option maxHeartbeats 1600000 in
theorem spread8 (a : Option Addr) (n cap : Nat) (zs : List Int) (w : World) (hn : n = zs.length) (hpos : 0 < n) (hcap : n ≤ cap) (hcm : cap ≤ 9223372036854775807) (hr : Reads w 1 a (zs.map fun z => [Value.int .i16 z])) (hb : n ≤ 1000000) :
    Calls Tryz.prog 8 #[.slice a n cap] w fun e w' => ∃ lo hi, e = .returned (.tuple #[.int .i16 lo, .int .i16 hi, .int .i64 0]) ∧ IsMin zs lo ∧ IsMax zs hi ∧ w = w' := by
  have HR := Lib.hid hr
  have HN := Lib.hid hn
  have hn0 : ((n : Int) == 0) = false := by rw [beq_eq_false_iff_ne]; omega
  clear hr hn
  go_enter Tryz.func8, Tryz.ntmps8
  go_wp2_with fail
  refine (min14 a n cap zs _ HN.out hpos hcap hcm HR.out hb).mono ?_
  rintro e w' ⟨lo, rfl, h1, rfl⟩
  have H1 := Lib.hid h1
  clear h1
  go_wp2_with fail
  refine (max15 a n cap zs _ HN.out hpos hcap hcm HR.out hb).mono ?_
  rintro e w' ⟨hi, rfl, h2, rfl⟩
  have H2 := Lib.hid h2
  clear h2
  go_wp2_with fail
  go_ret3
  exact ⟨lo, hi, rfl, H1.out, H2.out, rfl⟩
theorem spread8_none (a : Option Addr) (cap : Nat) (w : World) :
    Calls Tryz.prog 8 #[.slice a 0 cap] w fun e w' => e = .returned (.tuple #[.int .i16 0, .int .i16 0, .int .i64 4]) ∧ w = w' := by
  go_enter Tryz.func8, Tryz.ntmps8
  go_wp2_with fail
  go_ret3
  exact ⟨rfl, rfl⟩
end Go.Proofs.YtiflogohalceaaaGreat
