/- Package median's Rank, and cmp.Compare, of texts and of numbers: contracts. -/
import Derived.Test.YtnfnonphccnbkaaMore
import Derived.Sort.Walk0
set_option linter.unusedVariables false
namespace Go.Chron
open Go Go.RowKit
/-- cmp.Compare, by the order both ways. -/
def cmpI : Bool → Bool → Int
  | _, false => -1
  | true, true => 0
  | false, true => 1
theorem lo_snoc {α : Type} {le : α → α → Bool} (l : List α) (y v : α) : loOf le (l ++ [y]) v = loOf le l v + (if le v y = true then 0 else 1) := by
  unfold loOf; rw [List.countP_append]; cases h : le v y <;> simp [h]
theorem up_snoc {α : Type} {le : α → α → Bool} (l : List α) (y v : α) : upOf le (l ++ [y]) v = upOf le l v + (if le y v = true then 1 else 0) := by
  unfold upOf; rw [List.countP_append]; cases h : le y v <;> simp [h]
theorem lo_le {α : Type} {le : α → α → Bool} (l : List α) (v : α) : loOf le l v ≤ l.length := List.countP_le_length
theorem up_le {α : Type} {le : α → α → Bool} (l : List α) (v : α) : upOf le l v ≤ l.length := List.countP_le_length
end Go.Chron
namespace Go.Proofs.Ytnfnonphccnbkaa
open Go.RowKit Go.Chron

set_option maxHeartbeats 800000 in
theorem nan75 (x : List UInt8) (w : World) : Calls Try.prog 75 #[encStr x] w fun e w' => e = .returned (.bool false) ∧ w = w' := by
  go_enter Try.func75, Try.ntmps75
  go_wp2_with fail
  go_ret
  exact ⟨rfl, rfl⟩
set_option maxHeartbeats 800000 in
theorem nan76 (x : Int) (w : World) : Calls Try.prog 76 #[.int .i64 x] w fun e w' => e = .returned (.bool false) ∧ w = w' := by
  go_enter Try.func76, Try.ntmps76
  go_wp2_with fail
  go_ret
  exact ⟨rfl, rfl⟩
set_option maxHeartbeats 800000 in
theorem cmp62 (x y : List UInt8) (w : World) : Calls Try.prog 62 #[encStr x, encStr y] w fun e w' => e = .returned (.int .i64 (cmpI (sle x y) (sle y x))) ∧ w = w' := by
  obtain ⟨r, hr⟩ : ∃ r, r = cmpI (sle x y) (sle y x) := ⟨_, rfl⟩
  rw [← hr]
  have key : (x < y ∧ r = -1) ∨ (¬ x < y ∧ y < x ∧ r = 1) ∨ (x = y ∧ ¬ x < y ∧ r = 0) := by
    cases h1 : sle y x with
    | false =>
      have : ¬ y ≤ x := by unfold sle at h1; simpa using h1
      exact .inl ⟨by simpa using this, by rw [hr, h1]; rfl⟩
    | true =>
      cases h2 : sle x y with
      | false =>
        have : ¬ x ≤ y := by unfold sle at h2; simpa using h2
        have h3 : y ≤ x := by unfold sle at h1; simpa using h1
        exact .inr (.inl ⟨h3, by simpa using this, by rw [hr, h1, h2]; rfl⟩)
      | true =>
        have h3 : y ≤ x := by unfold sle at h1; simpa using h1
        exact .inr (.inr ⟨ord_str.anti _ _ h2 h1, h3, by rw [hr, h1, h2]; rfl⟩)
  clear hr
  rcases key with ⟨h1, rfl⟩ | ⟨h0, h1, rfl⟩ | ⟨rfl, h1, rfl⟩
  · have hb : Op.bytesLess x y = true := by rw [Go.Proofs.bytesLess_eq]; simpa using h1
    clear h1
    go_enter Try.func62, Try.ntmps62
    go_wp2_with fail
    refine (nan75 x _).mono ?_
    rintro e w' ⟨rfl, rfl⟩
    go_wp2_with fail
    refine (nan75 y _).mono ?_
    rintro e w' ⟨rfl, rfl⟩
    go_wp2_with fail
    go_ret
    exact ⟨rfl, rfl⟩
  · have hb : Op.bytesLess x y = false := by rw [Go.Proofs.bytesLess_eq]; simpa using h0
    have he : (x == y) = false := by rw [beq_eq_false_iff_ne]; intro e; subst e; exact h0 h1
    clear h1 h0
    go_enter Try.func62, Try.ntmps62
    go_wp2_with fail
    refine (nan75 x _).mono ?_
    rintro e w' ⟨rfl, rfl⟩
    go_wp2_with fail
    refine (nan75 y _).mono ?_
    rintro e w' ⟨rfl, rfl⟩
    go_wp2_with fail
    go_ret
    exact ⟨rfl, rfl⟩
  · have hb : Op.bytesLess x x = false := by rw [Go.Proofs.bytesLess_eq]; simp
    clear h1
    go_enter Try.func62, Try.ntmps62
    go_wp2_with fail
    refine (nan75 x _).mono ?_
    rintro e w' ⟨rfl, rfl⟩
    go_wp2_with fail
    refine (nan75 x _).mono ?_
    rintro e w' ⟨rfl, rfl⟩
    go_wp2_with fail
    go_ret
    exact ⟨rfl, rfl⟩
set_option maxHeartbeats 800000 in
theorem cmp63 (x y : Int) (w : World) : Calls Try.prog 63 #[.int .i64 x, .int .i64 y] w fun e w' => e = .returned (.int .i64 (cmpI (ile x y) (ile y x))) ∧ w = w' := by
  obtain ⟨r, hr⟩ : ∃ r, r = cmpI (ile x y) (ile y x) := ⟨_, rfl⟩
  rw [← hr]
  have key : (x < y ∧ r = -1) ∨ (¬ x < y ∧ y < x ∧ r = 1) ∨ (¬ x < y ∧ ¬ y < x ∧ r = 0) := by
    unfold ile at hr
    by_cases h1 : x < y
    · exact .inl ⟨h1, by rw [hr, decide_eq_false (show ¬ y ≤ x by omega)]; cases decide (x ≤ y) <;> rfl⟩
    · by_cases h2 : y < x
      · exact .inr (.inl ⟨h1, h2, by rw [hr, decide_eq_false (show ¬ x ≤ y by omega), decide_eq_true (show y ≤ x by omega)]; rfl⟩)
      · exact .inr (.inr ⟨h1, h2, by rw [hr, decide_eq_true (show x ≤ y by omega), decide_eq_true (show y ≤ x by omega)]; rfl⟩)
  clear hr
  rcases key with ⟨h1, rfl⟩ | ⟨h0, h1, rfl⟩ | ⟨h0, h1, rfl⟩
  all_goals (
    go_enter Try.func63, Try.ntmps63
    go_wp2_with fail
    refine (nan76 x _).mono ?_
    rintro e w' ⟨rfl, rfl⟩
    go_wp2_with fail
    refine (nan76 y _).mono ?_
    rintro e w' ⟨rfl, rfl⟩
    go_wp2_with fail
    go_ret
    exact ⟨rfl, rfl⟩)

def RankInv_str (zs : List (List UInt8)) (v : List UInt8) (n : Nat) (w : World) (i b u : Value) (wr : World) : Prop :=
  ∃ t : Nat, t ≤ n ∧ i = .int .i64 t ∧ b = .int .i64 (loOf sle (zs.take t) v) ∧ u = .int .i64 (upOf sle (zs.take t) v) ∧ wr = w
set_option maxRecDepth 100000 in
set_option maxHeartbeats 1600000 in
theorem rank_str (v : List UInt8) (a : Option Addr) (n cap : Nat) (zs : List (List UInt8)) (w : World) (hn : n = zs.length) (hcap : n ≤ cap) (hcm : cap ≤ 9223372036854775807) (hr : Reads w 1 a (zs.map fun z => [encStr z])) (hb : n ≤ 1000000) :
    Calls Try.prog 39 #[encStr v, .slice a n cap] w fun e w' => e = .returned (.tuple #[.int .i64 (loOf sle zs v), .int .i64 (upOf sle zs v)]) ∧ w = w' := by
  have HR := Lib.hid hr
  have HN := Lib.hid hn
  clear hr hn
  go_enter Try.func39, Try.ntmps39
  go_wp2_with fail
  go_loopw [10, 4, 5] (fun i b u wr => RankInv_str zs v n w i b u wr) (fun i _ _ _ => n - (intOf i).toNat)
  case atStart => exact ⟨0, by omega, rfl, rfl, rfl, rfl⟩
  case round =>
    obtain ⟨t, ht, rfl, rfl, rfl, rfl⟩ := hrel
    by_cases hlt : t < n
    · obtain ⟨y, hy⟩ : ∃ y, zs[t]? = some y := ⟨_, List.getElem?_eq_getElem (by rw [← HN.out]; exact hlt)⟩
      obtain ⟨bl, off, rfl, hcell⟩ := HR.out (by rw [List.length_map, ← HN.out]; omega)
      have e0 := hcell t [encStr y] (by rw [List.getElem?_map, hy]; rfl) 0 _ rfl
      simp only [Nat.mul_one, Nat.add_zero] at e0
      have htn : (t : Int) < (n : Int) := by omega
      have hyt : zs.take (t + 1) = zs.take t ++ [y] := by rw [List.take_add_one, hy]; rfl
      have hl1 := lo_snoc (le := sle) (zs.take t) y v
      have hu1 := up_snoc (le := sle) (zs.take t) y v
      have hl2 := lo_le (le := sle) (zs.take t) v
      have hu2 := up_le (le := sle) (zs.take t) v
      have htl : (zs.take t).length = t := by rw [List.length_take, ← HN.out]; omega
      rw [← hyt] at hl1 hu1
      rw [htl] at hl2 hu2
      obtain ⟨lo, hlo⟩ : ∃ lo, lo = loOf sle (zs.take t) v := ⟨_, rfl⟩
      obtain ⟨up, hup⟩ : ∃ up, up = upOf sle (zs.take t) v := ⟨_, rfl⟩
      rw [← hlo] at hl1 hl2 ⊢
      rw [← hup] at hu1 hu2 ⊢
      have hl3 : (lo : Int) ≤ 1000000 := by omega
      have hu3 : (up : Int) ≤ 1000000 := by omega
      have htot := ord_str.tot y v
      clear hlo hup hcell hy htl hyt
      cases h1 : sle y v <;> cases h2 : sle v y
      · rw [h1, h2] at htot; cases htot
      all_goals (
        rw [h1] at hu1
        rw [h2] at hl1
        have HL1 := Lib.hid hl1
        have HU1 := Lib.hid hu1
        clear hl1 hu1 htot
        go_wp2_with fail
        refine (cmp62 y v _).mono ?_
        rintro e w' ⟨rfl, rfl⟩
        rw [h1, h2]
        simp only [cmpI]
        clear h1 h2
        go_wp2_with fail
        go_roundw
        case rel => exact ⟨t + 1, by omega, by go_num, by rw [HL1.out]; simp, by rw [HU1.out]; simp, rfl⟩
        case measure => simp [intOf]; omega)
    · obtain rfl : t = n := by omega
      have hzt : zs.take t = zs := List.take_of_length_le (by have := HN.out; omega)
      rw [hzt]
      clear hzt
      go_wp2_with fail
      go_ret2
      exact ⟨rfl, rfl⟩

def RankInv_i64 (zs : List (Int)) (v : Int) (n : Nat) (w : World) (i b u : Value) (wr : World) : Prop :=
  ∃ t : Nat, t ≤ n ∧ i = .int .i64 t ∧ b = .int .i64 (loOf ile (zs.take t) v) ∧ u = .int .i64 (upOf ile (zs.take t) v) ∧ wr = w
set_option maxRecDepth 100000 in
set_option maxHeartbeats 1600000 in
theorem rank_i64 (v : Int) (a : Option Addr) (n cap : Nat) (zs : List (Int)) (w : World) (hn : n = zs.length) (hcap : n ≤ cap) (hcm : cap ≤ 9223372036854775807) (hr : Reads w 1 a (zs.map fun z => [Value.int .i64 z])) (hb : n ≤ 1000000) :
    Calls Try.prog 42 #[Value.int .i64 v, .slice a n cap] w fun e w' => e = .returned (.tuple #[.int .i64 (loOf ile zs v), .int .i64 (upOf ile zs v)]) ∧ w = w' := by
  have HR := Lib.hid hr
  have HN := Lib.hid hn
  clear hr hn
  go_enter Try.func42, Try.ntmps42
  go_wp2_with fail
  go_loopw [10, 4, 5] (fun i b u wr => RankInv_i64 zs v n w i b u wr) (fun i _ _ _ => n - (intOf i).toNat)
  case atStart => exact ⟨0, by omega, rfl, rfl, rfl, rfl⟩
  case round =>
    obtain ⟨t, ht, rfl, rfl, rfl, rfl⟩ := hrel
    by_cases hlt : t < n
    · obtain ⟨y, hy⟩ : ∃ y, zs[t]? = some y := ⟨_, List.getElem?_eq_getElem (by rw [← HN.out]; exact hlt)⟩
      obtain ⟨bl, off, rfl, hcell⟩ := HR.out (by rw [List.length_map, ← HN.out]; omega)
      have e0 := hcell t [Value.int .i64 y] (by rw [List.getElem?_map, hy]; rfl) 0 _ rfl
      simp only [Nat.mul_one, Nat.add_zero] at e0
      have htn : (t : Int) < (n : Int) := by omega
      have hyt : zs.take (t + 1) = zs.take t ++ [y] := by rw [List.take_add_one, hy]; rfl
      have hl1 := lo_snoc (le := ile) (zs.take t) y v
      have hu1 := up_snoc (le := ile) (zs.take t) y v
      have hl2 := lo_le (le := ile) (zs.take t) v
      have hu2 := up_le (le := ile) (zs.take t) v
      have htl : (zs.take t).length = t := by rw [List.length_take, ← HN.out]; omega
      rw [← hyt] at hl1 hu1
      rw [htl] at hl2 hu2
      obtain ⟨lo, hlo⟩ : ∃ lo, lo = loOf ile (zs.take t) v := ⟨_, rfl⟩
      obtain ⟨up, hup⟩ : ∃ up, up = upOf ile (zs.take t) v := ⟨_, rfl⟩
      rw [← hlo] at hl1 hl2 ⊢
      rw [← hup] at hu1 hu2 ⊢
      have hl3 : (lo : Int) ≤ 1000000 := by omega
      have hu3 : (up : Int) ≤ 1000000 := by omega
      have htot := ord_int.tot y v
      clear hlo hup hcell hy htl hyt
      cases h1 : ile y v <;> cases h2 : ile v y
      · rw [h1, h2] at htot; cases htot
      all_goals (
        rw [h1] at hu1
        rw [h2] at hl1
        have HL1 := Lib.hid hl1
        have HU1 := Lib.hid hu1
        clear hl1 hu1 htot
        go_wp2_with fail
        refine (cmp63 y v _).mono ?_
        rintro e w' ⟨rfl, rfl⟩
        rw [h1, h2]
        simp only [cmpI]
        clear h1 h2
        go_wp2_with fail
        go_roundw
        case rel => exact ⟨t + 1, by omega, by go_num, by rw [HL1.out]; simp, by rw [HU1.out]; simp, rfl⟩
        case measure => simp [intOf]; omega)
    · obtain rfl : t = n := by omega
      have hzt : zs.take t = zs := List.take_of_length_le (by have := HN.out; omega)
      rw [hzt]
      clear hzt
      go_wp2_with fail
      go_ret2
      exact ⟨rfl, rfl⟩
end Go.Proofs.Ytnfnonphccnbkaa
