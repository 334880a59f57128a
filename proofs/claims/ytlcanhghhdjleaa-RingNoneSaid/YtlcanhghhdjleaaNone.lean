/- RingNone: how many may be kept; of no ring nothing is told: the walk. -/
import Derived.Test.YtlcanhghhdjleaaAlive
import Derived.Test.YtlcanhghhdjleaaRingstr
import Derived.Test.YtlcanhghhdjleaaRingints
import Derived.Test.YtlcanhghhdjleaaMost
set_option linter.unusedVariables false
namespace Go.Proofs.Ytlcanhghhdjleaa
open Go.RowKit Go.Chron

theorem newBad_ints (n : Int) (h : n < 1 ∨ 64 < n) (w : World) :
    Calls Try.prog 35 #[.int .i64 n] w fun e w' => e = .returned (.tuple #[.pointer none, .int .i64 3]) ∧ w = w' := by
  rcases h with h | h
  · go_enter Try.func35, Try.ntmps35
    go_wp2
    go_ret2
    exact ⟨rfl, rfl⟩
  · have h' : ¬ n < 1 := by omega
    go_enter Try.func35, Try.ntmps35
    go_wp2
    go_ret2
    exact ⟨rfl, rfl⟩

set_option maxRecDepth 100000 in
set_option maxHeartbeats 3200000 in
theorem ringNone_walk (n : Int) (x : ByteArray) (w : World) (wn : (Lit.int .i64 n).wf = true) :
    Calls Try.prog 7 #[.int .i64 n, .string x] w fun e w' => e = .returned (.bool true) ∧ Below w.heap.size w w' := by
  go_enter Try.func7, Try.ntmps7
  go_wp2_with fail
  refine (clearNil_str w).mono ?_
  rintro e w' ⟨rfl, rfl⟩
  go_wp2_with fail
  refine (lastNil_str w).mono ?_
  rintro e w1 ⟨rfl, c1⟩
  go_wp2_with fail
  refine (addNil_str x w1).mono ?_
  rintro e w2 ⟨rfl, c2⟩
  have hB : Below w.heap.size w w2 := bel0 (bel0 (Below.refl _ _) c1 (Nat.le_refl _)) c2 (Nat.le_refl _)
  clear c1 c2
  have HB := Lib.hid hB
  clear hB
  go_wp2_with fail
  refine (allNil_str w2).mono ?_
  rintro e w' ⟨rfl, rfl⟩
  go_wp2_with fail
  refine (lenNil_str w2).mono ?_
  rintro e w' ⟨rfl, rfl⟩
  go_wp2_with fail
  refine (countNil_str w2).mono ?_
  rintro e w' ⟨rfl, rfl⟩
  rcases (show n < 1 ∨ (1 ≤ n ∧ 64 < n) ∨ (1 ≤ n ∧ n ≤ 64) by omega) with h | ⟨h1, h⟩ | ⟨h1, h⟩
  · go_wp2_with fail
    refine (newBad_ints n (.inl h) w2).mono ?_
    rintro e w' ⟨rfl, rfl⟩
    go_wp2_with fail
    refine (alive w2).mono ?_
    rintro e w3 ⟨rfl, c3⟩
    have HB3 := Lib.hid (bel0 HB.out c3 (Nat.le_refl _))
    clear c3
    go_wp2_with fail
    go_ret
    exact ⟨rfl, HB3.out⟩
  · have h' : ¬ n < 1 := by omega
    go_wp2_with fail
    refine (newBad_ints n (.inr h) w2).mono ?_
    rintro e w' ⟨rfl, rfl⟩
    go_wp2_with fail
    refine (alive w2).mono ?_
    rintro e w3 ⟨rfl, c3⟩
    have HB3 := Lib.hid (bel0 HB.out c3 (Nat.le_refl _))
    clear c3
    go_wp2_with fail
    go_ret
    exact ⟨rfl, HB3.out⟩
  · obtain ⟨m, rfl⟩ : ∃ m : Nat, n = (m : Int) := ⟨n.toNat, by omega⟩
    go_wp2_with fail
    refine (new_ints m (by omega) (by omega) w2).mono ?_
    rintro e w3 ⟨rfl, r3, c3⟩
    go_wp2_with fail
    refine (lastNone_ints _ none m 0 w3 r3).mono ?_
    rintro e w4 ⟨rfl, c4⟩
    have r4 := r3.chg0 c4
    go_wp2_with fail
    refine (alive w4).mono ?_
    rintro e w5 ⟨rfl, c5⟩
    have r5 := r4.chg0 c5
    go_wp2_with fail
    refine (len_ints _ none m 0 [] w5 r5).mono ?_
    rintro e w' ⟨rfl, rfl⟩
    go_wp2_with fail
    have r6 := r5.chg0 (chg0_alloc w5 (.cells #[.int .i64 1] 3))
    refine (add_ints _ none m 0 [] (some ⟨w5.heap.size, 0, none⟩) 1 1 _ r6 (by omega) (by omega) (by omega)).mono ?_
    rintro e w7 ⟨rfl, k7, r7, c7, h7⟩
    have HB7 := Lib.hid (below_chg (bel0 (bel0 (bel0 (bel0 HB.out c3 (Nat.le_refl _)) c4 (Nat.le_refl _)) c5 (Nat.le_refl _)) (chg0_alloc w5 (.cells #[.int .i64 1] 3)) (Nat.le_refl _)) c7 (Nat.le_refl _) (fun j hj h => by have := HB.out.size; rcases h with h | h; omega; cases h))
    clear r3 c3 r4 c4 r5 c5 r6 c7 h7
    go_wp2_with fail
    refine (len_ints _ (some k7) m 1 _ w7 r7).mono ?_
    rintro e w' ⟨rfl, rfl⟩
    have hl : (rpush m ([] : List (List Value)) [.slice (some ⟨w5.heap.size, 0, none⟩) 1 1]).length = 1 := by rw [rpush_len (by simp) (by omega)]; simp; omega
    rw [hl]
    clear r7 hl
    go_wp2_with fail
    go_ret
    exact ⟨rfl, HB7.out⟩
end Go.Proofs.Ytlcanhghhdjleaa
