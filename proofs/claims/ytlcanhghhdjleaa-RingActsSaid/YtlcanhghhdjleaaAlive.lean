/- The document's example of package ring holds: chronobatelaw09.alive returns true and leaves what was there as it was. -/
import Derived.Test.YtlcanhghhdjleaaRingint
namespace Go.Proofs.Ytlcanhghhdjleaa
open Go.RowKit Go.Chron

set_option maxRecDepth 100000 in
set_option maxHeartbeats 1600000 in
theorem alive (w : World) : Calls Try.prog 10 #[] w fun e w' => e = .returned (.bool true) ∧ Chg (fun _ => False) w w' := by
  go_enter Try.func10, Try.ntmps10
  go_wp2_with fail
  refine (new_int 2 (by omega) (by omega) w).mono ?_
  rintro e w1 ⟨rfl, hr1, hc1⟩
  go_wp2_with fail
  refine (add_int w.heap.size none 2 0 [] 1 w1 hr1 (by omega) (by omega) (by omega)).mono ?_
  rintro e w2 ⟨rfl, k2, hr2, hc2, hk2⟩
  go_wp2_with fail
  refine (add_int w.heap.size (some k2) 2 1 _ 2 w2 hr2 (by omega) (by omega) (by omega)).mono ?_
  rintro e w3 ⟨rfl, k3, hr3, hc3, hk3⟩
  go_wp2_with fail
  refine (add_int w.heap.size (some k3) 2 2 _ 3 w3 hr3 (by omega) (by omega) (by omega)).mono ?_
  rintro e w4 ⟨rfl, k4, hr4, hc4, hk4⟩
  go_wp2_with fail
  refine (all_int w.heap.size (some k4) 2 3 _ w4 hr4 (by omega)).mono ?_
  have hl : rpush 2 (rpush 2 (rpush 2 ([] : List (List Value)) [.int .i64 1]) [.int .i64 2]) [.int .i64 3] = [[.int .i64 2], [.int .i64 3]] := by simp [rpush]
  rintro e w5 ⟨a, cap, g, rfl, ho, hc5, hg⟩
  rw [hl] at ho ⊢
  obtain ⟨k, rfl⟩ := ho.pos (by simp)
  obtain ⟨cap', hv, h1, h2⟩ := ho.some_form
  have c0 := ho.cell rfl (i := 0) rfl (j := 0) rfl
  have c1 := ho.cell rfl (i := 1) rfl (j := 0) rfl
  simp at hv c0 c1 h1
  obtain ⟨rfl, rfl⟩ := hv
  have hc1' : (1 : Int) < (cap : Int) := by omega
  have hB : Below w.heap.size w w5 := by
    have b1 : Below w.heap.size w w1 := below_chg (Below.refl _ _) hc1 (Nat.le_refl _) (fun _ _ h => h)
    have s1 := b1.size
    have b2 := below_chg b1 hc2 (Nat.le_refl _) (fun k hk h => by rcases h with h | h; omega; cases h)
    have s2 := b2.size
    have k2B : w.heap.size ≤ k2 := by rcases hk2 with h | h; cases h; omega
    have b3 := below_chg b2 hc3 (Nat.le_refl _) (fun k hk h => by rcases h with h | h; omega; cases h; omega)
    have s3 := b3.size
    have k3B : w.heap.size ≤ k3 := by rcases hk3 with h | h; (cases h; omega); omega
    have b4 := below_chg b3 hc4 (Nat.le_refl _) (fun k hk h => by rcases h with h | h; omega; cases h; omega)
    exact below_chg b4 hc5 (Nat.le_refl _) (fun _ _ h => h)
  have HB := Lib.hid hB
  clear hr1 hr2 hr3 hr4 hc1 hc2 hc3 hc4 hc5 hk2 hk3 hk4 hl hg ho hB
  go_wp2_with fail
  go_ret
  exact ⟨rfl, (Chg.of_below HB.out).mono (fun i hi h => by omega)⟩
end Go.Proofs.Ytlcanhghhdjleaa
