/- slices.Sort at uint8: the whole. -/
import Derived.Test.YtiflogohalceaaaGreatSAB
import Derived.Test.YtiflogohalceaaaGreatSCB
import Derived.Test.YtiflogohalceaaaGreatSDB
import Derived.Test.YtiflogohalceaaaGreatSEB
import Derived.Test.YtiflogohalceaaaGreatSFB
import Derived.Sort.AssemblyPlain
import Derived.Sort.WalkA14
set_option linter.unusedVariables false
set_option linter.unusedSectionVars false
namespace Go.Proofs.YtiflogohalceaaaGreat
open Go.RowKit Go.Sort

theorem insertionSort_B_nil (p : Option Addr) (cap : Nat) (w : World) :
    Calls Tryz.prog 54 #[.slice p 0 cap, .int .i64 0, .int .i64 0] w fun e w' => e = .returned (.tuple #[]) ∧ w' = w := by
  go_enter Tryz.func54, Tryz.ntmps54
  go_wp2
  refine wp_loop_rounds 1 ?_
  rw [rounds_succ]
  go_wp2
  go_end0
  exact ⟨rfl, rfl⟩

set_option maxRecDepth 100000 in
theorem pdqsort_B_nil (p : Option Addr) (cap : Nat) (w : World) :
    Calls Tryz.prog 31 #[.slice p 0 cap, .int .i64 0, .int .i64 0, .int .i64 0] w fun e w' => e = .returned (.tuple #[]) ∧ w' = w := by
  go_enter Tryz.func31, Tryz.ntmps31
  go_wp2
  refine wp_loop_rounds 1 ?_
  rw [rounds_succ]
  go_wp2_with (first | (go_at_call 54; refine (insertionSort_B_nil p cap _).mono ?_; rintro e w' ⟨rfl, rfl⟩))
  refine bodyPost_ret (results_none rfl _ _ _) rfl ?_
  exact ⟨rfl, rfl⟩

set_option maxRecDepth 100000 in
theorem Sort_B_nil (p : Option Addr) (cap : Nat) (w : World) :
    Calls Tryz.prog 23 #[.slice p 0 cap] w fun e w' => e = .returned (.tuple #[]) ∧ w' = w := by
  have hLen : ∀ w, Calls Tryz.prog 29 #[.int .u64 0] w fun e w' => e = .returned (.int .i64 0) ∧ w' = w := fun w => bits_Len 0 w (by omega) (by omega)
  go_enter Tryz.func23, Tryz.ntmps23
  go_wp2_with (first
    | (go_at_call 29; refine (hLen _).mono ?_; rintro e w' ⟨rfl, rfl⟩)
    | (go_at_call 31; refine (pdqsort_B_nil p cap _).mono ?_; rintro e w' ⟨rfl, rfl⟩))
  go_end0
  exact ⟨rfl, rfl⟩


def pdqWalk_B : Prop := ∀ (blk off cap a b limit : Nat) (d : Array Int) (w : World), Holds encB w blk off d → blk < w.heap.size → a ≤ b → b ≤ d.size → d.size < 4611686018427387904 → limit < 4611686018427387904 → Below ltInt a b d →
  Calls Tryz.prog 31 #[.slice (some ⟨blk, off, none⟩) d.size cap, .int .i64 a, .int .i64 b, .int .i64 limit] w fun e w' =>
    e = .returned (.tuple #[]) ∧ ∃ n os, w' = grow (putRow encB (Sort.ahead w n) blk off (Sort.pdq ltInt d a b limit true true)) os


set_option maxRecDepth 100000 in
theorem Sort_B (hpdq : pdqWalk_B) (blk off cap : Nat) (d : Array Int) (w : World) (hH : Holds encB w blk off d) (hblk : blk < w.heap.size) (hsz : d.size < 4611686018427387904) :
    Calls Tryz.prog 23 #[.slice (some ⟨blk, off, none⟩) d.size cap] w fun e w' => e = .returned (.tuple #[]) ∧ ∃ n os, w' = grow (putRow encB (Sort.ahead w n) blk off (Sort.sort ltInt d)) os := by
  have HH : Hid (Holds encB w blk off d) := hH
  clear hH
  have hLen : ∀ w, Calls Tryz.prog 29 #[.int .u64 (d.size : Int)] w fun e w' => e = .returned (.int .i64 (bitsLen d.size : Nat)) ∧ w' = w := fun w => by
    have h := bits_Len (d.size : Int) w (by omega) (by omega)
    rwa [Int.toNat_natCast, bitLen_eq _ (by omega)] at h
  have hk : bitsLen d.size ≤ 62 := (bitsLen_le_iff d.size 62).2 (by omega)
  go_enter Tryz.func23, Tryz.ntmps23
  go_wp2_with (first
    | (go_at_call 29; refine (hLen _).mono ?_; rintro e w' ⟨rfl, rfl⟩)
    | (go_at_call 31; refine (hpdq blk off cap 0 d.size (bitsLen d.size) d _ (by exact HH.out) (by exact hblk) (Nat.zero_le _) (Nat.le_refl _) hsz (by omega) (Or.inl rfl)).mono ?_; rintro e w' ⟨rfl, n, os, rfl⟩))
  go_end0
  exact ⟨rfl, n, os, rfl⟩


theorem callees13B : Callees13B where
  ins := insertionSort_B
  brk := breakPatterns_B
  piv := choosePivot_B
  par := partialInsertionSort_B
  peq := partitionEqualOrdered_B
  prt := partitionOrdered_B

theorem plain13B : Plain13B where
  swo := swo_ltInt
  ins := insertionSort_holds
  par := partialInsertionSort_holds
  prt := partition_holds _
  peq := partitionEqual_holds _
  pdq := pdq_sorts _

theorem pdqWalkB : pdqWalk_B := fun blk off cap a b limit d w hH hb hab hbd hsz hl hB =>
  pdqsort_B callees13B plain13B (b - a + 1) blk off cap a b limit d w (by omega) hH hb hab hbd hsz hl hB


end Go.Proofs.YtiflogohalceaaaGreat
