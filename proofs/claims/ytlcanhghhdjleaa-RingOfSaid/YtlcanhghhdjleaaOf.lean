/- RingOf: rings of structs and of pointers keep the last things that were added: the walk. -/
import Derived.Test.YtlcanhghhdjleaaAlive
import Derived.Test.YtlcanhghhdjleaaRingpair
import Derived.Test.YtlcanhghhdjleaaRingptr
import Derived.Lib.Builder
import Derived.Test.YtlcanhghhdjleaaArgs
set_option linter.unusedVariables false
namespace Go.Proofs.Ytlcanhghhdjleaa
open Go.RowKit Go.Chron

theorem info21 : ∃ j, Try.prog.info? 21 = some j := Option.isSome_iff_exists.1 (by kernel_rfl)

/-- What holds at each round's head. -/
def OfInv (w : World) (b1 b2 len : Nat) (i : Value) (wr : World) : Prop :=
  ∃ (k : Nat) (g1 g2 : Option Nat) (e1 e2 : List (List Value)), k ≤ len ∧ i = .int .i64 k ∧ RingAt 82 28 2 wr b1 g1 3 k e1 ∧ e1.length = min 3 k ∧ RingAt 85 32 1 wr b2 g2 2 k e2 ∧ e2.length = min 2 k ∧
    (∀ j, g1 = some j → w.heap.size ≤ j) ∧ (∀ j, g2 = some j → w.heap.size ≤ j) ∧ Below w.heap.size w wr

set_option maxRecDepth 100000 in
set_option maxHeartbeats 3200000 in
theorem ringOf_walk (a : Option Addr) (len cap : Nat) (zs : List Int) (w : World) (hI : IntsIn .i32 w a len cap zs) :
    Calls Try.prog 3 #[.slice a len cap] w fun e w' => e = .returned (.bool true) ∧ Below w.heap.size w w' := by
  obtain ⟨j32, hj32⟩ : ∃ j, Try.prog.info? 21 = some j := info21
  have hc := hI.leE
  have hcm := hI.capE
  have HI := Lib.hid hI
  have HL := Lib.hid hI.lenE
  clear hI
  go_enter Try.func3, Try.ntmps3
  go_wp2_with fail
  refine (new_pair 3 (by omega) (by omega) w).mono ?_
  rintro e w1 ⟨rfl, hr1, hc1⟩
  go_wp2_with fail
  refine (new_ptr 2 (by omega) (by omega) w1).mono ?_
  rintro e w2 ⟨rfl, hr2, hc2⟩
  go_wp2_with fail
  refine (alive w2).mono ?_
  rintro e w3 ⟨rfl, hc3⟩
  have s1 := hc1.size
  have s2 := hc2.size
  have s3 := hc3.size
  have hB : Below w.heap.size w w3 :=
    below_chg (below_chg (below_chg (Below.refl _ _) hc1 (Nat.le_refl _) (fun _ _ h => h)) hc2 (Nat.le_refl _) (fun _ _ h => h)) hc3 (Nat.le_refl _) (fun _ _ h => h)
  have R1 := (hr1.chg hc2 (fun h => h) (fun _ _ h => h)).chg hc3 (fun h => h) (fun _ _ h => h)
  have R2 := hr2.chg hc3 (fun h => h) (fun _ _ h => h)
  clear hr1 hr2 hc1 hc2 hc3
  by_cases hlen : 200 < len
  · go_wp2_with fail
    refine (alive w3).mono ?_
    rintro e w4 ⟨rfl, hc4⟩
    have hB4 := Lib.hid (below_chg hB hc4 (Nat.le_refl _) (fun _ _ h => h))
    clear hB hc4
    go_wp2_with fail
    go_ret
    exact ⟨rfl, hB4.out⟩
  · go_wp2_with fail
    go_loopw [48] (fun i wr => OfInv w w.heap.size w1.heap.size len i wr) (fun i _ => len - (intOf i).toNat)
    case atStart => exact ⟨0, none, none, [], [], by omega, rfl, R1, rfl, R2, rfl, by simp, by simp, hB⟩
    case round =>
      obtain ⟨k, g1, g2, e1, e2, hk, rfl, r1, l1, r2, l2, hg1, hg2, hb⟩ := hrel
      clear R1 R2 hB
      by_cases hlt : k < len
      · obtain ⟨b, off, rfl, hbw, hcell⟩ := HI.out.cell (by omega)
        obtain ⟨x, hx⟩ : ∃ x, zs[k]? = some x := ⟨_, List.getElem?_eq_getElem (by rw [← HL.out]; exact hlt)⟩
        have hcw := hcell k x hx
        have hcr : wr.cell? ⟨b, off + k, none⟩ = some (.int .i32 x) := (hb.cell hbw).trans hcw
        have hk0 : (0 : Int) ≤ (k : Int) := by omega
        have hk1 : (k : Int) < (len : Int) := by omega
        have HX := Lib.hid hx
        clear hcell hx hcw
        have hz := hb.size
        have hnp := fun (w : World) => Lib.run_neq_ptr_same (P := Try.prog) w (j := j32) ⟨wr.heap.size, 0, none⟩ Try.underlying32 hj32
        go_wp2_with fail
        have q1 := r1.chg ((Chg.refl (fun _ => False) wr).alloc (.cells #[.int .i32 x] 21)) (fun h => h) (fun _ _ h => h)
        have q2 := r2.chg ((Chg.refl (fun _ => False) wr).alloc (.cells #[.int .i32 x] 21)) (fun h => h) (fun _ _ h => h)
        refine (add_pair _ g1 3 k e1 x (wrap32 (-x)) _ q1 (by omega) (by omega) (by omega)).mono ?_
        rintro e wA ⟨rfl, kA, rA, cA, hA⟩
        obtain ⟨p1, p2, p3, p4⟩ := rings_apart q1 q2 (by decide) (by decide) (by decide) (by decide)
        have q3 := q2.chg cA (fun h => by rcases h with h | h; exact p1 h.symm; exact p2 h) (fun j hj h => by rcases h with h | h; (rw [h] at hj; exact p3 hj); exact p4 j h hj)
        go_wp2_with fail
        refine (add_ptr _ g2 2 k e2 (some ⟨wr.heap.size, 0, none⟩) _ q3 (by omega) (by omega) (by omega)).mono ?_
        rintro e wB ⟨rfl, kB, rB, cB, hB⟩
        obtain ⟨s1, s2, s3, s4⟩ := rings_apart rA q3 (by decide) (by decide) (by decide) (by decide)
        have q4 := rA.chg cB (fun h => by rcases h with h | h; exact s1 h; exact s3 h) (fun j hj h => by rcases h with h | h; (rw [h] at hj; exact s2 hj); exact s4 j hj h)
        have hbB : Below w.heap.size w wB := by
          have b1 := below_chg hb ((Chg.refl (fun _ => False) wr).alloc (.cells #[.int .i32 x] 21)) (Nat.le_refl _) (fun _ _ h => h)
          have b2 := below_chg b1 cA (Nat.le_refl _) (fun j hj h => by rcases h with h | h; omega; have := hg1 j h; omega)
          exact below_chg b2 cB (Nat.le_refl _) (fun j hj h => by rcases h with h | h; omega; have := hg2 j h; omega)
        have hkA : w.heap.size ≤ kA := by rcases hA with h | h; exact hg1 _ h; (simp at h; omega)
        have hkB : w.heap.size ≤ kB := by rcases hB with h | h; exact hg2 _ h; (have := cA.size; simp at this; omega)
        clear q1 q2 q3 rA cA cB hA hB p1 p2 p3 p4 s1 s2 s3 s4 r1 r2 hg1 hg2 hb
        go_wp2_with fail
        refine (last_pair _ (some kA) 3 (k + 1) _ x (wrap32 (-x)) _ q4 (rpush_last _ _ _) (by omega)).mono ?_
        rintro e wC ⟨rfl, cC⟩
        have q5 := (q4.chg cC (fun h => h) (fun _ _ h => h)).chg ((Chg.refl (fun _ => False) wC).alloc (.cells #[.int .i32 x, .int .i32 (wrap32 (-x))] 28)) (fun h => h) (fun _ _ h => h)
        have q6 := (rB.chg cC (fun h => h) (fun _ _ h => h)).chg ((Chg.refl (fun _ => False) wC).alloc (.cells #[.int .i32 x, .int .i32 (wrap32 (-x))] 28)) (fun h => h) (fun _ _ h => h)
        have hbC := below_chg (below_chg hbB cC (Nat.le_refl _) (fun _ _ h => h)) ((Chg.refl (fun _ => False) wC).alloc (.cells #[.int .i32 x, .int .i32 (wrap32 (-x))] 28)) (Nat.le_refl _) (fun _ _ h => h)
        clear q4 rB cC hbB
        go_wp2_with fail
        refine (last_ptr _ (some kB) 2 (k + 1) _ _ _ q6 (rpush_last _ _ _) (by omega)).mono ?_
        rintro e wD ⟨rfl, nD, rfl⟩
        go_wp2_with fail
        go_roundw
        case rel => exact ⟨k + 1, some kA, some kB, _, _, by omega, by go_num, q5.chg ((Chg.refl (fun _ => False) _).drewN nD) (fun h => h) (fun _ _ h => h), by rw [rpush_len (by omega) (by omega), l1]; omega,
          q6.chg ((Chg.refl (fun _ => False) _).drewN nD) (fun h => h) (fun _ _ h => h), by rw [rpush_len (by omega) (by omega), l2]; omega, by intro j h; cases h; exact hkA, by intro j h; cases h; exact hkB,
          below_chg hbC ((Chg.refl (fun _ => False) _).drewN nD) (Nat.le_refl _) (fun _ _ h => h)⟩
        case measure => simp [intOf]; omega
      · have hkl : k = len := by omega
        have HB := Lib.hid hb
        clear hb hg1 hg2
        rcases (show 3 ≤ len ∨ (len < 3 ∧ 2 ≤ len) ∨ len < 2 by omega) with h | ⟨h, h'⟩ | h
        · have t1 : ((e1.length : Int) == 3) = true := by rw [beq_iff_eq]; omega
          have t2 : ((e2.length : Int) == 2) = true := by rw [beq_iff_eq]; omega
          clear l1 l2
          go_wp2_with (first | (go_at_call 15; refine (len_pair _ g1 3 k e1 _ r1).mono ?_; rintro e w' ⟨rfl, rfl⟩) | (go_at_call 16; refine (len_ptr _ g2 2 k e2 _ r2).mono ?_; rintro e w' ⟨rfl, rfl⟩))
          go_ret
          exact ⟨rfl, HB.out⟩
        · have t1 : ((e1.length : Int) == (len : Int)) = true := by rw [beq_iff_eq]; omega
          have t2 : ((e2.length : Int) == 2) = true := by rw [beq_iff_eq]; omega
          clear l1 l2
          go_wp2_with (first | (go_at_call 15; refine (len_pair _ g1 3 k e1 _ r1).mono ?_; rintro e w' ⟨rfl, rfl⟩) | (go_at_call 16; refine (len_ptr _ g2 2 k e2 _ r2).mono ?_; rintro e w' ⟨rfl, rfl⟩))
          go_ret
          exact ⟨rfl, HB.out⟩
        · have t1 : ((e1.length : Int) == (len : Int)) = true := by rw [beq_iff_eq]; omega
          have t2 : ((e2.length : Int) == (len : Int)) = true := by rw [beq_iff_eq]; omega
          clear l1 l2
          go_wp2_with (first | (go_at_call 15; refine (len_pair _ g1 3 k e1 _ r1).mono ?_; rintro e w' ⟨rfl, rfl⟩) | (go_at_call 16; refine (len_ptr _ g2 2 k e2 _ r2).mono ?_; rintro e w' ⟨rfl, rfl⟩))
          go_ret
          exact ⟨rfl, HB.out⟩
end Go.Proofs.Ytlcanhghhdjleaa
