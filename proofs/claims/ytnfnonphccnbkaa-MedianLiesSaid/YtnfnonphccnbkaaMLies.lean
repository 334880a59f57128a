/- MedianLies: whatever fewer than half are turned into, what is told is between the others: the walk. -/
import Derived.Test.YtnfnonphccnbkaaEnds
set_option linter.unusedVariables false
namespace Go.Proofs.Ytnfnonphccnbkaa
open Go.RowKit Go.Chron Go.Lib

set_option maxRecDepth 100000 in
set_option maxHeartbeats 3200000 in
theorem medianLies_walk (a a2 : Option Addr) (n cap m cap2 : Nat) (zs ls : List Int) (w : World) (hI : IntsIn .i64 w a n cap zs) (hL : IntsIn .i64 w a2 m cap2 ls) :
    Calls Try.prog 15 #[.slice a n cap, .slice a2 m cap2] w fun e w' => e = .returned (.bool true) ∧ Below w.heap.size w w' := by
  obtain ⟨i0, hi, hz0, hz1, hz2⟩ := info_parts infom_i64
  have hcm := hI.capE
  have hle := hI.leE
  have hcm2 := hL.capE
  have hle2 := hL.leE
  have HI := Lib.hid hI
  have HN := Lib.hid hI.lenE
  have HLI := Lib.hid hL
  have HM := Lib.hid hL.lenE
  have hnil := hL.nilE
  clear hI hL
  go_enter Try.func15, Try.ntmps15
  go_wp2_with fail
  refine (alive30 _).mono ?_
  rintro e w1 ⟨rfl, c1⟩
  by_cases h100 : 100 < n
  · clear hnil
    go_wp2_with fail
    refine (alive30 _).mono ?_
    rintro e w2 ⟨rfl, c2⟩
    have c3 := Lib.hid (bel0 (Below.refl _ _) (c1.trans c2) (Nat.le_refl _))
    clear c1 c2
    go_wp2_with fail
    go_ret
    exact ⟨rfl, c3.out⟩
  · by_cases hnm : n ≤ m
    · clear hnil
      go_wp2_with fail
      refine (alive30 _).mono ?_
      rintro e w2 ⟨rfl, c2⟩
      have c3 := Lib.hid (bel0 (Below.refl _ _) (c1.trans c2) (Nat.le_refl _))
      clear c1 c2
      go_wp2_with fail
      go_ret
      exact ⟨rfl, c3.out⟩
    · have hmn : m < n := by omega
      have hmn' : (m : Int) < (n : Int) := by omega
      obtain ⟨bl, off, rfl, hbl, hcell⟩ := HI.out.cell (by omega)
      have hzl : zs.length ≤ 100 := by have := HN.out; omega
      have hll : ls.length ≤ 100 := by have := HM.out; omega
      have hk1a := c1.size
      clear hcell
      have HNIL := Lib.hid hnil
      clear hnil
      go_wp2_with (at_builtin; refine wpList_app_any (by rfl) (.tmp 26) (.tmp 27) 49 (by rfl) 2 i0 _ 1 8 Try.underlying49 hi hz0 hz1 hz2 rfl (by omega) _ w1.heap.size [] (by rfl) (owns_empty _ _ _) ⟨bl, off, none⟩ (zs.map fun z => [Value.int .i64 z]) n cap (by rfl) (by rw [List.length_map]; exact HN.out) ?_ (enc_each _ _) (enc_one _ _) (by simp; omega) (by simp [maxLen]; omega) ?_)
      · exact (HI.out.reads.chg (c1.alloc _) (fun _ _ h => h)).flat (enc_each _ _)
      · intro k1 cap1 w3 ho1 hc1 hk1
        rw [← HN.out] at ho1 ⊢
        have hk1w : w.heap.size ≤ k1 := by
          rcases hk1 with h | h
          · rw [← h]; exact hk1a
          · omega
        have c4 := (c1.alloc (Obj.cells #[] 2)).trans' hc1 (fun i hi e => by omega)
        clear c1 hc1 hk1
        obtain ⟨capq, hvq, hn1, hc1⟩ := ho1.some_form
        rw [List.length_map, ← HN.out] at hn1 hvq
        simp only [Value.slice.injEq] at hvq
        obtain ⟨-, -, rfl⟩ := hvq
        cases a2 with
        | none =>
          obtain ⟨rfl, rfl⟩ := HNIL.out rfl
          have hls : ls = [] := List.eq_nil_of_length_eq_zero HM.out.symm
          have HO : Hid (Reads w3 1 (some ⟨k1, 0, none⟩) ((zs ++ ls).map fun z => [Value.int .i64 z])) := Lib.hid (by rw [hls, List.append_nil]; exact ho1.reads)
          have c5 := c4
          clear ho1 c4 HNIL hls
          go_wp2_with fail
          refine (of_i64 (some ⟨k1, 0, none⟩) (n) cap1 (zs ++ ls) _ (by rw [List.length_append, ← HN.out, ← HM.out]; try rfl) (by simp) HO.out (by rw [List.length_append]; omega)).mono ?_
          rintro e w6 ⟨rfl, c6⟩
          rw [if_neg (by rw [List.length_append, ← HN.out]; omega)]
          have c7 := c5.trans c6
          clear c5 c6 HO
          go_wp2_with fail
          refine (spread37 (some ⟨bl, off, none⟩) n cap zs _ HN.out (by omega) hle hcm (HI.out.reads.chg c7 (fun _ _ h => h)) (by omega)).mono ?_
          rintro e w7 ⟨lo, hi', rfl, hlo, hhi, rfl⟩
          obtain ⟨d1, d2⟩ := med_between (honest := zs) (lies := ls) (by rw [← HN.out, ← HM.out]; exact hmn) hlo.2 hhi.2
          have c8 := Lib.hid (bel0 (Below.refl _ _) c7 (Nat.le_refl _))
          clear c7 hlo hhi
          generalize medOf (zs ++ ls) = md at d1 d2 ⊢
          go_wp2_with fail
          go_ret
          exact ⟨rfl, c8.out⟩
        | some ad2 =>
          clear hn1 hc1
          go_wp2_with (at_builtin; refine wpList_app_any (by rfl) (.tmp 28) (.tmp 29) 49 (by rfl) 2 i0 _ 1 8 Try.underlying49 hi hz0 hz1 hz2 rfl (by omega) _ k1 (zs.map fun z => [Value.int .i64 z]) (by rfl) ho1 ad2 (ls.map fun z => [Value.int .i64 z]) m cap2 (by rfl) (by rw [List.length_map]; exact HM.out) ?_ (enc_each _ _) (enc_one _ _) (by simp; omega) (by simp [maxLen]; omega) ?_)
          · exact (HLI.out.reads.chg c4 (fun _ _ h => h)).flat (enc_each _ _)
          · intro k2 capb w4 ho2 hc2 hk2
            rw [← HN.out, ← HM.out, ← List.map_append] at ho2
            rw [← HN.out, ← HM.out]
            have c5 := c4.trans' hc2 (fun i hi e => by omega)
            have HO := Lib.hid ho2.reads
            clear hc2 c4 ho1 hk2 ho2
            go_wp2_with fail
            refine (of_i64 (some ⟨k2, 0, none⟩) (n + m) capb (zs ++ ls) _ (by rw [List.length_append, ← HN.out, ← HM.out]; try rfl) (by simp) HO.out (by rw [List.length_append]; omega)).mono ?_
            rintro e w6 ⟨rfl, c6⟩
            rw [if_neg (by rw [List.length_append, ← HN.out]; omega)]
            have c7 := c5.trans c6
            clear c5 c6 HO
            go_wp2_with fail
            refine (spread37 (some ⟨bl, off, none⟩) n cap zs _ HN.out (by omega) hle hcm (HI.out.reads.chg c7 (fun _ _ h => h)) (by omega)).mono ?_
            rintro e w7 ⟨lo, hi', rfl, hlo, hhi, rfl⟩
            obtain ⟨d1, d2⟩ := med_between (honest := zs) (lies := ls) (by rw [← HN.out, ← HM.out]; exact hmn) hlo.2 hhi.2
            have c8 := Lib.hid (bel0 (Below.refl _ _) c7 (Nat.le_refl _))
            clear c7 hlo hhi
            generalize medOf (zs ++ ls) = md at d1 d2 ⊢
            go_wp2_with fail
            go_ret
            exact ⟨rfl, c8.out⟩

theorem medianLies_all (a a2 : Option Addr) (n cap m cap2 : Nat) (els els2 : List (List Value)) (w : World) (hI : FlatIn [.int .i64] w a n cap els) (hS : FlatIn [.int .i64] w a2 m cap2 els2) :
    Calls Try.prog 15 #[.slice a n cap, .slice a2 m cap2] w fun e w' => e = .returned (.bool true) ∧ Below w.heap.size w w' := by
  obtain ⟨zs, h⟩ := ints_in hI
  obtain ⟨ls, h2⟩ := ints_in hS
  exact medianLies_walk a a2 n cap m cap2 zs ls w h h2
end Go.Proofs.Ytnfnonphccnbkaa
