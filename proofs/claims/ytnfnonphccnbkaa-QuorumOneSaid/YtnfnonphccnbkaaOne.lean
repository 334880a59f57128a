/- QuorumOne: of votes that all say the same, that is chosen; one more of them changes nothing: the walk. -/
import Derived.Test.YtnfnonphccnbkaaVote
import Derived.Deep.RegionHeld3
set_option linter.unusedVariables false
namespace Go.Chron
open Go Go.RowKit
theorem med_same (m : Nat) (x : Int) : medOf (List.replicate (m + 1) x) = x := List.eq_of_mem_replicate (med_mem (l := List.replicate (m + 1) x) (by simp))
theorem ch_same {q : Int} {m : Nat} {x : Int} (h1 : 1 ≤ q) (h2 : q ≤ (m : Int) + 1) : chOf q (List.replicate (m + 1) x) = (x, 0) := by
  unfold chOf
  rw [if_neg (by omega), if_neg (by rw [List.length_replicate]; omega), med_same]
end Go.Chron
namespace Go.Proofs.Ytnfnonphccnbkaa
open Go.RowKit Go.Chron

def OneInv (w : World) (x : Int) (K : Nat) (i v : Value) (wr : World) : Prop :=
  ∃ (j : Nat) (g : Option Nat), j ≤ K ∧ i = .int .i64 j ∧ Owns wr 2 1 v g ((List.replicate j x).map fun z => [Value.int .i64 z]) ∧ (∀ k, g = some k → w.heap.size ≤ k) ∧ Chg (fun _ => False) w wr

set_option maxRecDepth 100000 in
set_option maxHeartbeats 3200000 in
theorem quorumOne_walk (x n q : Int) (w : World) (hx : (Lit.int .i64 x).wf = true) (hn : (Lit.int .u8 n).wf = true) (hq : (Lit.int .u8 q).wf = true) :
    Calls Try.prog 14 #[.int .i64 x, .int .u8 n, .int .u8 q] w fun e w' => e = .returned (.bool true) ∧ Below w.heap.size w w' := by
  have b8 : ∀ x : Int, (Lit.int .u8 x).wf = true → 0 ≤ x ∧ x ≤ 255 := fun x hx => by
    simp only [Lit.wf, IntKind.min, IntKind.max, IntKind.signed, IntKind.bits, Bool.and_eq_true] at hx
    simp at hx
    omega
  obtain ⟨q1, q2⟩ := b8 q hq
  obtain ⟨n1, n2⟩ := b8 n hn
  obtain ⟨i0, hi, hz0, hz1, hz2⟩ := info_parts infom_i64
  clear hx hn hq b8
  obtain ⟨m, hm⟩ : ∃ m : Nat, n % 20 = (m : Int) := ⟨(n % 20).toNat, by omega⟩
  have hm20 : m < 20 := by omega
  have hmt : n.tmod 20 = (m : Int) := by rw [Int.tmod_eq_emod_of_nonneg n1]; exact hm
  have hk0 : (1 : Int) + (m : Int) = (m : Int) + 1 := by omega
  obtain ⟨r, hr⟩ : ∃ r : Int, r = q % ((m : Int) + 1) := ⟨_, rfl⟩
  have hrt : q.tmod ((m : Int) + 1) = r := by rw [Int.tmod_eq_emod_of_nonneg q1]; exact hr.symm
  have r1 : 0 ≤ r := by rw [hr]; exact Int.emod_nonneg _ (by omega)
  have r2 : r < (m : Int) + 1 := by rw [hr]; exact Int.emod_lt_of_pos _ (by omega)
  clear hm hr
  go_enter Try.func14, Try.ntmps14
  go_wp2_with fail
  go_loopw [18, 8] (fun i v wr => OneInv w x (m + 1) i v wr) (fun i _ _ => (m + 1) - (intOf i).toNat)
  case atStart => exact ⟨0, none, by omega, rfl, Owns.nil _ _ _, by simp, Chg.refl _ _⟩
  case round =>
    obtain ⟨j, g, hj, rfl, o1, g1, c1⟩ := hrel
    by_cases hlt : j < m + 1
    · have hjm : (j : Int) < (m : Int) + 1 := by omega
      obtain ⟨A, hA⟩ : ∃ A, A = List.replicate j x := ⟨_, rfl⟩
      have hA1 : List.replicate (j + 1) x = A ++ [x] := by rw [hA]; exact List.replicate_succ'
      have hAl : A.length ≤ 100 := by rw [hA, List.length_replicate]; omega
      rw [← hA] at o1
      have HA1 := Lib.hid hA1
      have o2 := o1.chg (chg0_alloc wr (Obj.cells #[Value.int IntKind.i64 x] 2)) (fun _ _ h => h)
      have bX := Blk.new wr 2 #[Value.int IntKind.i64 x]
      have HG := Lib.hid g1
      clear o1 hA hA1 g1
      go_wp2_with (at_builtin; refine wpList_app (by rfl) (.tmp 20) (.tmp 22) 49 (by rfl) 2 i0 _ 1 8 Try.underlying49 hi hz0 hz1 hz2 rfl (by omega) _ _ _ (by rfl) o2 _ 2 [[Value.int .i64 x]] 1 1 (by rfl) (by rfl) bX (by simp) (by simp [Value.oneCell']) (by simp) (by simp; omega) (by simp [maxLen]; omega) ?_)
      intro k2 cap2 w2 ho hc hk
      have hs := c1.size
      have hk' : g = some k2 ∨ wr.heap.size + 1 ≤ k2 := by simpa using hk
      have ho' : Owns w2 2 1 (.slice (some ⟨k2, 0, none⟩) (A.length + 1) cap2) (some k2) ((A ++ [x]).map fun z => [Value.int .i64 z]) := by rw [List.map_append]; exact ho
      have c2 : Chg (fun _ => False) w w2 := (c1.alloc _).trans' hc (fun i hi e => by have := HG.out i e; omega)
      have g2 : ∀ k, some k2 = some k → w.heap.size ≤ k := fun k e => by
        cases e
        rcases hk' with h | h
        · exact HG.out _ h
        · omega
      have HO := Lib.hid ho'
      have HG2 := Lib.hid g2
      have HC2 := Lib.hid c2
      clear o2 bX ho hc hk ho' g2 c2 hs hk'
      go_wp2_with fail
      go_roundw
      case rel => exact ⟨j + 1, some k2, by omega, by go_num, by rw [HA1.out]; exact HO.out, HG2.out, HC2.out⟩
      case measure => simp [intOf]; omega
    · obtain rfl : j = m + 1 := by omega
      obtain ⟨ka, rfl⟩ := o1.pos (by rw [List.length_map, List.length_replicate]; omega)
      obtain ⟨capa, rfl, hla, hca⟩ := o1.some_form
      rw [List.length_map, List.length_replicate] at o1 hla
      rw [List.length_map, List.length_replicate]
      have hca : capa ≤ 9223372036854775807 := by simpa [maxLen] using hca
      have hka := g1 ka rfl
      have HO := Lib.hid o1
      clear o1 g1 hj
      have wq1 : IntKind.i64.wrap q = q := by rw [IntKind.wrap_i64]; omega
      have wm1 : ¬ ((m : Int) + 1 = 0) := by omega
      have wr1 : IntKind.i64.wrap (1 + r) = 1 + r := by rw [IntKind.wrap_i64]; omega
      go_wp2_with fail
      refine wp_region_noPanic ?_
      refine wp_region_held_drew (S := fun w' => Chg (fun _ => False) wr w') (by kernel_rfl) (Chg.drew (Chg.refl _ _)) (fun hHeld => ?_)
      refine wpAnyH_take (i := 0) (oi := ⟨some 26, _, _, _, _, _⟩) (v := Value.int .u8 q) rfl (by kernel_rfl) (by kernel_rfl) (by kernel_rfl) (fun _ _ _ h => h) (Or.inl ⟨by rfl, fun w hSw => by (try dsimp only at hSw); go_simp⟩) hHeld ?_
      try simp only [Act.put, List.setIfInBounds_toArray, List.set_cons_zero, List.set_cons_succ]
      refine wpAnyH_take (i := 1) (oi := ⟨some 27, _, _, _, _, _⟩) (v := Value.int .i64 q) rfl (by kernel_rfl) (by kernel_rfl) (by kernel_rfl) (fun _ _ _ h => h) (Or.inl ⟨by rfl, fun w hSw => by (try dsimp only at hSw); go_simp⟩) hHeld ?_
      try simp only [Act.put, List.setIfInBounds_toArray, List.set_cons_zero, List.set_cons_succ]
      refine wpAnyH_take (i := 2) (oi := ⟨some 28, _, _, _, _, _⟩) (v := Value.int .i64 ((m : Int) + 1)) rfl (by kernel_rfl) (by kernel_rfl) (by kernel_rfl) (fun _ _ _ h => h) (Or.inl ⟨by rfl, fun w hSw => by (try dsimp only at hSw); go_simp⟩) hHeld ?_
      try simp only [Act.put, List.setIfInBounds_toArray, List.set_cons_zero, List.set_cons_succ]
      refine wpAnyH_take (i := 3) (oi := ⟨some 29, _, _, _, _, _⟩) (v := Value.int .i64 r) rfl (by kernel_rfl) (by kernel_rfl) (by kernel_rfl) (fun _ _ _ h => h) (Or.inl ⟨by rfl, fun w hSw => by (try dsimp only at hSw); go_simp⟩) hHeld ?_
      try simp only [Act.put, List.setIfInBounds_toArray, List.set_cons_zero, List.set_cons_succ]
      refine wpAnyH_take (i := 4) (oi := ⟨some 30, _, _, _, _, _⟩) (v := Value.int .i64 (1 + r)) rfl (by kernel_rfl) (by kernel_rfl) (by kernel_rfl) (fun _ _ _ h => h) (Or.inl ⟨by rfl, fun w hSw => by (try dsimp only at hSw); go_simp⟩) hHeld ?_
      try simp only [Act.put, List.setIfInBounds_toArray, List.set_cons_zero, List.set_cons_succ]
      refine wpAnyH_take (i := 5) (oi := ⟨some 31, _, _, _, _, _⟩) (v := Value.slice (some ⟨ka, 0, none⟩) (m + 1) capa) rfl (by kernel_rfl) (by kernel_rfl) (by kernel_rfl) (fun _ _ _ h => h) (Or.inl ⟨by rfl, fun w hSw => by (try dsimp only at hSw); go_simp⟩) hHeld ?_
      try simp only [Act.put, List.setIfInBounds_toArray, List.set_cons_zero, List.set_cons_succ]
      refine wpAnyH_ready (rs := [6]) (by kernel_rfl) (by simp) ?_
      refine AllReadyH.cons rfl (fun KK hKK => ?_) AllReadyH.nil
      go_simp
      go_at_call 35
      refine (votes35' (some ⟨ka, 0, none⟩) (m + 1) capa (List.replicate (m + 1) x) _ (by rw [List.length_replicate]) hla hca (HO.out.reads.chg (Chg.drew (Chg.refl (fun _ => False) wr)) (fun _ _ h => h)) (by omega)).mono ?_
      rintro e w2 ⟨a2, cap2, rfl, k1, k2, hv, c2⟩
      have HV := Lib.hid hv
      have c3 := (Chg.drew (Chg.refl (fun _ => False) wr)).trans c2
      clear hv c2
      go_wp2_with fail
      refine hKK.out _ _ c3 (fun hHeld2 => ?_)
      clear hKK KK hHeld
      try simp only [Act.put, List.setIfInBounds_toArray, List.set_cons_zero, List.set_cons_succ]
      refine wpAnyH_ready (rs := [7]) (by kernel_rfl) (by simp) ?_
      refine AllReadyH.cons rfl (fun KK hKK => ?_) AllReadyH.nil
      go_simp
      go_at_call 34
      refine (choose34' (1 + r) a2 (m + 1) cap2 (List.replicate (m + 1) x) _ k1 k2 HV.out (by omega)).mono ?_
      rintro e w3 ⟨rfl, c4⟩
      rw [ch_same (by omega) (by omega)]
      have c5 := c3.trans c4
      clear c4 c3 HV k1 k2
      go_wp2_with fail
      refine hKK.out _ _ c5 (fun hHeld3 => ?_)
      clear hKK KK hHeld2
      try simp only [Act.put, List.setIfInBounds_toArray, List.set_cons_zero, List.set_cons_succ]
      refine wpAnyH_take (i := 8) (oi := ⟨some 25, _, _, _, _, _⟩) (v := Value.tuple #[Value.int .i64 x, Value.int .i64 0]) rfl (by kernel_rfl) (by kernel_rfl) (by kernel_rfl) (fun _ _ _ h => h) (Or.inl ⟨by rfl, fun w hSw => by (try dsimp only at hSw); go_simp⟩) hHeld3 ?_
      try simp only [Act.put, List.setIfInBounds_toArray, List.set_cons_zero, List.set_cons_succ]
      refine wpAnyH_take (i := 9) (oi := ⟨some 34, _, _, _, _, _⟩) (v := Value.int .i64 x) rfl (by kernel_rfl) (by kernel_rfl) (by kernel_rfl) (fun _ _ _ h => h) (Or.inl ⟨by rfl, fun w hSw => by (try dsimp only at hSw); go_simp⟩) hHeld3 ?_
      try simp only [Act.put, List.setIfInBounds_toArray, List.set_cons_zero, List.set_cons_succ]
      refine wpAnyH_take (i := 10) (oi := ⟨some 35, _, _, _, _, _⟩) (v := Value.int .i64 0) rfl (by kernel_rfl) (by kernel_rfl) (by kernel_rfl) (fun _ _ _ h => h) (Or.inl ⟨by rfl, fun w hSw => by (try dsimp only at hSw); go_simp⟩) hHeld3 ?_
      try simp only [Act.put, List.setIfInBounds_toArray, List.set_cons_zero, List.set_cons_succ]
      refine wpAnyH_take (i := 11) (oi := ⟨some 9, _, _, _, _, _⟩) (v := Value.int .i64 x) rfl (by kernel_rfl) (by kernel_rfl) (by kernel_rfl) (fun _ _ _ h => h) (Or.inl ⟨by rfl, fun w hSw => by (try dsimp only at hSw); go_simp⟩) hHeld3 ?_
      try simp only [Act.put, List.setIfInBounds_toArray, List.set_cons_zero, List.set_cons_succ]
      refine wpAnyH_take (i := 12) (oi := ⟨some 10, _, _, _, _, _⟩) (v := Value.int .i64 0) rfl (by kernel_rfl) (by kernel_rfl) (by kernel_rfl) (fun _ _ _ h => h) (Or.inl ⟨by rfl, fun w hSw => by (try dsimp only at hSw); go_simp⟩) hHeld3 ?_
      try simp only [Act.put, List.setIfInBounds_toArray, List.set_cons_zero, List.set_cons_succ]
      refine wpAnyH_done (by kernel_rfl) ?_ _
      refine NoPanic.normal ?_
      clear hHeld3
      have c6 := c1.trans c5
      have o3 := HO.out.chg c5 (fun _ _ h => h)
      have o4 := o3.chg (chg0_alloc w3 (Obj.cells #[Value.int IntKind.i64 x] 2)) (fun _ _ h => h)
      have bX := Blk.new w3 2 #[Value.int IntKind.i64 x]
      have hA2 : List.replicate (m + 2) x = List.replicate (m + 1) x ++ [x] := List.replicate_succ'
      obtain ⟨A, hA⟩ : ∃ A, A = List.replicate (m + 1) x := ⟨_, rfl⟩
      have hAl : A.length = m + 1 := by rw [hA, List.length_replicate]
      rw [← hA] at o4 hA2
      have HA2 := Lib.hid hA2
      have HAL := Lib.hid hAl
      have hAl2 : A.length ≤ 100 := by omega
      clear HO c1 c5 o3 hA2 hA hAl
      go_wp2_with (at_builtin; refine wpList_app (by rfl) (.tmp 37) (.tmp 39) 49 (by rfl) 2 i0 _ 1 8 Try.underlying49 hi hz0 hz1 hz2 rfl (by omega) _ _ _ (by rfl) o4 _ 2 [[Value.int .i64 x]] 1 1 (by rfl) (by rfl) bX (by simp) (by simp [Value.oneCell']) (by simp) (by simp; omega) (by simp [maxLen]; omega) ?_)
      intro k5 cap5 w5 ho hc hk
      have ho' : Owns w5 2 1 (.slice (some ⟨k5, 0, none⟩) (m + 2) cap5) (some k5) ((List.replicate (m + 2) x).map fun z => [Value.int .i64 z]) := by
        rw [HA2.out, List.map_append]
        have := ho
        rw [HAL.out] at this
        exact this
      rw [HAL.out]
      rw [show m + 1 + 1 = m + 2 from rfl]
      obtain ⟨cap5', hv5, hl5, hc5⟩ := ho'.some_form
      rw [List.length_map, List.length_replicate] at hl5 hv5
      simp only [Value.slice.injEq] at hv5
      obtain ⟨-, -, rfl⟩ := hv5
      have hc5' : cap5 ≤ 9223372036854775807 := by simpa [maxLen] using hc5
      have c7 : Chg (fun _ => False) w w5 := (c6.alloc _).trans' hc (fun i hi e => by cases e; omega)
      have HR5 := Lib.hid ho'.reads
      clear o4 bX c6 ho hc hk ho' hc5
      go_wp2_with fail
      refine (votes35' (some ⟨k5, 0, none⟩) (m + 2) cap5 (List.replicate (m + 2) x) _ (by rw [List.length_replicate]) hl5 hc5' HR5.out (by omega)).mono ?_
      rintro e w6 ⟨a6, cap6, rfl, k1, k2, hv, c8⟩
      have HV := Lib.hid hv
      have c9 := c7.trans c8
      clear hv c7 c8
      go_wp2_with fail
      refine (choose34' 1 a6 (m + 2) cap6 (List.replicate (m + 2) x) _ k1 k2 HV.out (by omega)).mono ?_
      rintro e w7 ⟨rfl, c10⟩
      rw [ch_same (by omega) (by omega)]
      have c11 := c9.trans c10
      clear c9 c10 HV k1 k2
      go_wp2_with fail
      refine (alive33 _).mono ?_
      rintro e w8 ⟨rfl, c12⟩
      have c13 := Lib.hid (bel0 (Below.refl _ _) (c11.trans c12) (Nat.le_refl _))
      clear c11 c12
      go_wp2_with fail
      go_ret
      exact ⟨rfl, c13.out⟩
end Go.Proofs.Ytnfnonphccnbkaa
