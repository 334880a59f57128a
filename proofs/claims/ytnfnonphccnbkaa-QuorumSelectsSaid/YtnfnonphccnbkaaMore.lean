/- MedianMore: with the one in the middle added once more it stays; of some twice it is the same: the walk. -/
import Derived.Test.YtnfnonphccnbkaaMedal
import Derived.Test.YtnfnonphccnbkaaArgs
set_option linter.unusedVariables false
namespace Go.Chron
open Go Go.RowKit
/-- What came in as a list of numbers. -/
theorem ints_in {k : IntKind} {w : World} {a : Option Addr} {len cap : Nat} {els : List (List Value)} (h : FlatIn [.int k] w a len cap els) : ∃ zs, IntsIn k w a len cap zs := by
  have key : ∀ els : List (List Value), (∀ x ∈ els, okAll [.int k] x) → ∃ zs : List Int, els = zs.map (fun z => [.int k z]) ∧ ∀ z ∈ zs, (Lit.int k z).wf = true := by
    intro els
    induction els with
    | nil => intro _; exact ⟨[], rfl, by simp⟩
    | cons y els ih =>
      intro hx
      obtain ⟨zs, rfl, hw⟩ := ih (fun x hx' => hx x (List.mem_cons_of_mem _ hx'))
      obtain ⟨n, rfl, hn⟩ := ok_one_int (hx y (by simp))
      refine ⟨n :: zs, rfl, fun z hz => ?_⟩
      rcases List.mem_cons.1 hz with rfl | hz
      · exact hn
      · exact hw z hz
  obtain ⟨zs, rfl, hw⟩ := key els h.ok
  exact ⟨zs, by have := h.lenE; rw [List.length_map] at this; exact this, h.nilE, h.leE, h.capE, h.reads, hw⟩
theorem enc_each (k : IntKind) (zs : List Int) : ∀ y ∈ zs.map (fun z => [Value.int k z]), y.length = 1 := by intro x hx; obtain ⟨z, _, rfl⟩ := List.mem_map.1 hx; rfl
theorem enc_one (k : IntKind) (zs : List Int) : ∀ u ∈ (zs.map (fun z => [Value.int k z])).flatten, u.oneCell' = true := by intro u hu; obtain ⟨x, hx, hxu⟩ := List.mem_flatten.1 hu; obtain ⟨z, _, rfl⟩ := List.mem_map.1 hx; simp at hxu; subst hxu; rfl
end Go.Chron
namespace Go.Proofs.Ytnfnonphccnbkaa
open Go.RowKit Go.Chron

set_option maxRecDepth 100000 in
set_option maxHeartbeats 3200000 in
theorem medianMore_walk (a : Option Addr) (n cap : Nat) (zs : List Int) (w : World) (hI : IntsIn .i64 w a n cap zs) :
    Calls Try.prog 10 #[.slice a n cap] w fun e w' => e = .returned (.bool true) ∧ Below w.heap.size w w' := by
  obtain ⟨i0, hi, hz0, hz1, hz2⟩ := info_parts infom_i64
  have hcm := hI.capE
  have hle := hI.leE
  have HI := Lib.hid hI
  have HN := Lib.hid hI.lenE
  clear hI
  go_enter Try.func10, Try.ntmps10
  go_wp2_with fail
  refine (alive30 _).mono ?_
  rintro e w1 ⟨rfl, c1⟩
  by_cases h0 : n = 0
  · subst h0
    go_wp2_with fail
    refine (alive30 _).mono ?_
    rintro e w2 ⟨rfl, c2⟩
    have c3 := Lib.hid (bel0 (Below.refl _ _) (c1.trans c2) (Nat.le_refl _))
    clear c1 c2
    go_wp2_with fail
    go_ret
    exact ⟨rfl, c3.out⟩
  · have hn0 : ((n : Int) == 0) = false := by rw [beq_eq_false_iff_ne]; omega
    by_cases h100 : 100 < n
    · go_wp2_with fail
      refine (alive30 _).mono ?_
      rintro e w2 ⟨rfl, c2⟩
      have c3 := Lib.hid (bel0 (Below.refl _ _) (c1.trans c2) (Nat.le_refl _))
      clear c1 c2
      go_wp2_with fail
      go_ret
      exact ⟨rfl, c3.out⟩
    · obtain ⟨bl, off, rfl, hbl, hcell⟩ := HI.out.cell (by omega)
      have hne : zs ≠ [] := by intro e; have := HN.out; rw [e] at this; exact h0 this
      have hzl : zs.length ≤ 100 := by have := HN.out; omega
      have hz0' : ¬ zs.length = 0 := by have := HN.out; omega
      have HC := Lib.hid hcell
      have HNE := Lib.hid hne
      clear hcell hne
      go_wp2_with fail
      refine (of_i64 (some ⟨bl, off, none⟩) n cap zs _ HN.out (by simp) (HI.out.reads.chg c1 (fun _ _ h => h)) (by omega)).mono ?_
      rintro e w2 ⟨rfl, c2⟩
      rw [if_neg hz0']
      have c3 := c1.trans c2
      have hk1a := c3.size
      clear c1 c2
      obtain ⟨md, hmd⟩ : ∃ md, md = medOf zs := ⟨_, rfl⟩
      rw [← hmd]
      have HMD := Lib.hid hmd
      clear hmd
      go_wp2_with (at_builtin; refine wpList_app_any (by rfl) (.tmp 28) (.tmp 29) 49 (by rfl) 2 i0 _ 1 8 Try.underlying49 hi hz0 hz1 hz2 rfl (by omega) _ w2.heap.size [] (by rfl) (owns_empty _ _ _) ⟨bl, off, none⟩ (zs.map fun z => [Value.int .i64 z]) n cap (by rfl) (by rw [List.length_map]; exact HN.out) ?_ (enc_each _ _) (enc_one _ _) (by simp; omega) (by simp [maxLen]; omega) ?_)
      · exact (HI.out.reads.chg (c3.alloc _) (fun _ _ h => h)).flat (enc_each _ _)
      · intro k1 cap1 w3 ho1 hc1 hk1
        rw [← HN.out] at ho1 ⊢
        have c4 := (c3.alloc (Obj.cells #[] 2)).trans' hc1 (fun i hi e => by have := c3.size; omega)
        have s4 := c4.size
        clear c3 hc1
        go_wp2_with (at_builtin; refine wpList_app_any (by rfl) (.tmp 30) (.tmp 31) 49 (by rfl) 2 i0 _ 1 8 Try.underlying49 hi hz0 hz1 hz2 rfl (by omega) _ k1 (zs.map fun z => [Value.int .i64 z]) (by rfl) ho1 ⟨bl, off, none⟩ (zs.map fun z => [Value.int .i64 z]) n cap (by rfl) (by rw [List.length_map]; exact HN.out) ?_ (enc_each _ _) (enc_one _ _) (by simp; omega) (by simp [maxLen]; omega) ?_)
        · exact (HI.out.reads.chg c4 (fun _ _ h => h)).flat (enc_each _ _)
        · intro k2 cap2 w4 ho2 hc2 hk2
          rw [← HN.out, ← List.map_append] at ho2
          rw [← HN.out]
          have hk1w : w.heap.size ≤ k1 := by
            rcases hk1 with h | h
            · rw [← h]; exact hk1a
            · omega
          have c5 := c4.trans' hc2 (fun i hi e => by omega)
          have s5 := c5.size
          clear hc2 c4 s4 ho1 hk1 hk2
          go_wp2_with fail
          refine (of_i64 (some ⟨k2, 0, none⟩) (n + n) cap2 (zs ++ zs) _ (by rw [List.length_append, ← HN.out]) (by simp) ho2.reads (by rw [List.length_append]; omega)).mono ?_
          rintro e w5 ⟨rfl, c6⟩
          rw [med_twice HNE.out, ← HMD.out, if_neg (by rw [List.length_append]; omega)]
          have c7 := c5.trans c6
          clear c5 c6 ho2 s5
          go_wp2_with (at_builtin; refine wpList_app_any (by rfl) (.tmp 37) (.tmp 38) 49 (by rfl) 2 i0 _ 1 8 Try.underlying49 hi hz0 hz1 hz2 rfl (by omega) _ w5.heap.size [] (by rfl) (owns_empty _ _ _) ⟨bl, off, none⟩ (zs.map fun z => [Value.int .i64 z]) n cap (by rfl) (by rw [List.length_map]; exact HN.out) ?_ (enc_each _ _) (enc_one _ _) (by simp; omega) (by simp [maxLen]; omega) ?_)
          · exact (HI.out.reads.chg (c7.alloc _) (fun _ _ h => h)).flat (enc_each _ _)
          · intro k3 cap3 w6 ho3 hc3 hk3
            rw [← HN.out] at ho3 ⊢
            have s7 := c7.size
            have hk3w : w.heap.size ≤ k3 := by
              rcases hk3 with h | h
              · omega
              · omega
            have c8 := (c7.alloc (Obj.cells #[] 2)).trans' hc3 (fun i hi e => by omega)
            have s8 := c8.size
            clear c7 hc3 hk3 s7
            have b9 := Blk.new w6 2 #[Value.int IntKind.i64 md]
            have ho3' := ho3.alloc (Obj.cells #[Value.int IntKind.i64 md] 2)
            go_wp2_with (at_builtin; refine wpList_app (by rfl) (.tmp 39) (.tmp 41) 49 (by rfl) 2 i0 _ 1 8 Try.underlying49 hi hz0 hz1 hz2 rfl (by omega) _ (some k3) (zs.map fun z => [Value.int .i64 z]) (by rfl) ho3' w6.heap.size 2 [[Value.int .i64 md]] 1 1 (by rfl) (by rfl) b9 (by simp) (by simp [Value.oneCell']) (by simp) (by simp; omega) (by simp [maxLen]; omega) ?_)
            intro k4 cap4 w7 ho4 hc4 hk4
            rw [← HN.out] at ho4 ⊢
            have ho4' : Owns w7 2 1 (.slice (some ⟨k4, 0, none⟩) (n + 1) cap4) (some k4) ((zs ++ [md]).map fun z => [Value.int .i64 z]) := by rw [List.map_append]; exact ho4
            have c9 := (c8.alloc (Obj.cells #[Value.int IntKind.i64 md] 2)).trans' hc4 (fun i hi e => by cases e; omega)
            clear c8 hc4 hk4 ho3 ho3' b9 ho4
            go_wp2_with fail
            refine (of_i64 (some ⟨k4, 0, none⟩) (n + 1) cap4 (zs ++ [md]) _ (by rw [List.length_append, ← HN.out]; rfl) (by simp) ho4'.reads (by rw [List.length_append]; simp; omega)).mono ?_
            rintro e w8 ⟨rfl, c10⟩
            rw [HMD.out, med_more HNE.out, ← HMD.out, if_neg (by rw [List.length_append]; simp)]
            have c11 := Lib.hid (bel0 (Below.refl _ _) (c9.trans c10) (Nat.le_refl _))
            clear c9 c10 ho4'
            go_wp2_with fail
            go_ret
            exact ⟨rfl, c11.out⟩

theorem medianMore_all (a : Option Addr) (n cap : Nat) (els : List (List Value)) (w : World) (hI : FlatIn [.int .i64] w a n cap els) :
    Calls Try.prog 10 #[.slice a n cap] w fun e w' => e = .returned (.bool true) ∧ Below w.heap.size w w' := by
  obtain ⟨zs, h⟩ := ints_in hI
  exact medianMore_walk a n cap zs w h
end Go.Proofs.Ytnfnonphccnbkaa
