/- Package median's Sorted and Of at three types: contracts. slices.Clone at the types that the layers above want: contracts. -/
import Derived.Test.YtamhicdhbjniiaaGreatDoorM06
import Derived.Test.YtamhicdhbjniiaaGreatDoorM20
import Derived.Test.YtamhicdhbjniiaaGreatDoorM07
import Derived.Sort.OwnSorted
import Derived.Sort.OwnSortedInts
set_option linter.unusedVariables false
set_option maxHeartbeats 800000
set_option maxRecDepth 100000
namespace Go.Proofs.YtamhicdhbjniiaaGreatDoor
section
open Go.RowKit Go.Chron
theorem infom_i64 : (Tryz.prog.info? 2).map (fun i => (i.zero, i.size, i.bytes)) = some (some (.int .i64 0), 1, 8) := by kernel_rfl
theorem clone_mi64 (a : Option Addr) (n cap : Nat) (els : List (List Value)) (w : World) (hn : n = els.length) (hnil : a = none → n = 0 ∧ cap = 0) (he : ∀ x ∈ els, x.length = 1) (hr : Reads w 1 a els) (h1 : ∀ u ∈ els.flatten, u.oneCell' = true)
  (hb : els.length * 8 ≤ 140737488355328) (h63 : els.length ≤ maxLen) :
  Calls Tryz.prog 234 #[.slice a n cap] w (Cloned 2 1 w els) := by
 subst hn
 obtain ⟨i0, hi, hz0, hz1, hz2⟩ := info_parts infom_i64
 cases a with
 | none =>
  obtain ⟨h0, rfl⟩ := hnil rfl
  have h0' : els = [] := List.eq_nil_of_length_eq_zero h0
  subst h0'
  have hq := fun w => Lib.run_eql_slice_nil (P := Tryz.prog) w 38 2 none 0 0 0 0 Tryz.underlying38
  go_enter Tryz.func234, Tryz.ntmps234
  go_wp2_with fail
  all_goals (go_ret; exact cloned_nil _ _ _)
 | some ad =>
  have hq := fun w => Lib.run_eql_slice_nil (P := Tryz.prog) w 38 2 (some ad) els.length cap 0 0 Tryz.underlying38
  have hfl := hr.flat he
  have Hr := Lib.hid hr
  clear hr
  go_enter Tryz.func234, Tryz.ntmps234
  go_wp2_with (at_builtin; refine wpList_app_any (by rfl) (.tmp 5) (.tmp 6) 38 (by rfl) 2 i0 _ 1 8 Tryz.underlying38 hi hz0 hz1 hz2 rfl (by omega) _ w.heap.size [] (by rfl) (owns_empty _ _ _) ad els els.length cap (by rfl) rfl ?_ he h1 (by simpa using hb) (by simpa using h63) ?_)
  ·intro j u hu
   have := hfl j u hu
   rw [World.cell?_alloc_lt _ _ _ (World.block_lt_of_cell? _ _ this)]
   exact this
  ·intro k cap' w' ho' hchg hk
   have K := cloned_mk ho' hchg (by simpa using hk)
   clear ho' hchg hk
   go_wp2_with fail
   go_ret
   simpa using K
theorem sorted_i64 (a : Option Addr) (n cap : Nat) (zs : List (Int)) (w : World) (hn : n = zs.length) (hnil : a = none → n = 0 ∧ cap = 0) (hr : Reads w 1 a (zs.map fun z => [Value.int .i64 z])) (hb : zs.length ≤ 1000000) :
  Calls Tryz.prog 214 #[.slice a n cap] w (Cloned 2 1 w ((msort ile zs).map fun z => [Value.int .i64 z])) := by
 have HR := Lib.hid hr
 have HNIL := Lib.hid hnil
 have HN := Lib.hid hn
 clear hr hnil hn
 go_enter Tryz.func214, Tryz.ntmps214
 go_wp2_with fail
 refine (clone_mi64 a n cap (zs.map fun z => [Value.int .i64 z]) w (by rw [List.length_map]; exact HN.out) HNIL.out (by intro x hx; obtain ⟨z, _, rfl⟩ := List.mem_map.1 hx; rfl) HR.out (by intro u hu; obtain ⟨x, hx, hxu⟩ := List.mem_flatten.1 hu; obtain ⟨z, _, rfl⟩ := List.mem_map.1 hx; simp at hxu; subst hxu; rfl) (by rw [List.length_map]; omega) (by rw [List.length_map]; unfold maxLen; omega)).mono ?_
 rintro e w1 ⟨a1, cap1, g1, rfl, o1, c1, hg1⟩
 rw [List.length_map] at o1 ⊢
 by_cases hz : zs = []
 ·subst hz
  go_wp2_with fail
  refine (Tryz.slices_Sort_int_none _ _ _).mono ?_
  rintro e w2 ⟨rfl, rfl⟩
  go_wp2_with fail
  go_ret
  have e0 : msort ile [] = [] := by unfold msort; simp
  exact ⟨a1, cap1, g1, by rw [e0]; rfl, by rw [e0]; exact o1, c1, hg1⟩
 ·have hpos : 0 < zs.length := List.length_pos_iff.2 hz
  obtain ⟨k, rfl⟩ := o1.pos (by rw [List.length_map]; exact hpos)
  obtain ⟨cap', hv, -, -⟩ := o1.some_form
  simp only [Value.slice.injEq] at hv
  obtain ⟨rfl, -, -⟩ := hv
  have hrow := o1.to_row
  obtain ⟨hfl, hrow⟩ := hrow
  have hflat : ∀ l : List (Int), (l.map fun z => [Value.int .i64 z]).flatten = l.map (Value.int .i64) := fun l => by
   induction l with
   | nil => rfl
   | cons x l ih => simp [ih]
  rw [List.length_map, hflat] at hrow
  rcases hrow with ⟨h0, _⟩ | ⟨g', cap'', cur, hv, _, hblk, hl1, hl2, hl3, htk⟩
  ·simp at h0
  simp only [Value.slice.injEq, Option.some.injEq, Addr.mk.injEq] at hv
  obtain ⟨⟨rfl, -, -⟩, -, rfl⟩ := hv
  have hH : Sort.Holds (Value.int .i64) w1 k 0 zs.toArray := holds_of_blockI hblk (by rw [Nat.mul_one] at htk; exact htk)
  have HH := Lib.hid hH
  have hlt : k < w1.heap.size := o1.lt k rfl
  have HB := Lib.hid hblk
  have HG := Lib.hid (hg1 k rfl)
  clear o1 hg1 hflat hfl htk hblk hH
  go_wp2_with fail
  refine (Tryz.slices_Sort_int k 0 cap1 zs w1 HH.out hlt (by omega)).mono ?_
  rintro e w2 ⟨rfl, q, os, hw2⟩
  have hg2 : w1.grownBy w2 (some k) := by rw [hw2]; exact grownBy_sortedI _
  have hflat : ∀ l : List (Int), (l.map fun z => [Value.int .i64 z]).flatten = l.map (Value.int .i64) := fun l => by
   induction l with
   | nil => rfl
   | cons x l ih => simp [ih]
  have hown : Owns w2 2 1 (.slice (some ⟨k, 0, none⟩) zs.length cap1) (Value.ownBlock (.slice (some ⟨k, 0, none⟩) zs.length cap1)) ((msort ile zs).map fun z => [Value.int .i64 z]) := by
   refine Owns.of_row (base := 0) ?_ (by intro x hx; obtain ⟨z, _, rfl⟩ := List.mem_map.1 hx; rfl)
   rw [List.length_map, msort_len, hflat, hw2]
   exact ownsRow_sortedI (msort_len zs) (Nat.zero_le _) HB.out hl1 hl2 hl3
  have c2 : Chg (fun _ => False) w w2 := c1.grown hg2 (fun j hj he => by cases he; have := HG.out; omega)
  have HO := Lib.hid hown
  clear hg2 hw2 hown
  go_wp2_with fail
  go_ret
  refine ⟨some ⟨k, 0, none⟩, cap1, _, by rw [List.length_map, msort_len]; rfl, by rw [List.length_map, msort_len]; exact HO.out, c2, fun j hj => ?_⟩
  cases hj
  exact HG.out
theorem of_i64 (a : Option Addr) (n cap : Nat) (zs : List (Int)) (w : World) (hn : n = zs.length) (hnil : a = none → n = 0 ∧ cap = 0) (hr : Reads w 1 a (zs.map fun z => [Value.int .i64 z])) (hb : zs.length ≤ 1000000) :
  Calls Tryz.prog 189 #[.slice a n cap] w fun e w' => e = .returned (.tuple #[Value.int .i64 (medOf zs), .int .i64 (if zs.length = 0 then 4 else 0)]) ∧ Chg (fun _ => False) w w' := by
 have HR := Lib.hid hr
 have HNIL := Lib.hid hnil
 clear hr hnil
 by_cases hz : zs = []
 ·subst hz
  simp at hn
  subst hn
  rw [medOf_nil]
  go_enter Tryz.func189, Tryz.ntmps189
  go_wp2_with fail
  go_ret2
  exact ⟨rfl, Chg.refl _ _⟩
 ·have hpos : 0 < zs.length := List.length_pos_iff.2 hz
  have hpos' : 0 < n := by omega
  rw [if_neg (by omega)]
  have hmed := medOf_get hz
  have HM := Lib.hid hmed
  have HN := Lib.hid hn
  have hb' : n ≤ 1000000 := by omega
  obtain ⟨q, hq⟩ : ∃ q, q = (n - 1) / 2 := ⟨_, rfl⟩
  have hq1 : ((n : Int) - 1).tdiv 2 = (q : Int) := by rw [Int.tdiv_eq_ediv_of_nonneg (by omega), hq]; omega
  have hqn : q < n := by omega
  have hqn' : (q : Int) < (n : Int) := by omega
  have hn0 : ((n : Int) == 0) = false := by rw [beq_eq_false_iff_ne]; omega
  have HQ := Lib.hid hq
  clear hmed hn hq hz hpos hb
  go_enter Tryz.func189, Tryz.ntmps189
  go_wp2_with fail
  refine (sorted_i64 a n cap zs w HN.out HNIL.out HR.out (by rw [← HN.out]; exact hb')).mono ?_
  rintro e w1 ⟨a1, cap1, g1, rfl, o1, c1, hg1⟩
  rw [List.length_map, msort_len, ← HN.out] at o1 ⊢
  obtain ⟨k, rfl⟩ := o1.pos (by rw [List.length_map, msort_len, ← HN.out]; exact hpos')
  obtain ⟨cap', hv, -, -⟩ := o1.some_form
  simp only [Value.slice.injEq] at hv
  obtain ⟨rfl, -, -⟩ := hv
  have hc := o1.cell rfl (i := q) (x := [Value.int .i64 (medOf zs)]) (by rw [List.getElem?_map, HQ.out, HN.out, HM.out]; rfl) (j := 0) rfl
  simp only [Nat.mul_one, Nat.add_zero] at hc
  clear o1 hg1
  go_wp2_with fail
  go_ret2
  exact ⟨rfl, c1⟩
end
section
open Go Go.RowKit Go.Chron
theorem info_clone70 : (Tryz.prog.info? 3).map (fun i => (i.zero, i.size, i.bytes)) = some (some (.int .i64 0), 1, 8) := by kernel_rfl
theorem clone70 (a : Option Addr) (n cap : Nat) (els : List (List Value)) (w : World) (hn : n = els.length) (hnil : a = none → n = 0 ∧ cap = 0) (he : ∀ x ∈ els, x.length = 1) (hr : Reads w 1 a els) (h1 : ∀ u ∈ els.flatten, u.oneCell' = true)
  (hb : els.length * 8 ≤ 140737488355328) (h63 : els.length ≤ maxLen) :
  Calls Tryz.prog 70 #[.slice a n cap] w (Cloned 3 1 w els) := by
 subst hn
 obtain ⟨i0, hi, hz0, hz1, hz2⟩ := info_parts info_clone70
 cases a with
 | none =>
  obtain ⟨h0, rfl⟩ := hnil rfl
  have h0' : els = [] := List.eq_nil_of_length_eq_zero h0
  subst h0'
  have hq := fun w => Lib.run_eql_slice_nil (P := Tryz.prog) w 27 3 none 0 0 0 0 Tryz.underlying27
  go_enter Tryz.func70, Tryz.ntmps70
  go_wp2_with fail
  all_goals (go_ret; exact cloned_nil _ _ _)
 | some ad =>
  have hq := fun w => Lib.run_eql_slice_nil (P := Tryz.prog) w 27 3 (some ad) els.length cap 0 0 Tryz.underlying27
  have hfl := hr.flat he
  have Hr := Lib.hid hr
  clear hr
  go_enter Tryz.func70, Tryz.ntmps70
  go_wp2_with (at_builtin; refine wpList_app_any (by rfl) (.tmp 5) (.tmp 6) 27 (by rfl) 3 i0 _ 1 8 Tryz.underlying27 hi hz0 hz1 hz2 rfl (by omega) _ w.heap.size [] (by rfl) (owns_empty _ _ _) ad els els.length cap (by rfl) rfl ?_ he h1 (by simpa using hb) (by simpa using h63) ?_)
  ·intro j u hu
   have := hfl j u hu
   rw [World.cell?_alloc_lt _ _ _ (World.block_lt_of_cell? _ _ this)]
   exact this
  ·intro k cap' w' ho' hchg hk
   have K := cloned_mk ho' hchg (by simpa using hk)
   clear ho' hchg hk
   go_wp2_with fail
   go_ret
   simpa using K
theorem info_clone145 : (Tryz.prog.info? 248).map (fun i => (i.zero, i.size, i.bytes)) = some (some (.agg #[.int .i64 0, .int .i64 0, .int .i64 0, .int .i64 0, .int .i64 0, .int .i64 0]), 6, 48) := by kernel_rfl
theorem clone145 (a : Option Addr) (n cap : Nat) (els : List (List Value)) (w : World) (hn : n = els.length) (hnil : a = none → n = 0 ∧ cap = 0) (he : ∀ x ∈ els, x.length = 6) (hr : Reads w 6 a els) (h1 : ∀ u ∈ els.flatten, u.oneCell' = true)
  (hb : els.length * 48 ≤ 140737488355328) (h63 : els.length ≤ maxLen) :
  Calls Tryz.prog 145 #[.slice a n cap] w (Cloned 248 6 w els) := by
 subst hn
 obtain ⟨i0, hi, hz0, hz1, hz2⟩ := info_parts info_clone145
 cases a with
 | none =>
  obtain ⟨h0, rfl⟩ := hnil rfl
  have h0' : els = [] := List.eq_nil_of_length_eq_zero h0
  subst h0'
  have hq := fun w => Lib.run_eql_slice_nil (P := Tryz.prog) w 138 248 none 0 0 0 0 Tryz.underlying138
  go_enter Tryz.func145, Tryz.ntmps145
  go_wp2_with fail
  all_goals (go_ret; exact cloned_nil _ _ _)
 | some ad =>
  have hq := fun w => Lib.run_eql_slice_nil (P := Tryz.prog) w 138 248 (some ad) els.length cap 0 0 Tryz.underlying138
  have hfl := hr.flat he
  have Hr := Lib.hid hr
  clear hr
  go_enter Tryz.func145, Tryz.ntmps145
  go_wp2_with (at_builtin; refine wpList_app_any (by rfl) (.tmp 5) (.tmp 6) 138 (by rfl) 248 i0 _ 6 48 Tryz.underlying138 hi hz0 hz1 hz2 rfl (by omega) _ w.heap.size [] (by rfl) (owns_empty _ _ _) ad els els.length cap (by rfl) rfl ?_ he h1 (by simpa using hb) (by simpa using h63) ?_)
  ·intro j u hu
   have := hfl j u hu
   rw [World.cell?_alloc_lt _ _ _ (World.block_lt_of_cell? _ _ this)]
   exact this
  ·intro k cap' w' ho' hchg hk
   have K := cloned_mk ho' hchg (by simpa using hk)
   clear ho' hchg hk
   go_wp2_with fail
   go_ret
   simpa using K
theorem info_clone35 : (Tryz.prog.info? 97).map (fun i => (i.zero, i.size, i.bytes)) = some (some (.agg #[.int .i64 0, .int .i64 0, .int .i64 0, .int .i64 0, .int .i64 0, .int .u64 0]), 6, 48) := by kernel_rfl
theorem clone35 (a : Option Addr) (n cap : Nat) (els : List (List Value)) (w : World) (hn : n = els.length) (hnil : a = none → n = 0 ∧ cap = 0) (he : ∀ x ∈ els, x.length = 6) (hr : Reads w 6 a els) (h1 : ∀ u ∈ els.flatten, u.oneCell' = true)
  (hb : els.length * 48 ≤ 140737488355328) (h63 : els.length ≤ maxLen) :
  Calls Tryz.prog 35 #[.slice a n cap] w (Cloned 97 6 w els) := by
 subst hn
 obtain ⟨i0, hi, hz0, hz1, hz2⟩ := info_parts info_clone35
 cases a with
 | none =>
  obtain ⟨h0, rfl⟩ := hnil rfl
  have h0' : els = [] := List.eq_nil_of_length_eq_zero h0
  subst h0'
  have hq := fun w => Lib.run_eql_slice_nil (P := Tryz.prog) w 30 97 none 0 0 0 0 Tryz.underlying30
  go_enter Tryz.func35, Tryz.ntmps35
  go_wp2_with fail
  all_goals (go_ret; exact cloned_nil _ _ _)
 | some ad =>
  have hq := fun w => Lib.run_eql_slice_nil (P := Tryz.prog) w 30 97 (some ad) els.length cap 0 0 Tryz.underlying30
  have hfl := hr.flat he
  have Hr := Lib.hid hr
  clear hr
  go_enter Tryz.func35, Tryz.ntmps35
  go_wp2_with (at_builtin; refine wpList_app_any (by rfl) (.tmp 5) (.tmp 6) 30 (by rfl) 97 i0 _ 6 48 Tryz.underlying30 hi hz0 hz1 hz2 rfl (by omega) _ w.heap.size [] (by rfl) (owns_empty _ _ _) ad els els.length cap (by rfl) rfl ?_ he h1 (by simpa using hb) (by simpa using h63) ?_)
  ·intro j u hu
   have := hfl j u hu
   rw [World.cell?_alloc_lt _ _ _ (World.block_lt_of_cell? _ _ this)]
   exact this
  ·intro k cap' w' ho' hchg hk
   have K := cloned_mk ho' hchg (by simpa using hk)
   clear ho' hchg hk
   go_wp2_with fail
   go_ret
   simpa using K
theorem info_clone45 : (Tryz.prog.info? 104).map (fun i => (i.zero, i.size, i.bytes)) = some (some (.agg #[.int .i64 0, .int .i64 0, .slice none 0 0]), 3, 40) := by kernel_rfl
theorem clone45 (a : Option Addr) (n cap : Nat) (els : List (List Value)) (w : World) (hn : n = els.length) (hnil : a = none → n = 0 ∧ cap = 0) (he : ∀ x ∈ els, x.length = 3) (hr : Reads w 3 a els) (h1 : ∀ u ∈ els.flatten, u.oneCell' = true)
  (hb : els.length * 40 ≤ 140737488355328) (h63 : els.length ≤ maxLen) :
  Calls Tryz.prog 45 #[.slice a n cap] w (Cloned 104 3 w els) := by
 subst hn
 obtain ⟨i0, hi, hz0, hz1, hz2⟩ := info_parts info_clone45
 cases a with
 | none =>
  obtain ⟨h0, rfl⟩ := hnil rfl
  have h0' : els = [] := List.eq_nil_of_length_eq_zero h0
  subst h0'
  have hq := fun w => Lib.run_eql_slice_nil (P := Tryz.prog) w 39 104 none 0 0 0 0 Tryz.underlying39
  go_enter Tryz.func45, Tryz.ntmps45
  go_wp2_with fail
  all_goals (go_ret; exact cloned_nil _ _ _)
 | some ad =>
  have hq := fun w => Lib.run_eql_slice_nil (P := Tryz.prog) w 39 104 (some ad) els.length cap 0 0 Tryz.underlying39
  have hfl := hr.flat he
  have Hr := Lib.hid hr
  clear hr
  go_enter Tryz.func45, Tryz.ntmps45
  go_wp2_with (at_builtin; refine wpList_app_any (by rfl) (.tmp 5) (.tmp 6) 39 (by rfl) 104 i0 _ 3 40 Tryz.underlying39 hi hz0 hz1 hz2 rfl (by omega) _ w.heap.size [] (by rfl) (owns_empty _ _ _) ad els els.length cap (by rfl) rfl ?_ he h1 (by simpa using hb) (by simpa using h63) ?_)
  ·intro j u hu
   have := hfl j u hu
   rw [World.cell?_alloc_lt _ _ _ (World.block_lt_of_cell? _ _ this)]
   exact this
  ·intro k cap' w' ho' hchg hk
   have K := cloned_mk ho' hchg (by simpa using hk)
   clear ho' hchg hk
   go_wp2_with fail
   go_ret
   simpa using K
theorem info_clone46 : (Tryz.prog.info? 126).map (fun i => (i.zero, i.size, i.bytes)) = some (some (.agg #[.int .i64 0, .bool false, .int .i64 0, .int .i64 0, .int .i64 0]), 5, 40) := by kernel_rfl
theorem clone46 (a : Option Addr) (n cap : Nat) (els : List (List Value)) (w : World) (hn : n = els.length) (hnil : a = none → n = 0 ∧ cap = 0) (he : ∀ x ∈ els, x.length = 5) (hr : Reads w 5 a els) (h1 : ∀ u ∈ els.flatten, u.oneCell' = true)
  (hb : els.length * 40 ≤ 140737488355328) (h63 : els.length ≤ maxLen) :
  Calls Tryz.prog 46 #[.slice a n cap] w (Cloned 126 5 w els) := by
 subst hn
 obtain ⟨i0, hi, hz0, hz1, hz2⟩ := info_parts info_clone46
 cases a with
 | none =>
  obtain ⟨h0, rfl⟩ := hnil rfl
  have h0' : els = [] := List.eq_nil_of_length_eq_zero h0
  subst h0'
  have hq := fun w => Lib.run_eql_slice_nil (P := Tryz.prog) w 102 126 none 0 0 0 0 Tryz.underlying102
  go_enter Tryz.func46, Tryz.ntmps46
  go_wp2_with fail
  all_goals (go_ret; exact cloned_nil _ _ _)
 | some ad =>
  have hq := fun w => Lib.run_eql_slice_nil (P := Tryz.prog) w 102 126 (some ad) els.length cap 0 0 Tryz.underlying102
  have hfl := hr.flat he
  have Hr := Lib.hid hr
  clear hr
  go_enter Tryz.func46, Tryz.ntmps46
  go_wp2_with (at_builtin; refine wpList_app_any (by rfl) (.tmp 5) (.tmp 6) 102 (by rfl) 126 i0 _ 5 40 Tryz.underlying102 hi hz0 hz1 hz2 rfl (by omega) _ w.heap.size [] (by rfl) (owns_empty _ _ _) ad els els.length cap (by rfl) rfl ?_ he h1 (by simpa using hb) (by simpa using h63) ?_)
  ·intro j u hu
   have := hfl j u hu
   rw [World.cell?_alloc_lt _ _ _ (World.block_lt_of_cell? _ _ this)]
   exact this
  ·intro k cap' w' ho' hchg hk
   have K := cloned_mk ho' hchg (by simpa using hk)
   clear ho' hchg hk
   go_wp2_with fail
   go_ret
   simpa using K
end
end Go.Proofs.YtamhicdhbjniiaaGreatDoor
