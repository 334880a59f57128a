/- Package median's Sorted and Of at float64 and uint8: contracts. -/
import Derived.Test.YtiflogohalceaaaGreatMed
import Derived.Test.YtiflogohalceaaaGreatSGF
import Derived.Test.YtiflogohalceaaaGreatSGB
set_option linter.unusedVariables false
namespace Go.Chron
open Go Go.Sort Go.Proofs Go.ChangeShapes Go.WideShapes
section
variable (enc : Int → Value)
theorem holds_of_blockE {enc : Int → Value} {w : World} {g : Nat} {cur : Array Value} {e : TypeId} {ss : List Int} (hb : w.heap[g]? = some (.cells cur e (0, 0))) (ht : cur.toList.take ss.length = ss.map enc) : Holds enc w g 0 ss.toArray := by
  intro j hj
  have hj' : j < ss.length := by simpa using hj
  have h1 : (cur.toList.take ss.length)[j]? = (ss.map enc)[j]? := by rw [ht]
  rw [List.getElem?_take_of_lt hj', Array.getElem?_toList] at h1
  refine ⟨?_, by simp [World.frozen?, hb]⟩
  simp only [World.cell?, hb, Nat.zero_add, Option.isSome_none, Bool.false_eq_true, if_false, h1]
  simp [hj']
theorem heap_sortedE {enc : Int → Value} {w : World} {g n : Nat} {os : Array Obj} {cur : Array Value} {e : TypeId} {fr : Nat × Nat} (d : Array Int) (hb : w.heap[g]? = some (.cells cur e fr)) :
    (grow (putRow enc (Sort.ahead w n) g 0 d) os).heap[g]? = some (.cells (putCells enc 0 d cur) e fr) := by
  have hg : g < w.heap.size := (Array.getElem?_eq_some_iff.1 hb).1
  rw [heap_grow_old _ _ (by simpa using hg)]
  simp [putRow, mapBlock, Sort.ahead, Array.getElem?_modify, hb, onCells]
theorem grownBy_sortedE {enc : Int → Value} {w : World} {g n : Nat} {os : Array Obj} (d : Array Int) : w.grownBy (grow (putRow enc (Sort.ahead w n) g 0 d) os) (some g) := by
  refine ⟨rfl, rfl, rfl, by simp, fun k hk hne => ?_⟩
  have : g ≠ k := fun e => hne (by rw [e])
  rw [heap_grow_old _ _ (by simpa using hk)]
  simp [putRow, mapBlock, Sort.ahead, Array.getElem?_modify, this]
theorem ownsRow_sortedE {enc : Int → Value} {w : World} {base g cap n : Nat} {e : TypeId} {os : Array Obj} {cur : Array Value} {ss ts : List Int} (hl : ts.length = ss.length) (hbase : base ≤ g) (hb : w.heap[g]? = some (.cells cur e (0, 0)))
    (h1 : ss.length ≤ cap) (h2 : cap ≤ maxLen) (h3 : cur.size = cap * 1) :
    (grow (putRow enc (Sort.ahead w n) g 0 ts.toArray) os).ownsRow base e 1 (.slice (some ⟨g, 0, none⟩) ss.length cap) ss.length (ts.map enc) := by
  refine ⟨by simp [hl], .inr ⟨g, cap, _, rfl, hbase, heap_sortedE _ hb, h1, h2, by simp [putCells, h3], ?_⟩⟩
  rw [Nat.mul_one, ← hl]
  apply List.ext_getElem?
  intro j
  by_cases hj : j < ts.length
  · rw [List.getElem?_take_of_lt hj, Array.getElem?_toList]
    simp [putCells, hj, show j < cur.size by omega]
  · rw [List.getElem?_take_eq_none (by omega), List.getElem?_eq_none (by simp; omega)]
end
theorem fb_zero : fb 0 = 0 := by rw [fb_def]; decide +kernel
/-- Sorting by what is kept between the bounds is sorting, of what lies between them. -/
theorem sort_ltC (zs : List Int) (hz : ∀ z ∈ zs, -32768 ≤ z ∧ z ≤ 32767) : Sort.sort ltC zs.toArray = (msort ile zs).toArray := by
  obtain ⟨hP, hS⟩ := sort_sorts ltC swo_ltC zs.toArray
  obtain ⟨D, hD⟩ : ∃ D, D = Sort.sort ltC zs.toArray := ⟨_, rfl⟩
  rw [← hD] at hP hS ⊢
  have hsz := hP.1
  have hpm := hP.2.2
  have e1 : (D.extract 0 zs.toArray.size).toList = D.toList := by rw [← hsz]; simp
  have e2 : (zs.toArray.extract 0 zs.toArray.size).toList = zs := by simp
  rw [e1, e2] at hpm
  have hs : ∀ i, i < D.size → -32768 ≤ D[i]! ∧ D[i]! ≤ 32767 := by
    intro i hi
    refine hz _ (hpm.subset ?_)
    rw [getElem!_pos D i hi]
    exact Array.getElem_mem_toList hi
  have hSo : SortedIn ltInt 0 zs.toArray.size D := by
    intro i j h1 h2 h3
    have := hS i j h1 h2 h3
    have a1 := hs i (by omega)
    have a2 := hs j (by omega)
    unfold ltC at this
    rw [cl_id a1.1 a1.2, cl_id a2.1 a2.2] at this
    exact this
  have h := sorted_unique_holds swo_ltInt (fun x y h1 h2 => by simp only [ltInt, decide_eq_false_iff_not] at h1 h2; omega) zs.toArray D hP hSo
  have e3 : (fun x y : Int => !ltInt y x) = ile := by
    funext x y
    unfold ltInt ile
    by_cases h : y < x
    · simp [h]
    · simp [h]; omega
  rw [e3] at h
  have : D = D.toList.toArray := by simp
  rw [this, h]
  rfl
theorem sort_ltInt (zs : List Int) : Sort.sort ltInt zs.toArray = (msort ile zs).toArray := by
  have h := sortInt zs
  have : Sort.sort ltInt zs.toArray = (Sort.sort ltInt zs.toArray).toList.toArray := by simp
  rw [this, h]
  rfl
end Go.Chron
namespace Go.Proofs.YtiflogohalceaaaGreat
open Go.RowKit Go.Chron Go.Sort

theorem Tryz.slices_Sort_F (blk off cap : Nat) (zs : List Int) (w : World) (hH : Holds encF w blk off zs.toArray) (hblk : blk < w.heap.size) (hsz : zs.length < 4611686018427387904) (hsm : ∀ z ∈ zs, -32768 ≤ z ∧ z ≤ 32767) :
    Calls Tryz.prog 21 #[.slice (some ⟨blk, off, none⟩) zs.length cap] w fun e w' => e = .returned (.tuple #[]) ∧ ∃ n os, w' = grow (putRow encF (Sort.ahead w n) blk off (msort ile zs).toArray) os := by
  have h := Sort_F pdqWalkF blk off cap zs.toArray w hH hblk (by simpa using hsz)
  rw [sort_ltC zs hsm] at h
  simpa using h
theorem Tryz.slices_Sort_B (blk off cap : Nat) (zs : List Int) (w : World) (hH : Holds encB w blk off zs.toArray) (hblk : blk < w.heap.size) (hsz : zs.length < 4611686018427387904) :
    Calls Tryz.prog 23 #[.slice (some ⟨blk, off, none⟩) zs.length cap] w fun e w' => e = .returned (.tuple #[]) ∧ ∃ n os, w' = grow (putRow encB (Sort.ahead w n) blk off (msort ile zs).toArray) os := by
  have h := Sort_B pdqWalkB blk off cap zs.toArray w hH hblk (by simpa using hsz)
  rw [sort_ltInt zs] at h
  simpa using h
theorem Tryz.slices_Sort_none_F (p : Option Addr) (cap : Nat) (w : World) : Calls Tryz.prog 21 #[.slice p 0 cap] w fun e w' => e = .returned (.tuple #[]) ∧ w' = w := Sort_F_nil p cap w
theorem Tryz.slices_Sort_none_B (p : Option Addr) (cap : Nat) (w : World) : Calls Tryz.prog 23 #[.slice p 0 cap] w fun e w' => e = .returned (.tuple #[]) ∧ w' = w := Sort_B_nil p cap w

theorem infom_F : (Tryz.prog.info? 28).map (fun i => (i.zero, i.size, i.bytes)) = some (some (.float .f64 0), 1, 8) := by kernel_rfl

set_option maxRecDepth 100000 in
set_option maxHeartbeats 800000 in
theorem clone_mF (a : Option Addr) (n cap : Nat) (els : List (List Value)) (w : World) (hn : n = els.length) (hnil : a = none → n = 0 ∧ cap = 0) (he : ∀ x ∈ els, x.length = 1) (hr : Reads w 1 a els) (h1 : ∀ u ∈ els.flatten, u.oneCell' = true)
    (hb : els.length * 8 ≤ 140737488355328) (h63 : els.length ≤ maxLen) :
    Calls Tryz.prog 20 #[.slice a n cap] w (Cloned 28 1 w els) := by
  subst hn
  obtain ⟨i0, hi, hz0, hz1, hz2⟩ := info_parts infom_F
  cases a with
  | none =>
    obtain ⟨h0, rfl⟩ := hnil rfl
    have h0' : els = [] := List.eq_nil_of_length_eq_zero h0
    subst h0'
    have hq := fun w => Lib.run_eql_slice_nil (P := Tryz.prog) w 25 28 none 0 0 0 0 Tryz.underlying25
    go_enter Tryz.func20, Tryz.ntmps20
    go_wp2_with fail
    all_goals (go_ret; exact cloned_nil _ _ _)
  | some ad =>
    have hq := fun w => Lib.run_eql_slice_nil (P := Tryz.prog) w 25 28 (some ad) els.length cap 0 0 Tryz.underlying25
    have hfl := hr.flat he
    have Hr := Lib.hid hr
    clear hr
    go_enter Tryz.func20, Tryz.ntmps20
    go_wp2_with (at_builtin; refine wpList_app_any (by rfl) (.tmp 5) (.tmp 6) 25 (by rfl) 28 i0 _ 1 8 Tryz.underlying25 hi hz0 hz1 hz2 rfl (by omega) _ w.heap.size [] (by rfl) (owns_empty _ _ _) ad els els.length cap (by rfl) rfl ?_ he h1 (by simpa using hb) (by simpa using h63) ?_)
    · intro j u hu
      have := hfl j u hu
      rw [World.cell?_alloc_lt _ _ _ (World.block_lt_of_cell? _ _ this)]
      exact this
    · intro k cap' w' ho' hchg hk
      have K := cloned_mk ho' hchg (by simpa using hk)
      clear ho' hchg hk
      go_wp2_with fail
      go_ret
      simpa using K

set_option maxRecDepth 100000 in
set_option maxHeartbeats 800000 in
theorem sorted_F (a : Option Addr) (n cap : Nat) (zs : List (Int)) (w : World) (hn : n = zs.length) (hnil : a = none → n = 0 ∧ cap = 0) (hr : Reads w 1 a (zs.map fun z => [encF z])) (hb : zs.length ≤ 1000000) (hsm : ∀ z ∈ zs, -32768 ≤ z ∧ z ≤ 32767) :
    Calls Tryz.prog 12 #[.slice a n cap] w (Cloned 28 1 w ((msort ile zs).map fun z => [encF z])) := by
  have HSM := Lib.hid hsm
  clear hsm
  have HR := Lib.hid hr
  have HNIL := Lib.hid hnil
  have HN := Lib.hid hn
  clear hr hnil hn
  go_enter Tryz.func12, Tryz.ntmps12
  go_wp2_with fail
  refine (clone_mF a n cap (zs.map fun z => [encF z]) w (by rw [List.length_map]; exact HN.out) HNIL.out (by intro x hx; obtain ⟨z, _, rfl⟩ := List.mem_map.1 hx; rfl) HR.out (by intro u hu; obtain ⟨x, hx, hxu⟩ := List.mem_flatten.1 hu; obtain ⟨z, _, rfl⟩ := List.mem_map.1 hx; simp at hxu; subst hxu; rfl) (by rw [List.length_map]; omega) (by rw [List.length_map]; unfold maxLen; omega)).mono ?_
  rintro e w1 ⟨a1, cap1, g1, rfl, o1, c1, hg1⟩
  rw [List.length_map] at o1 ⊢
  by_cases hz : zs = []
  · subst hz
    go_wp2_with fail
    refine (Tryz.slices_Sort_none_F _ _ _).mono ?_
    rintro e w2 ⟨rfl, rfl⟩
    go_wp2_with fail
    go_ret
    have e0 : msort ile [] = [] := by unfold msort; simp
    exact ⟨a1, cap1, g1, by rw [e0]; rfl, by rw [e0]; exact o1, c1, hg1⟩
  · have hpos : 0 < zs.length := List.length_pos_iff.2 hz
    obtain ⟨k, rfl⟩ := o1.pos (by rw [List.length_map]; exact hpos)
    obtain ⟨cap', hv, -, -⟩ := o1.some_form
    simp only [Value.slice.injEq] at hv
    obtain ⟨rfl, -, -⟩ := hv
    have hrow := o1.to_row
    obtain ⟨hfl, hrow⟩ := hrow
    have hflat : ∀ l : List (Int), (l.map fun z => [encF z]).flatten = l.map (encF) := fun l => by
      induction l with
      | nil => rfl
      | cons x l ih => simp [ih]
    rw [List.length_map, hflat] at hrow
    rcases hrow with ⟨h0, _⟩ | ⟨g', cap'', cur, hv, _, hblk, hl1, hl2, hl3, htk⟩
    · simp at h0
    simp only [Value.slice.injEq, Option.some.injEq, Addr.mk.injEq] at hv
    obtain ⟨⟨rfl, -, -⟩, -, rfl⟩ := hv
    have hH : Sort.Holds (encF) w1 k 0 zs.toArray := holds_of_blockE hblk (by rw [Nat.mul_one] at htk; exact htk)
    have HH := Lib.hid hH
    have hlt : k < w1.heap.size := o1.lt k rfl
    have HB := Lib.hid hblk
    have HG := Lib.hid (hg1 k rfl)
    clear o1 hg1 hflat hfl htk hblk hH
    go_wp2_with fail
    refine (Tryz.slices_Sort_F k 0 cap1 zs w1 HH.out hlt (by omega) HSM.out).mono ?_
    rintro e w2 ⟨rfl, q, os, hw2⟩
    have hg2 : w1.grownBy w2 (some k) := by rw [hw2]; exact grownBy_sortedE _
    have hflat : ∀ l : List (Int), (l.map fun z => [encF z]).flatten = l.map (encF) := fun l => by
      induction l with
      | nil => rfl
      | cons x l ih => simp [ih]
    have hown : Owns w2 28 1 (.slice (some ⟨k, 0, none⟩) zs.length cap1) (Value.ownBlock (.slice (some ⟨k, 0, none⟩) zs.length cap1)) ((msort ile zs).map fun z => [encF z]) := by
      refine Owns.of_row (base := 0) ?_ (by intro x hx; obtain ⟨z, _, rfl⟩ := List.mem_map.1 hx; rfl)
      rw [List.length_map, msort_len, hflat, hw2]
      exact ownsRow_sortedE (msort_len zs) (Nat.zero_le _) HB.out hl1 hl2 hl3
    have c2 : Chg (fun _ => False) w w2 := c1.grown hg2 (fun j hj he => by cases he; have := HG.out; omega)
    have HO := Lib.hid hown
    clear hg2 hw2 hown
    go_wp2_with fail
    go_ret
    refine ⟨some ⟨k, 0, none⟩, cap1, _, by rw [List.length_map, msort_len]; rfl, by rw [List.length_map, msort_len]; exact HO.out, c2, fun j hj => ?_⟩
    cases hj
    exact HG.out

set_option maxRecDepth 100000 in
set_option maxHeartbeats 800000 in
theorem of_F (a : Option Addr) (n cap : Nat) (zs : List (Int)) (w : World) (hn : n = zs.length) (hnil : a = none → n = 0 ∧ cap = 0) (hr : Reads w 1 a (zs.map fun z => [encF z])) (hb : zs.length ≤ 1000000) (hsm : ∀ z ∈ zs, -32768 ≤ z ∧ z ≤ 32767) :
    Calls Tryz.prog 6 #[.slice a n cap] w fun e w' => e = .returned (.tuple #[encF (medOf zs), .int .i64 (if zs.length = 0 then 4 else 0)]) ∧ Chg (fun _ => False) w w' := by
  have HSM := Lib.hid hsm
  clear hsm
  have HR := Lib.hid hr
  have HNIL := Lib.hid hnil
  clear hr hnil
  by_cases hz : zs = []
  · subst hz
    simp at hn
    subst hn
    rw [medOf_nil, show encF 0 = Value.float .f64 0 from congrArg (Value.float .f64) fb_zero]
    go_enter Tryz.func6, Tryz.ntmps6
    go_wp2_with fail
    go_ret2
    exact ⟨rfl, Chg.refl _ _⟩
  · have hpos : 0 < zs.length := List.length_pos_iff.2 hz
    have hpos' : 0 < n := by omega
    rw [if_neg (by omega)]
    have hmed := medOf_get hz
    have HM := Lib.hid hmed
    have HN := Lib.hid hn
    have hb' : n ≤ 1000000 := by omega
    obtain ⟨q, hq⟩ : ∃ q, q = (n - 1) / 2 := ⟨_, rfl⟩
    have hq1 : ((n : Int) - 1).tdiv 2 = (q : Int) := by rw [Int.tdiv_eq_ediv_of_nonneg (by omega), hq]; omega
    have hqn : q < n := by omega
    have hqn' : (q : Int) < (n : Int) := by omega
    have hn0 : ((n : Int) == 0) = false := by rw [beq_eq_false_iff_ne]; omega
    have HQ := Lib.hid hq
    clear hmed hn hq hz hpos hb
    go_enter Tryz.func6, Tryz.ntmps6
    go_wp2_with fail
    refine (sorted_F a n cap zs w HN.out HNIL.out HR.out (by rw [← HN.out]; exact hb') HSM.out).mono ?_
    rintro e w1 ⟨a1, cap1, g1, rfl, o1, c1, hg1⟩
    rw [List.length_map, msort_len, ← HN.out] at o1 ⊢
    obtain ⟨k, rfl⟩ := o1.pos (by rw [List.length_map, msort_len, ← HN.out]; exact hpos')
    obtain ⟨cap', hv, -, -⟩ := o1.some_form
    simp only [Value.slice.injEq] at hv
    obtain ⟨rfl, -, -⟩ := hv
    have hc := o1.cell rfl (i := q) (x := [encF (medOf zs)]) (by rw [List.getElem?_map, HQ.out, HN.out, HM.out]; rfl) (j := 0) rfl
    simp only [Nat.mul_one, Nat.add_zero] at hc
    clear o1 hg1
    go_wp2_with fail
    go_ret2
    exact ⟨rfl, c1⟩

theorem infom_B : (Tryz.prog.info? 5).map (fun i => (i.zero, i.size, i.bytes)) = some (some (.int .u8 0), 1, 1) := by kernel_rfl

set_option maxRecDepth 100000 in
set_option maxHeartbeats 800000 in
theorem clone_mB (a : Option Addr) (n cap : Nat) (els : List (List Value)) (w : World) (hn : n = els.length) (hnil : a = none → n = 0 ∧ cap = 0) (he : ∀ x ∈ els, x.length = 1) (hr : Reads w 1 a els) (h1 : ∀ u ∈ els.flatten, u.oneCell' = true)
    (hb : els.length * 1 ≤ 140737488355328) (h63 : els.length ≤ maxLen) :
    Calls Tryz.prog 22 #[.slice a n cap] w (Cloned 5 1 w els) := by
  subst hn
  obtain ⟨i0, hi, hz0, hz1, hz2⟩ := info_parts infom_B
  cases a with
  | none =>
    obtain ⟨h0, rfl⟩ := hnil rfl
    have h0' : els = [] := List.eq_nil_of_length_eq_zero h0
    subst h0'
    have hq := fun w => Lib.run_eql_slice_nil (P := Tryz.prog) w 26 5 none 0 0 0 0 Tryz.underlying26
    go_enter Tryz.func22, Tryz.ntmps22
    go_wp2_with fail
    all_goals (go_ret; exact cloned_nil _ _ _)
  | some ad =>
    have hq := fun w => Lib.run_eql_slice_nil (P := Tryz.prog) w 26 5 (some ad) els.length cap 0 0 Tryz.underlying26
    have hfl := hr.flat he
    have Hr := Lib.hid hr
    clear hr
    go_enter Tryz.func22, Tryz.ntmps22
    go_wp2_with (at_builtin; refine wpList_app_any (by rfl) (.tmp 5) (.tmp 6) 26 (by rfl) 5 i0 _ 1 1 Tryz.underlying26 hi hz0 hz1 hz2 rfl (by omega) _ w.heap.size [] (by rfl) (owns_empty _ _ _) ad els els.length cap (by rfl) rfl ?_ he h1 (by simpa using hb) (by simpa using h63) ?_)
    · intro j u hu
      have := hfl j u hu
      rw [World.cell?_alloc_lt _ _ _ (World.block_lt_of_cell? _ _ this)]
      exact this
    · intro k cap' w' ho' hchg hk
      have K := cloned_mk ho' hchg (by simpa using hk)
      clear ho' hchg hk
      go_wp2_with fail
      go_ret
      simpa using K

set_option maxRecDepth 100000 in
set_option maxHeartbeats 800000 in
theorem sorted_B (a : Option Addr) (n cap : Nat) (zs : List (Int)) (w : World) (hn : n = zs.length) (hnil : a = none → n = 0 ∧ cap = 0) (hr : Reads w 1 a (zs.map fun z => [encB z])) (hb : zs.length ≤ 1000000) :
    Calls Tryz.prog 13 #[.slice a n cap] w (Cloned 5 1 w ((msort ile zs).map fun z => [encB z])) := by
  have HR := Lib.hid hr
  have HNIL := Lib.hid hnil
  have HN := Lib.hid hn
  clear hr hnil hn
  go_enter Tryz.func13, Tryz.ntmps13
  go_wp2_with fail
  refine (clone_mB a n cap (zs.map fun z => [encB z]) w (by rw [List.length_map]; exact HN.out) HNIL.out (by intro x hx; obtain ⟨z, _, rfl⟩ := List.mem_map.1 hx; rfl) HR.out (by intro u hu; obtain ⟨x, hx, hxu⟩ := List.mem_flatten.1 hu; obtain ⟨z, _, rfl⟩ := List.mem_map.1 hx; simp at hxu; subst hxu; rfl) (by rw [List.length_map]; omega) (by rw [List.length_map]; unfold maxLen; omega)).mono ?_
  rintro e w1 ⟨a1, cap1, g1, rfl, o1, c1, hg1⟩
  rw [List.length_map] at o1 ⊢
  by_cases hz : zs = []
  · subst hz
    go_wp2_with fail
    refine (Tryz.slices_Sort_none_B _ _ _).mono ?_
    rintro e w2 ⟨rfl, rfl⟩
    go_wp2_with fail
    go_ret
    have e0 : msort ile [] = [] := by unfold msort; simp
    exact ⟨a1, cap1, g1, by rw [e0]; rfl, by rw [e0]; exact o1, c1, hg1⟩
  · have hpos : 0 < zs.length := List.length_pos_iff.2 hz
    obtain ⟨k, rfl⟩ := o1.pos (by rw [List.length_map]; exact hpos)
    obtain ⟨cap', hv, -, -⟩ := o1.some_form
    simp only [Value.slice.injEq] at hv
    obtain ⟨rfl, -, -⟩ := hv
    have hrow := o1.to_row
    obtain ⟨hfl, hrow⟩ := hrow
    have hflat : ∀ l : List (Int), (l.map fun z => [encB z]).flatten = l.map (encB) := fun l => by
      induction l with
      | nil => rfl
      | cons x l ih => simp [ih]
    rw [List.length_map, hflat] at hrow
    rcases hrow with ⟨h0, _⟩ | ⟨g', cap'', cur, hv, _, hblk, hl1, hl2, hl3, htk⟩
    · simp at h0
    simp only [Value.slice.injEq, Option.some.injEq, Addr.mk.injEq] at hv
    obtain ⟨⟨rfl, -, -⟩, -, rfl⟩ := hv
    have hH : Sort.Holds (encB) w1 k 0 zs.toArray := holds_of_blockE hblk (by rw [Nat.mul_one] at htk; exact htk)
    have HH := Lib.hid hH
    have hlt : k < w1.heap.size := o1.lt k rfl
    have HB := Lib.hid hblk
    have HG := Lib.hid (hg1 k rfl)
    clear o1 hg1 hflat hfl htk hblk hH
    go_wp2_with fail
    refine (Tryz.slices_Sort_B k 0 cap1 zs w1 HH.out hlt (by omega)).mono ?_
    rintro e w2 ⟨rfl, q, os, hw2⟩
    have hg2 : w1.grownBy w2 (some k) := by rw [hw2]; exact grownBy_sortedE _
    have hflat : ∀ l : List (Int), (l.map fun z => [encB z]).flatten = l.map (encB) := fun l => by
      induction l with
      | nil => rfl
      | cons x l ih => simp [ih]
    have hown : Owns w2 5 1 (.slice (some ⟨k, 0, none⟩) zs.length cap1) (Value.ownBlock (.slice (some ⟨k, 0, none⟩) zs.length cap1)) ((msort ile zs).map fun z => [encB z]) := by
      refine Owns.of_row (base := 0) ?_ (by intro x hx; obtain ⟨z, _, rfl⟩ := List.mem_map.1 hx; rfl)
      rw [List.length_map, msort_len, hflat, hw2]
      exact ownsRow_sortedE (msort_len zs) (Nat.zero_le _) HB.out hl1 hl2 hl3
    have c2 : Chg (fun _ => False) w w2 := c1.grown hg2 (fun j hj he => by cases he; have := HG.out; omega)
    have HO := Lib.hid hown
    clear hg2 hw2 hown
    go_wp2_with fail
    go_ret
    refine ⟨some ⟨k, 0, none⟩, cap1, _, by rw [List.length_map, msort_len]; rfl, by rw [List.length_map, msort_len]; exact HO.out, c2, fun j hj => ?_⟩
    cases hj
    exact HG.out

set_option maxRecDepth 100000 in
set_option maxHeartbeats 800000 in
theorem of_B (a : Option Addr) (n cap : Nat) (zs : List (Int)) (w : World) (hn : n = zs.length) (hnil : a = none → n = 0 ∧ cap = 0) (hr : Reads w 1 a (zs.map fun z => [encB z])) (hb : zs.length ≤ 1000000) :
    Calls Tryz.prog 7 #[.slice a n cap] w fun e w' => e = .returned (.tuple #[encB (medOf zs), .int .i64 (if zs.length = 0 then 4 else 0)]) ∧ Chg (fun _ => False) w w' := by
  have HR := Lib.hid hr
  have HNIL := Lib.hid hnil
  clear hr hnil
  by_cases hz : zs = []
  · subst hz
    simp at hn
    subst hn
    rw [medOf_nil]
    go_enter Tryz.func7, Tryz.ntmps7
    go_wp2_with fail
    go_ret2
    exact ⟨rfl, Chg.refl _ _⟩
  · have hpos : 0 < zs.length := List.length_pos_iff.2 hz
    have hpos' : 0 < n := by omega
    rw [if_neg (by omega)]
    have hmed := medOf_get hz
    have HM := Lib.hid hmed
    have HN := Lib.hid hn
    have hb' : n ≤ 1000000 := by omega
    obtain ⟨q, hq⟩ : ∃ q, q = (n - 1) / 2 := ⟨_, rfl⟩
    have hq1 : ((n : Int) - 1).tdiv 2 = (q : Int) := by rw [Int.tdiv_eq_ediv_of_nonneg (by omega), hq]; omega
    have hqn : q < n := by omega
    have hqn' : (q : Int) < (n : Int) := by omega
    have hn0 : ((n : Int) == 0) = false := by rw [beq_eq_false_iff_ne]; omega
    have HQ := Lib.hid hq
    clear hmed hn hq hz hpos hb
    go_enter Tryz.func7, Tryz.ntmps7
    go_wp2_with fail
    refine (sorted_B a n cap zs w HN.out HNIL.out HR.out (by rw [← HN.out]; exact hb')).mono ?_
    rintro e w1 ⟨a1, cap1, g1, rfl, o1, c1, hg1⟩
    rw [List.length_map, msort_len, ← HN.out] at o1 ⊢
    obtain ⟨k, rfl⟩ := o1.pos (by rw [List.length_map, msort_len, ← HN.out]; exact hpos')
    obtain ⟨cap', hv, -, -⟩ := o1.some_form
    simp only [Value.slice.injEq] at hv
    obtain ⟨rfl, -, -⟩ := hv
    have hc := o1.cell rfl (i := q) (x := [encB (medOf zs)]) (by rw [List.getElem?_map, HQ.out, HN.out, HM.out]; rfl) (j := 0) rfl
    simp only [Nat.mul_one, Nat.add_zero] at hc
    clear o1 hg1
    go_wp2_with fail
    go_ret2
    exact ⟨rfl, c1⟩

end Go.Proofs.YtiflogohalceaaaGreat
