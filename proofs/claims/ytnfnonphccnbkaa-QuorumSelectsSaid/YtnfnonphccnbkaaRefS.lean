/- The document's Sorted and Of (chronobateref11): contracts. -/
import Derived.Test.YtnfnonphccnbkaaMore
import Derived.BigQuiet
set_option linter.unusedVariables false
namespace Go.Chron
open Go Go.RowKit
theorem Reads.take {w : World} {a : Option Addr} {L : List (List Value)} (h : Reads w 1 a L) (t : Nat) : Reads w 1 a (L.take t) := by
  intro hp
  obtain ⟨b, off, rfl, hc⟩ := h (by rw [List.length_take] at hp; omega)
  refine ⟨b, off, rfl, fun i x hx => hc i x ?_⟩
  have hit : i < t := by
    have := (List.getElem?_eq_some_iff.1 hx).1
    rw [List.length_take] at this; omega
  rwa [List.getElem?_take_of_lt hit] at hx
theorem cells_take {w : World} {v : Value} {k : Nat} {A : List Int} (h : Owns w 2 1 v (some k) (A.map fun z => [Value.int .i64 z])) (t : Nat) : ∀ j u, ((A.take t).map fun z => [Value.int .i64 z]).flatten[j]? = some u → w.cell? ((⟨k, 0, none⟩ : Addr).add j) = some u := by
  rw [List.map_take]
  exact (h.reads.take t).flat (fun y hy => h.each y (List.mem_of_mem_take hy))
theorem cells_drop {w : World} {v : Value} {k : Nat} {A : List Int} (h : Owns w 2 1 v (some k) (A.map fun z => [Value.int .i64 z])) (t : Nat) : ∀ j u, ((A.drop t).map fun z => [Value.int .i64 z]).flatten[j]? = some u → w.cell? ((⟨k, t, none⟩ : Addr).add j) = some u := by
  have hR : Reads w 1 (some (⟨k, t, none⟩ : Addr)) ((A.drop t).map fun z => [Value.int .i64 z]) := by
    intro hp
    refine ⟨k, t, rfl, fun i x hx q u hu => ?_⟩
    rw [List.map_drop, List.getElem?_drop] at hx
    have := h.cell rfl hx hu
    rw [show t + (i * 1 + q) = (t + i) * 1 + q by omega]
    exact this
  exact hR.flat (by intro x hx; obtain ⟨z, _, rfl⟩ := List.mem_map.1 hx; rfl)
/-- A list in order is the sorted one of whatever it is a permutation of. -/
theorem sorted_unique {α : Type} {le : α → α → Bool} (h : Ord α le) {s l : List α} (hs : s.Pairwise (fun x y => le x y = true)) (hp : s.Perm l) : s = msort le l := by
  apply List.ext_getElem?
  intro k
  by_cases hk : k < s.length
  · obtain ⟨u, hu⟩ : ∃ u, s[k]? = some u := ⟨_, List.getElem?_eq_getElem hk⟩
    have h1 := sorted_counts h hs hu
    rw [lo_perm hp, up_perm hp] at h1
    rw [hu, (sel_iff h (by rw [← hp.length_eq]; exact hk) u).2 h1]
  · rw [List.getElem?_eq_none (by omega), List.getElem?_eq_none (by rw [msort_len, ← hp.length_eq]; omega)]
/-- One more is laid in its place. -/
theorem insert_sorted {A l : List Int} {k : Nat} {x : Int} (hA : A = msort ile l) (h1 : ∀ (s : Nat) (y : Int), s < k → A[s]? = some y → y ≤ x) (h2 : ∀ y, A[k]? = some y → x ≤ y) : A.take k ++ [x] ++ A.drop k = msort ile (l ++ [x]) := by
  have hsA : A.Pairwise (fun x y => ile x y = true) := by rw [hA]; exact msort_sorted ord_int l
  apply sorted_unique ord_int
  · rw [List.append_assoc, List.pairwise_append]
    refine ⟨hsA.sublist (List.take_sublist k A), ?_, ?_⟩
    · rw [List.singleton_append, List.pairwise_cons]
      refine ⟨fun y hy => ?_, hsA.sublist (List.drop_sublist k A)⟩
      obtain ⟨s, hs⟩ := List.mem_iff_getElem?.1 hy
      rw [List.getElem?_drop] at hs
      have hlt := (List.getElem?_eq_some_iff.1 hs).1
      obtain ⟨z, hz⟩ : ∃ z, A[k]? = some z := ⟨_, List.getElem?_eq_getElem (by omega)⟩
      have := h2 z hz
      have h3 := sorted_get ord_int hsA (Nat.le_add_right k s) hz hs
      unfold ile at h3 ⊢
      simp at h3 ⊢
      omega
    · intro y hy z hz
      obtain ⟨s, hs⟩ := List.mem_iff_getElem?.1 hy
      have hsk : s < k := by
        have := (List.getElem?_eq_some_iff.1 hs).1
        rw [List.length_take] at this; omega
      rw [List.getElem?_take_of_lt hsk] at hs
      have hyx := h1 s y hsk hs
      rw [List.singleton_append] at hz
      rcases List.mem_cons.1 hz with rfl | hz
      · unfold ile; simpa using hyx
      · obtain ⟨s', hs'⟩ := List.mem_iff_getElem?.1 hz
        rw [List.getElem?_drop] at hs'
        exact sorted_get ord_int hsA (by omega) hs hs'
  · have hp : (A.take k ++ [x] ++ A.drop k).Perm (A ++ [x]) := by
      have e : A ++ [x] = A.take k ++ (A.drop k ++ [x]) := by rw [← List.append_assoc, List.take_append_drop]
      rw [e, List.append_assoc]
      exact List.Perm.append_left _ List.perm_append_comm
    exact hp.trans (List.Perm.append_right _ (by rw [hA]; exact msort_perm l))
end Go.Chron
namespace Go.Proofs.Ytnfnonphccnbkaa
open Go.RowKit Go.Chron

def SortInv (w : World) (zs : List Int) (n : Nat) (i v : Value) (wr : World) : Prop :=
  ∃ (j : Nat) (g : Option Nat), j ≤ n ∧ i = .int .i64 j ∧ Owns wr 2 1 v g ((msort ile (zs.take j)).map fun z => [Value.int .i64 z]) ∧ (∀ k, g = some k → w.heap.size ≤ k) ∧ Chg (fun _ => False) w wr
def SortIn (A : List Int) (x : Int) (w0 : World) (k : Value) (wr : World) : Prop :=
  ∃ t d : Nat, k = .int .i64 t ∧ t ≤ A.length ∧ (∀ (s : Nat) (y : Int), s < t → A[s]? = some y → y ≤ x) ∧ wr = w0.drewN d

set_option maxRecDepth 100000 in
set_option maxHeartbeats 3200000 in
theorem refSorted (a : Option Addr) (n cap : Nat) (zs : List Int) (w : World) (hn : n = zs.length) (hcap : n ≤ cap) (hcm : cap ≤ 9223372036854775807) (hr : Reads w 1 a (zs.map fun z => [Value.int .i64 z])) (hb : n ≤ 1000000) :
    Calls Try.prog 41 #[.slice a n cap] w (Cloned 2 1 w ((msort ile zs).map fun z => [Value.int .i64 z])) := by
  obtain ⟨i0, hi, hz0, hz1, hz2⟩ := info_parts infom_i64
  have HR := Lib.hid hr
  have HN := Lib.hid hn
  clear hr hn
  go_enter Try.func41, Try.ntmps41
  go_wp2_with fail
  go_loopw [4, 3] (fun i v wr => SortInv w zs n i v wr) (fun i _ _ => n - (intOf i).toNat)
  case atStart => exact ⟨0, none, by omega, rfl, by rw [List.take_zero, show msort ile [] = [] by unfold msort; simp]; exact Owns.nil _ _ _, by simp, Chg.refl _ _⟩
  case round =>
    obtain ⟨j, g, hj, rfl, oA, gA, cA⟩ := hrel
    by_cases hlt : j < n
    · obtain ⟨x, hx⟩ : ∃ x, zs[j]? = some x := ⟨_, List.getElem?_eq_getElem (by rw [← HN.out]; exact hlt)⟩
      obtain ⟨bl, off, rfl, hcell⟩ := HR.out (by rw [List.length_map, ← HN.out]; omega)
      have e0 := cA.keep (hcell j [Value.int .i64 x] (by rw [List.getElem?_map, hx]; rfl) 0 _ rfl) (fun h => h)
      simp only [Nat.mul_one, Nat.add_zero] at e0
      have hjn : (j : Int) < (n : Int) := by omega
      have hxt : zs.take (j + 1) = zs.take j ++ [x] := by rw [List.take_add_one, hx]; rfl
      obtain ⟨A, hA⟩ : ∃ A, A = msort ile (zs.take j) := ⟨_, rfl⟩
      have hAl : A.length = j := by rw [hA, msort_len, List.length_take, ← HN.out]; omega
      rw [← hA] at oA
      have HA := Lib.hid hA
      have HXT := Lib.hid hxt
      have HE0 := Lib.hid (hcell j [Value.int .i64 x] (by rw [List.getElem?_map, hx]; rfl) 0 _ rfl)
      simp only [Nat.mul_one, Nat.add_zero] at HE0
      have HAL := Lib.hid hAl
      have hal6 : A.length ≤ 1000000 := by omega
      have hal0 : A.length ≤ j := by omega
      have HGA := Lib.hid gA
      have HCA := Lib.hid cA
      clear hx hcell hxt hA hAl gA cA
      cases g with
      | none =>
        have hvA : A = [] := by
          rcases oA.row with ⟨_, _, h⟩ | ⟨k, _, _, h, _⟩
          · exact List.map_eq_nil_iff.1 h
          · cases h
        obtain ⟨a', cap', rfl, -, -, hc0, ha'⟩ := oA.form
        obtain rfl : a' = none := ha'
        obtain rfl := hc0 rfl
        have hj0 : j = 0 := by rw [← HAL.out, hvA]; rfl
        subst hj0
        have hins := insert_sorted (k := 0) (x := x) HA.out (fun s y h => by omega) (fun y hy => by rw [hvA] at hy; cases hy)
        rw [← HXT.out, hvA] at hins
        have HINS := Lib.hid hins
        subst hvA
        clear hins oA
        simp only [List.map_nil, List.length_nil]
        go_wp2_with fail
        go_loopw [5] (fun k wr' => ∃ d : Nat, k = .int .i64 ((0 : Nat) : Int) ∧ wr' = wr.drewN d) (fun k _ => 0)
        case atStart => exact ⟨0, rfl, rfl⟩
        case round =>
          obtain ⟨d, rfl, rfl⟩ := hrel
          have sA := HCA.out.size
          go_wp2_with fail
          go_quiet (fail)
          have c5 := (HCA.out.trans (chg0_drewN wr (d + nq))).alloc (Obj.cells #[] 2)
          have e6 := c5.keep HE0.out (fun h => h)
          simp only [Nat.add_zero] at e6
          have o6 := (owns_empty 2 1 (wr.drewN (d + nq))).alloc (Obj.cells #[Value.int IntKind.i64 x] 2)
          have hsz : (wr.drewN (d + nq)).heap.size = wr.heap.size := by simp
          rw [hsz] at o6
          have bX := Blk.new ((wr.drewN (d + nq)).alloc (Obj.cells #[] 2)) 2 #[Value.int IntKind.i64 x]
          have hsz2 : ((wr.drewN (d + nq)).alloc (Obj.cells #[] 2)).heap.size = wr.heap.size + 1 := by simp
          rw [hsz2] at bX
          go_wp2_with (at_builtin; refine wpList_app (by rfl) (.tmp 35) (.tmp 40) 49 (by rfl) 2 i0 _ 1 8 Try.underlying49 hi hz0 hz1 hz2 rfl (by omega) _ _ [] (by rfl) o6 _ 2 [[Value.int .i64 x]] 1 1 (by rfl) (by rfl) bX (by simp) (by simp [Value.oneCell']) (by simp) (by simp) (by simp [maxLen]) ?_)
          intro k2 cap2 w7 ho2 hc2 hk2
          have ho2 : Owns w7 2 1 (.slice (some ⟨k2, 0, none⟩) 1 cap2) (some k2) ((msort ile (zs.take 1)).map fun z => [Value.int .i64 z]) := by
            rw [← HINS.out]; exact ho2
          have hk2' : w.heap.size ≤ k2 := by
            rcases hk2 with h | h
            · have h' : wr.heap.size = k2 := by cases h; rfl
              omega
            · have h' : wr.heap.size + 1 + 1 ≤ k2 := by simpa using h
              omega
          have c7 := (c5.alloc (Obj.cells #[Value.int IntKind.i64 x] 2)).trans' hc2 (fun i hi e => by
            have e' : wr.heap.size = i := by cases e; rfl
            omega)
          obtain ⟨cq, hvq, hq1, hq2⟩ := ho2.some_form
          rw [← HINS.out] at hvq hq1
          simp only [Value.slice.injEq] at hvq
          obtain ⟨-, -, rfl⟩ := hvq
          have hq1 : 1 ≤ cap2 := hq1
          have HO2 := Lib.hid ho2
          have HC7 := Lib.hid c7
          clear ho2 c7 c5 e6 o6 bX hc2 hk2
          go_wp2_with fail
          all_goals (
            go_roundw
            case rel => exact ⟨1, some k2, by omega, by go_num, HO2.out, fun k hk => by cases hk; exact hk2', HC7.out⟩
            case measure => simp [intOf]; omega)
      | some g0 =>
        obtain ⟨capo, rfl, hlo, hco⟩ := oA.some_form
        rw [List.length_map, HAL.out] at oA hlo
        rw [List.length_map, HAL.out]
        have hg0 := oA.lt g0 rfl
        have HOA := Lib.hid oA
        clear oA
        go_wp2_with fail
        go_loopw [5] (fun k wr' => SortIn A x wr k wr') (fun k _ => j - (intOf k).toNat)
        case atStart => exact ⟨0, 0, rfl, by omega, by omega, rfl⟩
        case round =>
          obtain ⟨t, d, rfl, ht, hle, rfl⟩ := hrel
          by_cases htl : t < j
          · obtain ⟨y, hy⟩ : ∃ y, A[t]? = some y := ⟨_, List.getElem?_eq_getElem (by rw [HAL.out]; exact htl)⟩
            have u0 := HOA.out.cell rfl (i := t) (x := [Value.int .i64 y]) (by rw [List.getElem?_map, hy]; rfl) (j := 0) rfl
            simp only [Nat.mul_one, Nat.add_zero] at u0
            have htj : (t : Int) < (j : Int) := by omega
            have u1 : (wr.drewN d).cell? ⟨g0, t, none⟩ = some (.int .i64 y) := u0
            have e1 : (wr.drewN d).cell? ⟨bl, off + j, none⟩ = some (.int .i64 x) := e0
            by_cases hyx : y ≤ x
            · have hle' : ∀ (s : Nat) (z : Int), s < t + 1 → A[s]? = some z → z ≤ x := fun s z hs hz => by
                by_cases h : s = t
                · subst h; rw [hy] at hz; cases hz; exact hyx
                · exact hle s z (by omega) hz
              have HLE := Lib.hid hle'
              clear hy hle hle'
              go_wp2_with fail
              go_quiet (fail)
              go_wp2_with fail
              go_roundw
              case rel => exact ⟨t + 1, d + nq, by go_num, by have := HAL.out; omega, HLE.out, by simp [World.drewN]⟩
              case measure => simp [intOf]; omega
            · have hxy : x ≤ y := by omega
              have HHY := Lib.hid hy
              have HLE := Lib.hid hle
              clear hy hle
              go_wp2_with fail
              go_quiet (fail)
              have hins := insert_sorted HA.out HLE.out (fun z hz => by rw [HHY.out] at hz; cases hz; exact hxy)
              rw [← HXT.out] at hins
              obtain ⟨B, hB⟩ : ∃ B, B = A.take t := ⟨_, rfl⟩
              obtain ⟨D, hD⟩ : ∃ D, D = A.drop t := ⟨_, rfl⟩
              rw [← hB, ← hD] at hins
              have HINS := Lib.hid hins
              have hBl : B.length = t := by rw [hB, List.length_take, HAL.out]; omega
              have hDl : D.length = j - t := by rw [hD, List.length_drop, HAL.out]
              have HB := Lib.hid hB
              have HD := Lib.hid hD
              have HBL := Lib.hid hBl
              have HDL := Lib.hid hDl
              have hb6 : B.length ≤ 1000000 := by omega
              have hd6 : D.length ≤ 1000000 := by omega
              have c5 := HCA.out.trans (chg0_drewN wr (d + nq))
              have o5 := HOA.out.chg (chg0_drewN wr (d + nq)) (fun _ _ h => h)
              have sA := HCA.out.size
              have htj2 : t ≤ j := by omega
              clear hins hB hD hBl hDl
              go_wp2_with (at_builtin; refine wpList_app_any (by rfl) (.tmp 30) (.tmp 33) 49 (by rfl) 2 i0 _ 1 8 Try.underlying49 hi hz0 hz1 hz2 rfl (by omega) _ wr.heap.size [] (by rfl) (owns_empty _ _ _) ⟨g0, 0, none⟩ (B.map fun z => [Value.int .i64 z]) t capo (by rfl) (by rw [List.length_map]; exact HBL.out.symm) ?_ (enc_each _ _) (enc_one _ _) (by simp; omega) (by simp [maxLen]; omega) ?_)
              · intro jj u hu
                have := cells_take (o5.alloc (Obj.cells #[] 2)) t jj u (by rw [← HB.out]; exact hu)
                simpa [Addr.add] using this
              · intro k1 cap1 w6 ho1 hc1 hk1
                have ho1 : Owns w6 2 1 (.slice (some ⟨k1, 0, none⟩) t cap1) (some k1) (B.map fun z => [Value.int .i64 z]) := by
                  have := ho1
                  rw [HBL.out] at this
                  exact this
                rw [HBL.out]
                have hk1' : wr.heap.size ≤ k1 := by omega
                have c6 := (c5.alloc (Obj.cells #[] 2)).trans' hc1 (fun i hi e => by omega)
                have o6 := (o5.alloc (Obj.cells #[] 2)).chg hc1 (fun _ e h => by cases e; omega)
                have e6 := c6.keep (HE0.out) (fun h => h)
                have ho1a := ho1.alloc (Obj.cells #[Value.int IntKind.i64 x] 2)
                have bX := Blk.new w6 2 #[Value.int IntKind.i64 x]
                have s6 := c6.size
                have k1lt := ho1.lt k1 rfl
                clear o5 c5 hc1 hk1 ho1
                go_wp2_with (at_builtin; refine wpList_app (by rfl) (.tmp 35) (.tmp 40) 49 (by rfl) 2 i0 _ 1 8 Try.underlying49 hi hz0 hz1 hz2 rfl (by omega) _ _ _ (by rfl) ho1a _ 2 [[Value.int .i64 x]] 1 1 (by rfl) (by rfl) bX (by simp) (by simp [Value.oneCell']) (by simp) (by simp; omega) (by simp [maxLen]; omega) ?_)
                intro k2 cap2 w7 ho2 hc2 hk2
                have ho2 : Owns w7 2 1 (.slice (some ⟨k2, 0, none⟩) (t + 1) cap2) (some k2) ((B ++ [x]).map fun z => [Value.int .i64 z]) := by
                  have := ho2
                  rw [HBL.out] at this
                  rw [List.map_append]
                  exact this
                rw [HBL.out]
                have hk2' : wr.heap.size ≤ k2 := by
                  rcases hk2 with h | h
                  · cases h; omega
                  · have h' : w6.heap.size + 1 ≤ k2 := by simpa using h
                    have : wr.heap.size ≤ w6.heap.size := by omega
                    omega
                have c7 := (c6.alloc (Obj.cells #[Value.int IntKind.i64 x] 2)).trans' hc2 (fun i hi e => by cases e; omega)
                have o7 := (o6.alloc (Obj.cells #[Value.int IntKind.i64 x] 2)).chg hc2 (fun _ e h => by cases e; cases h; omega)
                have s7 := c7.size
                obtain ⟨cq, hvq, hq1, hq2⟩ := ho2.some_form
                rw [List.length_map, List.length_append, HBL.out] at hvq hq1
                simp only [Value.slice.injEq] at hvq
                obtain ⟨-, -, rfl⟩ := hvq
                have hq1 : t + 1 ≤ cap2 := hq1
                have hbl2 : (B ++ [x]).length ≤ 1000001 := by rw [List.length_append]; simp; omega
                obtain ⟨E, hE⟩ : ∃ E, E = B ++ [x] := ⟨_, rfl⟩
                rw [← hE] at ho2 hbl2
                have HE := Lib.hid hE
                have HEL := Lib.hid (show E.length = t + 1 by rw [hE, List.length_append, HBL.out]; rfl)
                have dt0 : (0 : Int) ≤ (t : Int) := by omega
                have dt1 : (t : Int) ≤ (j : Int) := by omega
                have dt2 : ((t : Int)).toNat = t := by omega
                have hk1' := HBL.out
                clear o6 c6 e6 ho1a bX hc2 hk2 hE hk1'
                by_cases hct : capo = t
                · have htj : t = j := by omega
                  have hD0 : D = [] := List.eq_nil_of_length_eq_zero (by rw [HDL.out]; omega)
                  have HD0 := Lib.hid hD0
                  subst htj
                  subst hct
                  clear hD0 dt1
                  go_wp2_with fail
                  have HO : Owns w7 2 1 (.slice (some ⟨k2, 0, none⟩) (capo + 1) cap2) (some k2) ((msort ile (zs.take (capo + 1))).map fun z => [Value.int .i64 z]) := by
                    rw [← HINS.out, HD0.out, List.append_nil, ← HE.out]; exact ho2
                  have HO2 := Lib.hid HO
                  have HC7 := Lib.hid c7
                  clear ho2 HO o7 c7
                  go_roundw
                  case rel => exact ⟨capo + 1, some k2, by omega, by go_num, HO2.out, fun k hk => by cases hk; omega, HC7.out⟩
                  case measure => simp [intOf]; omega
                · go_wp2_with (at_builtin; refine wpList_app_any (by rfl) (.tmp 42) (.tmp 45) 49 (by rfl) 2 i0 _ 1 8 Try.underlying49 hi hz0 hz1 hz2 rfl (by omega) _ k2 _ (by rfl) ho2 ⟨g0, t, none⟩ (D.map fun z => [Value.int .i64 z]) (j - t) _ (by rfl) (by rw [List.length_map]; exact HDL.out.symm) ?_ (enc_each _ _) (enc_one _ _) (by simp; omega) (by simp [maxLen]; omega) ?_)
                  · intro jj u hu
                    have := cells_drop o7 t jj u (by rw [← HD.out]; exact hu)
                    simpa [Addr.add] using this
                  · intro k3 cap3 w8 ho3 hc3 hk3
                    have ho3 : Owns w8 2 1 (.slice (some ⟨k3, 0, none⟩) (j + 1) cap3) (some k3) ((msort ile (zs.take (j + 1))).map fun z => [Value.int .i64 z]) := by
                      have := ho3
                      rw [HEL.out, HDL.out, show t + 1 + (j - t) = j + 1 by omega] at this
                      rw [← HINS.out, ← HE.out, List.map_append]
                      exact this
                    rw [HEL.out, HDL.out, show t + 1 + (j - t) = j + 1 by omega]
                    have c8 := c7.trans' hc3 (fun i hi e => by omega)
                    have hk3' : w.heap.size ≤ k3 := by omega
                    have HO2 := Lib.hid ho3
                    have HC8 := Lib.hid c8
                    clear ho2 ho3 c7 c8 o7 hc3 hk3
                    go_wp2_with fail
                    go_roundw
                    case rel => exact ⟨j + 1, some k3, by omega, by go_num, HO2.out, fun k hk => by cases hk; exact hk3', HC8.out⟩
                    case measure => simp [intOf]; omega
          · obtain rfl : t = j := by omega
            have HLE := Lib.hid hle
            clear hle
            go_wp2_with fail
            go_quiet (fail)
            have hins := insert_sorted HA.out HLE.out (fun z hz => by have := (List.getElem?_eq_some_iff.1 hz).1; rw [HAL.out] at this; omega)
            rw [← HXT.out] at hins
            obtain ⟨B, hB⟩ : ∃ B, B = A.take t := ⟨_, rfl⟩
            obtain ⟨D, hD⟩ : ∃ D, D = A.drop t := ⟨_, rfl⟩
            rw [← hB, ← hD] at hins
            have HINS := Lib.hid hins
            have hBl : B.length = t := by rw [hB, List.length_take, HAL.out]; omega
            have hDl : D.length = t - t := by rw [hD, List.length_drop, HAL.out]
            have HB := Lib.hid hB
            have HD := Lib.hid hD
            have HBL := Lib.hid hBl
            have HDL := Lib.hid hDl
            have hb6 : B.length ≤ 1000000 := by omega
            have hd6 : D.length ≤ 1000000 := by omega
            have c5 := HCA.out.trans (chg0_drewN wr (d + nq))
            have o5 := HOA.out.chg (chg0_drewN wr (d + nq)) (fun _ _ h => h)
            have sA := HCA.out.size
            have htj2 : t ≤ t := by omega
            clear hins hB hD hBl hDl
            go_wp2_with (at_builtin; refine wpList_app_any (by rfl) (.tmp 30) (.tmp 33) 49 (by rfl) 2 i0 _ 1 8 Try.underlying49 hi hz0 hz1 hz2 rfl (by omega) _ wr.heap.size [] (by rfl) (owns_empty _ _ _) ⟨g0, 0, none⟩ (B.map fun z => [Value.int .i64 z]) t capo (by rfl) (by rw [List.length_map]; exact HBL.out.symm) ?_ (enc_each _ _) (enc_one _ _) (by simp; omega) (by simp [maxLen]; omega) ?_)
            · intro jj u hu
              have := cells_take (o5.alloc (Obj.cells #[] 2)) t jj u (by rw [← HB.out]; exact hu)
              simpa [Addr.add] using this
            · intro k1 cap1 w6 ho1 hc1 hk1
              have ho1 : Owns w6 2 1 (.slice (some ⟨k1, 0, none⟩) t cap1) (some k1) (B.map fun z => [Value.int .i64 z]) := by
                have := ho1
                rw [HBL.out] at this
                exact this
              rw [HBL.out]
              have hk1' : wr.heap.size ≤ k1 := by omega
              have c6 := (c5.alloc (Obj.cells #[] 2)).trans' hc1 (fun i hi e => by omega)
              have o6 := (o5.alloc (Obj.cells #[] 2)).chg hc1 (fun _ e h => by cases e; omega)
              have e6 := c6.keep (HE0.out) (fun h => h)
              have ho1a := ho1.alloc (Obj.cells #[Value.int IntKind.i64 x] 2)
              have bX := Blk.new w6 2 #[Value.int IntKind.i64 x]
              have s6 := c6.size
              have k1lt := ho1.lt k1 rfl
              clear o5 c5 hc1 hk1 ho1
              go_wp2_with (at_builtin; refine wpList_app (by rfl) (.tmp 35) (.tmp 40) 49 (by rfl) 2 i0 _ 1 8 Try.underlying49 hi hz0 hz1 hz2 rfl (by omega) _ _ _ (by rfl) ho1a _ 2 [[Value.int .i64 x]] 1 1 (by rfl) (by rfl) bX (by simp) (by simp [Value.oneCell']) (by simp) (by simp; omega) (by simp [maxLen]; omega) ?_)
              intro k2 cap2 w7 ho2 hc2 hk2
              have ho2 : Owns w7 2 1 (.slice (some ⟨k2, 0, none⟩) (t + 1) cap2) (some k2) ((B ++ [x]).map fun z => [Value.int .i64 z]) := by
                have := ho2
                rw [HBL.out] at this
                rw [List.map_append]
                exact this
              rw [HBL.out]
              have hk2' : wr.heap.size ≤ k2 := by
                rcases hk2 with h | h
                · cases h; omega
                · have h' : w6.heap.size + 1 ≤ k2 := by simpa using h
                  have : wr.heap.size ≤ w6.heap.size := by omega
                  omega
              have c7 := (c6.alloc (Obj.cells #[Value.int IntKind.i64 x] 2)).trans' hc2 (fun i hi e => by cases e; omega)
              have o7 := (o6.alloc (Obj.cells #[Value.int IntKind.i64 x] 2)).chg hc2 (fun _ e h => by cases e; cases h; omega)
              have s7 := c7.size
              obtain ⟨cq, hvq, hq1, hq2⟩ := ho2.some_form
              rw [List.length_map, List.length_append, HBL.out] at hvq hq1
              simp only [Value.slice.injEq] at hvq
              obtain ⟨-, -, rfl⟩ := hvq
              have hq1 : t + 1 ≤ cap2 := hq1
              have hbl2 : (B ++ [x]).length ≤ 1000001 := by rw [List.length_append]; simp; omega
              obtain ⟨E, hE⟩ : ∃ E, E = B ++ [x] := ⟨_, rfl⟩
              rw [← hE] at ho2 hbl2
              have HE := Lib.hid hE
              have HEL := Lib.hid (show E.length = t + 1 by rw [hE, List.length_append, HBL.out]; rfl)
              have dt0 : (0 : Int) ≤ (t : Int) := by omega
              have dt1 : (t : Int) ≤ (t : Int) := by omega
              have dt2 : ((t : Int)).toNat = t := by omega
              have hk1' := HBL.out
              clear o6 c6 e6 ho1a bX hc2 hk2 hE hk1'
              have hD0 : D = [] := List.eq_nil_of_length_eq_zero (by rw [HDL.out]; omega)
              have HO : Owns w7 2 1 (.slice (some ⟨k2, 0, none⟩) (t + 1) cap2) (some k2) ((msort ile (zs.take (t + 1))).map fun z => [Value.int .i64 z]) := by
                rw [← HINS.out, hD0, List.append_nil, ← HE.out]; exact ho2
              have HO2 := Lib.hid HO
              have HC7 := Lib.hid c7
              clear ho2 HO o7 c7 hD0
              go_wp2_with fail
              all_goals (
                go_roundw
                case rel => exact ⟨t + 1, some k2, by omega, by go_num, HO2.out, fun k hk => by cases hk; omega, HC7.out⟩
                case measure => simp [intOf]; omega)
    · obtain rfl : j = n := by omega
      have hzt : zs.take j = zs := List.take_of_length_le (by have := HN.out; omega)
      rw [hzt] at oA
      have HO := Lib.hid oA
      have HG := Lib.hid gA
      have HC := Lib.hid cA
      clear oA gA cA hzt
      go_wp2_with fail
      go_ret
      obtain ⟨a', cap', hv, -, -, -, -⟩ := HO.out.form
      subst hv
      exact ⟨a', cap', g, rfl, HO.out, HC.out, HG.out⟩
set_option maxRecDepth 100000 in
set_option maxHeartbeats 800000 in
theorem refOf (a : Option Addr) (n cap : Nat) (zs : List Int) (w : World) (hn : n = zs.length) (hcap : n ≤ cap) (hcm : cap ≤ 9223372036854775807) (hr : Reads w 1 a (zs.map fun z => [Value.int .i64 z])) (hb : n ≤ 1000000) :
    Calls Try.prog 40 #[.slice a n cap] w fun e w' => e = .returned (.tuple #[.int .i64 (medOf zs), .int .i64 (if zs.length = 0 then 4 else 0)]) ∧ Chg (fun _ => False) w w' := by
  have HR := Lib.hid hr
  clear hr
  by_cases hz : zs = []
  · subst hz
    simp at hn
    subst hn
    rw [medOf_nil]
    go_enter Try.func40, Try.ntmps40
    go_wp2_with fail
    go_ret2
    exact ⟨rfl, Chg.refl _ _⟩
  · have hpos : 0 < zs.length := List.length_pos_iff.2 hz
    have hpos' : 0 < n := by omega
    rw [if_neg (by omega)]
    have hmed := medOf_get hz
    have HM := Lib.hid hmed
    have HN := Lib.hid hn
    obtain ⟨q, hq⟩ : ∃ q, q = (n - 1) / 2 := ⟨_, rfl⟩
    have hq1 : ((n : Int) - 1).tdiv 2 = (q : Int) := by rw [Int.tdiv_eq_ediv_of_nonneg (by omega), hq]; omega
    have hqn : q < n := by omega
    have hqn' : (q : Int) < (n : Int) := by omega
    have hn0 : ((n : Int) == 0) = false := by rw [beq_eq_false_iff_ne]; omega
    have HQ := Lib.hid hq
    clear hmed hn hq hz hpos
    go_enter Try.func40, Try.ntmps40
    go_wp2_with fail
    refine (refSorted a n cap zs w HN.out hcap hcm HR.out hb).mono ?_
    rintro e w1 ⟨a1, cap1, g1, rfl, o1, c1, hg1⟩
    rw [List.length_map, msort_len, ← HN.out] at o1 ⊢
    obtain ⟨k, rfl⟩ := o1.pos (by rw [List.length_map, msort_len, ← HN.out]; exact hpos')
    obtain ⟨cap', hv, -, -⟩ := o1.some_form
    simp only [Value.slice.injEq] at hv
    obtain ⟨rfl, -, -⟩ := hv
    have hc := o1.cell rfl (i := q) (x := [Value.int .i64 (medOf zs)]) (by rw [List.getElem?_map, HQ.out, HN.out, HM.out]; rfl) (j := 0) rfl
    simp only [Nat.mul_one, Nat.add_zero] at hc
    clear o1 hg1
    go_wp2_with fail
    go_ret2
    exact ⟨rfl, c1⟩
end Go.Proofs.Ytnfnonphccnbkaa
