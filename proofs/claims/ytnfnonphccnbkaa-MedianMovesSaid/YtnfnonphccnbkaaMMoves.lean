/- MedianMoves: in whatever order, it is the same; all moved by so much, it is too; of all the other sign it is the other one in the middle: the walk. -/
import Derived.Test.YtnfnonphccnbkaaMore
set_option linter.unusedVariables false
namespace Go.Chron
open Go Go.RowKit
def encI (z : Int) : List Value := [Value.int .i64 z]
/-- Three slices of numbers of the call's own, in blocks of their own. -/
structure Mv (w0 w : World) (va vb vc : Value) (ga gb gc : Option Nat) (A B C : List Int) : Prop where
  oa : Owns w 2 1 va ga (A.map fun z => [Value.int .i64 z])
  ob : Owns w 2 1 vb gb (B.map fun z => [Value.int .i64 z])
  oc : Owns w 2 1 vc gc (C.map fun z => [Value.int .i64 z])
  na : ∀ k, ga = some k → w0.heap.size ≤ k
  nb : ∀ k, gb = some k → w0.heap.size ≤ k
  nc : ∀ k, gc = some k → w0.heap.size ≤ k
  ab : ∀ k, ga = some k → gb = some k → False
  bc : ∀ k, gb = some k → gc = some k → False
  ca : ∀ k, gc = some k → ga = some k → False
  c : Chg (fun _ => False) w0 w
section
variable {w0 w w' : World} {va vb vc : Value} {ga gb gc : Option Nat} {A B C : List Int}
theorem Mv.rot (h : Mv w0 w va vb vc ga gb gc A B C) : Mv w0 w vb vc va gb gc ga B C A := ⟨h.ob, h.oc, h.oa, h.nb, h.nc, h.na, h.bc, h.ca, h.ab, h.c⟩
theorem Mv.chg0 (h : Mv w0 w va vb vc ga gb gc A B C) (k : Chg (fun _ => False) w w') : Mv w0 w' va vb vc ga gb gc A B C :=
  ⟨h.oa.chg k (fun _ _ h => h), h.ob.chg k (fun _ _ h => h), h.oc.chg k (fun _ _ h => h), h.na, h.nb, h.nc, h.ab, h.bc, h.ca, h.c.trans k⟩
theorem Mv.addA (h : Mv w0 w va vb vc ga gb gc A B C) {k : Nat} {v' : Value} {x : Int} (ho : Owns w' 2 1 v' (some k) ((A ++ [x]).map fun z => [Value.int .i64 z])) (hc : Chg (fun b => ga = some b) w w') (hk : ga = some k ∨ w.heap.size ≤ k) :
    Mv w0 w' v' vb vc (some k) gb gc (A ++ [x]) B C := by
  have hs := h.c.size
  have kb : ∀ j, gb = some j → j ≠ k := fun j hj e => by
    subst e
    rcases hk with h1 | h1
    · exact h.ab _ h1 hj
    · have := h.ob.lt _ hj; omega
  have kc : ∀ j, gc = some j → j ≠ k := fun j hj e => by
    subst e
    rcases hk with h1 | h1
    · exact h.ca _ hj h1
    · have := h.oc.lt _ hj; omega
  refine ⟨ho, h.ob.chg hc (fun j hj e => h.ab j e hj), h.oc.chg hc (fun j hj e => h.ca j hj e), fun j hj => ?_, h.nb, h.nc, fun j hj hj' => ?_, h.bc, fun j hj hj' => ?_, h.c.trans' hc (fun i hi e => by have := h.na i e; omega)⟩
  · cases hj
    rcases hk with h1 | h1
    · exact h.na _ h1
    · omega
  · cases hj; exact kb _ hj' rfl
  · cases hj'; exact kc _ hj rfl
theorem Mv.setA (h : Mv w0 w va vb vc ga gb gc A B C) {A' : List Int} (ho : Owns w' 2 1 va ga (A'.map fun z => [Value.int .i64 z])) (hc : Chg (fun b => ga = some b) w w') :
    Mv w0 w' va vb vc ga gb gc A' B C :=
  ⟨ho, h.ob.chg hc (fun j hj e => h.ab j e hj), h.oc.chg hc (fun j hj e => h.ca j hj e), h.na, h.nb, h.nc, h.ab, h.bc, h.ca, h.c.trans' hc (fun i hi e => by have := h.na i e; omega)⟩
end
theorem Owns.set1 {w : World} {e : TypeId} {v : Value} {k : Nat} {zs : List Int} (h : Owns w e 1 v (some k) (zs.map fun z => [Value.int .i64 z])) {i : Nat} (hi : i < zs.length) (x : Int) :
    Owns (w.setCell ⟨k, i, none⟩ (.int .i64 x)) e 1 v (some k) ((zs.set i x).map fun z => [Value.int .i64 z]) := by
  have := h.set (i := i) (by rw [List.length_map]; exact hi) (x := [Value.int .i64 x]) rfl
  rw [Nat.mul_one] at this
  rw [List.map_set]
  exact this
/-- Two elements changed for one another. -/
def swapL (l : List Int) (i j : Nat) : List Int := (l.set i (l.getD j 0)).set j (l.getD i 0)
theorem swapL_perm {l : List Int} {i j : Nat} (hi : i < l.length) (hj : j < l.length) : (swapL l i j).Perm l := by
  have h := Array.swap_perm (xs := l.toArray) (i := i) (j := j) (by simpa using hi) (by simpa using hj)
  have h2 := h.toList
  rw [Array.toList_swap] at h2
  unfold swapL
  simpa [List.getD_eq_getElem?_getD, hi, hj] using h2
theorem Mv.swapB {w0 w : World} {va vb vc : Value} {ga gc : Option Nat} {kb : Nat} {A ns C : List Int} (h : Mv w0 w va vb vc ga (some kb) gc A ns C) {xi yi : Nat} {p q : Int} (hx : ns[xi]? = some p) (hy : ns[yi]? = some q) :
    Mv w0 ((w.setCell ⟨kb, xi, none⟩ (.int .i64 q)).setCell ⟨kb, yi, none⟩ (.int .i64 p)) va vb vc ga (some kb) gc A (swapL ns xi yi) C := by
  have hxl := (List.getElem?_eq_some_iff.1 hx).1
  have hyl := (List.getElem?_eq_some_iff.1 hy).1
  have e : swapL ns xi yi = (ns.set xi q).set yi p := by
    unfold swapL
    rw [List.getD_eq_getElem?_getD, List.getD_eq_getElem?_getD, hx, hy]; rfl
  rw [e]
  have o1 := h.ob.set1 hxl q
  have o2 := o1.set1 (i := yi) (by rw [List.length_set]; exact hyl) p
  exact (h.rot.setA o2 (((Chg.refl (fun b => some kb = some b) w).setCell (p := ⟨kb, xi, none⟩) (fun _ => rfl) _).setCell (p := ⟨kb, yi, none⟩) (fun _ => rfl) _)).rot.rot
end Go.Chron

namespace Go.Proofs.Ytnfnonphccnbkaa
open Go.RowKit Go.Chron

def MMInv (w : World) (zs : List Int) (by_ : Int) (n : Nat) (i va vb vc : Value) (wr : World) : Prop :=
  ∃ (j : Nat) (ga gb gc : Option Nat), j ≤ n ∧ i = .int .i64 j ∧ Mv w wr va vb vc ga gb gc (zs.take j) ((zs.take j).map (· + by_)) ((zs.take j).map (fun x => -x))
def MMSwap (w : World) (zs : List Int) (by_ : Int) (m : Nat) (va vb vc : Value) (ga gb gc : Option Nat) (i : Value) (wr : World) : Prop :=
  ∃ (t : Nat) (ns : List Int), t ≤ m ∧ i = .int .i64 t ∧ ns.Perm (zs.map (· + by_)) ∧ Mv w wr va vb vc ga gb gc zs ns (zs.map (fun x => -x))

set_option maxRecDepth 100000 in
set_option maxHeartbeats 6400000 in
theorem medianMoves_walk (a a2 : Option Addr) (n cap m cap2 : Nat) (zs sw : List Int) (by_ : Int) (w : World) (hI : IntsIn .i32 w a n cap zs) (hS : IntsIn .u16 w a2 m cap2 sw) (hby : (Lit.int .i32 by_).wf = true) :
    Calls Try.prog 9 #[.slice a n cap, .slice a2 m cap2, .int .i32 by_] w fun e w' => e = .returned (.bool true) ∧ Below w.heap.size w w' := by
  obtain ⟨i0, hi, hz0, hz1, hz2⟩ := info_parts infom_i64
  have b32 : ∀ x : Int, (Lit.int .i32 x).wf = true → -2147483648 ≤ x ∧ x ≤ 2147483647 := fun x hx => by
    simp only [Lit.wf, IntKind.min, IntKind.max, IntKind.signed, IntKind.bits, Bool.and_eq_true] at hx
    simp at hx
    omega
  have b16 : ∀ x : Int, (Lit.int .u16 x).wf = true → 0 ≤ x ∧ x ≤ 65535 := fun x hx => by
    simp only [Lit.wf, IntKind.min, IntKind.max, IntKind.signed, IntKind.bits, Bool.and_eq_true] at hx
    simp at hx
    omega
  obtain ⟨y1, y2⟩ := b32 _ hby
  have hzb : ∀ x ∈ zs, -2147483648 ≤ x ∧ x ≤ 2147483647 := fun x hx => b32 x (hI.wf x hx)
  have hsb : ∀ x ∈ sw, 0 ≤ x ∧ x ≤ 65535 := fun x hx => b16 x (hS.wf x hx)
  have hcm := hI.capE
  have hle := hI.leE
  have hcm2 := hS.capE
  have hle2 := hS.leE
  have HI := Lib.hid hI
  have HN := Lib.hid hI.lenE
  have HSW := Lib.hid hS
  have HM := Lib.hid hS.lenE
  have HZB := Lib.hid hzb
  have HSB := Lib.hid hsb
  clear hI hS hby b32 b16 hzb hsb
  go_enter Try.func9, Try.ntmps9
  go_wp2_with fail
  refine (alive30 _).mono ?_
  rintro e w1 ⟨rfl, c1⟩
  by_cases h0 : n = 0 ∨ 200 < n ∨ 200 < m
  · have HC1 := Lib.hid c1
    have fin : ∀ w' , Chg (fun _ => False) w1 w' → Below w.heap.size w w' := fun w' h => bel0 (Below.refl _ _) (HC1.out.trans h) (Nat.le_refl _)
    have HF := Lib.hid fin
    clear fin c1
    by_cases q0 : n = 0
    · subst q0
      clear h0
      go_wp2_with fail
      refine (alive30 _).mono ?_
      rintro e w2 ⟨rfl, c2⟩
      have c3 := Lib.hid (HF.out _ c2)
      clear c2
      go_wp2_with fail
      go_ret
      exact ⟨rfl, c3.out⟩
    · have hn0 : ((n : Int) == 0) = false := by rw [beq_eq_false_iff_ne]; omega
      by_cases q1 : 200 < n
      · clear h0
        go_wp2_with fail
        refine (alive30 _).mono ?_
        rintro e w2 ⟨rfl, c2⟩
        have c3 := Lib.hid (HF.out _ c2)
        clear c2
        go_wp2_with fail
        go_ret
        exact ⟨rfl, c3.out⟩
      · have q2 : 200 < m := by omega
        clear h0
        go_wp2_with fail
        refine (alive30 _).mono ?_
        rintro e w2 ⟨rfl, c2⟩
        have c3 := Lib.hid (HF.out _ c2)
        clear c2
        go_wp2_with fail
        go_ret
        exact ⟨rfl, c3.out⟩
  · have hn0 : ((n : Int) == 0) = false := by rw [beq_eq_false_iff_ne]; omega
    have hnp : 0 < n := by omega
    have hn200 : n ≤ 200 := by omega
    have hm200 : m ≤ 200 := by omega
    have hn201 : ¬ 200 < n := by omega
    have hm201 : ¬ 200 < m := by omega
    clear h0
    obtain ⟨bl, off, rfl, hbl, hcell⟩ := HI.out.cell hnp
    have HCELL := Lib.hid hcell
    clear hcell
    go_wp2_with fail
    go_loopw [43, 7, 8, 9] (fun i va vb vc wr => MMInv w zs by_ n i va vb vc wr) (fun i _ _ _ _ => n - (intOf i).toNat)
    case atStart => exact ⟨0, none, none, none, by omega, rfl, ⟨Owns.nil _ _ _, Owns.nil _ _ _, Owns.nil _ _ _, by simp, by simp, by simp, by simp, by simp, by simp, c1⟩⟩
    case round =>
      clear c1
      obtain ⟨j, ga, gb, gc, hj, rfl, M1⟩ := hrel
      by_cases hlt : j < n
      · obtain ⟨x, hx⟩ : ∃ x, zs[j]? = some x := ⟨_, List.getElem?_eq_getElem (by rw [← HN.out]; exact hlt)⟩
        obtain ⟨x1, x2⟩ := HZB.out x (List.mem_of_getElem? hx)
        have e0 := M1.c.keep (HCELL.out j x hx) (fun h => h)
        have hjn : (j : Int) < (n : Int) := by omega
        have ht : zs.take (j + 1) = zs.take j ++ [x] := by rw [List.take_add_one, hx]; rfl
        obtain ⟨A, hA⟩ : ∃ A, A = zs.take j := ⟨_, rfl⟩
        obtain ⟨B, hB⟩ : ∃ B, B = A.map (· + by_) := ⟨_, rfl⟩
        obtain ⟨C, hC⟩ : ∃ C, C = A.map (fun x => -x) := ⟨_, rfl⟩
        have la : A.length ≤ 200 := by rw [hA, List.length_take]; omega
        have lb : B.length ≤ 200 := by rw [hB, List.length_map]; exact la
        have lc : C.length ≤ 200 := by rw [hC, List.length_map]; exact la
        rw [← hA] at M1 ht
        rw [← hB, ← hC] at M1
        have HT := Lib.hid ht
        have HB := Lib.hid hB
        have HC := Lib.hid hC
        have M2 := M1.chg0 (chg0_alloc wr (Obj.cells #[Value.int IntKind.i64 x] 2))
        have bX := Blk.new wr 2 #[Value.int IntKind.i64 x]
        clear M1 hx ht hA hB hC
        go_wp2_with (at_builtin; refine wpList_app (by rfl) (.tmp 47) (.tmp 50) 49 (by rfl) 2 i0 _ 1 8 Try.underlying49 hi hz0 hz1 hz2 rfl (by omega) _ _ _ (by rfl) M2.oa _ 2 [[Value.int .i64 (x)]] 1 1 (by rfl) (by rfl) bX (by simp) (by simp [Value.oneCell']) (by simp) (by simp; omega) (by simp [maxLen]; omega) ?_)
        intro k3 cap3 w3 ho3 hc3 hk3
        have ho3' : Owns w3 2 1 (.slice (some ⟨k3, 0, none⟩) (A.length + 1) cap3) (some k3) ((A ++ [x]).map fun z => [Value.int .i64 z]) := by rw [List.map_append]; exact ho3
        have M3 := (M2.addA ho3' hc3 (by simpa using hk3)).rot
        have M4 := M3.chg0 (chg0_alloc w3 (Obj.cells #[Value.int IntKind.i64 (x + by_)] 2))
        have bY := Blk.new w3 2 #[Value.int IntKind.i64 (x + by_)]
        clear M2 M3 bX ho3 ho3' hc3 hk3
        go_wp2_with (at_builtin; refine wpList_app (by rfl) (.tmp 52) (.tmp 58) 49 (by rfl) 2 i0 _ 1 8 Try.underlying49 hi hz0 hz1 hz2 rfl (by omega) _ _ _ (by rfl) M4.oa _ 2 [[Value.int .i64 (x + by_)]] 1 1 (by rfl) (by rfl) bY (by simp) (by simp [Value.oneCell']) (by simp) (by simp; omega) (by simp [maxLen]; omega) ?_)
        intro k5 cap5 w5 ho5 hc5 hk5
        have ho5' : Owns w5 2 1 (.slice (some ⟨k5, 0, none⟩) (B.length + 1) cap5) (some k5) ((B ++ [x + by_]).map fun z => [Value.int .i64 z]) := by rw [List.map_append]; exact ho5
        have M5 := (M4.addA ho5' hc5 (by simpa using hk5)).rot
        have M6 := M5.chg0 (chg0_alloc w5 (Obj.cells #[Value.int IntKind.i64 (-x)] 2))
        have bZ := Blk.new w5 2 #[Value.int IntKind.i64 (-x)]
        clear M4 M5 bY ho5 ho5' hc5 hk5
        go_wp2_with (at_builtin; refine wpList_app (by rfl) (.tmp 60) (.tmp 64) 49 (by rfl) 2 i0 _ 1 8 Try.underlying49 hi hz0 hz1 hz2 rfl (by omega) _ _ _ (by rfl) M6.oa _ 2 [[Value.int .i64 (-x)]] 1 1 (by rfl) (by rfl) bZ (by simp) (by simp [Value.oneCell']) (by simp) (by simp; omega) (by simp [maxLen]; omega) ?_)
        intro k7 cap7 w7 ho7 hc7 hk7
        have ho7' : Owns w7 2 1 (.slice (some ⟨k7, 0, none⟩) (C.length + 1) cap7) (some k7) ((C ++ [-x]).map fun z => [Value.int .i64 z]) := by rw [List.map_append]; exact ho7
        have M7 := (M6.addA ho7' hc7 (by simpa using hk7)).rot
        clear M6 bZ ho7 ho7' hc7 hk7
        go_wp2_with fail
        go_roundw
        case rel =>
          refine ⟨j + 1, some k3, some k5, some k7, by omega, by go_num, ?_⟩
          rw [HT.out, List.map_append, List.map_append, ← HB.out, ← HC.out]
          exact M7
        case measure => simp [intOf]; omega
      · obtain rfl : j = n := by omega
        have hzt : zs.take j = zs := List.take_of_length_le (by have := HN.out; omega)
        rw [hzt] at M1
        obtain ⟨ka, rfl⟩ := M1.oa.pos (by rw [List.length_map, ← HN.out]; omega)
        obtain ⟨kb, rfl⟩ := M1.ob.pos (by rw [List.length_map, List.length_map, ← HN.out]; omega)
        obtain ⟨kc, rfl⟩ := M1.oc.pos (by rw [List.length_map, List.length_map, ← HN.out]; omega)
        obtain ⟨capa, rfl, hla, hca⟩ := M1.oa.some_form
        obtain ⟨capb, rfl, hlb, hcb⟩ := M1.ob.some_form
        obtain ⟨capc, rfl, hlc, hcc⟩ := M1.oc.some_form
        simp only [List.length_map, ← HN.out] at M1 hla hlb hlc
        simp only [List.length_map, ← HN.out]
        clear hzt
        have HM1 := Lib.hid M1
        clear M1
        go_wp2_with fail
        go_loopw [69] (fun i wr => MMSwap w zs by_ m (.slice (some ⟨ka, 0, none⟩) j capa) (.slice (some ⟨kb, 0, none⟩) j capb) (.slice (some ⟨kc, 0, none⟩) j capc) (some ka) (some kb) (some kc) i wr) (fun i _ => m - (intOf i).toNat)
        case atStart => exact ⟨0, _, by omega, rfl, List.Perm.refl _, HM1.out⟩
        case round =>
          clear HM1
          obtain ⟨t, ns, ht, rfl, hp, M2⟩ := hrel
          have hnl : ns.length = j := by rw [hp.length_eq, List.length_map, ← HN.out]
          have HP := Lib.hid hp
          have HNL := Lib.hid hnl
          clear hp hnl
          by_cases htm : t < m
          · obtain ⟨u, hu⟩ : ∃ u, sw[t]? = some u := ⟨_, List.getElem?_eq_getElem (by rw [← HM.out]; exact htm)⟩
            obtain ⟨u1, u2⟩ := HSB.out u (List.mem_of_getElem? hu)
            obtain ⟨bs, os, rfl, hbs, hcs⟩ := HSW.out.cell (by omega)
            have e0 := M2.c.keep (hcs t u hu) (fun h => h)
            have htm' : (t : Int) < (m : Int) := by omega
            clear hcs hu
            obtain ⟨xi, hxi⟩ : ∃ xi : Nat, xi = t % j := ⟨_, rfl⟩
            obtain ⟨yi, hyi⟩ : ∃ yi : Nat, (yi : Int) = u % (j : Int) := ⟨(u % (j : Int)).toNat, by rw [Int.toNat_of_nonneg (Int.emod_nonneg _ (by omega))]⟩
            have hxt : (t : Int).tmod (j : Int) = (xi : Int) := by rw [Int.tmod_eq_emod_of_nonneg (by omega), hxi]; omega
            have hyt : u.tmod (j : Int) = (yi : Int) := by rw [Int.tmod_eq_emod_of_nonneg u1]; exact hyi.symm
            have hxj : xi < j := by rw [hxi]; exact Nat.mod_lt _ (by omega)
            have hyj : yi < j := by have := Int.emod_lt_of_pos u (show (0 : Int) < (j : Int) by omega); omega
            have hxj' : (xi : Int) < (j : Int) := by omega
            have hyj' : (yi : Int) < (j : Int) := by omega
            clear hxi hyi
            obtain ⟨p, hp⟩ : ∃ p, ns[xi]? = some p := ⟨_, List.getElem?_eq_getElem (by rw [HNL.out]; exact hxj)⟩
            obtain ⟨q, hq⟩ : ∃ q, ns[yi]? = some q := ⟨_, List.getElem?_eq_getElem (by rw [HNL.out]; exact hyj)⟩
            have cx := M2.ob.cell rfl (i := xi) (x := [Value.int .i64 p]) (by rw [List.getElem?_map, hp]; rfl) (j := 0) rfl
            have cy := M2.ob.cell rfl (i := yi) (x := [Value.int .i64 q]) (by rw [List.getElem?_map, hq]; rfl) (j := 0) rfl
            simp only [Nat.mul_one, Nat.add_zero] at cx cy
            have fx := M2.ob.frozen rfl xi
            have fy := M2.ob.frozen rfl yi
            have HPX := Lib.hid hp
            have HQY := Lib.hid hq
            have HM2 := Lib.hid M2
            clear hp hq M2
            go_wp2_with fail
            go_quiet (fail)
            go_wp2_with fail
            by_cases hxy : xi = yi
            · subst hxy
              go_region
              have M3 := (HM2.out.chg0 (chg0_drewN _ (nq + 1))).swapB HPX.out HPX.out
              go_wp2_with fail
              go_roundw
              case rel => exact ⟨t + 1, _, by omega, by go_num, (swapL_perm (by rw [HNL.out]; exact hxj) (by rw [HNL.out]; exact hxj)).trans HP.out, M3⟩
              case measure => simp [intOf]; omega
            · have hxy' : (yi : Nat) ≠ xi := fun h => hxy h.symm
              go_region
              have M3 := (HM2.out.chg0 (chg0_drewN _ (nq + 1))).swapB HPX.out HQY.out
              go_wp2_with fail
              go_roundw
              case rel => exact ⟨t + 1, _, by omega, by go_num, (swapL_perm (by rw [HNL.out]; exact hxj) (by rw [HNL.out]; exact hyj)).trans HP.out, M3⟩
              case measure => simp [intOf]; omega
          · obtain rfl : t = m := by omega
            have hzne : zs ≠ [] := by intro e; have := HN.out; rw [e] at this; simp at this; omega
            have HZNE := Lib.hid hzne
            clear hzne
            go_wp2_with fail
            refine (of_i64 (some ⟨ka, 0, none⟩) j capa zs _ HN.out (by simp) M2.oa.reads (by rw [← HN.out]; omega)).mono ?_
            rintro e w3 ⟨rfl, c3⟩
            rw [if_neg (by rw [← HN.out]; omega)]
            have M3 := M2.chg0 c3
            clear M2 c3
            go_wp2_with fail
            refine (of_i64 (some ⟨kb, 0, none⟩) j capb ns _ HNL.out.symm (by simp) M3.ob.reads (by rw [HNL.out]; omega)).mono ?_
            rintro e w4 ⟨rfl, c4⟩
            rw [if_neg (by rw [HNL.out]; omega), med_perm HP.out, med_shift HZNE.out]
            have M4 := M3.chg0 c4
            clear M3 c4
            go_wp2_with fail
            refine (of_i64 (some ⟨kc, 0, none⟩) j capc (zs.map (fun x => -x)) _ (by rw [List.length_map]; exact HN.out) (by simp) M4.oc.reads (by rw [List.length_map, ← HN.out]; omega)).mono ?_
            rintro e w5 ⟨rfl, c5⟩
            rw [if_neg (by rw [List.length_map, ← HN.out]; omega)]
            have M5 := M4.chg0 c5
            clear M4 c5
            obtain ⟨mu, hmu⟩ : ∃ mu, (msort ile zs)[j / 2]? = some mu := ⟨_, List.getElem?_eq_getElem (by rw [msort_len, ← HN.out]; omega)⟩
            rw [med_neg HZNE.out (v := mu) (by rw [← HN.out]; exact hmu)]
            have hmm : mu ∈ zs := msort_mem.1 (List.mem_of_getElem? hmu)
            obtain ⟨mu1, mu2⟩ := HZB.out mu hmm
            obtain ⟨md, hmd⟩ : ∃ md, md = medOf zs := ⟨_, rfl⟩
            obtain ⟨md1, md2⟩ := HZB.out md (by rw [hmd]; exact med_mem HZNE.out)
            rw [← hmd]
            clear hmd hmm
            have HMU := Lib.hid hmu
            clear hmu
            go_wp2_with fail
            refine (sorted_i64 (some ⟨ka, 0, none⟩) j capa zs _ HN.out (by simp) M5.oa.reads (by rw [← HN.out]; omega)).mono ?_
            rintro e w6 ⟨aS, capS, gS, rfl, oS, cS, hgS⟩
            rw [List.length_map, msort_len, ← HN.out] at oS ⊢
            obtain ⟨kS, rfl⟩ := oS.pos (by rw [List.length_map, msort_len, ← HN.out]; omega)
            obtain ⟨capS', hv, -, -⟩ := oS.some_form
            simp only [Value.slice.injEq] at hv
            obtain ⟨rfl, -, -⟩ := hv
            obtain ⟨hj2, hhj2⟩ : ∃ hj2, hj2 = j / 2 := ⟨_, rfl⟩
            have cs := oS.cell rfl (i := hj2) (x := [Value.int .i64 mu]) (by rw [hhj2, List.getElem?_map, HMU.out]; rfl) (j := 0) rfl
            simp only [Nat.mul_one, Nat.add_zero] at cs
            have hq2 : (j : Int).tdiv 2 = (hj2 : Int) := by rw [Int.tdiv_eq_ediv_of_nonneg (by omega), hhj2]; omega
            have hq3 : (hj2 : Int) < (j : Int) := by omega
            have hq4 : hj2 < j := by omega
            have HBB := Lib.hid (bel0 (Below.refl _ _) (M5.c.trans cS) (Nat.le_refl _))
            clear M5 oS cS hgS hhj2
            go_wp2_with fail
            go_ret
            exact ⟨rfl, HBB.out⟩

theorem medianMoves_all (a a2 : Option Addr) (n cap m cap2 : Nat) (els els2 : List (List Value)) (by_ : Int) (w : World) (hI : FlatIn [.int .i32] w a n cap els) (hS : FlatIn [.int .u16] w a2 m cap2 els2) (hby : (Lit.int .i32 by_).wf = true) :
    Calls Try.prog 9 #[.slice a n cap, .slice a2 m cap2, .int .i32 by_] w fun e w' => e = .returned (.bool true) ∧ Below w.heap.size w w' := by
  obtain ⟨zs, h⟩ := ints_in hI
  obtain ⟨sw, h2⟩ := ints_in hS
  exact medianMoves_walk a a2 n cap m cap2 zs sw by_ w h h2 hby
end Go.Proofs.Ytnfnonphccnbkaa
