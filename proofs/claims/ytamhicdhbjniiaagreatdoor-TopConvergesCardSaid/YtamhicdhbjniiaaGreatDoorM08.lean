/- Package count: New and Add. Comparing two answers. The insertion sort of answers: the same answers in some order. lex: plain texts, and cuts at one byte: contracts. Keys and when they are due, in the order in which they were set; a map that reads as such a list; what is due. -/
import Derived.Test.YtamhicdhbjniiaaGreatDoorM07
import Derived.BigRegion
import Derived.Test.YtamhicdhbjniiaaGreatDoorM06
import Derived.Deep.RegionWith
import Derived.Laws.RangeString
import Derived.Laws.RangeAny
import Derived.Laws.Strings
import Derived.Lib.Bytealg
import Derived.Test.YtamhicdhbjniiaaGreatDoorM05
import Derived.Maps.RangeWalk
import Derived.Sort.EncStr
import Derived.WalkArith
set_option linter.unusedVariables false
set_option maxHeartbeats 6400000
set_option maxRecDepth 100000
namespace Go.Proofs.YtamhicdhbjniiaaGreatDoor
section
open Go Go.RowKit Go.Chron
def cntc (cs : List Int) : Array Value := (cs.map fun z => Value.int .i64 z).toArray
def cntAdd (cs : List Int) (i : Nat) : List Int := cs.set i (cs.getD i 0 + 1)
theorem cntAdd_len (cs : List Int) (i : Nat) : (cntAdd cs i).length = cs.length := by simp [cntAdd]
def cnt0 : List Int := [0, 0, 0, 0, 0, 0, 0, 0, 0, 0, 0, 0, 0]
theorem newCount50 (w : World) : Calls Tryz.prog 50 #[] w fun e w' => e = .returned (.pointer (some ⟨w.heap.size, 0, none⟩)) ∧ Blk w' w.heap.size 211 (cntc cnt0) ∧ Chg (fun _ => False) w w' := by
 go_enter Tryz.func50, Tryz.ntmps50
 go_wp2_with fail
 go_ret
 exact ⟨rfl, Blk.new _ _ _, by repeat (first | exact Chg.refl _ _ | exact (by assumption) | apply Chg.drewN | apply Chg.drew | apply Chg.alloc)⟩
theorem known137 (n : Nat) (h : n < 13) (w : World) : Calls Tryz.prog 137 #[.int .i64 n] w fun e w' => e = .returned (.bool true) ∧ w' = w := by
 have h1 : (n : Int) < 13 := by omega
 have h0 : (0 : Int) ≤ n := by omega
 go_enter Tryz.func137, Tryz.ntmps137
 go_wp2_with fail
 go_ret
 exact ⟨rfl, rfl⟩
theorem add92 (b : Nat) (cs : List Int) (n : Nat) (hn : n < 13) (w : World) (hl : cs.length = 13) (hc : ∀ z ∈ cs, 0 ≤ z ∧ z ≤ 1000000) (hb : Blk w b 211 (cntc cs)) :
  Calls Tryz.prog 92 #[.pointer (some ⟨b, 0, none⟩), .int .i64 n] w fun e w' => e = .returned (.int .i64 0) ∧ Blk w' b 211 (cntc (cntAdd cs n)) ∧ Chg (fun i => i = b) w w' := by
 have HK := Lib.hid (known137 n hn)
 have h1 : (n : Int) < 13 := by omega
 have h0 : (0 : Int) ≤ n := by omega
 have hln : n < cs.length := by omega
 have hz : cs[n]? = some (cs.getD n 0) := by rw [List.getD_eq_getElem?_getD, List.getElem?_eq_getElem hln]; rfl
 have hz2 := hc _ (List.mem_of_getElem? hz)
 have k0 := hb.cell n
 have f0 := hb.frozen n
 have K := hb.set_ n (.int .i64 (cs.getD n 0 + 1))
 have e1 : (cntc cs).setIfInBounds n (.int .i64 (cs.getD n 0 + 1)) = cntc (cntAdd cs n) := by simp [cntc, cntAdd, List.map_set]
 rw [e1] at K
 have e2 : (cntc cs)[n]? = some (.int .i64 (cs.getD n 0)) := by unfold cntc; rw [List.getElem?_toArray, List.getElem?_map, hz]; rfl
 rw [e2] at k0
 have HK2 := Lib.hid K
 obtain ⟨z, hzz⟩ : ∃ z, z = cs.getD n 0 := ⟨_, rfl⟩
 rw [← hzz] at HK2 k0 hz2
 generalize cntc (cntAdd cs n) = A at *
 clear hb K hc hz e1 e2 hzz hln hl
 go_enter Tryz.func92, Tryz.ntmps92
 go_wp2_with fail
 refine (HK.out _).mono ?_
 rintro e w' ⟨rfl, rfl⟩
 go_wp2_with fail
 go_region
 go_wp2_with fail
 go_ret
 exact ⟨rfl, HK2.out.drew, (Chg.setCell (Chg.refl (fun i => i = b) _) (fun _ => rfl) _).drew⟩
end
section
open Go Go.RowKit Go.Chron
theorem nan76 (p : Int) (w : World) : Calls Tryz.prog 76 #[.int .i64 p] w fun e w' => e = .returned (.bool false) ∧ w' = w := by
 go_enter Tryz.func76, Tryz.ntmps76
 go_wp2_with fail
 go_ret
 exact ⟨rfl, rfl⟩
theorem cmp41 (p q : Int) (w : World) : Calls Tryz.prog 41 #[.int .i64 p, .int .i64 q] w fun e w' => (∃ z, e = .returned (.int .i64 z)) ∧ w' = w := by
 have HN := Lib.hid nan76
 by_cases h1 : p < q
 ·go_enter Tryz.func41, Tryz.ntmps41
  go_wp2_with fail
  refine (HN.out _ _).mono ?_
  rintro e wt ⟨rfl, rfl⟩
  go_wp2_with fail
  refine (HN.out _ _).mono ?_
  rintro e wt ⟨rfl, rfl⟩
  go_wp2_with fail
  go_ret
  exact ⟨⟨_, rfl⟩, rfl⟩
 ·by_cases h2 : q < p
  ·go_enter Tryz.func41, Tryz.ntmps41
   go_wp2_with fail
   refine (HN.out _ _).mono ?_
   rintro e wt ⟨rfl, rfl⟩
   go_wp2_with fail
   refine (HN.out _ _).mono ?_
   rintro e wt ⟨rfl, rfl⟩
   go_wp2_with fail
   go_ret
   exact ⟨⟨_, rfl⟩, rfl⟩
  ·go_enter Tryz.func41, Tryz.ntmps41
   go_wp2_with fail
   refine (HN.out _ _).mono ?_
   rintro e wt ⟨rfl, rfl⟩
   go_wp2_with fail
   refine (HN.out _ _).mono ?_
   rintro e wt ⟨rfl, rfl⟩
   go_wp2_with fail
   go_ret
   exact ⟨⟨_, rfl⟩, rfl⟩
theorem do40 (p q : Int) (a1 a2 a3 b1 b2 b3 : Value) (w : World) : Calls Tryz.prog 40 #[.agg #[.int .i64 p, a1, a2, a3], .agg #[.int .i64 q, b1, b2, b3]] w fun e w' => (∃ z, e = .returned (.int .i64 z)) ∧ Chg (fun _ => False) w w' := by
 have HN := Lib.hid cmp41
 go_enter Tryz.func40, Tryz.ntmps40
 go_wp2_with fail
 refine (HN.out _ _ _).mono ?_
 rintro e wt ⟨⟨z, rfl⟩, rfl⟩
 go_wp2_with fail
 go_ret
 exact ⟨⟨_, rfl⟩, by repeat (first | exact Chg.refl _ _ | exact (by assumption) | apply Chg.drewN | apply Chg.drew | apply Chg.alloc)⟩
end
section
open Go Go.RowKit Go.Chron
structure Ky (α : Type) where
 p : α → Int
 a : α → Int
 b : α → Int
 k : α → Nat
 l : α → Nat
 c : α → Nat
section
variable {α : Type}
def Ky.row (K : Ky α) (x : α) : List Value := [.int .i64 (K.p x), .int .i64 (K.a x), .int .i64 (K.b x), .slice (some ⟨K.k x, 0, none⟩) (K.l x) (K.c x)]
structure SortAt (K : Ky α) (w0 : World) (v : Value) (g : Option Nat) (M : List α) (w : World) : Prop where
 ex : ∃ M' : List α, M'.Perm M ∧ OwnsF w 118 4 v g (M'.map K.row)
 c : Chg (fun k => g = some k) w0 w
theorem SortAt.chg0 {K : Ky α} {w0 w w' : World} {v : Value} {g : Option Nat} {M : List α} (h : SortAt K w0 v g M w) (c : Chg (fun _ => False) w w') : SortAt K w0 v g M w' := by
 obtain ⟨⟨M', hp, ho⟩, hc⟩ := h
 exact ⟨⟨M', hp, ho.chg c (fun _ _ h => h)⟩, hc.trans (c.mono (fun _ _ h => h.elim))⟩
theorem rows_get {K : Ky α} {M : List α} {i : Nat} {x : α} (h : M[i]? = some x) : (M.map K.row)[i]? = some (K.row x) := by rw [List.getElem?_map, h]; rfl
theorem SortAt.swap {K : Ky α} {w0 w w' : World} {g : Option Nat} {M M' : List α} {k off n cap m : Nat} {x y : α} (hp : M'.Perm M) (ho : OwnsF w 118 4 (.slice (some ⟨k, off, none⟩) n cap) g (M'.map K.row)) (hc : Chg (fun k => g = some k) w0 w) (hg : g = some k)
  (hx : M'[m + 1]? = some x) (hy : M'[m]? = some y) (hw : w' = (w.setCells k (off + (m + 1) * 4) (K.row y)).setCells k (off + m * 4) (K.row x)) : SortAt K w0 (.slice (some ⟨k, off, none⟩) n cap) g M w' := by
 obtain ⟨hi, rfl⟩ := List.getElem?_eq_some_iff.1 hx
 obtain ⟨hj, rfl⟩ := List.getElem?_eq_some_iff.1 hy
 refine ⟨⟨(M'.set (m + 1) M'[m]).set m M'[m + 1], (List.set_set_perm hi hj).trans hp, ?_⟩, ?_⟩
 ·rw [hw, List.map_set, List.map_set]
  exact (ho.set (by rw [List.length_map]; exact hi) rfl).set (by rw [List.length_set, List.length_map]; exact hj) rfl
 ·rw [hw]
  exact (hc.trans (chg_setCells (S := fun k => g = some k) hg _ _ _)).trans (chg_setCells (S := fun k => g = some k) hg _ _ _)
theorem ins111 (K : Ky α) (v : Value) (g : Option Nat) (M : List α) (w : World) (h : OwnsF w 118 4 v g (M.map K.row)) (hn : M.length ≤ 100000) :
  Calls Tryz.prog 111 #[v, .int .i64 0, .int .i64 M.length, .func (.func 40) #[] #[]] w fun e w' => e = .returned (.tuple #[]) ∧ SortAt K w v g M w' := by
 have HDO := Lib.hid do40
 have HH := Lib.hid h
 obtain ⟨n, hn0⟩ : ∃ n, n = M.length := ⟨_, rfl⟩
 rw [← hn0] at hn
 rw [← hn0]
 have HN := Lib.hid hn0
 clear h hn0
 go_enter Tryz.func111, Tryz.ntmps111
 go_wp2_with fail
 go_loopw [8] (fun v8 wr => ∃ i : Nat, 1 ≤ i ∧ (i ≤ n ∨ i = 1) ∧ v8 = .int .i64 i ∧ SortAt K w v g M wr) (fun v8 _ => n - (intOf v8).toNat)
 case atStart => exact ⟨1, by omega, .inr rfl, rfl, ⟨⟨M, List.Perm.refl _, HH.out⟩, Chg.refl _ _⟩⟩
 case round =>
  obtain ⟨i, hi1, hi2, rfl, hS⟩ := hrel
  by_cases hin : i < n
  ·have hinI : (i : Int) < n := by omega
   obtain ⟨wo, rfl⟩ : ∃ wo, wo = wr := ⟨wr, rfl⟩
   have HSA := Lib.hid hS
   clear hS
   go_wp2_with fail
   go_loopw [9] (fun v9 wr => ∃ j : Nat, j ≤ i ∧ v9 = .int .i64 j ∧ SortAt K w v g M wr) (fun v9 _ => (intOf v9).toNat)
   case atStart => exact ⟨i, Nat.le_refl _, rfl, HSA.out⟩
   case round =>
    obtain ⟨j, hji, rfl, hT⟩ := hrel
    rcases Nat.eq_zero_or_pos j with hj | hj
    ·subst hj
     have HT := Lib.hid hT
     clear hT
     go_upto_region 4 with (fail)
     refine wp_region_noPanic ?_
     refine wp_region_till (s := 14) (S := fun _ => True) (by kernel_rfl) ?_
     refine wP 0 18 _ (fun _ => trivial) ?_
     refine wP 1 19 _ (fun _ => trivial) ?_
     refine wP 2 20 _ (fun _ => trivial) ?_
     refine wP 3 21 _ (fun _ => trivial) ?_
     refine wpTill_pure (i := 4) (oi := ⟨some 22, _, _, _, _, _⟩) (v := undef) rfl rfl (by kernel_rfl) (by kernel_rfl) (by kernel_rfl) (by kernel_rfl) (fun _ _ _ h => h) (Or.inr ⟨by rfl, rfl⟩) (fun _ => trivial) ?_
     try simp only [Act.put, qA, qB, qC]
     refine wpTill_pure (i := 5) (oi := ⟨some 23, _, _, _, _, _⟩) (v := undef) rfl rfl (by kernel_rfl) (by kernel_rfl) (by kernel_rfl) (by kernel_rfl) (fun _ _ _ h => h) (Or.inr ⟨by rfl, rfl⟩) (fun _ => trivial) ?_
     try simp only [Act.put, qA, qB, qC]
     refine wpTill_pure (i := 6) (oi := ⟨some 24, _, _, _, _, _⟩) (v := undef) rfl rfl (by kernel_rfl) (by kernel_rfl) (by kernel_rfl) (by kernel_rfl) (fun _ _ _ h => h) (Or.inr ⟨by rfl, rfl⟩) (fun _ => trivial) ?_
     try simp only [Act.put, qA, qB, qC]
     refine wpTill_pure (i := 7) (oi := ⟨some 25, _, _, _, _, _⟩) (v := undef) rfl rfl (by kernel_rfl) (by kernel_rfl) (by kernel_rfl) (by kernel_rfl) (fun _ _ _ h => h) (Or.inr ⟨by rfl, rfl⟩) (fun _ => trivial) ?_
     try simp only [Act.put, qA, qB, qC]
     refine wpTill_load (i := 8) (oi := ⟨some 26, _, _, _, _, _⟩) (v := undef) rfl rfl (by kernel_rfl) (by kernel_rfl) (by kernel_rfl) (by kernel_rfl) (by kernel_rfl) (fun _ _ _ h => h) (Or.inr ⟨by rfl, rfl⟩) (fun _ => trivial) ?_
     try simp only [Act.put, qA, qB, qC]
     refine wpTill_pure (i := 9) (oi := ⟨some 27, _, _, _, _, _⟩) (v := undef) rfl rfl (by kernel_rfl) (by kernel_rfl) (by kernel_rfl) (by kernel_rfl) (fun _ _ _ h => h) (Or.inr ⟨by rfl, rfl⟩) (fun _ => trivial) ?_
     try simp only [Act.put, qA, qB, qC]
     refine wpTill_pure (i := 10) (oi := ⟨some 28, _, _, _, _, _⟩) (v := undef) rfl rfl (by kernel_rfl) (by kernel_rfl) (by kernel_rfl) (by kernel_rfl) (fun _ _ _ h => h) (Or.inr ⟨by rfl, rfl⟩) (fun _ => trivial) ?_
     try simp only [Act.put, qA, qB, qC]
     refine wpTill_pure (i := 11) (oi := ⟨some 29, _, _, _, _, _⟩) (v := undef) rfl rfl (by kernel_rfl) (by kernel_rfl) (by kernel_rfl) (by kernel_rfl) (fun _ _ _ h => h) (Or.inr ⟨by rfl, rfl⟩) (fun _ => trivial) ?_
     try simp only [Act.put, qA, qB, qC]
     refine wpTill_pure (i := 12) (oi := ⟨some 30, _, _, _, _, _⟩) (v := undef) rfl rfl (by kernel_rfl) (by kernel_rfl) (by kernel_rfl) (by kernel_rfl) (fun _ _ _ h => h) (Or.inr ⟨by rfl, rfl⟩) (fun _ => trivial) ?_
     try simp only [Act.put, qA, qB, qC]
     refine wpTill_load (i := 13) (oi := ⟨some 31, _, _, _, _, _⟩) (v := undef) rfl rfl (by kernel_rfl) (by kernel_rfl) (by kernel_rfl) (by kernel_rfl) (by kernel_rfl) (fun _ _ _ h => h) (Or.inr ⟨by rfl, rfl⟩) (fun _ => trivial) ?_
     try simp only [Act.put, qA, qB, qC]
     refine wpTill_one (i := 14) (oi := ⟨some 32, _, _, _, _, _⟩) rfl (by kernel_rfl) (fun KK hKK => ?_)
     go_simp
     refine hKK _ _ ⟨(fun h => (by simp at h)), ?_⟩
     clear hKK KK
     try simp only [Act.put, qA, qB, qC]
     refine wpTill_pure (i := 15) (oi := ⟨some 33, _, _, _, _, _⟩) (v := undef) rfl rfl (by kernel_rfl) (by kernel_rfl) (by kernel_rfl) (by kernel_rfl) (fun _ _ _ h => h) (Or.inr ⟨by rfl, rfl⟩) (fun h => (by simp at h)) ?_
     try simp only [Act.put, qA, qB, qC]
     refine wP 16 34 _ (fun h => (by simp at h)) ?_
     refine wpTill_done (by kernel_rfl) ?_
     refine NoPanic.normal ?_
     go_wp2_with fail
     exact ⟨⟨i + 1, by omega, .inl (by omega), by simp, HT.out.chg0 (Chg.drew (Chg.refl _ _))⟩, by simp [intOf]; omega⟩
    ·obtain ⟨m, rfl⟩ : ∃ m, j = m + 1 := ⟨j - 1, by omega⟩
     obtain ⟨⟨M', hp, ho⟩, hc⟩ := hT
     have hl : M'.length = n := by rw [hp.length_eq]; exact HN.out.symm
     obtain ⟨k, off, cap, hgk, hv, hc1, hc2⟩ := ho.pos (by rw [List.length_map]; omega)
     rw [List.length_map, hl] at hv hc1
     obtain ⟨x, hx⟩ : ∃ x, M'[m + 1]? = some x := ⟨_, List.getElem?_eq_getElem (by omega)⟩
     obtain ⟨y, hy⟩ : ∃ y, M'[m]? = some y := ⟨_, List.getElem?_eq_getElem (by omega)⟩
     rw [hv] at ho
     have HV := Lib.hid hv
     have hS : ∀ W', Chg (fun _ => False) wr W' → W'.cell? ⟨k, off + (m + 1) * 4, none⟩ = some (.int .i64 (K.p x)) ∧ W'.cell? ⟨k, off + (m + 1) * 4 + 1, none⟩ = some (.int .i64 (K.a x)) ∧ W'.cell? ⟨k, off + (m + 1) * 4 + 2, none⟩ = some (.int .i64 (K.b x)) ∧ W'.cell? ⟨k, off + (m + 1) * 4 + 3, none⟩ = some (.slice (some ⟨K.k x, 0, none⟩) (K.l x) (K.c x)) ∧ W'.cell? ⟨k, off + m * 4, none⟩ = some (.int .i64 (K.p y)) ∧ W'.cell? ⟨k, off + m * 4 + 1, none⟩ = some (.int .i64 (K.a y)) ∧ W'.cell? ⟨k, off + m * 4 + 2, none⟩ = some (.int .i64 (K.b y)) ∧ W'.cell? ⟨k, off + m * 4 + 3, none⟩ = some (.slice (some ⟨K.k y, 0, none⟩) (K.l y) (K.c y)) := by
      intro W' hW
      have o' := ho.chg hW (fun _ _ h => h)
      have c1 : ∀ i u, (K.row x)[i]? = some u → W'.cell? ⟨k, off + (m + 1) * 4 + i, none⟩ = some u := fun i u hu => by rw [Nat.add_assoc]; exact o'.cell (rows_get hx) hu
      have c0 : ∀ i u, (K.row y)[i]? = some u → W'.cell? ⟨k, off + m * 4 + i, none⟩ = some u := fun i u hu => by rw [Nat.add_assoc]; exact o'.cell (rows_get hy) hu
      exact ⟨c1 0 _ rfl, c1 1 _ rfl, c1 2 _ rfl, c1 3 _ rfl, c0 0 _ rfl, c0 1 _ rfl, c0 2 _ rfl, c0 3 _ rfl⟩
     have HS := Lib.hid hS
     have HP := Lib.hid hp
     have HO := Lib.hid ho
     have HC := Lib.hid hc
     have HX := Lib.hid hx
     have HY := Lib.hid hy
     have HL := Lib.hid hl
     have HGK := Lib.hid hgk
     have hmn : m + 1 < n := by omega
     have hmI : (m : Int) + 1 < n := by omega
     have hmc : m + 1 < cap := by omega
     have hm0 : (0 : Int) ≤ (m : Int) + 1 := by omega
     have hm1 : (0 : Int) ≤ (m : Int) := by omega
     have hm2 : (m : Int) < n := by omega
     have hm3 : m < cap := by omega
     have hmw : IntKind.i64.wrap (m : Int) = m := by unfold IntKind.wrap; simp [IntKind.bits, IntKind.signed]; omega
     clear hp ho hc hx hy hl hgk hS hj
     subst hv
     go_upto_region 4 with (fail)
     refine wp_region_noPanic ?_
     refine wp_region_till (s := 14) (S := fun w' => w'.cell? ⟨k, off + (m + 1) * 4, none⟩ = some (.int .i64 (K.p x)) ∧ w'.cell? ⟨k, off + (m + 1) * 4 + 1, none⟩ = some (.int .i64 (K.a x)) ∧ w'.cell? ⟨k, off + (m + 1) * 4 + 2, none⟩ = some (.int .i64 (K.b x)) ∧ w'.cell? ⟨k, off + (m + 1) * 4 + 3, none⟩ = some (.slice (some ⟨K.k x, 0, none⟩) (K.l x) (K.c x)) ∧ w'.cell? ⟨k, off + m * 4, none⟩ = some (.int .i64 (K.p y)) ∧ w'.cell? ⟨k, off + m * 4 + 1, none⟩ = some (.int .i64 (K.a y)) ∧ w'.cell? ⟨k, off + m * 4 + 2, none⟩ = some (.int .i64 (K.b y)) ∧ w'.cell? ⟨k, off + m * 4 + 3, none⟩ = some (.slice (some ⟨K.k y, 0, none⟩) (K.l y) (K.c y))) (by kernel_rfl) ?_
     have hHeld := HS.out wr.drew (Chg.drew (Chg.refl _ _))
     refine wP 0 18 _ (fun _ => hHeld) ?_
     refine wP 1 19 _ (fun _ => hHeld) ?_
     refine wP 2 20 _ (fun _ => hHeld) ?_
     refine wP 3 21 _ (fun _ => hHeld) ?_
     refine wP 4 22 _ (fun _ => hHeld) ?_
     refine wP 5 23 _ (fun _ => hHeld) ?_
     refine wP 6 24 _ (fun _ => hHeld) ?_
     refine wP 7 25 _ (fun _ => hHeld) ?_
     refine wL 8 26 _ (fun _ => hHeld) ?_
     refine wP 9 27 _ (fun _ => hHeld) ?_
     refine wP 10 28 _ (fun _ => hHeld) ?_
     refine wP 11 29 _ (fun _ => hHeld) ?_
     refine wP 12 30 _ (fun _ => hHeld) ?_
     refine wL 13 31 _ (fun _ => hHeld) ?_
     refine wpTill_one (i := 14) (oi := ⟨some 32, _, _, _, _, _⟩) rfl (by kernel_rfl) (fun KK hKK => ?_)
     go_simp
     refine (HDO.out _ _ _ _ _ _ _ _ _).mono ?_
     rintro e w4 ⟨⟨z, rfl⟩, c4⟩
     have cT : Chg (fun _ => False) wr w4 := Chg.trans kC c4
     refine hKK _ _ ⟨(fun h => (by simp at h)), ?_⟩
     clear hKK KK
     try simp only [Act.put, qA, qB, qC]
     refine wP 15 33 _ (fun h => (by simp at h)) ?_
     refine wP 16 34 _ (fun h => (by simp at h)) ?_
     refine wpTill_done (by kernel_rfl) ?_
     refine NoPanic.normal ?_
     by_cases hz : z < 0
     ·go_upto_region 6 with (fail)
      refine wp_region_noPanic ?_
      refine wp_region_till (s := 15) (S := fun w' => w'.cell? ⟨k, off + (m + 1) * 4, none⟩ = some (.int .i64 (K.p x)) ∧ w'.cell? ⟨k, off + (m + 1) * 4 + 1, none⟩ = some (.int .i64 (K.a x)) ∧ w'.cell? ⟨k, off + (m + 1) * 4 + 2, none⟩ = some (.int .i64 (K.b x)) ∧ w'.cell? ⟨k, off + (m + 1) * 4 + 3, none⟩ = some (.slice (some ⟨K.k x, 0, none⟩) (K.l x) (K.c x)) ∧ w'.cell? ⟨k, off + m * 4, none⟩ = some (.int .i64 (K.p y)) ∧ w'.cell? ⟨k, off + m * 4 + 1, none⟩ = some (.int .i64 (K.a y)) ∧ w'.cell? ⟨k, off + m * 4 + 2, none⟩ = some (.int .i64 (K.b y)) ∧ w'.cell? ⟨k, off + m * 4 + 3, none⟩ = some (.slice (some ⟨K.k y, 0, none⟩) (K.l y) (K.c y))) (by kernel_rfl) ?_
      have c5 : Chg (fun _ => False) wr w4.drew := Chg.drew cT
      clear cT c4 hHeld
      generalize w4.drew = w5 at *
      have hHeld := HS.out w5 c5
      obtain ⟨e0, e1, e2, e3, e4, e5, e6, e7⟩ := hHeld
      have O5 := HO.out.chg c5 (fun _ _ h => h)
      have z0 := O5.frozen (off + (m + 1) * 4)
      have z1 := O5.frozen (off + (m + 1) * 4 + 1)
      have z2 := O5.frozen (off + (m + 1) * 4 + 2)
      have z3 := O5.frozen (off + (m + 1) * 4 + 3)
      have z4 := O5.frozen (off + m * 4)
      have z5 := O5.frozen (off + m * 4 + 1)
      have z6 := O5.frozen (off + m * 4 + 2)
      have z7 := O5.frozen (off + m * 4 + 3)
      have HO5 := Lib.hid O5
      have HC5 := Lib.hid c5
      have hHeld := HS.out w5 c5
      clear O5 c5
      refine wP 0 37 _ (fun _ => hHeld) ?_
      refine wP 1 38 _ (fun _ => hHeld) ?_
      refine wP 2 39 _ (fun _ => hHeld) ?_
      refine wP 3 40 _ (fun _ => hHeld) ?_
      refine wP 4 41 _ (fun _ => hHeld) ?_
      refine wP 5 42 _ (fun _ => hHeld) ?_
      refine wP 6 43 _ (fun _ => hHeld) ?_
      refine wP 7 44 _ (fun _ => hHeld) ?_
      refine wP 8 45 _ (fun _ => hHeld) ?_
      refine wL 9 46 _ (fun _ => hHeld) ?_
      refine wP 10 47 _ (fun _ => hHeld) ?_
      refine wP 11 48 _ (fun _ => hHeld) ?_
      refine wP 12 49 _ (fun _ => hHeld) ?_
      refine wL 13 50 _ (fun _ => hHeld) ?_
      refine wP 14 51 _ (fun _ => hHeld) ?_
      refine wpTill_one (i := 15) (oi := ⟨none, _, _, _, _, _⟩) rfl (by kernel_rfl) (fun KK hKK => ?_)
      go_simp
      refine hKK _ _ ⟨(fun h => (by simp at h)), ?_⟩
      clear hKK KK
      try simp only [Act.put, qA, qB, qC]
      refine wP 16 52 _ (fun h => (by simp at h)) ?_
      refine wpTill_one (i := 17) (oi := ⟨none, _, _, _, _, _⟩) rfl (by kernel_rfl) (fun KK hKK => ?_)
      go_simp
      refine hKK _ _ ⟨(fun h => (by simp at h)), ?_⟩
      clear hKK KK
      try simp only [Act.put, qA, qB, qC]
      refine wpTill_done (by kernel_rfl) ?_
      refine NoPanic.normal ?_
      have hs : ∀ w', w' = (w5.setCells k (off + (m + 1) * 4) (K.row y)).setCells k (off + m * 4) (K.row x) → SortAt K w (.slice (some ⟨k, off, none⟩) n cap) g M w' := fun w' hw => SortAt.swap HP.out HO5.out (HC.out.trans' (S' := fun _ => False) HC5.out (fun _ _ h => h.elim)) HGK.out HX.out HY.out hw
      clear e0 e1 e2 e3 e4 e5 e6 e7 z0 z1 z2 z3 z4 z5 z6 z7 hHeld
      go_wp2_with fail
      exact ⟨⟨m, by omega, rfl, hs _ rfl⟩, by simp [intOf]⟩
     ·go_wp2_with fail
      exact ⟨⟨i + 1, by omega, .inl (by omega), by simp, ⟨⟨M', HP.out, HO.out.chg (by repeat (first | exact Chg.refl _ _ | exact (by assumption) | apply Chg.drewN | apply Chg.drew | apply Chg.alloc)) (fun _ _ h => h)⟩, HC.out.trans' (S' := fun _ => False) (by repeat (first | exact Chg.refl _ _ | exact (by assumption) | apply Chg.drewN | apply Chg.drew | apply Chg.alloc)) (fun _ _ h => h.elim)⟩⟩, by simp [intOf]; omega⟩
  ·go_wp2_with fail
   refine bodyPost_end (v := .tuple #[]) ?_ ?_ ?_
   ·simp [results, Tryz.results111, go_sem]
   ·rfl
   ·exact ⟨rfl, hS⟩
theorem stable75 (K : Ky α) (v : Value) (g : Option Nat) (M : List α) (w : World) (h : OwnsF w 118 4 v g (M.map K.row)) (hn : M.length < 20) :
  Calls Tryz.prog 75 #[v, .int .i64 M.length, .func (.func 40) #[] #[]] w fun e w' => e = .returned (.tuple #[]) ∧ SortAt K w v g M w' := by
 have HI := Lib.hid (ins111 K v g M w h (by omega))
 obtain ⟨n, hn0⟩ : ∃ n, n = M.length := ⟨_, rfl⟩
 rw [← hn0] at hn HI
 rw [← hn0]
 have h1 : ¬ (20 : Int) ≤ n := by omega
 have h2 : ¬ (20 : Int) < n := by omega
 clear h hn0
 go_enter Tryz.func75, Tryz.ntmps75
 go_wp2_with fail
 go_loopw [7, 8] (fun v7 v8 wr => v7 = .int .i64 0 ∧ v8 = .int .i64 20 ∧ wr = w) (fun _ _ _ => 0)
 case atStart => exact ⟨rfl, rfl, rfl⟩
 case round =>
  obtain ⟨rfl, rfl, hwr⟩ := hrel
  rw [hwr]
  clear hwr
  go_wp2_with fail
  refine HI.out.mono ?_
  rintro e wt ⟨rfl, hS⟩
  go_wp2_with fail
  go_loopw [6] (fun v6 wr => v6 = .int .i64 20 ∧ SortAt K w v g M wr) (fun _ _ => 0)
  case atStart => exact ⟨rfl, hS⟩
  case round =>
  obtain ⟨rfl, hS⟩ := hrel
  go_wp2_with fail
  refine bodyPost_end (v := .tuple #[]) ?_ ?_ ?_
  ·simp [results, Tryz.results75, go_sem]
  ·rfl
  ·exact ⟨rfl, hS⟩
theorem sort39 (K : Ky α) (v : Value) (g : Option Nat) (M : List α) (w : World) (h : OwnsF w 118 4 v g (M.map K.row)) (hn : M.length < 20) :
  Calls Tryz.prog 39 #[v, .func (.func 40) #[] #[]] w fun e w' => e = .returned (.tuple #[]) ∧ SortAt K w v g M w' := by
 obtain ⟨a, cap, hv, _⟩ := h.form
 have HI := Lib.hid (stable75 K v g M w h hn)
 rw [List.length_map] at hv
 generalize M.length = n at *
 clear h
 subst hv
 go_enter Tryz.func39, Tryz.ntmps39
 go_wp2_with fail
 refine HI.out.mono ?_
 rintro e wt ⟨rfl, hS⟩
 go_wp2_with fail
 refine bodyPost_end (v := .tuple #[]) ?_ ?_ ?_
 ·simp [results, Tryz.results39, go_sem]
 ·rfl
 ·exact ⟨rfl, hS⟩
end
end
end Go.Proofs.YtamhicdhbjniiaaGreatDoor
section
namespace Go.Chron
open Go Go.RowKit
def okB (c : UInt8) : Bool := c.toNat == 9 || (decide (32 ≤ c.toNat) && decide (c.toNat ≤ 126))
theorem decode_far (s : ByteArray) (i : Nat) (h : i < s.size) (hc : 128 ≤ (s[i]'h).toNat) : 128 ≤ (Utf8.decode s i).1 := by
 have e : s.get! (i + 0) = s[i]'h := by
  show s.get! i = _
  simp [ByteArray.get!, getElem!_pos, h]
  rfl
 simp only [Utf8.decode, e, Utf8.runeError]
 rw [if_neg (by omega)]
 split
 ·split <;> simp_all <;> omega
 ·split
  ·split <;> simp_all <;> omega
  ·split
   ·split <;> simp_all <;> omega
   ·decide
theorem okB_true {c : UInt8} (h : (c.toNat : Int) = 9 ∨ (32 ≤ (c.toNat : Int) ∧ (c.toNat : Int) ≤ 126)) : okB c = true := by
 unfold okB
 rcases h with h | ⟨h1, h2⟩
 ·have : c.toNat = 9 := by omega
  simp [this]
 ·have a : 32 ≤ c.toNat := by omega
  have b : c.toNat ≤ 126 := by omega
  simp [a, b]
theorem okB_false {c : UInt8} (h0 : ¬ (c.toNat : Int) = 9) (h : (c.toNat : Int) < 32 ∨ 126 < (c.toNat : Int)) : okB c = false := by
 unfold okB
 have a : c.toNat ≠ 9 := by omega
 rcases h with h | h
 ·have : ¬ 32 ≤ c.toNat := by omega
  simp [a, this]
 ·have : ¬ c.toNat ≤ 126 := by omega
  simp [a, this]
theorem all_false {l : List UInt8} {i : Nat} {c : UInt8} (h : l[i]? = some c) (hc : okB c = false) : l.all okB = false := by
 rw [List.all_eq_false]
 exact ⟨c, List.mem_of_getElem? h, by rw [hc]; decide⟩
theorem iter_chg (w : World) (s : ByteArray) (p : Nat) : Chg (fun _ => False) w (w.iter s p) := (Chg.refl _ w).alloc _
end Go.Chron
namespace Go.Proofs.YtamhicdhbjniiaaGreatDoor
open Go Go.RowKit Go.Chron
theorem bytes_at (s : ByteArray) (i : Nat) (h : i < s.size) : s.data.toList[i]? = some (s[i]'h) := by
 rw [Array.getElem?_toList]
 exact Array.getElem?_eq_getElem h
theorem plain116 (s : ByteArray) (w : World) (hs : s.size ≤ 9223372036854775807) :
  Calls Tryz.prog 116 #[.string s] w fun e w' => e = .returned (.bool (s.data.toList.all okB)) ∧ Chg (fun _ => False) w w' := by
 obtain ⟨A, hA⟩ : ∃ A, A = s.data.toList.all okB := ⟨_, rfl⟩
 rw [← hA]
 have HAA := Lib.hid hA
 clear hA
 go_enter Tryz.func116, Tryz.ntmps116
 go_wp2_with fail
 go_loopw [8] (fun v wr => ∃ i, i ≤ s.size ∧ wr = w.iter s i ∧ (s.data.toList.take i).all okB = true) (fun _ wr => s.size - wr.iterPos w.heap.size)
 case atStart => exact ⟨0, by omega, rfl, by simp⟩
 case round =>
  obtain ⟨i, hi, rfl, hp⟩ := hrel
  by_cases h : i < s.size
  ·have hb := bytes_at s i h
   have hlen : s.data.toList.length = s.size := rfl
   by_cases ha : (s[i]'h).toNat < 128
   ·have hnx := fun ty => run_next_ascii (P := Tryz.prog) w s i ty h ha
    have ht : s.data.toList.take (i + 1) = s.data.toList.take i ++ [s[i]'h] := by rw [List.take_add_one, hb]; rfl
    have HB := Lib.hid hb
    generalize hcc : s[i]'h = c at *
    have HT := Lib.hid ht
    have HP := Lib.hid hp
    have FIN := Lib.hid (fun (h1 : okB c = false) => HAA.out.trans (all_false HB.out h1))
    clear ht hp hb hlen
    go_wp2_with fail
    case roundEnd =>
     exact ⟨⟨i + 1, by omega, rfl, by rw [HT.out, List.all_append, HP.out, List.all_cons, okB_true (.inl (by assumption))]; rfl⟩, by simp; omega⟩
    case roundEnd =>
     have hk : okB c = true := okB_true (by simp_all)
     exact ⟨⟨i + 1, by omega, rfl, by rw [HT.out, List.all_append, HP.out, List.all_cons, hk]; rfl⟩, by simp; omega⟩
    ·have hk : okB c = false := okB_false (by assumption) (by simp_all)
     go_ret
     rw [FIN.out hk]
     exact ⟨rfl, iter_chg _ _ _⟩
    ·have hk : okB c = false := okB_false (by assumption) (.inl (by assumption))
     go_ret
     rw [FIN.out hk]
     exact ⟨rfl, iter_chg _ _ _⟩
   ·have hnx := fun ty => run_next_any (P := Tryz.prog) w s i ty h
    have hfar := decode_far s i h (by omega)
    have hk : okB (s[i]'h) = false := okB_false (by omega) (.inr (by omega))
    have FIN := Lib.hid (HAA.out.trans (all_false hb hk))
    have f1 : ¬ (((Utf8.decode s i).1 : Nat) : Int) = 9 := by omega
    have f2 : ¬ (((Utf8.decode s i).1 : Nat) : Int) < 32 := by omega
    have f3 : (126 : Int) < (((Utf8.decode s i).1 : Nat) : Int) := by omega
    generalize (Utf8.decode s i).1 = r at *
    generalize (Utf8.decode s i).2 = k at *
    clear hp hb hlen hfar hk
    go_wp2_with fail
    go_ret
    rw [FIN.out]
    exact ⟨rfl, iter_chg _ _ _⟩
  ·obtain rfl : i = s.size := by omega
   have hnx := fun ty => run_next_end (P := Tryz.prog) w s s.size ty (by omega)
   have hall : s.data.toList.all okB = true := by rw [List.take_of_length_le (show s.data.toList.length ≤ s.size from Nat.le_refl _)] at hp; exact hp
   have HA := Lib.hid (HAA.out.trans hall)
   clear hp hall
   go_wp2_with fail
   go_ret
   rw [HA.out]
   exact ⟨rfl, iter_chg _ _ _⟩
end Go.Proofs.YtamhicdhbjniiaaGreatDoor
end
section
set_option linter.unusedSectionVars false
namespace Go.Chron
open Go Go.RowKit
theorem ownsMap_chg {H : Type} {P : Program} {k : TypeId} {R : Value → Option (DataW H × List MemPlace)} {w w' : World} {b n : Nat} {D : DataW H} {S : Nat → Prop} (h : w.ownsMap P k R b n D) (hc : Chg S w w') (hn : ¬ S b) : w'.ownsMap P k R b n D := by
 have hlt := h.lt
 obtain ⟨es, clock, hb, r⟩ := h
 exact ⟨es, clock, (hc.block b hlt hn).trans hb, r⟩
theorem Chg.turned {S : Nat → Prop} {w w' w'' : World} {b : Nat} (h : Chg S w w') (ht : w'.mapTurned w'' b) (hb : b < w.heap.size → S b) : Chg S w w'' :=
 h.grown ht.grown (fun k hk e => by cases e; exact hb hk)
structure Ent (κ : Type) where
 k : κ
 d : Int
 s : Int
def oneD (a s : Int) : DataW Unit := .agg [.lit (.int .i64 a), .lit (.int .i64 s)]
def oneR : Value → Option (DataW Unit × List MemPlace)
 | .agg ⟨[.int .i64 a, .int .i64 s]⟩ => some (oneD a s, [])
 | _ => none
theorem oneR_mk (a s : Int) : oneR (.agg #[.int .i64 a, .int .i64 s]) = some (oneD a s, []) := rfl
theorem oneR_inv {v : Value} {y : DataW Unit × List MemPlace} (h : oneR v = some y) : ∃ c : Int × Int, v = .agg #[.int .i64 c.1, .int .i64 c.2] ∧ y = (oneD c.1 c.2, []) := by
 unfold oneR at h
 split at h
 ·cases h; exact ⟨(_, _), rfl, rfl⟩
 ·cases h
theorem oneD_inj {a s a' s' : Int} (h : oneD a s = oneD a' s') : a = a' ∧ s = s' := by
 unfold oneD at h
 simp at h
 exact h
section
variable {κ : Type} [DecidableEq κ] {lit : κ → Lit} {f : Ent κ → DataW Unit} {D : DataW Unit} {L : List (Ent κ)}
def dropL (L : List (Ent κ)) (x : κ) : List (Ent κ) := L.filter (fun e => decide (e.k ≠ x))
def setL (L : List (Ent κ)) (x : κ) (d s : Int) : List (Ent κ) := dropL L x ++ [⟨x, d, s⟩]
def lookL (L : List (Ent κ)) (x : κ) : Option (Ent κ) := L.find? (fun e => decide (e.k = x))
def hasL (L : List (Ent κ)) (x : κ) : Bool := L.any (fun e => decide (e.k = x))
theorem mem_dropL {x : κ} {e : Ent κ} : e ∈ dropL L x ↔ e ∈ L ∧ e.k ≠ x := by unfold dropL; simp
theorem mem_setL {x : κ} {d s : Int} {e : Ent κ} : e ∈ setL L x d s ↔ (e ∈ L ∧ e.k ≠ x) ∨ e = ⟨x, d, s⟩ := by unfold setL; simp [mem_dropL]
theorem lookL_some {x : κ} {e : Ent κ} (h : lookL L x = some e) : e ∈ L ∧ e.k = x := ⟨List.mem_of_find?_eq_some h, by simpa using List.find?_some h⟩
theorem lookL_none {x : κ} (h : lookL L x = none) : ∀ e ∈ L, e.k ≠ x := fun e he => by
 have := List.find?_eq_none.1 h e he
 simpa using this
theorem hasL_eq (x : κ) : hasL L x = (lookL L x).isSome := by
 rw [Bool.eq_iff_iff]
 unfold hasL lookL
 rw [List.find?_isSome, List.any_eq_true]
theorem hasL_iff {x : κ} : hasL L x = true ↔ ∃ e ∈ L, e.k = x := by unfold hasL; simp
theorem lookL_of_mem (hn : L.Pairwise (fun a b => a.k ≠ b.k)) {e : Ent κ} (he : e ∈ L) : lookL L e.k = some e := by
 cases h : lookL L e.k with
 | none => exact absurd rfl (lookL_none h e he)
 | some e' =>
  obtain ⟨h1, h2⟩ := lookL_some h
  have : ∀ {l : List (Ent κ)}, l.Pairwise (fun a b => a.k ≠ b.k) → ∀ {a b}, a ∈ l → b ∈ l → a.k = b.k → a = b := by
   intro l
   induction l with
   | nil => intro _ a b ha; cases ha
   | cons c l ih =>
    intro hp a b ha hb hab
    obtain ⟨p1, p2⟩ := List.pairwise_cons.1 hp
    rcases List.mem_cons.1 ha with ea | ha'
    ·rcases List.mem_cons.1 hb with eb | hb'
     ·rw [ea, eb]
     ·exact absurd (ea ▸ hab) (p1 b hb')
    ·rcases List.mem_cons.1 hb with eb | hb'
     ·exact absurd (eb ▸ hab).symm (p1 a ha')
     ·exact ih p2 ha' hb' hab
  rw [this hn h1 he h2]
theorem lookL_set_same (x : κ) (d s : Int) : lookL (setL L x d s) x = some ⟨x, d, s⟩ := by
 unfold lookL setL
 rw [List.find?_append, List.find?_eq_none.2 (by intro e he; simpa using (mem_dropL.1 he).2)]
 simp
structure QL (lit : κ → Lit) (f : Ent κ → DataW Unit) (D : DataW Unit) (L : List (Ent κ)) : Prop where
 has : ∀ x, Maps.has D (lit x) = hasL L x
 at_ : ∀ e ∈ L, ∀ z, D.atKey (lit e.k) z = f e
 size : Maps.size D = L.length
 nodup : L.Pairwise (fun a b => a.k ≠ b.k)
theorem QL.nil : QL lit f (.map []) ([] : List (Ent κ)) := ⟨fun _ => rfl, by simp, rfl, List.Pairwise.nil⟩
theorem strike_len : ∀ {L : List (Ent κ)} (x : κ), L.Pairwise (fun a b => a.k ≠ b.k) → (dropL L x).length + (if hasL L x = true then 1 else 0) = L.length
 | [], _, _ => rfl
 | e :: L, x, h => by
  obtain ⟨h1, h2⟩ := List.pairwise_cons.1 h
  have ih := strike_len (L := L) x h2
  by_cases he : e.k = x
  ·have hr : hasL L x = false := by
    unfold hasL
    rw [List.any_eq_false]
    intro y hy
    have := h1 y hy
    simp only [decide_eq_true_eq]
    intro hyx
    exact this (he.trans hyx.symm)
   rw [hr] at ih
   simp only [Bool.false_eq_true, if_false, Nat.add_zero] at ih
   have e1 : dropL (e :: L) x = dropL L x := by unfold dropL; simp [he]
   have e2 : hasL (e :: L) x = true := by unfold hasL; simp [he]
   rw [e1, e2, ih]
   simp
  ·have e1 : dropL (e :: L) x = e :: dropL L x := by unfold dropL; simp [he]
   have e2 : hasL (e :: L) x = hasL L x := by unfold hasL; simp [he]
   rw [e1, e2, List.length_cons, List.length_cons]
   omega
theorem QL.put (hinj : ∀ x y, lit x = lit y → x = y) (h : QL lit f D L) (hT : Maps.Tidy D) {x : κ} (hk : WideAt.IsKeyLit (lit x)) (d s : Int) : QL lit f (D.put (lit x) (f ⟨x, d, s⟩)) (setL L x d s) := by
 refine ⟨fun y => ?_, fun e he z => ?_, ?_, ?_⟩
 ·by_cases hy : y = x
  ·subst hy
   rw [Maps.has_put_same hT.isMap hk, hasL_eq, lookL_set_same]; rfl
  ·rw [Maps.has_put_other (fun e => hy (hinj _ _ e)), h.has]
   unfold hasL setL dropL
   rw [List.any_append, List.any_filter]
   simp only [List.any_cons, List.any_nil, Bool.or_false]
   rw [decide_eq_false (fun e : x = y => hy e.symm), Bool.or_false]
   congr 1
   funext e
   by_cases he : e.k = y
   ·simp [he, hy]
   ·simp [he]
 ·rcases mem_setL.1 he with ⟨he1, he2⟩ | rfl
  ·rw [Maps.atKey_put_other (fun e => he2 (hinj _ _ e)), h.at_ e he1]
  ·rw [Maps.atKey_put_same hT.isMap hk]
 ·have h1 := Maps.size_put (k := lit x) hT (f ⟨x, d, s⟩)
  have h2 := strike_len (L := L) x h.nodup
  rw [h1, h.has, h.size]
  unfold setL
  rw [List.length_append, List.length_singleton]
  cases hh : hasL L x <;> rw [hh] at h2 <;> simp at h2 ⊢ <;> omega
 ·unfold setL
  refine List.pairwise_append.2 ⟨h.nodup.filter _, by simp, ?_⟩
  intro a ha b hb
  simp at hb
  subst hb
  exact (mem_dropL.1 ha).2
theorem QL.atKey (h : QL lit f D L) (x : κ) (z : DataW Unit) : D.atKey (lit x) z = (match lookL L x with | some e => f e | none => z) := by
 cases hl : lookL L x with
 | none => exact Maps.atKey_of_not_has (by rw [h.has, hasL_eq, hl]; rfl) z
 | some e =>
  obtain ⟨h1, h2⟩ := lookL_some hl
  rw [← h2]
  exact h.at_ e h1 z
/-! ### What is due -/
def dueLt (x y : Ent κ) : Prop := x.d < y.d ∨ (x.d = y.d ∧ x.s < y.s)
structure IsDue (L : List (Ent κ)) (h : Int) (r : List (Ent κ)) : Prop where
 perm : r.Perm (L.filter (fun e => decide (e.d ≤ h)))
 sorted : r.Pairwise dueLt
theorem dueLt_asymm {x y : Ent κ} (h : dueLt x y) : ¬ dueLt y x := by unfold dueLt at *; omega
theorem due_unique {r r' : List (Ent κ)} : r.Perm r' → r.Pairwise dueLt → r'.Pairwise dueLt → r = r' := by
 intro hp h1 h2
 induction r generalizing r' with
 | nil => exact (List.nil_perm.1 hp).symm
 | cons a r ih =>
  cases r' with
  | nil => exact absurd hp.length_eq (by simp)
  | cons b r' =>
   obtain ⟨a1, a2⟩ := List.pairwise_cons.1 h1
   obtain ⟨b1, b2⟩ := List.pairwise_cons.1 h2
   have hab : a = b := by
    have ha : a ∈ b :: r' := hp.subset (by simp)
    have hb : b ∈ a :: r := hp.symm.subset (by simp)
    rcases List.mem_cons.1 ha with e | ha'
    ·exact e
    ·rcases List.mem_cons.1 hb with e | hb'
     ·exact e.symm
     ·exact absurd (a1 b hb') (dueLt_asymm (b1 a ha'))
   subst hab
   rw [ih (List.perm_cons a |>.1 hp) a2 b2]
theorem IsDue.unique {h : Int} {r r' : List (Ent κ)} (a : IsDue L h r) (b : IsDue L h r') : r = r' := due_unique (a.perm.trans b.perm.symm) a.sorted b.sorted
theorem IsDue.len {h : Int} {r : List (Ent κ)} (a : IsDue L h r) : r.length ≤ L.length := by
 rw [a.perm.length_eq]; exact List.length_filter_le _ _
theorem IsDue.nil (h : Int) : IsDue ([] : List (Ent κ)) h [] := ⟨List.Perm.refl _, List.Pairwise.nil⟩
def IsNext (L : List (Ent κ)) (n : Int) : Prop := (∃ e ∈ L, e.d = n) ∧ ∀ e ∈ L, n ≤ e.d
def nextL (L : List (Ent κ)) : Int := match L with | [] => 0 | e :: r => r.foldl (fun n x => if x.d < n then x.d else n) e.d
theorem foldmin (r : List (Ent κ)) : ∀ n : Int, (r.foldl (fun n x => if x.d < n then x.d else n) n = n ∨ ∃ x ∈ r, x.d = r.foldl (fun n x => if x.d < n then x.d else n) n) ∧ r.foldl (fun n x => if x.d < n then x.d else n) n ≤ n ∧ ∀ x ∈ r, r.foldl (fun n x => if x.d < n then x.d else n) n ≤ x.d := by
 induction r with
 | nil => intro n; simp
 | cons y r ih =>
  intro n
  rw [List.foldl_cons]
  obtain ⟨h1, h2, h3⟩ := ih (if y.d < n then y.d else n)
  have hmin : (if y.d < n then y.d else n) ≤ n ∧ (if y.d < n then y.d else n) ≤ y.d := by split <;> omega
  refine ⟨?_, by omega, ?_⟩
  ·rcases h1 with h1 | ⟨x, hx, hxe⟩
   ·rw [h1]
    by_cases hy : y.d < n
    ·rw [if_pos hy]; exact .inr ⟨y, by simp, rfl⟩
    ·rw [if_neg hy]; exact .inl rfl
   ·exact .inr ⟨x, by simp [hx], hxe⟩
  ·intro x hx
   rcases List.mem_cons.1 hx with rfl | hx
   ·omega
   ·exact h3 x hx
theorem nextL_is (h : L ≠ []) : IsNext L (nextL L) := by
 cases L with
 | nil => exact absurd rfl h
 | cons e r =>
  obtain ⟨h1, h2, h3⟩ := foldmin r e.d
  refine ⟨?_, ?_⟩
  ·rcases h1 with h1 | ⟨x, hx, hxe⟩
   ·exact ⟨e, by simp, h1.symm⟩
   ·exact ⟨x, by simp [hx], hxe⟩
  ·intro x hx
   rcases List.mem_cons.1 hx with rfl | hx
   ·exact h2
   ·exact h3 x hx
theorem IsNext.unique {n m : Int} (a : IsNext L n) (b : IsNext L m) : n = m := by
 obtain ⟨⟨x, hx, rfl⟩, h1⟩ := a
 obtain ⟨⟨y, hy, rfl⟩, h2⟩ := b
 have := h1 y hy
 have := h2 x hx
 omega
theorem IsNext.eq {n : Int} (a : IsNext L n) : n = nextL L := a.unique (nextL_is (by rintro rfl; obtain ⟨⟨x, hx, _⟩, _⟩ := a; cases hx))
end
end Go.Chron
end
