/- Package quorum's Choose, and the law's votes: contracts; the document's examples hold. -/
import Derived.Test.YtamhicdhbjniiaaGreatDoorM11
import Derived.Test.YtamhicdhbjniiaaGreatDoorM24
import Derived.Test.YtamhicdhbjniiaaGreatDoorM12
import Derived.Laws.OwnMore
set_option linter.unusedVariables false
set_option maxHeartbeats 1600000
set_option maxRecDepth 100000
section
namespace Go.Chron
open Go Go.RowKit
structure Vt where
 srv : Int
 sam : Sam
 off : Int
deriving DecidableEq
def votec (v : Vt) : List Value := [.int .i64 v.srv, .int .i64 v.sam.o, .int .i64 v.sam.d, .int .i64 v.sam.t, .int .i64 v.sam.s, .int .i64 v.off]
def chOf (q : Int) (offs : List Int) : Int × Int := if q < 1 then (0, 3) else if (offs.length : Int) < q then (0, 13) else (medOf offs, 0)
theorem votec_each (L : List Vt) : ∀ y ∈ L.map votec, y.length = 6 := by intro x hx; obtain ⟨z, _, rfl⟩ := List.mem_map.1 hx; rfl
theorem take_set_succ {α : Type} {M O : List α} {j : Nat} {x : α} (h : M.take j = O.take j) (hj : j < M.length) (hx : O[j]? = some x) : (M.set j x).take (j + 1) = O.take (j + 1) := by
 rw [List.take_add_one, List.take_add_one, hx, List.take_set_of_le (Nat.le_refl _), h, List.getElem?_set_self hj]
theorem zeros_flat (n : Nat) : ((List.replicate n (0 : Int)).map fun z => [Value.int .i64 z]).flatten = (madeCells #[Value.int .i64 0] n).toList := by
 rw [toList_madeCells_one, List.map_replicate]
 induction n with
 | zero => rfl
 | succ n ih => rw [List.replicate_succ, List.replicate_succ, List.flatten_cons, ih]; rfl
theorem Owns.put1 {w : World} {e : TypeId} {v : Value} {k : Nat} {zs : List Int} (h : Owns w e 1 v (some k) (zs.map fun z => [Value.int .i64 z])) {i : Nat} (hi : i < zs.length) (x : Int) :
  Owns (w.setCell ⟨k, i, none⟩ (.int .i64 x)) e 1 v (some k) ((zs.set i x).map fun z => [Value.int .i64 z]) := by
 have := h.set (i := i) (by rw [List.length_map]; exact hi) (x := [Value.int .i64 x]) rfl
 rw [Nat.mul_one] at this
 rw [List.map_set]
 exact this
end Go.Chron
namespace Go.Proofs.YtamhicdhbjniiaaGreatDoor
open Go.RowKit Go.Chron
theorem info_vote : (Tryz.prog.info? 248).map (fun i => (i.zero, i.size, i.bytes)) = some (some (.agg #[.int .i64 0, .int .i64 0, .int .i64 0, .int .i64 0, .int .i64 0, .int .i64 0]), 6, 48) := by kernel_rfl
def ChooseInv (w : World) (offs : List Int) (n k : Nat) (i : Value) (wr : World) : Prop :=
 ∃ (j : Nat) (M : List Int), j ≤ n ∧ i = .int .i64 j ∧ M.length = n ∧ M.take j = offs.take j ∧ Owns wr 2 1 (.slice (some ⟨k, 0, none⟩) n n) (some k) (M.map fun z => [Value.int .i64 z]) ∧ Chg (fun _ => False) w wr
theorem choose161 (q : Int) (a : Option Addr) (n cap : Nat) (L : List Vt) (w : World) (hn : n = L.length) (hcap : n ≤ cap) (hcm : cap ≤ 9223372036854775807) (hr : Reads w 6 a (L.map votec)) (hb : n ≤ 1000000) :
  Calls Tryz.prog 161 #[.int .i64 q, .slice a n cap] w fun e w' => e = .returned (.tuple #[.int .i64 (chOf q (L.map (·.off))).1, .int .i64 (chOf q (L.map (·.off))).2]) ∧ Chg (fun _ => False) w w' := by
 obtain ⟨i0, hi, hz0, hz1, hz2⟩ := info_parts infom_i64
 have HR := Lib.hid hr
 have HN := Lib.hid hn
 have hlen : (L.map (·.off)).length = n := by rw [List.length_map]; exact hn.symm
 unfold chOf
 rw [hlen]
 clear hr hn
 by_cases hq : q < 1
 ·rw [if_pos hq]
  clear hlen
  go_enter Tryz.func161, Tryz.ntmps161
  go_wp2_with fail
  go_ret2
  exact ⟨rfl, Chg.refl _ _⟩
 ·rw [if_neg hq]
  by_cases hnq : (n : Int) < q
  ·rw [if_pos hnq]
   clear hlen
   go_enter Tryz.func161, Tryz.ntmps161
   go_wp2_with fail
   go_ret2
   exact ⟨rfl, Chg.refl _ _⟩
  ·rw [if_neg hnq]
   have hn1 : 1 ≤ n := by omega
   have HLEN := Lib.hid hlen
   clear hlen
   go_enter Tryz.func161, Tryz.ntmps161
   go_wp2_with (at_make; refine wpList_make_full _ (by rfl) (.tmp 18) (.tmp 18) 38 (by rfl) 0 2 i0 _ 1 Tryz.underlying38 hi hz0 hz1 .i64 .i64 n n n (by rfl) (by rfl) rfl rfl (by rw [hz2]; omega) (by unfold maxLen; omega) (Nat.zero_le _) ?_)
   intro w1 hown hg1
   have o1 : Owns w1 2 1 (.slice (some ⟨w.heap.size, 0, none⟩) n n) (some w.heap.size) ((List.replicate n (0 : Int)).map fun z => [Value.int .i64 z]) := by
    have := Owns.of_row (v := .slice (some ⟨w.heap.size, 0, none⟩) n n) (els := (List.replicate n (0 : Int)).map fun z => [Value.int .i64 z]) (base := 0) (by rw [zeros_flat, List.length_map, List.length_replicate]; exact hown) (enc_each _ _)
    exact this
   have c1 : Chg (fun _ => False) w w1 := (Chg.refl _ w).grown hg1 (fun _ _ h => by cases h)
   obtain ⟨k, hk⟩ : ∃ k, k = w.heap.size := ⟨_, rfl⟩
   rw [← hk] at o1 ⊢
   have HK := Lib.hid hk
   have C0 : ChooseInv w (L.map (·.off)) n k (.int .i64 ((0 : Nat) : Int)) w1 := ⟨0, _, by omega, rfl, by simp, by simp, o1, c1⟩
   have HC0 := Lib.hid C0
   clear hown hg1 o1 c1 hk C0
   go_wp2_with fail
   go_loopw [22] (fun i wr => ChooseInv w (L.map (·.off)) n k i wr) (fun i _ => n - (intOf i).toNat)
   case atStart => exact HC0.out
   case round =>
    clear HC0
    obtain ⟨j, M, hj, rfl, hM, hMt, oM, cM⟩ := hrel
    by_cases hlt : j < n
    ·obtain ⟨v, hv⟩ : ∃ v, L[j]? = some v := ⟨_, List.getElem?_eq_getElem (by rw [← HN.out]; exact hlt)⟩
     obtain ⟨bl, off, rfl, hcell⟩ := HR.out (by rw [List.length_map, ← HN.out]; omega)
     have hvv : (L.map votec)[j]? = some (votec v) := by rw [List.getElem?_map, hv]; rfl
     have e0 := cM.keep (hcell j _ hvv 0 _ rfl) (fun h => h)
     have e1 := cM.keep (hcell j _ hvv 1 _ rfl) (fun h => h)
     have e2 := cM.keep (hcell j _ hvv 2 _ rfl) (fun h => h)
     have e3 := cM.keep (hcell j _ hvv 3 _ rfl) (fun h => h)
     have e4 := cM.keep (hcell j _ hvv 4 _ rfl) (fun h => h)
     have e5 := cM.keep (hcell j _ hvv 5 _ rfl) (fun h => h)
     simp only [Nat.add_zero] at e0
     rw [← Nat.add_assoc] at e1 e2 e3 e4 e5
     have hjn : (j : Int) < (n : Int) := by omega
     have hjM : j < M.length := by rw [hM]; exact hlt
     obtain ⟨p, hp⟩ : ∃ p, M[j]? = some p := ⟨_, List.getElem?_eq_getElem hjM⟩
     have cX := chg0_alloc wr (Obj.cells #[Value.int IntKind.i64 v.srv, Value.int IntKind.i64 v.sam.o, Value.int IntKind.i64 v.sam.d, Value.int IntKind.i64 v.sam.t, Value.int IntKind.i64 v.sam.s, Value.int IntKind.i64 v.off] 248)
     have oX := oM.chg cX (fun _ _ h => h)
     have u0 := oX.cell rfl (i := j) (x := [Value.int .i64 p]) (by rw [List.getElem?_map, hp]; rfl) (j := 0) rfl
     have f0 := oX.frozen rfl j
     simp only [Nat.mul_one, Nat.add_zero] at u0
     have oY := oX.put1 hjM v.off
     have cY : Chg (fun _ => False) w ((wr.alloc (Obj.cells #[Value.int IntKind.i64 v.srv, Value.int IntKind.i64 v.sam.o, Value.int IntKind.i64 v.sam.d, Value.int IntKind.i64 v.sam.t, Value.int IntKind.i64 v.sam.s, Value.int IntKind.i64 v.off] 248)).setCell ⟨k, j, none⟩ (.int .i64 v.off)) := (cM.trans cX).setCell (p := ⟨k, j, none⟩) (fun h => by have := HK.out; show False; have h : k < w.heap.size := h; omega) _
     have hMt' := take_set_succ hMt hjM (show (L.map (·.off))[j]? = some v.off by rw [List.getElem?_map, hv]; rfl)
     have hMl : (M.set j v.off).length = n := by rw [List.length_set, hM]
     have HOY := Lib.hid oY
     have HCY := Lib.hid cY
     have HMT := Lib.hid hMt'
     have HML := Lib.hid hMl
     clear hM hMt oM cM oX cX oY cY hMt' hMl hv hvv hcell hp hjM
     go_wp2_with fail
     go_roundw
     case rel => exact ⟨j + 1, _, by omega, by go_num, HML.out, HMT.out, HOY.out, HCY.out⟩
     case measure => simp [intOf]; omega
    ·obtain rfl : j = n := by omega
     have hMe : M = L.map (·.off) := by
      rw [List.take_of_length_le (by omega), List.take_of_length_le (by rw [HLEN.out]; exact Nat.le_refl _)] at hMt
      exact hMt
     subst hMe
     have HO := Lib.hid oM.reads
     have HCM := Lib.hid cM
     clear hMt oM cM hM
     go_wp2_with fail
     refine (of_i64 (some ⟨k, 0, none⟩) j j (L.map (·.off)) _ HLEN.out.symm (by simp) HO.out (by rw [HLEN.out]; exact hb)).mono ?_
     rintro e w3 ⟨rfl, c3⟩
     rw [if_neg (by rw [HLEN.out]; omega)]
     have c4 := HCM.out.trans c3
     clear HO HCM c3
     go_wp2_with fail
     go_ret2
     exact ⟨rfl, c4⟩
structure VotesAt (w w' : World) (v : Value) (g : Option Nat) (L : List Vt) : Prop where
 o : Owns w' 248 6 v g (L.map votec)
 n : ∀ k, g = some k → w.heap.size ≤ k
 c : Chg (fun _ => False) w w'
theorem VotesAt.chg0 {w w' w'' : World} {v : Value} {g : Option Nat} {L : List Vt} (h : VotesAt w w' v g L) (k : Chg (fun _ => False) w' w'') : VotesAt w w'' v g L := ⟨h.o.chg k (fun _ _ h => h), h.n, h.c.trans k⟩
theorem votec_one (v : Vt) : ∀ u ∈ votec v, u.oneCell' = true := by intro u hu; simp [votec] at hu; rcases hu with rfl | rfl | rfl | rfl | rfl | rfl <;> rfl
theorem VotesAt.add {w w1 w2 : World} {v v' : Value} {g : Option Nat} {L : List Vt} {x : Vt} {k : Nat} (h : VotesAt w w1 v g L) (ho : Owns w2 248 6 v' (some k) ((L ++ [x]).map votec)) (hc : Chg (fun b => g = some b) w1 w2) (hk : g = some k ∨ w1.heap.size ≤ k) : VotesAt w w2 v' (some k) (L ++ [x]) := by
 refine ⟨ho, fun j hj => ?_, h.c.trans' hc (fun i hi e => by have := h.n i e; omega)⟩
 cases hj
 rcases hk with hk | hk
 ·exact h.n _ hk
 ·exact Nat.le_trans h.c.size hk
theorem VotesAt.form {w w' : World} {v : Value} {g : Option Nat} {L : List Vt} (h : VotesAt w w' v g L) {n : Nat} (hn : n = L.length) : ∃ a cap, v = .slice a n cap ∧ n ≤ cap ∧ cap ≤ 9223372036854775807 ∧ Reads w' 6 a (L.map votec) := by
 subst hn
 obtain ⟨a, cap, hv, h1, h2, h3, ha⟩ := h.o.form
 rw [List.length_map] at hv h1
 exact ⟨a, cap, hv, h1, by simpa [maxLen] using h2, by rw [ha]; exact h.o.reads⟩
def VRead (w : World) (a : Option Addr) (n : Nat) (offs : List Int) : Prop := ∃ L : List Vt, n = L.length ∧ L.map (·.off) = offs ∧ Reads w 6 a (L.map votec)
theorem choose161' (q : Int) (a : Option Addr) (n cap : Nat) (offs : List Int) (w : World) (hcap : n ≤ cap) (hcm : cap ≤ 9223372036854775807) (hr : VRead w a n offs) (hb : n ≤ 1000000) :
  Calls Tryz.prog 161 #[.int .i64 q, .slice a n cap] w fun e w' => e = .returned (.tuple #[.int .i64 (chOf q offs).1, .int .i64 (chOf q offs).2]) ∧ Chg (fun _ => False) w w' := by
 obtain ⟨L, hn, rfl, hR⟩ := hr
 exact choose161 q a n cap L w hn hcap hcm hR hb
theorem chOf_cases (q : Int) (l : List Int) : (q < 1 ∧ chOf q l = (0, 3)) ∨ (1 ≤ q ∧ (l.length : Int) < q ∧ chOf q l = (0, 13)) ∨ (1 ≤ q ∧ q ≤ (l.length : Int) ∧ chOf q l = (medOf l, 0)) := by
 unfold chOf
 by_cases h : q < 1
 ·exact .inl ⟨h, if_pos h⟩
 ·by_cases h2 : (l.length : Int) < q
  ·exact .inr (.inl ⟨by omega, h2, by rw [if_neg h, if_pos h2]⟩)
  ·exact .inr (.inr ⟨by omega, by omega, by rw [if_neg h, if_neg h2]⟩)
end Go.Proofs.YtamhicdhbjniiaaGreatDoor
end
