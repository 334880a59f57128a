/- world.Log: contract. -/
import Derived.Test.YtamhicdhbjniiaaGreatDoorM36
import Derived.Test.YtamhicdhbjniiaaGreatDoorM24
set_option linter.unusedVariables false
set_option maxHeartbeats 1600000
set_option maxRecDepth 100000
section
namespace Go.Chron
open Go Go.RowKit
theorem flat_set1 {α : Type} {sz : Nat} : ∀ {els : List (List α)} {i : Nat} {x : List α} {j : Nat} (v : α), (∀ y ∈ els, y.length = sz) → els[i]? = some x → j < sz → (els.set i (x.set j v)).flatten = els.flatten.set (i * sz + j) v
 | [], i, x, j, v, _, h, _ => by cases i <;> cases h
 | y :: els, 0, x, j, v, he, h, hj => by
  cases h
  have hy := he y (by simp)
  simp only [List.set_cons_zero, List.flatten_cons, Nat.zero_mul, Nat.zero_add]
  rw [List.set_append_left _ _ (by omega)]
 | y :: els, i + 1, x, j, v, he, h, hj => by
  have hy := he y (by simp)
  have ih := flat_set1 (j := j) v (fun z hz => he z (List.mem_cons_of_mem _ hz)) (by simpa using h) hj
  simp only [List.set_cons_succ, List.flatten_cons]
  rw [ih, List.set_append_right _ _ (by rw [hy, Nat.succ_mul]; omega), hy]
  congr 2
  rw [Nat.succ_mul]; omega
theorem Owns.set1 {w : World} {e : TypeId} {sz : Nat} {v : Value} {k : Nat} {els : List (List Value)} (h : Owns w e sz v (some k) els) {i : Nat} {x : List Value} (hx : els[i]? = some x) {j : Nat} (hj : j < sz) (u : Value) :
  Owns (w.setCell ⟨k, i * sz + j, none⟩ u) e sz v (some k) (els.set i (x.set j u)) := by
 rcases h.row with ⟨_, h0, _⟩ | ⟨k', cap, cur, hk', hv, hb, h1, h2, h3, h4⟩
 ·cases h0
 ·cases hk'
  have hxl := h.each x (List.mem_of_getElem? hx)
  have hi : i < els.length := (List.getElem?_eq_some_iff.1 hx).1
  have hm : (i + 1) * sz ≤ els.length * sz := Nat.mul_le_mul_right _ hi
  rw [Nat.succ_mul] at hm
  refine ⟨fun y hy => ?_, .inr ⟨k, cap, _, rfl, by simpa using hv, hb.set_ (i * sz + j) u, by simpa using h1, h2, by simpa using h3, ?_⟩⟩
  ·rcases List.mem_or_eq_of_mem_set hy with h' | h'
   ·exact h.each y h'
   ·rw [h', List.length_set]; exact hxl
  ·rw [List.length_set, flat_set1 u h.each hx hj, ← h4, Array.toList_setIfInBounds, List.take_set]
end Go.Chron
namespace Go.Proofs.YtamhicdhbjniiaaGreatDoor
open Go Go.RowKit Go.Chron
structure LogPost (w : World) (log : List (Int × Int)) (e : Ending) (w' : World) : Prop where
 ex : ∃ (a : Option Addr) (cap : Nat) (g : Option Nat) (L : List LG), e = .returned (.slice a log.length cap) ∧ L.map (fun x : LG => (x.th, x.off)) = log ∧ Owns w' 104 3 (.slice a log.length cap) g (L.map lgc) ∧ ∀ k, g = some k → w.heap.size ≤ k
 c : Chg (fun _ => False) w w'
theorem lg_get {L : List LG} {i : Nat} {x : LG} (h : L[i]? = some x) : (L.map lgc)[i]? = some (lgc x) := by rw [List.getElem?_map, h]; rfl
structure LogAt (w0 : World) (log : List (Int × Int)) (ML : List LG) (v : Value) (g : Option Nat) (j : Nat) (w : World) : Prop where
 ex : ∃ L : List LG, L.length = log.length ∧ L.map (fun x : LG => (x.th, x.off)) = log ∧ Owns w 104 3 v g (L.map lgc) ∧ ∀ i, j ≤ i → L[i]? = ML[i]?
 c : Chg (fun _ => False) w0 w
theorem log17 {N b : Nat} {W : Wm} {B : WB} {w : World} (h : WAt N w b W B) (hN : N ≤ 1000000) : Calls Tryz.prog 17 #[.pointer (some ⟨b, 0, none⟩)] w (LogPost w W.log) := by
 obtain ⟨a, cap, hlv, hc1, hc2, hnil, ha⟩ := h.log.form
 have hml : (B.ML.map lgc).length = W.log.length := by rw [← h.ll, List.length_map, List.length_map]
 rw [hml] at hlv hc1
 have hln := h.ln
 have hoc : ∀ x ∈ B.ML.map lgc, x.length = 3 := fun x hx => by obtain ⟨y, _, rfl⟩ := List.mem_map.1 hx; rfl
 have h1c : ∀ u ∈ (B.ML.map lgc).flatten, u.oneCell' = true := fun u hu => by
  obtain ⟨x, hx, hxu⟩ := List.mem_flatten.1 hu
  obtain ⟨y, _, rfl⟩ := List.mem_map.1 hx
  simp [lgc] at hxu
  rcases hxu with rfl | rfl | rfl <;> rfl
 have hrd := h.log.reads
 have k6 := h.box.cell 6
 simp [wmc] at k6
 rw [hlv] at k6
 rw [← ha] at hrd
 have hll := h.ll
 have hlok := h.lok
 have hMl : B.ML.length = W.log.length := by rw [← hml, List.length_map]
 generalize W.log = log at *
 obtain ⟨n, hn⟩ : ∃ n, n = log.length := ⟨_, rfl⟩
 rw [← hn] at k6 hml hln hlv hc1 hMl
 have HCL := Lib.hid (fun W' (hW : Chg (fun _ => False) w W') => clone45 a n cap (B.ML.map lgc) W' hml.symm (fun h => by have := hnil h; exact ⟨by omega, this⟩) hoc (hrd.chg hW (fun _ _ h => h)) h1c (by rw [hml]; omega) (by rw [hml]; unfold maxLen; omega))
 have HN := Lib.hid hn
 have HLL := Lib.hid hll
 have HLO := Lib.hid hlok
 have HML := Lib.hid hml
 have HMN := Lib.hid hMl
 have hnb : n ≤ 1000000 := by omega
 clear h hoc h1c hrd ha hnil hlv hn hll hlok hml hln hMl hc1 hc2
 go_enter Tryz.func17, Tryz.ntmps17
 go_wp2_with fail
 refine (HCL.out _ (Chg.refl _ _)).mono ?_
 rintro e w1 ⟨a1, cap1, g1, rfl, o1, c1, hg1⟩
 rw [HML.out]
 rw [HML.out] at o1
 have HO1 := Lib.hid o1
 have HC1 := Lib.hid c1
 have HG1 := Lib.hid hg1
 clear HCL k6 o1 c1 hg1
 go_wp2_with fail
 go_loopw [14] (fun i wr => ∃ j : Nat, j ≤ n ∧ i = .int .i64 j ∧ LogAt w log B.ML (.slice a1 n cap1) g1 j wr) (fun i _ => n - (intOf i).toNat)
 case atStart => exact ⟨0, Nat.zero_le _, rfl, ⟨B.ML, by rw [HMN.out, HN.out], HLL.out, HO1.out, fun _ _ => rfl⟩, HC1.out⟩
 case round =>
  obtain ⟨j, hj, rfl, ⟨L, l1, l2, l3, l4⟩, c2⟩ := hrel
  by_cases hjn : j < n
  ·have hjI : (j : Int) < n := by omega
   have hj0 : (0 : Int) ≤ j := by omega
   obtain ⟨x, hx⟩ : ∃ x, L[j]? = some x := ⟨_, List.getElem?_eq_getElem (by rw [l1, ← HN.out]; exact hjn)⟩
   have hxM : x ∈ B.ML := List.mem_of_getElem? (by rw [← l4 j (Nat.le_refl _)]; exact hx)
   obtain ⟨k, hk⟩ := l3.pos (by rw [List.length_map, l1, ← HN.out]; omega)
   rw [hk] at l3
   obtain ⟨cap', hv, hv1, hv2⟩ := l3.some_form
   rw [List.length_map, l1, ← HN.out] at hv hv1
   have hva : a1 = some ⟨k, 0, none⟩ := by injection hv
   have hvc : cap1 = cap' := by injection hv
   have hjc : j < cap1 := by rw [hvc]; omega
   subst hva
   have f0 : wr.cell? ⟨k, j * 3 + 2, none⟩ = some (.slice x.a x.els.length x.cap) := l3.cell rfl (lg_get hx) (j := 2) rfl
   have hxo := HLO.out x hxM
   obtain ⟨xa, xcap, hxv, hxc1, hxc2, hxn, hxa⟩ := hxo.o.form
   have e1 : x.a = xa := by injection hxv
   have e2 : x.cap = xcap := by injection hxv
   have hxr := hxo.o.reads
   rw [← hxa, ← e1] at hxr
   have HCX := Lib.hid (fun W' (hW : Chg (fun _ => False) wr W') => clone46 x.a x.els.length x.cap x.els W' rfl (fun h => by rw [e1] at h; have := hxn h; exact ⟨by omega, by omega⟩) hxo.o.each ((hxr.chg c2 (fun _ _ h => h)).chg hW (fun _ _ h => h)) hxo.one (by have := hxo.n; omega) (by have := hxo.n; unfold maxLen; omega))
   have HL3 := Lib.hid l3
   have HX := Lib.hid hx
   have HL := Lib.hid (And.intro l1 (And.intro l2 l4))
   have HC2 := Lib.hid c2
   have HGK := Lib.hid hk
   obtain ⟨xn, hxn'⟩ : ∃ z, z = x.els.length := ⟨_, rfl⟩
   rw [← hxn'] at f0 HCX
   have HXN := Lib.hid hxn'
   clear l1 l2 l3 l4 c2 hx hxM hk hv hv1 hv2 hvc hxo hxv hxc1 hxc2 hxn hxa e1 e2 hxr hxn'
   go_wp2_with fail
   refine (HCX.out _ (by repeat (first | exact Chg.refl _ _ | exact (by assumption) | apply Chg.drewN | apply Chg.drew | apply Chg.alloc))).mono ?_
   rintro e w2 ⟨a2, cap2, g2, rfl, o2, c3, hg2⟩
   have L3 := HL3.out.chg c3 (fun _ _ h => h)
   have z0 := L3.frozen rfl (j * 3 + 2)
   have f1 := c3.keep f0 (fun h => h)
   have HL4 := Lib.hid L3
   have HC3 := Lib.hid c3
   rw [← HXN.out]
   clear f0 o2 c3 hg2 L3
   go_wp2_with fail
   refine ⟨⟨j + 1, by omega, by simp, ⟨L.set j { x with a := a2, cap := cap2 }, by rw [List.length_set]; exact HL.out.1, ?_, ?_, fun i hi => ?_⟩, ?_⟩, by simp [intOf]; omega⟩
   ·rw [List.map_set]
    have hm : (L.map fun x : LG => (x.th, x.off))[j]? = some (x.th, x.off) := by rw [List.getElem?_map, HX.out]; rfl
    obtain ⟨hlt, he⟩ := List.getElem?_eq_some_iff.1 hm
    have : (L.map fun x : LG => (x.th, x.off)).set j (x.th, x.off) = L.map fun x : LG => (x.th, x.off) := by rw [← he]; exact List.set_getElem_self hlt
    exact this.trans HL.out.2.1
   ·have := HL4.out.set1 (lg_get HX.out) (j := 2) (by omega) (.slice a2 xn cap2)
    rw [HGK.out, List.map_set]
    rw [HXN.out] at this ⊢
    exact this
   ·rw [List.getElem?_set_ne (by omega)]
    exact HL.out.2.2 i (by omega)
   ·exact (HC2.out.trans HC3.out).setCell (fun hlt => by have h1 := HG1.out k HGK.out; have h2 : k < w.heap.size := hlt; omega) _
  ·have hje : j = n := by omega
   subst hje
   have HC2 := Lib.hid c2
   have HL := Lib.hid (And.intro l2 l3)
   clear c2 l1 l2 l3 l4
   go_wp2_with fail
   go_ret
   refine ⟨⟨a1, cap1, g1, L, by rw [← HN.out]; rfl, HL.out.1, by rw [← HN.out]; exact HL.out.2, HG1.out⟩, HC2.out⟩
end Go.Proofs.YtamhicdhbjniiaaGreatDoor
end
