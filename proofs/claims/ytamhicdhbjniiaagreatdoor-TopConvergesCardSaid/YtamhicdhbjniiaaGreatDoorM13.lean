/- sample.Better: one region that draws its order, of two calls, two new variables and two stores: twelve ways. Package slew: contracts. -/
import Derived.Test.YtamhicdhbjniiaaGreatDoorM12
import Derived.Deep.RegionHeld3
import Derived.Test.YtamhicdhbjniiaaGreatDoorM07
import Derived.BigRegion
set_option linter.unusedVariables false
set_option maxHeartbeats 1600000
set_option maxRecDepth 100000
namespace Go.Proofs.YtamhicdhbjniiaaGreatDoor
section
open Go.RowKit Go.Chron
theorem keepSam {W0 w' : World} {b0 b1 : Nat} {o d t s o' d' t' s' : Int} (h : W0.cell? ⟨b0, 0, none⟩ = some (.int .i64 o) ∧ W0.cell? ⟨b0, 1, none⟩ = some (.int .i64 d) ∧ W0.cell? ⟨b0, 2, none⟩ = some (.int .i64 t) ∧ W0.cell? ⟨b0, 3, none⟩ = some (.int .i64 s) ∧ W0.cell? ⟨b1, 0, none⟩ = some (.int .i64 o') ∧ W0.cell? ⟨b1, 1, none⟩ = some (.int .i64 d') ∧ W0.cell? ⟨b1, 2, none⟩ = some (.int .i64 t') ∧ W0.cell? ⟨b1, 3, none⟩ = some (.int .i64 s')) (k : Chg (fun _ => False) W0 w') : (w'.cell? ⟨b0, 0, none⟩ = some (.int .i64 o) ∧ w'.cell? ⟨b0, 1, none⟩ = some (.int .i64 d) ∧ w'.cell? ⟨b0, 2, none⟩ = some (.int .i64 t) ∧ w'.cell? ⟨b0, 3, none⟩ = some (.int .i64 s) ∧ w'.cell? ⟨b1, 0, none⟩ = some (.int .i64 o') ∧ w'.cell? ⟨b1, 1, none⟩ = some (.int .i64 d') ∧ w'.cell? ⟨b1, 2, none⟩ = some (.int .i64 t') ∧ w'.cell? ⟨b1, 3, none⟩ = some (.int .i64 s')) ∧ Chg (fun _ => False) W0 w' := by
 obtain ⟨h0, h1, h2, h3, h4, h5, h6, h7⟩ := h
 exact ⟨⟨k.keep h0 id, k.keep h1 id, k.keep h2 id, k.keep h3 id, k.keep h4 id, k.keep h5 id, k.keep h6 id, k.keep h7 id⟩, k⟩
theorem better212 (o d t s o' d' t' s' : Int) (w : World) : Calls Tryz.prog 212 #[.agg #[.int .i64 o, .int .i64 d, .int .i64 t, .int .i64 s], .agg #[.int .i64 o', .int .i64 d', .int .i64 t', .int .i64 s']] w fun e w' =>
  e = .returned (.bool (btOf ⟨o, d, t, s⟩ ⟨o', d', t', s'⟩)) ∧ Chg (fun _ => False) w w' := by
 obtain ⟨r, hr⟩ : ∃ r, r = btOf ⟨o, d, t, s⟩ ⟨o', d', t', s'⟩ := ⟨_, rfl⟩
 have HR := Lib.hid hr
 rw [← hr]
 clear hr
 go_enter Tryz.func212, Tryz.ntmps212
 go_upto_region 1 with (fail)
 have hrd : ∀ (h : d ≠ d'), r = decide (d < d') := fun h => by
  rw [HR.out]; show (decide (d < d') || (decide (d = d') && decide (t' < t))) = _; rw [decide_eq_false h]; simp
 have hrt : ∀ (h : d = d'), r = decide (t' < t) := fun h => by
  rw [HR.out]; show (decide (d < d') || (decide (d = d') && decide (t' < t))) = _; rw [decide_eq_true h, decide_eq_false (by omega)]; rfl
 have HRD := Lib.hid hrd
 have HRT := Lib.hid hrt
 clear hrd hrt
 have B0 := (Blk.new w 223 #[Value.int IntKind.i64 o, Value.int IntKind.i64 d, Value.int IntKind.i64 t, Value.int IntKind.i64 s]).alloc (Obj.cells #[Value.int IntKind.i64 o', Value.int IntKind.i64 d', Value.int IntKind.i64 t', Value.int IntKind.i64 s'] 223)
 have B1 := Blk.new (w.alloc (Obj.cells #[Value.int IntKind.i64 o, Value.int IntKind.i64 d, Value.int IntKind.i64 t, Value.int IntKind.i64 s] 223)) 223 #[Value.int IntKind.i64 o', Value.int IntKind.i64 d', Value.int IntKind.i64 t', Value.int IntKind.i64 s']
 have C0 : Chg (fun _ => False) w _ := ((Chg.refl (fun _ => False) w).alloc (Obj.cells #[Value.int IntKind.i64 o, Value.int IntKind.i64 d, Value.int IntKind.i64 t, Value.int IntKind.i64 s] 223)).alloc (Obj.cells #[Value.int IntKind.i64 o', Value.int IntKind.i64 d', Value.int IntKind.i64 t', Value.int IntKind.i64 s'] 223)
 rw [World.size_alloc] at B1
 generalize (w.alloc (Obj.cells #[Value.int IntKind.i64 o, Value.int IntKind.i64 d, Value.int IntKind.i64 t, Value.int IntKind.i64 s] 223)).alloc (Obj.cells #[Value.int IntKind.i64 o', Value.int IntKind.i64 d', Value.int IntKind.i64 t', Value.int IntKind.i64 s'] 223) = W0 at *
 generalize w.heap.size = b0 at *
 generalize b0 + 1 = b1 at *
 have H : W0.cell? ⟨b0, 0, none⟩ = some (.int .i64 o) ∧ W0.cell? ⟨b0, 1, none⟩ = some (.int .i64 d) ∧ W0.cell? ⟨b0, 2, none⟩ = some (.int .i64 t) ∧ W0.cell? ⟨b0, 3, none⟩ = some (.int .i64 s) ∧ W0.cell? ⟨b1, 0, none⟩ = some (.int .i64 o') ∧ W0.cell? ⟨b1, 1, none⟩ = some (.int .i64 d') ∧ W0.cell? ⟨b1, 2, none⟩ = some (.int .i64 t') ∧ W0.cell? ⟨b1, 3, none⟩ = some (.int .i64 s') := ⟨B0.cell 0, B0.cell 1, B0.cell 2, B0.cell 3, B1.cell 0, B1.cell 1, B1.cell 2, B1.cell 3⟩
 have HH := Lib.hid H
 have HC := Lib.hid C0
 clear B0 B1 H C0
 by_cases hd : d = d'
 ·go_region_held3 (fun w' => (w'.cell? ⟨b0, 0, none⟩ = some (.int .i64 o) ∧ w'.cell? ⟨b0, 1, none⟩ = some (.int .i64 d) ∧ w'.cell? ⟨b0, 2, none⟩ = some (.int .i64 t) ∧ w'.cell? ⟨b0, 3, none⟩ = some (.int .i64 s) ∧ w'.cell? ⟨b1, 0, none⟩ = some (.int .i64 o') ∧ w'.cell? ⟨b1, 1, none⟩ = some (.int .i64 d') ∧ w'.cell? ⟨b1, 2, none⟩ = some (.int .i64 t') ∧ w'.cell? ⟨b1, 3, none⟩ = some (.int .i64 s')) ∧ Chg (fun _ => False) W0 w') (refine keepSam HH.out ?_ <;> (repeat (first | (with_reducible exact Chg.refl _ _) | (with_reducible apply Chg.drewN) | (with_reducible apply Chg.drew) | (with_reducible apply Chg.alloc) | (with_reducible refine Chg.setCell ?_ (fun h => by simp at h; omega) _)))) (first | (go_at_call 232; refine (hold232x _ _ _ _ _).mono ?_; rintro e w' ⟨rfl, rfl⟩))
  all_goals (
   go_wp2_with fail
   refine (after233 t t' _).mono ?_
   rintro e w2 ⟨rfl, c2⟩
   go_wp2_with fail
   go_ret
   exact ⟨by rw [HRT.out hd]; rfl, HC.out.trans (Chg.trans (by repeat (first | (with_reducible exact Chg.refl _ _) | (with_reducible apply Chg.drewN) | (with_reducible apply Chg.drew) | (with_reducible apply Chg.alloc) | (with_reducible refine Chg.setCell ?_ (fun h => by simp at h; omega) _))) c2)⟩)
 ·have hdd : (d == d') = false := by simpa using hd
  go_region_held3 (fun w' => (w'.cell? ⟨b0, 0, none⟩ = some (.int .i64 o) ∧ w'.cell? ⟨b0, 1, none⟩ = some (.int .i64 d) ∧ w'.cell? ⟨b0, 2, none⟩ = some (.int .i64 t) ∧ w'.cell? ⟨b0, 3, none⟩ = some (.int .i64 s) ∧ w'.cell? ⟨b1, 0, none⟩ = some (.int .i64 o') ∧ w'.cell? ⟨b1, 1, none⟩ = some (.int .i64 d') ∧ w'.cell? ⟨b1, 2, none⟩ = some (.int .i64 t') ∧ w'.cell? ⟨b1, 3, none⟩ = some (.int .i64 s')) ∧ Chg (fun _ => False) W0 w') (refine keepSam HH.out ?_ <;> (repeat (first | (with_reducible exact Chg.refl _ _) | (with_reducible apply Chg.drewN) | (with_reducible apply Chg.drew) | (with_reducible apply Chg.alloc) | (with_reducible refine Chg.setCell ?_ (fun h => by simp at h; omega) _)))) (first | (go_at_call 232; refine (hold232x _ _ _ _ _).mono ?_; rintro e w' ⟨rfl, rfl⟩))
  all_goals (
   go_wp2_with fail
   go_ret
   exact ⟨by rw [HRD.out hd]; rfl, HC.out.trans (by repeat (first | (with_reducible exact Chg.refl _ _) | (with_reducible apply Chg.drewN) | (with_reducible apply Chg.drew) | (with_reducible apply Chg.alloc) | (with_reducible refine Chg.setCell ?_ (fun h => by simp at h; omega) _)))⟩)
end
end Go.Proofs.YtamhicdhbjniiaaGreatDoor
section
namespace Go.Chron
open Go Go.RowKit
structure Clk where
 h : Int
 c : Int
 left : Int
 all : Int
 rate : Int
deriving DecidableEq
def clkc (k : Clk) : Array Value := #[.int .i64 k.h, .int .i64 k.c, .int .i64 k.left, .int .i64 k.all, .int .i64 k.rate]
def clks (k : Clk) : Value := .agg #[.int .i64 k.h, .int .i64 k.c, .int .i64 k.left, .int .i64 k.all]
def Clk.room (k : Clk) (h : Int) : Int := (h - k.h) * k.rate / 1000000
def Clk.slews (k : Clk) (h : Int) : Int := clampI k.left (-k.room h) (k.room h)
def Clk.run (k : Clk) (h : Int) : Clk := ⟨h, wrap64 (k.c + (h - k.h) + k.slews h), k.left - k.slews h, wrap64 (k.all + k.slews h), k.rate⟩
structure Clk.Ok (k : Clk) : Prop where
 h0 : 0 ≤ k.h
 h1 : k.h ≤ 4611686018427387903
 c : In64 k.c
 left : -2305843009213693952 ≤ k.left ∧ k.left ≤ 2305843009213693952
 all : In64 k.all
 rate : 1 ≤ k.rate ∧ k.rate ≤ 500
theorem Clk.room_le {k : Clk} (o : k.Ok) {h : Int} (h0 : k.h ≤ h) (h1 : h ≤ 4611686018427387903) : 0 ≤ k.room h ∧ k.room h ≤ 2305843009213693 := by
 unfold Clk.room
 have e1 : 0 ≤ (h - k.h) * k.rate := Int.mul_nonneg (by omega) (by have := o.rate; omega)
 have e2 : (h - k.h) * k.rate ≤ 4611686018427387903 * 500 := Int.mul_le_mul (by have := o.h0; omega) o.rate.2 (by have := o.rate; omega) (by omega)
 omega
theorem Clk.slews_le {k : Clk} (o : k.Ok) {h : Int} (h0 : k.h ≤ h) (h1 : h ≤ 4611686018427387903) : -2305843009213693 ≤ k.slews h ∧ k.slews h ≤ 2305843009213693 ∧ -2305843009213693952 ≤ k.left - k.slews h ∧ k.left - k.slews h ≤ 2305843009213693952 := by
 have := Clk.room_le o h0 h1
 have := o.left
 unfold Clk.slews clampI
 repeat' split <;> omega
theorem Clk.run_ok {k : Clk} (o : k.Ok) {h : Int} (h0 : k.h ≤ h) (h1 : h ≤ 4611686018427387903) : (k.run h).Ok :=
 ⟨by have := o.h0; simp only [Clk.run]; omega, h1, wrap64_in64 _, (Clk.slews_le o h0 h1).2.2, wrap64_in64 _, o.rate⟩
end Go.Chron
namespace Go.Proofs.YtamhicdhbjniiaaGreatDoor
open Go.RowKit Go.Chron
theorem at138 (b : Nat) (k : Clk) (h : Int) (w : World) (hk : Blk w b 204 (clkc k)) (o : k.Ok) (h0 : k.h ≤ h) (h1 : h ≤ 4611686018427387903) :
  Calls Tryz.prog 138 #[.pointer (some ⟨b, 0, none⟩), .int .i64 h] w fun e w' => e = .returned (.tuple #[clks (k.run h), .int .i64 0]) ∧ Chg (fun _ => False) w w' := by
 obtain ⟨kh, kc, kl, ka, kr⟩ := k
 have hr := Clk.room_le o h0 h1
 have hs := Clk.slews_le o h0 h1
 have oh0 := o.h0
 have orr := o.rate
 have hd0 : In64 (h - kh) := ⟨by simp at oh0 h0; omega, by simp at oh0 h0; omega⟩
 have hM := mulDiv163 (h - kh) kr 1000000 hd0 ⟨by simp at orr; omega, by simp at orr; omega⟩ (by omega)
 have e1 : mulDivI (h - kh) kr 1000000 = Clk.room ⟨kh, kc, kl, ka, kr⟩ h := by
  unfold mulDivI
  show _ = (h - kh) * kr / 1000000
  have hr' : 0 ≤ (h - kh) * kr / 1000000 ∧ (h - kh) * kr / 1000000 ≤ 2305843009213693 := hr
  omega
 rw [e1] at hM
 have oc := o.c
 have ol := o.left
 have oa := o.all
 unfold Clk.run clks
 obtain ⟨R, hR⟩ : ∃ R, R = Clk.room ⟨kh, kc, kl, ka, kr⟩ h := ⟨_, rfl⟩
 have hn : Clk.slews ⟨kh, kc, kl, ka, kr⟩ h = clampI kl (-R) R := by rw [hR]; rfl
 rw [← hR] at hM hr
 have hC := clamp162 kl (-R) R
 rw [← hn] at hC
 obtain ⟨n, hn'⟩ : ∃ n, n = Clk.slews ⟨kh, kc, kl, ka, kr⟩ h := ⟨_, rfl⟩
 rw [← hn'] at hC hs ⊢
 simp only at h0 hs oh0 orr oc ol oa ⊢
 have HM := Lib.hid hM
 have HC := Lib.hid hC
 have HK := Lib.hid hk
 clear hM hC e1 hR hn hn' o
 clear hk
 go_enter Tryz.func138, Tryz.ntmps138
 go_upto_region 1 with (fail)
 have K0 := HK.out.alloc (Obj.cells #[Value.int IntKind.i64 0, Value.int IntKind.i64 0, Value.int IntKind.i64 0, Value.int IntKind.i64 0] 202)
 have N0 := Blk.new w 202 #[Value.int IntKind.i64 0, Value.int IntKind.i64 0, Value.int IntKind.i64 0, Value.int IntKind.i64 0]
 have c0 : Chg (fun _ => False) w (w.alloc (Obj.cells #[Value.int IntKind.i64 0, Value.int IntKind.i64 0, Value.int IntKind.i64 0, Value.int IntKind.i64 0] 202)) := (Chg.refl _ w).alloc _
 generalize w.alloc (Obj.cells #[Value.int IntKind.i64 0, Value.int IntKind.i64 0, Value.int IntKind.i64 0, Value.int IntKind.i64 0] 202) = W0 at *
 have hlt := HK.out.lt
 generalize hg : w.heap.size = g at *
 have k0 := K0.cell 0
 have k1 := K0.cell 1
 have k2 := K0.cell 2
 have k3 := K0.cell 3
 have k4 := K0.cell 4
 simp [clkc] at k0 k1 k2 k3 k4
 go_wp2_with fail
 refine (HM.out _).mono ?_
 rintro e w1 ⟨rfl, c1⟩
 have K1 := K0.chg c1 (fun h => h)
 have N1 := N0.chg c1 (fun h => h)
 have c2 := c0.trans c1
 clear k0 k1 k2 k3 k4
 have k0 := K1.cell 0
 have k1 := K1.cell 1
 have k2 := K1.cell 2
 have k3 := K1.cell 3
 have k4 := K1.cell 4
 simp [clkc] at k0 k1 k2 k3 k4
 go_wp2_with fail
 refine (HC.out _).mono ?_
 rintro e w2 ⟨rfl, rfl⟩
 have n0 := N1.cell 0
 have n1 := N1.cell 1
 have n2 := N1.cell 2
 have n3 := N1.cell 3
 have f0 := N1.frozen 0
 have f1 := N1.frozen 1
 have f2 := N1.frozen 2
 have f3 := N1.frozen 3
 simp at n0 n1 n2 n3
 go_wp2_with fail
 go_region
 go_wp2_with fail
 have e2 : wrap64 (wrap64 (kc + (h - kh)) + n) = wrap64 (kc + (h - kh) + n) := by unfold wrap64; omega
 rw [e2]
 have N2 := ((((N1.set_ 0 (Value.int .i64 h)).set_ 1 (Value.int .i64 (wrap64 (kc + (h - kh) + n)))).set_ 2 (Value.int .i64 (kl - n))).set_ 3 (Value.int .i64 (wrap64 (ka + n)))).drew
 simp at N2
 have m0 := N2.cell 0
 have m1 := N2.cell 1
 have m2 := N2.cell 2
 have m3 := N2.cell 3
 simp at m0 m1 m2 m3
 have hgw : ¬ g < w.heap.size := by omega
 refine bodyPost_ret (v := .tuple #[.agg #[.int .i64 h, .int .i64 (wrap64 (kc + (h - kh) + n)), .int .i64 (kl - n), .int .i64 (wrap64 (ka + n))], .int .i64 0]) (by simp [results, Tryz.results138, go_sem, m0, m1, m2, m3]) rfl ⟨rfl, ?_⟩
 exact ((((c2.setCell (p := ⟨g, 0, none⟩) (fun h => (hgw h).elim) _).setCell (p := ⟨g, 1, none⟩) (fun h => (hgw h).elim) _).setCell (p := ⟨g, 2, none⟩) (fun h => (hgw h).elim) _).setCell (p := ⟨g, 3, none⟩) (fun h => (hgw h).elim) _).drew
theorem time94 (a b c d : Int) (w : World) : Calls Tryz.prog 94 #[.agg #[.int .i64 a, .int .i64 b, .int .i64 c, .int .i64 d]] w fun e w' => e = .returned (.int .i64 b) ∧ Chg (fun _ => False) w w' := by
 go_enter Tryz.func94, Tryz.ntmps94
 go_wp2_with fail
 go_ret
 exact ⟨rfl, by repeat (first | exact Chg.refl _ _ | exact (by assumption) | apply Chg.drewN | apply Chg.drew | apply Chg.alloc)⟩
theorem ask93time (b : Nat) (k : Clk) (h : Int) (w : World) (hk : Blk w b 204 (clkc k)) (o : k.Ok) (h0 : k.h ≤ h) (h1 : h ≤ 4611686018427387903) :
  Calls Tryz.prog 93 #[.pointer (some ⟨b, 0, none⟩), .int .i64 h, .func (.func 94) #[] #[]] w fun e w' => e = .returned (.tuple #[.int .i64 (k.run h).c, .int .i64 0]) ∧ Chg (fun _ => False) w w' := by
 have hA := at138 b k h w hk o h0 h1
 unfold clks at hA
 generalize k.run h = r at *
 obtain ⟨rh, rc, rl, ra, rr⟩ := r
 have HA := Lib.hid hA
 clear hA hk o h0 h1
 go_enter Tryz.func93, Tryz.ntmps93
 go_wp2_with fail
 refine HA.out.mono ?_
 rintro e w1 ⟨rfl, c1⟩
 have c2 := c1.alloc (Obj.cells #[Value.int IntKind.i64 rh, Value.int IntKind.i64 rc, Value.int IntKind.i64 rl, Value.int IntKind.i64 ra] 202)
 have N0 := Blk.new w1 202 #[Value.int IntKind.i64 0, Value.int IntKind.i64 0, Value.int IntKind.i64 0, Value.int IntKind.i64 0]
 go_wp2_with fail
 refine (time94 rh rc rl ra _).mono ?_
 rintro e w2 ⟨rfl, c3⟩
 go_wp2_with fail
 go_ret2
 refine ⟨rfl, ?_⟩
 refine Chg.trans ?_ c3
 repeat (first | exact c1 | exact Chg.refl _ _ | apply Chg.drewN | apply Chg.drew | apply Chg.alloc | refine Chg.setCell ?_ (fun h => by have := c1.size; simp at h; omega) _)
theorem slewed156 (a b c d : Int) (w : World) : Calls Tryz.prog 156 #[.agg #[.int .i64 a, .int .i64 b, .int .i64 c, .int .i64 d]] w fun e w' => e = .returned (.int .i64 d) ∧ Chg (fun _ => False) w w' := by
 go_enter Tryz.func156, Tryz.ntmps156
 go_wp2_with fail
 go_ret
 exact ⟨rfl, by repeat (first | exact Chg.refl _ _ | exact (by assumption) | apply Chg.drewN | apply Chg.drew | apply Chg.alloc)⟩
theorem ask93slewed (b : Nat) (k : Clk) (h : Int) (w : World) (hk : Blk w b 204 (clkc k)) (o : k.Ok) (h0 : k.h ≤ h) (h1 : h ≤ 4611686018427387903) :
  Calls Tryz.prog 93 #[.pointer (some ⟨b, 0, none⟩), .int .i64 h, .func (.func 156) #[] #[]] w fun e w' => e = .returned (.tuple #[.int .i64 (k.run h).all, .int .i64 0]) ∧ Chg (fun _ => False) w w' := by
 have hA := at138 b k h w hk o h0 h1
 unfold clks at hA
 generalize k.run h = r at *
 obtain ⟨rh, rc, rl, ra, rr⟩ := r
 have HA := Lib.hid hA
 clear hA hk o h0 h1
 go_enter Tryz.func93, Tryz.ntmps93
 go_wp2_with fail
 refine HA.out.mono ?_
 rintro e w1 ⟨rfl, c1⟩
 have c2 := c1.alloc (Obj.cells #[Value.int IntKind.i64 rh, Value.int IntKind.i64 rc, Value.int IntKind.i64 rl, Value.int IntKind.i64 ra] 202)
 have N0 := Blk.new w1 202 #[Value.int IntKind.i64 0, Value.int IntKind.i64 0, Value.int IntKind.i64 0, Value.int IntKind.i64 0]
 go_wp2_with fail
 refine (slewed156 rh rc rl ra _).mono ?_
 rintro e w2 ⟨rfl, c3⟩
 go_wp2_with fail
 go_ret2
 refine ⟨rfl, ?_⟩
 refine Chg.trans ?_ c3
 repeat (first | exact c1 | exact Chg.refl _ _ | apply Chg.drewN | apply Chg.drew | apply Chg.alloc | refine Chg.setCell ?_ (fun h => by have := c1.size; simp at h; omega) _)
theorem read58 (b : Nat) (k : Clk) (h : Int) (w : World) (hk : Blk w b 204 (clkc k)) (o : k.Ok) (h0 : k.h ≤ h) (h1 : h ≤ 4611686018427387903) :
  Calls Tryz.prog 58 #[.pointer (some ⟨b, 0, none⟩), .int .i64 h] w fun e w' => e = .returned (.tuple #[.int .i64 (k.run h).c, .int .i64 0]) ∧ Chg (fun _ => False) w w' := by
 have HA := Lib.hid (ask93time b k h w hk o h0 h1)
 generalize k.run h = r at *
 obtain ⟨rh, rc, rl, ra, rr⟩ := r
 clear hk o h0 h1
 go_enter Tryz.func58, Tryz.ntmps58
 go_wp2_with fail
 refine HA.out.mono ?_
 rintro e w1 ⟨rfl, c1⟩
 go_wp2_with fail
 go_ret2
 exact ⟨rfl, c1⟩
theorem slewed132 (b : Nat) (k : Clk) (h : Int) (w : World) (hk : Blk w b 204 (clkc k)) (o : k.Ok) (h0 : k.h ≤ h) (h1 : h ≤ 4611686018427387903) :
  Calls Tryz.prog 132 #[.pointer (some ⟨b, 0, none⟩), .int .i64 h] w fun e w' => e = .returned (.tuple #[.int .i64 (k.run h).all, .int .i64 0]) ∧ Chg (fun _ => False) w w' := by
 have HA := Lib.hid (ask93slewed b k h w hk o h0 h1)
 generalize k.run h = r at *
 obtain ⟨rh, rc, rl, ra, rr⟩ := r
 clear hk o h0 h1
 go_enter Tryz.func132, Tryz.ntmps132
 go_wp2_with fail
 refine HA.out.mono ?_
 rintro e w1 ⟨rfl, c1⟩
 go_wp2_with fail
 go_ret2
 exact ⟨rfl, c1⟩
def adj (k : Clk) (h by_ : Int) : Clk := { k.run h with left := clampI by_ (-2305843009213693952) 2305843009213693952 }
theorem adj_ok {k : Clk} (o : k.Ok) {h : Int} (h0 : k.h ≤ h) (h1 : h ≤ 4611686018427387903) (x : Int) : (adj k h x).Ok := by
 have r := Clk.run_ok o h0 h1
 exact ⟨r.h0, r.h1, r.c, by show _ ≤ clampI _ _ _ ∧ clampI _ _ _ ≤ _; unfold clampI; repeat' split <;> omega, r.all, r.rate⟩
theorem adjust136 (b : Nat) (k : Clk) (h x : Int) (w : World) (hk : Blk w b 204 (clkc k)) (o : k.Ok) (h0 : k.h ≤ h) (h1 : h ≤ 4611686018427387903) :
  Calls Tryz.prog 136 #[.pointer (some ⟨b, 0, none⟩), .int .i64 h, .int .i64 x] w fun e w' => e = .returned (.int .i64 0) ∧ Blk w' b 204 (clkc (adj k h x)) ∧ Chg (fun i => i = b) w w' := by
 have hA := at138 b k h w hk o h0 h1
 have hC := clamp162 x (-2305843009213693952) 2305843009213693952
 unfold adj
 obtain ⟨y, hy⟩ : ∃ y, y = clampI x (-2305843009213693952) 2305843009213693952 := ⟨_, rfl⟩
 rw [← hy] at hC ⊢
 unfold clks at hA
 have hrr : (k.run h).rate = k.rate := rfl
 generalize k.run h = r at *
 obtain ⟨rh, rc, rl, ra, rr⟩ := r
 obtain ⟨kh, kc, kl, ka, kr⟩ := k
 simp only at hrr hA ⊢
 subst hrr
 have HA := Lib.hid hA
 have HC := Lib.hid hC
 have HK := Lib.hid hk
 clear hA hC hk o h0 h1 hy
 go_enter Tryz.func136, Tryz.ntmps136
 go_wp2_with fail
 refine HA.out.mono ?_
 rintro e w1 ⟨rfl, c1⟩
 have K1 := HK.out.chg c1 (fun h => h)
 have hlt := HK.out.lt
 have hsz := c1.size
 go_wp2_with fail
 refine (HC.out _).mono ?_
 rintro e w2 ⟨rfl, rfl⟩
 have K2 := K1.alloc (Obj.cells #[Value.int IntKind.i64 rh, Value.int IntKind.i64 rc, Value.int IntKind.i64 y, Value.int IntKind.i64 ra] 202)
 have c3 : Chg (fun i => i = b) w _ := (c1.alloc (Obj.cells #[Value.int IntKind.i64 rh, Value.int IntKind.i64 rc, Value.int IntKind.i64 y, Value.int IntKind.i64 ra] 202)).mono (fun _ _ h => h.elim)
 have k0 := K2.cell 0
 have k1 := K2.cell 1
 have k2 := K2.cell 2
 have k3 := K2.cell 3
 have f0 := K2.frozen 0
 have f1 := K2.frozen 1
 have f2 := K2.frozen 2
 have f3 := K2.frozen 3
 simp [clkc] at k0 k1 k2 k3
 go_wp2_with fail
 go_ret
 refine ⟨rfl, ?_, (((c3.setCell (p := ⟨b, 0, none⟩) (fun _ => rfl) _).setCell (p := ⟨b, 1, none⟩) (fun _ => rfl) _).setCell (p := ⟨b, 2, none⟩) (fun _ => rfl) _).setCell (p := ⟨b, 3, none⟩) (fun _ => rfl) _⟩
 have K3 := (((K2.set_ 0 (Value.int .i64 rh)).set_ 1 (Value.int .i64 rc)).set_ 2 (Value.int .i64 y)).set_ 3 (Value.int .i64 ra)
 simpa [clkc] using K3
theorem newClock48 (h c ppm : Int) (w : World) (h0 : 0 ≤ h) (h1 : h ≤ 4611686018427387903) (c0 : -2305843009213693952 ≤ c) (c1 : c ≤ 2305843009213693952) (p0 : 1 ≤ ppm) (p1 : ppm ≤ 500) :
  Calls Tryz.prog 48 #[.int .i64 h, .int .i64 c, .int .i64 ppm] w fun e w' => e = .returned (.tuple #[.pointer (some ⟨w.heap.size, 0, none⟩), .int .i64 0]) ∧ Blk w' w.heap.size 204 (clkc ⟨h, c, 0, 0, ppm⟩) ∧ Chg (fun _ => False) w w' := by
 go_enter Tryz.func48, Tryz.ntmps48
 go_wp2_with fail
 go_ret2
 exact ⟨rfl, Blk.new _ _ _, (Chg.refl _ w).alloc _⟩
end Go.Proofs.YtamhicdhbjniiaaGreatDoor
end
