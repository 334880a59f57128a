/- sane.Look: contract. -/
import Derived.Test.YtamhicdhbjniiaaGreatDoorM14
import Derived.Laws.EntriesVeiled
set_option linter.unusedVariables false
set_option maxHeartbeats 3200000
set_option maxRecDepth 100000
namespace Go.Proofs.YtamhicdhbjniiaaGreatDoor
section
open Go Go.RowKit Go.Chron
theorem call_bad (j : Nat) (hj : j < 7) (args : Array Value) (W : World) : (callFunc (96 + j) args).run Tryz.prog W = .ok (.enter (96 + j) args) W := by
 obtain rfl | rfl | rfl | rfl | rfl | rfl | rfl : j = 0 ∨ j = 1 ∨ j = 2 ∨ j = 3 ∨ j = 4 ∨ j = 5 ∨ j = 6 := by omega
 all_goals kernel_rfl
theorem look24 (a : Addr) (n cap : Nat) (L : List Int) (c : Int) (hn : n = L.length) (hc : n ≤ cap) (hcm : cap ≤ 9223372036854775807) (h48 : 48 ≤ n) (hL : ∀ x ∈ L, 0 ≤ x ∧ x < 256) (w : World) (hR : Reads w 1 (some a) (L.map u8c)) :
  Calls Tryz.prog 24 #[.slice (some a) n cap, .int .u64 c] w fun e w' => e = .returned (.tuple #[pktv (lookOf L c).1, .int .i64 (lookOf L c).2]) ∧ Chg (fun _ => False) w w' := by
 have hlk : ∀ y, y = saneOf (pktOf L) c → lookOf L c = (if y = 0 ∨ y = 8 then pktOf L else pkt0, y) := by
  rintro y rfl
  unfold lookOf
  rw [if_neg (by omega)]
 have c0 := chg0_alloc w (Obj.cells #[Value.int .u8 0, Value.int .u8 0, Value.int .u8 0, Value.int .u8 0, Value.int .i8 0, Value.int .i8 0, Value.int .u32 0, Value.int .u32 0, Value.int .u32 0, Value.int .u64 0, Value.int .u64 0, Value.int .u64 0, Value.int .u64 0] 83)
 have HG := Lib.hid (get26 a n cap L hn hc hcm h48 hL (w.alloc (Obj.cells #[Value.int .u8 0, Value.int .u8 0, Value.int .u8 0, Value.int .u8 0, Value.int .i8 0, Value.int .i8 0, Value.int .u32 0, Value.int .u32 0, Value.int .u32 0, Value.int .u64 0, Value.int .u64 0, Value.int .u64 0, Value.int .u64 0] 83)) (hR.chg c0 (fun _ _ h => h)))
 have hS := sane_first (pktOf L) c
 have hN := sane_none (pktOf L) c
 have hB := bad_all (pktOf L) c
 have N0 := Blk.new w 83 #[Value.int .u8 0, Value.int .u8 0, Value.int .u8 0, Value.int .u8 0, Value.int .i8 0, Value.int .i8 0, Value.int .u32 0, Value.int .u32 0, Value.int .u32 0, Value.int .u64 0, Value.int .u64 0, Value.int .u64 0, Value.int .u64 0]
 have HK := Lib.hid (hlk _ rfl)
 clear hlk hR hL hn hc hcm h48
 generalize lookOf L c = lk at *
 generalize badOf (pktOf L) c = B at *
 generalize saneOf (pktOf L) c = y at *
 generalize pktOf L = p at *
 have HS := Lib.hid hS
 have HN := Lib.hid hN
 have HB := Lib.hid hB
 clear hS hN hB
 obtain ⟨a0, a1, a2, a3, a4, a5, a6, a7, a8, a9, a10, a11, a12⟩ := p
 unfold pktv at HG HB
 go_enter Tryz.func24, Tryz.ntmps24
 go_upto_region 1 with (fail)
 generalize w.alloc (Obj.cells #[Value.int .u8 0, Value.int .u8 0, Value.int .u8 0, Value.int .u8 0, Value.int .i8 0, Value.int .i8 0, Value.int .u32 0, Value.int .u32 0, Value.int .u32 0, Value.int .u64 0, Value.int .u64 0, Value.int .u64 0, Value.int .u64 0] 83) = W0 at *
 generalize hgw : w.heap.size = g at *
 go_wp2_with fail
 refine HG.out.mono ?_
 rintro e w1 ⟨rfl, c1⟩
 have N1 := (N0.chg c1 (fun h => h)).alloc (Obj.cells #[Value.int .u8 a0, Value.int .u8 a1, Value.int .u8 a2, Value.int .u8 a3, Value.int .i8 a4, Value.int .i8 a5, Value.int .u32 a6, Value.int .u32 a7, Value.int .u32 a8, Value.int .u64 a9, Value.int .u64 a10, Value.int .u64 a11, Value.int .u64 a12] 83)
 have P1 := Blk.new w1 83 #[Value.int .u8 a0, Value.int .u8 a1, Value.int .u8 a2, Value.int .u8 a3, Value.int .i8 a4, Value.int .i8 a5, Value.int .u32 a6, Value.int .u32 a7, Value.int .u32 a8, Value.int .u64 a9, Value.int .u64 a10, Value.int .u64 a11, Value.int .u64 a12]
 have c2 := (c0.trans c1).alloc (Obj.cells #[Value.int .u8 a0, Value.int .u8 a1, Value.int .u8 a2, Value.int .u8 a3, Value.int .i8 a4, Value.int .i8 a5, Value.int .u32 a6, Value.int .u32 a7, Value.int .u32 a8, Value.int .u64 a9, Value.int .u64 a10, Value.int .u64 a11, Value.int .u64 a12] 83)
 have lt1 := (N0.chg c1 (fun h => h)).lt
 clear N0 c0 c1
 go_upto_region 2 with (fail)
 generalize w1.alloc (Obj.cells #[Value.int .u8 a0, Value.int .u8 a1, Value.int .u8 a2, Value.int .u8 a3, Value.int .i8 a4, Value.int .i8 a5, Value.int .u32 a6, Value.int .u32 a7, Value.int .u32 a8, Value.int .u64 a9, Value.int .u64 a10, Value.int .u64 a11, Value.int .u64 a12] 83) = W2 at *
 generalize hg1 : w1.heap.size = g1 at *
 go_wp2_with fail
 refine (tests60 _).mono ?_
 rintro e w3 ⟨rfl, T3, c3⟩
 have N3 := N1.chg c3 (fun h => h)
 have P3 := P1.chg c3 (fun h => h)
 have c4 := c2.trans c3
 clear N1 P1 c2 c3
 generalize hgt : W2.heap.size = gt at *
 go_wp2_with fail
 go_loopw [20] (fun i wr => ∃ j : Nat, j ≤ 7 ∧ i = .int .i64 j ∧ (∀ m, m < j → B m = false) ∧ Blk wr g 83 #[Value.int .u8 0, Value.int .u8 0, Value.int .u8 0, Value.int .u8 0, Value.int .i8 0, Value.int .i8 0, Value.int .u32 0, Value.int .u32 0, Value.int .u32 0, Value.int .u64 0, Value.int .u64 0, Value.int .u64 0, Value.int .u64 0] ∧ Blk wr g1 83 #[Value.int .u8 a0, Value.int .u8 a1, Value.int .u8 a2, Value.int .u8 a3, Value.int .i8 a4, Value.int .i8 a5, Value.int .u32 a6, Value.int .u32 a7, Value.int .u32 a8, Value.int .u64 a9, Value.int .u64 a10, Value.int .u64 a11, Value.int .u64 a12] ∧ Blk wr gt 158 testc ∧ Chg (fun _ => False) w wr) (fun i _ => 7 - (intOf i).toNat)
 case atStart => exact ⟨0, by omega, rfl, by simp, N3, P3, T3, c4⟩
 case round =>
  obtain ⟨j, hj, rfl, hf, N4, P4, T4, c5⟩ := hrel
  clear N3 P3 T3 c4
  have HF := Lib.hid hf
  clear hf
  by_cases hj7 : j < 7
  ·have hT := test_cell T4 hj7
   have lt9 := P4.lt
   obtain ⟨t0, t1⟩ := hT
   have hjI : (j : Int) < 7 := by omega
   have b1 := Blk.new wr 158 #[Value.int .i64 (5 + j), Value.nilFunc]
   have x1 := b1.cell 1
   have y1 := b1.frozen 1
   simp at x1
   go_upto_region 7 with (fail)
   clear x1 y1 b1 t0 t1
   have N5 := N4.alloc (Obj.cells #[Value.int .i64 (5 + j), .func (.func (96 + j)) #[] #[]] 158)
   have P5 := P4.alloc (Obj.cells #[Value.int .i64 (5 + j), .func (.func (96 + j)) #[] #[]] 158)
   have T5 := T4.alloc (Obj.cells #[Value.int .i64 (5 + j), .func (.func (96 + j)) #[] #[]] 158)
   have c6 := c5.alloc (Obj.cells #[Value.int .i64 (5 + j), .func (.func (96 + j)) #[] #[]] 158)
   have B5 := Blk.new wr 158 #[Value.int .i64 (5 + j), .func (.func (96 + j)) #[] #[]]
   clear N4 P4 T4 c5
   generalize wr.alloc (Obj.cells #[Value.int .i64 (5 + j), .func (.func (96 + j)) #[] #[]] 158) = W5 at *
   generalize hg9 : wr.heap.size = g9 at *
   have p0 := P5.cell 0
   have p1 := P5.cell 1
   have p2 := P5.cell 2
   have p3 := P5.cell 3
   have p4 := P5.cell 4
   have p5 := P5.cell 5
   have p6 := P5.cell 6
   have p7 := P5.cell 7
   have p8 := P5.cell 8
   have p9 := P5.cell 9
   have p10 := P5.cell 10
   have p11 := P5.cell 11
   have p12 := P5.cell 12
   simp at p0 p1 p2 p3 p4 p5 p6 p7 p8 p9 p10 p11 p12
   have b1 := B5.cell 1
   simp at b1
   have hcall := call_bad j hj7
   have z1 : ¬ g9 = g := by omega
   have z2 : ¬ g = g9 := by omega
   go_wp2_with fail
   refine (HB.out j hj7 _).mono ?_
   rintro e w6 ⟨rfl, c7⟩
   have N6 := N5.chg c7 (fun h => h)
   have P6 := P5.chg c7 (fun h => h)
   have T6 := T5.chg c7 (fun h => h)
   have B6 := B5.chg c7 (fun h => h)
   have c8 := c6.trans c7
   clear N5 P5 T5 B5 c6 c7 b1 hcall p0 p1 p2 p3 p4 p5 p6 p7 p8 p9 p10 p11 p12
   have p0 := P6.cell 0
   have p1 := P6.cell 1
   have p2 := P6.cell 2
   have p3 := P6.cell 3
   have p4 := P6.cell 4
   have p5 := P6.cell 5
   have p6 := P6.cell 6
   have p7 := P6.cell 7
   have p8 := P6.cell 8
   have p9 := P6.cell 9
   have p10 := P6.cell 10
   have p11 := P6.cell 11
   have p12 := P6.cell 12
   simp at p0 p1 p2 p3 p4 p5 p6 p7 p8 p9 p10 p11 p12
   have n0 := N6.cell 0
   have n1 := N6.cell 1
   have n2 := N6.cell 2
   have n3 := N6.cell 3
   have n4 := N6.cell 4
   have n5 := N6.cell 5
   have n6 := N6.cell 6
   have n7 := N6.cell 7
   have n8 := N6.cell 8
   have n9 := N6.cell 9
   have n10 := N6.cell 10
   have n11 := N6.cell 11
   have n12 := N6.cell 12
   simp at n0 n1 n2 n3 n4 n5 n6 n7 n8 n9 n10 n11 n12
   have f0 := N6.frozen 0
   have f1 := N6.frozen 1
   have f2 := N6.frozen 2
   have f3 := N6.frozen 3
   have f4 := N6.frozen 4
   have f5 := N6.frozen 5
   have f6 := N6.frozen 6
   have f7 := N6.frozen 7
   have f8 := N6.frozen 8
   have f9 := N6.frozen 9
   have f10 := N6.frozen 10
   have f11 := N6.frozen 11
   have f12 := N6.frozen 12
   have q0 := P6.frozen 0
   have q1 := P6.frozen 1
   have q2 := P6.frozen 2
   have q3 := P6.frozen 3
   have q4 := P6.frozen 4
   have q5 := P6.frozen 5
   have q6 := P6.frozen 6
   have q7 := P6.frozen 7
   have q8 := P6.frozen 8
   have q9 := P6.frozen 9
   have q10 := P6.frozen 10
   have q11 := P6.frozen 11
   have q12 := P6.frozen 12
   have b0 := B6.cell 0
   simp at b0
   by_cases hB : B j = true
   ·have hy := HS.out j hj7 HF.out hB
    by_cases h8 : j = 3
    ·subst h8
     clear q0 q1 q2 q3 q4 q5 q6 q7 q8 q9 q10 q11 q12
     clear HB HG
     go_wp2_with fail
     go_region
     go_wp2_with fail
     obtain ⟨E, e⟩ := set13 N6 (.int .u8 a0) (.int .u8 a1) (.int .u8 a2) (.int .u8 a3) (.int .i8 a4) (.int .i8 a5) (.int .u32 a6) (.int .u32 a7) (.int .u32 a8) (.int .u64 a9) (.int .u64 a10) (.int .u64 a11) (.int .u64 a12)
     have c9 := (c8.trans' (S := fun _ => False) e (fun i hi e => by have h' : i = g := e; omega)).drew
     have E2 := E.drew
     clear e E N6 P6 T6 B6 c8 n0 n1 n2 n3 n4 n5 n6 n7 n8 n9 n10 n11 n12 f0 f1 f2 f3 f4 f5 f6 f7 f8 f9 f10 f11 f12 p0 p1 p2 p3 p4 p5 p6 p7 p8 p9 p10 p11 p12 b0
     generalize ((((((((((((((w6.setCell ⟨g, 0, none⟩ (Value.int .u8 a0)).setCell ⟨g, 1, none⟩ (Value.int .u8 a1)).setCell ⟨g, 2, none⟩ (Value.int .u8 a2)).setCell ⟨g, 3, none⟩ (Value.int .u8 a3)).setCell ⟨g, 4, none⟩ (Value.int .i8 a4)).setCell ⟨g, 5, none⟩ (Value.int .i8 a5)).setCell ⟨g, 6, none⟩ (Value.int .u32 a6)).setCell ⟨g, 7, none⟩ (Value.int .u32 a7)).setCell ⟨g, 8, none⟩ (Value.int .u32 a8)).setCell ⟨g, 9, none⟩ (Value.int .u64 a9)).setCell ⟨g, 10, none⟩ (Value.int .u64 a10)).setCell ⟨g, 11, none⟩ (Value.int .u64 a11)).setCell ⟨g, 12, none⟩ (Value.int .u64 a12))).drew = W9 at *
     have m0 := E2.cell 0
     have m1 := E2.cell 1
     have m2 := E2.cell 2
     have m3 := E2.cell 3
     have m4 := E2.cell 4
     have m5 := E2.cell 5
     have m6 := E2.cell 6
     have m7 := E2.cell 7
     have m8 := E2.cell 8
     have m9 := E2.cell 9
     have m10 := E2.cell 10
     have m11 := E2.cell 11
     have m12 := E2.cell 12
     simp at m0 m1 m2 m3 m4 m5 m6 m7 m8 m9 m10 m11 m12
     have hk := HK.out
     rw [if_pos (by right; simpa using hy)] at hk
     subst hk
     refine bodyPost_ret (v := .tuple #[.agg #[Value.int .u8 a0, Value.int .u8 a1, Value.int .u8 a2, Value.int .u8 a3, Value.int .i8 a4, Value.int .i8 a5, Value.int .u32 a6, Value.int .u32 a7, Value.int .u32 a8, Value.int .u64 a9, Value.int .u64 a10, Value.int .u64 a11, Value.int .u64 a12], .int .i64 8]) ?_ rfl ⟨by rw [show y = 8 from by simpa using hy]; rfl, c9⟩
     simp [results, Tryz.results24, go_sem, m0, m1, m2, m3, m4, m5, m6, m7, m8, m9, m10, m11, m12]
    ·have h8I : ¬ ((5 : Int) + j = 8) := by omega
     go_wp2_with fail
     obtain ⟨E, e⟩ := set13 P6 (.int .u8 0) (.int .u8 0) (.int .u8 0) (.int .u8 0) (.int .i8 0) (.int .i8 0) (.int .u32 0) (.int .u32 0) (.int .u32 0) (.int .u64 0) (.int .u64 0) (.int .u64 0) (.int .u64 0)
     have N7 := N6.chg e (fun h => by have h' : g = g1 := h; omega)
     have B7 := B6.chg e (fun h => by have h' : g9 = g1 := h; omega)
     have c9 := c8.trans' (S := fun _ => False) e (fun i hi e => by omega)
     clear e N6 P6 T6 B6 c8 n0 n1 n2 n3 n4 n5 n6 n7 n8 n9 n10 n11 n12 f0 f1 f2 f3 f4 f5 f6 f7 f8 f9 f10 f11 f12 p0 p1 p2 p3 p4 p5 p6 p7 p8 p9 p10 p11 p12 q0 q1 q2 q3 q4 q5 q6 q7 q8 q9 q10 q11 q12 b0
     generalize (((((((((((((w6.setCell ⟨g1, 0, none⟩ (Value.int .u8 0)).setCell ⟨g1, 1, none⟩ (Value.int .u8 0)).setCell ⟨g1, 2, none⟩ (Value.int .u8 0)).setCell ⟨g1, 3, none⟩ (Value.int .u8 0)).setCell ⟨g1, 4, none⟩ (Value.int .i8 0)).setCell ⟨g1, 5, none⟩ (Value.int .i8 0)).setCell ⟨g1, 6, none⟩ (Value.int .u32 0)).setCell ⟨g1, 7, none⟩ (Value.int .u32 0)).setCell ⟨g1, 8, none⟩ (Value.int .u32 0)).setCell ⟨g1, 9, none⟩ (Value.int .u64 0)).setCell ⟨g1, 10, none⟩ (Value.int .u64 0)).setCell ⟨g1, 11, none⟩ (Value.int .u64 0)).setCell ⟨g1, 12, none⟩ (Value.int .u64 0)) = W7 at *
     have n0 := N7.cell 0
     have n1 := N7.cell 1
     have n2 := N7.cell 2
     have n3 := N7.cell 3
     have n4 := N7.cell 4
     have n5 := N7.cell 5
     have n6 := N7.cell 6
     have n7 := N7.cell 7
     have n8 := N7.cell 8
     have n9 := N7.cell 9
     have n10 := N7.cell 10
     have n11 := N7.cell 11
     have n12 := N7.cell 12
     simp at n0 n1 n2 n3 n4 n5 n6 n7 n8 n9 n10 n11 n12
     have f0 := N7.frozen 0
     have f1 := N7.frozen 1
     have f2 := N7.frozen 2
     have f3 := N7.frozen 3
     have f4 := N7.frozen 4
     have f5 := N7.frozen 5
     have f6 := N7.frozen 6
     have f7 := N7.frozen 7
     have f8 := N7.frozen 8
     have f9 := N7.frozen 9
     have f10 := N7.frozen 10
     have f11 := N7.frozen 11
     have f12 := N7.frozen 12
     have p0 := E.cell 0
     have p1 := E.cell 1
     have p2 := E.cell 2
     have p3 := E.cell 3
     have p4 := E.cell 4
     have p5 := E.cell 5
     have p6 := E.cell 6
     have p7 := E.cell 7
     have p8 := E.cell 8
     have p9 := E.cell 9
     have p10 := E.cell 10
     have p11 := E.cell 11
     have p12 := E.cell 12
     simp at p0 p1 p2 p3 p4 p5 p6 p7 p8 p9 p10 p11 p12
     have b0 := B7.cell 0
     simp at b0
     clear HB HG
     go_region
     go_wp2_with fail
     obtain ⟨E2, e⟩ := set13 N7 (.int .u8 0) (.int .u8 0) (.int .u8 0) (.int .u8 0) (.int .i8 0) (.int .i8 0) (.int .u32 0) (.int .u32 0) (.int .u32 0) (.int .u64 0) (.int .u64 0) (.int .u64 0) (.int .u64 0)
     have ca := (c9.trans' (S := fun _ => False) e (fun i hi e => by have h' : i = g := e; omega)).drew
     have E3 := E2.drew
     clear e E2 N7 E B7 c9 n0 n1 n2 n3 n4 n5 n6 n7 n8 n9 n10 n11 n12 f0 f1 f2 f3 f4 f5 f6 f7 f8 f9 f10 f11 f12 p0 p1 p2 p3 p4 p5 p6 p7 p8 p9 p10 p11 p12 b0
     generalize ((((((((((((((W7.setCell ⟨g, 0, none⟩ (Value.int .u8 0)).setCell ⟨g, 1, none⟩ (Value.int .u8 0)).setCell ⟨g, 2, none⟩ (Value.int .u8 0)).setCell ⟨g, 3, none⟩ (Value.int .u8 0)).setCell ⟨g, 4, none⟩ (Value.int .i8 0)).setCell ⟨g, 5, none⟩ (Value.int .i8 0)).setCell ⟨g, 6, none⟩ (Value.int .u32 0)).setCell ⟨g, 7, none⟩ (Value.int .u32 0)).setCell ⟨g, 8, none⟩ (Value.int .u32 0)).setCell ⟨g, 9, none⟩ (Value.int .u64 0)).setCell ⟨g, 10, none⟩ (Value.int .u64 0)).setCell ⟨g, 11, none⟩ (Value.int .u64 0)).setCell ⟨g, 12, none⟩ (Value.int .u64 0))).drew = W9 at *
     have m0 := E3.cell 0
     have m1 := E3.cell 1
     have m2 := E3.cell 2
     have m3 := E3.cell 3
     have m4 := E3.cell 4
     have m5 := E3.cell 5
     have m6 := E3.cell 6
     have m7 := E3.cell 7
     have m8 := E3.cell 8
     have m9 := E3.cell 9
     have m10 := E3.cell 10
     have m11 := E3.cell 11
     have m12 := E3.cell 12
     simp at m0 m1 m2 m3 m4 m5 m6 m7 m8 m9 m10 m11 m12
     have hk := HK.out
     rw [if_neg (by omega)] at hk
     subst hk
     refine bodyPost_ret (v := .tuple #[pktv pkt0, .int .i64 y]) ?_ rfl ⟨rfl, ca⟩
     rw [hy]
     simp [results, Tryz.results24, go_sem, pktv, pkt0, m0, m1, m2, m3, m4, m5, m6, m7, m8, m9, m10, m11, m12]
   ·have hBf : B j = false := by simpa using hB
    clear n0 n1 n2 n3 n4 n5 n6 n7 n8 n9 n10 n11 n12 f0 f1 f2 f3 f4 f5 f6 f7 f8 f9 f10 f11 f12 p0 p1 p2 p3 p4 p5 p6 p7 p8 p9 p10 p11 p12 q0 q1 q2 q3 q4 q5 q6 q7 q8 q9 q10 q11 q12 b0
    go_wp2_with fail
    go_roundw
    case rel => exact ⟨j + 1, by omega, by go_num, fun m hm => by (rcases Nat.lt_succ_iff_lt_or_eq.1 hm with h | h; exact HF.out m h; rw [h]; exact hBf), N6, P6, T6, c8⟩
    case measure => simp [intOf]; omega
  ·obtain rfl : j = 7 := by omega
   have hy := HN.out HF.out
   have p0 := P4.cell 0
   have p1 := P4.cell 1
   have p2 := P4.cell 2
   have p3 := P4.cell 3
   have p4 := P4.cell 4
   have p5 := P4.cell 5
   have p6 := P4.cell 6
   have p7 := P4.cell 7
   have p8 := P4.cell 8
   have p9 := P4.cell 9
   have p10 := P4.cell 10
   have p11 := P4.cell 11
   have p12 := P4.cell 12
   simp at p0 p1 p2 p3 p4 p5 p6 p7 p8 p9 p10 p11 p12
   have n0 := N4.cell 0
   have n1 := N4.cell 1
   have n2 := N4.cell 2
   have n3 := N4.cell 3
   have n4 := N4.cell 4
   have n5 := N4.cell 5
   have n6 := N4.cell 6
   have n7 := N4.cell 7
   have n8 := N4.cell 8
   have n9 := N4.cell 9
   have n10 := N4.cell 10
   have n11 := N4.cell 11
   have n12 := N4.cell 12
   simp at n0 n1 n2 n3 n4 n5 n6 n7 n8 n9 n10 n11 n12
   have f0 := N4.frozen 0
   have f1 := N4.frozen 1
   have f2 := N4.frozen 2
   have f3 := N4.frozen 3
   have f4 := N4.frozen 4
   have f5 := N4.frozen 5
   have f6 := N4.frozen 6
   have f7 := N4.frozen 7
   have f8 := N4.frozen 8
   have f9 := N4.frozen 9
   have f10 := N4.frozen 10
   have f11 := N4.frozen 11
   have f12 := N4.frozen 12
   clear HB HG
   go_wp2_with fail
   obtain ⟨E, e⟩ := set13 N4 (.int .u8 a0) (.int .u8 a1) (.int .u8 a2) (.int .u8 a3) (.int .i8 a4) (.int .i8 a5) (.int .u32 a6) (.int .u32 a7) (.int .u32 a8) (.int .u64 a9) (.int .u64 a10) (.int .u64 a11) (.int .u64 a12)
   have c9 := c5.trans' (S := fun _ => False) e (fun i hi e => by have h' : i = g := e; omega)
   clear e N4 P4 T4 c5 n0 n1 n2 n3 n4 n5 n6 n7 n8 n9 n10 n11 n12 f0 f1 f2 f3 f4 f5 f6 f7 f8 f9 f10 f11 f12 p0 p1 p2 p3 p4 p5 p6 p7 p8 p9 p10 p11 p12
   generalize (((((((((((((wr.setCell ⟨g, 0, none⟩ (Value.int .u8 a0)).setCell ⟨g, 1, none⟩ (Value.int .u8 a1)).setCell ⟨g, 2, none⟩ (Value.int .u8 a2)).setCell ⟨g, 3, none⟩ (Value.int .u8 a3)).setCell ⟨g, 4, none⟩ (Value.int .i8 a4)).setCell ⟨g, 5, none⟩ (Value.int .i8 a5)).setCell ⟨g, 6, none⟩ (Value.int .u32 a6)).setCell ⟨g, 7, none⟩ (Value.int .u32 a7)).setCell ⟨g, 8, none⟩ (Value.int .u32 a8)).setCell ⟨g, 9, none⟩ (Value.int .u64 a9)).setCell ⟨g, 10, none⟩ (Value.int .u64 a10)).setCell ⟨g, 11, none⟩ (Value.int .u64 a11)).setCell ⟨g, 12, none⟩ (Value.int .u64 a12)) = W9 at *
   have m0 := E.cell 0
   have m1 := E.cell 1
   have m2 := E.cell 2
   have m3 := E.cell 3
   have m4 := E.cell 4
   have m5 := E.cell 5
   have m6 := E.cell 6
   have m7 := E.cell 7
   have m8 := E.cell 8
   have m9 := E.cell 9
   have m10 := E.cell 10
   have m11 := E.cell 11
   have m12 := E.cell 12
   simp at m0 m1 m2 m3 m4 m5 m6 m7 m8 m9 m10 m11 m12
   have hk := HK.out
   rw [if_pos (by left; exact hy)] at hk
   subst hk
   refine bodyPost_ret (v := .tuple #[.agg #[Value.int .u8 a0, Value.int .u8 a1, Value.int .u8 a2, Value.int .u8 a3, Value.int .i8 a4, Value.int .i8 a5, Value.int .u32 a6, Value.int .u32 a7, Value.int .u32 a8, Value.int .u64 a9, Value.int .u64 a10, Value.int .u64 a11, Value.int .u64 a12], .int .i64 0]) ?_ rfl ⟨by rw [hy]; rfl, c9⟩
   simp [results, Tryz.results24, go_sem, m0, m1, m2, m3, m4, m5, m6, m7, m8, m9, m10, m11, m12]
end
end Go.Proofs.YtamhicdhbjniiaaGreatDoor
