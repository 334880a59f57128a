/- ghost.Step: contract. -/
import Derived.Test.YtamhicdhbjniiaaGreatDoorM50
import Derived.Laws.EntriesVeiled
import Derived.BigRegion
set_option linter.unusedVariables false
set_option maxHeartbeats 1600000
set_option maxRecDepth 100000
namespace Go.Proofs.YtamhicdhbjniiaaGreatDoor
section
open Go Go.RowKit Go.Chron
def stepc (p3 p4 p5 : Nat) : Array Value := #[.func (.func 71) #[] #[.pointer (some ⟨p4, 0, none⟩), .pointer (some ⟨p5, 0, none⟩)], .int .i64 3, .func (.func 72) #[] #[.pointer (some ⟨p3, 0, none⟩), .pointer (some ⟨p4, 0, none⟩), .pointer (some ⟨p5, 0, none⟩)], .int .i64 9, .func (.func 74) #[] #[.pointer (some ⟨p3, 0, none⟩), .pointer (some ⟨p4, 0, none⟩), .pointer (some ⟨p5, 0, none⟩)], .int .i64 11]
theorem World.heap_size_alloc' (w : World) (o : Obj) : (w.alloc o).heap.size = w.heap.size + 1 := by simp
theorem step38 (b : Nat) (g : Gh) (dt dh : Int) (w : World) (hb : Blk w b 174 (ghc g)) (o : g.Ok) (s : StepOk g dt dh) :
  Calls Tryz.prog 38 #[.pointer (some ⟨b, 0, none⟩), .int .i64 dt, .int .i64 dh] w fun e w' => e = .returned (.int .i64 0) ∧ Blk w' b 174 (ghc (g.step dt dh)) ∧ Chg (fun i => i = b) w w' := by
 have HB := Lib.hid hb
 have HO := Lib.hid o
 have HS := Lib.hid s
 have hlt := hb.lt
 clear hb o s
 go_enter Tryz.func38, Tryz.ntmps38
 go_upto_region 4 with (fail)
 have c1 := chg0_alloc w (Obj.cells #[Value.pointer (some { block := b, off := 0 })] 105)
 have X1 := Blk.new w 105 #[Value.pointer (some { block := b, off := 0 })]
 have c2 := c1.alloc (Obj.cells #[Value.int IntKind.i64 dt] 2)
 have X2 := Blk.new (w.alloc (Obj.cells #[Value.pointer (some { block := b, off := 0 })] 105)) 2 #[Value.int .i64 dt]
 have c3 := c2.alloc (Obj.cells #[Value.int IntKind.i64 dh] 2)
 have X3 := Blk.new ((w.alloc (Obj.cells #[Value.pointer (some { block := b, off := 0 })] 105)).alloc (Obj.cells #[Value.int IntKind.i64 dt] 2)) 2 #[Value.int .i64 dh]
 have Y1 := ((X1.alloc (Obj.cells #[Value.int IntKind.i64 dt] 2)).alloc (Obj.cells #[Value.int IntKind.i64 dh] 2)).alloc (Obj.cells (stepc w.heap.size (w.heap.size + 1) (w.heap.size + 1 + 1)) 176)
 have Y2 := (X2.alloc (Obj.cells #[Value.int IntKind.i64 dh] 2)).alloc (Obj.cells (stepc w.heap.size (w.heap.size + 1) (w.heap.size + 1 + 1)) 176)
 have Y3 := X3.alloc (Obj.cells (stepc w.heap.size (w.heap.size + 1) (w.heap.size + 1 + 1)) 176)
 have c4 := c3.alloc (Obj.cells (stepc w.heap.size (w.heap.size + 1) (w.heap.size + 1 + 1)) 176)
 have X4 := Blk.new (((w.alloc (Obj.cells #[Value.pointer (some { block := b, off := 0 })] 105)).alloc (Obj.cells #[Value.int IntKind.i64 dt] 2)).alloc (Obj.cells #[Value.int IntKind.i64 dh] 2)) 176 (stepc w.heap.size (w.heap.size + 1) (w.heap.size + 1 + 1))
 simp only [World.heap_size_alloc'] at Y1 Y2 Y3 X4
 unfold stepc at *
 generalize (((w.alloc (Obj.cells #[Value.pointer (some { block := b, off := 0 })] 105)).alloc (Obj.cells #[Value.int IntKind.i64 dt] 2)).alloc (Obj.cells #[Value.int IntKind.i64 dh] 2)).alloc (Obj.cells _ 176) = W at *
 have GG := HB.out.chg c4 (fun h => h)
 obtain ⟨p3, hp3⟩ : ∃ p, p = w.heap.size := ⟨_, rfl⟩
 obtain ⟨p4, hp4⟩ : ∃ p, p = p3 + 1 := ⟨_, rfl⟩
 obtain ⟨p5, hp5⟩ : ∃ p, p = p4 + 1 := ⟨_, rfl⟩
 obtain ⟨p6, hp6⟩ : ∃ p, p = p5 + 1 := ⟨_, rfl⟩
 rw [← hp3, ← hp4, ← hp5, ← hp6]
 rw [← hp3] at Y1
 rw [← hp3, ← hp4] at Y2
 rw [← hp3, ← hp4, ← hp5] at Y3
 rw [← hp3, ← hp4, ← hp5, ← hp6] at X4
 have HP := Lib.hid (And.intro hp3 (And.intro hp4 (And.intro hp5 hp6)))
 clear hp3 hp4 hp5 hp6 c1 c2 c3 X1 X2 X3
 go_wp2_with fail
 go_loopw [19] (fun i wr => ∃ j : Nat, j ≤ 3 ∧ i = .int .i64 j ∧ Blk wr p3 105 #[.pointer (some ⟨b, 0, none⟩)] ∧ Blk wr p4 2 #[.int .i64 dt] ∧ Blk wr p5 2 #[.int .i64 dh] ∧ Blk wr p6 176 #[.func (.func 71) #[] #[.pointer (some ⟨p4, 0, none⟩), .pointer (some ⟨p5, 0, none⟩)], .int .i64 3, .func (.func 72) #[] #[.pointer (some ⟨p3, 0, none⟩), .pointer (some ⟨p4, 0, none⟩), .pointer (some ⟨p5, 0, none⟩)], .int .i64 9, .func (.func 74) #[] #[.pointer (some ⟨p3, 0, none⟩), .pointer (some ⟨p4, 0, none⟩), .pointer (some ⟨p5, 0, none⟩)], .int .i64 11] ∧ Blk wr b 174 (ghc g) ∧ Chg (fun _ => False) w wr) (fun i _ => 3 - (intOf i).toNat)
 case atStart => exact ⟨0, by omega, rfl, Y1, Y2, Y3, X4, GG, c4⟩
 case round =>
  obtain ⟨j, hj, rfl, Z1, Z2, Z3, X, GG, cw⟩ := hrel
  clear Y1 Y2 Y3 X4 c4
  by_cases hj3 : j < 3
  ·obtain rfl | rfl | rfl : j = 0 ∨ j = 1 ∨ j = 2 := by omega
   ·have q0 := X.cell 0
    have q1 := X.cell 1
    simp at q0 q1
    have b1 := Blk.new wr 176 #[Value.nilFunc, Value.int .i64 0]
    have x1 := b1.cell 0
    have y1 := b1.frozen 0
    simp at x1
    go_upto_region 6 with (fail)
    clear x1 y1 b1 q0 q1
    have cz := chg0_alloc wr (Obj.cells #[.func (.func 71) #[] #[.pointer (some ⟨p4, 0, none⟩), .pointer (some ⟨p5, 0, none⟩)], .int .i64 3] 176)
    have B5 := Blk.new wr 176 #[.func (.func 71) #[] #[.pointer (some ⟨p4, 0, none⟩), .pointer (some ⟨p5, 0, none⟩)], .int .i64 3]
    have HF := Lib.hid (step71 p4 p5 dt dh _ (Z2.chg cz (fun h => h)) (Z3.chg cz (fun h => h)) HS.out.ft HS.out.fh)
    have z1 := Z1.chg cz (fun h => h)
    have z2 := Z2.chg cz (fun h => h)
    have z3 := Z3.chg cz (fun h => h)
    have zX := X.chg cz (fun h => h)
    have zG := GG.chg cz (fun h => h)
    have cc := cw.trans cz
    clear Z1 Z2 Z3 X GG cw cz
    generalize wr.alloc (Obj.cells #[.func (.func 71) #[] #[.pointer (some ⟨p4, 0, none⟩), .pointer (some ⟨p5, 0, none⟩)], .int .i64 3] 176) = W5 at *
    generalize hg8 : wr.heap.size = g8 at *
    have b0 := B5.cell 0
    simp at b0
    go_wp2_with fail
    refine HF.out.mono ?_
    rintro e w6 ⟨rfl, c6⟩
    have z1' := z1.chg c6 (fun h => h)
    have z2' := z2.chg c6 (fun h => h)
    have z3' := z3.chg c6 (fun h => h)
    have zX' := zX.chg c6 (fun h => h)
    have zG' := zG.chg c6 (fun h => h)
    have cc' := cc.trans c6
    clear z1 z2 z3 zX zG cc c6 b0 B5 HF
    go_wp2_with fail
    go_roundw
    case rel => exact ⟨1, by omega, by go_num, z1', z2', z3', zX', zG', cc'⟩
    case measure => simp [intOf]
   ·have q0 := X.cell 2
    have q1 := X.cell 3
    simp at q0 q1
    have b1 := Blk.new wr 176 #[Value.nilFunc, Value.int .i64 0]
    have x1 := b1.cell 0
    have y1 := b1.frozen 0
    simp at x1
    go_upto_region 6 with (fail)
    clear x1 y1 b1 q0 q1
    have cz := chg0_alloc wr (Obj.cells #[.func (.func 72) #[] #[.pointer (some ⟨p3, 0, none⟩), .pointer (some ⟨p4, 0, none⟩), .pointer (some ⟨p5, 0, none⟩)], .int .i64 9] 176)
    have B5 := Blk.new wr 176 #[.func (.func 72) #[] #[.pointer (some ⟨p3, 0, none⟩), .pointer (some ⟨p4, 0, none⟩), .pointer (some ⟨p5, 0, none⟩)], .int .i64 9]
    have HF := Lib.hid (step72 p3 p4 p5 b g dt dh _ (Z1.chg cz (fun h => h)) (Z2.chg cz (fun h => h)) (Z3.chg cz (fun h => h)) (GG.chg cz (fun h => h)) HO.out HS.out)
    have z1 := Z1.chg cz (fun h => h)
    have z2 := Z2.chg cz (fun h => h)
    have z3 := Z3.chg cz (fun h => h)
    have zX := X.chg cz (fun h => h)
    have zG := GG.chg cz (fun h => h)
    have cc := cw.trans cz
    clear Z1 Z2 Z3 X GG cw cz
    generalize wr.alloc (Obj.cells #[.func (.func 72) #[] #[.pointer (some ⟨p3, 0, none⟩), .pointer (some ⟨p4, 0, none⟩), .pointer (some ⟨p5, 0, none⟩)], .int .i64 9] 176) = W5 at *
    generalize hg8 : wr.heap.size = g8 at *
    have b0 := B5.cell 0
    simp at b0
    go_wp2_with fail
    refine HF.out.mono ?_
    rintro e w6 ⟨rfl, c6⟩
    have z1' := z1.chg c6 (fun h => h)
    have z2' := z2.chg c6 (fun h => h)
    have z3' := z3.chg c6 (fun h => h)
    have zX' := zX.chg c6 (fun h => h)
    have zG' := zG.chg c6 (fun h => h)
    have cc' := cc.trans c6
    clear z1 z2 z3 zX zG cc c6 b0 B5 HF
    go_wp2_with fail
    go_roundw
    case rel => exact ⟨2, by omega, by go_num, z1', z2', z3', zX', zG', cc'⟩
    case measure => simp [intOf]
   ·have q0 := X.cell 4
    have q1 := X.cell 5
    simp at q0 q1
    have b1 := Blk.new wr 176 #[Value.nilFunc, Value.int .i64 0]
    have x1 := b1.cell 0
    have y1 := b1.frozen 0
    simp at x1
    go_upto_region 6 with (fail)
    clear x1 y1 b1 q0 q1
    have cz := chg0_alloc wr (Obj.cells #[.func (.func 74) #[] #[.pointer (some ⟨p3, 0, none⟩), .pointer (some ⟨p4, 0, none⟩), .pointer (some ⟨p5, 0, none⟩)], .int .i64 11] 176)
    have B5 := Blk.new wr 176 #[.func (.func 74) #[] #[.pointer (some ⟨p3, 0, none⟩), .pointer (some ⟨p4, 0, none⟩), .pointer (some ⟨p5, 0, none⟩)], .int .i64 11]
    have HF := Lib.hid (step74 p3 p4 p5 b g dt dh _ (Z1.chg cz (fun h => h)) (Z2.chg cz (fun h => h)) (Z3.chg cz (fun h => h)) (GG.chg cz (fun h => h)) HO.out HS.out)
    have z1 := Z1.chg cz (fun h => h)
    have z2 := Z2.chg cz (fun h => h)
    have z3 := Z3.chg cz (fun h => h)
    have zX := X.chg cz (fun h => h)
    have zG := GG.chg cz (fun h => h)
    have cc := cw.trans cz
    clear Z1 Z2 Z3 X GG cw cz
    generalize wr.alloc (Obj.cells #[.func (.func 74) #[] #[.pointer (some ⟨p3, 0, none⟩), .pointer (some ⟨p4, 0, none⟩), .pointer (some ⟨p5, 0, none⟩)], .int .i64 11] 176) = W5 at *
    generalize hg8 : wr.heap.size = g8 at *
    have b0 := B5.cell 0
    simp at b0
    go_wp2_with fail
    refine HF.out.mono ?_
    rintro e w6 ⟨rfl, c6⟩
    have z1' := z1.chg c6 (fun h => h)
    have z2' := z2.chg c6 (fun h => h)
    have z3' := z3.chg c6 (fun h => h)
    have zX' := zX.chg c6 (fun h => h)
    have zG' := zG.chg c6 (fun h => h)
    have cc' := cc.trans c6
    clear z1 z2 z3 zX zG cc c6 b0 B5 HF
    go_wp2_with fail
    go_roundw
    case rel => exact ⟨3, by omega, by go_num, z1', z2', z3', zX', zG', cc'⟩
    case measure => simp [intOf]
  ·obtain rfl : j = 3 := by omega
   have a0 := Z2.cell 0
   have b0 := Z3.cell 0
   have d0 := Z1.cell 0
   have g0 := GG.cell 0
   have g1 := GG.cell 1
   have g5 := GG.cell 5
   have f0 := GG.frozen 0
   have f1 := GG.frozen 1
   have f5 := GG.frozen 5
   simp [ghc] at a0 b0 d0 g0 g1 g5
   have o1 := HO.out.t
   have o2 := HO.out.h
   have o3 := HO.out.steps
   have s1 := HS.out.ft
   have s2 := HS.out.fh
   have s3 := HS.out.t
   have s4 := HS.out.h
   have s5 := HS.out.n
   have HGG := Lib.hid GG
   have n1 : ¬ b = p3 := by have := HP.out.1; omega
   have n2 : ¬ b = p4 := by have := HP.out; omega
   have n3 : ¬ b = p5 := by have := HP.out; omega
   have n4 : ¬ p3 = b := fun h => n1 h.symm
   have n5 : ¬ p4 = b := fun h => n2 h.symm
   have n6 : ¬ p5 = b := fun h => n3 h.symm
   have HZ1 := Lib.hid Z1
   clear Z1 Z2 Z3 X GG
   obtain ⟨t, h, t0, h0, rate, steps⟩ := g
   simp only at g0 g1 g5 o1 o2 o3 s3 s4 s5
   clear HO HS
   go_wp2_with fail
   go_region
   have e1 : Chg (fun i => i = b) wr ((wr.setCell ⟨b, 0, none⟩ (.int .i64 (t + dt))).setCell ⟨b, 1, none⟩ (.int .i64 (h + dh))).drew := (((Chg.refl (fun i => i = b) wr).setCell (p := ⟨b, 0, none⟩) (fun _ => rfl) _).setCell (p := ⟨b, 1, none⟩) (fun _ => rfl) _).drew
   have N := ((HGG.out.set_ 0 (.int .i64 (t + dt))).set_ 1 (.int .i64 (h + dh))).drew
   simp [ghc] at N
   have M := HZ1.out.chg e1 (fun h => n4 h)
   have c9 := (cw.mono (S' := fun i => i = b) (fun _ _ h => h.elim)).trans e1
   clear a0 b0 d0 g0 g1 g5 f0 f1 f5 e1 HGG HZ1 cw
   generalize ((wr.setCell ⟨b, 0, none⟩ (.int .i64 (t + dt))).setCell ⟨b, 1, none⟩ (.int .i64 (h + dh))).drew = W9 at *
   have d0 := M.cell 0
   have g5 := N.cell 5
   have f5 := N.frozen 5
   simp at d0 g5
   have N2 := N.set_ 5 (.int .i64 (steps + 1))
   simp at N2
   have HN2 := Lib.hid N2
   clear M N N2
   go_wp2_with fail
   go_ret
   exact ⟨rfl, HN2.out, c9.setCell (p := ⟨b, 5, none⟩) (fun _ => rfl) _⟩
end
end Go.Proofs.YtamhicdhbjniiaaGreatDoor
