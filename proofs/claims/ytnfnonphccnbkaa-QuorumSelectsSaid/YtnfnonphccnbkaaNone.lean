/- FreshNone: of no store nothing is told: the walk. -/
import Derived.Test.YtnfnonphccnbkaaStoreW
import Derived.Test.YtnfnonphccnbkaaArgs
set_option linter.unusedVariables false
namespace Go.Chron
open Go Go.RowKit
theorem Blk.bel {n j : Nat} {t : TypeId} {cs : Array Value} {w w' : World} (h : Blk w j t cs) (b : Below n w w') (hj : j < n) : Blk w' j t cs := (b.block j hj).trans h
theorem ok_four {cs : Array Value} (h : okAll [.int .i64, .int .i64, .int .i64, .int .i64] cs.toList) : ∃ a b c d, cs = #[.int .i64 a, .int .i64 b, .int .i64 c, .int .i64 d] ∧ In64 a ∧ In64 b ∧ In64 c ∧ In64 d := by
  obtain ⟨v, r, hc, ⟨a, rfl, ha⟩, h1⟩ := okAll_cons h
  obtain ⟨v, r, rfl, ⟨b, rfl, hb⟩, h2⟩ := okAll_cons h1
  obtain ⟨v, r, rfl, ⟨c, rfl, hc'⟩, h3⟩ := okAll_cons h2
  obtain ⟨d, rfl, hd⟩ := ok_one_int h3
  exact ⟨a, b, c, d, by rw [← Array.toArray_toList (xs := cs), hc], wf_in64 ha, wf_in64 hb, wf_in64 hc', wf_in64 hd⟩
theorem ok_three {cs : Array Value} (h : okAll [.int .i64, .int .i64, .int .i64] cs.toList) : ∃ a b c, cs = #[.int .i64 a, .int .i64 b, .int .i64 c] ∧ In64 a ∧ In64 b ∧ In64 c := by
  obtain ⟨v, r, hc, ⟨a, rfl, ha⟩, h1⟩ := okAll_cons h
  obtain ⟨v, r, rfl, ⟨b, rfl, hb⟩, h2⟩ := okAll_cons h1
  obtain ⟨c, rfl, hc'⟩ := ok_one_int h2
  exact ⟨a, b, c, by rw [← Array.toArray_toList (xs := cs), hc], wf_in64 ha, wf_in64 hb, wf_in64 hc'⟩
theorem ok_sam {cs : Array Value} (h : okAll [.int .i64, .int .i64, .int .i64, .int .i64] cs.toList) : ∃ x : Sam, cs = samCells x ∧ x.Ok := by
  obtain ⟨a, b, c, d, rfl, h1, h2, h3, h4⟩ := ok_four h
  exact ⟨⟨a, b, c, d⟩, rfl, ⟨h1, h2, h3, h4⟩⟩
end Go.Chron
namespace Go.Proofs.Ytnfnonphccnbkaa
open Go.RowKit Go.Chron

set_option maxRecDepth 100000 in
set_option maxHeartbeats 3200000 in
theorem freshNone_walk (o d t s n0 n1 n2 : Int) (ho : In64 o) (hd : In64 d) (ht : In64 t) (hs : In64 s) (h0 : In64 n0) (h1 : In64 n1) (h2 : In64 n2) (w : World) :
    Calls Try.prog 7 #[.agg #[.int .i64 o, .int .i64 d, .int .i64 t, .int .i64 s], .agg #[.int .i64 n0, .int .i64 n1, .int .i64 n2]] w fun e w' => e = .returned (.bool true) ∧ Below w.heap.size w w' := by
  have HH0 := Lib.hid h0
  have HH2 := Lib.hid h2
  clear h1 hd ht hs ho h0 h2
  go_enter Try.func7, Try.ntmps7
  go_wp2_with fail
  refine (storeClearNil _).mono ?_
  rintro e w' ⟨rfl, rfl⟩
  go_wp2_with fail
  refine (noneBest n0 n1 n2 HH0.out HH2.out _).mono ?_
  rintro e w1 ⟨rfl, c1⟩
  simp only [bestRes]
  go_wp2_with fail
  have bX := (((Blk.new w 28 #[Value.int IntKind.i64 o, Value.int IntKind.i64 d, Value.int IntKind.i64 t, Value.int IntKind.i64 s]).alloc (Obj.cells #[Value.int IntKind.i64 n0, Value.int IntKind.i64 n1, Value.int IntKind.i64 n2] 23)).chg c1 (fun h => h)).alloc (Obj.cells #[Value.int IntKind.i64 0, Value.int IntKind.i64 0, Value.int IntKind.i64 0, Value.int IntKind.i64 0] 28)
  have bN := ((Blk.new (w.alloc (Obj.cells #[Value.int IntKind.i64 o, Value.int IntKind.i64 d, Value.int IntKind.i64 t, Value.int IntKind.i64 s] 28)) 23 #[Value.int IntKind.i64 n0, Value.int IntKind.i64 n1, Value.int IntKind.i64 n2]).chg c1 (fun h => h)).alloc (Obj.cells #[Value.int IntKind.i64 0, Value.int IntKind.i64 0, Value.int IntKind.i64 0, Value.int IntKind.i64 0] 28)
  have bA := Blk.new w1 28 #[Value.int IntKind.i64 0, Value.int IntKind.i64 0, Value.int IntKind.i64 0, Value.int IntKind.i64 0]
  rw [World.size_alloc] at bN
  have cA : Chg (fun _ => False) w (w1.alloc (Obj.cells #[Value.int IntKind.i64 0, Value.int IntKind.i64 0, Value.int IntKind.i64 0, Value.int IntKind.i64 0] 28)) := ((((Chg.refl (fun _ => False) w).alloc (Obj.cells #[Value.int IntKind.i64 o, Value.int IntKind.i64 d, Value.int IntKind.i64 t, Value.int IntKind.i64 s] 28)).alloc (Obj.cells #[Value.int IntKind.i64 n0, Value.int IntKind.i64 n1, Value.int IntKind.i64 n2] 23)).trans c1).alloc (Obj.cells #[Value.int IntKind.i64 0, Value.int IntKind.i64 0, Value.int IntKind.i64 0, Value.int IntKind.i64 0] 28)
  generalize w1.alloc (Obj.cells #[Value.int IntKind.i64 0, Value.int IntKind.i64 0, Value.int IntKind.i64 0, Value.int IntKind.i64 0] 28) = w2 at *
  generalize w1.heap.size = iA at *
  have lA := bA.lt
  have lX := bX.lt
  have lN := bN.lt
  clear c1
  refine (storeNew w2).mono ?_
  rintro e w3 ⟨s', b, rfl, st, hs', hb, c3⟩
  have S0 : StoreW w2 w3 s' b none 0 [] := ⟨st, hb, by simp, bel0 (Below.refl _ _) c3 (Nat.le_refl _)⟩
  have bX3 := bX.bel S0.bel lX
  have bA3 := bA.bel S0.bel lA
  have x0 := bX3.cell 0
  have x1 := bX3.cell 1
  have x2 := bX3.cell 2
  have x3 := bX3.cell 3
  have a0 := bA3.cell 0
  have a1 := bA3.cell 1
  have a2 := bA3.cell 2
  have a3 := bA3.cell 3
  simp at x0 x1 x2 x3 a0 a1 a2 a3
  clear st hs' hb c3
  go_wp2_with fail
  refine (storeAddNil o d t s _).mono ?_
  rintro e w4 ⟨rfl, c4⟩
  have S1 := S0.chg0 c4
  clear S0 bX3 bA3 c4 x0 x1 x2 x3 a0 a1 a2 a3
  have bA3 := bA.bel S1.bel lA
  have a0 := bA3.cell 0
  have a1 := bA3.cell 1
  have a2 := bA3.cell 2
  have a3 := bA3.cell 3
  simp at a0 a1 a2 a3
  clear bA3
  go_wp2_with fail
  refine (storeAllNil _).mono ?_
  rintro e w' ⟨rfl, rfl⟩
  clear a0 a1 a2 a3
  have bN3 := bN.bel S1.bel lN
  have m0 := bN3.cell 0
  have m1 := bN3.cell 1
  have m2 := bN3.cell 2
  simp at m0 m1 m2
  clear bN3
  go_wp2_with fail
  refine (storeBest s' b none 0 [] (by simp) n0 n1 n2 HH0.out HH2.out _ S1.st).mono ?_
  rintro e w5 ⟨rfl, c5⟩
  rw [show bestRes (bestOf (List.filter (frOf · n0 n1) [])) n2 = bestRes none n2 from rfl]
  have S2 := (S1.chg0 c5).chg0 (chg0_alloc w5 (Obj.cells #[Value.int IntKind.i64 0, Value.int IntKind.i64 0, Value.int IntKind.i64 0, Value.int IntKind.i64 0] 28))
  have bX3 := bX.bel S2.bel lX
  have x0 := bX3.cell 0
  have x1 := bX3.cell 1
  have x2 := bX3.cell 2
  have x3 := bX3.cell 3
  simp at x0 x1 x2 x3
  clear S1 c5 bX3 m0 m1 m2
  simp only [bestRes]
  go_wp2_with fail
  refine (storeAdd s' b none 0 [] o d t s _ S2.st (by omega)).mono ?_
  rintro e w6 ⟨rfl, A⟩
  obtain ⟨k2, S3, -⟩ := S2.add A
  clear S2 A x0 x1 x2 x3
  go_wp2_with fail
  refine (storeAll s' b (some k2) 1 _ w6 S3.st).mono ?_
  rintro e w7 ⟨a7, cap7, g7, rfl, o7, c7, hg7⟩
  have S4 := S3.chg0 c7
  clear S3 o7 c7 hg7
  go_wp2_with fail
  refine (storeClear s' b (some k2) 1 _ w7 S4.st).mono ?_
  rintro e w8 ⟨rfl, st8, c8⟩
  have S5 := S4.clear st8 c8
  have bN3 := bN.bel S5.bel lN
  have m0 := bN3.cell 0
  have m1 := bN3.cell 1
  have m2 := bN3.cell 2
  simp at m0 m1 m2
  clear S4 st8 c8 bN3
  go_wp2_with fail
  refine (storeBest s' b none 1 [] (by simp) n0 n1 n2 HH0.out HH2.out _ S5.st).mono ?_
  rintro e w9 ⟨rfl, c9⟩
  rw [show bestRes (bestOf (List.filter (frOf · n0 n1) [])) n2 = bestRes none n2 from rfl]
  have S6 := (S5.chg0 c9).chg0 (chg0_alloc w9 (Obj.cells #[Value.int IntKind.i64 0, Value.int IntKind.i64 0, Value.int IntKind.i64 0, Value.int IntKind.i64 0] 28))
  clear S5 c9 m0 m1 m2
  simp only [bestRes]
  go_wp2_with fail
  refine (alive _).mono ?_
  rintro e w10 ⟨rfl, c10⟩
  have S7 := S6.chg0 c10
  clear S6 c10
  go_wp2_with fail
  refine (storeAll s' b none 1 [] w10 S7.st).mono ?_
  rintro e w11 ⟨a7', cap7', g7', rfl, o7', c7', hg7'⟩
  have S8 := S7.chg0 c7'
  have HB := Lib.hid (bel0 (Below.refl _ _) cA (Nat.le_refl _) |>.trans (S8.bel.mono cA.size))
  clear S7 S8 o7' c7' hg7' cA bX bN bA
  go_wp2_with fail
  go_ret
  exact ⟨rfl, HB.out⟩

theorem freshNone_all (cs0 cs1 : Array Value) (w : World) (h0 : okAll [.int .i64, .int .i64, .int .i64, .int .i64] cs0.toList) (h1 : okAll [.int .i64, .int .i64, .int .i64] cs1.toList) :
    Calls Try.prog 7 #[.agg cs0, .agg cs1] w fun e w' => e = .returned (.bool true) ∧ Below w.heap.size w w' := by
  obtain ⟨x, rfl, hx⟩ := ok_sam h0
  obtain ⟨a, b, c, rfl, ha, hb, hc⟩ := ok_three h1
  exact freshNone_walk x.o x.d x.t x.s a b c hx.o hx.d hx.t hx.s ha hb hc w
end Go.Proofs.Ytnfnonphccnbkaa
