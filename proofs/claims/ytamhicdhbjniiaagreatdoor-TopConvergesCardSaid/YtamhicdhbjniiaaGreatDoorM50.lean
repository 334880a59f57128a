/- Package ghost: contracts, where a step may be. Package server: contracts. -/
import Derived.Test.YtamhicdhbjniiaaGreatDoorM12
import Derived.Test.YtamhicdhbjniiaaGreatDoorM21
import Derived.Deep.RegionWith
import Derived.BigRegion
set_option linter.unusedVariables false
set_option maxHeartbeats 3200000
namespace Go.Proofs.YtamhicdhbjniiaaGreatDoor
section
open Go Go.RowKit Go.Chron
structure Gh where
 t : Int
 h : Int
 t0 : Int
 h0 : Int
 rate : Int
 steps : Int
def ghc (g : Gh) : Array Value := #[.int .i64 g.t, .int .i64 g.h, .int .i64 g.t0, .int .i64 g.h0, .int .i64 g.rate, .int .i64 g.steps]
def Gh.step (g : Gh) (dt dh : Int) : Gh := { g with t := g.t + dt, h := g.h + dh, steps := g.steps + 1 }
structure Gh.Ok (g : Gh) : Prop where
 t : -2305843009213693952 ≤ g.t ∧ g.t ≤ 2305843009213693952
 h : 0 ≤ g.h ∧ g.h ≤ 2305843009213693952
 rate : 0 ≤ g.rate ∧ g.rate ≤ 1000
 steps : 0 ≤ g.steps ∧ g.steps ≤ 1000000
structure StepOk (g : Gh) (dt dh : Int) : Prop where
 ft : 0 ≤ dt ∧ dt ≤ 1125899906842624
 fh : 0 ≤ dh ∧ dh ≤ 1125899906842624
 lo : (dt - dh) * 1000000 ≤ g.rate * dt
 hi : (dh - dt) * 1000000 ≤ g.rate * dt
 t : g.t + dt ≤ 2305843009213693952
 h : g.h + dh ≤ 2305843009213693952
 n : g.steps < 1000000
theorem Gh.step_ok {g : Gh} (o : g.Ok) {dt dh : Int} (s : StepOk g dt dh) : (g.step dt dh).Ok := by
 obtain ⟨h1, h2, h3, h4⟩ := o
 obtain ⟨s1, s2, s3, s4, s5, s6, s7⟩ := s
 exact ⟨by simp only [Gh.step]; omega, by simp only [Gh.step]; omega, h3, by simp only [Gh.step]; omega⟩
theorem newGhost33 (t h rate : Int) (w : World) (ht : -1152921504606846976 ≤ t ∧ t ≤ 1152921504606846976) (hh : 0 ≤ h ∧ h ≤ 1152921504606846976) (hr : 0 ≤ rate ∧ rate ≤ 1000000) :
  Calls Tryz.prog 33 #[.int .i64 t, .int .i64 h, .int .i64 rate] w fun e w' => e = .returned (.tuple #[.pointer (some ⟨w.heap.size, 0, none⟩), .int .i64 0]) ∧ Blk w' w.heap.size 174 (ghc ⟨t, h, t, h, rate, 0⟩) ∧ Chg (fun _ => False) w w' := by
 have HA := Lib.hid (abs69 t (by unfold In64; omega))
 have hA : satAbs t ≤ 1152921504606846976 := by unfold satAbs satSub; repeat' split <;> omega
 generalize satAbs t = A at *
 obtain ⟨h0, h1⟩ := hh
 obtain ⟨r0, r1⟩ := hr
 unfold ghc
 go_enter Tryz.func33, Tryz.ntmps33
 go_wp2_with fail
 refine (HA.out _).mono ?_
 rintro e w' ⟨rfl, rfl⟩
 go_wp2_with fail
 go_ret2
 exact ⟨rfl, Blk.new _ _ _, (Chg.refl _ _).alloc _⟩
theorem true37 (b : Nat) (g : Gh) (w : World) (h : Blk w b 174 (ghc g)) : Calls Tryz.prog 37 #[.pointer (some ⟨b, 0, none⟩)] w fun e w' => e = .returned (.int .i64 g.t) ∧ w' = w := by
 have k0 := h.cell 0
 simp [ghc] at k0
 generalize g.t = t at *
 clear h
 go_enter Tryz.func37, Tryz.ntmps37
 go_wp2_with fail
 go_ret
 exact ⟨rfl, rfl⟩
theorem hard43 (b : Nat) (g : Gh) (w : World) (h : Blk w b 174 (ghc g)) : Calls Tryz.prog 43 #[.pointer (some ⟨b, 0, none⟩)] w fun e w' => e = .returned (.int .i64 g.h) ∧ w' = w := by
 have k0 := h.cell 1
 simp [ghc] at k0
 generalize g.h = t at *
 clear h
 go_enter Tryz.func43, Tryz.ntmps43
 go_wp2_with fail
 go_ret
 exact ⟨rfl, rfl⟩
theorem fine73 (rate dt dh : Int) (w : World) (hr : 0 ≤ rate ∧ rate ≤ 1000) (ht : 0 ≤ dt ∧ dt ≤ 1125899906842624) (hh : 0 ≤ dh ∧ dh ≤ 1125899906842624) (lo : (dt - dh) * 1000000 ≤ rate * dt) (hi : (dh - dt) * 1000000 ≤ rate * dt) :
  Calls Tryz.prog 73 #[.int .i64 rate, .int .i64 dt, .int .i64 dh] w fun e w' => e = .returned (.bool true) ∧ w' = w := by
 have hP : rate * dt ≤ 1000 * 1125899906842624 := Int.mul_le_mul hr.2 ht.2 ht.1 (by omega)
 have hP0 : 0 ≤ rate * dt := Int.mul_nonneg hr.1 ht.1
 have HA := Lib.hid (abs69 (dh - dt) (by unfold In64; omega))
 have hA : 0 ≤ satAbs (dh - dt) ∧ satAbs (dh - dt) ≤ 1125899906842624 ∧ satAbs (dh - dt) * 1000000 ≤ rate * dt := by unfold satAbs satSub; repeat' split <;> omega
 obtain ⟨A, hAA⟩ : ∃ A, A = satAbs (dh - dt) := ⟨_, rfl⟩
 rw [← hAA] at hA HA
 have HM := Lib.hid (mul110 A 1000000 (by omega) (by omega))
 have HM2 := Lib.hid (mul110 rate dt (by omega) (by omega))
 generalize rate * dt = P at *
 obtain ⟨a0, a1, a2⟩ := hA
 have d1 : A * 1000000 / 18446744073709551616 = 0 := by omega
 have d2 : A * 1000000 % 18446744073709551616 = A * 1000000 := by omega
 have d3 : P / 18446744073709551616 = 0 := by omega
 have d4 : P % 18446744073709551616 = P := by omega
 rw [d1, d2] at HM
 rw [d3, d4] at HM2
 generalize A * 1000000 = Q at *
 obtain ⟨r0, r1⟩ := hr
 obtain ⟨t0, t1⟩ := ht
 obtain ⟨h0, h1⟩ := hh
 clear d1 d2 d3 d4 hAA lo hi
 go_enter Tryz.func73, Tryz.ntmps73
 go_wp2_with fail
 all_goals (
  refine (HA.out _).mono ?_
  rintro e w' ⟨rfl, rfl⟩
  go_wp2_with fail
  refine (HM.out _).mono ?_
  rintro e w' ⟨rfl, rfl⟩
  go_wp2_with fail
  refine (HM2.out _).mono ?_
  rintro e w' ⟨rfl, rfl⟩
  go_wp2_with fail
  go_ret
  exact ⟨rfl, rfl⟩)
theorem step71 (p4 p5 : Nat) (dt dh : Int) (w : World) (h4 : Blk w p4 2 #[.int .i64 dt]) (h5 : Blk w p5 2 #[.int .i64 dh]) (ht : 0 ≤ dt ∧ dt ≤ 1125899906842624) (hh : 0 ≤ dh ∧ dh ≤ 1125899906842624) :
  Calls Tryz.prog 71 #[.pointer (some ⟨p4, 0, none⟩), .pointer (some ⟨p5, 0, none⟩)] w fun e w' => e = .returned (.bool false) ∧ Chg (fun _ => False) w w' := by
 have a0 := h4.cell 0
 have b0 := h5.cell 0
 simp at a0 b0
 obtain ⟨t0, t1⟩ := ht
 obtain ⟨h0, h1⟩ := hh
 clear h4 h5
 go_enter Tryz.func71, Tryz.ntmps71
 go_wp2_with fail
 all_goals (go_ret; exact ⟨ret_bool (by simp; try omega), Chg.refl _ _⟩)
theorem step72 (p3 p4 p5 b : Nat) (g : Gh) (dt dh : Int) (w : World) (h3 : Blk w p3 105 #[.pointer (some ⟨b, 0, none⟩)]) (h4 : Blk w p4 2 #[.int .i64 dt]) (h5 : Blk w p5 2 #[.int .i64 dh]) (hb : Blk w b 174 (ghc g)) (o : g.Ok) (s : StepOk g dt dh) :
  Calls Tryz.prog 72 #[.pointer (some ⟨p3, 0, none⟩), .pointer (some ⟨p4, 0, none⟩), .pointer (some ⟨p5, 0, none⟩)] w fun e w' => e = .returned (.bool false) ∧ Chg (fun _ => False) w w' := by
 have a0 := h4.cell 0
 have b0 := h5.cell 0
 have d0 := h3.cell 0
 have g4 := hb.cell 4
 simp [ghc] at a0 b0 d0 g4
 have HF := Lib.hid (fun W => fine73 g.rate dt dh W o.rate s.ft s.fh s.lo s.hi)
 generalize g.rate = r at *
 clear h3 h4 h5 hb o s
 go_enter Tryz.func72, Tryz.ntmps72
 go_upto_region 1 with (fail)
 go_quiet (first | (go_at_call 73; exact Calls.quiet_of_same (HF.out _)))
 go_wp2_with fail
 go_ret
 exact ⟨rfl, by repeat (first | exact Chg.refl _ _ | exact (by assumption) | apply Chg.drewN | apply Chg.drew | apply Chg.alloc)⟩
theorem step74 (p3 p4 p5 b : Nat) (g : Gh) (dt dh : Int) (w : World) (h3 : Blk w p3 105 #[.pointer (some ⟨b, 0, none⟩)]) (h4 : Blk w p4 2 #[.int .i64 dt]) (h5 : Blk w p5 2 #[.int .i64 dh]) (hb : Blk w b 174 (ghc g)) (o : g.Ok) (s : StepOk g dt dh) :
  Calls Tryz.prog 74 #[.pointer (some ⟨p3, 0, none⟩), .pointer (some ⟨p4, 0, none⟩), .pointer (some ⟨p5, 0, none⟩)] w fun e w' => e = .returned (.bool false) ∧ Chg (fun _ => False) w w' := by
 have a0 := h4.cell 0
 have b0 := h5.cell 0
 have d0 := h3.cell 0
 have g0 := hb.cell 0
 have g1 := hb.cell 1
 simp [ghc] at a0 b0 d0 g0 g1
 have o1 := o.t
 have o2 := o.h
 have s1 := s.ft
 have s2 := s.fh
 have s3 := s.t
 have s4 := s.h
 generalize g.t = t at *
 generalize g.h = h at *
 clear h3 h4 h5 hb o s
 go_enter Tryz.func74, Tryz.ntmps74
 go_upto_region 1 with (fail)
 go_quiet (fail)
 go_wp2_with fail
 all_goals (go_ret; exact ⟨ret_bool (by simp; try omega), by repeat (first | exact Chg.refl _ _ | exact (by assumption) | apply Chg.drewN | apply Chg.drew | apply Chg.alloc)⟩)
end
section
open Go Go.RowKit Go.Chron
structure Way where
 kind : Int
 there : Int
 stay : Int
 back : Int
 err : Int
 lie : Int
def wayc (y : Way) : Array Value := #[.int .i64 y.kind, .int .i64 y.there, .int .i64 y.stay, .int .i64 y.back, .int .i64 y.err, .int .u64 y.lie]
structure Way.Ok (y : Way) : Prop where
 kind : y.kind = 0 ∨ y.kind = 1 ∨ y.kind = 2
 there : 0 ≤ y.there ∧ y.there ≤ 1099511627776
 stay : 0 ≤ y.stay ∧ y.stay ≤ 1099511627776
 back : 0 ≤ y.back ∧ y.back ≤ 1099511627776
 err : -1125899906842624 ≤ y.err ∧ y.err ≤ 1125899906842624
 lie : 0 ≤ y.lie ∧ y.lie < 18446744073709551616
def Way.ans (y : Way) (cookie t : Int) : List Int :=
 if y.kind = 0 then bytes4 4 1 cookie (max 1 (fromI (satAdd t y.err))) (max 1 (fromI (satAdd (satAdd t y.stay) y.err))) else bytes4 4 1 cookie (max 1 y.lie) (max 1 y.lie)
theorem check36 (y : Way) (w : World) (o : y.Ok) : Calls Tryz.prog 36 #[.agg (wayc y)] w fun e w' => e = .returned (.int .i64 0) ∧ Chg (fun _ => False) w w' := by
 obtain ⟨k, th, st, ba, er, li⟩ := y
 obtain ⟨h0, h1, h2, h3, h4, h5⟩ := o
 unfold wayc
 simp only at h0 h1 h2 h3 h4 h5 ⊢
 have k0 : 0 ≤ k := by omega
 have k1 : k ≤ 3 := by omega
 obtain ⟨a0, a1⟩ := h1
 obtain ⟨b0, b1⟩ := h2
 obtain ⟨c0, c1⟩ := h3
 obtain ⟨d0, d1⟩ := h4
 have hm : (decide (min (min th st) ba < 0)) = false := decide_eq_false (by omega)
 have hx : (decide (max (max th st) ba > 1099511627776)) = false := decide_eq_false (by omega)
 clear h0 h5
 go_enter Tryz.func36, Tryz.ntmps36
 go_upto_region 3 with (fail)
 go_wp2_with fail
 all_goals (go_ret; exact ⟨rfl, by repeat (first | exact Chg.refl _ _ | exact (by assumption) | apply Chg.drewN | apply Chg.drew | apply Chg.alloc)⟩)
theorem took81 (y : Way) (w : World) (o : y.Ok) : Calls Tryz.prog 81 #[.agg (wayc y)] w fun e w' => e = .returned (.int .i64 (y.there + y.stay + y.back)) ∧ Chg (fun _ => False) w w' := by
 have HC := Lib.hid (fun W => check36 y W o)
 obtain ⟨k, th, st, ba, er, li⟩ := y
 obtain ⟨h0, h1, h2, h3, h4, h5⟩ := o
 unfold wayc at *
 simp only at h0 h1 h2 h3 h4 h5 HC ⊢
 have c0 := chg0_alloc w (Obj.cells #[.int .i64 k, .int .i64 th, .int .i64 st, .int .i64 ba, .int .i64 er, .int .u64 li] 97)
 have B0 := Blk.new w 97 #[.int .i64 k, .int .i64 th, .int .i64 st, .int .i64 ba, .int .i64 er, .int .u64 li]
 clear h0 h4 h5
 go_enter Tryz.func81, Tryz.ntmps81
 go_upto_region 1 with (fail)
 generalize w.alloc (Obj.cells #[.int .i64 k, .int .i64 th, .int .i64 st, .int .i64 ba, .int .i64 er, .int .u64 li] 97) = W at *
 generalize hg : w.heap.size = g at *
 have b0 := B0.cell 0
 have b1 := B0.cell 1
 have b2 := B0.cell 2
 have b3 := B0.cell 3
 have b4 := B0.cell 4
 have b5 := B0.cell 5
 simp at b0 b1 b2 b3 b4 b5
 go_wp2_with fail
 refine (HC.out _).mono ?_
 rintro e w1 ⟨rfl, c1⟩
 have B1 := B0.chg c1 (fun h => h)
 clear b0 b1 b2 b3 b4 b5
 have b1 := B1.cell 1
 have b2 := B1.cell 2
 have b3 := B1.cell 3
 simp at b1 b2 b3
 go_wp2_with fail
 go_ret
 exact ⟨rfl, c0.trans c1⟩
theorem some292 (x : Int) (h : 0 ≤ x) (w : World) : Calls Tryz.prog 292 #[.int .u64 x] w fun e w' => e = .returned (.int .u64 (max 1 x)) ∧ w' = w := by
 go_enter Tryz.func292, Tryz.ntmps292
 go_wp2_with fail
 all_goals (go_ret; exact ⟨congrArg Ending.returned (congrArg (Value.int .u64) (by omega)), rfl⟩)
theorem silent294 (y : Way) (c t : Int) (w : World) : Calls Tryz.prog 294 #[.agg #[], .agg (wayc y), .int .u64 c, .int .i64 t] w fun e w' => e = .returned (.tuple #[.slice none 0 0, .bool false]) ∧ Chg (fun _ => False) w w' := by
 unfold wayc
 go_enter Tryz.func294, Tryz.ntmps294
 go_wp2_with fail
 exact bodyPost_ret (v := .tuple #[.slice none 0 0, .bool false]) (by simp [results, Tryz.results294, go_sem]) rfl ⟨rfl, by repeat (first | exact Chg.refl _ _ | exact (by assumption) | apply Chg.drewN | apply Chg.drew | apply Chg.alloc)⟩
theorem lying293 (y : Way) (c t : Int) (w : World) (o : y.Ok) (hc : 0 ≤ c ∧ c < 18446744073709551616) (hk : y.kind = 1) :
  Calls Tryz.prog 293 #[.agg #[], .agg (wayc y), .int .u64 c, .int .i64 t] w fun e w' => ∃ v g, e = .returned (.tuple #[v, .bool true]) ∧ By w w' v g (y.ans c t) := by
 have hli := o.lie
 have hans : y.ans c t = bytes4 4 1 c (max 1 y.lie) (max 1 y.lie) := by unfold Way.ans; rw [if_neg (by omega)]
 rw [hans]
 have HG := Lib.hid (good55 c (max 1 y.lie) (max 1 y.lie) hc (by omega) (by omega))
 have HS := Lib.hid (some292 y.lie hli.1)
 obtain ⟨k, th, st, ba, er, li⟩ := y
 unfold wayc
 simp only at *
 generalize max 1 li = M at *
 clear o hk hans
 go_enter Tryz.func293, Tryz.ntmps293
 go_upto_region 1 with (fail)
 have c0 := (chg0_alloc w (Obj.cells #[] 253)).alloc (Obj.cells #[.int .i64 k, .int .i64 th, .int .i64 st, .int .i64 ba, .int .i64 er, .int .u64 li] 97)
 have B0 := Blk.new (w.alloc (Obj.cells #[] 253)) 97 #[.int .i64 k, .int .i64 th, .int .i64 st, .int .i64 ba, .int .i64 er, .int .u64 li]
 rw [show (w.alloc (Obj.cells #[] 253)).heap.size = w.heap.size + 1 by simp] at B0
 generalize (w.alloc (Obj.cells #[] 253)).alloc (Obj.cells #[.int .i64 k, .int .i64 th, .int .i64 st, .int .i64 ba, .int .i64 er, .int .u64 li] 97) = W at *
 have b5 := B0.cell 5
 simp at b5
 go_cut [8, 9] (fun s8 s9 wx => s9 = .bool true ∧ ∃ g, By W wx s8 g (bytes4 4 1 c M M))
 case first =>
  go_region_with (first | (go_at_call 292; refine (HS.out _).mono ?_; rintro e w5 ⟨rfl, rfl⟩) | (go_at_call 55; refine (HG.out _).mono ?_; rintro e w5 ⟨v, g, rfl, B5⟩))
  all_goals (go_wp2_with fail; go_meet; exact ⟨rfl, g, B5.base (chg0_drew _)⟩)
 case rest =>
  obtain ⟨rfl, g, B5⟩ := hcut
  go_wp2_with fail
  go_ret2
  exact ⟨_, g, rfl, B5.base c0⟩
theorem honest291 (y : Way) (c t : Int) (w : World) (o : y.Ok) (hc : 0 ≤ c ∧ c < 18446744073709551616) (ht : In64 t) (hk : y.kind = 0) :
  Calls Tryz.prog 291 #[.agg #[], .agg (wayc y), .int .u64 c, .int .i64 t] w fun e w' => ∃ v g, e = .returned (.tuple #[v, .bool true]) ∧ By w w' v g (y.ans c t) := by
 have hans : y.ans c t = bytes4 4 1 c (max 1 (fromI (satAdd t y.err))) (max 1 (fromI (satAdd (satAdd t y.stay) y.err))) := by unfold Way.ans; rw [if_pos hk]
 rw [hans]
 have he : In64 y.err := by have := o.err; unfold In64; omega
 have hs : In64 y.stay := by have := o.stay; unfold In64; omega
 have H1 := Lib.hid (add80 t y.err ht he)
 have H2 := Lib.hid (from185 (satAdd t y.err) (satAdd_in _ _))
 have H3 := Lib.hid (add80 t y.stay ht hs)
 have H4 := Lib.hid (add80 (satAdd t y.stay) y.err (satAdd_in _ _) he)
 have H5 := Lib.hid (from185 (satAdd (satAdd t y.stay) y.err) (satAdd_in _ _))
 have f1 := fromI_in (satAdd t y.err)
 have f2 := fromI_in (satAdd (satAdd t y.stay) y.err)
 have H6 := Lib.hid (some292 _ f1.1)
 have H7 := Lib.hid (some292 _ f2.1)
 have H8 := Lib.hid (good55 c (max 1 (fromI (satAdd t y.err))) (max 1 (fromI (satAdd (satAdd t y.stay) y.err))) hc (by omega) (by omega))
 obtain ⟨k, th, st, ba, er, li⟩ := y
 unfold wayc
 simp only at *
 generalize max 1 (fromI (satAdd t er)) = M1 at *
 generalize max 1 (fromI (satAdd (satAdd t st) er)) = M2 at *
 generalize fromI (satAdd t er) = F1 at *
 generalize fromI (satAdd (satAdd t st) er) = F2 at *
 generalize satAdd (satAdd t st) er = A3 at *
 generalize satAdd t er = A1 at *
 generalize satAdd t st = A2 at *
 clear o hk hans he hs f1 f2 ht hc
 go_enter Tryz.func291, Tryz.ntmps291
 go_upto_region 1 with (fail)
 have c0 := (chg0_alloc w (Obj.cells #[] 252)).alloc (Obj.cells #[.int .i64 k, .int .i64 th, .int .i64 st, .int .i64 ba, .int .i64 er, .int .u64 li] 97)
 have B0 := Blk.new (w.alloc (Obj.cells #[] 252)) 97 #[.int .i64 k, .int .i64 th, .int .i64 st, .int .i64 ba, .int .i64 er, .int .u64 li]
 rw [show (w.alloc (Obj.cells #[] 252)).heap.size = w.heap.size + 1 by simp] at B0
 generalize (w.alloc (Obj.cells #[] 252)).alloc (Obj.cells #[.int .i64 k, .int .i64 th, .int .i64 st, .int .i64 ba, .int .i64 er, .int .u64 li] 97) = W at *
 have b4 := B0.cell 4
 simp at b4
 go_wp2_with fail
 refine (H1.out _).mono ?_
 rintro e w1 ⟨rfl, rfl⟩
 go_wp2_with fail
 refine (H2.out _).mono ?_
 rintro e w2 ⟨rfl, c2⟩
 have B2 := B0.chg c2 (fun h => h)
 have c3 := c0.trans c2
 clear b4 B0 c0 c2
 have b2 := B2.cell 2
 have b4 := B2.cell 4
 simp at b2 b4
 go_upto_region 2 with (fail)
 go_cut [11] (fun s11 wx => s11 = .int .u64 F2 ∧ Chg (fun _ => False) w2 wx)
 case first =>
  go_region_with (first | (go_at_call 185; refine (H5.out _).mono ?_; rintro e w5 ⟨rfl, c5⟩) | (go_at_call_of 80 (Value.int IntKind.i64 t); refine (H3.out _).mono ?_; rintro e w5 ⟨rfl, rfl⟩) | (go_at_call_of 80 (Value.int IntKind.i64 A2); refine (H4.out _).mono ?_; rintro e w5 ⟨rfl, rfl⟩))
  all_goals (go_wp2_with fail; go_meet; exact ⟨rfl, (chg0_drew _).trans c5⟩)
 case rest =>
  obtain ⟨rfl, c4⟩ := hcut
  clear b2 b4
  go_wp2_with fail
  refine (H6.out _).mono ?_
  rintro e w6 ⟨rfl, rfl⟩
  go_wp2_with fail
  refine (H7.out _).mono ?_
  rintro e w7 ⟨rfl, rfl⟩
  go_wp2_with fail
  refine (H8.out _).mono ?_
  rintro e w8 ⟨v, g, rfl, B8⟩
  have HB8 := Lib.hid (B8.base (c3.trans c4))
  clear B8
  go_wp2_with fail
  go_ret2
  exact ⟨v, g, rfl, HB8.out⟩
end
end Go.Proofs.YtamhicdhbjniiaaGreatDoor
