/- The contracts of package ring's functions at one type (pair). -/
import Derived.Test.YtlcanhghhdjleaaRows
import Derived.Test.YtlcanhghhdjleaaRing
namespace Go.Proofs.Ytlcanhghhdjleaa
open Go.RowKit Go.Chron

theorem info_pair : (Try.prog.info? 28).map (fun i => (i.zero, i.size, i.bytes)) = some (some (.agg #[.int .i32 0, .int .i32 0]), 2, 8) := by kernel_rfl

set_option maxHeartbeats 400000 in
theorem new_pair (m : Nat) (h1 : 1 ≤ m) (h2 : m ≤ 64) (w : World) :
    Calls Try.prog 8 #[.int .i64 m] w fun e w' => e = .returned (.tuple #[.pointer (some ⟨w.heap.size, 0, none⟩), .int .i64 0]) ∧ RingAt 82 28 2 w' w.heap.size none m 0 [] ∧ Chg (fun _ => False) w w' := by
  go_enter Try.func8, Try.ntmps8
  go_wp2
  go_ret2
  exact ⟨rfl, ringAt_new _ _ _ _ _, (Chg.refl _ w).alloc _⟩

theorem len_pair (b : Nat) (g : Option Nat) (most cnt : Nat) (els : List (List Value)) (w : World) (hr : RingAt 82 28 2 w b g most cnt els) :
    Calls Try.prog 15 #[.pointer (some ⟨b, 0, none⟩)] w fun e w' => e = .returned (.int .i64 els.length) ∧ w = w' := by
  obtain ⟨⟨v, hb, ho⟩, hne, hfew, hone⟩ := hr
  obtain ⟨a, cap, rfl, hlc, hcm, hnil, ha⟩ := ho.form
  have c0 := hb.cell 0
  simp at c0
  clear ha
  go_enter Try.func15, Try.ntmps15
  go_wp2
  go_ret
  exact ⟨rfl, rfl⟩

theorem lenNil_pair (w : World) : Calls Try.prog 15 #[.pointer none] w fun e w' => e = .returned (.int .i64 0) ∧ w = w' := by
  go_enter Try.func15, Try.ntmps15
  go_wp2
  go_ret
  exact ⟨rfl, rfl⟩

set_option maxRecDepth 100000 in
set_option maxHeartbeats 1600000 in
theorem addRoom_pair (b : Nat) (g : Option Nat) (most cnt : Nat) (els : List (List Value)) (x y : Int) (w : World) (hr : RingAt 82 28 2 w b g most cnt els) (hlt : els.length < most) (hm : most ≤ 64) (hc : cnt < 1000000) :
    Calls Try.prog 11 #[.pointer (some ⟨b, 0, none⟩), .agg #[.int .i32 x, .int .i32 y]] w fun e w' => e = .returned (.int .i64 0) ∧ Added 82 28 2 w b g most cnt els [.int .i32 x, .int .i32 y] w' := by
  obtain ⟨⟨v, hb, ho⟩, hne, hfew, hone⟩ := id hr
  obtain ⟨i0, hi, hz0, hz1, hz2⟩ := info_parts info_pair
  obtain ⟨a, cap, rfl, hlc, hcm, hnil, ha⟩ := ho.form
  have c0 := hb.cell 0
  have c1 := hb.cell 1
  have c2 := hb.cell 2
  have f0 := hb.frozen 0
  have f1 := hb.frozen 1
  have f2 := hb.frozen 2
  have hbl := hb.lt
  simp at c0 c1 c2
  have hlt' : decide ((els.length : Int) < (most : Int)) = true := by simp; omega
  clear ha
  have Hr := Lib.hid hr
  clear hr
  go_enter Try.func11, Try.ntmps11
  go_wp2
  go_quiet (fail)
  go_upto_region 5 with (fail)
  obtain ⟨W, hW⟩ : ∃ W, W = ((w.setCell { block := b, off := 2 } (Value.int IntKind.i64 (cnt + 1))).alloc (Obj.cells #[.int .i32 x, .int .i32 y] 28)).drewN nq := ⟨_, rfl⟩
  rw [← hW]
  have B0 : Blk W b 82 #[.slice a els.length cap, .int .i64 most, .int .i64 (cnt + 1)] := by subst hW; exact ((hb.set_ 2 _).alloc _).drewN _
  have B1 : Blk W w.heap.size 28 #[.int .i32 x, .int .i32 y] := by subst hW; exact Blk.drewN (by have := Blk.new (w.setCell { block := b, off := 2 } (Value.int IntKind.i64 (cnt + 1))) 28 #[.int .i32 x, .int .i32 y]; simpa [World.setCell] using this) _
  have C : Chg (fun k => k = b) w W := by subst hW; exact (((Chg.refl (fun k => k = b) w).setCell (p := ⟨b, 2, none⟩) (fun _ => rfl) _).alloc _).drewN _
  have O : Owns W 28 2 (.slice a els.length cap) g els := ho.chg C (fun k hk e => hne (by rw [hk, e]))
  clear hW c0 c1 c2 f0 f1 f2
  have d0 := B0.cell 0
  have d1 := B1.cell 0
  have d2 := B1.cell 1
  simp at d0 d1 d2
  have n0 : ∀ o, (W.alloc o).cell? ⟨b, 0, none⟩ = some (.slice a els.length cap) := fun o => (B0.alloc o).cell 0
  go_region_law ((refine step_app (by rfl) (.tmp 28) (.tmp 30) 80 (by rfl) 28 i0 _ 2 8 Try.underlying80 hi hz0 hz1 hz2 rfl (by omega) (.slice a els.length cap) g els (by rfl) (O.drew.alloc _) _ 28 [[.int .i32 x, .int .i32 y]] 1 1 (by rfl) rfl (Blk.new _ _ _) (by simp) (by simp [Value.oneCell']) (by simp) (by simp; omega) (by simp [maxLen]; omega) ?_
                  intro k cap' w' ho' hchg hk
                  have q0 := hchg.keep (p := ⟨b, 0, none⟩) ((B0.drew.alloc _).cell 0) hne
                  have f0 : w'.frozen? ⟨b, 0, none⟩ = false := (hchg.frozen (p := ⟨b, 0, none⟩) (B0.drew.alloc _).lt hne).trans ((B0.drew.alloc _).frozen 0)
                  simp at q0))
  all_goals (
    have A := added_room Hr.out hlt (x := [.int .i32 x, .int .i32 y]) (by simp [Value.oneCell']) (C.drew.alloc _) (B0.drew.alloc _) hchg ho' hk
    clear ho' hchg hk
    go_wp2
    go_ret
    exact ⟨rfl, A⟩)

set_option maxRecDepth 100000 in
set_option maxHeartbeats 1600000 in
theorem addFull_pair (b : Nat) (g : Option Nat) (most cnt : Nat) (els : List (List Value)) (x y : Int) (w : World) (hr : RingAt 82 28 2 w b g most cnt els) (hlt : ¬ els.length < most) (hpos : 0 < els.length) (hm : most ≤ 64) (hc : cnt < 1000000) :
    Calls Try.prog 11 #[.pointer (some ⟨b, 0, none⟩), .agg #[.int .i32 x, .int .i32 y]] w fun e w' => e = .returned (.int .i64 0) ∧ Added 82 28 2 w b g most cnt els [.int .i32 x, .int .i32 y] w' := by
  obtain ⟨⟨v, hb, ho⟩, hne, hfew, hone⟩ := id hr
  obtain ⟨i0, hi, hz0, hz1, hz2⟩ := info_parts info_pair
  obtain ⟨k, hk⟩ := ho.pos hpos
  obtain ⟨cap, rfl, hlc, hcm⟩ := (hk ▸ ho).some_form
  have c0 := hb.cell 0
  have c1 := hb.cell 1
  have c2 := hb.cell 2
  have f0 := hb.frozen 0
  have f1 := hb.frozen 1
  have f2 := hb.frozen 2
  have hbl := hb.lt
  simp at c0 c1 c2
  have hlt' : decide ((els.length : Int) < (most : Int)) = false := by simp; omega
  have Hr := Lib.hid hr
  have Hk := Lib.hid hk
  clear hr hk
  go_enter Try.func11, Try.ntmps11
  go_wp2
  go_quiet (fail)
  go_upto_region 7 with (fail)
  obtain ⟨W, hW⟩ : ∃ W, W = ((w.setCell { block := b, off := 2 } (Value.int IntKind.i64 (cnt + 1))).alloc (Obj.cells #[.int .i32 x, .int .i32 y] 28)).drewN nq := ⟨_, rfl⟩
  rw [← hW]
  have B0 : Blk W b 82 #[.slice (some ⟨k, 0, none⟩) els.length cap, .int .i64 most, .int .i64 (cnt + 1)] := by subst hW; exact ((hb.set_ 2 _).alloc _).drewN _
  have B1 : Blk W w.heap.size 28 #[.int .i32 x, .int .i32 y] := by subst hW; exact Blk.drewN (by have := Blk.new (w.setCell { block := b, off := 2 } (Value.int IntKind.i64 (cnt + 1))) 28 #[.int .i32 x, .int .i32 y]; simpa [World.setCell] using this) _
  have C : Chg (fun k => k = b) w W := by subst hW; exact (((Chg.refl (fun k => k = b) w).setCell (p := ⟨b, 2, none⟩) (fun _ => rfl) _).alloc _).drewN _
  have O : Owns W 28 2 (.slice (some ⟨k, 0, none⟩) els.length cap) (some k) els := by rw [← Hk.out]; exact ho.chg C (fun k hk e => hne (by rw [hk, e]))
  clear hW c0 c1 c2 f0 f1 f2
  have d0 := B0.cell 0
  simp at d0
  have hcap1 : (1 : Int) ≤ (cap : Int) := by omega
  have hlen1 : (1 : Int) ≤ (els.length : Int) := by omega
  go_still_tail 9, (by kernel_rfl)
  change wpList _ _ _ _ _ W.drew
  refine wpList_shift rfl (.tmp 37) (.tmp 42) 80 80 rfl 28 i0 2 Try.underlying80 hi hz1 k els.length cap els O.drew rfl hpos hone _ _ _ rfl rfl rfl (fun h => if_neg (by omega)) ?_
  intro w' ho' hchg
  have hkb : ¬ b = k := fun h => hne (by rw [Hk.out, h])
  have hkn : ¬ w.heap.size = k := fun h => by have := ho.lt k Hk.out; omega
  have B2 := B0.drew.chg hchg hkb
  have B3 := B1.drew.chg hchg hkn
  have q0 := B2.cell 0
  have q1 := B3.cell 0
  have q2 := B3.cell 1
  simp at q0 q1 q2
  clear d0
  generalize hsp : (if cap = 1 then some ({ block := k, off := 0 } : Addr) else some { block := k, off := 2 }) = sp
  clear hsp
  go_wp2_with fail
  have hlen' : (els.tail ++ els.drop (els.length - 1)).length = els.length := by simp
  obtain ⟨u0, t0⟩ := ho'.there rfl (i := els.length - 1) (j := 0) (by rw [hlen']; omega) (by omega)
  have g0 := ho'.frozen rfl ((els.length - 1) * 2)
  obtain ⟨u1, t1⟩ := ho'.there rfl (i := els.length - 1) (j := 1) (by rw [hlen']; omega) (by omega)
  have g1 := ho'.frozen rfl ((els.length - 1) * 2 + 1)
  simp only [Nat.add_zero] at t0
  clear hlen'
  go_still_tail 11, (by kernel_rfl)
  change wpList _ _ _ _ _ w'.drew
  have A := added_full Hr.out hlt hpos (x := [.int .i32 x, .int .i32 y]) (by simp [Value.oneCell']) rfl (C.drew) B0.drew Hk.out hchg.drew ho'.drew rfl
  simp only [World.setCells] at A
  go_wp2_with fail
  go_ret
  exact ⟨rfl, A⟩

theorem add_pair (b : Nat) (g : Option Nat) (most cnt : Nat) (els : List (List Value)) (x y : Int) (w : World) (hr : RingAt 82 28 2 w b g most cnt els) (h1 : 1 ≤ most) (hm : most ≤ 64) (hc : cnt < 1000000) :
    Calls Try.prog 11 #[.pointer (some ⟨b, 0, none⟩), .agg #[.int .i32 x, .int .i32 y]] w fun e w' => e = .returned (.int .i64 0) ∧ Added 82 28 2 w b g most cnt els [.int .i32 x, .int .i32 y] w' := by
  by_cases h : els.length < most
  · exact addRoom_pair b g most cnt els x y w hr h hm hc
  · exact addFull_pair b g most cnt els x y w hr h (by omega) hm hc

theorem addNil_pair (x y : Int) (w : World) : Calls Try.prog 11 #[.pointer none, .agg #[.int .i32 x, .int .i32 y]] w fun e w' => e = .returned (.int .i64 1) ∧ Chg (fun _ => False) w w' := by
  go_enter Try.func11, Try.ntmps11
  go_wp2
  go_ret
  exact ⟨rfl, (Chg.refl _ w).alloc _⟩

set_option maxRecDepth 100000 in
set_option maxHeartbeats 800000 in
theorem last_pair (b : Nat) (g : Option Nat) (most cnt : Nat) (els : List (List Value)) (x y : Int) (w : World) (hr : RingAt 82 28 2 w b g most cnt els) (hx : els[els.length - 1]? = some [.int .i32 x, .int .i32 y]) (hm : most ≤ 64) :
    Calls Try.prog 13 #[.pointer (some ⟨b, 0, none⟩)] w fun e w' => e = .returned (.tuple #[.agg #[.int .i32 x, .int .i32 y], .bool true]) ∧ Chg (fun _ => False) w w' := by
  obtain ⟨⟨v, hb, ho⟩, hne, hfew, hone⟩ := id hr
  have hpos : 0 < els.length := by have := (List.getElem?_eq_some_iff.1 hx).1; omega
  obtain ⟨k, hk⟩ := ho.pos hpos
  obtain ⟨cap, rfl, hlc, hcm⟩ := (hk ▸ ho).some_form
  have c0 := hb.cell 0
  simp at c0
  have t0 := ho.cell hk hx (j := 0) rfl
  have t1 := ho.cell hk hx (j := 1) rfl
  simp only [Nat.add_zero] at t0
  have hz : ((els.length : Int) == 0) = false := by rw [beq_eq_false_iff_ne]; omega
  have hlen1 : (1 : Int) ≤ (els.length : Int) := by omega
  have hbl := hb.lt
  have hkl := ho.lt k hk
  have Hr := Lib.hid hr
  have Hk := Lib.hid hk
  have Hx := Lib.hid hx
  clear hr hk hx
  go_enter Try.func13, Try.ntmps13
  go_wp2_with (go_at_call 15; refine (len_pair b g most cnt els _ (Hr.out.chg ((Chg.refl (fun _ => False) w).alloc _) (fun h => h) (fun _ _ h => h))).mono ?_; rintro e w' ⟨rfl, rfl⟩)
  go_region
  all_goals go_wp2_with fail
  all_goals exact bodyPost_ret (v := .tuple #[.agg #[.int .i32 x, .int .i32 y], .bool true]) (by simp [results, Try.results13, go_sem]) rfl ⟨rfl, by repeat (first | exact Chg.refl _ _ | apply Chg.drew | apply Chg.alloc)⟩

theorem lastNone_pair (b : Nat) (g : Option Nat) (most cnt : Nat) (w : World) (hr : RingAt 82 28 2 w b g most cnt []) :
    Calls Try.prog 13 #[.pointer (some ⟨b, 0, none⟩)] w fun e w' => e = .returned (.tuple #[.agg #[.int .i32 0, .int .i32 0], .bool false]) ∧ Chg (fun _ => False) w w' := by
  have Hr := Lib.hid hr
  clear hr
  go_enter Try.func13, Try.ntmps13
  go_wp2_with (go_at_call 15; refine (len_pair b g most cnt [] _ (Hr.out.chg ((Chg.refl (fun _ => False) w).alloc _) (fun h => h) (fun _ _ h => h))).mono ?_; rintro e w' ⟨rfl, rfl⟩)
  exact bodyPost_ret (v := .tuple #[.agg #[.int .i32 0, .int .i32 0], .bool false]) (by simp [results, Try.results13, go_sem]) rfl ⟨rfl, by repeat (first | exact Chg.refl _ _ | apply Chg.drew | apply Chg.alloc)⟩

theorem lastNil_pair (w : World) :
    Calls Try.prog 13 #[.pointer none] w fun e w' => e = .returned (.tuple #[.agg #[.int .i32 0, .int .i32 0], .bool false]) ∧ Chg (fun _ => False) w w' := by
  go_enter Try.func13, Try.ntmps13
  go_wp2_with (go_at_call 15; refine (lenNil_pair _).mono ?_; rintro e w' ⟨rfl, rfl⟩)
  exact bodyPost_ret (v := .tuple #[.agg #[.int .i32 0, .int .i32 0], .bool false]) (by simp [results, Try.results13, go_sem]) rfl ⟨rfl, by repeat (first | exact Chg.refl _ _ | apply Chg.drew | apply Chg.alloc)⟩

end Go.Proofs.Ytlcanhghhdjleaa
