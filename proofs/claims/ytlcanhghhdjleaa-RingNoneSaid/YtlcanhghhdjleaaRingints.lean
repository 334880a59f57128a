/- The contracts of package ring's functions at one type (ints). -/
import Derived.Test.YtlcanhghhdjleaaRows
import Derived.Test.YtlcanhghhdjleaaRing
namespace Go.Proofs.Ytlcanhghhdjleaa
open Go.RowKit Go.Chron

theorem info_ints : (Try.prog.info? 75).map (fun i => (i.zero, i.size, i.bytes)) = some (some (.slice none 0 0), 1, 24) := by kernel_rfl

set_option maxHeartbeats 400000 in
theorem new_ints (m : Nat) (h1 : 1 ≤ m) (h2 : m ≤ 64) (w : World) :
    Calls Try.prog 35 #[.int .i64 m] w fun e w' => e = .returned (.tuple #[.pointer (some ⟨w.heap.size, 0, none⟩), .int .i64 0]) ∧ RingAt 100 75 1 w' w.heap.size none m 0 [] ∧ Chg (fun _ => False) w w' := by
  go_enter Try.func35, Try.ntmps35
  go_wp2
  go_ret2
  exact ⟨rfl, ringAt_new _ _ _ _ _, (Chg.refl _ w).alloc _⟩

theorem len_ints (b : Nat) (g : Option Nat) (most cnt : Nat) (els : List (List Value)) (w : World) (hr : RingAt 100 75 1 w b g most cnt els) :
    Calls Try.prog 37 #[.pointer (some ⟨b, 0, none⟩)] w fun e w' => e = .returned (.int .i64 els.length) ∧ w = w' := by
  obtain ⟨⟨v, hb, ho⟩, hne, hfew, hone⟩ := hr
  obtain ⟨a, cap, rfl, hlc, hcm, hnil, ha⟩ := ho.form
  have c0 := hb.cell 0
  simp at c0
  clear ha
  go_enter Try.func37, Try.ntmps37
  go_wp2
  go_ret
  exact ⟨rfl, rfl⟩

theorem lenNil_ints (w : World) : Calls Try.prog 37 #[.pointer none] w fun e w' => e = .returned (.int .i64 0) ∧ w = w' := by
  go_enter Try.func37, Try.ntmps37
  go_wp2
  go_ret
  exact ⟨rfl, rfl⟩

set_option maxRecDepth 100000 in
set_option maxHeartbeats 1600000 in
theorem addRoom_ints (b : Nat) (g : Option Nat) (most cnt : Nat) (els : List (List Value)) (xa : Option Addr) (xn xc : Nat) (w : World) (hr : RingAt 100 75 1 w b g most cnt els) (hlt : els.length < most) (hm : most ≤ 64) (hc : cnt < 1000000) :
    Calls Try.prog 38 #[.pointer (some ⟨b, 0, none⟩), .slice xa xn xc] w fun e w' => e = .returned (.int .i64 0) ∧ Added 100 75 1 w b g most cnt els [.slice xa xn xc] w' := by
  obtain ⟨⟨v, hb, ho⟩, hne, hfew, hone⟩ := id hr
  obtain ⟨i0, hi, hz0, hz1, hz2⟩ := info_parts info_ints
  obtain ⟨a, cap, rfl, hlc, hcm, hnil, ha⟩ := ho.form
  have c0 := hb.cell 0
  have c1 := hb.cell 1
  have c2 := hb.cell 2
  have f0 := hb.frozen 0
  have f1 := hb.frozen 1
  have f2 := hb.frozen 2
  have hbl := hb.lt
  simp at c0 c1 c2
  have hlt' : decide ((els.length : Int) < (most : Int)) = true := by simp; omega
  clear ha
  have Hr := Lib.hid hr
  clear hr
  go_enter Try.func38, Try.ntmps38
  go_wp2
  go_quiet (fail)
  go_upto_region 5 with (fail)
  obtain ⟨W, hW⟩ : ∃ W, W = ((w.setCell { block := b, off := 2 } (Value.int IntKind.i64 (cnt + 1)))).drewN nq := ⟨_, rfl⟩
  rw [← hW]
  have B0 : Blk W b 100 #[.slice a els.length cap, .int .i64 most, .int .i64 (cnt + 1)] := by subst hW; exact (hb.set_ 2 _).drewN _
  have C : Chg (fun k => k = b) w W := by subst hW; exact ((Chg.refl (fun k => k = b) w).setCell (p := ⟨b, 2, none⟩) (fun _ => rfl) _).drewN _
  have O : Owns W 75 1 (.slice a els.length cap) g els := ho.chg C (fun k hk e => hne (by rw [hk, e]))
  clear hW c0 c1 c2 f0 f1 f2
  have d0 := B0.cell 0
  simp at d0
  go_wp2_with (at_builtin; refine wpList_app (by rfl) (.tmp 28) (.tmp 30) 98 (by rfl) 75 i0 _ 1 24 Try.underlying98 hi hz0 hz1 hz2 rfl (by omega) (.slice a els.length cap) g els (by rfl) (O.alloc _) _ 75 [[.slice xa xn xc]] 1 1 (by rfl) rfl (Blk.new _ _ _) (by simp) (by simp [Value.oneCell']) (by simp) (by simp; omega) (by simp [maxLen]; omega) ?_)
  intro k cap' w' ho' hchg hk
  have q0 := hchg.keep (p := ⟨b, 0, none⟩) ((B0.alloc _).cell 0) hne
  have f0 : w'.frozen? ⟨b, 0, none⟩ = false := (hchg.frozen (p := ⟨b, 0, none⟩) (B0.alloc _).lt hne).trans ((B0.alloc _).frozen 0)
  simp at q0
  have A := added_room Hr.out hlt (x := [.slice xa xn xc]) (by simp [Value.oneCell']) (C.alloc _) (B0.alloc _) hchg ho' (by simpa using hk)
  clear ho' hchg hk
  go_wp2
  go_ret
  exact ⟨rfl, A⟩

set_option maxRecDepth 100000 in
set_option maxHeartbeats 1600000 in
theorem addFull_ints (b : Nat) (g : Option Nat) (most cnt : Nat) (els : List (List Value)) (xa : Option Addr) (xn xc : Nat) (w : World) (hr : RingAt 100 75 1 w b g most cnt els) (hlt : ¬ els.length < most) (hpos : 0 < els.length) (hm : most ≤ 64) (hc : cnt < 1000000) :
    Calls Try.prog 38 #[.pointer (some ⟨b, 0, none⟩), .slice xa xn xc] w fun e w' => e = .returned (.int .i64 0) ∧ Added 100 75 1 w b g most cnt els [.slice xa xn xc] w' := by
  obtain ⟨⟨v, hb, ho⟩, hne, hfew, hone⟩ := id hr
  obtain ⟨i0, hi, hz0, hz1, hz2⟩ := info_parts info_ints
  obtain ⟨k, hk⟩ := ho.pos hpos
  obtain ⟨cap, rfl, hlc, hcm⟩ := (hk ▸ ho).some_form
  have c0 := hb.cell 0
  have c1 := hb.cell 1
  have c2 := hb.cell 2
  have f0 := hb.frozen 0
  have f1 := hb.frozen 1
  have f2 := hb.frozen 2
  have hbl := hb.lt
  simp at c0 c1 c2
  have hlt' : decide ((els.length : Int) < (most : Int)) = false := by simp; omega
  have Hr := Lib.hid hr
  have Hk := Lib.hid hk
  clear hr hk
  go_enter Try.func38, Try.ntmps38
  go_wp2
  go_quiet (fail)
  go_upto_region 7 with (fail)
  obtain ⟨W, hW⟩ : ∃ W, W = ((w.setCell { block := b, off := 2 } (Value.int IntKind.i64 (cnt + 1)))).drewN nq := ⟨_, rfl⟩
  rw [← hW]
  have B0 : Blk W b 100 #[.slice (some ⟨k, 0, none⟩) els.length cap, .int .i64 most, .int .i64 (cnt + 1)] := by subst hW; exact (hb.set_ 2 _).drewN _
  have C : Chg (fun k => k = b) w W := by subst hW; exact ((Chg.refl (fun k => k = b) w).setCell (p := ⟨b, 2, none⟩) (fun _ => rfl) _).drewN _
  have O : Owns W 75 1 (.slice (some ⟨k, 0, none⟩) els.length cap) (some k) els := by rw [← Hk.out]; exact ho.chg C (fun k hk e => hne (by rw [hk, e]))
  clear hW c0 c1 c2 f0 f1 f2
  have d0 := B0.cell 0
  simp at d0
  have hcap1 : (1 : Int) ≤ (cap : Int) := by omega
  have hlen1 : (1 : Int) ≤ (els.length : Int) := by omega
  go_still_tail 9, (by kernel_rfl)
  change wpList _ _ _ _ _ W.drew
  refine wpList_shift rfl (.tmp 37) (.tmp 42) 98 98 rfl 75 i0 1 Try.underlying98 hi hz1 k els.length cap els O.drew rfl hpos hone _ _ _ rfl rfl rfl (fun h => if_neg (by omega)) ?_
  intro w' ho' hchg
  have hkb : ¬ b = k := fun h => hne (by rw [Hk.out, h])
  have B2 := B0.drew.chg hchg hkb
  have q0 := B2.cell 0
  simp at q0
  clear d0
  generalize hsp : (if cap = 1 then some ({ block := k, off := 0 } : Addr) else some { block := k, off := 1 }) = sp
  clear hsp
  go_wp2_with fail
  have hlen' : (els.tail ++ els.drop (els.length - 1)).length = els.length := by simp
  obtain ⟨u0, t0⟩ := ho'.there rfl (i := els.length - 1) (j := 0) (by rw [hlen']; omega) (by omega)
  have g0 := ho'.frozen rfl ((els.length - 1) * 1)
  simp only [Nat.add_zero, Nat.mul_one] at t0 g0
  clear hlen'
  go_still_tail 11, (by kernel_rfl)
  change wpList _ _ _ _ _ w'.drew
  have A := added_full Hr.out hlt hpos (x := [.slice xa xn xc]) (by simp [Value.oneCell']) rfl (C.drew) B0.drew Hk.out hchg.drew ho'.drew rfl
  simp only [World.setCells, Nat.mul_one] at A
  go_wp2_with fail
  go_ret
  exact ⟨rfl, A⟩

theorem add_ints (b : Nat) (g : Option Nat) (most cnt : Nat) (els : List (List Value)) (xa : Option Addr) (xn xc : Nat) (w : World) (hr : RingAt 100 75 1 w b g most cnt els) (h1 : 1 ≤ most) (hm : most ≤ 64) (hc : cnt < 1000000) :
    Calls Try.prog 38 #[.pointer (some ⟨b, 0, none⟩), .slice xa xn xc] w fun e w' => e = .returned (.int .i64 0) ∧ Added 100 75 1 w b g most cnt els [.slice xa xn xc] w' := by
  by_cases h : els.length < most
  · exact addRoom_ints b g most cnt els xa xn xc w hr h hm hc
  · exact addFull_ints b g most cnt els xa xn xc w hr h (by omega) hm hc

theorem addNil_ints (xa : Option Addr) (xn xc : Nat) (w : World) : Calls Try.prog 38 #[.pointer none, .slice xa xn xc] w fun e w' => e = .returned (.int .i64 1) ∧ Chg (fun _ => False) w w' := by
  go_enter Try.func38, Try.ntmps38
  go_wp2
  go_ret
  exact ⟨rfl, Chg.refl _ w⟩

set_option maxRecDepth 100000 in
set_option maxHeartbeats 800000 in
theorem last_ints (b : Nat) (g : Option Nat) (most cnt : Nat) (els : List (List Value)) (x : Value) (w : World) (hr : RingAt 100 75 1 w b g most cnt els) (hx : els[els.length - 1]? = some [x]) (hm : most ≤ 64) :
    Calls Try.prog 36 #[.pointer (some ⟨b, 0, none⟩)] w fun e w' => e = .returned (.tuple #[x, .bool true]) ∧ ∃ n, w' = w.drewN n := by
  obtain ⟨⟨v, hb, ho⟩, hne, hfew, hone⟩ := id hr
  have hpos : 0 < els.length := by have := (List.getElem?_eq_some_iff.1 hx).1; omega
  obtain ⟨k, hk⟩ := ho.pos hpos
  obtain ⟨cap, rfl, hlc, hcm⟩ := (hk ▸ ho).some_form
  have c0 := hb.cell 0
  simp at c0
  have t0 := ho.cell hk hx (j := 0) rfl
  simp only [Nat.add_zero, Nat.mul_one] at t0
  have hz : ((els.length : Int) == 0) = false := by rw [beq_eq_false_iff_ne]; omega
  have hlen1 : (1 : Int) ≤ (els.length : Int) := by omega
  have Hr := Lib.hid hr
  have Hk := Lib.hid hk
  have Hx := Lib.hid hx
  clear hr hk hx
  go_enter Try.func36, Try.ntmps36
  go_wp2_with (go_at_call 37; refine (len_ints b g most cnt els _ Hr.out).mono ?_; rintro e w' ⟨rfl, rfl⟩)
  go_quiet (fail)
  go_wp2_with fail
  go_ret2
  exact ⟨rfl, _, rfl⟩

theorem lastNone_ints (b : Nat) (g : Option Nat) (most cnt : Nat) (w : World) (hr : RingAt 100 75 1 w b g most cnt []) :
    Calls Try.prog 36 #[.pointer (some ⟨b, 0, none⟩)] w fun e w' => e = .returned (.tuple #[.slice none 0 0, .bool false]) ∧ Chg (fun _ => False) w w' := by
  have Hr := Lib.hid hr
  clear hr
  go_enter Try.func36, Try.ntmps36
  go_wp2_with (go_at_call 37; refine (len_ints b g most cnt [] _ (Hr.out.chg (Chg.refl (fun _ => False) w) (fun h => h) (fun _ _ h => h))).mono ?_; rintro e w' ⟨rfl, rfl⟩)
  go_ret2
  exact ⟨rfl, Chg.refl _ _⟩

theorem lastNil_ints (w : World) :
    Calls Try.prog 36 #[.pointer none] w fun e w' => e = .returned (.tuple #[.slice none 0 0, .bool false]) ∧ Chg (fun _ => False) w w' := by
  go_enter Try.func36, Try.ntmps36
  go_wp2_with (go_at_call 37; refine (lenNil_ints _).mono ?_; rintro e w' ⟨rfl, rfl⟩)
  go_ret2
  exact ⟨rfl, Chg.refl _ _⟩

end Go.Proofs.Ytlcanhghhdjleaa
