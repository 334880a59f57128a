/- The contracts of package ring's functions at one type (u16). -/
import Derived.Test.YtlcanhghhdjleaaRows
import Derived.Test.YtlcanhghhdjleaaRing
namespace Go.Proofs.Ytlcanhghhdjleaa
open Go.RowKit Go.Chron

theorem info_u16 : (Try.prog.info? 48).map (fun i => (i.zero, i.size, i.bytes)) = some (some (.int .u16 0), 1, 2) := by kernel_rfl

set_option maxRecDepth 100000 in
set_option maxHeartbeats 800000 in
theorem clone_u16 (a : Option Addr) (n cap : Nat) (els : List (List Value)) (w : World) (hn : n = els.length) (hnil : a = none → n = 0 ∧ cap = 0) (he : ∀ x ∈ els, x.length = 1) (hr : Reads w 1 a els) (h1 : ∀ u ∈ els.flatten, u.oneCell' = true)
    (hb : els.length * 2 ≤ 140737488355328) (h63 : els.length ≤ maxLen) :
    Calls Try.prog 42 #[.slice a n cap] w (Cloned 48 1 w els) := by
  subst hn
  obtain ⟨i0, hi, hz0, hz1, hz2⟩ := info_parts info_u16
  cases a with
  | none =>
    obtain ⟨h0, rfl⟩ := hnil rfl
    have h0' : els = [] := List.eq_nil_of_length_eq_zero h0
    subst h0'
    have hq := fun w => Lib.run_eql_slice_nil (P := Try.prog) w 43 48 none 0 0 0 0 Try.underlying43
    go_enter Try.func42, Try.ntmps42
    go_wp2_with fail
    all_goals (go_ret; exact cloned_nil _ _ _)
  | some ad =>
    have hq := fun w => Lib.run_eql_slice_nil (P := Try.prog) w 43 48 (some ad) els.length cap 0 0 Try.underlying43
    have hfl := hr.flat he
    have Hr := Lib.hid hr
    clear hr
    go_enter Try.func42, Try.ntmps42
    go_wp2_with (at_builtin; refine wpList_app_any (by rfl) (.tmp 5) (.tmp 6) 43 (by rfl) 48 i0 _ 1 2 Try.underlying43 hi hz0 hz1 hz2 rfl (by omega) _ w.heap.size [] (by rfl) (owns_empty _ _ _) ad els els.length cap (by rfl) rfl ?_ he h1 (by simpa using hb) (by simpa using h63) ?_)
    · intro j u hu
      have := hfl j u hu
      rw [World.cell?_alloc_lt _ _ _ (World.block_lt_of_cell? _ _ this)]
      exact this
    · intro k cap' w' ho' hchg hk
      have K := cloned_mk ho' hchg (by simpa using hk)
      clear ho' hchg hk
      go_wp2_with fail
      go_ret
      simpa using K

set_option maxHeartbeats 400000 in
theorem new_u16 (m : Nat) (h1 : 1 ≤ m) (h2 : m ≤ 64) (w : World) :
    Calls Try.prog 18 #[.int .i64 m] w fun e w' => e = .returned (.tuple #[.pointer (some ⟨w.heap.size, 0, none⟩), .int .i64 0]) ∧ RingAt 93 48 1 w' w.heap.size none m 0 [] ∧ Chg (fun _ => False) w w' := by
  go_enter Try.func18, Try.ntmps18
  go_wp2
  go_ret2
  exact ⟨rfl, ringAt_new _ _ _ _ _, (Chg.refl _ w).alloc _⟩

theorem len_u16 (b : Nat) (g : Option Nat) (most cnt : Nat) (els : List (List Value)) (w : World) (hr : RingAt 93 48 1 w b g most cnt els) :
    Calls Try.prog 22 #[.pointer (some ⟨b, 0, none⟩)] w fun e w' => e = .returned (.int .i64 els.length) ∧ w = w' := by
  obtain ⟨⟨v, hb, ho⟩, hne, hfew, hone⟩ := hr
  obtain ⟨a, cap, rfl, hlc, hcm, hnil, ha⟩ := ho.form
  have c0 := hb.cell 0
  simp at c0
  clear ha
  go_enter Try.func22, Try.ntmps22
  go_wp2
  go_ret
  exact ⟨rfl, rfl⟩

theorem lenNil_u16 (w : World) : Calls Try.prog 22 #[.pointer none] w fun e w' => e = .returned (.int .i64 0) ∧ w = w' := by
  go_enter Try.func22, Try.ntmps22
  go_wp2
  go_ret
  exact ⟨rfl, rfl⟩

theorem count_u16 (b : Nat) (g : Option Nat) (most cnt : Nat) (els : List (List Value)) (w : World) (hr : RingAt 93 48 1 w b g most cnt els) :
    Calls Try.prog 23 #[.pointer (some ⟨b, 0, none⟩)] w fun e w' => e = .returned (.int .i64 cnt) ∧ w = w' := by
  obtain ⟨⟨v, hb, ho⟩, hne, hfew, hone⟩ := hr
  have c2 := hb.cell 2
  simp at c2
  go_enter Try.func23, Try.ntmps23
  go_wp2
  go_ret
  exact ⟨rfl, rfl⟩

theorem countNil_u16 (w : World) : Calls Try.prog 23 #[.pointer none] w fun e w' => e = .returned (.int .i64 0) ∧ w = w' := by
  go_enter Try.func23, Try.ntmps23
  go_wp2
  go_ret
  exact ⟨rfl, rfl⟩

theorem clear_u16 (b : Nat) (g : Option Nat) (most cnt : Nat) (els : List (List Value)) (w : World) (hr : RingAt 93 48 1 w b g most cnt els) :
    Calls Try.prog 21 #[.pointer (some ⟨b, 0, none⟩)] w fun e w' => e = .returned (.tuple #[]) ∧ RingAt 93 48 1 w' b none most cnt [] ∧ Chg (fun k => k = b) w w' := by
  obtain ⟨v, hb, ho⟩ := hr.ex
  have c0 := hb.cell 0
  have f0 := hb.frozen 0
  simp at c0
  go_enter Try.func21, Try.ntmps21
  go_wp2
  go_end0
  exact ⟨rfl, ringAt_clear hr, Chg.setCell (S := fun k => k = b) (p := ⟨b, 0, none⟩) (Chg.refl _ w) (fun _ => rfl) _⟩

theorem clearNil_u16 (w : World) : Calls Try.prog 21 #[.pointer none] w fun e w' => e = .returned (.tuple #[]) ∧ w = w' := by
  go_enter Try.func21, Try.ntmps21
  go_wp2
  go_end0
  exact ⟨rfl, rfl⟩

set_option maxRecDepth 100000 in
set_option maxHeartbeats 1600000 in
theorem addRoom_u16 (b : Nat) (g : Option Nat) (most cnt : Nat) (els : List (List Value)) (x : Int) (w : World) (hr : RingAt 93 48 1 w b g most cnt els) (hlt : els.length < most) (hm : most ≤ 64) (hc : cnt < 1000000) :
    Calls Try.prog 19 #[.pointer (some ⟨b, 0, none⟩), .int .u16 x] w fun e w' => e = .returned (.int .i64 0) ∧ Added 93 48 1 w b g most cnt els [.int .u16 x] w' := by
  obtain ⟨⟨v, hb, ho⟩, hne, hfew, hone⟩ := id hr
  obtain ⟨i0, hi, hz0, hz1, hz2⟩ := info_parts info_u16
  obtain ⟨a, cap, rfl, hlc, hcm, hnil, ha⟩ := ho.form
  have c0 := hb.cell 0
  have c1 := hb.cell 1
  have c2 := hb.cell 2
  have f0 := hb.frozen 0
  have f1 := hb.frozen 1
  have f2 := hb.frozen 2
  have hbl := hb.lt
  simp at c0 c1 c2
  have hlt' : decide ((els.length : Int) < (most : Int)) = true := by simp; omega
  clear ha
  have Hr := Lib.hid hr
  clear hr
  go_enter Try.func19, Try.ntmps19
  go_wp2
  go_quiet (fail)
  go_upto_region 5 with (fail)
  obtain ⟨W, hW⟩ : ∃ W, W = ((w.setCell { block := b, off := 2 } (Value.int IntKind.i64 (cnt + 1)))).drewN nq := ⟨_, rfl⟩
  rw [← hW]
  have B0 : Blk W b 93 #[.slice a els.length cap, .int .i64 most, .int .i64 (cnt + 1)] := by subst hW; exact (hb.set_ 2 _).drewN _
  have C : Chg (fun k => k = b) w W := by subst hW; exact ((Chg.refl (fun k => k = b) w).setCell (p := ⟨b, 2, none⟩) (fun _ => rfl) _).drewN _
  have O : Owns W 48 1 (.slice a els.length cap) g els := ho.chg C (fun k hk e => hne (by rw [hk, e]))
  clear hW c0 c1 c2 f0 f1 f2
  have d0 := B0.cell 0
  simp at d0
  go_wp2_with (at_builtin; refine wpList_app (by rfl) (.tmp 28) (.tmp 30) 43 (by rfl) 48 i0 _ 1 2 Try.underlying43 hi hz0 hz1 hz2 rfl (by omega) (.slice a els.length cap) g els (by rfl) (O.alloc _) _ 48 [[.int .u16 x]] 1 1 (by rfl) rfl (Blk.new _ _ _) (by simp) (by simp [Value.oneCell']) (by simp) (by simp; omega) (by simp [maxLen]; omega) ?_)
  intro k cap' w' ho' hchg hk
  have q0 := hchg.keep (p := ⟨b, 0, none⟩) ((B0.alloc _).cell 0) hne
  have f0 : w'.frozen? ⟨b, 0, none⟩ = false := (hchg.frozen (p := ⟨b, 0, none⟩) (B0.alloc _).lt hne).trans ((B0.alloc _).frozen 0)
  simp at q0
  have A := added_room Hr.out hlt (x := [.int .u16 x]) (by simp [Value.oneCell']) (C.alloc _) (B0.alloc _) hchg ho' (by simpa using hk)
  clear ho' hchg hk
  go_wp2
  go_ret
  exact ⟨rfl, A⟩

set_option maxRecDepth 100000 in
set_option maxHeartbeats 1600000 in
theorem addFull_u16 (b : Nat) (g : Option Nat) (most cnt : Nat) (els : List (List Value)) (x : Int) (w : World) (hr : RingAt 93 48 1 w b g most cnt els) (hlt : ¬ els.length < most) (hpos : 0 < els.length) (hm : most ≤ 64) (hc : cnt < 1000000) :
    Calls Try.prog 19 #[.pointer (some ⟨b, 0, none⟩), .int .u16 x] w fun e w' => e = .returned (.int .i64 0) ∧ Added 93 48 1 w b g most cnt els [.int .u16 x] w' := by
  obtain ⟨⟨v, hb, ho⟩, hne, hfew, hone⟩ := id hr
  obtain ⟨i0, hi, hz0, hz1, hz2⟩ := info_parts info_u16
  obtain ⟨k, hk⟩ := ho.pos hpos
  obtain ⟨cap, rfl, hlc, hcm⟩ := (hk ▸ ho).some_form
  have c0 := hb.cell 0
  have c1 := hb.cell 1
  have c2 := hb.cell 2
  have f0 := hb.frozen 0
  have f1 := hb.frozen 1
  have f2 := hb.frozen 2
  have hbl := hb.lt
  simp at c0 c1 c2
  have hlt' : decide ((els.length : Int) < (most : Int)) = false := by simp; omega
  have Hr := Lib.hid hr
  have Hk := Lib.hid hk
  clear hr hk
  go_enter Try.func19, Try.ntmps19
  go_wp2
  go_quiet (fail)
  go_upto_region 7 with (fail)
  obtain ⟨W, hW⟩ : ∃ W, W = ((w.setCell { block := b, off := 2 } (Value.int IntKind.i64 (cnt + 1)))).drewN nq := ⟨_, rfl⟩
  rw [← hW]
  have B0 : Blk W b 93 #[.slice (some ⟨k, 0, none⟩) els.length cap, .int .i64 most, .int .i64 (cnt + 1)] := by subst hW; exact (hb.set_ 2 _).drewN _
  have C : Chg (fun k => k = b) w W := by subst hW; exact ((Chg.refl (fun k => k = b) w).setCell (p := ⟨b, 2, none⟩) (fun _ => rfl) _).drewN _
  have O : Owns W 48 1 (.slice (some ⟨k, 0, none⟩) els.length cap) (some k) els := by rw [← Hk.out]; exact ho.chg C (fun k hk e => hne (by rw [hk, e]))
  clear hW c0 c1 c2 f0 f1 f2
  have d0 := B0.cell 0
  simp at d0
  have hcap1 : (1 : Int) ≤ (cap : Int) := by omega
  have hlen1 : (1 : Int) ≤ (els.length : Int) := by omega
  go_still_tail 9, (by kernel_rfl)
  change wpList _ _ _ _ _ W.drew
  refine wpList_shift rfl (.tmp 37) (.tmp 42) 43 43 rfl 48 i0 1 Try.underlying43 hi hz1 k els.length cap els O.drew rfl hpos hone _ _ _ rfl rfl rfl (fun h => if_neg (by omega)) ?_
  intro w' ho' hchg
  have hkb : ¬ b = k := fun h => hne (by rw [Hk.out, h])
  have B2 := B0.drew.chg hchg hkb
  have q0 := B2.cell 0
  simp at q0
  clear d0
  generalize hsp : (if cap = 1 then some ({ block := k, off := 0 } : Addr) else some { block := k, off := 1 }) = sp
  clear hsp
  go_wp2_with fail
  have hlen' : (els.tail ++ els.drop (els.length - 1)).length = els.length := by simp
  obtain ⟨u0, t0⟩ := ho'.there rfl (i := els.length - 1) (j := 0) (by rw [hlen']; omega) (by omega)
  have g0 := ho'.frozen rfl ((els.length - 1) * 1)
  simp only [Nat.add_zero, Nat.mul_one] at t0 g0
  clear hlen'
  go_still_tail 11, (by kernel_rfl)
  change wpList _ _ _ _ _ w'.drew
  have A := added_full Hr.out hlt hpos (x := [.int .u16 x]) (by simp [Value.oneCell']) rfl (C.drew) B0.drew Hk.out hchg.drew ho'.drew rfl
  simp only [World.setCells, Nat.mul_one] at A
  go_wp2_with fail
  go_ret
  exact ⟨rfl, A⟩

theorem add_u16 (b : Nat) (g : Option Nat) (most cnt : Nat) (els : List (List Value)) (x : Int) (w : World) (hr : RingAt 93 48 1 w b g most cnt els) (h1 : 1 ≤ most) (hm : most ≤ 64) (hc : cnt < 1000000) :
    Calls Try.prog 19 #[.pointer (some ⟨b, 0, none⟩), .int .u16 x] w fun e w' => e = .returned (.int .i64 0) ∧ Added 93 48 1 w b g most cnt els [.int .u16 x] w' := by
  by_cases h : els.length < most
  · exact addRoom_u16 b g most cnt els x w hr h hm hc
  · exact addFull_u16 b g most cnt els x w hr h (by omega) hm hc

theorem addNil_u16 (x : Int) (w : World) : Calls Try.prog 19 #[.pointer none, .int .u16 x] w fun e w' => e = .returned (.int .i64 1) ∧ Chg (fun _ => False) w w' := by
  go_enter Try.func19, Try.ntmps19
  go_wp2
  go_ret
  exact ⟨rfl, Chg.refl _ w⟩

set_option maxRecDepth 100000 in
set_option maxHeartbeats 800000 in
theorem last_u16 (b : Nat) (g : Option Nat) (most cnt : Nat) (els : List (List Value)) (x : Value) (w : World) (hr : RingAt 93 48 1 w b g most cnt els) (hx : els[els.length - 1]? = some [x]) (hm : most ≤ 64) :
    Calls Try.prog 24 #[.pointer (some ⟨b, 0, none⟩)] w fun e w' => e = .returned (.tuple #[x, .bool true]) ∧ ∃ n, w' = w.drewN n := by
  obtain ⟨⟨v, hb, ho⟩, hne, hfew, hone⟩ := id hr
  have hpos : 0 < els.length := by have := (List.getElem?_eq_some_iff.1 hx).1; omega
  obtain ⟨k, hk⟩ := ho.pos hpos
  obtain ⟨cap, rfl, hlc, hcm⟩ := (hk ▸ ho).some_form
  have c0 := hb.cell 0
  simp at c0
  have t0 := ho.cell hk hx (j := 0) rfl
  simp only [Nat.add_zero, Nat.mul_one] at t0
  have hz : ((els.length : Int) == 0) = false := by rw [beq_eq_false_iff_ne]; omega
  have hlen1 : (1 : Int) ≤ (els.length : Int) := by omega
  have Hr := Lib.hid hr
  have Hk := Lib.hid hk
  have Hx := Lib.hid hx
  clear hr hk hx
  go_enter Try.func24, Try.ntmps24
  go_wp2_with (go_at_call 22; refine (len_u16 b g most cnt els _ Hr.out).mono ?_; rintro e w' ⟨rfl, rfl⟩)
  go_quiet (fail)
  go_wp2_with fail
  go_ret2
  exact ⟨rfl, _, rfl⟩

theorem lastNone_u16 (b : Nat) (g : Option Nat) (most cnt : Nat) (w : World) (hr : RingAt 93 48 1 w b g most cnt []) :
    Calls Try.prog 24 #[.pointer (some ⟨b, 0, none⟩)] w fun e w' => e = .returned (.tuple #[.int .u16 0, .bool false]) ∧ Chg (fun _ => False) w w' := by
  have Hr := Lib.hid hr
  clear hr
  go_enter Try.func24, Try.ntmps24
  go_wp2_with (go_at_call 22; refine (len_u16 b g most cnt [] _ (Hr.out.chg (Chg.refl (fun _ => False) w) (fun h => h) (fun _ _ h => h))).mono ?_; rintro e w' ⟨rfl, rfl⟩)
  go_ret2
  exact ⟨rfl, Chg.refl _ _⟩

theorem lastNil_u16 (w : World) :
    Calls Try.prog 24 #[.pointer none] w fun e w' => e = .returned (.tuple #[.int .u16 0, .bool false]) ∧ Chg (fun _ => False) w w' := by
  go_enter Try.func24, Try.ntmps24
  go_wp2_with (go_at_call 22; refine (lenNil_u16 _).mono ?_; rintro e w' ⟨rfl, rfl⟩)
  go_ret2
  exact ⟨rfl, Chg.refl _ _⟩

set_option maxRecDepth 100000 in
set_option maxHeartbeats 400000 in
theorem all_u16 (b : Nat) (g : Option Nat) (most cnt : Nat) (els : List (List Value)) (w : World) (hr : RingAt 93 48 1 w b g most cnt els) (hm : most ≤ 64) :
    Calls Try.prog 20 #[.pointer (some ⟨b, 0, none⟩)] w (Cloned 48 1 w els) := by
  obtain ⟨⟨v, hb, ho⟩, hne, hfew, hone⟩ := id hr
  obtain ⟨a, cap, rfl, hlc, hcm, hnil, ha⟩ := ho.form
  have c0 := hb.cell 0
  simp at c0
  have hR := ho.reads
  rw [← ha] at hR
  have hE := ho.each
  clear ha
  go_enter Try.func20, Try.ntmps20
  go_wp2_with (go_at_call 42; refine (clone_u16 a els.length cap els _ rfl (fun h => ⟨by have := hnil h; omega, hnil h⟩) hE hR hone (by omega) (by simp only [maxLen]; omega)).mono ?_)
  rintro e w' ⟨a', cap', g', rfl, K⟩
  go_wp2_with fail
  go_ret
  exact ⟨a', cap', g', rfl, K⟩

theorem allNil_u16 (w : World) : Calls Try.prog 20 #[.pointer none] w fun e w' => e = .returned (.slice none 0 0) ∧ w = w' := by
  go_enter Try.func20, Try.ntmps20
  go_wp2
  go_ret
  exact ⟨rfl, rfl⟩

end Go.Proofs.Ytlcanhghhdjleaa
