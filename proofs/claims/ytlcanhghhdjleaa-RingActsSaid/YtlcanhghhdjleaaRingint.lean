/- The contracts of package ring's functions at one type (int). -/
import Derived.Test.YtlcanhghhdjleaaRows
import Derived.Test.YtlcanhghhdjleaaRing
namespace Go.Proofs.Ytlcanhghhdjleaa
open Go.RowKit Go.Chron

theorem info_int : (Try.prog.info? 3).map (fun i => (i.zero, i.size, i.bytes)) = some (some (.int .i64 0), 1, 8) := by kernel_rfl

set_option maxRecDepth 100000 in
set_option maxHeartbeats 800000 in
theorem clone_int (a : Option Addr) (n cap : Nat) (els : List (List Value)) (w : World) (hn : n = els.length) (hnil : a = none → n = 0 ∧ cap = 0) (he : ∀ x ∈ els, x.length = 1) (hr : Reads w 1 a els) (h1 : ∀ u ∈ els.flatten, u.oneCell' = true)
    (hb : els.length * 8 ≤ 140737488355328) (h63 : els.length ≤ maxLen) :
    Calls Try.prog 44 #[.slice a n cap] w (Cloned 3 1 w els) := by
  subst hn
  obtain ⟨i0, hi, hz0, hz1, hz2⟩ := info_parts info_int
  cases a with
  | none =>
    obtain ⟨h0, rfl⟩ := hnil rfl
    have h0' : els = [] := List.eq_nil_of_length_eq_zero h0
    subst h0'
    have hq := fun w => Lib.run_eql_slice_nil (P := Try.prog) w 75 3 none 0 0 0 0 Try.underlying75
    go_enter Try.func44, Try.ntmps44
    go_wp2_with fail
    all_goals (go_ret; exact cloned_nil _ _ _)
  | some ad =>
    have hq := fun w => Lib.run_eql_slice_nil (P := Try.prog) w 75 3 (some ad) els.length cap 0 0 Try.underlying75
    have hfl := hr.flat he
    have Hr := Lib.hid hr
    clear hr
    go_enter Try.func44, Try.ntmps44
    go_wp2_with (at_builtin; refine wpList_app_any (by rfl) (.tmp 5) (.tmp 6) 75 (by rfl) 3 i0 _ 1 8 Try.underlying75 hi hz0 hz1 hz2 rfl (by omega) _ w.heap.size [] (by rfl) (owns_empty _ _ _) ad els els.length cap (by rfl) rfl ?_ he h1 (by simpa using hb) (by simpa using h63) ?_)
    · intro j u hu
      have := hfl j u hu
      rw [World.cell?_alloc_lt _ _ _ (World.block_lt_of_cell? _ _ this)]
      exact this
    · intro k cap' w' ho' hchg hk
      have K := cloned_mk ho' hchg (by simpa using hk)
      clear ho' hchg hk
      go_wp2_with fail
      go_ret
      simpa using K

set_option maxHeartbeats 400000 in
theorem new_int (m : Nat) (h1 : 1 ≤ m) (h2 : m ≤ 64) (w : World) :
    Calls Try.prog 39 #[.int .i64 m] w fun e w' => e = .returned (.tuple #[.pointer (some ⟨w.heap.size, 0, none⟩), .int .i64 0]) ∧ RingAt 102 3 1 w' w.heap.size none m 0 [] ∧ Chg (fun _ => False) w w' := by
  go_enter Try.func39, Try.ntmps39
  go_wp2
  go_ret2
  exact ⟨rfl, ringAt_new _ _ _ _ _, (Chg.refl _ w).alloc _⟩

set_option maxRecDepth 100000 in
set_option maxHeartbeats 1600000 in
theorem addRoom_int (b : Nat) (g : Option Nat) (most cnt : Nat) (els : List (List Value)) (x : Int) (w : World) (hr : RingAt 102 3 1 w b g most cnt els) (hlt : els.length < most) (hm : most ≤ 64) (hc : cnt < 1000000) :
    Calls Try.prog 40 #[.pointer (some ⟨b, 0, none⟩), .int .i64 x] w fun e w' => e = .returned (.int .i64 0) ∧ Added 102 3 1 w b g most cnt els [.int .i64 x] w' := by
  obtain ⟨⟨v, hb, ho⟩, hne, hfew, hone⟩ := id hr
  obtain ⟨i0, hi, hz0, hz1, hz2⟩ := info_parts info_int
  obtain ⟨a, cap, rfl, hlc, hcm, hnil, ha⟩ := ho.form
  have c0 := hb.cell 0
  have c1 := hb.cell 1
  have c2 := hb.cell 2
  have f0 := hb.frozen 0
  have f1 := hb.frozen 1
  have f2 := hb.frozen 2
  have hbl := hb.lt
  simp at c0 c1 c2
  have hlt' : decide ((els.length : Int) < (most : Int)) = true := by simp; omega
  clear ha
  have Hr := Lib.hid hr
  clear hr
  go_enter Try.func40, Try.ntmps40
  go_wp2
  go_quiet (fail)
  go_upto_region 5 with (fail)
  obtain ⟨W, hW⟩ : ∃ W, W = ((w.setCell { block := b, off := 2 } (Value.int IntKind.i64 (cnt + 1)))).drewN nq := ⟨_, rfl⟩
  rw [← hW]
  have B0 : Blk W b 102 #[.slice a els.length cap, .int .i64 most, .int .i64 (cnt + 1)] := by subst hW; exact (hb.set_ 2 _).drewN _
  have C : Chg (fun k => k = b) w W := by subst hW; exact ((Chg.refl (fun k => k = b) w).setCell (p := ⟨b, 2, none⟩) (fun _ => rfl) _).drewN _
  have O : Owns W 3 1 (.slice a els.length cap) g els := ho.chg C (fun k hk e => hne (by rw [hk, e]))
  clear hW c0 c1 c2 f0 f1 f2
  have d0 := B0.cell 0
  simp at d0
  go_wp2_with (at_builtin; refine wpList_app (by rfl) (.tmp 28) (.tmp 30) 75 (by rfl) 3 i0 _ 1 8 Try.underlying75 hi hz0 hz1 hz2 rfl (by omega) (.slice a els.length cap) g els (by rfl) (O.alloc _) _ 3 [[.int .i64 x]] 1 1 (by rfl) rfl (Blk.new _ _ _) (by simp) (by simp [Value.oneCell']) (by simp) (by simp; omega) (by simp [maxLen]; omega) ?_)
  intro k cap' w' ho' hchg hk
  have q0 := hchg.keep (p := ⟨b, 0, none⟩) ((B0.alloc _).cell 0) hne
  have f0 : w'.frozen? ⟨b, 0, none⟩ = false := (hchg.frozen (p := ⟨b, 0, none⟩) (B0.alloc _).lt hne).trans ((B0.alloc _).frozen 0)
  simp at q0
  have A := added_room Hr.out hlt (x := [.int .i64 x]) (by simp [Value.oneCell']) (C.alloc _) (B0.alloc _) hchg ho' (by simpa using hk)
  clear ho' hchg hk
  go_wp2
  go_ret
  exact ⟨rfl, A⟩

set_option maxRecDepth 100000 in
set_option maxHeartbeats 1600000 in
theorem addFull_int (b : Nat) (g : Option Nat) (most cnt : Nat) (els : List (List Value)) (x : Int) (w : World) (hr : RingAt 102 3 1 w b g most cnt els) (hlt : ¬ els.length < most) (hpos : 0 < els.length) (hm : most ≤ 64) (hc : cnt < 1000000) :
    Calls Try.prog 40 #[.pointer (some ⟨b, 0, none⟩), .int .i64 x] w fun e w' => e = .returned (.int .i64 0) ∧ Added 102 3 1 w b g most cnt els [.int .i64 x] w' := by
  obtain ⟨⟨v, hb, ho⟩, hne, hfew, hone⟩ := id hr
  obtain ⟨i0, hi, hz0, hz1, hz2⟩ := info_parts info_int
  obtain ⟨k, hk⟩ := ho.pos hpos
  obtain ⟨cap, rfl, hlc, hcm⟩ := (hk ▸ ho).some_form
  have c0 := hb.cell 0
  have c1 := hb.cell 1
  have c2 := hb.cell 2
  have f0 := hb.frozen 0
  have f1 := hb.frozen 1
  have f2 := hb.frozen 2
  have hbl := hb.lt
  simp at c0 c1 c2
  have hlt' : decide ((els.length : Int) < (most : Int)) = false := by simp; omega
  have Hr := Lib.hid hr
  have Hk := Lib.hid hk
  clear hr hk
  go_enter Try.func40, Try.ntmps40
  go_wp2
  go_quiet (fail)
  go_upto_region 7 with (fail)
  obtain ⟨W, hW⟩ : ∃ W, W = ((w.setCell { block := b, off := 2 } (Value.int IntKind.i64 (cnt + 1)))).drewN nq := ⟨_, rfl⟩
  rw [← hW]
  have B0 : Blk W b 102 #[.slice (some ⟨k, 0, none⟩) els.length cap, .int .i64 most, .int .i64 (cnt + 1)] := by subst hW; exact (hb.set_ 2 _).drewN _
  have C : Chg (fun k => k = b) w W := by subst hW; exact ((Chg.refl (fun k => k = b) w).setCell (p := ⟨b, 2, none⟩) (fun _ => rfl) _).drewN _
  have O : Owns W 3 1 (.slice (some ⟨k, 0, none⟩) els.length cap) (some k) els := by rw [← Hk.out]; exact ho.chg C (fun k hk e => hne (by rw [hk, e]))
  clear hW c0 c1 c2 f0 f1 f2
  have d0 := B0.cell 0
  simp at d0
  have hcap1 : (1 : Int) ≤ (cap : Int) := by omega
  have hlen1 : (1 : Int) ≤ (els.length : Int) := by omega
  go_still_tail 9, (by kernel_rfl)
  change wpList _ _ _ _ _ W.drew
  refine wpList_shift rfl (.tmp 37) (.tmp 42) 75 75 rfl 3 i0 1 Try.underlying75 hi hz1 k els.length cap els O.drew rfl hpos hone _ _ _ rfl rfl rfl (fun h => if_neg (by omega)) ?_
  intro w' ho' hchg
  have hkb : ¬ b = k := fun h => hne (by rw [Hk.out, h])
  have B2 := B0.drew.chg hchg hkb
  have q0 := B2.cell 0
  simp at q0
  clear d0
  generalize hsp : (if cap = 1 then some ({ block := k, off := 0 } : Addr) else some { block := k, off := 1 }) = sp
  clear hsp
  go_wp2_with fail
  have hlen' : (els.tail ++ els.drop (els.length - 1)).length = els.length := by simp
  obtain ⟨u0, t0⟩ := ho'.there rfl (i := els.length - 1) (j := 0) (by rw [hlen']; omega) (by omega)
  have g0 := ho'.frozen rfl ((els.length - 1) * 1)
  simp only [Nat.add_zero, Nat.mul_one] at t0 g0
  clear hlen'
  go_still_tail 11, (by kernel_rfl)
  change wpList _ _ _ _ _ w'.drew
  have A := added_full Hr.out hlt hpos (x := [.int .i64 x]) (by simp [Value.oneCell']) rfl (C.drew) B0.drew Hk.out hchg.drew ho'.drew rfl
  simp only [World.setCells, Nat.mul_one] at A
  go_wp2_with fail
  go_ret
  exact ⟨rfl, A⟩

theorem add_int (b : Nat) (g : Option Nat) (most cnt : Nat) (els : List (List Value)) (x : Int) (w : World) (hr : RingAt 102 3 1 w b g most cnt els) (h1 : 1 ≤ most) (hm : most ≤ 64) (hc : cnt < 1000000) :
    Calls Try.prog 40 #[.pointer (some ⟨b, 0, none⟩), .int .i64 x] w fun e w' => e = .returned (.int .i64 0) ∧ Added 102 3 1 w b g most cnt els [.int .i64 x] w' := by
  by_cases h : els.length < most
  · exact addRoom_int b g most cnt els x w hr h hm hc
  · exact addFull_int b g most cnt els x w hr h (by omega) hm hc

theorem addNil_int (x : Int) (w : World) : Calls Try.prog 40 #[.pointer none, .int .i64 x] w fun e w' => e = .returned (.int .i64 1) ∧ Chg (fun _ => False) w w' := by
  go_enter Try.func40, Try.ntmps40
  go_wp2
  go_ret
  exact ⟨rfl, Chg.refl _ w⟩

set_option maxRecDepth 100000 in
set_option maxHeartbeats 400000 in
theorem all_int (b : Nat) (g : Option Nat) (most cnt : Nat) (els : List (List Value)) (w : World) (hr : RingAt 102 3 1 w b g most cnt els) (hm : most ≤ 64) :
    Calls Try.prog 41 #[.pointer (some ⟨b, 0, none⟩)] w (Cloned 3 1 w els) := by
  obtain ⟨⟨v, hb, ho⟩, hne, hfew, hone⟩ := id hr
  obtain ⟨a, cap, rfl, hlc, hcm, hnil, ha⟩ := ho.form
  have c0 := hb.cell 0
  simp at c0
  have hR := ho.reads
  rw [← ha] at hR
  have hE := ho.each
  clear ha
  go_enter Try.func41, Try.ntmps41
  go_wp2_with (go_at_call 44; refine (clone_int a els.length cap els _ rfl (fun h => ⟨by have := hnil h; omega, hnil h⟩) hE hR hone (by omega) (by simp only [maxLen]; omega)).mono ?_)
  rintro e w' ⟨a', cap', g', rfl, K⟩
  go_wp2_with fail
  go_ret
  exact ⟨a', cap', g', rfl, K⟩

theorem allNil_int (w : World) : Calls Try.prog 41 #[.pointer none] w fun e w' => e = .returned (.slice none 0 0) ∧ w = w' := by
  go_enter Try.func41, Try.ntmps41
  go_wp2
  go_ret
  exact ⟨rfl, rfl⟩

end Go.Proofs.Ytlcanhghhdjleaa
