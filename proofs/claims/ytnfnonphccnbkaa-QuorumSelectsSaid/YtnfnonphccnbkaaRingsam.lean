/- The contracts of package ring's functions at one type (sam). -/
import Derived.Test.YtnfnonphccnbkaaRows
import Derived.Test.YtnfnonphccnbkaaRing
namespace Go.Proofs.Ytnfnonphccnbkaa
open Go.RowKit Go.Chron

theorem info_sam : (Try.prog.info? 28).map (fun i => (i.zero, i.size, i.bytes)) = some (some (.agg #[.int .i64 0, .int .i64 0, .int .i64 0, .int .i64 0]), 4, 32) := by kernel_rfl

set_option maxRecDepth 100000 in
set_option maxHeartbeats 800000 in
theorem clone_sam (a : Option Addr) (n cap : Nat) (els : List (List Value)) (w : World) (hn : n = els.length) (hnil : a = none → n = 0 ∧ cap = 0) (he : ∀ x ∈ els, x.length = 4) (hr : Reads w 4 a els) (h1 : ∀ u ∈ els.flatten, u.oneCell' = true)
    (hb : els.length * 32 ≤ 140737488355328) (h63 : els.length ≤ maxLen) :
    Calls Try.prog 69 #[.slice a n cap] w (Cloned 28 4 w els) := by
  subst hn
  obtain ⟨i0, hi, hz0, hz1, hz2⟩ := info_parts info_sam
  cases a with
  | none =>
    obtain ⟨h0, rfl⟩ := hnil rfl
    have h0' : els = [] := List.eq_nil_of_length_eq_zero h0
    subst h0'
    have hq := fun w => Lib.run_eql_slice_nil (P := Try.prog) w 22 28 none 0 0 0 0 Try.underlying22
    go_enter Try.func69, Try.ntmps69
    go_wp2_with fail
    all_goals (go_ret; exact cloned_nil _ _ _)
  | some ad =>
    have hq := fun w => Lib.run_eql_slice_nil (P := Try.prog) w 22 28 (some ad) els.length cap 0 0 Try.underlying22
    have hfl := hr.flat he
    have Hr := Lib.hid hr
    clear hr
    go_enter Try.func69, Try.ntmps69
    go_wp2_with (at_builtin; refine wpList_app_any (by rfl) (.tmp 5) (.tmp 6) 22 (by rfl) 28 i0 _ 4 32 Try.underlying22 hi hz0 hz1 hz2 rfl (by omega) _ w.heap.size [] (by rfl) (owns_empty _ _ _) ad els els.length cap (by rfl) rfl ?_ he h1 (by simpa using hb) (by simpa using h63) ?_)
    · intro j u hu
      have := hfl j u hu
      rw [World.cell?_alloc_lt _ _ _ (World.block_lt_of_cell? _ _ this)]
      exact this
    · intro k cap' w' ho' hchg hk
      have K := cloned_mk ho' hchg (by simpa using hk)
      clear ho' hchg hk
      go_wp2_with fail
      go_ret
      simpa using K

set_option maxHeartbeats 400000 in
theorem new_sam (m : Nat) (h1 : 1 ≤ m) (h2 : m ≤ 64) (w : World) :
    Calls Try.prog 47 #[.int .i64 m] w fun e w' => e = .returned (.tuple #[.pointer (some ⟨w.heap.size, 0, none⟩), .int .i64 0]) ∧ RingAt 109 28 4 w' w.heap.size none m 0 [] ∧ Chg (fun _ => False) w w' := by
  go_enter Try.func47, Try.ntmps47
  go_wp2
  go_ret2
  exact ⟨rfl, ringAt_new _ _ _ _ _, (Chg.refl _ w).alloc _⟩

theorem clear_sam (b : Nat) (g : Option Nat) (most cnt : Nat) (els : List (List Value)) (w : World) (hr : RingAt 109 28 4 w b g most cnt els) :
    Calls Try.prog 55 #[.pointer (some ⟨b, 0, none⟩)] w fun e w' => e = .returned (.tuple #[]) ∧ RingAt 109 28 4 w' b none most cnt [] ∧ Chg (fun k => k = b) w w' := by
  obtain ⟨v, hb, ho⟩ := hr.ex
  have c0 := hb.cell 0
  have f0 := hb.frozen 0
  simp at c0
  go_enter Try.func55, Try.ntmps55
  go_wp2
  go_end0
  exact ⟨rfl, ringAt_clear hr, Chg.setCell (S := fun k => k = b) (p := ⟨b, 0, none⟩) (Chg.refl _ w) (fun _ => rfl) _⟩

theorem clearNil_sam (w : World) : Calls Try.prog 55 #[.pointer none] w fun e w' => e = .returned (.tuple #[]) ∧ w = w' := by
  go_enter Try.func55, Try.ntmps55
  go_wp2
  go_end0
  exact ⟨rfl, rfl⟩

set_option maxRecDepth 100000 in
set_option maxHeartbeats 1600000 in
theorem addRoom_sam (b : Nat) (g : Option Nat) (most cnt : Nat) (els : List (List Value)) (s0 s1 s2 s3 : Int) (w : World) (hr : RingAt 109 28 4 w b g most cnt els) (hlt : els.length < most) (hm : most ≤ 64) (hc : cnt < 1000000) :
    Calls Try.prog 48 #[.pointer (some ⟨b, 0, none⟩), .agg #[.int .i64 s0, .int .i64 s1, .int .i64 s2, .int .i64 s3]] w fun e w' => e = .returned (.int .i64 0) ∧ Added 109 28 4 w b g most cnt els [.int .i64 s0, .int .i64 s1, .int .i64 s2, .int .i64 s3] w' := by
  obtain ⟨⟨v, hb, ho⟩, hne, hfew, hone⟩ := id hr
  obtain ⟨i0, hi, hz0, hz1, hz2⟩ := info_parts info_sam
  obtain ⟨a, cap, rfl, hlc, hcm, hnil, ha⟩ := ho.form
  have c0 := hb.cell 0
  have c1 := hb.cell 1
  have c2 := hb.cell 2
  have f0 := hb.frozen 0
  have f1 := hb.frozen 1
  have f2 := hb.frozen 2
  have hbl := hb.lt
  simp at c0 c1 c2
  have hlt' : decide ((els.length : Int) < (most : Int)) = true := by simp; omega
  clear ha
  have Hr := Lib.hid hr
  clear hr
  go_enter Try.func48, Try.ntmps48
  go_wp2
  go_quiet (fail)
  go_upto_region 5 with (fail)
  obtain ⟨W, hW⟩ : ∃ W, W = ((w.setCell { block := b, off := 2 } (Value.int IntKind.i64 (cnt + 1))).alloc (Obj.cells #[.int .i64 s0, .int .i64 s1, .int .i64 s2, .int .i64 s3] 28)).drewN nq := ⟨_, rfl⟩
  rw [← hW]
  have B0 : Blk W b 109 #[.slice a els.length cap, .int .i64 most, .int .i64 (cnt + 1)] := by subst hW; exact ((hb.set_ 2 _).alloc _).drewN _
  have B1 : Blk W w.heap.size 28 #[.int .i64 s0, .int .i64 s1, .int .i64 s2, .int .i64 s3] := by subst hW; exact Blk.drewN (by have := Blk.new (w.setCell { block := b, off := 2 } (Value.int IntKind.i64 (cnt + 1))) 28 #[.int .i64 s0, .int .i64 s1, .int .i64 s2, .int .i64 s3]; simpa [World.setCell] using this) _
  have C : Chg (fun k => k = b) w W := by subst hW; exact (((Chg.refl (fun k => k = b) w).setCell (p := ⟨b, 2, none⟩) (fun _ => rfl) _).alloc _).drewN _
  have O : Owns W 28 4 (.slice a els.length cap) g els := ho.chg C (fun k hk e => hne (by rw [hk, e]))
  clear hW c0 c1 c2 f0 f1 f2
  have d0 := B0.cell 0
  have d1 := B1.cell 0
  have d2 := B1.cell 1
  have d3 := B1.cell 2
  have d4 := B1.cell 3
  simp at d0 d1 d2 d3 d4
  have n0 : ∀ o, (W.alloc o).cell? ⟨b, 0, none⟩ = some (.slice a els.length cap) := fun o => (B0.alloc o).cell 0
  go_region_law ((refine step_app (by rfl) (.tmp 28) (.tmp 30) 22 (by rfl) 28 i0 _ 4 32 Try.underlying22 hi hz0 hz1 hz2 rfl (by omega) (.slice a els.length cap) g els (by rfl) (O.drew.alloc _) _ 28 [[.int .i64 s0, .int .i64 s1, .int .i64 s2, .int .i64 s3]] 1 1 (by rfl) rfl (Blk.new _ _ _) (by simp) (by simp [Value.oneCell']) (by simp) (by simp; omega) (by simp [maxLen]; omega) ?_
                  intro k cap' w' ho' hchg hk
                  have q0 := hchg.keep (p := ⟨b, 0, none⟩) ((B0.drew.alloc _).cell 0) hne
                  have f0 : w'.frozen? ⟨b, 0, none⟩ = false := (hchg.frozen (p := ⟨b, 0, none⟩) (B0.drew.alloc _).lt hne).trans ((B0.drew.alloc _).frozen 0)
                  simp at q0))
  all_goals (
    have A := added_room Hr.out hlt (x := [.int .i64 s0, .int .i64 s1, .int .i64 s2, .int .i64 s3]) (by simp [Value.oneCell']) (C.drew.alloc _) (B0.drew.alloc _) hchg ho' hk
    clear ho' hchg hk
    go_wp2
    go_ret
    exact ⟨rfl, A⟩)

set_option maxRecDepth 100000 in
set_option maxHeartbeats 1600000 in
theorem addFull_sam (b : Nat) (g : Option Nat) (most cnt : Nat) (els : List (List Value)) (s0 s1 s2 s3 : Int) (w : World) (hr : RingAt 109 28 4 w b g most cnt els) (hlt : ¬ els.length < most) (hpos : 0 < els.length) (hm : most ≤ 64) (hc : cnt < 1000000) :
    Calls Try.prog 48 #[.pointer (some ⟨b, 0, none⟩), .agg #[.int .i64 s0, .int .i64 s1, .int .i64 s2, .int .i64 s3]] w fun e w' => e = .returned (.int .i64 0) ∧ Added 109 28 4 w b g most cnt els [.int .i64 s0, .int .i64 s1, .int .i64 s2, .int .i64 s3] w' := by
  obtain ⟨⟨v, hb, ho⟩, hne, hfew, hone⟩ := id hr
  obtain ⟨i0, hi, hz0, hz1, hz2⟩ := info_parts info_sam
  obtain ⟨k, hk⟩ := ho.pos hpos
  obtain ⟨cap, rfl, hlc, hcm⟩ := (hk ▸ ho).some_form
  have c0 := hb.cell 0
  have c1 := hb.cell 1
  have c2 := hb.cell 2
  have f0 := hb.frozen 0
  have f1 := hb.frozen 1
  have f2 := hb.frozen 2
  have hbl := hb.lt
  simp at c0 c1 c2
  have hlt' : decide ((els.length : Int) < (most : Int)) = false := by simp; omega
  have Hr := Lib.hid hr
  have Hk := Lib.hid hk
  clear hr hk
  go_enter Try.func48, Try.ntmps48
  go_wp2
  go_quiet (fail)
  go_upto_region 7 with (fail)
  obtain ⟨W, hW⟩ : ∃ W, W = ((w.setCell { block := b, off := 2 } (Value.int IntKind.i64 (cnt + 1))).alloc (Obj.cells #[.int .i64 s0, .int .i64 s1, .int .i64 s2, .int .i64 s3] 28)).drewN nq := ⟨_, rfl⟩
  rw [← hW]
  have B0 : Blk W b 109 #[.slice (some ⟨k, 0, none⟩) els.length cap, .int .i64 most, .int .i64 (cnt + 1)] := by subst hW; exact ((hb.set_ 2 _).alloc _).drewN _
  have B1 : Blk W w.heap.size 28 #[.int .i64 s0, .int .i64 s1, .int .i64 s2, .int .i64 s3] := by subst hW; exact Blk.drewN (by have := Blk.new (w.setCell { block := b, off := 2 } (Value.int IntKind.i64 (cnt + 1))) 28 #[.int .i64 s0, .int .i64 s1, .int .i64 s2, .int .i64 s3]; simpa [World.setCell] using this) _
  have C : Chg (fun k => k = b) w W := by subst hW; exact (((Chg.refl (fun k => k = b) w).setCell (p := ⟨b, 2, none⟩) (fun _ => rfl) _).alloc _).drewN _
  have O : Owns W 28 4 (.slice (some ⟨k, 0, none⟩) els.length cap) (some k) els := by rw [← Hk.out]; exact ho.chg C (fun k hk e => hne (by rw [hk, e]))
  clear hW c0 c1 c2 f0 f1 f2
  have d0 := B0.cell 0
  simp at d0
  have hcap1 : (1 : Int) ≤ (cap : Int) := by omega
  have hlen1 : (1 : Int) ≤ (els.length : Int) := by omega
  go_still_tail 9, (by kernel_rfl)
  change wpList _ _ _ _ _ W.drew
  refine wpList_shift rfl (.tmp 37) (.tmp 42) 22 22 rfl 28 i0 4 Try.underlying22 hi hz1 k els.length cap els O.drew rfl hpos hone _ _ _ rfl rfl rfl (fun h => if_neg (by omega)) ?_
  intro w' ho' hchg
  have hkb : ¬ b = k := fun h => hne (by rw [Hk.out, h])
  have hkn : ¬ w.heap.size = k := fun h => by have := ho.lt k Hk.out; omega
  have B2 := B0.drew.chg hchg hkb
  have B3 := B1.drew.chg hchg hkn
  have q0 := B2.cell 0
  have q1 := B3.cell 0
  have q2 := B3.cell 1
  have q3 := B3.cell 2
  have q4 := B3.cell 3
  simp at q0 q1 q2 q3 q4
  clear d0
  generalize hsp : (if cap = 1 then some ({ block := k, off := 0 } : Addr) else some { block := k, off := 4 }) = sp
  clear hsp
  go_wp2_with fail
  have hlen' : (els.tail ++ els.drop (els.length - 1)).length = els.length := by simp
  obtain ⟨u0, t0⟩ := ho'.there rfl (i := els.length - 1) (j := 0) (by rw [hlen']; omega) (by omega)
  have g0 := ho'.frozen rfl ((els.length - 1) * 4)
  obtain ⟨u1, t1⟩ := ho'.there rfl (i := els.length - 1) (j := 1) (by rw [hlen']; omega) (by omega)
  have g1 := ho'.frozen rfl ((els.length - 1) * 4 + 1)
  obtain ⟨u2, t2⟩ := ho'.there rfl (i := els.length - 1) (j := 2) (by rw [hlen']; omega) (by omega)
  have g2 := ho'.frozen rfl ((els.length - 1) * 4 + 2)
  obtain ⟨u3, t3⟩ := ho'.there rfl (i := els.length - 1) (j := 3) (by rw [hlen']; omega) (by omega)
  have g3 := ho'.frozen rfl ((els.length - 1) * 4 + 3)
  simp only [Nat.add_zero] at t0
  clear hlen'
  go_still_tail 11, (by kernel_rfl)
  change wpList _ _ _ _ _ w'.drew
  have A := added_full Hr.out hlt hpos (x := [.int .i64 s0, .int .i64 s1, .int .i64 s2, .int .i64 s3]) (by simp [Value.oneCell']) rfl (C.drew) B0.drew Hk.out hchg.drew ho'.drew rfl
  simp only [World.setCells] at A
  go_wp2_with fail
  go_ret
  exact ⟨rfl, A⟩

theorem add_sam (b : Nat) (g : Option Nat) (most cnt : Nat) (els : List (List Value)) (s0 s1 s2 s3 : Int) (w : World) (hr : RingAt 109 28 4 w b g most cnt els) (h1 : 1 ≤ most) (hm : most ≤ 64) (hc : cnt < 1000000) :
    Calls Try.prog 48 #[.pointer (some ⟨b, 0, none⟩), .agg #[.int .i64 s0, .int .i64 s1, .int .i64 s2, .int .i64 s3]] w fun e w' => e = .returned (.int .i64 0) ∧ Added 109 28 4 w b g most cnt els [.int .i64 s0, .int .i64 s1, .int .i64 s2, .int .i64 s3] w' := by
  by_cases h : els.length < most
  · exact addRoom_sam b g most cnt els s0 s1 s2 s3 w hr h hm hc
  · exact addFull_sam b g most cnt els s0 s1 s2 s3 w hr h (by omega) hm hc

theorem addNil_sam (s0 s1 s2 s3 : Int) (w : World) : Calls Try.prog 48 #[.pointer none, .agg #[.int .i64 s0, .int .i64 s1, .int .i64 s2, .int .i64 s3]] w fun e w' => e = .returned (.int .i64 1) ∧ Chg (fun _ => False) w w' := by
  go_enter Try.func48, Try.ntmps48
  go_wp2
  go_ret
  exact ⟨rfl, (Chg.refl _ w).alloc _⟩

set_option maxRecDepth 100000 in
set_option maxHeartbeats 400000 in
theorem all_sam (b : Nat) (g : Option Nat) (most cnt : Nat) (els : List (List Value)) (w : World) (hr : RingAt 109 28 4 w b g most cnt els) (hm : most ≤ 64) :
    Calls Try.prog 53 #[.pointer (some ⟨b, 0, none⟩)] w (Cloned 28 4 w els) := by
  obtain ⟨⟨v, hb, ho⟩, hne, hfew, hone⟩ := id hr
  obtain ⟨a, cap, rfl, hlc, hcm, hnil, ha⟩ := ho.form
  have c0 := hb.cell 0
  simp at c0
  have hR := ho.reads
  rw [← ha] at hR
  have hE := ho.each
  clear ha
  go_enter Try.func53, Try.ntmps53
  go_wp2_with (go_at_call 69; refine (clone_sam a els.length cap els _ rfl (fun h => ⟨by have := hnil h; omega, hnil h⟩) hE hR hone (by omega) (by simp only [maxLen]; omega)).mono ?_)
  rintro e w' ⟨a', cap', g', rfl, K⟩
  go_wp2_with fail
  go_ret
  exact ⟨a', cap', g', rfl, K⟩

theorem allNil_sam (w : World) : Calls Try.prog 53 #[.pointer none] w fun e w' => e = .returned (.slice none 0 0) ∧ w = w' := by
  go_enter Try.func53, Try.ntmps53
  go_wp2
  go_ret
  exact ⟨rfl, rfl⟩

end Go.Proofs.Ytnfnonphccnbkaa
