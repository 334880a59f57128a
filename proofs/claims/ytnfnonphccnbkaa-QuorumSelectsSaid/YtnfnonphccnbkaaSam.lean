/- What a sample tells: the contracts of package sample, and of the document's answer. -/
import Derived.Test.YtnfnonphccnbkaaSat
set_option linter.unusedVariables false
namespace Go.Chron
open Go Go.RowKit
structure Sam where
  o : Int
  d : Int
  t : Int
  s : Int
deriving DecidableEq
def samc (x : Sam) : List Value := [.int .i64 x.o, .int .i64 x.d, .int .i64 x.t, .int .i64 x.s]
def samv (x : Sam) : Value := .agg #[.int .i64 x.o, .int .i64 x.d, .int .i64 x.t, .int .i64 x.s]
structure Sam.Ok (x : Sam) : Prop where
  o : In64 x.o
  d : In64 x.d
  t : In64 x.t
  s : In64 x.s
/-- Fresh: P8.2. -/
def frOf (x : Sam) (h life : Int) : Bool := decide (x.t ≤ h) && decide (satSub h x.t ≤ life)
def btOf (x y : Sam) : Bool := decide (x.d < y.d) || (decide (x.d = y.d) && decide (y.t < x.t))
def nowOf (x : Sam) (sl : Int) : Int := satSub x.o (satSub sl x.s)
theorem nowOf_in (x : Sam) (sl : Int) : In64 (nowOf x sl) := satSub_in _ _
end Go.Chron
namespace Go.Proofs.Ytnfnonphccnbkaa
open Go.RowKit Go.Chron

theorem hold66 (a b c d : Int) (w : World) : Calls Try.prog 66 #[.agg #[.int .i64 a, .int .i64 b, .int .i64 c, .int .i64 d]] w fun e w' => e = .returned (.agg #[.int .i64 c, .int .i64 b]) ∧ Chg (fun _ => False) w w' := by
  go_enter Try.func66, Try.ntmps66
  go_wp2
  exact bodyPost_ret (v := .agg #[.int .i64 c, .int .i64 b]) (by simp [results, Try.results66, go_sem]) rfl ⟨rfl, by repeat (first | exact Chg.refl _ _ | apply Chg.drewN | apply Chg.drew | apply Chg.alloc)⟩
theorem after67 (a b : Int) (w : World) : Calls Try.prog 67 #[.agg #[.int .i64 a], .agg #[.int .i64 b]] w fun e w' => e = .returned (.bool (decide (b < a))) ∧ Chg (fun _ => False) w w' := by
  go_enter Try.func67, Try.ntmps67
  go_wp2
  go_ret
  exact ⟨rfl, by repeat (first | exact Chg.refl _ _ | apply Chg.drewN | apply Chg.drew | apply Chg.alloc)⟩
theorem since77 (a h : Int) (ha : In64 a) (hh : In64 h) (w : World) : Calls Try.prog 77 #[.agg #[.int .i64 a], .int .i64 h] w fun e w' => e = .returned (.int .i64 (satSub h a)) ∧ Chg (fun _ => False) w w' := by
  have HA := Lib.hid ha
  have HH := Lib.hid hh
  clear ha hh
  go_enter Try.func77, Try.ntmps77
  go_wp2_with fail
  refine (sub68 h a HH.out HA.out _).mono ?_
  rintro e w' ⟨rfl, rfl⟩
  go_wp2_with fail
  go_ret
  exact ⟨rfl, by repeat (first | exact Chg.refl _ _ | apply Chg.drewN | apply Chg.drew | apply Chg.alloc)⟩

set_option maxHeartbeats 800000 in
theorem fresh65 (o d t s h life : Int) (ht : In64 t) (hh : In64 h) (w : World) : Calls Try.prog 65 #[.agg #[.int .i64 o, .int .i64 d, .int .i64 t, .int .i64 s], .int .i64 h, .int .i64 life] w fun e w' =>
    e = .returned (.bool (frOf ⟨o, d, t, s⟩ h life)) ∧ Chg (fun _ => False) w w' := by
  obtain ⟨r, hr⟩ : ∃ r, r = frOf ⟨o, d, t, s⟩ h life := ⟨_, rfl⟩
  have HR := Lib.hid hr
  rw [← hr]
  clear hr
  have HT := Lib.hid ht
  have HH := Lib.hid hh
  clear ht hh
  go_enter Try.func65, Try.ntmps65
  go_wp2_with fail
  refine (hold66 o d t s _).mono ?_
  rintro e w1 ⟨rfl, c1⟩
  have c1' : Chg (fun _ => False) w w1 := ((Chg.refl _ w).alloc _).trans c1
  clear c1
  have b1 := Blk.new w1 114 #[Value.int IntKind.i64 t, Value.int IntKind.i64 d]
  go_wp2_with fail
  refine (after67 t h _).mono ?_
  rintro e w2 ⟨rfl, c2⟩
  have c3 : Chg (fun _ => False) w w2 := (c1'.alloc _).trans c2
  have b2 := b1.chg c2 (fun h => h)
  have x0 := b2.cell 0
  simp at x0
  clear c1' c2 b1 b2
  by_cases hd : h < t
  · have hd' : decide (h < t) = true := by simpa using hd
    have hfr : r = false := by
      rw [HR.out]; unfold frOf; rw [decide_eq_false (by simp; omega)]; rfl
    subst hfr
    go_wp2_with fail
    go_ret
    exact ⟨rfl, c3⟩
  · have hd' : decide (h < t) = false := by simpa using hd
    go_wp2_with fail
    refine (since77 t h HT.out HH.out _).mono ?_
    rintro e w4 ⟨rfl, c4⟩
    have c5 := c3.trans c4
    have hfr : r = decide (satSub h t ≤ life) := by
      rw [HR.out]; unfold frOf; rw [decide_eq_true (by simp; omega)]; rfl
    subst hfr
    clear c3 c4
    go_wp2_with fail
    go_ret
    exact ⟨rfl, c5⟩

set_option maxHeartbeats 800000 in
theorem fresh27 (o d t s h life : Int) (ht : In64 t) (hh : In64 h) (w : World) : Calls Try.prog 27 #[.agg #[.int .i64 o, .int .i64 d, .int .i64 t, .int .i64 s], .int .i64 h, .int .i64 life] w fun e w' =>
    e = .returned (.bool (frOf ⟨o, d, t, s⟩ h life)) ∧ Chg (fun _ => False) w w' := by
  obtain ⟨r, hr⟩ : ∃ r, r = frOf ⟨o, d, t, s⟩ h life := ⟨_, rfl⟩
  have HR := Lib.hid hr
  rw [← hr]
  clear hr
  have HT := Lib.hid ht
  have HH := Lib.hid hh
  clear ht hh
  by_cases hd : t ≤ h
  · have hfr : r = decide (satSub h t ≤ life) := by
      rw [HR.out]; unfold frOf; rw [decide_eq_true (by simp; omega)]; rfl
    subst hfr
    go_enter Try.func27, Try.ntmps27
    go_wp2_with fail
    refine (sub54 h t HH.out HT.out _).mono ?_
    rintro e w' ⟨rfl, rfl⟩
    go_wp2_with fail
    go_ret
    exact ⟨rfl, by repeat (first | exact Chg.refl _ _ | apply Chg.drewN | apply Chg.drew | apply Chg.alloc)⟩
  · have hfr : r = false := by
      rw [HR.out]; unfold frOf; rw [decide_eq_false (by simp; omega)]; rfl
    subst hfr
    go_enter Try.func27, Try.ntmps27
    go_wp2_with fail
    go_ret
    exact ⟨rfl, by repeat (first | exact Chg.refl _ _ | apply Chg.drewN | apply Chg.drew | apply Chg.alloc)⟩

theorem better52 (o d t s o' d' t' s' : Int) (w : World) : Calls Try.prog 52 #[.agg #[.int .i64 o, .int .i64 d, .int .i64 t, .int .i64 s], .agg #[.int .i64 o', .int .i64 d', .int .i64 t', .int .i64 s']] w fun e w' =>
    e = .returned (.bool (btOf ⟨o, d, t, s⟩ ⟨o', d', t', s'⟩)) ∧ Chg (fun _ => False) w w' := by
  obtain ⟨r, hr⟩ : ∃ r, r = btOf ⟨o, d, t, s⟩ ⟨o', d', t', s'⟩ := ⟨_, rfl⟩
  have HR := Lib.hid hr
  rw [← hr]
  clear hr
  by_cases h1 : d < d'
  · have hfr : r = true := by rw [HR.out]; unfold btOf; simp; omega
    subst hfr
    go_enter Try.func52, Try.ntmps52
    go_wp2_with fail
    go_ret
    exact ⟨rfl, by repeat (first | exact Chg.refl _ _ | apply Chg.drewN | apply Chg.drew | apply Chg.alloc)⟩
  · by_cases h2 : d = d'
    · have hfr : r = decide (t' < t) := by rw [HR.out]; show (decide (d < d') || (decide (d = d') && decide (t' < t))) = _; rw [decide_eq_false h1, decide_eq_true h2]; rfl
      subst hfr
      subst h2
      go_enter Try.func52, Try.ntmps52
      go_wp2_with fail
      go_ret
      exact ⟨rfl, by repeat (first | exact Chg.refl _ _ | apply Chg.drewN | apply Chg.drew | apply Chg.alloc)⟩
    · have hfr : r = false := by rw [HR.out]; unfold btOf; simp; omega
      subst hfr
      have h3 : (d == d') = false := by simpa using h2
      go_enter Try.func52, Try.ntmps52
      go_wp2_with fail
      go_ret
      exact ⟨rfl, by repeat (first | exact Chg.refl _ _ | apply Chg.drewN | apply Chg.drew | apply Chg.alloc)⟩

theorem now28 (o d t s sl : Int) (ho : In64 o) (hs : In64 s) (hl : In64 sl) (w : World) : Calls Try.prog 28 #[.agg #[.int .i64 o, .int .i64 d, .int .i64 t, .int .i64 s], .int .i64 sl] w fun e w' =>
    e = .returned (.int .i64 (nowOf ⟨o, d, t, s⟩ sl)) ∧ Chg (fun _ => False) w w' := by
  have HO := Lib.hid ho
  have HS := Lib.hid hs
  have HL := Lib.hid hl
  clear ho hs hl
  go_enter Try.func28, Try.ntmps28
  go_wp2_with fail
  go_quiet (first | (go_at_call_of 54 (Value.int IntKind.i64 sl); exact Calls.quiet_of_same ((sub54 sl s HL.out HS.out _).mono fun _ _ h => ⟨h.1, h.2.symm⟩)) | (go_at_call_of 54 (Value.int IntKind.i64 o); exact Calls.quiet_of_same ((sub54 o (satSub sl s) HO.out (satSub_in _ _) _).mono fun _ _ h => ⟨h.1, h.2.symm⟩)))
  go_wp2_with fail
  go_ret
  exact ⟨rfl, by repeat (first | exact Chg.refl _ _ | apply Chg.drewN | apply Chg.drew | apply Chg.alloc)⟩

theorem now51 (o d t s sl : Int) (ho : In64 o) (hs : In64 s) (hl : In64 sl) (w : World) : Calls Try.prog 51 #[.agg #[.int .i64 o, .int .i64 d, .int .i64 t, .int .i64 s], .int .i64 sl] w fun e w' =>
    e = .returned (.int .i64 (nowOf ⟨o, d, t, s⟩ sl)) ∧ Chg (fun _ => False) w w' := by
  have HO := Lib.hid ho
  have HS := Lib.hid hs
  have HL := Lib.hid hl
  clear ho hs hl
  go_enter Try.func51, Try.ntmps51
  go_wp2_with fail
  go_quiet (first | (go_at_call_of 68 (Value.int IntKind.i64 sl); exact Calls.quiet_of_same ((sub68 sl s HL.out HS.out _).mono fun _ _ h => ⟨h.1, h.2.symm⟩)) | (go_at_call_of 68 (Value.int IntKind.i64 o); exact Calls.quiet_of_same ((sub68 o (satSub sl s) HO.out (satSub_in _ _) _).mono fun _ _ h => ⟨h.1, h.2.symm⟩)))
  go_wp2_with fail
  go_ret
  exact ⟨rfl, by repeat (first | exact Chg.refl _ _ | apply Chg.drewN | apply Chg.drew | apply Chg.alloc)⟩

theorem hold66x (a b c d : Int) (w : World) : Calls Try.prog 66 #[.agg #[.int .i64 a, .int .i64 b, .int .i64 c, .int .i64 d]] w fun e w' => e = .returned (.agg #[.int .i64 c, .int .i64 b]) ∧
    w' = (w.alloc (Obj.cells #[.int .i64 a, .int .i64 b, .int .i64 c, .int .i64 d] 28)).alloc (Obj.cells #[.int .i64 c, .int .i64 b] 114) := by
  go_enter Try.func66, Try.ntmps66
  go_wp2
  exact bodyPost_ret (v := .agg #[.int .i64 c, .int .i64 b]) (by simp [results, Try.results66, go_sem]) rfl ⟨rfl, rfl⟩

end Go.Proofs.Ytnfnonphccnbkaa
