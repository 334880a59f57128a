/- The document's example of package wake holds; what is told of no queue; WakeNone: the walk. -/
import Derived.Test.YthholmapjbaknaaDue
set_option linter.unusedVariables false
set_option linter.unusedSectionVars false
namespace Go.Chron
open Go Go.RowKit
/-- A queue that was made since w0. -/
structure QNew {κ : Type} [DecidableEq κ] (P : Program) (T k : TypeId) (lit : κ → Lit) (ok : κ → Prop) (w0 w : World) (b m n : Nat) (L : List (Ent κ)) : Prop where
  q : QAt P T k lit ok w b m n L
  hb : w0.heap.size ≤ b
  hm : w0.heap.size ≤ m
  c : Chg (fun _ => False) w0 w
section
variable {κ : Type} [DecidableEq κ] {P : Program} {T k : TypeId} {lit : κ → Lit} {ok : κ → Prop} {w0 w w' : World} {b m n n' : Nat} {L L' : List (Ent κ)} {S : Nat → Prop}
theorem QNew.chg0 (h : QNew P T k lit ok w0 w b m n L) (c : Chg (fun _ => False) w w') : QNew P T k lit ok w0 w' b m n L := ⟨h.q.chg0 c, h.hb, h.hm, h.c.trans c⟩
/-- Something else that was made since has changed. -/
theorem QNew.other (h : QNew P T k lit ok w0 w b m n L) (c : Chg S w w') (hb : ¬ S b) (hm : ¬ S m) (hS : ∀ i, i < w0.heap.size → ¬ S i) : QNew P T k lit ok w0 w' b m n L :=
  ⟨h.q.chg c hb hm, h.hb, h.hm, h.c.trans' c (fun i hi e => hS i hi e)⟩
theorem QNew.set (h : QNew P T k lit ok w0 w b m n L) (q : QAt P T k lit ok w' b m n' L') (c : Chg (fun i => i = b ∨ i = m) w w') : QNew P T k lit ok w0 w' b m n' L' :=
  ⟨q, h.hb, h.hm, h.c.trans' c (fun i hi e => by have := h.hb; have := h.hm; omega)⟩
theorem QNew.drop (h : QNew P T k lit ok w0 w b m n L) (q : QAt P T k lit ok w' b m n' L') (c : Chg (fun i => i = m) w w') : QNew P T k lit ok w0 w' b m n' L' :=
  ⟨q, h.hb, h.hm, h.c.trans' c (fun i hi e => by have := h.hm; omega)⟩
theorem QNew.bel (h : QNew P T k lit ok w0 w b m n L) : Below w0.heap.size w0 w := bel0 (Below.refl _ _) h.c (Nat.le_refl _)
end
end Go.Chron
namespace Go.Proofs.Ythholmapjbaknaa
open Go.RowKit Go.Chron
abbrev QNS (w0 w : World) (b m n : Nat) (L : List (Ent (List UInt8))) : Prop := QNew Try.prog 67 9 Lit.string OkS w0 w b m n L
abbrev QNI (w0 w : World) (b m n : Nat) (L : List (Ent Int)) : Prop := QNew Try.prog 58 2 (Lit.int .i64) In64 w0 w b m n L

set_option maxRecDepth 100000 in
set_option maxHeartbeats 3200000 in
theorem alive9 (w : World) : Calls Try.prog 9 #[] w fun e w' => e = .returned (.bool true) ∧ Chg (fun _ => False) w w' := by
  go_enter Try.func9, Try.ntmps9
  go_wp2_with fail
  refine (newS w).mono ?_
  rintro e w1 ⟨b, m, rfl, q1, hb, hm, hbm, c1⟩
  have Q1 : QNS w w1 b m 0 [] := ⟨q1, hb, hm, c1⟩
  clear q1 hb hm hbm c1
  go_wp2_with fail
  refine (setS b m 0 [] [97] 5 w1 Q1.q (by omega) (by unfold OkS maxLen; simp) ⟨by omega, by omega⟩).mono ?_
  rintro e w2 ⟨rfl, q2, c2⟩
  have Q2 := Q1.set q2 c2
  clear Q1 q2 c2
  go_wp2_with fail
  refine (setS b m _ _ [98] 3 w2 Q2.q (by omega) (by unfold OkS maxLen; simp) ⟨by omega, by omega⟩).mono ?_
  rintro e w3 ⟨rfl, q3, c3⟩
  have Q3 := Q2.set q3 c3
  clear Q2 q3 c3
  go_wp2_with fail
  refine (setS b m _ _ [97] 4 w3 Q3.q (by omega) (by unfold OkS maxLen; simp) ⟨by omega, by omega⟩).mono ?_
  rintro e w4 ⟨rfl, q4, c4⟩
  have Q4 := Q3.set q4 c4
  clear Q3 q4 c4
  have hL : setL (setL (setL ([] : List (Ent (List UInt8))) [97] 5 ((0 : Nat) + 1 : Int)) [98] 3 ((0 + 1 : Nat) + 1 : Int)) [97] 4 ((0 + 1 + 1 : Nat) + 1 : Int) = [⟨[98], 3, 2⟩, ⟨[97], 4, 3⟩] := rfl
  rw [hL] at Q4
  clear hL
  have N4 := nextS b m _ _ w4 Q4.q
  rw [show nextL [(⟨[98], 3, 2⟩ : Ent (List UInt8)), ⟨[97], 4, 3⟩] = 3 from rfl, show anyL [(⟨[98], 3, 2⟩ : Ent (List UInt8)), ⟨[97], 4, 3⟩] = true from rfl] at N4
  go_wp2_with fail
  refine N4.mono ?_
  rintro e w5 ⟨rfl, c5⟩
  have Q5 := Q4.chg0 c5
  clear Q4 c5 N4
  go_wp2_with fail
  refine (dueS b m _ _ 4 w5 Q5.q (by omega)).mono ?_
  rintro e w6 ⟨a, cap, g, R, rfl, hd, ho, -, c6⟩
  have hR : R = [⟨[98], 3, 2⟩, ⟨[97], 4, 3⟩] := hd.unique ⟨List.Perm.refl _, by simp [dueLt]⟩
  subst hR
  have Q6 := Q5.chg0 c6
  clear Q5 c6 hd
  obtain ⟨k, rfl⟩ := ho.pos (by simp)
  obtain ⟨cap', hv, h1, -⟩ := ho.some_form
  simp only [Value.slice.injEq] at hv
  obtain ⟨rfl, -, rfl⟩ := hv
  have k0 := ho.cell rfl (i := 0) (x := [encStr [98]]) rfl (j := 0) rfl
  have k1 := ho.cell rfl (i := 1) (x := [encStr [97]]) rfl (j := 0) rfl
  simp at k0 k1
  have L6 := lenS b m _ _ w6 Q6.q
  have HC := Lib.hid Q6.c
  clear ho Q6 h1
  simp only [List.length_cons, List.length_nil] at *
  go_wp2_with fail
  refine L6.mono ?_
  rintro e w7 ⟨rfl, rfl⟩
  clear L6
  go_wp2_with fail
  go_ret
  exact ⟨rfl, HC.out⟩

/-! ### No queue -/
set_option maxRecDepth 100000 in
set_option maxHeartbeats 800000 in
theorem setN (x d : Int) (w : World) : Calls Try.prog 10 #[.pointer none, .int .i64 x, .int .i64 d] w fun e w' => e = .returned (.tuple #[]) ∧ w = w' := by
  go_enter Try.func10, Try.ntmps10
  go_wp2_with fail
  (try simp only [Exit.inBlock, Exit.then])
  refine bodyPost_ret (results_none rfl _ _ _) rfl ?_
  exact ⟨rfl, rfl⟩
set_option maxRecDepth 100000 in
set_option maxHeartbeats 800000 in
theorem dropN (x : Int) (w : World) : Calls Try.prog 25 #[.pointer none, .int .i64 x] w fun e w' => e = .returned (.tuple #[]) ∧ w = w' := by
  go_enter Try.func25, Try.ntmps25
  go_wp2_with fail
  go_end0
  exact ⟨rfl, rfl⟩
set_option maxRecDepth 100000 in
set_option maxHeartbeats 800000 in
theorem lenN (w : World) : Calls Try.prog 12 #[.pointer none] w fun e w' => e = .returned (.int .i64 0) ∧ w = w' := by
  go_enter Try.func12, Try.ntmps12
  go_wp2_with fail
  go_ret
  exact ⟨rfl, rfl⟩
set_option maxRecDepth 100000 in
set_option maxHeartbeats 800000 in
theorem nextN (w : World) : Calls Try.prog 26 #[.pointer none] w fun e w' => e = .returned (.tuple #[.int .i64 0, .bool false]) ∧ w = w' := by
  go_enter Try.func26, Try.ntmps26
  go_wp2_with fail
  refine (lenN _).mono ?_
  rintro e w1 ⟨rfl, rfl⟩
  go_wp2_with fail
  go_ret2
  exact ⟨rfl, rfl⟩
set_option maxRecDepth 100000 in
set_option maxHeartbeats 800000 in
theorem atN (x : Int) (w : World) : Calls Try.prog 27 #[.pointer none, .int .i64 x] w fun e w' => e = .returned (.tuple #[.int .i64 0, .bool false]) ∧ w = w' := by
  go_enter Try.func27, Try.ntmps27
  go_wp2_with fail
  go_ret2
  exact ⟨rfl, rfl⟩
set_option maxRecDepth 100000 in
set_option maxHeartbeats 800000 in
theorem dueN (h : Int) (w : World) : Calls Try.prog 11 #[.pointer none, .int .i64 h] w fun e w' => e = .returned (.slice none 0 0) ∧ Chg (fun _ => False) w w' := by
  go_enter Try.func11, Try.ntmps11
  go_wp2_with fail
  go_ret
  exact ⟨rfl, chg0_alloc _ _⟩

set_option maxRecDepth 100000 in
set_option maxHeartbeats 3200000 in
theorem wakeNone_walk (x h : Int) (w : World) (hx : In64 x) : Calls Try.prog 6 #[.int .i64 x, .int .i64 h] w fun e w' => e = .returned (.bool true) ∧ Below w.heap.size w w' := by
  have HX := Lib.hid hx
  clear hx
  go_enter Try.func6, Try.ntmps6
  go_wp2_with fail
  refine (setN _ _ _).mono ?_
  rintro e w1 ⟨rfl, rfl⟩
  go_wp2_with fail
  refine (dropN _ _).mono ?_
  rintro e w1 ⟨rfl, rfl⟩
  go_wp2_with fail
  refine (nextN _).mono ?_
  rintro e w1 ⟨rfl, rfl⟩
  go_wp2_with fail
  refine (atN _ _).mono ?_
  rintro e w1 ⟨rfl, rfl⟩
  go_wp2_with fail
  refine (newI w).mono ?_
  rintro e w1 ⟨b, m, rfl, q1, hb, hm, -, c1⟩
  have Q1 : QNI w w1 b m 0 [] := ⟨q1, hb, hm, c1⟩
  clear q1 hb hm c1
  go_wp2_with fail
  refine (lenN _).mono ?_
  rintro e w2 ⟨rfl, rfl⟩
  go_wp2_with fail
  refine (dueN _ _).mono ?_
  rintro e w2 ⟨rfl, c2⟩
  have Q2 := Q1.chg0 c2
  clear Q1 c2
  go_wp2_with fail
  refine (nextI b m 0 [] _ Q2.q).mono ?_
  rintro e w3 ⟨rfl, c3⟩
  have Q3 := Q2.chg0 c3
  clear Q2 c3
  rw [show nextL ([] : List (Ent Int)) = 0 from rfl, show anyL ([] : List (Ent Int)) = false from rfl]
  go_wp2_with fail
  refine (dropI b m 0 [] x _ Q3.q HX.out).mono ?_
  rintro e w4 ⟨rfl, q4, c4⟩
  have Q4 := Q3.drop q4 c4
  rw [show dropL ([] : List (Ent Int)) x = [] from rfl] at Q4
  clear Q3 q4 c4
  go_wp2_with fail
  refine (alive9 _).mono ?_
  rintro e w5 ⟨rfl, c5⟩
  have Q5 := Q4.chg0 c5
  clear Q4 c5
  go_wp2_with fail
  refine (lenI b m 0 [] _ Q5.q).mono ?_
  rintro e w6 ⟨rfl, rfl⟩
  simp only [List.length_nil]
  go_wp2_with fail
  refine (dueI b m 0 [] h _ Q5.q (by omega)).mono ?_
  rintro e w7 ⟨a, cap, g, R, rfl, hd, -, -, c7⟩
  have hR : R = [] := hd.unique (IsDue.nil h)
  subst hR
  have HB := Lib.hid (Q5.chg0 c7).bel
  clear Q5 c7 hd
  simp only [List.length_nil]
  go_wp2_with fail
  go_ret
  exact ⟨rfl, HB.out⟩
end Go.Proofs.Ythholmapjbaknaa
