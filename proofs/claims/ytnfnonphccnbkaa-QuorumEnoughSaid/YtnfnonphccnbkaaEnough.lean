/- QuorumEnough: whether there is a choice hangs on how many vote alone; what it is not on the quorum: the walk. -/
import Derived.Test.YtnfnonphccnbkaaVote
set_option linter.unusedVariables false
namespace Go.Proofs.Ytnfnonphccnbkaa
open Go.RowKit Go.Chron

set_option maxRecDepth 100000 in
set_option maxHeartbeats 3200000 in
theorem quorumEnough_walk (a : Option Addr) (n cap : Nat) (zs : List Int) (q p : Int) (w : World) (hI : IntsIn .i64 w a n cap zs) (hq : (Lit.int .u8 q).wf = true) (hp : (Lit.int .u8 p).wf = true) :
    Calls Try.prog 13 #[.slice a n cap, .int .u8 q, .int .u8 p] w fun e w' => e = .returned (.bool true) ∧ Below w.heap.size w w' := by
  have b8 : ∀ x : Int, (Lit.int .u8 x).wf = true → 0 ≤ x ∧ x ≤ 255 := fun x hx => by
    simp only [Lit.wf, IntKind.min, IntKind.max, IntKind.signed, IntKind.bits, Bool.and_eq_true] at hx
    simp at hx
    omega
  obtain ⟨q1, q2⟩ := b8 q hq
  obtain ⟨p1, p2⟩ := b8 p hp
  have hcm := hI.capE
  have hle := hI.leE
  have HI := Lib.hid hI
  have HN := Lib.hid hI.lenE
  clear hI hq hp b8
  go_enter Try.func13, Try.ntmps13
  go_wp2_with fail
  refine (alive33 _).mono ?_
  rintro e w1 ⟨rfl, c1⟩
  by_cases h100 : 100 < n
  · go_wp2_with fail
    refine (alive33 _).mono ?_
    rintro e w2 ⟨rfl, c2⟩
    have c3 := Lib.hid (bel0 (Below.refl _ _) (c1.trans c2) (Nat.le_refl _))
    clear c1 c2
    go_wp2_with fail
    go_ret
    exact ⟨rfl, c3.out⟩
  · have hn6 : n ≤ 1000000 := by omega
    go_wp2_with fail
    refine (votes35' a n cap zs _ HN.out hle hcm (HI.out.reads.chg c1 (fun _ _ h => h)) hn6).mono ?_
    rintro e w2 ⟨a2, cap2, rfl, k1, k2, hv, c2⟩
    have HV := Lib.hid hv
    have c3 := c1.trans c2
    clear hv c1 c2
    go_wp2_with fail
    refine (choose34' q a2 n cap2 zs _ k1 k2 HV.out hn6).mono ?_
    rintro e w3 ⟨rfl, c4⟩
    have c5 := c3.trans c4
    clear c3 c4 HV k1 k2
    obtain ⟨r, hr⟩ : ∃ r, r = chOf q zs := ⟨_, rfl⟩
    rw [← hr]
    have HR := Lib.hid hr
    clear hr
    go_wp2_with fail
    refine (votes35' a n cap zs _ HN.out hle hcm (HI.out.reads.chg c5 (fun _ _ h => h)) hn6).mono ?_
    rintro e w4 ⟨a3, cap3, rfl, k1, k2, hv, c6⟩
    have HV := Lib.hid hv
    have c7 := c5.trans c6
    clear hv c5 c6
    go_wp2_with fail
    refine (choose34' p a3 n cap3 zs _ k1 k2 HV.out hn6).mono ?_
    rintro e w5 ⟨rfl, c8⟩
    have c9 := Lib.hid (bel0 (Below.refl _ _) (c7.trans c8) (Nat.le_refl _))
    clear c7 c8 HV k1 k2
    have hx := chOf_cases q zs
    have hy := chOf_cases p zs
    rw [← HR.out] at hx
    rw [← HN.out] at hx hy
    rcases hx with ⟨x1, rfl⟩ | ⟨x1, x2, rfl⟩ | ⟨x1, x2, rfl⟩ <;> rcases hy with ⟨y1, hy⟩ | ⟨y1, y2, hy⟩ | ⟨y1, y2, hy⟩ <;> rw [hy] <;> clear hy HR
    all_goals (
      go_wp2_with fail
      go_ret
      exact ⟨rfl, c9.out⟩)

theorem quorumEnough_all (a : Option Addr) (n cap : Nat) (els : List (List Value)) (q p : Int) (w : World) (hI : FlatIn [.int .i64] w a n cap els) (hq : (Lit.int .u8 q).wf = true) (hp : (Lit.int .u8 p).wf = true) :
    Calls Try.prog 13 #[.slice a n cap, .int .u8 q, .int .u8 p] w fun e w' => e = .returned (.bool true) ∧ Below w.heap.size w w' := by
  obtain ⟨zs, h⟩ := ints_in hI
  exact quorumEnough_walk a n cap zs q p w h hq hp
end Go.Proofs.Ytnfnonphccnbkaa
