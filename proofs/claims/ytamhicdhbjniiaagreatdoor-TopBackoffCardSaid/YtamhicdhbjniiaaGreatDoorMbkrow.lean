/- TopBackoff: for every two numbers and whether the server answers, the law returns true, and its arguments read afterwards as they did. Conditions: none but what the card ties (the listed variables hold what the program's text lays). -/
import Derived.Test.YtamhicdhbjniiaaGreatDoorRows
import Derived.Test.YtamhicdhbjniiaaGreatDoorCards
import Derived.Test.YtamhicdhbjniiaaGreatDoorTie
import Derived.Test.YtamhicdhbjniiaaGreatDoorMbk
import Derived.Test.YtamhicdhbjniiaaGreatDoorM48
import Derived.Test.YtamhicdhbjniiaaGreatDoorM11
import Derived.Test.YtamhicdhbjniiaaGreatDoorM02
import Derived.WalkKit
import Derived.ProofKit
import Derived.OpenShut
import Derived.ShutString
import Derived.ChangeOld
import Derived.ChangeSame
import Derived.Below
import Derived.LaidMore
import Derived.LaidHandle
import Derived.Stop.Joined
import Derived.SevenTiedAt
set_option linter.unusedVariables false
set_option maxRecDepth 100000
section
namespace Go.Proofs.YtamhicdhbjniiaaGreatDoor.topBackoff
open Go Go.ChangeShapes Go.WideShapes Go.ChangeAt Go.RowKit
open Go.Chron
theorem own : ownKnob Tryz.prog.godebug = none := by kernel_rfl
theorem laidOut : laidOutB Tryz.prog = true := by kernel_rfl
theorem flat0 : flatList Tryz.prog 95 = some [.int .u8, .int .u8] := by kernel_rfl
theorem u8_of {x : Int} (h : (Lit.int .u8 x).wf = true) : 0 ≤ x ∧ x < 256 := by
 unfold Lit.wf at h
 simp [IntKind.min, IntKind.max, IntKind.signed, IntKind.bits] at h
 omega
theorem lifted (os : Os) (started : os.Started) (H : Type) (enc : TypeId × Value → H) :
  ReturnsInHanded {} Tryz.checked os 7 .any (fun w args => (Rows.topBackoffSpec.pre enc Tryz.prog Tryz.f7 [] false w args ∧ laidMetH Tryz.prog LL w) ∧ sizedMet enc Tryz.prog Tryz.f7 (OpenSpec.ofChange Rows.topBackoffSpec) false w args)
   (Rows.topBackoffSpec.post enc Tryz.prog Tryz.f7 false true false false) := by
 refine returnsInHanded_of_change_and (C := Tryz.checked) (X := fun w _ => laidMetH Tryz.prog LL w) (fun _ _ _ hh h => h.of_heap hh) own started (by kernel_rfl) Tryz.func7
  (ChangeSpec.witness_shaped (enc := enc) (C := Tryz.checked) (os := os) (X := fun w _ => laidMetH Tryz.prog LL w) false (wit os) #[.agg #[.int .u8 0, .int .u8 0], .bool false] 8 rfl (World.shaped_of_RefB (by kernel_rfl) (by kernel_rfl)) (by kernel_rfl) (by kernel_rfl) (by kernel_rfl) (wit_met os _)) ?_
 intro W base args ds gs before hval0 hW _ _ hL _
 have hval : ∀ (j : Nat) t v, Tryz.f7.params[j]? = some t → args[j]? = some v → Value.okWide Tryz.prog W .any base t v := hval0
 have hW' := hW
 obtain ⟨p, q, hA0, hV, rfl, hfz, hnd⟩ := hW
 have hA : DataW.TrodAll enc Tryz.prog W 0 (fun _ => true) true Tryz.f7.params.toList args.toList ds p := hA0
 rw [Tryz.params7] at hA hval
 obtain ⟨v0, vs0, d0, ds0, p0, q0, hargs, rfl, rfl, h0, r0⟩ := trodAll_cons hA
 obtain ⟨v1, vs1, d1, ds1, p1, q1, rfl, rfl, rfl, h1, r1⟩ := trodAll_cons r0
 obtain ⟨rfl, rfl, rfl⟩ := trodAll_nil r1
 obtain rfl : args = #[v0, v1] := by cases args; simp_all
 obtain ⟨rfl, rfl⟩ := trodVars_none hV
 have k0 := h0
 have lt0 : ∀ x ∈ p0, x.block < W.heap.size := by obtain ⟨m, hm⟩ := k0; exact DataW.trod_lt m _ _ _ hm
 have k1 := h1
 have lt1 : ∀ x ∈ p1, x.block < W.heap.size := by obtain ⟨m, hm⟩ := k1; exact DataW.trod_lt m _ _ _ hm
 obtain ⟨cs0, rfl, w0⟩ := flat_val flat0 (by have h := hval 0 95 v0 rfl rfl; simp only [Value.okWide, Tryz.underlying95] at h; obtain ⟨cs, h1, h2, _⟩ := h; exact ⟨cs, h1, h2⟩) h0
 obtain ⟨u0, c0, e0, ⟨x0, rfl, wx0⟩, w1⟩ := okAll_cons w0
 obtain ⟨u1, c1, rfl, ⟨x1, rfl, wx1⟩, w2⟩ := okAll_cons w1
 have e2 := okAll_nil w2
 subst e2
 obtain rfl : cs0 = #[.int .u8 x0, .int .u8 x1] := by cases cs0; simp_all
 obtain ⟨b1, rfl, e1, f1⟩ := open_bool Tryz.underlying4 (hval 1 4 v1 rfl rfl) h1
 clear hA0 hval0
 obtain ⟨hLa, hTo⟩ := of_laid hL
 refine (backoff7 hLa hTo x0 x1 (u8_of wx0) (u8_of wx1) b1).mono fun e W' ⟨he, hc⟩ => ?_
 subst he
 have bel : Below W.heap.size W W' := Chg.below hc (Nat.le_refl _) (fun _ _ h => h)
 exact ⟨_, rfl, _, _, _, [], _, [], hW', trodAll_mk1 (shut_bool Tryz.underlying4 _), (trodAll_cons_mk (Below.trod laidOut (by kernel_rfl) (of_decide_eq_true (by kernel_rfl)) k0 bel lt0) (trodAll_cons_mk (Below.trod laidOut (by kernel_rfl) (of_decide_eq_true (by kernel_rfl)) k1 bel lt1) trodAll_mk0)), rfl, bel.frame _, fun h => by cases h⟩
theorem joined : joinedFacts Tryz.checked.prog 7 Tryz.f7 Rows.topBackoffSpec Rows.topBackoffRow = true := by
 unfold joinedFacts
 rw [mayEnterF, liftsFinalF, makeF]
 kernel_rfl
theorem row_holds : Rows.TopBackoffSaid :=
 OpenClaim.holds_of_wide 7 Tryz.f7 rfl rfl rfl rfl rfl rfl rfl ⟨rfl, rfl, rfl, rfl, rfl⟩ rfl rfl rfl rfl rfl (by kernel_rfl) Tryz.func7 joined
  (of_decide_eq_true (by kernel_rfl)) (by unfold Func.isWrapper; first | (rw [if_pos (by decide +kernel)]; kernel_rfl) | (rw [if_neg (by decide +kernel)]; exact ⟨rfl, rfl⟩))
  (fun os started H enc _ => lifted os started H enc)
theorem proved : Rows.TopBackoffCardSaid :=
 Claim7.holds_tied_plain_at .later [] [.data, .data, .data, .data, .sentinel, .sentinel, .widerDeep, .listed, .data, .pinned] true (true, "ffbfaa8faeb3b6336c9dab50d36116b16220f1942b0e079184279ffa015874c8") true
  row_holds (fun _ h => by cases h) (by kernel_rfl) (fun _ h => by cases h) topBackoff_row_tie rfl ⟨rfl, rfl⟩ (by kernel_rfl) rfl
  (fun f fn hf hfn => by
   obtain rfl : f = 7 := Option.some.inj ((show Tryz.prog.funcNamed "chronobate/chronobatetop.TopBackoff" = some 7 by kernel_rfl).symm.trans hf) |>.symm
   obtain rfl : fn = Tryz.f7 := (Option.some.inj (Tryz.func7.symm.trans hfn)).symm
   exact ⟨by kernel_rfl, fun j t ht => by
    rw [Tryz.params7] at ht
    have hm : t ∈ [95, 4] := by simpa using Array.mem_of_getElem? ht
    have hall : ([95, 4].all fun u => !Tryz.prog.wantsStandIn u) = true := by kernel_rfl
    exact (show Tryz.prog.wantsStandIn t = false by simpa using List.all_eq_true.1 hall t hm)⟩)
  (by kernel_rfl)
#print axioms proved
end Go.Proofs.YtamhicdhbjniiaaGreatDoor.topBackoff
end
