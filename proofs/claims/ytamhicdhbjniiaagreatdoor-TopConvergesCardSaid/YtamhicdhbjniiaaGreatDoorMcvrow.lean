/- TopConverges: for every path, the law returns true, and its arguments read afterwards as they did. Conditions: none but what the card ties (the listed variables hold what the program's text lays). -/
import Derived.Test.YtamhicdhbjniiaaGreatDoorRows
import Derived.Test.YtamhicdhbjniiaaGreatDoorCards
import Derived.Test.YtamhicdhbjniiaaGreatDoorTie
import Derived.Test.YtamhicdhbjniiaaGreatDoorMcv
import Derived.Test.YtamhicdhbjniiaaGreatDoorMp2
import Derived.Test.YtamhicdhbjniiaaGreatDoorM48
import Derived.Test.YtamhicdhbjniiaaGreatDoorM11
import Derived.Test.YtamhicdhbjniiaaGreatDoorM02
import Derived.WalkKit
import Derived.ProofKit
import Derived.OpenShut
import Derived.ShutString
import Derived.ChangeOld
import Derived.ChangeSame
import Derived.Below
import Derived.LaidMore
import Derived.LaidHandle
import Derived.Stop.Joined
import Derived.SevenTiedAt
set_option linter.unusedVariables false
set_option maxRecDepth 100000
section
namespace Go.Proofs.YtamhicdhbjniiaaGreatDoor.topConverges
open Go Go.ChangeShapes Go.WideShapes Go.ChangeAt Go.RowKit
open Go.Chron
theorem own : ownKnob Tryz.prog.godebug = none := by kernel_rfl
theorem laidOut : laidOutB Tryz.prog = true := by kernel_rfl
theorem lifted (os : Os) (started : os.Started) (H : Type) (enc : TypeId × Value → H) :
  ReturnsInHanded {} Tryz.checked os 3 .any (fun w args => (Rows.topConvergesSpec.pre enc Tryz.prog Tryz.f3 [] false w args ∧ laidMetH Tryz.prog LL w) ∧ sizedMet enc Tryz.prog Tryz.f3 (OpenSpec.ofChange Rows.topConvergesSpec) false w args)
   (Rows.topConvergesSpec.post enc Tryz.prog Tryz.f3 false true false false) := by
 refine returnsInHanded_of_change_and (C := Tryz.checked) (X := fun w _ => laidMetH Tryz.prog LL w) (fun _ _ _ hh h => h.of_heap hh) own started (by kernel_rfl) Tryz.func3
  (ChangeSpec.witness_shaped (enc := enc) (C := Tryz.checked) (os := os) (X := fun w _ => laidMetH Tryz.prog LL w) false (wit os) #[.agg #[.int .u8 0, .int .u8 0, .int .u8 0, .int .u8 0, .int .u8 0, .int .u8 0, .int .u32 0, .int .i32 0, .slice none 0 0, .int .u64 0]] 8 rfl (World.shaped_of_RefB (by kernel_rfl) (by kernel_rfl)) (by kernel_rfl) (by kernel_rfl) (by kernel_rfl) (wit_met os _)) ?_
 intro W base args ds gs before hval0 hW _ _ hL _
 have hval : ∀ (j : Nat) t v, Tryz.f3.params[j]? = some t → args[j]? = some v → Value.okWide Tryz.prog W .any base t v := hval0
 have hW' := hW
 obtain ⟨p, q, hA0, hV, rfl, hfz, hnd⟩ := hW
 have hA : DataW.TrodAll enc Tryz.prog W 0 (fun _ => true) true Tryz.f3.params.toList args.toList ds p := hA0
 rw [Tryz.params3] at hA hval
 obtain ⟨v0, vs0, d0, ds0, p0, q0, hargs, rfl, rfl, h0, r0⟩ := trodAll_cons hA
 obtain ⟨rfl, rfl, rfl⟩ := trodAll_nil r0
 obtain rfl : args = #[v0] := by cases args; simp_all
 obtain ⟨rfl, rfl⟩ := trodVars_none hV
 have k0 := h0
 have lt0 : ∀ x ∈ p0, x.block < W.heap.size := by obtain ⟨m, hm⟩ := k0; exact DataW.trod_lt m _ _ _ hm
 obtain ⟨p, a, cap, o, rfl, hR, hc1, hc2⟩ := path_open (by have h := hval 0 26 v0 rfl rfl; simp only [Value.okWide, Tryz.underlying26] at h; obtain ⟨cs, h1, h2, _⟩ := h; exact ⟨cs, h1, h2⟩) h0
 clear hA0 hval0
 obtain ⟨hLa, hTo⟩ := of_laid hL
 refine (converges3 hLa hTo p o a cap hR hc1 hc2).mono fun e W' ⟨he, hc⟩ => ?_
 subst he
 have bel : Below W.heap.size W W' := Chg.below hc (Nat.le_refl _) (fun _ _ h => h)
 exact ⟨_, rfl, _, _, _, [], _, [], hW', trodAll_mk1 (shut_bool Tryz.underlying4 _), (trodAll_cons_mk (Below.trod laidOut (by kernel_rfl) (of_decide_eq_true (by kernel_rfl)) k0 bel lt0) trodAll_mk0), rfl, bel.frame _, fun h => by cases h⟩
theorem joined : joinedFacts Tryz.checked.prog 3 Tryz.f3 Rows.topConvergesSpec Rows.topConvergesRow = true := by
 unfold joinedFacts
 rw [mayEnterF, liftsFinalF, makeF]
 kernel_rfl
theorem row_holds : Rows.TopConvergesSaid :=
 OpenClaim.holds_of_wide 3 Tryz.f3 rfl rfl rfl rfl rfl rfl rfl ⟨rfl, rfl, rfl, rfl, rfl⟩ rfl rfl rfl rfl rfl (by kernel_rfl) Tryz.func3 joined
  (of_decide_eq_true (by kernel_rfl)) (by unfold Func.isWrapper; first | (rw [if_pos (by decide +kernel)]; kernel_rfl) | (rw [if_neg (by decide +kernel)]; exact ⟨rfl, rfl⟩))
  (fun os started H enc _ => lifted os started H enc)
theorem proved : Rows.TopConvergesCardSaid :=
 Claim7.holds_tied_plain_at .later [] [.data, .data, .data, .data, .sentinel, .sentinel, .widerDeep, .listed, .data, .pinned] true (true, "ffbfaa8faeb3b6336c9dab50d36116b16220f1942b0e079184279ffa015874c8") true
  row_holds (fun _ h => by cases h) (by kernel_rfl) (fun _ h => by cases h) topConverges_row_tie rfl ⟨rfl, rfl⟩ (by kernel_rfl) rfl
  (fun f fn hf hfn => by
   obtain rfl : f = 3 := Option.some.inj ((show Tryz.prog.funcNamed "chronobate/chronobatetop.TopConverges" = some 3 by kernel_rfl).symm.trans hf) |>.symm
   obtain rfl : fn = Tryz.f3 := (Option.some.inj (Tryz.func3.symm.trans hfn)).symm
   exact ⟨by kernel_rfl, fun j t ht => by
    rw [Tryz.params3] at ht
    have hm : t ∈ [26] := by simpa using Array.mem_of_getElem? ht
    have hall : ([26].all fun u => !Tryz.prog.wantsStandIn u) = true := by kernel_rfl
    exact (show Tryz.prog.wantsStandIn t = false by simpa using List.all_eq_true.1 hall t hm)⟩)
  (by kernel_rfl)
#print axioms proved
end Go.Proofs.YtamhicdhbjniiaaGreatDoor.topConverges
end
