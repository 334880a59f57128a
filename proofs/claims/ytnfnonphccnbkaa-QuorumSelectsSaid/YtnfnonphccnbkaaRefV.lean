/- The document's Votes (chronobateref12): contract. -/
import Derived.Test.YtnfnonphccnbkaaSts
import Derived.Test.YtnfnonphccnbkaaChooses
import Derived.Test.YtnfnonphccnbkaaRefB
set_option linter.unusedVariables false
namespace Go.Proofs.Ytnfnonphccnbkaa
open Go.RowKit Go.Chron

def RVInv (w : World) (Ls : List (List Sam)) (h life sl : Int) (n : Nat) (i v : Value) (wr : World) : Prop :=
  ∃ (j : Nat) (g : Option Nat), j ≤ n ∧ i = .int .i64 j ∧ Votes60 w wr v g (selOf Ls h life sl j)

set_option maxRecDepth 100000 in
set_option maxHeartbeats 1600000 in
theorem votes45 (a : Option Addr) (n cap : Nat) (S : List Sl) (tm life sl : Int) (hh : In64 tm) (hsl : In64 sl) (w0 w : World) (hI : NestIn w0 a n cap S) (c0 : Chg (fun _ => False) w0 w) (hb : n ≤ 1000000) :
    Calls Try.prog 45 #[.slice a n cap, .int .i64 tm, .int .i64 life, .int .i64 sl] w fun e w' => ∃ v g, e = .returned v ∧ Votes60 w w' v g (selOf (S.map fun t => lastN 8 t.L) tm life sl n) := by
  obtain ⟨i0, hi, hz0, hz1, hz2⟩ := info_parts info_vote60
  have hcap := hI.leE
  have hcm := hI.capE
  have HI := Lib.hid hI
  have HN := Lib.hid hI.lenE
  have HC0 := Lib.hid c0
  have HH := Lib.hid hh
  have HSL := Lib.hid hsl
  obtain ⟨Ls, hLs⟩ : ∃ Ls, Ls = S.map fun t => lastN 8 t.L := ⟨_, rfl⟩
  rw [← hLs]
  have HLS := Lib.hid hLs
  clear hI hh hsl hLs c0
  go_enter Try.func45, Try.ntmps45
  go_wp2_with fail
  go_loopw [10, 9] (fun i v wr => RVInv w Ls tm life sl n i v wr) (fun i _ _ => n - (intOf i).toNat)
  case atStart => exact ⟨0, none, by omega, rfl, ⟨Owns.nil _ _ _, by simp, Chg.refl _ _⟩⟩
  case round =>
    obtain ⟨j, g, hj, rfl, V⟩ := hrel
    by_cases hlt : j < n
    · obtain ⟨t, hS⟩ : ∃ t, S[j]? = some t := ⟨_, List.getElem?_eq_getElem (by rw [← HN.out]; exact hlt)⟩
      have hL : Ls[j]? = some (lastN 8 t.L) := by rw [HLS.out, List.getElem?_map, hS]; rfl
      have hT := HI.out.each t (List.mem_of_getElem? hS)
      obtain ⟨bl, off, rfl, hcell⟩ := HI.out.reads (by rw [List.length_map, ← HN.out]; omega)
      have e0 := V.c.keep (HC0.out.keep (hcell j [slv t] (by rw [List.getElem?_map, hS]; rfl) 0 _ rfl) (fun h => h)) (fun h => h)
      simp only [Nat.mul_one, Nat.add_zero] at e0
      have hjn : (j : Int) < (n : Int) := by omega
      have hvs := selOf_succ (h := tm) (life := life) (sl := sl) hL
      obtain ⟨A, hA⟩ : ∃ A, A = selOf Ls tm life sl j := ⟨_, rfl⟩
      have hAl6 : A.length ≤ 1000000 := by rw [hA]; have := selOf_len Ls tm life sl j; omega
      rw [← hA] at V hvs
      have hRd := (hT.f.reads.chg HC0.out (fun _ _ h => h)).chg V.c (fun _ _ h => h)
      have htl := hT.f.lenE
      rw [List.length_map] at htl
      have HVS := Lib.hid hvs
      have HT := Lib.hid hT
      have HRD := Lib.hid hRd
      have HTL := Lib.hid htl
      obtain ⟨ta, tn, tc, L⟩ := t
      simp only [slv] at e0
      clear hL hcell hvs hA hS hT hRd htl
      go_wp2_with fail
      refine (refBest ta tn tc L HT.out.ok tm life sl HH.out HSL.out _ HTL.out HT.out.f.leE HT.out.f.capE HRD.out).mono ?_
      rintro e wB ⟨rfl, cB⟩
      have V1 := V.chg0 cB
      clear V cB
      cases hb : bestOf ((lastN 8 L).filter (frOf · tm life)) with
      | none =>
        have hv0 : voteOf (lastN 8 L) j tm life sl = [] := by unfold voteOf; rw [hb]
        have HV0 := Lib.hid hv0
        simp only [bestRes]
        have V2 := Lib.hid (V1.chg0 (chg0_alloc wB (Obj.cells #[Value.int IntKind.i64 0, Value.int IntKind.i64 0, Value.int IntKind.i64 0, Value.int IntKind.i64 0] 28)))
        clear hb hv0 V1 e0
        go_wp2_with fail
        go_roundw
        case rel => exact ⟨j + 1, g, by omega, by go_num, by rw [HVS.out, HV0.out, List.append_nil]; exact V2.out⟩
        case measure => simp [intOf]; omega
      | some x =>
        have hv0 : voteOf (lastN 8 L) j tm life sl = [⟨j, x, nowOf x sl⟩] := by unfold voteOf; rw [hb]
        have HV0 := Lib.hid hv0
        simp only [bestRes]
        obtain ⟨N, hN⟩ : ∃ N, N = nowOf x sl := ⟨_, rfl⟩
        rw [← hN] at hv0 ⊢
        have HV0 := Lib.hid hv0
        have V2 := (V1.chg0 (chg0_alloc wB (Obj.cells #[Value.int IntKind.i64 x.o, Value.int IntKind.i64 x.d, Value.int IntKind.i64 x.t, Value.int IntKind.i64 x.s] 28)))
        have hbX := Blk.new (wB.alloc (Obj.cells #[Value.int IntKind.i64 x.o, Value.int IntKind.i64 x.d, Value.int IntKind.i64 x.t, Value.int IntKind.i64 x.s] 28)) 60 #[Value.int IntKind.i64 (j : Int), Value.int IntKind.i64 x.o, Value.int IntKind.i64 x.d, Value.int IntKind.i64 x.t, Value.int IntKind.i64 x.s, Value.int IntKind.i64 N]
        have hsz : (wB.alloc (Obj.cells #[Value.int IntKind.i64 x.o, Value.int IntKind.i64 x.d, Value.int IntKind.i64 x.t, Value.int IntKind.i64 x.s] 28)).heap.size = wB.heap.size + 1 := by simp
        have V3 := V2.chg0 (chg0_alloc _ (Obj.cells #[Value.int IntKind.i64 (j : Int), Value.int IntKind.i64 x.o, Value.int IntKind.i64 x.d, Value.int IntKind.i64 x.t, Value.int IntKind.i64 x.s, Value.int IntKind.i64 N] 60))
        rw [hsz] at hbX
        clear hb hv0 V1 V2 e0 hN
        go_wp2_with (at_builtin; refine wpList_app (by rfl) (.tmp 33) (.tmp 38) 58 (by rfl) 60 i0 _ 6 48 Try.underlying58 hi hz0 hz1 hz2 rfl (by omega) _ _ _ (by rfl) V3.o _ 60 [votec ⟨j, x, N⟩] 1 1 (by rfl) (by rfl) hbX (by simp [votec]) (by intro u hu; simp only [List.flatten_cons, List.flatten_nil, List.append_nil] at hu; exact votec_one _ u hu) (by simp) (by simp; omega) (by simp [maxLen]; omega) ?_)
        intro k cap' w' ho hc hk
        have hk' : g = some k ∨ ((wB.alloc (Obj.cells #[Value.int IntKind.i64 x.o, Value.int IntKind.i64 x.d, Value.int IntKind.i64 x.t, Value.int IntKind.i64 x.s] 28)).alloc (Obj.cells #[Value.int IntKind.i64 (j : Int), Value.int IntKind.i64 x.o, Value.int IntKind.i64 x.d, Value.int IntKind.i64 x.t, Value.int IntKind.i64 x.s, Value.int IntKind.i64 N] 60)).heap.size ≤ k := by simpa using hk
        have ho' : Owns w' 60 6 (.slice (some ⟨k, 0, none⟩) (A.length + 1) cap') (some k) ((A ++ [(⟨j, x, N⟩ : Vt)]).map votec) := by rw [List.map_append]; exact ho
        have V4 := Lib.hid (V3.add ho' hc hk')
        clear V3 ho ho' hc hk hk' hbX hsz
        go_wp2_with fail
        go_roundw
        case rel => exact ⟨j + 1, some k, by omega, by go_num, by rw [HVS.out, HV0.out]; exact V4.out⟩
        case measure => simp [intOf]; omega
    · obtain rfl : j = n := by omega
      have HV := Lib.hid V
      clear V
      go_wp2_with fail
      go_ret
      exact ⟨_, g, rfl, HV.out⟩
end Go.Proofs.Ytnfnonphccnbkaa
