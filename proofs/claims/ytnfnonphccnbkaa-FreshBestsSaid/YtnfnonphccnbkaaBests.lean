/- FreshBests: what is kept is the document's, behind each, and the best one, and its offset now: the walk. -/
import Derived.Test.YtnfnonphccnbkaaMoves
import Derived.Test.YtnfnonphccnbkaaRefB
import Derived.Deep.RegionHeld3
set_option linter.unusedVariables false
namespace Go.Proofs.Ytnfnonphccnbkaa
open Go.RowKit Go.Chron

def BestsInv (w : World) (s b n : Nat) (L : List Sam) (i : Value) (wr : World) : Prop :=
  ∃ (j : Nat) (g : Option Nat), j ≤ n ∧ i = .int .i64 j ∧ StoreW w wr s b g j (lastN 8 (L.take j))
theorem keepN {W0 w' : World} {iA : Nat} {a b c : Value} (h : W0.cell? ⟨iA, 0, none⟩ = some a ∧ W0.cell? ⟨iA, 1, none⟩ = some b ∧ W0.cell? ⟨iA, 2, none⟩ = some c) (k : Chg (fun _ => False) W0 w') :
    (w'.cell? ⟨iA, 0, none⟩ = some a ∧ w'.cell? ⟨iA, 1, none⟩ = some b ∧ w'.cell? ⟨iA, 2, none⟩ = some c) ∧ Chg (fun _ => False) W0 w' :=
  ⟨⟨k.keep h.1 id, k.keep h.2.1 id, k.keep h.2.2 id⟩, k⟩

set_option maxRecDepth 100000 in
set_option maxHeartbeats 6400000 in
theorem freshBests_walk (a : Option Addr) (len cap : Nat) (els : List (List Value)) (n0 n1 n2 : Int) (w : World) (hI : FlatIn [.int .i64, .int .i64, .int .i64, .int .i64] w a len cap els) (h0 : In64 n0) (h1 : In64 n1) (h2 : In64 n2) :
    Calls Try.prog 3 #[.slice a len cap, .agg #[.int .i64 n0, .int .i64 n1, .int .i64 n2]] w fun e w' => e = .returned (.bool true) ∧ Below w.heap.size w w' := by
  obtain ⟨L, rfl, hok⟩ := sams_in hI.ok
  have hc := hI.leE
  have hcm := hI.capE
  have hlenE := hI.lenE
  rw [List.length_map] at hlenE
  have HI := Lib.hid hI
  have HL := Lib.hid hlenE
  have HOK := Lib.hid hok
  have N0 := Lib.hid h0
  have N1 := Lib.hid h1
  have N2 := Lib.hid h2
  clear hI hlenE hok h0 h1 h2
  have bA := Blk.new w 23 #[Value.int IntKind.i64 n0, Value.int IntKind.i64 n1, Value.int IntKind.i64 n2]
  have cA := chg0_alloc w (Obj.cells #[Value.int IntKind.i64 n0, Value.int IntKind.i64 n1, Value.int IntKind.i64 n2] 23)
  go_enter Try.func3, Try.ntmps3
  go_wp2_with fail
  have lA := bA.lt
  generalize w.alloc (Obj.cells #[Value.int IntKind.i64 n0, Value.int IntKind.i64 n1, Value.int IntKind.i64 n2] 23) = wA at *
  obtain ⟨iA, hiA⟩ : ∃ iA, iA = w.heap.size := ⟨_, rfl⟩
  rw [← hiA] at bA lA
  simp only [← hiA]
  have HIA := Lib.hid hiA
  clear hiA
  have sA := cA.size
  refine (storeNew wA).mono ?_
  rintro e w1 ⟨s, b, rfl, st, hs, hb, c1⟩
  have S0 : StoreW wA w1 s b none 0 [] := ⟨st, hb, by simp, bel0 (Below.refl _ _) c1 (Nat.le_refl _)⟩
  clear st hb c1
  go_wp2_with fail
  refine (alive _).mono ?_
  rintro e w2 ⟨rfl, c2⟩
  have S1 := S0.chg0 c2
  clear S0 c2
  by_cases hlen : 100 < len
  · go_wp2_with fail
    refine (alive _).mono ?_
    rintro e w4 ⟨rfl, hc4⟩
    have hB4 := Lib.hid ((bel0 (Below.refl _ _) cA (Nat.le_refl _)).trans ((S1.chg0 hc4).bel.mono cA.size))
    clear S1 hc4
    go_wp2_with fail
    go_ret
    exact ⟨rfl, hB4.out⟩
  · go_wp2_with fail
    go_loopw [32] (fun i wr => BestsInv wA s b len L i wr) (fun i _ => len - (intOf i).toNat)
    case atStart => exact ⟨0, none, by omega, rfl, S1⟩
    case round =>
      clear S1
      obtain ⟨j, g, hj, rfl, S1⟩ := hrel
      by_cases hlt : j < len
      · obtain ⟨x, hx⟩ : ∃ x, L[j]? = some x := ⟨_, List.getElem?_eq_getElem (by rw [← HL.out]; exact hlt)⟩
        obtain ⟨bl, off, rfl, hbw, hcell⟩ := HI.out.cell (by omega)
        have hbw' : bl < wA.heap.size := by omega
        have hxx : (L.map samc)[j]? = some (samc x) := by rw [List.getElem?_map, hx]; rfl
        have e0 := (S1.bel.cell hbw').trans (cA.keep (hcell j _ hxx 0 _ rfl) (fun h => h))
        have e1 := (S1.bel.cell hbw').trans (cA.keep (hcell j _ hxx 1 _ rfl) (fun h => h))
        have e2 := (S1.bel.cell hbw').trans (cA.keep (hcell j _ hxx 2 _ rfl) (fun h => h))
        have e3 := (S1.bel.cell hbw').trans (cA.keep (hcell j _ hxx 3 _ rfl) (fun h => h))
        simp only [List.length_cons, List.length_nil, Nat.add_zero, Nat.zero_add, Nat.reduceAdd] at e0 e1 e2 e3
        rw [← Nat.add_assoc] at e1 e2 e3
        have hi1 : (j : Int) < (len : Int) := by omega
        have cX := chg0_alloc wr (Obj.cells #[Value.int IntKind.i64 x.o, Value.int IntKind.i64 x.d, Value.int IntKind.i64 x.t, Value.int IntKind.i64 x.s] 28)
        have SX := S1.chg0 cX
        clear S1 cX
        go_wp2_with fail
        refine (storeAdd s b g j _ x.o x.d x.t x.s _ SX.st (by omega)).mono ?_
        rintro e wB ⟨rfl, A⟩
        obtain ⟨k2, S2, -⟩ := SX.add A
        have hP : rpush 8 (lastN 8 (L.take j)) (⟨x.o, x.d, x.t, x.s⟩ : Sam) = lastN 8 (L.take (j + 1)) := by
          rw [List.take_add_one, hx, lastN_push (by omega)]; rfl
        rw [hP] at S2
        have hRd : ∀ W, (Below wA.heap.size wA W) → Reads W 4 (some (⟨bl, off, none⟩ : Addr)) ((L.take (j + 1)).map samc) := by
          intro W hW hp
          refine ⟨bl, off, rfl, fun t y hy q u hu => ?_⟩
          rw [List.getElem?_map] at hy
          cases hLt : (L.take (j + 1))[t]? with
          | none => rw [hLt] at hy; cases hy
          | some z =>
            rw [hLt] at hy
            have hzz : (L.map samc)[t]? = some y := by
              rw [List.getElem?_map]
              rw [List.getElem?_take] at hLt
              split at hLt
              · rw [hLt]; exact hy
              · cases hLt
            have hcc := cA.keep (hcell t _ hzz q _ hu) (fun h => h)
            simp only [List.length_cons, List.length_nil, Nat.zero_add, Nat.reduceAdd] at hcc
            exact (hW.cell hbw').trans hcc
        have HRD := Lib.hid hRd
        clear SX A hP e0 e1 e2 e3 hxx hRd
        obtain ⟨K, hK⟩ : ∃ K, K = lastN 8 (L.take (j + 1)) := ⟨_, rfl⟩
        have hKok : ∀ x ∈ K, x.Ok := fun x hx => by rw [hK] at hx; exact HOK.out x (List.mem_of_mem_take (lastN_mem' hx))
        have HK := Lib.hid hKok
        have HKE := Lib.hid hK
        rw [← hK] at S2
        have hTok : ∀ x ∈ L.take (j + 1), x.Ok := fun x hx => HOK.out x (List.mem_of_mem_take hx)
        have HTOK := Lib.hid hTok
        have hTl : j + 1 = (L.take (j + 1)).length := by rw [List.length_take, ← HL.out]; omega
        have HTL := Lib.hid hTl
        clear hK hKok hTok hTl
        have bA1 := bA.bel S2.bel lA
        have m0 := bA1.cell 0
        have m1 := bA1.cell 1
        have m2 := bA1.cell 2
        simp at m0 m1 m2
        clear bA1
        go_wp2_with fail
        refine (storeBest s b (some k2) _ K HK.out n0 n1 n2 N0.out N2.out _ S2.st).mono ?_
        rintro e wC ⟨rfl, cC⟩
        have S3 := S2.chg0 cC
        clear S2 cC m0 m1 m2
        have js0 : (0 : Int) ≤ (j : Int) + 1 := by omega
        have hwr : IntKind.i64.wrap ((j : Int) + 1) = (j : Int) + 1 := by rw [IntKind.wrap_i64]; omega
        have js3 : j + 1 ≤ cap := by omega
        have js1 : (j : Int) + 1 ≤ (cap : Int) := by omega
        have js2 : ((j : Int) + 1).toNat = j + 1 := by omega
        obtain ⟨r, hr⟩ : ∃ r, r = bestOf (K.filter (frOf · n0 n1)) := ⟨_, rfl⟩
        rw [← hr]
        have HR := Lib.hid hr
        clear hr
        obtain ⟨c, hcd⟩ : ∃ c, c = K.length := ⟨_, rfl⟩
        have hc8 : c ≤ 8 := by rw [hcd, HKE.out, lastN_len]; omega
        have hc1 : 1 ≤ c := by rw [hcd, HKE.out, lastN_len, ← HTL.out]; omega
        have HC := Lib.hid hcd
        clear hcd
        cases r with
        | none =>
          simp only [bestRes]
          have S4 := S3.chg0 (chg0_alloc wC (Obj.cells #[Value.int IntKind.i64 0, Value.int IntKind.i64 0, Value.int IntKind.i64 0, Value.int IntKind.i64 0] 28))
          have bX := Blk.new wC 28 #[Value.int IntKind.i64 0, Value.int IntKind.i64 0, Value.int IntKind.i64 0, Value.int IntKind.i64 0]
          have bA1 := bA.bel S4.bel lA
          have m0 := bA1.cell 0
          have m1 := bA1.cell 1
          have m2 := bA1.cell 2
          simp at m0 m1 m2
          clear bA1 S3
          go_wp2_with fail
          generalize wC.alloc (Obj.cells #[Value.int IntKind.i64 0, Value.int IntKind.i64 0, Value.int IntKind.i64 0, Value.int IntKind.i64 0] 28) = W0 at *
          generalize wC.heap.size = iX at *
          have HN3 := Lib.hid (And.intro m0 (And.intro m1 m2))
          clear m0 m1 m2
          have F24 : ∀ W, Chg (fun _ => False) W0 W → Calls Try.prog 24 #[.slice (some ⟨bl, off, none⟩) (j + 1) cap, .int .i64 n0, .int .i64 n1, .int .i64 n2] W fun e w' => e = .returned (Value.tuple #[Value.agg #[Value.int IntKind.i64 0, Value.int IntKind.i64 0, Value.int IntKind.i64 0, Value.int IntKind.i64 0], Value.int IntKind.i64 0, Value.bool false]) ∧ Chg (fun _ => False) W w' := fun W hW => by
            have hth := refBest (some ⟨bl, off, none⟩) (j + 1) cap (L.take (j + 1)) HTOK.out n0 n1 n2 N0.out N2.out W HTL.out js3 hcm (HRD.out _ (S4.chg0 hW).bel)
            rw [← HKE.out, ← HR.out] at hth
            exact hth
          have HF24 := Lib.hid F24
          clear F24
          refine wp_region_noPanic ?_
          refine wp_region_held_drew (S := (fun w' => (w'.cell? ⟨iA, 0, none⟩ = some (.int .i64 n0) ∧ w'.cell? ⟨iA, 1, none⟩ = some (.int .i64 n1) ∧ w'.cell? ⟨iA, 2, none⟩ = some (.int .i64 n2)) ∧ Chg (fun _ => False) W0 w')) (by kernel_rfl) (keepN HN3.out (Chg.drew (Chg.refl _ _))) (fun hHeld => ?_)
          refine wpAnyH_take (i := 0) (oi := ⟨some 54, _, _, _, _, _⟩) (v := Value.slice (some ⟨bl, off, none⟩) len cap) rfl (by kernel_rfl) (by kernel_rfl) (by kernel_rfl) (fun _ _ _ h => h) (Or.inl ⟨by rfl, fun w hSw => by (try dsimp only at hSw); go_simp⟩) hHeld ?_
          try simp only [Act.put, List.setIfInBounds_toArray, List.set_cons_zero, List.set_cons_succ]
          refine wpAnyH_take (i := 1) (oi := ⟨some 55, _, _, _, _, _⟩) (v := Value.int .i64 j) rfl (by kernel_rfl) (by kernel_rfl) (by kernel_rfl) (fun _ _ _ h => h) (Or.inl ⟨by rfl, fun w hSw => by (try dsimp only at hSw); go_simp⟩) hHeld ?_
          try simp only [Act.put, List.setIfInBounds_toArray, List.set_cons_zero, List.set_cons_succ]
          refine wpAnyH_take (i := 2) (oi := ⟨some 56, _, _, _, _, _⟩) (v := Value.int .i64 ((j : Int) + 1)) rfl (by kernel_rfl) (by kernel_rfl) (by kernel_rfl) (fun _ _ _ h => h) (Or.inl ⟨by rfl, fun w hSw => by (try dsimp only at hSw); go_simp⟩) hHeld ?_
          try simp only [Act.put, List.setIfInBounds_toArray, List.set_cons_zero, List.set_cons_succ]
          refine wpAnyH_take (i := 3) (oi := ⟨some 57, _, _, _, _, _⟩) (v := Value.slice (some ⟨bl, off, none⟩) (j + 1) cap) rfl (by kernel_rfl) (by kernel_rfl) (by kernel_rfl) (fun _ _ _ h => h) (Or.inl ⟨by rfl, fun w hSw => by (try dsimp only at hSw); go_simp⟩) hHeld ?_
          try simp only [Act.put, List.setIfInBounds_toArray, List.set_cons_zero, List.set_cons_succ]
          refine wpAnyH_take (i := 4) (oi := ⟨some 58, _, _, _, _, _⟩) (v := Value.pointer (some ⟨iA, 0, none⟩)) rfl (by kernel_rfl) (by kernel_rfl) (by kernel_rfl) (fun _ _ _ h => h) (Or.inl ⟨by rfl, fun w hSw => by (try dsimp only at hSw); go_simp⟩) hHeld ?_
          try simp only [Act.put, List.setIfInBounds_toArray, List.set_cons_zero, List.set_cons_succ]
          refine wpAnyH_take (i := 5) (oi := ⟨some 59, _, _, _, _, _⟩) (v := Value.int .i64 n0) rfl (by kernel_rfl) (by kernel_rfl) (by kernel_rfl) (fun _ _ _ h => h) (Or.inl ⟨by rfl, fun w hSw => by (try dsimp only at hSw); go_simp⟩) hHeld ?_
          try simp only [Act.put, List.setIfInBounds_toArray, List.set_cons_zero, List.set_cons_succ]
          refine wpAnyH_take (i := 6) (oi := ⟨some 60, _, _, _, _, _⟩) (v := Value.pointer (some ⟨iA, 1, none⟩)) rfl (by kernel_rfl) (by kernel_rfl) (by kernel_rfl) (fun _ _ _ h => h) (Or.inl ⟨by rfl, fun w hSw => by (try dsimp only at hSw); go_simp⟩) hHeld ?_
          try simp only [Act.put, List.setIfInBounds_toArray, List.set_cons_zero, List.set_cons_succ]
          refine wpAnyH_take (i := 7) (oi := ⟨some 61, _, _, _, _, _⟩) (v := Value.int .i64 n1) rfl (by kernel_rfl) (by kernel_rfl) (by kernel_rfl) (fun _ _ _ h => h) (Or.inl ⟨by rfl, fun w hSw => by (try dsimp only at hSw); go_simp⟩) hHeld ?_
          try simp only [Act.put, List.setIfInBounds_toArray, List.set_cons_zero, List.set_cons_succ]
          refine wpAnyH_take (i := 8) (oi := ⟨some 62, _, _, _, _, _⟩) (v := Value.pointer (some ⟨iA, 2, none⟩)) rfl (by kernel_rfl) (by kernel_rfl) (by kernel_rfl) (fun _ _ _ h => h) (Or.inl ⟨by rfl, fun w hSw => by (try dsimp only at hSw); go_simp⟩) hHeld ?_
          try simp only [Act.put, List.setIfInBounds_toArray, List.set_cons_zero, List.set_cons_succ]
          refine wpAnyH_take (i := 9) (oi := ⟨some 63, _, _, _, _, _⟩) (v := Value.int .i64 n2) rfl (by kernel_rfl) (by kernel_rfl) (by kernel_rfl) (fun _ _ _ h => h) (Or.inl ⟨by rfl, fun w hSw => by (try dsimp only at hSw); go_simp⟩) hHeld ?_
          try simp only [Act.put, List.setIfInBounds_toArray, List.set_cons_zero, List.set_cons_succ]
          refine wpAnyH_ready (rs := [10, 15]) (by kernel_rfl) (by simp) ?_
          refine AllReadyH.cons rfl (fun KK hKK => ?_) (AllReadyH.cons rfl (fun KK hKK => ?_) AllReadyH.nil)
          · go_simp
            go_at_call 24
            refine (HF24.out _ (Chg.drew (Chg.refl _ W0))).mono ?_
            rintro e wD ⟨rfl, c24⟩
            have cD := Chg.trans (Chg.drew (Chg.refl _ W0)) c24
            clear c24
            go_wp2_with fail
            refine hKK.out _ _ (keepN HN3.out cD) (fun hHeld2 => ?_)
            clear hKK KK hHeld
            try simp only [Act.put, List.setIfInBounds_toArray, List.set_cons_zero, List.set_cons_succ]
            refine wpAnyH_take (i := 11) (oi := ⟨some 53, _, _, _, _, _⟩) (v := Value.tuple #[Value.agg #[Value.int IntKind.i64 0, Value.int IntKind.i64 0, Value.int IntKind.i64 0, Value.int IntKind.i64 0], Value.int IntKind.i64 0, Value.bool false]) rfl (by kernel_rfl) (by kernel_rfl) (by kernel_rfl) (fun _ _ _ h => h) (Or.inl ⟨by rfl, fun w hSw => by (try dsimp only at hSw); go_simp⟩) hHeld2 ?_
            try simp only [Act.put, List.setIfInBounds_toArray, List.set_cons_zero, List.set_cons_succ]
            refine wpAnyH_take (i := 12) (oi := ⟨some 65, _, _, _, _, _⟩) (v := Value.agg #[Value.int IntKind.i64 0, Value.int IntKind.i64 0, Value.int IntKind.i64 0, Value.int IntKind.i64 0]) rfl (by kernel_rfl) (by kernel_rfl) (by kernel_rfl) (fun _ _ _ h => h) (Or.inl ⟨by rfl, fun w hSw => by (try dsimp only at hSw); go_simp⟩) hHeld2 ?_
            try simp only [Act.put, List.setIfInBounds_toArray, List.set_cons_zero, List.set_cons_succ]
            refine wpAnyH_take (i := 13) (oi := ⟨some 66, _, _, _, _, _⟩) (v := Value.int IntKind.i64 0) rfl (by kernel_rfl) (by kernel_rfl) (by kernel_rfl) (fun _ _ _ h => h) (Or.inl ⟨by rfl, fun w hSw => by (try dsimp only at hSw); go_simp⟩) hHeld2 ?_
            try simp only [Act.put, List.setIfInBounds_toArray, List.set_cons_zero, List.set_cons_succ]
            refine wpAnyH_take (i := 14) (oi := ⟨some 67, _, _, _, _, _⟩) (v := Value.bool false) rfl (by kernel_rfl) (by kernel_rfl) (by kernel_rfl) (fun _ _ _ h => h) (Or.inl ⟨by rfl, fun w hSw => by (try dsimp only at hSw); go_simp⟩) hHeld2 ?_
            try simp only [Act.put, List.setIfInBounds_toArray, List.set_cons_zero, List.set_cons_succ]
            refine wpAnyH_ready (rs := [15]) (by kernel_rfl) (by simp) ?_
            refine AllReadyH.cons rfl (fun KK hKK => ?_) AllReadyH.nil
            go_simp
            refine hKK.out _ _ (keepN HN3.out (cD.alloc _)) (fun hHeld3 => ?_)
            clear hKK KK hHeld2
            try simp only [Act.put, List.setIfInBounds_toArray, List.set_cons_zero, List.set_cons_succ]
            refine wpAnyH_ready (rs := [16]) (by kernel_rfl) (by simp) ?_
            refine AllReadyH.cons rfl (fun KK hKK => ?_) AllReadyH.nil
            go_simp
            refine hKK.out _ _ (keepN HN3.out (cD.alloc _)) (fun hHeld4 => ?_)
            clear hKK KK hHeld3
            try simp only [Act.put, List.setIfInBounds_toArray, List.set_cons_zero, List.set_cons_succ]
            refine wpAnyH_take (i := 17) (oi := ⟨some 12, _, _, _, _, _⟩) (v := Value.int IntKind.i64 0) rfl (by kernel_rfl) (by kernel_rfl) (by kernel_rfl) (fun _ _ _ h => h) (Or.inl ⟨by rfl, fun w hSw => by (try dsimp only at hSw); go_simp⟩) hHeld4 ?_
            try simp only [Act.put, List.setIfInBounds_toArray, List.set_cons_zero, List.set_cons_succ]
            refine wpAnyH_take (i := 18) (oi := ⟨some 13, _, _, _, _, _⟩) (v := Value.bool false) rfl (by kernel_rfl) (by kernel_rfl) (by kernel_rfl) (fun _ _ _ h => h) (Or.inl ⟨by rfl, fun w hSw => by (try dsimp only at hSw); go_simp⟩) hHeld4 ?_
            try simp only [Act.put, List.setIfInBounds_toArray, List.set_cons_zero, List.set_cons_succ]
            refine wpAnyH_done (by kernel_rfl) ?_ _
            refine NoPanic.normal ?_
            clear hHeld4
            have bY := Blk.new wD 28 #[Value.int IntKind.i64 0, Value.int IntKind.i64 0, Value.int IntKind.i64 0, Value.int IntKind.i64 0]
            have cF := cD.alloc (Obj.cells #[Value.int IntKind.i64 0, Value.int IntKind.i64 0, Value.int IntKind.i64 0, Value.int IntKind.i64 0] 28)
            generalize wD.alloc (Obj.cells #[Value.int IntKind.i64 0, Value.int IntKind.i64 0, Value.int IntKind.i64 0, Value.int IntKind.i64 0] 28) = wF at *
            generalize wD.heap.size = iY at *
            clear cD
            have S5 := S4.chg0 cF
            have bX5 := bX.chg cF (fun h => h)
            go_wp2_with fail
            refine wp_region_noPanic ?_
            refine wp_region_held_drew (S := fun w' => Chg (fun _ => False) wF w') (by kernel_rfl) (Chg.drew (Chg.refl _ _)) (fun hHeld => ?_)
            refine wpAnyH_take (i := 0) (oi := ⟨some 68, _, _, _, _, _⟩) (v := Value.pointer (some ⟨s, 0, none⟩)) rfl (by kernel_rfl) (by kernel_rfl) (by kernel_rfl) (fun _ _ _ h => h) (Or.inl ⟨by rfl, fun w hSw => by (try dsimp only at hSw); go_simp⟩) hHeld ?_
            try simp only [Act.put, List.setIfInBounds_toArray, List.set_cons_zero, List.set_cons_succ]
            refine wpAnyH_take (i := 2) (oi := ⟨some 70, _, _, _, _, _⟩) (v := Value.slice (some ⟨bl, off, none⟩) len cap) rfl (by kernel_rfl) (by kernel_rfl) (by kernel_rfl) (fun _ _ _ h => h) (Or.inl ⟨by rfl, fun w hSw => by (try dsimp only at hSw); go_simp⟩) hHeld ?_
            try simp only [Act.put, List.setIfInBounds_toArray, List.set_cons_zero, List.set_cons_succ]
            refine wpAnyH_take (i := 3) (oi := ⟨some 71, _, _, _, _, _⟩) (v := Value.int .i64 j) rfl (by kernel_rfl) (by kernel_rfl) (by kernel_rfl) (fun _ _ _ h => h) (Or.inl ⟨by rfl, fun w hSw => by (try dsimp only at hSw); go_simp⟩) hHeld ?_
            try simp only [Act.put, List.setIfInBounds_toArray, List.set_cons_zero, List.set_cons_succ]
            refine wpAnyH_take (i := 4) (oi := ⟨some 72, _, _, _, _, _⟩) (v := Value.int .i64 ((j : Int) + 1)) rfl (by kernel_rfl) (by kernel_rfl) (by kernel_rfl) (fun _ _ _ h => h) (Or.inl ⟨by rfl, fun w hSw => by (try dsimp only at hSw); go_simp⟩) hHeld ?_
            try simp only [Act.put, List.setIfInBounds_toArray, List.set_cons_zero, List.set_cons_succ]
            refine wpAnyH_take (i := 5) (oi := ⟨some 73, _, _, _, _, _⟩) (v := Value.slice (some ⟨bl, off, none⟩) (j + 1) cap) rfl (by kernel_rfl) (by kernel_rfl) (by kernel_rfl) (fun _ _ _ h => h) (Or.inl ⟨by rfl, fun w hSw => by (try dsimp only at hSw); go_simp⟩) hHeld ?_
            try simp only [Act.put, List.setIfInBounds_toArray, List.set_cons_zero, List.set_cons_succ]
            refine wpAnyH_ready (rs := [1]) (by kernel_rfl) (by simp) ?_
            refine AllReadyH.cons rfl (fun KK hKK => ?_) AllReadyH.nil
            go_simp
            go_at_call 25
            refine (storeAll s b (some k2) _ K _ (S5.chg0 (Chg.drew (Chg.refl _ _))).st).mono ?_
            rintro e wG ⟨aA, capA, gA, rfl, oA, cA', hgA⟩
            have cG := (Chg.drew (Chg.refl _ wF)).trans cA'
            rw [List.length_map, ← HC.out] at oA ⊢
            go_wp2_with fail
            refine hKK.out _ _ cG (fun hHeld2 => ?_)
            clear hKK KK hHeld cA' hgA
            try simp only [Act.put, List.setIfInBounds_toArray, List.set_cons_zero, List.set_cons_succ]
            refine wpAnyH_ready (rs := [6]) (by kernel_rfl) (by simp) ?_
            refine AllReadyH.cons rfl (fun KK hKK => ?_) AllReadyH.nil
            go_simp
            go_at_call 26
            refine (refLast (some ⟨bl, off, none⟩) (j + 1) cap (L.take (j + 1)) _ HTL.out js3 hcm (HRD.out _ (S5.chg0 cG).bel)).mono ?_
            rintro e wG2 ⟨a', cap', rfl, hc1', hc2', hRK, hww⟩
            subst hww
            rw [← HKE.out, ← HC.out] at hc1' ⊢
            rw [← HKE.out] at hRK
            go_wp2_with fail
            refine hKK.out _ _ cG (fun hHeld3 => ?_)
            clear hKK KK hHeld2
            try simp only [Act.put, List.setIfInBounds_toArray, List.set_cons_zero, List.set_cons_succ]
            refine wpAnyH_take (i := 7) (oi := ⟨some 14, _, _, _, _, _⟩) (v := Value.slice aA c capA) rfl (by kernel_rfl) (by kernel_rfl) (by kernel_rfl) (fun _ _ _ h => h) (Or.inl ⟨by rfl, fun w hSw => by (try dsimp only at hSw); go_simp⟩) hHeld3 ?_
            try simp only [Act.put, List.setIfInBounds_toArray, List.set_cons_zero, List.set_cons_succ]
            refine wpAnyH_take (i := 8) (oi := ⟨some 15, _, _, _, _, _⟩) (v := Value.slice a' c cap') rfl (by kernel_rfl) (by kernel_rfl) (by kernel_rfl) (fun _ _ _ h => h) (Or.inl ⟨by rfl, fun w hSw => by (try dsimp only at hSw); go_simp⟩) hHeld3 ?_
            try simp only [Act.put, List.setIfInBounds_toArray, List.set_cons_zero, List.set_cons_succ]
            refine wpAnyH_done (by kernel_rfl) ?_ _
            refine NoPanic.normal ?_
            clear hHeld3
            obtain ⟨kA, rfl⟩ := oA.pos (by rw [List.length_map, ← HC.out]; omega)
            obtain ⟨capA', hv, -, -⟩ := oA.some_form
            simp only [Value.slice.injEq] at hv
            obtain ⟨rfl, -, -⟩ := hv
            obtain ⟨bk, ok', rfl, hck⟩ := hRK _ (HRD.out _ (S5.chg0 cG).bel) (by rw [List.length_map, ← HC.out]; omega)
            clear hRK
            have S6 := S5.chg0 cG
            have bX6 := bX5.chg cG (fun h => h)
            have bY6 := bY.chg cG (fun h => h)
            have x0 := bX6.cell 0
            have x1 := bX6.cell 1
            have x2 := bX6.cell 2
            have x3 := bX6.cell 3
            have y0 := bY6.cell 0
            have y1 := bY6.cell 1
            have y2 := bY6.cell 2
            have y3 := bY6.cell 3
            simp at x0 x1 x2 x3 y0 y1 y2 y3
            clear bX5 bX6 bY6 bY S5 cG cF bX S4
            go_wp2_with fail
            clear x0 x1 x2 x3 y0 y1 y2 y3
            go_loopw [97] (fun i wr => ∃ t d : Nat, t ≤ c ∧ i = .int .i64 t ∧ wr = wG.drewN d) (fun i _ => c - (intOf i).toNat)
            case atStart => exact ⟨0, 0, by omega, rfl, rfl⟩
            case round =>
              obtain ⟨t, d, ht, rfl, rfl⟩ := hrel
              by_cases htl : t < c
              · obtain ⟨y, hy⟩ : ∃ y, K[t]? = some y := ⟨_, List.getElem?_eq_getElem (by rw [← HC.out]; exact htl)⟩
                have hyy : (K.map samc)[t]? = some (samc y) := by rw [List.getElem?_map, hy]; rfl
                have u0 := oA.cell rfl hyy (j := 0) rfl
                have v0 := hck t _ hyy 0 _ rfl
                have u1 := oA.cell rfl hyy (j := 1) rfl
                have v1 := hck t _ hyy 1 _ rfl
                have u2 := oA.cell rfl hyy (j := 2) rfl
                have v2 := hck t _ hyy 2 _ rfl
                have u3 := oA.cell rfl hyy (j := 3) rfl
                have v3 := hck t _ hyy 3 _ rfl
                simp only [Nat.add_zero] at u0 v0
                rw [← Nat.add_assoc] at v1 v2 v3
                have htc : (t : Int) < (c : Int) := by omega
                clear hyy hy
                go_wp2_with fail
                go_region_held3 (fun w' => w'.cell? ⟨kA, t * 4, none⟩ = some (.int .i64 y.o) ∧ w'.cell? ⟨kA, t * 4 + 1, none⟩ = some (.int .i64 y.d) ∧ w'.cell? ⟨kA, t * 4 + 2, none⟩ = some (.int .i64 y.t) ∧ w'.cell? ⟨kA, t * 4 + 3, none⟩ = some (.int .i64 y.s) ∧ w'.cell? ⟨bk, ok' + t * 4, none⟩ = some (.int .i64 y.o) ∧ w'.cell? ⟨bk, ok' + t * 4 + 1, none⟩ = some (.int .i64 y.d) ∧ w'.cell? ⟨bk, ok' + t * 4 + 2, none⟩ = some (.int .i64 y.t) ∧ w'.cell? ⟨bk, ok' + t * 4 + 3, none⟩ = some (.int .i64 y.s)) (exact ⟨u0, u1, u2, u3, v0, v1, v2, v3⟩) (fail)
                go_wp2_with fail
                go_roundw
                case rel => exact ⟨t + 1, d + 1, by omega, by go_num, rfl⟩
                case measure => simp [intOf]; omega
              · have htc : ¬ (t : Int) < (c : Int) := by omega
                go_wp2_with fail
                go_roundw
                case rel => exact ⟨j + 1, some k2, by omega, by go_num, by rw [← HKE.out]; exact S6.chg0 (chg0_drewN _ _)⟩
                case measure => simp [intOf]; omega
          · go_simp
            have sY : W0.heap.size ≤ W0.heap.size := Nat.le_refl _
            have bY := (Blk.new W0 28 #[Value.int IntKind.i64 0, Value.int IntKind.i64 0, Value.int IntKind.i64 0, Value.int IntKind.i64 0]).chg (Chg.drew (Chg.refl (fun _ => False) (W0.alloc (Obj.cells #[Value.int IntKind.i64 0, Value.int IntKind.i64 0, Value.int IntKind.i64 0, Value.int IntKind.i64 0] 28)))) (fun h => h)
            have cY := Chg.drew ((Chg.refl (fun _ => False) W0).alloc (Obj.cells #[Value.int IntKind.i64 0, Value.int IntKind.i64 0, Value.int IntKind.i64 0, Value.int IntKind.i64 0] 28))
            generalize (W0.alloc (Obj.cells #[Value.int IntKind.i64 0, Value.int IntKind.i64 0, Value.int IntKind.i64 0, Value.int IntKind.i64 0] 28)).drew = wY at *
            refine hKK.out _ _ (keepN HN3.out cY) (fun hHeldB => ?_)
            clear hKK KK hHeld
            try simp only [Act.put, List.setIfInBounds_toArray, List.set_cons_zero, List.set_cons_succ]
            refine wpAnyH_ready (rs := [10]) (by kernel_rfl) (by simp) ?_
            refine AllReadyH.cons rfl (fun KK hKK => ?_) AllReadyH.nil
            go_simp
            go_at_call 24
            refine (HF24.out _ cY).mono ?_
            rintro e wD ⟨rfl, c24⟩
            have cD := Chg.trans cY c24
            have cE := c24
            clear c24
            go_wp2_with fail
            refine hKK.out _ _ (keepN HN3.out cD) (fun hHeld2 => ?_)
            clear hKK KK hHeldB
            try simp only [Act.put, List.setIfInBounds_toArray, List.set_cons_zero, List.set_cons_succ]
            refine wpAnyH_take (i := 11) (oi := ⟨some 53, _, _, _, _, _⟩) (v := Value.tuple #[Value.agg #[Value.int IntKind.i64 0, Value.int IntKind.i64 0, Value.int IntKind.i64 0, Value.int IntKind.i64 0], Value.int IntKind.i64 0, Value.bool false]) rfl (by kernel_rfl) (by kernel_rfl) (by kernel_rfl) (fun _ _ _ h => h) (Or.inl ⟨by rfl, fun w hSw => by (try dsimp only at hSw); go_simp⟩) hHeld2 ?_
            try simp only [Act.put, List.setIfInBounds_toArray, List.set_cons_zero, List.set_cons_succ]
            refine wpAnyH_take (i := 12) (oi := ⟨some 65, _, _, _, _, _⟩) (v := Value.agg #[Value.int IntKind.i64 0, Value.int IntKind.i64 0, Value.int IntKind.i64 0, Value.int IntKind.i64 0]) rfl (by kernel_rfl) (by kernel_rfl) (by kernel_rfl) (fun _ _ _ h => h) (Or.inl ⟨by rfl, fun w hSw => by (try dsimp only at hSw); go_simp⟩) hHeld2 ?_
            try simp only [Act.put, List.setIfInBounds_toArray, List.set_cons_zero, List.set_cons_succ]
            refine wpAnyH_take (i := 13) (oi := ⟨some 66, _, _, _, _, _⟩) (v := Value.int IntKind.i64 0) rfl (by kernel_rfl) (by kernel_rfl) (by kernel_rfl) (fun _ _ _ h => h) (Or.inl ⟨by rfl, fun w hSw => by (try dsimp only at hSw); go_simp⟩) hHeld2 ?_
            try simp only [Act.put, List.setIfInBounds_toArray, List.set_cons_zero, List.set_cons_succ]
            refine wpAnyH_take (i := 14) (oi := ⟨some 67, _, _, _, _, _⟩) (v := Value.bool false) rfl (by kernel_rfl) (by kernel_rfl) (by kernel_rfl) (fun _ _ _ h => h) (Or.inl ⟨by rfl, fun w hSw => by (try dsimp only at hSw); go_simp⟩) hHeld2 ?_
            try simp only [Act.put, List.setIfInBounds_toArray, List.set_cons_zero, List.set_cons_succ]
            have bD := bY.chg cE (fun h => h)
            have y0 := bD.cell 0
            have y1 := bD.cell 1
            have y2 := bD.cell 2
            have y3 := bD.cell 3
            have g0 := bD.frozen 0
            have g1 := bD.frozen 1
            have g2 := bD.frozen 2
            have g3 := bD.frozen 3
            simp at y0 y1 y2 y3
            obtain ⟨p8, pc⟩ := put4 bD rfl 0 0 0 0
            have cF := cD.trans' pc (fun i hi e => by omega)
            have HP8 := Lib.hid p8
            have HCF := Lib.hid cF
            clear p8 pc cF
            refine wpAnyH_ready (rs := [16]) (by kernel_rfl) (by simp) ?_
            refine AllReadyH.cons rfl (fun KK hKK => ?_) AllReadyH.nil
            go_simp
            refine hKK.out _ _ (keepN HN3.out HCF.out) (fun hHeld4 => ?_)
            clear hKK KK hHeld2
            try simp only [Act.put, List.setIfInBounds_toArray, List.set_cons_zero, List.set_cons_succ]
            refine wpAnyH_take (i := 17) (oi := ⟨some 12, _, _, _, _, _⟩) (v := Value.int IntKind.i64 0) rfl (by kernel_rfl) (by kernel_rfl) (by kernel_rfl) (fun _ _ _ h => h) (Or.inl ⟨by rfl, fun w hSw => by (try dsimp only at hSw); go_simp⟩) hHeld4 ?_
            try simp only [Act.put, List.setIfInBounds_toArray, List.set_cons_zero, List.set_cons_succ]
            refine wpAnyH_take (i := 18) (oi := ⟨some 13, _, _, _, _, _⟩) (v := Value.bool false) rfl (by kernel_rfl) (by kernel_rfl) (by kernel_rfl) (fun _ _ _ h => h) (Or.inl ⟨by rfl, fun w hSw => by (try dsimp only at hSw); go_simp⟩) hHeld4 ?_
            try simp only [Act.put, List.setIfInBounds_toArray, List.set_cons_zero, List.set_cons_succ]
            refine wpAnyH_done (by kernel_rfl) ?_ _
            refine NoPanic.normal ?_
            clear hHeld4
            have bY := HP8.out
            have cF := HCF.out
            clear HP8 HCF y0 y1 y2 y3 g0 g1 g2 g3 bD cD cE cY sY
            generalize (((wD.setCell ⟨W0.heap.size, 0, none⟩ (.int .i64 0)).setCell ⟨W0.heap.size, 1, none⟩ (.int .i64 0)).setCell ⟨W0.heap.size, 2, none⟩ (.int .i64 0)).setCell ⟨W0.heap.size, 3, none⟩ (.int .i64 0) = wF at bY cF ⊢
            have S5 := S4.chg0 cF
            have bX5 := bX.chg cF (fun h => h)
            go_wp2_with fail
            refine wp_region_noPanic ?_
            refine wp_region_held_drew (S := fun w' => Chg (fun _ => False) wF w') (by kernel_rfl) (Chg.drew (Chg.refl _ _)) (fun hHeld => ?_)
            refine wpAnyH_take (i := 0) (oi := ⟨some 68, _, _, _, _, _⟩) (v := Value.pointer (some ⟨s, 0, none⟩)) rfl (by kernel_rfl) (by kernel_rfl) (by kernel_rfl) (fun _ _ _ h => h) (Or.inl ⟨by rfl, fun w hSw => by (try dsimp only at hSw); go_simp⟩) hHeld ?_
            try simp only [Act.put, List.setIfInBounds_toArray, List.set_cons_zero, List.set_cons_succ]
            refine wpAnyH_take (i := 2) (oi := ⟨some 70, _, _, _, _, _⟩) (v := Value.slice (some ⟨bl, off, none⟩) len cap) rfl (by kernel_rfl) (by kernel_rfl) (by kernel_rfl) (fun _ _ _ h => h) (Or.inl ⟨by rfl, fun w hSw => by (try dsimp only at hSw); go_simp⟩) hHeld ?_
            try simp only [Act.put, List.setIfInBounds_toArray, List.set_cons_zero, List.set_cons_succ]
            refine wpAnyH_take (i := 3) (oi := ⟨some 71, _, _, _, _, _⟩) (v := Value.int .i64 j) rfl (by kernel_rfl) (by kernel_rfl) (by kernel_rfl) (fun _ _ _ h => h) (Or.inl ⟨by rfl, fun w hSw => by (try dsimp only at hSw); go_simp⟩) hHeld ?_
            try simp only [Act.put, List.setIfInBounds_toArray, List.set_cons_zero, List.set_cons_succ]
            refine wpAnyH_take (i := 4) (oi := ⟨some 72, _, _, _, _, _⟩) (v := Value.int .i64 ((j : Int) + 1)) rfl (by kernel_rfl) (by kernel_rfl) (by kernel_rfl) (fun _ _ _ h => h) (Or.inl ⟨by rfl, fun w hSw => by (try dsimp only at hSw); go_simp⟩) hHeld ?_
            try simp only [Act.put, List.setIfInBounds_toArray, List.set_cons_zero, List.set_cons_succ]
            refine wpAnyH_take (i := 5) (oi := ⟨some 73, _, _, _, _, _⟩) (v := Value.slice (some ⟨bl, off, none⟩) (j + 1) cap) rfl (by kernel_rfl) (by kernel_rfl) (by kernel_rfl) (fun _ _ _ h => h) (Or.inl ⟨by rfl, fun w hSw => by (try dsimp only at hSw); go_simp⟩) hHeld ?_
            try simp only [Act.put, List.setIfInBounds_toArray, List.set_cons_zero, List.set_cons_succ]
            refine wpAnyH_ready (rs := [1]) (by kernel_rfl) (by simp) ?_
            refine AllReadyH.cons rfl (fun KK hKK => ?_) AllReadyH.nil
            go_simp
            go_at_call 25
            refine (storeAll s b (some k2) _ K _ (S5.chg0 (Chg.drew (Chg.refl _ _))).st).mono ?_
            rintro e wG ⟨aA, capA, gA, rfl, oA, cA', hgA⟩
            have cG := (Chg.drew (Chg.refl _ wF)).trans cA'
            rw [List.length_map, ← HC.out] at oA ⊢
            go_wp2_with fail
            refine hKK.out _ _ cG (fun hHeld2 => ?_)
            clear hKK KK hHeld cA' hgA
            try simp only [Act.put, List.setIfInBounds_toArray, List.set_cons_zero, List.set_cons_succ]
            refine wpAnyH_ready (rs := [6]) (by kernel_rfl) (by simp) ?_
            refine AllReadyH.cons rfl (fun KK hKK => ?_) AllReadyH.nil
            go_simp
            go_at_call 26
            refine (refLast (some ⟨bl, off, none⟩) (j + 1) cap (L.take (j + 1)) _ HTL.out js3 hcm (HRD.out _ (S5.chg0 cG).bel)).mono ?_
            rintro e wG2 ⟨a', cap', rfl, hc1', hc2', hRK, hww⟩
            subst hww
            rw [← HKE.out, ← HC.out] at hc1' ⊢
            rw [← HKE.out] at hRK
            go_wp2_with fail
            refine hKK.out _ _ cG (fun hHeld3 => ?_)
            clear hKK KK hHeld2
            try simp only [Act.put, List.setIfInBounds_toArray, List.set_cons_zero, List.set_cons_succ]
            refine wpAnyH_take (i := 7) (oi := ⟨some 14, _, _, _, _, _⟩) (v := Value.slice aA c capA) rfl (by kernel_rfl) (by kernel_rfl) (by kernel_rfl) (fun _ _ _ h => h) (Or.inl ⟨by rfl, fun w hSw => by (try dsimp only at hSw); go_simp⟩) hHeld3 ?_
            try simp only [Act.put, List.setIfInBounds_toArray, List.set_cons_zero, List.set_cons_succ]
            refine wpAnyH_take (i := 8) (oi := ⟨some 15, _, _, _, _, _⟩) (v := Value.slice a' c cap') rfl (by kernel_rfl) (by kernel_rfl) (by kernel_rfl) (fun _ _ _ h => h) (Or.inl ⟨by rfl, fun w hSw => by (try dsimp only at hSw); go_simp⟩) hHeld3 ?_
            try simp only [Act.put, List.setIfInBounds_toArray, List.set_cons_zero, List.set_cons_succ]
            refine wpAnyH_done (by kernel_rfl) ?_ _
            refine NoPanic.normal ?_
            clear hHeld3
            obtain ⟨kA, rfl⟩ := oA.pos (by rw [List.length_map, ← HC.out]; omega)
            obtain ⟨capA', hv, -, -⟩ := oA.some_form
            simp only [Value.slice.injEq] at hv
            obtain ⟨rfl, -, -⟩ := hv
            obtain ⟨bk, ok', rfl, hck⟩ := hRK _ (HRD.out _ (S5.chg0 cG).bel) (by rw [List.length_map, ← HC.out]; omega)
            clear hRK
            have S6 := S5.chg0 cG
            have bX6 := bX5.chg cG (fun h => h)
            have bY6 := bY.chg cG (fun h => h)
            have x0 := bX6.cell 0
            have x1 := bX6.cell 1
            have x2 := bX6.cell 2
            have x3 := bX6.cell 3
            have y0 := bY6.cell 0
            have y1 := bY6.cell 1
            have y2 := bY6.cell 2
            have y3 := bY6.cell 3
            simp at x0 x1 x2 x3 y0 y1 y2 y3
            clear bX5 bX6 bY6 bY S5 cG cF bX S4
            go_wp2_with fail
            clear x0 x1 x2 x3 y0 y1 y2 y3
            go_loopw [97] (fun i wr => ∃ t d : Nat, t ≤ c ∧ i = .int .i64 t ∧ wr = wG.drewN d) (fun i _ => c - (intOf i).toNat)
            case atStart => exact ⟨0, 0, by omega, rfl, rfl⟩
            case round =>
              obtain ⟨t, d, ht, rfl, rfl⟩ := hrel
              by_cases htl : t < c
              · obtain ⟨y, hy⟩ : ∃ y, K[t]? = some y := ⟨_, List.getElem?_eq_getElem (by rw [← HC.out]; exact htl)⟩
                have hyy : (K.map samc)[t]? = some (samc y) := by rw [List.getElem?_map, hy]; rfl
                have u0 := oA.cell rfl hyy (j := 0) rfl
                have v0 := hck t _ hyy 0 _ rfl
                have u1 := oA.cell rfl hyy (j := 1) rfl
                have v1 := hck t _ hyy 1 _ rfl
                have u2 := oA.cell rfl hyy (j := 2) rfl
                have v2 := hck t _ hyy 2 _ rfl
                have u3 := oA.cell rfl hyy (j := 3) rfl
                have v3 := hck t _ hyy 3 _ rfl
                simp only [Nat.add_zero] at u0 v0
                rw [← Nat.add_assoc] at v1 v2 v3
                have htc : (t : Int) < (c : Int) := by omega
                clear hyy hy
                go_wp2_with fail
                go_region_held3 (fun w' => w'.cell? ⟨kA, t * 4, none⟩ = some (.int .i64 y.o) ∧ w'.cell? ⟨kA, t * 4 + 1, none⟩ = some (.int .i64 y.d) ∧ w'.cell? ⟨kA, t * 4 + 2, none⟩ = some (.int .i64 y.t) ∧ w'.cell? ⟨kA, t * 4 + 3, none⟩ = some (.int .i64 y.s) ∧ w'.cell? ⟨bk, ok' + t * 4, none⟩ = some (.int .i64 y.o) ∧ w'.cell? ⟨bk, ok' + t * 4 + 1, none⟩ = some (.int .i64 y.d) ∧ w'.cell? ⟨bk, ok' + t * 4 + 2, none⟩ = some (.int .i64 y.t) ∧ w'.cell? ⟨bk, ok' + t * 4 + 3, none⟩ = some (.int .i64 y.s)) (exact ⟨u0, u1, u2, u3, v0, v1, v2, v3⟩) (fail)
                go_wp2_with fail
                go_roundw
                case rel => exact ⟨t + 1, d + 1, by omega, by go_num, rfl⟩
                case measure => simp [intOf]; omega
              · have htc : ¬ (t : Int) < (c : Int) := by omega
                go_wp2_with fail
                go_roundw
                case rel => exact ⟨j + 1, some k2, by omega, by go_num, by rw [← HKE.out]; exact S6.chg0 (chg0_drewN _ _)⟩
                case measure => simp [intOf]; omega
        | some x =>
          simp only [bestRes]
          obtain ⟨N, hN⟩ : ∃ N, N = nowOf x n2 := ⟨_, rfl⟩
          rw [← hN]
          have HNN := Lib.hid hN
          clear hN
          have S4 := S3.chg0 (chg0_alloc wC (Obj.cells #[Value.int IntKind.i64 x.o, Value.int IntKind.i64 x.d, Value.int IntKind.i64 x.t, Value.int IntKind.i64 x.s] 28))
          have bX := Blk.new wC 28 #[Value.int IntKind.i64 x.o, Value.int IntKind.i64 x.d, Value.int IntKind.i64 x.t, Value.int IntKind.i64 x.s]
          have bA1 := bA.bel S4.bel lA
          have m0 := bA1.cell 0
          have m1 := bA1.cell 1
          have m2 := bA1.cell 2
          simp at m0 m1 m2
          clear bA1 S3
          go_wp2_with fail
          generalize wC.alloc (Obj.cells #[Value.int IntKind.i64 x.o, Value.int IntKind.i64 x.d, Value.int IntKind.i64 x.t, Value.int IntKind.i64 x.s] 28) = W0 at *
          generalize wC.heap.size = iX at *
          have HN3 := Lib.hid (And.intro m0 (And.intro m1 m2))
          clear m0 m1 m2
          have F24 : ∀ W, Chg (fun _ => False) W0 W → Calls Try.prog 24 #[.slice (some ⟨bl, off, none⟩) (j + 1) cap, .int .i64 n0, .int .i64 n1, .int .i64 n2] W fun e w' => e = .returned (Value.tuple #[Value.agg #[Value.int IntKind.i64 x.o, Value.int IntKind.i64 x.d, Value.int IntKind.i64 x.t, Value.int IntKind.i64 x.s], Value.int IntKind.i64 N, Value.bool true]) ∧ Chg (fun _ => False) W w' := fun W hW => by
            have hth := refBest (some ⟨bl, off, none⟩) (j + 1) cap (L.take (j + 1)) HTOK.out n0 n1 n2 N0.out N2.out W HTL.out js3 hcm (HRD.out _ (S4.chg0 hW).bel)
            rw [← HKE.out, ← HR.out] at hth
            rw [HNN.out]; exact hth
          have HF24 := Lib.hid F24
          clear F24
          refine wp_region_noPanic ?_
          refine wp_region_held_drew (S := (fun w' => (w'.cell? ⟨iA, 0, none⟩ = some (.int .i64 n0) ∧ w'.cell? ⟨iA, 1, none⟩ = some (.int .i64 n1) ∧ w'.cell? ⟨iA, 2, none⟩ = some (.int .i64 n2)) ∧ Chg (fun _ => False) W0 w')) (by kernel_rfl) (keepN HN3.out (Chg.drew (Chg.refl _ _))) (fun hHeld => ?_)
          refine wpAnyH_take (i := 0) (oi := ⟨some 54, _, _, _, _, _⟩) (v := Value.slice (some ⟨bl, off, none⟩) len cap) rfl (by kernel_rfl) (by kernel_rfl) (by kernel_rfl) (fun _ _ _ h => h) (Or.inl ⟨by rfl, fun w hSw => by (try dsimp only at hSw); go_simp⟩) hHeld ?_
          try simp only [Act.put, List.setIfInBounds_toArray, List.set_cons_zero, List.set_cons_succ]
          refine wpAnyH_take (i := 1) (oi := ⟨some 55, _, _, _, _, _⟩) (v := Value.int .i64 j) rfl (by kernel_rfl) (by kernel_rfl) (by kernel_rfl) (fun _ _ _ h => h) (Or.inl ⟨by rfl, fun w hSw => by (try dsimp only at hSw); go_simp⟩) hHeld ?_
          try simp only [Act.put, List.setIfInBounds_toArray, List.set_cons_zero, List.set_cons_succ]
          refine wpAnyH_take (i := 2) (oi := ⟨some 56, _, _, _, _, _⟩) (v := Value.int .i64 ((j : Int) + 1)) rfl (by kernel_rfl) (by kernel_rfl) (by kernel_rfl) (fun _ _ _ h => h) (Or.inl ⟨by rfl, fun w hSw => by (try dsimp only at hSw); go_simp⟩) hHeld ?_
          try simp only [Act.put, List.setIfInBounds_toArray, List.set_cons_zero, List.set_cons_succ]
          refine wpAnyH_take (i := 3) (oi := ⟨some 57, _, _, _, _, _⟩) (v := Value.slice (some ⟨bl, off, none⟩) (j + 1) cap) rfl (by kernel_rfl) (by kernel_rfl) (by kernel_rfl) (fun _ _ _ h => h) (Or.inl ⟨by rfl, fun w hSw => by (try dsimp only at hSw); go_simp⟩) hHeld ?_
          try simp only [Act.put, List.setIfInBounds_toArray, List.set_cons_zero, List.set_cons_succ]
          refine wpAnyH_take (i := 4) (oi := ⟨some 58, _, _, _, _, _⟩) (v := Value.pointer (some ⟨iA, 0, none⟩)) rfl (by kernel_rfl) (by kernel_rfl) (by kernel_rfl) (fun _ _ _ h => h) (Or.inl ⟨by rfl, fun w hSw => by (try dsimp only at hSw); go_simp⟩) hHeld ?_
          try simp only [Act.put, List.setIfInBounds_toArray, List.set_cons_zero, List.set_cons_succ]
          refine wpAnyH_take (i := 5) (oi := ⟨some 59, _, _, _, _, _⟩) (v := Value.int .i64 n0) rfl (by kernel_rfl) (by kernel_rfl) (by kernel_rfl) (fun _ _ _ h => h) (Or.inl ⟨by rfl, fun w hSw => by (try dsimp only at hSw); go_simp⟩) hHeld ?_
          try simp only [Act.put, List.setIfInBounds_toArray, List.set_cons_zero, List.set_cons_succ]
          refine wpAnyH_take (i := 6) (oi := ⟨some 60, _, _, _, _, _⟩) (v := Value.pointer (some ⟨iA, 1, none⟩)) rfl (by kernel_rfl) (by kernel_rfl) (by kernel_rfl) (fun _ _ _ h => h) (Or.inl ⟨by rfl, fun w hSw => by (try dsimp only at hSw); go_simp⟩) hHeld ?_
          try simp only [Act.put, List.setIfInBounds_toArray, List.set_cons_zero, List.set_cons_succ]
          refine wpAnyH_take (i := 7) (oi := ⟨some 61, _, _, _, _, _⟩) (v := Value.int .i64 n1) rfl (by kernel_rfl) (by kernel_rfl) (by kernel_rfl) (fun _ _ _ h => h) (Or.inl ⟨by rfl, fun w hSw => by (try dsimp only at hSw); go_simp⟩) hHeld ?_
          try simp only [Act.put, List.setIfInBounds_toArray, List.set_cons_zero, List.set_cons_succ]
          refine wpAnyH_take (i := 8) (oi := ⟨some 62, _, _, _, _, _⟩) (v := Value.pointer (some ⟨iA, 2, none⟩)) rfl (by kernel_rfl) (by kernel_rfl) (by kernel_rfl) (fun _ _ _ h => h) (Or.inl ⟨by rfl, fun w hSw => by (try dsimp only at hSw); go_simp⟩) hHeld ?_
          try simp only [Act.put, List.setIfInBounds_toArray, List.set_cons_zero, List.set_cons_succ]
          refine wpAnyH_take (i := 9) (oi := ⟨some 63, _, _, _, _, _⟩) (v := Value.int .i64 n2) rfl (by kernel_rfl) (by kernel_rfl) (by kernel_rfl) (fun _ _ _ h => h) (Or.inl ⟨by rfl, fun w hSw => by (try dsimp only at hSw); go_simp⟩) hHeld ?_
          try simp only [Act.put, List.setIfInBounds_toArray, List.set_cons_zero, List.set_cons_succ]
          refine wpAnyH_ready (rs := [10, 15]) (by kernel_rfl) (by simp) ?_
          refine AllReadyH.cons rfl (fun KK hKK => ?_) (AllReadyH.cons rfl (fun KK hKK => ?_) AllReadyH.nil)
          · go_simp
            go_at_call 24
            refine (HF24.out _ (Chg.drew (Chg.refl _ W0))).mono ?_
            rintro e wD ⟨rfl, c24⟩
            have cD := Chg.trans (Chg.drew (Chg.refl _ W0)) c24
            clear c24
            go_wp2_with fail
            refine hKK.out _ _ (keepN HN3.out cD) (fun hHeld2 => ?_)
            clear hKK KK hHeld
            try simp only [Act.put, List.setIfInBounds_toArray, List.set_cons_zero, List.set_cons_succ]
            refine wpAnyH_take (i := 11) (oi := ⟨some 53, _, _, _, _, _⟩) (v := Value.tuple #[Value.agg #[Value.int IntKind.i64 x.o, Value.int IntKind.i64 x.d, Value.int IntKind.i64 x.t, Value.int IntKind.i64 x.s], Value.int IntKind.i64 N, Value.bool true]) rfl (by kernel_rfl) (by kernel_rfl) (by kernel_rfl) (fun _ _ _ h => h) (Or.inl ⟨by rfl, fun w hSw => by (try dsimp only at hSw); go_simp⟩) hHeld2 ?_
            try simp only [Act.put, List.setIfInBounds_toArray, List.set_cons_zero, List.set_cons_succ]
            refine wpAnyH_take (i := 12) (oi := ⟨some 65, _, _, _, _, _⟩) (v := Value.agg #[Value.int IntKind.i64 x.o, Value.int IntKind.i64 x.d, Value.int IntKind.i64 x.t, Value.int IntKind.i64 x.s]) rfl (by kernel_rfl) (by kernel_rfl) (by kernel_rfl) (fun _ _ _ h => h) (Or.inl ⟨by rfl, fun w hSw => by (try dsimp only at hSw); go_simp⟩) hHeld2 ?_
            try simp only [Act.put, List.setIfInBounds_toArray, List.set_cons_zero, List.set_cons_succ]
            refine wpAnyH_take (i := 13) (oi := ⟨some 66, _, _, _, _, _⟩) (v := Value.int IntKind.i64 N) rfl (by kernel_rfl) (by kernel_rfl) (by kernel_rfl) (fun _ _ _ h => h) (Or.inl ⟨by rfl, fun w hSw => by (try dsimp only at hSw); go_simp⟩) hHeld2 ?_
            try simp only [Act.put, List.setIfInBounds_toArray, List.set_cons_zero, List.set_cons_succ]
            refine wpAnyH_take (i := 14) (oi := ⟨some 67, _, _, _, _, _⟩) (v := Value.bool true) rfl (by kernel_rfl) (by kernel_rfl) (by kernel_rfl) (fun _ _ _ h => h) (Or.inl ⟨by rfl, fun w hSw => by (try dsimp only at hSw); go_simp⟩) hHeld2 ?_
            try simp only [Act.put, List.setIfInBounds_toArray, List.set_cons_zero, List.set_cons_succ]
            refine wpAnyH_ready (rs := [15]) (by kernel_rfl) (by simp) ?_
            refine AllReadyH.cons rfl (fun KK hKK => ?_) AllReadyH.nil
            go_simp
            refine hKK.out _ _ (keepN HN3.out (cD.alloc _)) (fun hHeld3 => ?_)
            clear hKK KK hHeld2
            try simp only [Act.put, List.setIfInBounds_toArray, List.set_cons_zero, List.set_cons_succ]
            refine wpAnyH_ready (rs := [16]) (by kernel_rfl) (by simp) ?_
            refine AllReadyH.cons rfl (fun KK hKK => ?_) AllReadyH.nil
            go_simp
            refine hKK.out _ _ (keepN HN3.out (cD.alloc _)) (fun hHeld4 => ?_)
            clear hKK KK hHeld3
            try simp only [Act.put, List.setIfInBounds_toArray, List.set_cons_zero, List.set_cons_succ]
            refine wpAnyH_take (i := 17) (oi := ⟨some 12, _, _, _, _, _⟩) (v := Value.int IntKind.i64 N) rfl (by kernel_rfl) (by kernel_rfl) (by kernel_rfl) (fun _ _ _ h => h) (Or.inl ⟨by rfl, fun w hSw => by (try dsimp only at hSw); go_simp⟩) hHeld4 ?_
            try simp only [Act.put, List.setIfInBounds_toArray, List.set_cons_zero, List.set_cons_succ]
            refine wpAnyH_take (i := 18) (oi := ⟨some 13, _, _, _, _, _⟩) (v := Value.bool true) rfl (by kernel_rfl) (by kernel_rfl) (by kernel_rfl) (fun _ _ _ h => h) (Or.inl ⟨by rfl, fun w hSw => by (try dsimp only at hSw); go_simp⟩) hHeld4 ?_
            try simp only [Act.put, List.setIfInBounds_toArray, List.set_cons_zero, List.set_cons_succ]
            refine wpAnyH_done (by kernel_rfl) ?_ _
            refine NoPanic.normal ?_
            clear hHeld4
            have bY := Blk.new wD 28 #[Value.int IntKind.i64 x.o, Value.int IntKind.i64 x.d, Value.int IntKind.i64 x.t, Value.int IntKind.i64 x.s]
            have cF := cD.alloc (Obj.cells #[Value.int IntKind.i64 x.o, Value.int IntKind.i64 x.d, Value.int IntKind.i64 x.t, Value.int IntKind.i64 x.s] 28)
            generalize wD.alloc (Obj.cells #[Value.int IntKind.i64 x.o, Value.int IntKind.i64 x.d, Value.int IntKind.i64 x.t, Value.int IntKind.i64 x.s] 28) = wF at *
            generalize wD.heap.size = iY at *
            clear cD
            have S5 := S4.chg0 cF
            have bX5 := bX.chg cF (fun h => h)
            go_wp2_with fail
            refine wp_region_noPanic ?_
            refine wp_region_held_drew (S := fun w' => Chg (fun _ => False) wF w') (by kernel_rfl) (Chg.drew (Chg.refl _ _)) (fun hHeld => ?_)
            refine wpAnyH_take (i := 0) (oi := ⟨some 68, _, _, _, _, _⟩) (v := Value.pointer (some ⟨s, 0, none⟩)) rfl (by kernel_rfl) (by kernel_rfl) (by kernel_rfl) (fun _ _ _ h => h) (Or.inl ⟨by rfl, fun w hSw => by (try dsimp only at hSw); go_simp⟩) hHeld ?_
            try simp only [Act.put, List.setIfInBounds_toArray, List.set_cons_zero, List.set_cons_succ]
            refine wpAnyH_take (i := 2) (oi := ⟨some 70, _, _, _, _, _⟩) (v := Value.slice (some ⟨bl, off, none⟩) len cap) rfl (by kernel_rfl) (by kernel_rfl) (by kernel_rfl) (fun _ _ _ h => h) (Or.inl ⟨by rfl, fun w hSw => by (try dsimp only at hSw); go_simp⟩) hHeld ?_
            try simp only [Act.put, List.setIfInBounds_toArray, List.set_cons_zero, List.set_cons_succ]
            refine wpAnyH_take (i := 3) (oi := ⟨some 71, _, _, _, _, _⟩) (v := Value.int .i64 j) rfl (by kernel_rfl) (by kernel_rfl) (by kernel_rfl) (fun _ _ _ h => h) (Or.inl ⟨by rfl, fun w hSw => by (try dsimp only at hSw); go_simp⟩) hHeld ?_
            try simp only [Act.put, List.setIfInBounds_toArray, List.set_cons_zero, List.set_cons_succ]
            refine wpAnyH_take (i := 4) (oi := ⟨some 72, _, _, _, _, _⟩) (v := Value.int .i64 ((j : Int) + 1)) rfl (by kernel_rfl) (by kernel_rfl) (by kernel_rfl) (fun _ _ _ h => h) (Or.inl ⟨by rfl, fun w hSw => by (try dsimp only at hSw); go_simp⟩) hHeld ?_
            try simp only [Act.put, List.setIfInBounds_toArray, List.set_cons_zero, List.set_cons_succ]
            refine wpAnyH_take (i := 5) (oi := ⟨some 73, _, _, _, _, _⟩) (v := Value.slice (some ⟨bl, off, none⟩) (j + 1) cap) rfl (by kernel_rfl) (by kernel_rfl) (by kernel_rfl) (fun _ _ _ h => h) (Or.inl ⟨by rfl, fun w hSw => by (try dsimp only at hSw); go_simp⟩) hHeld ?_
            try simp only [Act.put, List.setIfInBounds_toArray, List.set_cons_zero, List.set_cons_succ]
            refine wpAnyH_ready (rs := [1]) (by kernel_rfl) (by simp) ?_
            refine AllReadyH.cons rfl (fun KK hKK => ?_) AllReadyH.nil
            go_simp
            go_at_call 25
            refine (storeAll s b (some k2) _ K _ (S5.chg0 (Chg.drew (Chg.refl _ _))).st).mono ?_
            rintro e wG ⟨aA, capA, gA, rfl, oA, cA', hgA⟩
            have cG := (Chg.drew (Chg.refl _ wF)).trans cA'
            rw [List.length_map, ← HC.out] at oA ⊢
            go_wp2_with fail
            refine hKK.out _ _ cG (fun hHeld2 => ?_)
            clear hKK KK hHeld cA' hgA
            try simp only [Act.put, List.setIfInBounds_toArray, List.set_cons_zero, List.set_cons_succ]
            refine wpAnyH_ready (rs := [6]) (by kernel_rfl) (by simp) ?_
            refine AllReadyH.cons rfl (fun KK hKK => ?_) AllReadyH.nil
            go_simp
            go_at_call 26
            refine (refLast (some ⟨bl, off, none⟩) (j + 1) cap (L.take (j + 1)) _ HTL.out js3 hcm (HRD.out _ (S5.chg0 cG).bel)).mono ?_
            rintro e wG2 ⟨a', cap', rfl, hc1', hc2', hRK, hww⟩
            subst hww
            rw [← HKE.out, ← HC.out] at hc1' ⊢
            rw [← HKE.out] at hRK
            go_wp2_with fail
            refine hKK.out _ _ cG (fun hHeld3 => ?_)
            clear hKK KK hHeld2
            try simp only [Act.put, List.setIfInBounds_toArray, List.set_cons_zero, List.set_cons_succ]
            refine wpAnyH_take (i := 7) (oi := ⟨some 14, _, _, _, _, _⟩) (v := Value.slice aA c capA) rfl (by kernel_rfl) (by kernel_rfl) (by kernel_rfl) (fun _ _ _ h => h) (Or.inl ⟨by rfl, fun w hSw => by (try dsimp only at hSw); go_simp⟩) hHeld3 ?_
            try simp only [Act.put, List.setIfInBounds_toArray, List.set_cons_zero, List.set_cons_succ]
            refine wpAnyH_take (i := 8) (oi := ⟨some 15, _, _, _, _, _⟩) (v := Value.slice a' c cap') rfl (by kernel_rfl) (by kernel_rfl) (by kernel_rfl) (fun _ _ _ h => h) (Or.inl ⟨by rfl, fun w hSw => by (try dsimp only at hSw); go_simp⟩) hHeld3 ?_
            try simp only [Act.put, List.setIfInBounds_toArray, List.set_cons_zero, List.set_cons_succ]
            refine wpAnyH_done (by kernel_rfl) ?_ _
            refine NoPanic.normal ?_
            clear hHeld3
            obtain ⟨kA, rfl⟩ := oA.pos (by rw [List.length_map, ← HC.out]; omega)
            obtain ⟨capA', hv, -, -⟩ := oA.some_form
            simp only [Value.slice.injEq] at hv
            obtain ⟨rfl, -, -⟩ := hv
            obtain ⟨bk, ok', rfl, hck⟩ := hRK _ (HRD.out _ (S5.chg0 cG).bel) (by rw [List.length_map, ← HC.out]; omega)
            clear hRK
            have S6 := S5.chg0 cG
            have bX6 := bX5.chg cG (fun h => h)
            have bY6 := bY.chg cG (fun h => h)
            have x0 := bX6.cell 0
            have x1 := bX6.cell 1
            have x2 := bX6.cell 2
            have x3 := bX6.cell 3
            have y0 := bY6.cell 0
            have y1 := bY6.cell 1
            have y2 := bY6.cell 2
            have y3 := bY6.cell 3
            simp at x0 x1 x2 x3 y0 y1 y2 y3
            clear bX5 bX6 bY6 bY S5 cG cF bX S4
            go_wp2_with fail
            clear x0 x1 x2 x3 y0 y1 y2 y3
            go_loopw [97] (fun i wr => ∃ t d : Nat, t ≤ c ∧ i = .int .i64 t ∧ wr = wG.drewN d) (fun i _ => c - (intOf i).toNat)
            case atStart => exact ⟨0, 0, by omega, rfl, rfl⟩
            case round =>
              obtain ⟨t, d, ht, rfl, rfl⟩ := hrel
              by_cases htl : t < c
              · obtain ⟨y, hy⟩ : ∃ y, K[t]? = some y := ⟨_, List.getElem?_eq_getElem (by rw [← HC.out]; exact htl)⟩
                have hyy : (K.map samc)[t]? = some (samc y) := by rw [List.getElem?_map, hy]; rfl
                have u0 := oA.cell rfl hyy (j := 0) rfl
                have v0 := hck t _ hyy 0 _ rfl
                have u1 := oA.cell rfl hyy (j := 1) rfl
                have v1 := hck t _ hyy 1 _ rfl
                have u2 := oA.cell rfl hyy (j := 2) rfl
                have v2 := hck t _ hyy 2 _ rfl
                have u3 := oA.cell rfl hyy (j := 3) rfl
                have v3 := hck t _ hyy 3 _ rfl
                simp only [Nat.add_zero] at u0 v0
                rw [← Nat.add_assoc] at v1 v2 v3
                have htc : (t : Int) < (c : Int) := by omega
                clear hyy hy
                go_wp2_with fail
                go_region_held3 (fun w' => w'.cell? ⟨kA, t * 4, none⟩ = some (.int .i64 y.o) ∧ w'.cell? ⟨kA, t * 4 + 1, none⟩ = some (.int .i64 y.d) ∧ w'.cell? ⟨kA, t * 4 + 2, none⟩ = some (.int .i64 y.t) ∧ w'.cell? ⟨kA, t * 4 + 3, none⟩ = some (.int .i64 y.s) ∧ w'.cell? ⟨bk, ok' + t * 4, none⟩ = some (.int .i64 y.o) ∧ w'.cell? ⟨bk, ok' + t * 4 + 1, none⟩ = some (.int .i64 y.d) ∧ w'.cell? ⟨bk, ok' + t * 4 + 2, none⟩ = some (.int .i64 y.t) ∧ w'.cell? ⟨bk, ok' + t * 4 + 3, none⟩ = some (.int .i64 y.s)) (exact ⟨u0, u1, u2, u3, v0, v1, v2, v3⟩) (fail)
                go_wp2_with fail
                go_roundw
                case rel => exact ⟨t + 1, d + 1, by omega, by go_num, rfl⟩
                case measure => simp [intOf]; omega
              · have htc : ¬ (t : Int) < (c : Int) := by omega
                go_wp2_with fail
                go_roundw
                case rel => exact ⟨j + 1, some k2, by omega, by go_num, by rw [← HKE.out]; exact S6.chg0 (chg0_drewN _ _)⟩
                case measure => simp [intOf]; omega
          · go_simp
            have sY : W0.heap.size ≤ W0.heap.size := Nat.le_refl _
            have bY := (Blk.new W0 28 #[Value.int IntKind.i64 0, Value.int IntKind.i64 0, Value.int IntKind.i64 0, Value.int IntKind.i64 0]).chg (Chg.drew (Chg.refl (fun _ => False) (W0.alloc (Obj.cells #[Value.int IntKind.i64 0, Value.int IntKind.i64 0, Value.int IntKind.i64 0, Value.int IntKind.i64 0] 28)))) (fun h => h)
            have cY := Chg.drew ((Chg.refl (fun _ => False) W0).alloc (Obj.cells #[Value.int IntKind.i64 0, Value.int IntKind.i64 0, Value.int IntKind.i64 0, Value.int IntKind.i64 0] 28))
            generalize (W0.alloc (Obj.cells #[Value.int IntKind.i64 0, Value.int IntKind.i64 0, Value.int IntKind.i64 0, Value.int IntKind.i64 0] 28)).drew = wY at *
            refine hKK.out _ _ (keepN HN3.out cY) (fun hHeldB => ?_)
            clear hKK KK hHeld
            try simp only [Act.put, List.setIfInBounds_toArray, List.set_cons_zero, List.set_cons_succ]
            refine wpAnyH_ready (rs := [10]) (by kernel_rfl) (by simp) ?_
            refine AllReadyH.cons rfl (fun KK hKK => ?_) AllReadyH.nil
            go_simp
            go_at_call 24
            refine (HF24.out _ cY).mono ?_
            rintro e wD ⟨rfl, c24⟩
            have cD := Chg.trans cY c24
            have cE := c24
            clear c24
            go_wp2_with fail
            refine hKK.out _ _ (keepN HN3.out cD) (fun hHeld2 => ?_)
            clear hKK KK hHeldB
            try simp only [Act.put, List.setIfInBounds_toArray, List.set_cons_zero, List.set_cons_succ]
            refine wpAnyH_take (i := 11) (oi := ⟨some 53, _, _, _, _, _⟩) (v := Value.tuple #[Value.agg #[Value.int IntKind.i64 x.o, Value.int IntKind.i64 x.d, Value.int IntKind.i64 x.t, Value.int IntKind.i64 x.s], Value.int IntKind.i64 N, Value.bool true]) rfl (by kernel_rfl) (by kernel_rfl) (by kernel_rfl) (fun _ _ _ h => h) (Or.inl ⟨by rfl, fun w hSw => by (try dsimp only at hSw); go_simp⟩) hHeld2 ?_
            try simp only [Act.put, List.setIfInBounds_toArray, List.set_cons_zero, List.set_cons_succ]
            refine wpAnyH_take (i := 12) (oi := ⟨some 65, _, _, _, _, _⟩) (v := Value.agg #[Value.int IntKind.i64 x.o, Value.int IntKind.i64 x.d, Value.int IntKind.i64 x.t, Value.int IntKind.i64 x.s]) rfl (by kernel_rfl) (by kernel_rfl) (by kernel_rfl) (fun _ _ _ h => h) (Or.inl ⟨by rfl, fun w hSw => by (try dsimp only at hSw); go_simp⟩) hHeld2 ?_
            try simp only [Act.put, List.setIfInBounds_toArray, List.set_cons_zero, List.set_cons_succ]
            refine wpAnyH_take (i := 13) (oi := ⟨some 66, _, _, _, _, _⟩) (v := Value.int IntKind.i64 N) rfl (by kernel_rfl) (by kernel_rfl) (by kernel_rfl) (fun _ _ _ h => h) (Or.inl ⟨by rfl, fun w hSw => by (try dsimp only at hSw); go_simp⟩) hHeld2 ?_
            try simp only [Act.put, List.setIfInBounds_toArray, List.set_cons_zero, List.set_cons_succ]
            refine wpAnyH_take (i := 14) (oi := ⟨some 67, _, _, _, _, _⟩) (v := Value.bool true) rfl (by kernel_rfl) (by kernel_rfl) (by kernel_rfl) (fun _ _ _ h => h) (Or.inl ⟨by rfl, fun w hSw => by (try dsimp only at hSw); go_simp⟩) hHeld2 ?_
            try simp only [Act.put, List.setIfInBounds_toArray, List.set_cons_zero, List.set_cons_succ]
            have bD := bY.chg cE (fun h => h)
            have y0 := bD.cell 0
            have y1 := bD.cell 1
            have y2 := bD.cell 2
            have y3 := bD.cell 3
            have g0 := bD.frozen 0
            have g1 := bD.frozen 1
            have g2 := bD.frozen 2
            have g3 := bD.frozen 3
            simp at y0 y1 y2 y3
            obtain ⟨p8, pc⟩ := put4 bD rfl x.o x.d x.t x.s
            have cF := cD.trans' pc (fun i hi e => by omega)
            have HP8 := Lib.hid p8
            have HCF := Lib.hid cF
            clear p8 pc cF
            refine wpAnyH_ready (rs := [16]) (by kernel_rfl) (by simp) ?_
            refine AllReadyH.cons rfl (fun KK hKK => ?_) AllReadyH.nil
            go_simp
            refine hKK.out _ _ (keepN HN3.out HCF.out) (fun hHeld4 => ?_)
            clear hKK KK hHeld2
            try simp only [Act.put, List.setIfInBounds_toArray, List.set_cons_zero, List.set_cons_succ]
            refine wpAnyH_take (i := 17) (oi := ⟨some 12, _, _, _, _, _⟩) (v := Value.int IntKind.i64 N) rfl (by kernel_rfl) (by kernel_rfl) (by kernel_rfl) (fun _ _ _ h => h) (Or.inl ⟨by rfl, fun w hSw => by (try dsimp only at hSw); go_simp⟩) hHeld4 ?_
            try simp only [Act.put, List.setIfInBounds_toArray, List.set_cons_zero, List.set_cons_succ]
            refine wpAnyH_take (i := 18) (oi := ⟨some 13, _, _, _, _, _⟩) (v := Value.bool true) rfl (by kernel_rfl) (by kernel_rfl) (by kernel_rfl) (fun _ _ _ h => h) (Or.inl ⟨by rfl, fun w hSw => by (try dsimp only at hSw); go_simp⟩) hHeld4 ?_
            try simp only [Act.put, List.setIfInBounds_toArray, List.set_cons_zero, List.set_cons_succ]
            refine wpAnyH_done (by kernel_rfl) ?_ _
            refine NoPanic.normal ?_
            clear hHeld4
            have bY := HP8.out
            have cF := HCF.out
            clear HP8 HCF y0 y1 y2 y3 g0 g1 g2 g3 bD cD cE cY sY
            generalize (((wD.setCell ⟨W0.heap.size, 0, none⟩ (.int .i64 x.o)).setCell ⟨W0.heap.size, 1, none⟩ (.int .i64 x.d)).setCell ⟨W0.heap.size, 2, none⟩ (.int .i64 x.t)).setCell ⟨W0.heap.size, 3, none⟩ (.int .i64 x.s) = wF at bY cF ⊢
            have S5 := S4.chg0 cF
            have bX5 := bX.chg cF (fun h => h)
            go_wp2_with fail
            refine wp_region_noPanic ?_
            refine wp_region_held_drew (S := fun w' => Chg (fun _ => False) wF w') (by kernel_rfl) (Chg.drew (Chg.refl _ _)) (fun hHeld => ?_)
            refine wpAnyH_take (i := 0) (oi := ⟨some 68, _, _, _, _, _⟩) (v := Value.pointer (some ⟨s, 0, none⟩)) rfl (by kernel_rfl) (by kernel_rfl) (by kernel_rfl) (fun _ _ _ h => h) (Or.inl ⟨by rfl, fun w hSw => by (try dsimp only at hSw); go_simp⟩) hHeld ?_
            try simp only [Act.put, List.setIfInBounds_toArray, List.set_cons_zero, List.set_cons_succ]
            refine wpAnyH_take (i := 2) (oi := ⟨some 70, _, _, _, _, _⟩) (v := Value.slice (some ⟨bl, off, none⟩) len cap) rfl (by kernel_rfl) (by kernel_rfl) (by kernel_rfl) (fun _ _ _ h => h) (Or.inl ⟨by rfl, fun w hSw => by (try dsimp only at hSw); go_simp⟩) hHeld ?_
            try simp only [Act.put, List.setIfInBounds_toArray, List.set_cons_zero, List.set_cons_succ]
            refine wpAnyH_take (i := 3) (oi := ⟨some 71, _, _, _, _, _⟩) (v := Value.int .i64 j) rfl (by kernel_rfl) (by kernel_rfl) (by kernel_rfl) (fun _ _ _ h => h) (Or.inl ⟨by rfl, fun w hSw => by (try dsimp only at hSw); go_simp⟩) hHeld ?_
            try simp only [Act.put, List.setIfInBounds_toArray, List.set_cons_zero, List.set_cons_succ]
            refine wpAnyH_take (i := 4) (oi := ⟨some 72, _, _, _, _, _⟩) (v := Value.int .i64 ((j : Int) + 1)) rfl (by kernel_rfl) (by kernel_rfl) (by kernel_rfl) (fun _ _ _ h => h) (Or.inl ⟨by rfl, fun w hSw => by (try dsimp only at hSw); go_simp⟩) hHeld ?_
            try simp only [Act.put, List.setIfInBounds_toArray, List.set_cons_zero, List.set_cons_succ]
            refine wpAnyH_take (i := 5) (oi := ⟨some 73, _, _, _, _, _⟩) (v := Value.slice (some ⟨bl, off, none⟩) (j + 1) cap) rfl (by kernel_rfl) (by kernel_rfl) (by kernel_rfl) (fun _ _ _ h => h) (Or.inl ⟨by rfl, fun w hSw => by (try dsimp only at hSw); go_simp⟩) hHeld ?_
            try simp only [Act.put, List.setIfInBounds_toArray, List.set_cons_zero, List.set_cons_succ]
            refine wpAnyH_ready (rs := [1]) (by kernel_rfl) (by simp) ?_
            refine AllReadyH.cons rfl (fun KK hKK => ?_) AllReadyH.nil
            go_simp
            go_at_call 25
            refine (storeAll s b (some k2) _ K _ (S5.chg0 (Chg.drew (Chg.refl _ _))).st).mono ?_
            rintro e wG ⟨aA, capA, gA, rfl, oA, cA', hgA⟩
            have cG := (Chg.drew (Chg.refl _ wF)).trans cA'
            rw [List.length_map, ← HC.out] at oA ⊢
            go_wp2_with fail
            refine hKK.out _ _ cG (fun hHeld2 => ?_)
            clear hKK KK hHeld cA' hgA
            try simp only [Act.put, List.setIfInBounds_toArray, List.set_cons_zero, List.set_cons_succ]
            refine wpAnyH_ready (rs := [6]) (by kernel_rfl) (by simp) ?_
            refine AllReadyH.cons rfl (fun KK hKK => ?_) AllReadyH.nil
            go_simp
            go_at_call 26
            refine (refLast (some ⟨bl, off, none⟩) (j + 1) cap (L.take (j + 1)) _ HTL.out js3 hcm (HRD.out _ (S5.chg0 cG).bel)).mono ?_
            rintro e wG2 ⟨a', cap', rfl, hc1', hc2', hRK, hww⟩
            subst hww
            rw [← HKE.out, ← HC.out] at hc1' ⊢
            rw [← HKE.out] at hRK
            go_wp2_with fail
            refine hKK.out _ _ cG (fun hHeld3 => ?_)
            clear hKK KK hHeld2
            try simp only [Act.put, List.setIfInBounds_toArray, List.set_cons_zero, List.set_cons_succ]
            refine wpAnyH_take (i := 7) (oi := ⟨some 14, _, _, _, _, _⟩) (v := Value.slice aA c capA) rfl (by kernel_rfl) (by kernel_rfl) (by kernel_rfl) (fun _ _ _ h => h) (Or.inl ⟨by rfl, fun w hSw => by (try dsimp only at hSw); go_simp⟩) hHeld3 ?_
            try simp only [Act.put, List.setIfInBounds_toArray, List.set_cons_zero, List.set_cons_succ]
            refine wpAnyH_take (i := 8) (oi := ⟨some 15, _, _, _, _, _⟩) (v := Value.slice a' c cap') rfl (by kernel_rfl) (by kernel_rfl) (by kernel_rfl) (fun _ _ _ h => h) (Or.inl ⟨by rfl, fun w hSw => by (try dsimp only at hSw); go_simp⟩) hHeld3 ?_
            try simp only [Act.put, List.setIfInBounds_toArray, List.set_cons_zero, List.set_cons_succ]
            refine wpAnyH_done (by kernel_rfl) ?_ _
            refine NoPanic.normal ?_
            clear hHeld3
            obtain ⟨kA, rfl⟩ := oA.pos (by rw [List.length_map, ← HC.out]; omega)
            obtain ⟨capA', hv, -, -⟩ := oA.some_form
            simp only [Value.slice.injEq] at hv
            obtain ⟨rfl, -, -⟩ := hv
            obtain ⟨bk, ok', rfl, hck⟩ := hRK _ (HRD.out _ (S5.chg0 cG).bel) (by rw [List.length_map, ← HC.out]; omega)
            clear hRK
            have S6 := S5.chg0 cG
            have bX6 := bX5.chg cG (fun h => h)
            have bY6 := bY.chg cG (fun h => h)
            have x0 := bX6.cell 0
            have x1 := bX6.cell 1
            have x2 := bX6.cell 2
            have x3 := bX6.cell 3
            have y0 := bY6.cell 0
            have y1 := bY6.cell 1
            have y2 := bY6.cell 2
            have y3 := bY6.cell 3
            simp at x0 x1 x2 x3 y0 y1 y2 y3
            clear bX5 bX6 bY6 bY S5 cG cF bX S4
            go_wp2_with fail
            clear x0 x1 x2 x3 y0 y1 y2 y3
            go_loopw [97] (fun i wr => ∃ t d : Nat, t ≤ c ∧ i = .int .i64 t ∧ wr = wG.drewN d) (fun i _ => c - (intOf i).toNat)
            case atStart => exact ⟨0, 0, by omega, rfl, rfl⟩
            case round =>
              obtain ⟨t, d, ht, rfl, rfl⟩ := hrel
              by_cases htl : t < c
              · obtain ⟨y, hy⟩ : ∃ y, K[t]? = some y := ⟨_, List.getElem?_eq_getElem (by rw [← HC.out]; exact htl)⟩
                have hyy : (K.map samc)[t]? = some (samc y) := by rw [List.getElem?_map, hy]; rfl
                have u0 := oA.cell rfl hyy (j := 0) rfl
                have v0 := hck t _ hyy 0 _ rfl
                have u1 := oA.cell rfl hyy (j := 1) rfl
                have v1 := hck t _ hyy 1 _ rfl
                have u2 := oA.cell rfl hyy (j := 2) rfl
                have v2 := hck t _ hyy 2 _ rfl
                have u3 := oA.cell rfl hyy (j := 3) rfl
                have v3 := hck t _ hyy 3 _ rfl
                simp only [Nat.add_zero] at u0 v0
                rw [← Nat.add_assoc] at v1 v2 v3
                have htc : (t : Int) < (c : Int) := by omega
                clear hyy hy
                go_wp2_with fail
                go_region_held3 (fun w' => w'.cell? ⟨kA, t * 4, none⟩ = some (.int .i64 y.o) ∧ w'.cell? ⟨kA, t * 4 + 1, none⟩ = some (.int .i64 y.d) ∧ w'.cell? ⟨kA, t * 4 + 2, none⟩ = some (.int .i64 y.t) ∧ w'.cell? ⟨kA, t * 4 + 3, none⟩ = some (.int .i64 y.s) ∧ w'.cell? ⟨bk, ok' + t * 4, none⟩ = some (.int .i64 y.o) ∧ w'.cell? ⟨bk, ok' + t * 4 + 1, none⟩ = some (.int .i64 y.d) ∧ w'.cell? ⟨bk, ok' + t * 4 + 2, none⟩ = some (.int .i64 y.t) ∧ w'.cell? ⟨bk, ok' + t * 4 + 3, none⟩ = some (.int .i64 y.s)) (exact ⟨u0, u1, u2, u3, v0, v1, v2, v3⟩) (fail)
                go_wp2_with fail
                go_roundw
                case rel => exact ⟨t + 1, d + 1, by omega, by go_num, rfl⟩
                case measure => simp [intOf]; omega
              · have htc : ¬ (t : Int) < (c : Int) := by omega
                go_wp2_with fail
                go_roundw
                case rel => exact ⟨j + 1, some k2, by omega, by go_num, by rw [← HKE.out]; exact S6.chg0 (chg0_drewN _ _)⟩
                case measure => simp [intOf]; omega
      · obtain rfl : j = len := by omega
        have HB5 := Lib.hid ((bel0 (Below.refl _ _) cA (Nat.le_refl _)).trans (S1.bel.mono cA.size))
        clear S1
        go_wp2_with fail
        go_ret
        exact ⟨rfl, HB5.out⟩
theorem freshBests_all (a : Option Addr) (len cap : Nat) (els : List (List Value)) (cs : Array Value) (w : World) (hI : FlatIn [.int .i64, .int .i64, .int .i64, .int .i64] w a len cap els) (hc : okAll [.int .i64, .int .i64, .int .i64] cs.toList) :
    Calls Try.prog 3 #[.slice a len cap, .agg cs] w fun e w' => e = .returned (.bool true) ∧ Below w.heap.size w w' := by
  obtain ⟨x, y, z, rfl, hx, hy, hz⟩ := ok_three hc
  exact freshBests_walk a len cap els x y z w hI hx hy hz
end Go.Proofs.Ytnfnonphccnbkaa
