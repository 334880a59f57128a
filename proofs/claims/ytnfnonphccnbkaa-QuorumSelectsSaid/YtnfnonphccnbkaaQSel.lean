/- QuorumSelects: of any servers' samples the votes, and what is chosen, or why nothing is: the walk. -/
import Derived.Test.YtnfnonphccnbkaaRefV
import Derived.Deep.RegionHeld3
set_option linter.unusedVariables false
namespace Go.Chron
open Go Go.RowKit
theorem lastN_mem3 {α : Type} {m : Nat} {l : List α} {x : α} (h : x ∈ lastN m l) : x ∈ l := List.mem_of_mem_drop h
end Go.Chron
namespace Go.Proofs.Ytnfnonphccnbkaa
open Go.RowKit Go.Chron

theorem keep6 {W0 w' : World} {k o t : Nat} {y : Vt} (h : W0.cell? ⟨k, o + t * 6, none⟩ = some (.int .i64 y.srv) ∧ W0.cell? ⟨k, o + t * 6 + 1, none⟩ = some (.int .i64 y.sam.o) ∧ W0.cell? ⟨k, o + t * 6 + 2, none⟩ = some (.int .i64 y.sam.d) ∧ W0.cell? ⟨k, o + t * 6 + 3, none⟩ = some (.int .i64 y.sam.t) ∧ W0.cell? ⟨k, o + t * 6 + 4, none⟩ = some (.int .i64 y.sam.s) ∧ W0.cell? ⟨k, o + t * 6 + 5, none⟩ = some (.int .i64 y.off)) (c : Chg (fun _ => False) W0 w') : (w'.cell? ⟨k, o + t * 6, none⟩ = some (.int .i64 y.srv) ∧ w'.cell? ⟨k, o + t * 6 + 1, none⟩ = some (.int .i64 y.sam.o) ∧ w'.cell? ⟨k, o + t * 6 + 2, none⟩ = some (.int .i64 y.sam.d) ∧ w'.cell? ⟨k, o + t * 6 + 3, none⟩ = some (.int .i64 y.sam.t) ∧ w'.cell? ⟨k, o + t * 6 + 4, none⟩ = some (.int .i64 y.sam.s) ∧ w'.cell? ⟨k, o + t * 6 + 5, none⟩ = some (.int .i64 y.off)) ∧ Chg (fun _ => False) W0 w' :=
  ⟨⟨c.keep h.1 id, c.keep h.2.1 id, c.keep h.2.2.1 id, c.keep h.2.2.2.1 id, c.keep h.2.2.2.2.1 id, c.keep h.2.2.2.2.2 id⟩, c⟩

def QSInv (w : World) (S : List Sl) (n : Nat) (i v : Value) (wr : World) : Prop :=
  ∃ (j : Nat) (G : Option Nat) (P : List Value), j ≤ n ∧ i = .int .i64 j ∧ StoresIn w wr v G P ((S.take j).map fun t => lastN 8 t.L)
def QSIn (w0 : World) (s b n : Nat) (L : List Sam) (i : Value) (wr : World) : Prop :=
  ∃ (j : Nat) (g : Option Nat), j ≤ n ∧ i = .int .i64 j ∧ StoreW w0 wr s b g j (lastN 8 (L.take j))

set_option maxRecDepth 100000 in
set_option maxHeartbeats 6400000 in
theorem quorumSelects_walk (q : Int) (a : Option Addr) (n cap : Nat) (S : List Sl) (n0 n1 n2 : Int) (w : World) (hI : NestIn w a n cap S) (h0 : In64 n0) (h1 : In64 n1) (h2 : In64 n2) :
    Calls Try.prog 18 #[.int .i64 q, .slice a n cap, .agg #[.int .i64 n0, .int .i64 n1, .int .i64 n2]] w fun e w' => e = .returned (.bool true) ∧ Below w.heap.size w w' := by
  obtain ⟨i0, hi, hz0, hz1, hz2⟩ := info_parts info_ptr
  have N0 := Lib.hid h0
  have N1 := Lib.hid h1
  have N2 := Lib.hid h2
  have hcm := hI.capE
  have hle := hI.leE
  have HI := Lib.hid hI
  have HN := Lib.hid hI.lenE
  clear hI h0 h1 h2
  have bA := Blk.new w 23 #[Value.int IntKind.i64 n0, Value.int IntKind.i64 n1, Value.int IntKind.i64 n2]
  have cA := chg0_alloc w (Obj.cells #[Value.int IntKind.i64 n0, Value.int IntKind.i64 n1, Value.int IntKind.i64 n2] 23)
  go_enter Try.func18, Try.ntmps18
  go_wp2_with fail
  have lA := bA.lt
  generalize w.alloc (Obj.cells #[Value.int IntKind.i64 n0, Value.int IntKind.i64 n1, Value.int IntKind.i64 n2] 23) = wA at *
  obtain ⟨iA, hiA⟩ : ∃ iA, iA = w.heap.size := ⟨_, rfl⟩
  rw [← hiA] at bA lA
  simp only [← hiA]
  have HIA := Lib.hid hiA
  clear hiA
  have HCA := Lib.hid cA
  have HFIN := Lib.hid (show ∀ w', Chg (fun _ => False) wA w' → Below w.heap.size w w' from fun w' h => bel0 (Below.refl _ _) (cA.trans h) (Nat.le_refl _))
  clear cA
  refine (alive33 _).mono ?_
  rintro e w1 ⟨rfl, c1⟩
  by_cases h20 : 20 < n
  · go_wp2_with fail
    refine (alive33 _).mono ?_
    rintro e w2 ⟨rfl, c2⟩
    have c3 := Lib.hid (HFIN.out _ (c1.trans c2))
    clear c1 c2
    go_wp2_with fail
    go_ret
    exact ⟨rfl, c3.out⟩
  · go_wp2_with fail
    go_loopw [32, 7] (fun i v wr => QSInv wA S n i v wr) (fun i _ _ => n - (intOf i).toNat)
    case atStart => exact ⟨0, none, [], by omega, rfl, ⟨⟨rfl, by simp, by simp⟩, Owns.nil _ _ _, by simp, c1⟩⟩
    case round =>
      clear c1
      obtain ⟨j, G, P, hj, rfl, SI⟩ := hrel
      by_cases hlt : j < n
      · obtain ⟨t, hS⟩ : ∃ t, S[j]? = some t := ⟨_, List.getElem?_eq_getElem (by rw [← HN.out]; exact hlt)⟩
        obtain ⟨bl, off, rfl, hcell⟩ := HI.out.reads (by rw [List.length_map, ← HN.out]; omega)
        have hT := HI.out.each t (List.mem_of_getElem? hS)
        have e0 := SI.c.keep (HCA.out.keep (hcell j [slv t] (by rw [List.getElem?_map, hS]; rfl) 0 _ rfl) (fun h => h)) (fun h => h)
        simp only [Nat.mul_one, Nat.add_zero] at e0
        have hjn : (j : Int) < (n : Int) := by omega
        have hts : (S.take (j + 1)).map (fun t => lastN 8 t.L) = (S.take j).map (fun t => lastN 8 t.L) ++ [lastN 8 t.L] := by rw [List.take_add_one, hS]; simp
        have HTS := Lib.hid hts
        obtain ⟨ta, tn, tc, L⟩ := t
        simp only [slv] at e0
        have htl := hT.f.lenE
        rw [List.length_map] at htl
        have htc := hT.f.leE
        have htm := hT.f.capE
        have HT := Lib.hid hT
        have HTL := Lib.hid htl
        have hPl : P.length ≤ 1000 := by
          have := SI.sts.len
          rw [List.length_map, List.length_take] at this
          omega
        simp only at htc htm
        clear hS hT htl hts hcell
        by_cases h50 : 50 < tn
        · have HB := Lib.hid (HFIN.out _ SI.c)
          clear SI
          go_wp2_with fail
          go_ret
          exact ⟨rfl, HB.out⟩
        · by_cases ht0 : tn = 0
          · subst ht0
            have hL0 : L = [] := List.eq_nil_of_length_eq_zero HTL.out.symm
            go_wp2_with fail
            obtain ⟨wo, rfl⟩ : ∃ wo, wo = wr := ⟨wr, rfl⟩
            go_loopw [45] (fun i wx => i = .int .i64 ((0 : Nat) : Int) ∧ wx = wo) (fun i _ => 0)
            case atStart => exact ⟨rfl, rfl⟩
            case round =>
              obtain ⟨rfl, rfl⟩ := hrel
              have hst : StAt wr (.pointer none) (lastN 8 L) := .inl ⟨rfl, by rw [hL0]; rfl⟩
              have hLok : ∀ x ∈ lastN 8 L, x.Ok := fun x hx => by rw [hL0] at hx; simp [lastN] at hx
              have SI3 := SI.chg0 (chg0_alloc wr (Obj.cells #[Value.pointer none] 24))
              have hst3 := hst.chg0 (chg0_alloc wr (Obj.cells #[Value.pointer none] 24))
              have bX := Blk.new wr 24 #[Value.pointer none]
              have HST := Lib.hid hst3
              have HLOK := Lib.hid hLok
              clear SI hst hst3 hLok hL0 e0
              go_wp2_with (at_builtin; refine wpList_app (by rfl) (.tmp 53) (.tmp 55) 82 (by rfl) 24 i0 _ 1 8 Try.underlying82 hi hz0 hz1 hz2 rfl (by omega) _ _ _ (by rfl) SI3.o _ 24 [[Value.pointer none]] 1 1 (by rfl) (by rfl) bX (by simp) (by simp [Value.oneCell']) (by simp) (by simp; omega) (by simp [maxLen]; omega) ?_)
              intro kk capk wk ho hc hkk
              have hk' : G = some kk ∨ (wr.alloc (Obj.cells #[Value.pointer none] 24)).heap.size ≤ kk := by simpa using hkk
              have ho' : Owns wk 24 1 (.slice (some ⟨kk, 0, none⟩) (P.length + 1) capk) (some kk) ((P ++ [Value.pointer none]).map fun p => [p]) := by rw [List.map_append]; exact ho
              have SI4 := Lib.hid (SI3.add HST.out HLOK.out ho' hc hk')
              clear SI3 bX ho hc hkk hk' ho'
              go_wp2_with fail
              go_roundw
              case rel => exact ⟨j + 1, some kk, _, by omega, by go_num, by rw [HTS.out]; exact SI4.out⟩
              case measure => simp [intOf]; omega
          · have hgt : (0 : Int) < (tn : Int) := by omega
            have HSI := Lib.hid SI
            clear SI
            go_wp2_with fail
            obtain ⟨wo, rfl⟩ : ∃ wo, wo = wr := ⟨wr, rfl⟩
            refine (storeNew _).mono ?_
            rintro e w2 ⟨s, b, rfl, st, hs, hb, c2⟩
            have S0 : StoreW wo w2 s b none 0 [] := ⟨st, hb, by simp, bel0 (Below.refl _ _) c2 (Nat.le_refl _)⟩
            clear st hs hb c2 e0
            go_wp2_with fail
            go_loopw [45] (fun i wx => QSIn wo s b tn L i wx) (fun i _ => tn - (intOf i).toNat)
            case atStart => exact ⟨0, none, by omega, rfl, S0⟩
            case round =>
              clear S0
              obtain ⟨k, g, hk, rfl, S1⟩ := hrel
              by_cases hkt : k < tn
              · obtain ⟨x, hx⟩ : ∃ x, L[k]? = some x := ⟨_, List.getElem?_eq_getElem (by have := HTL.out; (try dsimp only at this); omega)⟩
                obtain ⟨bs, os, hta, hbw, hcl⟩ := HT.out.f.cell (by show 0 < tn; omega)
                simp only at hta
                subst hta
                have hxx : (L.map samc)[k]? = some (samc x) := by rw [List.getElem?_map, hx]; rfl
                have hbw' : bs < wo.heap.size := Nat.lt_of_lt_of_le hbw (HCA.out.trans HSI.out.c).size
                have e0 := (S1.bel.cell hbw').trans (HSI.out.c.keep (HCA.out.keep (hcl k _ hxx 0 _ rfl) (fun h => h)) (fun h => h))
                have e1 := (S1.bel.cell hbw').trans (HSI.out.c.keep (HCA.out.keep (hcl k _ hxx 1 _ rfl) (fun h => h)) (fun h => h))
                have e2 := (S1.bel.cell hbw').trans (HSI.out.c.keep (HCA.out.keep (hcl k _ hxx 2 _ rfl) (fun h => h)) (fun h => h))
                have e3 := (S1.bel.cell hbw').trans (HSI.out.c.keep (HCA.out.keep (hcl k _ hxx 3 _ rfl) (fun h => h)) (fun h => h))
                simp only [sh4, List.length_cons, List.length_nil, Nat.add_zero, Nat.zero_add, Nat.reduceAdd] at e0 e1 e2 e3
                rw [← Nat.add_assoc] at e1 e2 e3
                have hi1 : (k : Int) < (tn : Int) := by omega
                have SX := S1.chg0 (chg0_alloc wr (Obj.cells #[Value.int IntKind.i64 x.o, Value.int IntKind.i64 x.d, Value.int IntKind.i64 x.t, Value.int IntKind.i64 x.s] 28))
                clear S1
                go_wp2_with fail
                refine (storeAdd s b g k _ x.o x.d x.t x.s _ SX.st (by omega)).mono ?_
                rintro e wB ⟨rfl, A⟩
                obtain ⟨k2, S2, -⟩ := SX.add A
                have hP : rpush 8 (lastN 8 (L.take k)) (⟨x.o, x.d, x.t, x.s⟩ : Sam) = lastN 8 (L.take (k + 1)) := by
                  rw [List.take_add_one, hx, lastN_push (by omega)]; rfl
                rw [hP] at S2
                clear SX A hP e0 e1 e2 e3 hxx
                go_wp2_with fail
                go_roundw
                case rel => exact ⟨k + 1, some k2, by omega, by go_num, S2⟩
                case measure => simp [intOf]; omega
              · obtain rfl : k = tn := by omega
                have hzt : L.take k = L := List.take_of_length_le (by have := HTL.out; (try dsimp only at this); omega)
                rw [hzt] at S1
                have cI : Chg (fun _ => False) wo wr := Chg.of_bel S1.bel
                have SI2 := HSI.out.chg0 cI
                have hst : StAt wr (.pointer (some ⟨s, 0, none⟩)) (lastN 8 L) := .inr ⟨s, b, g, k, rfl, S1.st⟩
                have hLok : ∀ x ∈ lastN 8 L, x.Ok := fun x hx => by
                  exact HT.out.ok x (lastN_mem3 hx)
                have HLOK := Lib.hid hLok
                have SI3 := SI2.chg0 (chg0_alloc wr (Obj.cells #[Value.pointer (some ⟨s, 0, none⟩)] 24))
                have hst3 := hst.chg0 (chg0_alloc wr (Obj.cells #[Value.pointer (some ⟨s, 0, none⟩)] 24))
                have bX := Blk.new wr 24 #[Value.pointer (some ⟨s, 0, none⟩)]
                have HST := Lib.hid hst3
                clear S1 HSI cI SI2 hst hst3 hzt hLok
                go_wp2_with (at_builtin; refine wpList_app (by rfl) (.tmp 53) (.tmp 55) 82 (by rfl) 24 i0 _ 1 8 Try.underlying82 hi hz0 hz1 hz2 rfl (by omega) _ _ _ (by rfl) SI3.o _ 24 [[Value.pointer (some ⟨s, 0, none⟩)]] 1 1 (by rfl) (by rfl) bX (by simp) (by simp [Value.oneCell']) (by simp) (by simp; omega) (by simp [maxLen]; omega) ?_)
                intro kk capk wk ho hc hkk
                have hk' : G = some kk ∨ (wr.alloc (Obj.cells #[Value.pointer (some ⟨s, 0, none⟩)] 24)).heap.size ≤ kk := by simpa using hkk
                have ho' : Owns wk 24 1 (.slice (some ⟨kk, 0, none⟩) (P.length + 1) capk) (some kk) ((P ++ [Value.pointer (some ⟨s, 0, none⟩)]).map fun p => [p]) := by rw [List.map_append]; exact ho
                have SI4 := Lib.hid (SI3.add HST.out HLOK.out ho' hc hk')
                clear SI3 bX ho hc hkk hk' ho'
                go_wp2_with fail
                go_roundw
                case rel => exact ⟨j + 1, some kk, _, by omega, by go_num, by rw [HTS.out]; exact SI4.out⟩
                case measure => simp [intOf]; omega
      · obtain rfl : j = n := by omega
        obtain ⟨Ls, hLs⟩ : ∃ Ls, Ls = S.map (fun t => lastN 8 t.L) := ⟨_, rfl⟩
        have hSt : S.take j = S := List.take_of_length_le (by have := HN.out; omega)
        rw [hSt, ← hLs] at SI
        have hPl : P.length = j := by rw [SI.sts.len, hLs, List.length_map, ← HN.out]
        obtain ⟨aG, capG, rfl, hcg, hcg2, -, haG⟩ := SI.o.form
        rw [List.length_map, hPl] at hcg
        rw [List.length_map, hPl]
        have hcg2 : capG ≤ 9223372036854775807 := by simpa [maxLen] using hcg2
        have hRd := SI.o.reads
        rw [← haG] at hRd
        obtain ⟨V, hV⟩ : ∃ V, V = selOf Ls n0 n1 n2 j := ⟨_, rfl⟩
        obtain ⟨O, hO⟩ : ∃ O, O = V.map (·.off) := ⟨_, rfl⟩
        obtain ⟨m, hm⟩ : ∃ m, m = V.length := ⟨_, rfl⟩
        have hml : m ≤ 1000 := by rw [hm, hV]; have := selOf_len Ls n0 n1 n2 j; omega
        have HV := Lib.hid hV
        have HO := Lib.hid hO
        have HM := Lib.hid hm
        have HLS := Lib.hid hLs
        have HPL := Lib.hid hPl
        have HRD := Lib.hid hRd
        have HST := Lib.hid SI.sts
        have HC1 := Lib.hid SI.c
        clear hSt hLs hPl haG hRd hV hO hm SI
        have bA1 := bA.chg HC1.out (fun h => h)
        have m0 := bA1.cell 0
        have m1 := bA1.cell 1
        have m2 := bA1.cell 2
        simp at m0 m1 m2
        clear bA1
        have hcase : (q < 1 ∧ chOf q O = (0, 3)) ∨ (¬ q < 1 ∧ ∃ r1 r2, chOf q O = (r1, r2) ∧ (r2 == 3) = false) := by
          rcases chOf_cases q O with ⟨h, e⟩ | ⟨h, _, e⟩ | ⟨h, _, e⟩
          · exact .inl ⟨h, e⟩
          · exact .inr ⟨by omega, 0, 13, e, by decide⟩
          · exact .inr ⟨by omega, medOf O, 0, e, by decide⟩
        rcases hcase with ⟨hq, hch⟩ | ⟨hq, r1, r2, hch, hr3⟩
        · have HCH := Lib.hid hch
          clear hch
          go_wp2_with fail
          refine (select44 q aG j capG P Ls n0 n1 n2 N0.out N2.out _ HPL.out.symm hcg hcg2 HRD.out HST.out (by omega)).mono ?_
          rintro e wB ⟨v1, g1, rfl, V1⟩
          rw [if_pos (by omega)] at V1
          rw [← HV.out, ← HO.out, HCH.out]
          have c2 := HC1.out.trans V1.c
          obtain ⟨a1, cap1, rfl, p1, p2, -⟩ := V1.form (n := 0) rfl
          have HV1 := Lib.hid V1
          have bA1 := bA.chg c2 (fun h => h)
          have m0 := bA1.cell 0
          have m1 := bA1.cell 1
          have m2 := bA1.cell 2
          simp at m0 m1 m2
          have HST2 := Lib.hid (HST.out.chg0 V1.c)
          have HRD2 := Lib.hid (HRD.out.chg V1.c (fun _ _ h => h))
          clear bA1 V1 HST HRD
          go_wp2_with fail
          refine (votes45 a j cap S n0 n1 n2 N0.out N2.out w _ HI.out (HCA.out.trans c2) (by omega)).mono ?_
          rintro e wC ⟨v6, g6, rfl, V6⟩
          rw [← HLS.out, ← HV.out] at V6
          have c3 := c2.trans V6.c
          obtain ⟨a6, cap6, rfl, s1, s2, hR6⟩ := V6.form (n := m) HM.out
          have HVR := Lib.hid (show VRead wC a6 m O from ⟨V, HM.out, HO.out.symm, hR6⟩)
          have HV6 := Lib.hid V6
          have HST3 := Lib.hid (HST2.out.chg0 V6.c)
          have HRD3 := Lib.hid (HRD2.out.chg V6.c (fun _ _ h => h))
          have HV1b := Lib.hid (HV1.out.chg0 V6.c)
          clear V6 hR6 c2 HST2 HRD2 HV1 m0 m1 m2
          go_wp2_with fail
          refine (choose36 q a6 m cap6 O _ s1 s2 HVR.out (by omega)).mono ?_
          rintro e wD ⟨rfl, k4⟩
          rw [HCH.out]
          have c4 := c3.trans k4
          have HST4 := Lib.hid (HST3.out.chg0 k4)
          have HRD4 := Lib.hid (HRD3.out.chg k4 (fun _ _ h => h))
          have HV1c := Lib.hid (HV1b.out.chg0 k4)
          have HV6c := Lib.hid (HV6.out.chg0 k4)
          have bA1 := bA.chg c4 (fun h => h)
          have m0 := bA1.cell 0
          have m1 := bA1.cell 1
          have m2 := bA1.cell 2
          simp at m0 m1 m2
          clear bA1 c3 k4 HST3 HRD3 HV1b HV6 HVR
          go_wp2_with fail
          refine (votes46 aG j capG P Ls n0 n1 n2 N0.out N2.out _ HPL.out.symm hcg hcg2 HRD4.out HST4.out (by omega)).mono ?_
          rintro e wE ⟨v8, g8, rfl, V8⟩
          rw [← HV.out] at V8
          have c5 := c4.trans V8.c
          obtain ⟨a8, cap8, rfl, u1, u2, hR8⟩ := V8.form (n := m) HM.out
          have HB := Lib.hid (HFIN.out _ c5)
          clear HST4 HRD4 c4 c5 m0 m1 m2
          clear V8 hR8 HV1c HV6c
          go_wp2_with fail
          go_ret
          exact ⟨rfl, HB.out⟩
        · have HCH := Lib.hid hch
          clear hch
          go_wp2_with fail
          refine (select44 q aG j capG P Ls n0 n1 n2 N0.out N2.out _ HPL.out.symm hcg hcg2 HRD.out HST.out (by omega)).mono ?_
          rintro e wB ⟨v1, g1, rfl, V1⟩
          rw [if_neg (by omega), ← HV.out] at V1
          rw [← HV.out, ← HO.out, HCH.out]
          have c2 := HC1.out.trans V1.c
          obtain ⟨a1, cap1, rfl, p1, p2, -⟩ := V1.form (n := m) HM.out
          have HV1 := Lib.hid V1
          have bA1 := bA.chg c2 (fun h => h)
          have m0 := bA1.cell 0
          have m1 := bA1.cell 1
          have m2 := bA1.cell 2
          simp at m0 m1 m2
          have HST2 := Lib.hid (HST.out.chg0 V1.c)
          have HRD2 := Lib.hid (HRD.out.chg V1.c (fun _ _ h => h))
          clear bA1 V1 HST HRD
          go_wp2_with fail
          refine (votes45 a j cap S n0 n1 n2 N0.out N2.out w _ HI.out (HCA.out.trans c2) (by omega)).mono ?_
          rintro e wC ⟨v6, g6, rfl, V6⟩
          rw [← HLS.out, ← HV.out] at V6
          have c3 := c2.trans V6.c
          obtain ⟨a6, cap6, rfl, s1, s2, hR6⟩ := V6.form (n := m) HM.out
          have HVR := Lib.hid (show VRead wC a6 m O from ⟨V, HM.out, HO.out.symm, hR6⟩)
          have HV6 := Lib.hid V6
          have HST3 := Lib.hid (HST2.out.chg0 V6.c)
          have HRD3 := Lib.hid (HRD2.out.chg V6.c (fun _ _ h => h))
          have HV1b := Lib.hid (HV1.out.chg0 V6.c)
          clear V6 hR6 c2 HST2 HRD2 HV1 m0 m1 m2
          go_wp2_with fail
          refine (choose36 q a6 m cap6 O _ s1 s2 HVR.out (by omega)).mono ?_
          rintro e wD ⟨rfl, k4⟩
          rw [HCH.out]
          have c4 := c3.trans k4
          have HST4 := Lib.hid (HST3.out.chg0 k4)
          have HRD4 := Lib.hid (HRD3.out.chg k4 (fun _ _ h => h))
          have HV1c := Lib.hid (HV1b.out.chg0 k4)
          have HV6c := Lib.hid (HV6.out.chg0 k4)
          have bA1 := bA.chg c4 (fun h => h)
          have m0 := bA1.cell 0
          have m1 := bA1.cell 1
          have m2 := bA1.cell 2
          simp at m0 m1 m2
          clear bA1 c3 k4 HST3 HRD3 HV1b HV6 HVR
          go_wp2_with fail
          refine (votes46 aG j capG P Ls n0 n1 n2 N0.out N2.out _ HPL.out.symm hcg hcg2 HRD4.out HST4.out (by omega)).mono ?_
          rintro e wE ⟨v8, g8, rfl, V8⟩
          rw [← HV.out] at V8
          have c5 := c4.trans V8.c
          obtain ⟨a8, cap8, rfl, u1, u2, hR8⟩ := V8.form (n := m) HM.out
          have HB := Lib.hid (HFIN.out _ c5)
          clear HST4 HRD4 c4 c5 m0 m1 m2
          obtain ⟨a1', cap1', hv1, -, -, hR1⟩ := (HV1c.out.chg0 V8.c).form (n := m) HM.out
          simp only [Value.slice.injEq] at hv1
          obtain ⟨rfl, -, rfl⟩ := hv1
          obtain ⟨a6', cap6', hv6, -, -, hR6⟩ := (HV6c.out.chg0 V8.c).form (n := m) HM.out
          simp only [Value.slice.injEq] at hv6
          obtain ⟨rfl, -, rfl⟩ := hv6
          have HR1 := Lib.hid hR1
          have HR6 := Lib.hid hR6
          have HR8 := Lib.hid hR8
          clear V8 hR8 HV1c HV6c hR1 hR6
          go_wp2_with fail
          go_loopw [120] (fun i wx => ∃ t : Nat, t ≤ m ∧ i = .int .i64 t ∧ Chg (fun _ => False) wE wx) (fun i _ => m - (intOf i).toNat)
          case atStart => exact ⟨0, by omega, rfl, Chg.refl _ _⟩
          case round =>
            obtain ⟨t, htm, rfl, cR⟩ := hrel
            by_cases hlt2 : t < m
            · obtain ⟨y, hy⟩ : ∃ y, V[t]? = some y := ⟨_, List.getElem?_eq_getElem (by rw [← HM.out]; exact hlt2)⟩
              have hyy : (V.map votec)[t]? = some (votec y) := by rw [List.getElem?_map, hy]; rfl
              obtain ⟨k1, o1, rfl, hc1⟩ := HR1.out (by rw [List.length_map, ← HM.out]; omega)
              obtain ⟨k6, o6, rfl, hc6⟩ := HR6.out (by rw [List.length_map, ← HM.out]; omega)
              obtain ⟨k8, o8, rfl, hc8⟩ := HR8.out (by rw [List.length_map, ← HM.out]; omega)
              have HC1' := Lib.hid hc1
              have HC6' := Lib.hid hc6
              have HC8' := Lib.hid hc8
              have x0 : wE.cell? ⟨k6, o6 + (t * 6 + 0), none⟩ = some (.int .i64 y.srv) := HC6'.out t _ hyy 0 _ rfl
              have x1 : wE.cell? ⟨k6, o6 + (t * 6 + 1), none⟩ = some (.int .i64 y.sam.o) := HC6'.out t _ hyy 1 _ rfl
              have x2 : wE.cell? ⟨k6, o6 + (t * 6 + 2), none⟩ = some (.int .i64 y.sam.d) := HC6'.out t _ hyy 2 _ rfl
              have x3 : wE.cell? ⟨k6, o6 + (t * 6 + 3), none⟩ = some (.int .i64 y.sam.t) := HC6'.out t _ hyy 3 _ rfl
              have x4 : wE.cell? ⟨k6, o6 + (t * 6 + 4), none⟩ = some (.int .i64 y.sam.s) := HC6'.out t _ hyy 4 _ rfl
              have x5 : wE.cell? ⟨k6, o6 + (t * 6 + 5), none⟩ = some (.int .i64 y.off) := HC6'.out t _ hyy 5 _ rfl
              simp only [Nat.add_zero] at x0
              rw [← Nat.add_assoc] at x1 x2 x3 x4 x5
              have htc : (t : Int) < (m : Int) := by omega
              have HX := Lib.hid (And.intro (cR.keep x0 (fun h => h)) (And.intro (cR.keep x1 (fun h => h)) (And.intro (cR.keep x2 (fun h => h)) (And.intro (cR.keep x3 (fun h => h)) (And.intro (cR.keep x4 (fun h => h)) (cR.keep x5 (fun h => h)))))))
              clear hc1 hc6 hc8 x0 x1 x2 x3 x4 x5
              go_wp2_with fail
              go_region_held3 (fun w' => (w'.cell? ⟨k6, o6 + t * 6, none⟩ = some (.int .i64 y.srv) ∧ w'.cell? ⟨k6, o6 + t * 6 + 1, none⟩ = some (.int .i64 y.sam.o) ∧ w'.cell? ⟨k6, o6 + t * 6 + 2, none⟩ = some (.int .i64 y.sam.d) ∧ w'.cell? ⟨k6, o6 + t * 6 + 3, none⟩ = some (.int .i64 y.sam.t) ∧ w'.cell? ⟨k6, o6 + t * 6 + 4, none⟩ = some (.int .i64 y.sam.s) ∧ w'.cell? ⟨k6, o6 + t * 6 + 5, none⟩ = some (.int .i64 y.off)) ∧ Chg (fun _ => False) wr w') (first | (refine keep6 HX.out ?_; first | exact Chg.drew (Chg.refl _ _) | exact Chg.alloc (And.right (by assumption)) _ | exact Chg.alloc (Chg.drew (Chg.refl _ _)) _ | exact Chg.drew (Chg.alloc (Chg.refl _ _) _) | exact And.right (by assumption))) (fail)
              go_wp2_with fail
              obtain ⟨X, hX⟩ : ∃ X, X = (wr.alloc (Obj.cells #[Value.int IntKind.i64 y.srv, Value.int IntKind.i64 y.sam.o, Value.int IntKind.i64 y.sam.d, Value.int IntKind.i64 y.sam.t, Value.int IntKind.i64 y.sam.s, Value.int IntKind.i64 y.off] 87)).drew := ⟨_, rfl⟩
              have cX : Chg (fun _ => False) wE X := by rw [hX]; exact (cR.alloc _).drew
              have bX : Blk X wr.heap.size 87 #[Value.int IntKind.i64 y.srv, Value.int IntKind.i64 y.sam.o, Value.int IntKind.i64 y.sam.d, Value.int IntKind.i64 y.sam.t, Value.int IntKind.i64 y.sam.s, Value.int IntKind.i64 y.off] := by rw [hX]; exact Blk.new wr 87 _
              have a0 : wE.cell? ⟨k1, o1 + (t * 6 + 0), none⟩ = some (.int .i64 y.srv) := HC1'.out t _ hyy 0 _ rfl
              have a1 : wE.cell? ⟨k1, o1 + (t * 6 + 1), none⟩ = some (.int .i64 y.sam.o) := HC1'.out t _ hyy 1 _ rfl
              have a2 : wE.cell? ⟨k1, o1 + (t * 6 + 2), none⟩ = some (.int .i64 y.sam.d) := HC1'.out t _ hyy 2 _ rfl
              have a3 : wE.cell? ⟨k1, o1 + (t * 6 + 3), none⟩ = some (.int .i64 y.sam.t) := HC1'.out t _ hyy 3 _ rfl
              have a4 : wE.cell? ⟨k1, o1 + (t * 6 + 4), none⟩ = some (.int .i64 y.sam.s) := HC1'.out t _ hyy 4 _ rfl
              have a5 : wE.cell? ⟨k1, o1 + (t * 6 + 5), none⟩ = some (.int .i64 y.off) := HC1'.out t _ hyy 5 _ rfl
              have b0 : wE.cell? ⟨k8, o8 + (t * 6 + 0), none⟩ = some (.int .i64 y.srv) := HC8'.out t _ hyy 0 _ rfl
              have b1 : wE.cell? ⟨k8, o8 + (t * 6 + 1), none⟩ = some (.int .i64 y.sam.o) := HC8'.out t _ hyy 1 _ rfl
              have b2 : wE.cell? ⟨k8, o8 + (t * 6 + 2), none⟩ = some (.int .i64 y.sam.d) := HC8'.out t _ hyy 2 _ rfl
              have b3 : wE.cell? ⟨k8, o8 + (t * 6 + 3), none⟩ = some (.int .i64 y.sam.t) := HC8'.out t _ hyy 3 _ rfl
              have b4 : wE.cell? ⟨k8, o8 + (t * 6 + 4), none⟩ = some (.int .i64 y.sam.s) := HC8'.out t _ hyy 4 _ rfl
              have b5 : wE.cell? ⟨k8, o8 + (t * 6 + 5), none⟩ = some (.int .i64 y.off) := HC8'.out t _ hyy 5 _ rfl
              simp only [Nat.add_zero] at a0 b0
              rw [← Nat.add_assoc] at a1 a2 a3 a4 a5 b1 b2 b3 b4 b5
              have HFACT := Lib.hid (show X.cell? ⟨k1, o1 + t * 6, none⟩ = some (.int .i64 y.srv) ∧ X.cell? ⟨k1, o1 + t * 6 + 1, none⟩ = some (.int .i64 y.sam.o) ∧ X.cell? ⟨k1, o1 + t * 6 + 2, none⟩ = some (.int .i64 y.sam.d) ∧ X.cell? ⟨k1, o1 + t * 6 + 3, none⟩ = some (.int .i64 y.sam.t) ∧ X.cell? ⟨k1, o1 + t * 6 + 4, none⟩ = some (.int .i64 y.sam.s) ∧ X.cell? ⟨k1, o1 + t * 6 + 5, none⟩ = some (.int .i64 y.off) ∧ X.cell? ⟨wr.heap.size, 0, none⟩ = some (.int .i64 y.srv) ∧ X.cell? ⟨wr.heap.size, 1, none⟩ = some (.int .i64 y.sam.o) ∧ X.cell? ⟨wr.heap.size, 2, none⟩ = some (.int .i64 y.sam.d) ∧ X.cell? ⟨wr.heap.size, 3, none⟩ = some (.int .i64 y.sam.t) ∧ X.cell? ⟨wr.heap.size, 4, none⟩ = some (.int .i64 y.sam.s) ∧ X.cell? ⟨wr.heap.size, 5, none⟩ = some (.int .i64 y.off) ∧ X.cell? ⟨k8, o8 + t * 6, none⟩ = some (.int .i64 y.srv) ∧ X.cell? ⟨k8, o8 + t * 6 + 1, none⟩ = some (.int .i64 y.sam.o) ∧ X.cell? ⟨k8, o8 + t * 6 + 2, none⟩ = some (.int .i64 y.sam.d) ∧ X.cell? ⟨k8, o8 + t * 6 + 3, none⟩ = some (.int .i64 y.sam.t) ∧ X.cell? ⟨k8, o8 + t * 6 + 4, none⟩ = some (.int .i64 y.sam.s) ∧ X.cell? ⟨k8, o8 + t * 6 + 5, none⟩ = some (.int .i64 y.off) from ⟨cX.keep a0 (fun h => h), cX.keep a1 (fun h => h), cX.keep a2 (fun h => h), cX.keep a3 (fun h => h), cX.keep a4 (fun h => h), cX.keep a5 (fun h => h), bX.cell 0, bX.cell 1, bX.cell 2, bX.cell 3, bX.cell 4, bX.cell 5, cX.keep b0 (fun h => h), cX.keep b1 (fun h => h), cX.keep b2 (fun h => h), cX.keep b3 (fun h => h), cX.keep b4 (fun h => h), cX.keep b5 (fun h => h)⟩)
              have HCX := Lib.hid cX
              rw [← hX]
              clear a0 a1 a2 a3 a4 a5 b0 b1 b2 b3 b4 b5 hX cX bX cR
              go_region_held3 (fun w' => w'.cell? ⟨k1, o1 + t * 6, none⟩ = some (.int .i64 y.srv) ∧ w'.cell? ⟨k1, o1 + t * 6 + 1, none⟩ = some (.int .i64 y.sam.o) ∧ w'.cell? ⟨k1, o1 + t * 6 + 2, none⟩ = some (.int .i64 y.sam.d) ∧ w'.cell? ⟨k1, o1 + t * 6 + 3, none⟩ = some (.int .i64 y.sam.t) ∧ w'.cell? ⟨k1, o1 + t * 6 + 4, none⟩ = some (.int .i64 y.sam.s) ∧ w'.cell? ⟨k1, o1 + t * 6 + 5, none⟩ = some (.int .i64 y.off) ∧ w'.cell? ⟨wr.heap.size, 0, none⟩ = some (.int .i64 y.srv) ∧ w'.cell? ⟨wr.heap.size, 1, none⟩ = some (.int .i64 y.sam.o) ∧ w'.cell? ⟨wr.heap.size, 2, none⟩ = some (.int .i64 y.sam.d) ∧ w'.cell? ⟨wr.heap.size, 3, none⟩ = some (.int .i64 y.sam.t) ∧ w'.cell? ⟨wr.heap.size, 4, none⟩ = some (.int .i64 y.sam.s) ∧ w'.cell? ⟨wr.heap.size, 5, none⟩ = some (.int .i64 y.off) ∧ w'.cell? ⟨k8, o8 + t * 6, none⟩ = some (.int .i64 y.srv) ∧ w'.cell? ⟨k8, o8 + t * 6 + 1, none⟩ = some (.int .i64 y.sam.o) ∧ w'.cell? ⟨k8, o8 + t * 6 + 2, none⟩ = some (.int .i64 y.sam.d) ∧ w'.cell? ⟨k8, o8 + t * 6 + 3, none⟩ = some (.int .i64 y.sam.t) ∧ w'.cell? ⟨k8, o8 + t * 6 + 4, none⟩ = some (.int .i64 y.sam.s) ∧ w'.cell? ⟨k8, o8 + t * 6 + 5, none⟩ = some (.int .i64 y.off)) (exact HFACT.out) (fail)
              go_wp2_with fail
              go_roundw
              case rel => exact ⟨t + 1, by omega, by go_num, HCX.out.drew⟩
              case measure => simp [intOf]; omega
            · have htc : ¬ (t : Int) < (m : Int) := by omega
              have HB9 := Lib.hid (bel0 HB.out cR (Nat.le_refl _))
              clear cR
              go_wp2_with fail
              go_ret
              exact ⟨rfl, HB9.out⟩
theorem quorumSelects_all (q : Int) (a : Option Addr) (n cap : Nat) (S : List Sl) (cs : Array Value) (w : World) (hI : NestIn w a n cap S) (hc : okAll [.int .i64, .int .i64, .int .i64] cs.toList) :
    Calls Try.prog 18 #[.int .i64 q, .slice a n cap, .agg cs] w fun e w' => e = .returned (.bool true) ∧ Below w.heap.size w w' := by
  obtain ⟨x, y, z, rfl, hx, hy, hz⟩ := ok_three hc
  exact quorumSelects_walk q a n cap S x y z w hI hx hy hz
end Go.Proofs.Ytnfnonphccnbkaa
