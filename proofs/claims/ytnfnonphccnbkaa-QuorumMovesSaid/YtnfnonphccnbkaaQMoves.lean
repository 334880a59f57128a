/- QuorumMoves: slewed by so much more, what is chosen is as much less, by the same votes: the walk. -/
import Derived.Test.YtnfnonphccnbkaaSts
import Derived.Test.YtnfnonphccnbkaaMoves
import Derived.Deep.RegionHeld3
set_option linter.unusedVariables false
namespace Go.Chron
open Go Go.RowKit
def mvQ (x : Sam) : Sam := ⟨x.o.tmod 1152921504606846976, x.d, x.t.tmod 1000, x.s.tmod 1152921504606846976⟩
theorem mvQ_ok {x : Sam} (h : x.Ok) : (mvQ x).Ok := ⟨in60_64 (tmod60 _), h.d, by
  have h1 := Int.lt_tmod_of_pos x.t (show (0 : Int) < 1000 by decide)
  have h2 := Int.tmod_lt_of_pos x.t (show (0 : Int) < 1000 by decide)
  exact ⟨by show -9223372036854775808 ≤ x.t.tmod 1000; omega, by show x.t.tmod 1000 ≤ 9223372036854775807; omega⟩, in60_64 (tmod60 _)⟩
def shiftV (z : Int) (v : Vt) : Vt := ⟨v.srv, v.sam, v.off - z⟩
theorem voteOf_shift {L : List Sam} (hL : ∀ x ∈ L, In60 x.o ∧ In60 x.s) {z : Int} (hz : -2147483648 ≤ z) (hz' : z ≤ 2147483647) (i : Nat) (h life : Int) : voteOf L i h life z = (voteOf L i h life 0).map (shiftV z) := by
  unfold voteOf
  cases hb : bestOf (L.filter (frOf · h life)) with
  | none => rfl
  | some x =>
    have hx := hL x (List.mem_filter.1 (bestOf_mem _ _ hb)).1
    have := (nowOf_moves hx.1 hx.2 hz hz').1
    simp [shiftV, this]
theorem selOf_shift {Ls : List (List Sam)} (hL : ∀ L ∈ Ls, ∀ x ∈ L, In60 x.o ∧ In60 x.s) {z : Int} (hz : -2147483648 ≤ z) (hz' : z ≤ 2147483647) (h life : Int) : ∀ j, j ≤ Ls.length → selOf Ls h life z j = (selOf Ls h life 0 j).map (shiftV z) := by
  intro j
  induction j with
  | zero => intro _; rfl
  | succ j ih =>
    intro hj
    obtain ⟨L, hLj⟩ : ∃ L, Ls[j]? = some L := ⟨_, List.getElem?_eq_getElem (by omega)⟩
    rw [selOf_succ hLj, selOf_succ hLj, ih (by omega), List.map_append, voteOf_shift (hL L (List.mem_of_getElem? hLj)) hz hz']
theorem selOf_bound {Ls : List (List Sam)} (hL : ∀ L ∈ Ls, ∀ x ∈ L, In60 x.o ∧ In60 x.s) (h life : Int) : ∀ j, j ≤ Ls.length → ∀ v ∈ selOf Ls h life 0 j, -2305843009213693952 < v.off ∧ v.off < 2305843009213693952 := by
  intro j
  induction j with
  | zero => intro _ v hv; simp [selOf] at hv
  | succ j ih =>
    intro hj v hv
    obtain ⟨L, hLj⟩ : ∃ L, Ls[j]? = some L := ⟨_, List.getElem?_eq_getElem (by omega)⟩
    rw [selOf_succ hLj] at hv
    rcases List.mem_append.1 hv with hv | hv
    · exact ih (by omega) v hv
    · unfold voteOf at hv
      cases hb : bestOf (L.filter (frOf · h life)) with
      | none => rw [hb] at hv; simp at hv
      | some x =>
        rw [hb] at hv
        simp at hv
        subst hv
        have hx := hL L (List.mem_of_getElem? hLj) x (List.mem_filter.1 (bestOf_mem _ _ hb)).1
        exact (nowOf_moves hx.1 hx.2 (z := 0) (by decide) (by decide)).2
theorem chOf_one {l : List Int} : (l = [] ∧ chOf 1 l = (0, 13)) ∨ (l ≠ [] ∧ chOf 1 l = (medOf l, 0)) := by
  unfold chOf
  rw [if_neg (by decide)]
  cases l with
  | nil => exact .inl ⟨rfl, rfl⟩
  | cons a l => exact .inr ⟨by simp, by rw [if_neg (by simp; omega)]⟩
theorem lastN_mem2 {α : Type} {m : Nat} {l : List α} {x : α} (h : x ∈ lastN m l) : x ∈ l := List.mem_of_mem_drop h
end Go.Chron
namespace Go.Proofs.Ytnfnonphccnbkaa
open Go.RowKit Go.Chron

def QMInv (w : World) (S : List Sl) (n : Nat) (i v : Value) (wr : World) : Prop :=
  ∃ (j : Nat) (G : Option Nat) (P : List Value), j ≤ n ∧ i = .int .i64 j ∧ StoresIn w wr v G P ((S.take j).map fun t => lastN 8 (t.L.map mvQ))
def QMIn (w0 : World) (s b n : Nat) (L : List Sam) (i : Value) (wr : World) : Prop :=
  ∃ (j : Nat) (g : Option Nat), j ≤ n ∧ i = .int .i64 j ∧ StoreW w0 wr s b g j (lastN 8 ((L.map mvQ).take j))

set_option maxRecDepth 100000 in
set_option maxHeartbeats 6400000 in
theorem quorumMoves_walk (a : Option Addr) (n cap : Nat) (S : List Sl) (tm by_ : Int) (w : World) (hI : NestIn w a n cap S) (ht : (Lit.int .u8 tm).wf = true) (hby : (Lit.int .i32 by_).wf = true) :
    Calls Try.prog 19 #[.slice a n cap, .int .u8 tm, .int .i32 by_] w fun e w' => e = .returned (.bool true) ∧ Below w.heap.size w w' := by
  obtain ⟨i0, hi, hz0, hz1, hz2⟩ := info_parts info_ptr
  have t12 : 0 ≤ tm ∧ tm ≤ 255 := by
    simp only [Lit.wf, IntKind.min, IntKind.max, IntKind.signed, IntKind.bits, Bool.and_eq_true] at ht
    simp at ht
    omega
  have z12 : -2147483648 ≤ by_ ∧ by_ ≤ 2147483647 := by
    simp only [Lit.wf, IntKind.min, IntKind.max, IntKind.signed, IntKind.bits, Bool.and_eq_true] at hby
    simp at hby
    omega
  obtain ⟨t1, t2⟩ := t12
  obtain ⟨z1, z2⟩ := z12
  have HTM := Lib.hid (show In64 tm from ⟨by omega, by omega⟩)
  have HZ := Lib.hid (show In64 by_ from ⟨by omega, by omega⟩)
  have H0 := Lib.hid (show In64 0 from ⟨by decide, by decide⟩)
  have hcm := hI.capE
  have hle := hI.leE
  have HI := Lib.hid hI
  have HN := Lib.hid hI.lenE
  clear hI ht hby
  go_enter Try.func19, Try.ntmps19
  go_wp2_with fail
  refine (alive33 _).mono ?_
  rintro e w1 ⟨rfl, c1⟩
  by_cases h0 : n = 0
  · subst h0
    go_wp2_with fail
    refine (alive33 _).mono ?_
    rintro e w2 ⟨rfl, c2⟩
    have c3 := Lib.hid (bel0 (Below.refl _ _) (c1.trans c2) (Nat.le_refl _))
    clear c1 c2
    go_wp2_with fail
    go_ret
    exact ⟨rfl, c3.out⟩
  · have hn0 : ((n : Int) == 0) = false := by rw [beq_eq_false_iff_ne]; omega
    by_cases h16 : 16 < n
    · go_wp2_with fail
      refine (alive33 _).mono ?_
      rintro e w2 ⟨rfl, c2⟩
      have c3 := Lib.hid (bel0 (Below.refl _ _) (c1.trans c2) (Nat.le_refl _))
      clear c1 c2
      go_wp2_with fail
      go_ret
      exact ⟨rfl, c3.out⟩
    · obtain ⟨bl, off, rfl, hcell⟩ := HI.out.reads (by rw [List.length_map, ← HN.out]; omega)
      have HC := Lib.hid hcell
      clear hcell
      go_wp2_with fail
      go_loopw [35, 7] (fun i v wr => QMInv w S n i v wr) (fun i _ _ => n - (intOf i).toNat)
      case atStart => exact ⟨0, none, [], by omega, rfl, ⟨⟨rfl, by simp, by simp⟩, Owns.nil _ _ _, by simp, c1⟩⟩
      case round =>
        clear c1
        obtain ⟨j, G, P, hj, rfl, SI⟩ := hrel
        by_cases hlt : j < n
        · obtain ⟨t, hS⟩ : ∃ t, S[j]? = some t := ⟨_, List.getElem?_eq_getElem (by rw [← HN.out]; exact hlt)⟩
          have hT := HI.out.each t (List.mem_of_getElem? hS)
          have e0 := SI.c.keep (HC.out j [slv t] (by rw [List.getElem?_map, hS]; rfl) 0 _ rfl) (fun h => h)
          simp only [Nat.mul_one, Nat.add_zero] at e0
          have hjn : (j : Int) < (n : Int) := by omega
          have hts : (S.take (j + 1)).map (fun t => lastN 8 (t.L.map mvQ)) = (S.take j).map (fun t => lastN 8 (t.L.map mvQ)) ++ [lastN 8 (t.L.map mvQ)] := by rw [List.take_add_one, hS]; simp
          have HTS := Lib.hid hts
          obtain ⟨ta, tn, tc, L⟩ := t
          simp only [slv] at e0
          have htl := hT.f.lenE
          rw [List.length_map] at htl
          have htc := hT.f.leE
          have htm := hT.f.capE
          have HT := Lib.hid hT
          have HTL := Lib.hid htl
          have hPl : P.length ≤ 1000 := by
            have := SI.sts.len
            rw [List.length_map, List.length_take] at this
            omega
          simp only at htc htm
          clear hS hT htl hts
          by_cases h20 : 20 < tn
          · have HB := Lib.hid (bel0 (Below.refl _ _) SI.c (Nat.le_refl _))
            clear SI
            go_wp2_with fail
            go_ret
            exact ⟨rfl, HB.out⟩
          · have HSI := Lib.hid SI
            clear SI
            go_wp2_with fail
            obtain ⟨wo, rfl⟩ : ∃ wo, wo = wr := ⟨wr, rfl⟩
            refine (storeNew _).mono ?_
            rintro e w2 ⟨s, b, rfl, st, hs, hb, c2⟩
            have S0 : StoreW wo w2 s b none 0 [] := ⟨st, hb, by simp, bel0 (Below.refl _ _) c2 (Nat.le_refl _)⟩
            clear st hs hb c2 e0
            go_wp2_with fail
            go_loopw [45] (fun i wx => QMIn wo s b tn L i wx) (fun i _ => tn - (intOf i).toNat)
            case atStart => exact ⟨0, none, by omega, rfl, S0⟩
            case round =>
              clear S0
              obtain ⟨k, g, hk, rfl, S1⟩ := hrel
              by_cases hkt : k < tn
              · obtain ⟨x, hx⟩ : ∃ x, L[k]? = some x := ⟨_, List.getElem?_eq_getElem (by have := HTL.out; (try dsimp only at this); omega)⟩
                obtain ⟨bs, os, hta, hbw, hcl⟩ := HT.out.f.cell (by show 0 < tn; omega)
                simp only at hta
                subst hta
                have hxx : (L.map samc)[k]? = some (samc x) := by rw [List.getElem?_map, hx]; rfl
                have hbw' : bs < wo.heap.size := Nat.lt_of_lt_of_le hbw HSI.out.c.size
                have e0 := (S1.bel.cell hbw').trans (HSI.out.c.keep (hcl k _ hxx 0 _ rfl) (fun h => h))
                have e1 := (S1.bel.cell hbw').trans (HSI.out.c.keep (hcl k _ hxx 1 _ rfl) (fun h => h))
                have e2 := (S1.bel.cell hbw').trans (HSI.out.c.keep (hcl k _ hxx 2 _ rfl) (fun h => h))
                have e3 := (S1.bel.cell hbw').trans (HSI.out.c.keep (hcl k _ hxx 3 _ rfl) (fun h => h))
                simp only [sh4, List.length_cons, List.length_nil, Nat.add_zero, Nat.zero_add, Nat.reduceAdd] at e0 e1 e2 e3
                rw [← Nat.add_assoc] at e1 e2 e3
                have hi1 : (k : Int) < (tn : Int) := by omega
                have SX := S1.chg0 (chg0_alloc wr (Obj.cells #[Value.int IntKind.i64 x.o, Value.int IntKind.i64 x.d, Value.int IntKind.i64 x.t, Value.int IntKind.i64 x.s] 28))
                clear S1
                go_wp2_with fail
                refine (storeAdd s b g k _ (x.o.tmod 1152921504606846976) x.d (x.t.tmod 1000) (x.s.tmod 1152921504606846976) _ SX.st (by omega)).mono ?_
                rintro e wB ⟨rfl, A⟩
                obtain ⟨k2, S2, -⟩ := SX.add A
                have hP : rpush 8 (lastN 8 ((L.map mvQ).take k)) (⟨x.o.tmod 1152921504606846976, x.d, x.t.tmod 1000, x.s.tmod 1152921504606846976⟩ : Sam) = lastN 8 ((L.map mvQ).take (k + 1)) := by
                  rw [List.take_add_one, show (L.map mvQ)[k]? = some (mvQ x) by rw [List.getElem?_map, hx]; rfl, lastN_push (by omega)]; rfl
                rw [hP] at S2
                clear SX A hP e0 e1 e2 e3 hxx
                go_wp2_with fail
                go_roundw
                case rel => exact ⟨k + 1, some k2, by omega, by go_num, S2⟩
                case measure => simp [intOf]; omega
              · obtain rfl : k = tn := by omega
                have hzt : (L.map mvQ).take k = L.map mvQ := List.take_of_length_le (by rw [List.length_map]; have := HTL.out; (try dsimp only at this); omega)
                rw [hzt] at S1
                have cI : Chg (fun _ => False) wo wr := Chg.of_bel S1.bel
                have SI2 := HSI.out.chg0 cI
                have hst : StAt wr (.pointer (some ⟨s, 0, none⟩)) (lastN 8 (L.map mvQ)) := .inr ⟨s, b, g, k, rfl, S1.st⟩
                have hLok : ∀ x ∈ lastN 8 (L.map mvQ), x.Ok := fun x hx => by
                  obtain ⟨y, hy, rfl⟩ := List.mem_map.1 (lastN_mem2 hx)
                  exact mvQ_ok (HT.out.ok y hy)
                have HLOK := Lib.hid hLok
                have SI3 := SI2.chg0 (chg0_alloc wr (Obj.cells #[Value.pointer (some ⟨s, 0, none⟩)] 24))
                have hst3 := hst.chg0 (chg0_alloc wr (Obj.cells #[Value.pointer (some ⟨s, 0, none⟩)] 24))
                have bX := Blk.new wr 24 #[Value.pointer (some ⟨s, 0, none⟩)]
                have HST := Lib.hid hst3
                clear S1 HSI cI SI2 hst hst3 hzt hLok
                go_wp2_with (at_builtin; refine wpList_app (by rfl) (.tmp 64) (.tmp 66) 82 (by rfl) 24 i0 _ 1 8 Try.underlying82 hi hz0 hz1 hz2 rfl (by omega) _ _ _ (by rfl) SI3.o _ 24 [[Value.pointer (some ⟨s, 0, none⟩)]] 1 1 (by rfl) (by rfl) bX (by simp) (by simp [Value.oneCell']) (by simp) (by simp; omega) (by simp [maxLen]; omega) ?_)
                intro kk capk wk ho hc hkk
                have hk' : G = some kk ∨ (wr.alloc (Obj.cells #[Value.pointer (some ⟨s, 0, none⟩)] 24)).heap.size ≤ kk := by simpa using hkk
                have ho' : Owns wk 24 1 (.slice (some ⟨kk, 0, none⟩) (P.length + 1) capk) (some kk) ((P ++ [Value.pointer (some ⟨s, 0, none⟩)]).map fun p => [p]) := by rw [List.map_append]; exact ho
                have SI4 := Lib.hid (SI3.add HST.out HLOK.out ho' hc hk')
                clear SI3 bX ho hc hkk hk' ho'
                go_wp2_with fail
                go_roundw
                case rel => exact ⟨j + 1, some kk, _, by omega, by go_num, by rw [HTS.out]; exact SI4.out⟩
                case measure => simp [intOf]; omega
        · obtain rfl : j = n := by omega
          obtain ⟨Ls, hLs⟩ : ∃ Ls, Ls = (S.take j).map (fun t => lastN 8 (t.L.map mvQ)) := ⟨_, rfl⟩
          have hLl : Ls.length = j := by rw [hLs, List.length_map, List.length_take, ← HN.out]; omega
          have h60 : ∀ L ∈ Ls, ∀ x ∈ L, In60 x.o ∧ In60 x.s := fun L hL x hx => by
            rw [hLs] at hL
            obtain ⟨t, ht, rfl⟩ := List.mem_map.1 hL
            obtain ⟨y, hy, rfl⟩ := List.mem_map.1 (lastN_mem2 hx)
            exact ⟨tmod60 _, tmod60 _⟩
          rw [← hLs] at SI
          have hPl : P.length = j := by rw [SI.sts.len, hLl]
          obtain ⟨kG, rfl⟩ := SI.o.pos (by rw [List.length_map, hPl]; omega)
          obtain ⟨capG, rfl, hcg, hcg2⟩ := SI.o.some_form
          rw [List.length_map, hPl] at hcg
          rw [List.length_map, hPl]
          have hcg2 : capG ≤ 9223372036854775807 := by simpa [maxLen] using hcg2
          obtain ⟨V, hV⟩ : ∃ V, V = selOf Ls tm 100 0 j := ⟨_, rfl⟩
          have hVz : selOf Ls tm 100 by_ j = V.map (shiftV by_) := by rw [hV]; exact selOf_shift h60 z1 z2 tm 100 j (by omega)
          have hVb : ∀ v ∈ V, -2305843009213693952 < v.off ∧ v.off < 2305843009213693952 := by rw [hV]; exact selOf_bound h60 tm 100 j (by omega)
          have hVl : V.length ≤ 1000 := by rw [hV]; have := selOf_len Ls tm 100 0 j; omega
          have HV := Lib.hid hV
          have HVZ := Lib.hid hVz
          have HVB := Lib.hid hVb
          have HPL := Lib.hid hPl
          have HSI := Lib.hid SI
          clear hLs hLl h60 hV hVz hVb hPl SI
          go_wp2_with fail
          refine (select44 1 (some ⟨kG, 0, none⟩) j capG P Ls tm 100 0 HTM.out H0.out _ HPL.out.symm hcg hcg2 HSI.out.o.reads HSI.out.sts (by omega)).mono ?_
          rintro e wA ⟨v1, g1, rfl, V1⟩
          rw [if_neg (by omega), ← HV.out] at V1
          rw [← HV.out]
          obtain ⟨a1, cap1, rfl, q1, q2, -⟩ := V1.form (n := V.length) rfl
          have SI2 := Lib.hid (HSI.out.chg0 V1.c)
          clear HSI
          obtain ⟨m, hm⟩ : ∃ m, m = V.length := ⟨_, rfl⟩
          rw [← hm] at V1 q1 hVl ⊢
          have HM := Lib.hid hm
          clear hm
          obtain ⟨O, hO⟩ : ∃ O, O = V.map (·.off) := ⟨_, rfl⟩
          have hOz : (V.map (shiftV by_)).map (·.off) = O.map (· + -by_) := by rw [hO, List.map_map, List.map_map]; apply List.map_congr_left; intro v _; show v.off - by_ = v.off + -by_; omega
          have hOl : O.length = m := by rw [hO, List.length_map, HM.out]
          have hOb : ∀ x ∈ O, -2305843009213693952 < x ∧ x < 2305843009213693952 := fun x hx => by rw [hO] at hx; obtain ⟨v, hv, rfl⟩ := List.mem_map.1 hx; exact HVB.out v hv
          rw [← hO]
          have HOZ := Lib.hid hOz
          have HOL := Lib.hid hOl
          have HOB := Lib.hid hOb
          have HV1 := Lib.hid V1
          clear hOz hOl hOb hO V1
          rcases chOf_one (l := O) with ⟨hOe, hch⟩ | ⟨hOe, hch⟩
          · rw [hch]
            have hm0 : m = 0 := by rw [← HOL.out, hOe]; rfl
            subst hm0
            have hch2 : chOf 1 (O.map (· + -by_)) = (0, 13) := by rw [hOe]; rfl
            have HCH2 := Lib.hid hch2
            clear hch hOe hch2
            go_wp2_with fail
            refine (select44 1 (some ⟨kG, 0, none⟩) j capG P Ls tm 100 by_ HTM.out HZ.out _ HPL.out.symm hcg hcg2 SI2.out.o.reads SI2.out.sts (by omega)).mono ?_
            rintro e wB ⟨v2, g2, rfl, V2⟩
            rw [if_neg (by omega), HVZ.out] at V2
            rw [HVZ.out, HOZ.out, HCH2.out]
            obtain ⟨a2, cap2, rfl, r1, r2, -⟩ := V2.form (n := 0) (by rw [List.length_map, ← HM.out])
            have HB := Lib.hid (bel0 (Below.refl _ _) (SI2.out.c.trans V2.c) (Nat.le_refl _))
            clear SI2 V2 HV1
            go_wp2_with fail
            go_loopw [99] (fun i wx => i = .int .i64 ((0 : Nat) : Int) ∧ wx = wB) (fun i _ => 0)
            case atStart => exact ⟨rfl, rfl⟩
            case round =>
              obtain ⟨rfl, rfl⟩ := hrel
              go_wp2_with fail
              go_ret
              exact ⟨rfl, HB.out⟩
          · rw [hch]
            have hm1 : 0 < m := by rw [← HOL.out]; exact List.length_pos_iff.2 hOe
            have hne2 : O.map (· + -by_) ≠ [] := by simpa using hOe
            have hch2 : chOf 1 (O.map (· + -by_)) = (medOf O + -by_, 0) := by
              rcases chOf_one (l := O.map (· + -by_)) with ⟨h, _⟩ | ⟨_, h⟩
              · exact absurd h hne2
              · rw [h, med_shift hOe]
            obtain ⟨b1, b2⟩ := HOB.out _ (med_mem hOe)
            obtain ⟨md, hmd⟩ : ∃ md, md = medOf O := ⟨_, rfl⟩
            rw [← hmd] at hch2 b1 b2 ⊢
            have hmz : md + -by_ = md - by_ := by omega
            rw [hmz] at hch2
            have HCH2 := Lib.hid hch2
            clear hch hOe hch2 hne2 hmd hmz
            go_wp2_with fail
            refine (select44 1 (some ⟨kG, 0, none⟩) j capG P Ls tm 100 by_ HTM.out HZ.out _ HPL.out.symm hcg hcg2 SI2.out.o.reads SI2.out.sts (by omega)).mono ?_
            rintro e wB ⟨v2, g2, rfl, V2⟩
            rw [if_neg (by omega), HVZ.out] at V2
            rw [HVZ.out, HOZ.out, HCH2.out]
            obtain ⟨a2, cap2, rfl, r1, r2, hR2⟩ := V2.form (n := m) (by rw [List.length_map, ← HM.out])
            have HB := Lib.hid (bel0 (Below.refl _ _) (SI2.out.c.trans V2.c) (Nat.le_refl _))
            have W1 := HV1.out.chg0 V2.c
            obtain ⟨a1', cap1', hv1, -, -, hR1⟩ := W1.form (n := m) HM.out
            simp only [Value.slice.injEq] at hv1
            obtain ⟨rfl, -, rfl⟩ := hv1
            obtain ⟨k1, o1, rfl, hc1⟩ := hR1 (by rw [List.length_map, ← HM.out]; exact hm1)
            obtain ⟨k2, o2, rfl, hc2⟩ := hR2 (by rw [List.length_map, List.length_map, ← HM.out]; exact hm1)
            have HC1 := Lib.hid hc1
            have HC2 := Lib.hid hc2
            clear SI2 V2 HV1 W1 hR1 hR2 hc1 hc2
            go_wp2_with fail
            go_loopw [99] (fun i wx => ∃ t d : Nat, t ≤ m ∧ i = .int .i64 t ∧ wx = wB.drewN d) (fun i _ => m - (intOf i).toNat)
            case atStart => exact ⟨0, 0, by omega, rfl, rfl⟩
            case round =>
              obtain ⟨t, d, ht, rfl, rfl⟩ := hrel
              by_cases htm : t < m
              · obtain ⟨y, hy⟩ : ∃ y, V[t]? = some y := ⟨_, List.getElem?_eq_getElem (by rw [← HM.out]; exact htm)⟩
                have hyy : (V.map votec)[t]? = some (votec y) := by rw [List.getElem?_map, hy]; rfl
                have hyz : ((V.map (shiftV by_)).map votec)[t]? = some (votec (shiftV by_ y)) := by rw [List.getElem?_map, List.getElem?_map, hy]; rfl
                have u0 : wB.cell? ⟨k1, o1 + (t * 6 + 0), none⟩ = some (.int .i64 y.srv) := HC1.out t _ hyy 0 _ rfl
                have u1 : wB.cell? ⟨k1, o1 + (t * 6 + 1), none⟩ = some (.int .i64 y.sam.o) := HC1.out t _ hyy 1 _ rfl
                have u2 : wB.cell? ⟨k1, o1 + (t * 6 + 2), none⟩ = some (.int .i64 y.sam.d) := HC1.out t _ hyy 2 _ rfl
                have u3 : wB.cell? ⟨k1, o1 + (t * 6 + 3), none⟩ = some (.int .i64 y.sam.t) := HC1.out t _ hyy 3 _ rfl
                have u4 : wB.cell? ⟨k1, o1 + (t * 6 + 4), none⟩ = some (.int .i64 y.sam.s) := HC1.out t _ hyy 4 _ rfl
                have v0 : wB.cell? ⟨k2, o2 + (t * 6 + 0), none⟩ = some (.int .i64 y.srv) := HC2.out t _ hyz 0 _ rfl
                have v1 : wB.cell? ⟨k2, o2 + (t * 6 + 1), none⟩ = some (.int .i64 y.sam.o) := HC2.out t _ hyz 1 _ rfl
                have v2 : wB.cell? ⟨k2, o2 + (t * 6 + 2), none⟩ = some (.int .i64 y.sam.d) := HC2.out t _ hyz 2 _ rfl
                have v3 : wB.cell? ⟨k2, o2 + (t * 6 + 3), none⟩ = some (.int .i64 y.sam.t) := HC2.out t _ hyz 3 _ rfl
                have v4 : wB.cell? ⟨k2, o2 + (t * 6 + 4), none⟩ = some (.int .i64 y.sam.s) := HC2.out t _ hyz 4 _ rfl
                simp only [Nat.add_zero] at u0 v0
                rw [← Nat.add_assoc] at u1 u2 u3 u4 v1 v2 v3 v4
                have htc : (t : Int) < (m : Int) := by omega
                clear hyy hyz hy
                go_wp2_with fail
                go_region_held3 (fun w' => w'.cell? ⟨k1, o1 + t * 6, none⟩ = some (.int .i64 y.srv) ∧ w'.cell? ⟨k2, o2 + t * 6, none⟩ = some (.int .i64 y.srv) ∧ w'.cell? ⟨k1, o1 + t * 6 + 1, none⟩ = some (.int .i64 y.sam.o) ∧ w'.cell? ⟨k1, o1 + t * 6 + 2, none⟩ = some (.int .i64 y.sam.d) ∧ w'.cell? ⟨k1, o1 + t * 6 + 3, none⟩ = some (.int .i64 y.sam.t) ∧ w'.cell? ⟨k1, o1 + t * 6 + 4, none⟩ = some (.int .i64 y.sam.s) ∧ w'.cell? ⟨k2, o2 + t * 6 + 1, none⟩ = some (.int .i64 y.sam.o) ∧ w'.cell? ⟨k2, o2 + t * 6 + 2, none⟩ = some (.int .i64 y.sam.d) ∧ w'.cell? ⟨k2, o2 + t * 6 + 3, none⟩ = some (.int .i64 y.sam.t) ∧ w'.cell? ⟨k2, o2 + t * 6 + 4, none⟩ = some (.int .i64 y.sam.s)) (exact ⟨u0, v0, u1, u2, u3, u4, v1, v2, v3, v4⟩) (fail)
                go_wp2_with fail
                go_roundw
                case rel => exact ⟨t + 1, d + 1, by omega, by go_num, rfl⟩
                case measure => simp [intOf]; omega
              · have htc : ¬ (t : Int) < (m : Int) := by omega
                go_wp2_with fail
                go_ret
                exact ⟨rfl, bel0 HB.out (chg0_drewN wB d) (Nat.le_refl _)⟩
theorem quorumMoves_all (a : Option Addr) (n cap : Nat) (S : List Sl) (tm by_ : Int) (w : World) (hI : NestIn w a n cap S) (ht : (Lit.int .u8 tm).wf = true) (hby : (Lit.int .i32 by_).wf = true) :
    Calls Try.prog 19 #[.slice a n cap, .int .u8 tm, .int .i32 by_] w fun e w' => e = .returned (.bool true) ∧ Below w.heap.size w w' := quorumMoves_walk a n cap S tm by_ w hI ht hby
end Go.Proofs.Ytnfnonphccnbkaa
