/- The document's Choose (chronobateref12): contract; QuorumChooses: of any offsets what is chosen, or why nothing is: the walk. -/
import Derived.Test.YtnfnonphccnbkaaVote
import Derived.Test.YtnfnonphccnbkaaRefS
set_option linter.unusedVariables false
namespace Go.Proofs.Ytnfnonphccnbkaa
open Go.RowKit Go.Chron
theorem info_vote60 : (Try.prog.info? 60).map (fun i => (i.zero, i.size, i.bytes)) = some (some (.agg #[.int .i64 0, .int .i64 0, .int .i64 0, .int .i64 0, .int .i64 0, .int .i64 0]), 6, 48) := by kernel_rfl

def RCInv (w : World) (offs : List Int) (n : Nat) (i v : Value) (wr : World) : Prop :=
  ∃ (j : Nat) (g : Option Nat), j ≤ n ∧ i = .int .i64 j ∧ Owns wr 2 1 v g ((offs.take j).map fun z => [Value.int .i64 z]) ∧ (∀ k, g = some k → w.heap.size ≤ k) ∧ Chg (fun _ => False) w wr

set_option maxRecDepth 100000 in
set_option maxHeartbeats 1600000 in
theorem choose36 (q : Int) (a : Option Addr) (n cap : Nat) (offs : List Int) (w : World) (hcap : n ≤ cap) (hcm : cap ≤ 9223372036854775807) (hr : VRead w a n offs) (hb : n ≤ 1000000) :
    Calls Try.prog 36 #[.int .i64 q, .slice a n cap] w fun e w' => e = .returned (.tuple #[.int .i64 (chOf q offs).1, .int .i64 (chOf q offs).2]) ∧ Chg (fun _ => False) w w' := by
  obtain ⟨i0, hi, hz0, hz1, hz2⟩ := info_parts infom_i64
  obtain ⟨L, hn, rfl, hR⟩ := hr
  have hlen : (L.map (·.off)).length = n := by rw [List.length_map]; exact hn.symm
  obtain ⟨offs, hoffs⟩ : ∃ offs, offs = L.map (·.off) := ⟨_, rfl⟩
  rw [← hoffs] at hlen ⊢
  have HR := Lib.hid hR
  have HN := Lib.hid hn
  have HOF := Lib.hid hoffs
  unfold chOf
  rw [hlen]
  clear hR hn hoffs
  by_cases hq : q < 1
  · rw [if_pos hq]
    clear hlen
    go_enter Try.func36, Try.ntmps36
    go_wp2_with fail
    go_ret2
    exact ⟨rfl, Chg.refl _ _⟩
  · rw [if_neg hq]
    by_cases hnq : (n : Int) < q
    · rw [if_pos hnq]
      clear hlen
      go_enter Try.func36, Try.ntmps36
      go_wp2_with fail
      go_ret2
      exact ⟨rfl, Chg.refl _ _⟩
    · rw [if_neg hnq]
      have hn1 : 1 ≤ n := by omega
      have HLEN := Lib.hid hlen
      clear hlen
      go_enter Try.func36, Try.ntmps36
      go_wp2_with fail
      go_loopw [7, 6] (fun i v wr => RCInv w offs n i v wr) (fun i _ _ => n - (intOf i).toNat)
      case atStart => exact ⟨0, none, by omega, rfl, Owns.nil _ _ _, by simp, Chg.refl _ _⟩
      case round =>
        obtain ⟨j, g, hj, rfl, o1, g1, c1⟩ := hrel
        by_cases hlt : j < n
        · obtain ⟨v, hv⟩ : ∃ v, L[j]? = some v := ⟨_, List.getElem?_eq_getElem (by rw [← HN.out]; exact hlt)⟩
          obtain ⟨bl, off, rfl, hcell⟩ := HR.out (by rw [List.length_map, ← HN.out]; omega)
          have hvv : (L.map votec)[j]? = some (votec v) := by rw [List.getElem?_map, hv]; rfl
          have e5 := c1.keep (hcell j _ hvv 5 _ rfl) (fun h => h)
          rw [← Nat.add_assoc] at e5
          obtain ⟨x, hx⟩ : ∃ x, x = v.off := ⟨_, rfl⟩
          rw [← hx] at e5
          have hjn : (j : Int) < (n : Int) := by omega
          obtain ⟨A, hA⟩ : ∃ A, A = offs.take j := ⟨_, rfl⟩
          have hA1 : offs.take (j + 1) = A ++ [x] := by rw [List.take_add_one, show offs[j]? = some x by rw [HOF.out, List.getElem?_map, hv, hx]; rfl, hA]; rfl
          have hAl : A.length ≤ 1000000 := by rw [hA, List.length_take]; omega
          rw [← hA] at o1
          have HA1 := Lib.hid hA1
          have o2 := o1.chg (chg0_alloc wr (Obj.cells #[Value.int IntKind.i64 x] 2)) (fun _ _ h => h)
          have bX := Blk.new wr 2 #[Value.int IntKind.i64 x]
          have HG := Lib.hid g1
          clear o1 hA hA1 g1 hv hvv hcell hx
          go_wp2_with (at_builtin; refine wpList_app (by rfl) (.tmp 22) (.tmp 28) 49 (by rfl) 2 i0 _ 1 8 Try.underlying49 hi hz0 hz1 hz2 rfl (by omega) _ _ _ (by rfl) o2 _ 2 [[Value.int .i64 x]] 1 1 (by rfl) (by rfl) bX (by simp) (by simp [Value.oneCell']) (by simp) (by simp; omega) (by simp [maxLen]; omega) ?_)
          intro k2 cap2 w2 ho hc hk
          have hs := c1.size
          have hk' : g = some k2 ∨ wr.heap.size + 1 ≤ k2 := by simpa using hk
          have ho' : Owns w2 2 1 (.slice (some ⟨k2, 0, none⟩) (A.length + 1) cap2) (some k2) ((A ++ [x]).map fun z => [Value.int .i64 z]) := by rw [List.map_append]; exact ho
          have c2 : Chg (fun _ => False) w w2 := (c1.alloc _).trans' hc (fun i hi e => by have := HG.out i e; omega)
          have g2 : ∀ k, some k2 = some k → w.heap.size ≤ k := fun k e => by
            cases e
            rcases hk' with h | h
            · exact HG.out _ h
            · omega
          have HO := Lib.hid ho'
          have HG2 := Lib.hid g2
          have HC2 := Lib.hid c2
          clear o2 bX ho hc hk ho' g2 c2 hs hk' e5
          go_wp2_with fail
          go_roundw
          case rel => exact ⟨j + 1, some k2, by omega, by go_num, by rw [HA1.out]; exact HO.out, HG2.out, HC2.out⟩
          case measure => simp [intOf]; omega
        · obtain rfl : j = n := by omega
          have hzt : offs.take j = offs := List.take_of_length_le (by rw [HLEN.out]; exact Nat.le_refl _)
          rw [hzt] at o1
          obtain ⟨ka, rfl⟩ := o1.pos (by rw [List.length_map, HLEN.out]; exact hn1)
          obtain ⟨capa, rfl, hla, hca⟩ := o1.some_form
          rw [List.length_map, HLEN.out] at o1 hla
          rw [List.length_map, HLEN.out]
          have hca : capa ≤ 9223372036854775807 := by simpa [maxLen] using hca
          have HO := Lib.hid o1.reads
          clear o1 g1 hzt
          go_wp2_with fail
          refine (refOf (some ⟨ka, 0, none⟩) j capa offs _ HLEN.out.symm hla hca HO.out hb).mono ?_
          rintro e w2 ⟨rfl, c2⟩
          rw [if_neg (by rw [HLEN.out]; omega)]
          have c3 := c1.trans c2
          clear c1 c2 HO
          go_wp2_with fail
          go_ret2
          exact ⟨rfl, c3⟩

/-- A slice of the document's votes, made since w. -/
structure Votes60 (w w' : World) (v : Value) (g : Option Nat) (L : List Vt) : Prop where
  o : Owns w' 60 6 v g (L.map votec)
  n : ∀ k, g = some k → w.heap.size ≤ k
  c : Chg (fun _ => False) w w'
theorem Votes60.chg0 {w w' w'' : World} {v : Value} {g : Option Nat} {L : List Vt} (h : Votes60 w w' v g L) (k : Chg (fun _ => False) w' w'') : Votes60 w w'' v g L := ⟨h.o.chg k (fun _ _ h => h), h.n, h.c.trans k⟩
theorem Votes60.add {w w1 w2 : World} {v v' : Value} {g : Option Nat} {L : List Vt} {x : Vt} {k : Nat} (h : Votes60 w w1 v g L) (ho : Owns w2 60 6 v' (some k) ((L ++ [x]).map votec)) (hc : Chg (fun b => g = some b) w1 w2) (hk : g = some k ∨ w1.heap.size ≤ k) : Votes60 w w2 v' (some k) (L ++ [x]) := by
  refine ⟨ho, fun j hj => ?_, h.c.trans' hc (fun i hi e => by have := h.n i e; omega)⟩
  cases hj
  rcases hk with hk | hk
  · exact h.n _ hk
  · exact Nat.le_trans h.c.size hk
theorem Votes60.form {w w' : World} {v : Value} {g : Option Nat} {L : List Vt} (h : Votes60 w w' v g L) {n : Nat} (hn : n = L.length) : ∃ a cap, v = .slice a n cap ∧ n ≤ cap ∧ cap ≤ 9223372036854775807 ∧ Reads w' 6 a (L.map votec) := by
  subst hn
  obtain ⟨a, cap, hv, h1, h2, h3, ha⟩ := h.o.form
  rw [List.length_map] at hv h1
  exact ⟨a, cap, hv, h1, by simpa [maxLen] using h2, by rw [ha]; exact h.o.reads⟩

def QCInv (w : World) (zs : List Int) (n : Nat) (i v : Value) (wr : World) : Prop :=
  ∃ (j : Nat) (g : Option Nat), j ≤ n ∧ i = .int .i64 j ∧ Votes60 w wr v g (votesOf zs j)

set_option maxRecDepth 100000 in
set_option maxHeartbeats 3200000 in
theorem quorumChooses_walk (q : Int) (a : Option Addr) (n cap : Nat) (zs : List Int) (w : World) (hI : IntsIn .i64 w a n cap zs) :
    Calls Try.prog 11 #[.int .i64 q, .slice a n cap] w fun e w' => e = .returned (.bool true) ∧ Below w.heap.size w w' := by
  obtain ⟨i0, hi, hz0, hz1, hz2⟩ := info_parts info_vote60
  have hcm := hI.capE
  have hle := hI.leE
  have HI := Lib.hid hI
  have HN := Lib.hid hI.lenE
  clear hI
  go_enter Try.func11, Try.ntmps11
  go_wp2_with fail
  refine (alive33 _).mono ?_
  rintro e w1 ⟨rfl, c1⟩
  by_cases h300 : 300 < n
  · go_wp2_with fail
    refine (alive33 _).mono ?_
    rintro e w2 ⟨rfl, c2⟩
    have c3 := Lib.hid (bel0 (Below.refl _ _) (c1.trans c2) (Nat.le_refl _))
    clear c1 c2
    go_wp2_with fail
    go_ret
    exact ⟨rfl, c3.out⟩
  · have hn6 : n ≤ 1000000 := by omega
    go_wp2_with fail
    refine (votes35' a n cap zs _ HN.out hle hcm (HI.out.reads.chg c1 (fun _ _ h => h)) hn6).mono ?_
    rintro e w2 ⟨a2, cap2, rfl, k1, k2, hv, c2⟩
    have HV := Lib.hid hv
    have c3 := c1.trans c2
    clear hv c1 c2
    go_wp2_with fail
    refine (choose34' q a2 n cap2 zs _ k1 k2 HV.out hn6).mono ?_
    rintro e w3 ⟨rfl, c4⟩
    have c5 := c3.trans c4
    clear c3 c4 HV k1 k2
    generalize hch : chOf q zs = ch
    have HCH := Lib.hid hch
    clear hch
    go_wp2_with fail
    go_loopw [29, 7] (fun i v wr => QCInv w zs n i v wr) (fun i _ _ => n - (intOf i).toNat)
    case atStart => exact ⟨0, none, by omega, rfl, ⟨Owns.nil _ _ _, by simp, c5⟩⟩
    case round =>
      clear c5
      obtain ⟨j, g, hj, rfl, V⟩ := hrel
      by_cases hlt : j < n
      · obtain ⟨x, hx⟩ : ∃ x, zs[j]? = some x := ⟨_, List.getElem?_eq_getElem (by rw [← HN.out]; exact hlt)⟩
        obtain ⟨bl, off, rfl, hbl, hcell⟩ := HI.out.cell (by omega)
        have e0 := V.c.keep (hcell j x hx) (fun h => h)
        have hjn : (j : Int) < (n : Int) := by omega
        have hvs := votesOf_succ hx
        obtain ⟨A, hA⟩ : ∃ A, A = votesOf zs j := ⟨_, rfl⟩
        have hAl : A.length = j := by rw [hA, votesOf_len]
        rw [← hA] at V hvs
        have HVS := Lib.hid hvs
        have HAL := Lib.hid hAl
        have hAl6 : A.length ≤ 1000000 := by omega
        have hbX := Blk.new wr 60 #[Value.int IntKind.i64 (j : Int), Value.int IntKind.i64 0, Value.int IntKind.i64 0, Value.int IntKind.i64 0, Value.int IntKind.i64 0, Value.int IntKind.i64 x]
        have V2 := V.chg0 (chg0_alloc wr (Obj.cells #[Value.int IntKind.i64 (j : Int), Value.int IntKind.i64 0, Value.int IntKind.i64 0, Value.int IntKind.i64 0, Value.int IntKind.i64 0, Value.int IntKind.i64 x] 60))
        clear V hvs hA hAl hx hcell
        go_wp2_with (at_builtin; refine wpList_app (by rfl) (.tmp 34) (.tmp 38) 58 (by rfl) 60 i0 _ 6 48 Try.underlying58 hi hz0 hz1 hz2 rfl (by omega) _ _ _ (by rfl) V2.o _ 60 [votec ⟨j, ⟨0, 0, 0, 0⟩, x⟩] 1 1 (by rfl) (by rfl) hbX (by simp [votec]) (by intro u hu; simp only [List.flatten_cons, List.flatten_nil, List.append_nil] at hu; exact votec_one _ u hu) (by simp) (by simp; omega) (by simp [maxLen]; omega) ?_)
        intro k cap' w' ho hc hk
        have hk' : g = some k ∨ (wr.alloc (Obj.cells #[Value.int IntKind.i64 (j : Int), Value.int IntKind.i64 0, Value.int IntKind.i64 0, Value.int IntKind.i64 0, Value.int IntKind.i64 0, Value.int IntKind.i64 x] 60)).heap.size ≤ k := by simpa using hk
        have ho' : Owns w' 60 6 (.slice (some ⟨k, 0, none⟩) (A.length + 1) cap') (some k) ((A ++ [(⟨j, ⟨0, 0, 0, 0⟩, x⟩ : Vt)]).map votec) := by rw [List.map_append]; exact ho
        have V3 := Lib.hid (V2.add ho' hc hk')
        clear V2 ho ho' hc hk hk' hbX e0
        go_wp2_with fail
        go_roundw
        case rel => exact ⟨j + 1, some k, by omega, by go_num, by rw [HVS.out]; exact V3.out⟩
        case measure => simp [intOf]; omega
      · obtain rfl : j = n := by omega
        obtain ⟨a6, cap6, rfl, q1, q2, hR⟩ := V.form (n := j) (by rw [votesOf_len])
        have hVR : VRead wr a6 j zs := ⟨votesOf zs j, by rw [votesOf_len], by rw [HN.out]; exact votesOf_off zs, hR⟩
        have HVR := Lib.hid hVR
        have HC := Lib.hid V.c
        clear V hR hVR
        go_wp2_with fail
        refine (choose36 q a6 j cap6 zs _ q1 q2 HVR.out hn6).mono ?_
        rintro e w7 ⟨rfl, c7⟩
        rw [HCH.out]
        have c8 := Lib.hid (bel0 (Below.refl _ _) (HC.out.trans c7) (Nat.le_refl _))
        clear c7 HVR HC q1 q2
        go_wp2_with fail
        go_ret
        exact ⟨rfl, c8.out⟩

theorem quorumChooses_all (q : Int) (a : Option Addr) (n cap : Nat) (els : List (List Value)) (w : World) (hq : (Lit.int .i64 q).wf = true) (hI : FlatIn [.int .i64] w a n cap els) :
    Calls Try.prog 11 #[.int .i64 q, .slice a n cap] w fun e w' => e = .returned (.bool true) ∧ Below w.heap.size w w' := by
  obtain ⟨zs, h⟩ := ints_in hI
  exact quorumChooses_walk q a n cap zs w h
end Go.Proofs.Ytnfnonphccnbkaa
