/- Acts that come in; WakeTwo: two queues have nothing to do with one another: the walk. -/
import Derived.Test.YthholmapjbaknaaAli
import Derived.Test.YthholmapjbaknaaArgs
set_option linter.unusedVariables false
set_option linter.unusedSectionVars false
namespace Go.Chron
open Go Go.RowKit
/-- A call: its kind, the key, and when it is due. -/
structure Act1 where
  kd : Int
  k : List UInt8
  d : Int
def act1c (x : Act1) : List Value := [.int .i64 x.kd, Go.Proofs.encStr x.k, .int .i64 x.d]
structure Act1.Ok (x : Act1) : Prop where
  kd : In64 x.kd
  k : OkS x.k
  d : In64 x.d
theorem acts_in {els : List (List Value)} (h : ∀ x ∈ els, okAll [.int .i64, .str, .int .i64] x) : ∃ L : List Act1, els = L.map act1c ∧ ∀ x ∈ L, x.Ok := by
  induction els with
  | nil => exact ⟨[], rfl, by simp⟩
  | cons y els ih =>
    obtain ⟨L, rfl, hL⟩ := ih (fun x hx => h x (List.mem_cons_of_mem _ hx))
    obtain ⟨v, r, rfl, ⟨n, rfl, hn⟩, h1⟩ := okAll_cons (h y (by simp))
    obtain ⟨v, r, rfl, ⟨s, rfl, hs⟩, h2⟩ := okAll_cons h1
    obtain ⟨m, rfl, hm⟩ := ok_one_int h2
    refine ⟨⟨n, s.data.toList, m⟩ :: L, by obtain ⟨d⟩ := s; simp [act1c], fun z hz => ?_⟩
    rcases List.mem_cons.1 hz with rfl | hz
    · exact ⟨wf_in64 hn, by show s.data.toList.length ≤ maxLen; rw [Array.length_toList]; exact hs, wf_in64 hm⟩
    · exact hL z hz
theorem intOf_nat (j : Nat) : (match (Value.int .i64 (j : Int)) with | .int _ k => k.toNat | _ => 0) = j := by simp
def idx (v : Value) : Nat := match v with | .int _ k => k.toNat | _ => 0
end Go.Chron
namespace Go.Proofs.Ythholmapjbaknaa
open Go.RowKit Go.Chron

/-- WakeTwo's loops: queue a holds but keys of acts; queue b holds nothing. -/
def TwoInv (w0 : World) (ba ma bb mb : Nat) (n : Nat) (K : Nat → List Act1) (i : Value) (wr : World) : Prop :=
  ∃ (j na : Nat) (La : List (Ent (List UInt8))), j ≤ n ∧ i = .int .i64 j ∧ na ≤ j ∧ QNS w0 wr ba ma na La ∧ QNS w0 wr bb mb 0 [] ∧ ∀ e ∈ La, ∃ x ∈ K j, x.k = e.k

set_option maxRecDepth 100000 in
set_option maxHeartbeats 6400000 in
theorem wakeTwo_walk (a : Option Addr) (len cap : Nat) (els : List (List Value)) (w : World) (hI : FlatIn [.int .i64, .str, .int .i64] w a len cap els) :
    Calls Try.prog 7 #[.slice a len cap] w fun e w' => e = .returned (.bool true) ∧ Below w.heap.size w w' := by
  obtain ⟨L, rfl, hok⟩ := acts_in hI.ok
  have hc := hI.leE
  have hcm := hI.capE
  have hlenE := hI.lenE
  rw [List.length_map] at hlenE
  have HI := Lib.hid hI
  have HL := Lib.hid hlenE
  have HOK := Lib.hid hok
  clear hI hlenE hok
  go_enter Try.func7, Try.ntmps7
  go_wp2_with fail
  refine (newS w).mono ?_
  rintro e w1 ⟨ba, ma, rfl, q1, hba, hma, hbma, c1⟩
  have A1 : QNS w w1 ba ma 0 [] := ⟨q1, hba, hma, c1⟩
  have hbal := q1.lt
  clear q1 hba hma c1
  go_wp2_with fail
  refine (newS w1).mono ?_
  rintro e w2 ⟨bb, mb, rfl, q2, hbb, hmb, hbmb, c2⟩
  have A2 := A1.chg0 c2
  have hs1 := A1.c.size
  have B2 : QNS w w2 bb mb 0 [] := ⟨q2, by omega, by omega, A2.c⟩
  have n1 : ba ≠ bb := by omega
  have n2 : ba ≠ mb := by omega
  have n3 : ma ≠ bb := by omega
  have n4 : ma ≠ mb := by omega
  clear A1 q2 hbb hmb c2 hs1 hbal hbma hbmb
  go_wp2_with fail
  refine (alive9 _).mono ?_
  rintro e w3 ⟨rfl, c3⟩
  have A3 := A2.chg0 c3
  have B3 := B2.chg0 c3
  clear A2 B2 c3
  by_cases hlen : 100 < len
  · go_wp2_with fail
    refine (alive9 _).mono ?_
    rintro e w4 ⟨rfl, c4⟩
    have HB := Lib.hid (A3.chg0 c4).bel
    clear A3 B3 c4
    go_wp2_with fail
    go_ret
    exact ⟨rfl, HB.out⟩
  · go_wp2_with fail
    go_loopw [35] (fun i wr => TwoInv w ba ma bb mb len (fun j => L) i wr) (fun i _ => len - idx i)
    case atStart => exact ⟨0, 0, [], by omega, rfl, by omega, A3, B3, by simp⟩
    case round =>
      clear A3 B3
      obtain ⟨j, na, La, hj, rfl, hna, A, B, hk⟩ := hrel
      by_cases hlt : j < len
      · obtain ⟨x, hx⟩ : ∃ x, L[j]? = some x := ⟨_, List.getElem?_eq_getElem (by rw [← HL.out]; exact hlt)⟩
        obtain ⟨bl, off, rfl, hbw, hcell⟩ := HI.out.cell (by omega)
        have hxx : (L.map act1c)[j]? = some (act1c x) := by rw [List.getElem?_map, hx]; rfl
        have e0 := A.c.keep (hcell j _ hxx 0 _ rfl) (fun h => h)
        have e1 := A.c.keep (hcell j _ hxx 1 _ rfl) (fun h => h)
        have e2 := A.c.keep (hcell j _ hxx 2 _ rfl) (fun h => h)
        simp only [List.length_cons, List.length_nil, Nat.add_zero, Nat.zero_add, Nat.reduceAdd] at e0 e1 e2
        rw [← Nat.add_assoc] at e1 e2
        have hi1 : (j : Int) < (len : Int) := by omega
        have hxo := HOK.out x (List.mem_of_getElem? hx)
        have bX := Blk.new wr 38 #[Value.int .i64 x.kd, encStr x.k, Value.int .i64 x.d]
        have cX := chg0_alloc wr (Obj.cells #[Value.int .i64 x.kd, encStr x.k, Value.int .i64 x.d] 38)
        have AX := A.chg0 cX
        have BX := B.chg0 cX
        have HK := Lib.hid hk
        have HX := Lib.hid hx
        have HXO := Lib.hid hxo
        have hnj' : na ≤ 100 := by omega
        clear A B cX hk hx hxo hxx hcell
        go_wp2_with fail
        generalize wr.alloc (Obj.cells #[Value.int .i64 x.kd, encStr x.k, Value.int .i64 x.d] 38) = wX at *
        generalize wr.heap.size = ix at *
        have lX := bX.lt
        refine (setS ba ma na La x.k x.d wX AX.q (by omega) HXO.out.k HXO.out.d).mono ?_
        rintro e wS ⟨rfl, qS, cS⟩
        have hix : ix ≠ ba ∧ ix ≠ ma := by
          constructor
          · rintro rfl
            have h1 := AX.q.box
            unfold Blk at h1 bX
            rw [bX] at h1
            cases h1
          · rintro rfl
            obtain ⟨D, ⟨es, cl, h1, _⟩, _⟩ := AX.q.own
            unfold Blk at bX
            rw [bX] at h1
            cases h1
        have bS := bX.chg cS (by omega)
        have AS := AX.set qS cS
        have BS := BX.other cS (by omega) (by omega) (fun i hi e => by have := AX.hb; have := AX.hm; omega)
        have m1 := bS.cell 1
        have m2 := bS.cell 2
        simp at m1 m2
        have hat := atS ba ma _ _ x.k wS AS.q HXO.out.k
        rw [show atL (setL La x.k x.d ((na : Int) + 1)) x.k = x.d by unfold atL; rw [lookL_set_same], show hasL (setL La x.k x.d ((na : Int) + 1)) x.k = true by rw [hasL_eq, lookL_set_same]; rfl] at hat
        have HAT := Lib.hid hat
        clear hat qS cS bX AX BX
        go_wp2_with fail
        refine HAT.out.mono ?_
        rintro e wT ⟨rfl, cT⟩
        have bT := bS.chg cT (fun h => h)
        have AT := AS.chg0 cT
        have BT := BS.chg0 cT
        have m2 := bT.cell 2
        simp at m2
        clear AS BS bS cT HAT m1
        have hln := lenS bb mb 0 [] wT BT.q
        simp only [List.length_nil] at hln
        have HLN := Lib.hid hln
        clear hln
        go_wp2_with fail
        refine HLN.out.mono ?_
        rintro e wU ⟨rfl, rfl⟩
        go_wp2_with fail
        go_roundw
        case rel =>
          refine ⟨j + 1, na + 1, _, by omega, by go_num, by omega, AT, BT, fun e he => ?_⟩
          rcases mem_setL.1 he with ⟨he, _⟩ | rfl
          · exact HK.out e he
          · exact ⟨x, List.mem_of_getElem? HX.out, rfl⟩
        case measure => simp [idx]; omega
      · obtain rfl : j = len := by omega
        have HK := Lib.hid hk
        have hna2 : na ≤ 100 := by omega
        clear hk
        have hwo : ∃ wo, wo = wr := ⟨wr, rfl⟩
        obtain ⟨wo, rfl⟩ := hwo
        go_wp2_with fail
        go_loopw [68] (fun i wr => ∃ (t : Nat) (La : List (Ent (List UInt8))), t ≤ j ∧ i = .int .i64 t ∧ QNS w wr ba ma na La ∧ ∀ e ∈ La, ∃ x ∈ L.drop t, x.k = e.k) (fun i _ => j - idx i)
        case atStart => exact ⟨0, La, by omega, rfl, A, HK.out⟩
        case round =>
          clear A B HK
          obtain ⟨t, Lb, ht, rfl, A, hk⟩ := hrel
          have HK := Lib.hid hk
          clear hk
          by_cases htl : t < j
          · obtain ⟨x, hx⟩ : ∃ x, L[t]? = some x := ⟨_, List.getElem?_eq_getElem (by rw [← HL.out]; exact htl)⟩
            obtain ⟨bl, off, rfl, hbw, hcell⟩ := HI.out.cell (by omega)
            have hxx : (L.map act1c)[t]? = some (act1c x) := by rw [List.getElem?_map, hx]; rfl
            have e0 := A.c.keep (hcell t _ hxx 0 _ rfl) (fun h => h)
            have e1 := A.c.keep (hcell t _ hxx 1 _ rfl) (fun h => h)
            have e2 := A.c.keep (hcell t _ hxx 2 _ rfl) (fun h => h)
            simp only [List.length_cons, List.length_nil, Nat.add_zero, Nat.zero_add, Nat.reduceAdd] at e0 e1 e2
            rw [← Nat.add_assoc] at e1 e2
            have hi1 : (t : Int) < (j : Int) := by omega
            have hxo := HOK.out x (List.mem_of_getElem? hx)
            have bX := Blk.new wr 38 #[Value.int .i64 x.kd, encStr x.k, Value.int .i64 x.d]
            have cX := chg0_alloc wr (Obj.cells #[Value.int .i64 x.kd, encStr x.k, Value.int .i64 x.d] 38)
            have AX := A.chg0 cX
            have HX := Lib.hid hx
            have HXO := Lib.hid hxo
            clear A cX hx hxo hxx hcell
            go_wp2_with fail
            generalize wr.alloc (Obj.cells #[Value.int .i64 x.kd, encStr x.k, Value.int .i64 x.d] 38) = wX at *
            generalize wr.heap.size = ix at *
            refine (dropS ba ma na Lb x.k wX AX.q HXO.out.k).mono ?_
            rintro e wS ⟨rfl, qS, cS⟩
            have hix : ix ≠ ma := by
              rintro rfl
              obtain ⟨D, ⟨es, cl, h1, _⟩, _⟩ := AX.q.own
              unfold Blk at bX
              rw [bX] at h1
              cases h1
            have bS := bX.chg cS (by omega)
            have AS := AX.drop qS cS
            have m1 := bS.cell 1
            simp at m1
            have hat := atS ba ma _ _ x.k wS AS.q HXO.out.k
            rw [show hasL (dropL Lb x.k) x.k = false by rw [hasL_eq, lookL_drop_same]; rfl] at hat
            have HAT := Lib.hid hat
            clear hat qS cS bX AX
            go_wp2_with fail
            refine HAT.out.mono ?_
            rintro e wT ⟨rfl, cT⟩
            have AT := AS.chg0 cT
            clear AS bS cT HAT m1
            go_wp2_with fail
            go_roundw
            case rel =>
              refine ⟨t + 1, _, by omega, by go_num, AT, fun e he => ?_⟩
              obtain ⟨he, hne⟩ := mem_dropL.1 he
              obtain ⟨y, hy, hyk⟩ := HK.out e he
              have hd : L.drop t = x :: L.drop (t + 1) := by
                obtain ⟨h1, h2⟩ := List.getElem?_eq_some_iff.1 HX.out
                rw [← h2]; exact List.drop_eq_getElem_cons h1
              rw [hd] at hy
              rcases List.mem_cons.1 hy with rfl | hy
              · exact absurd hyk.symm hne
              · exact ⟨y, hy, hyk⟩
            case measure => simp [idx]; omega
          · obtain rfl : t = j := by omega
            have hLb : Lb = [] := by
              cases Lb with
              | nil => rfl
              | cons e r =>
                obtain ⟨y, hy, _⟩ := HK.out e (by simp)
                rw [HL.out, List.drop_length] at hy
                cases hy
            subst hLb
            have hnx := nextS ba ma na [] wr A.q
            rw [show nextL ([] : List (Ent (List UInt8))) = 0 from rfl, show anyL ([] : List (Ent (List UInt8))) = false from rfl] at hnx
            have HNX := Lib.hid hnx
            clear hnx HK
            go_wp2_with fail
            refine HNX.out.mono ?_
            rintro e wN ⟨rfl, cN⟩
            have AN := A.chg0 cN
            have hln := lenS ba ma na [] wN AN.q
            simp only [List.length_nil] at hln
            have HLN := Lib.hid hln
            have HB := Lib.hid AN.bel
            clear A cN hln AN
            go_wp2_with fail
            refine HLN.out.mono ?_
            rintro e wM ⟨rfl, rfl⟩
            go_wp2_with fail
            go_ret
            exact ⟨rfl, HB.out⟩
theorem wakeTwo_all (a : Option Addr) (len cap : Nat) (els : List (List Value)) (w : World) (hI : FlatIn [.int .i64, .str, .int .i64] w a len cap els) :
    Calls Try.prog 7 #[.slice a len cap] w fun e w' => e = .returned (.bool true) ∧ Below w.heap.size w w' := wakeTwo_walk a len cap els w hI
end Go.Proofs.Ythholmapjbaknaa
