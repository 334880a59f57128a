/- FreshKeeps: all that are kept are the last eight that were added, in order; after Clear those that were added since: the walk. -/
import Derived.Test.YtnfnonphccnbkaaStoreW
import Derived.Test.YtnfnonphccnbkaaArgs
import Derived.Test.YtnfnonphccnbkaaNone
import Derived.Deep.RegionHeld3
set_option linter.unusedVariables false
namespace Go.Chron
open Go Go.RowKit
/-- Where what is kept begins, at the head of round i: the list is cleared in round k. -/
def keepFrom (i k : Nat) : Nat := if i ≤ k then 0 else k
theorem keepFrom_le (i k : Nat) : keepFrom i k ≤ i := by unfold keepFrom; split <;> omega
theorem keepFrom_ne {i k : Nat} (h : i ≠ k) : keepFrom (i + 1) k = keepFrom i k := by
  unfold keepFrom
  by_cases h1 : i ≤ k
  · rw [if_pos (by omega), if_pos h1]
  · rw [if_neg (by omega), if_neg h1]
theorem keepFrom_eq (k : Nat) : keepFrom (k + 1) k = k := by unfold keepFrom; rw [if_neg (by omega)]
theorem drop_take_snoc {α : Type} {L : List α} {j f : Nat} {x : α} (hx : L[j]? = some x) (hf : f ≤ j) : (L.take (j + 1)).drop f = (L.take j).drop f ++ [x] := by
  have hj : j < L.length := (List.getElem?_eq_some_iff.1 hx).1
  rw [List.take_add_one, hx, List.drop_append_of_le_length (by rw [List.length_take]; omega)]
  rfl
/-- What came in as a list of samples. -/
theorem sams_in {els : List (List Value)} (h : ∀ x ∈ els, okAll [.int .i64, .int .i64, .int .i64, .int .i64] x) : ∃ L : List Sam, els = L.map samc ∧ ∀ x ∈ L, x.Ok := by
  induction els with
  | nil => exact ⟨[], rfl, by simp⟩
  | cons y els ih =>
    obtain ⟨L, rfl, hL⟩ := ih (fun x hx => h x (List.mem_cons_of_mem _ hx))
    obtain ⟨x, hx, hxo⟩ := ok_sam (cs := y.toArray) (by simpa using h y (by simp))
    have : y = samc x := by
      have := congrArg Array.toList hx
      simpa [samCells, samc] using this
    subst this
    refine ⟨x :: L, rfl, fun z hz => ?_⟩
    rcases List.mem_cons.1 hz with rfl | hz
    · exact hxo
    · exact hL z hz
end Go.Chron
namespace Go.Proofs.Ytnfnonphccnbkaa
open Go.RowKit Go.Chron

def KeepsInv (w : World) (s b kc n : Nat) (L : List Sam) (i fr : Value) (wr : World) : Prop :=
  ∃ (j cnt : Nat) (g : Option Nat), j ≤ n ∧ cnt ≤ j ∧ i = .int .i64 j ∧ fr = .int .i64 (keepFrom j kc) ∧ StoreW w wr s b g cnt (lastN 8 ((L.take j).drop (keepFrom j kc)))

set_option maxRecDepth 100000 in
set_option maxHeartbeats 3200000 in
theorem freshKeeps_walk (a : Option Addr) (len cap : Nat) (els : List (List Value)) (at_ : Int) (w : World) (hI : FlatIn [.int .i64, .int .i64, .int .i64, .int .i64] w a len cap els) (ha : (Lit.int .u8 at_).wf = true) :
    Calls Try.prog 8 #[.slice a len cap, .int .u8 at_] w fun e w' => e = .returned (.bool true) ∧ Below w.heap.size w w' := by
  have ha1 : 0 ≤ at_ ∧ at_ ≤ 255 := by
    simp only [Lit.wf, IntKind.min, IntKind.max, IntKind.signed, IntKind.bits, Bool.and_eq_true] at ha
    simp at ha
    omega
  obtain ⟨a0, a1⟩ := ha1
  clear ha
  obtain ⟨L, rfl, hok⟩ := sams_in hI.ok
  have hc := hI.leE
  have hcm := hI.capE
  have hlenE := hI.lenE
  rw [List.length_map] at hlenE
  have HI := Lib.hid hI
  have HL := Lib.hid hlenE
  clear hI hlenE hok
  obtain ⟨m, hm⟩ : ∃ m : Nat, at_ % ((len : Int) + 1) = (m : Int) := ⟨(at_ % ((len : Int) + 1)).toNat, by rw [Int.toNat_of_nonneg (Int.emod_nonneg _ (by omega))]⟩
  have hmt : at_.tmod ((len : Int) + 1) = (m : Int) := by rw [Int.tmod_eq_emod_of_nonneg a0]; exact hm
  go_enter Try.func8, Try.ntmps8
  go_wp2_with fail
  refine (storeNew w).mono ?_
  rintro e w1 ⟨s, b, rfl, st, hs, hb, c1⟩
  have S0 : StoreW w w1 s b none 0 [] := ⟨st, hb, by simp, bel0 (Below.refl _ _) c1 (Nat.le_refl _)⟩
  clear st hb c1
  go_wp2_with fail
  refine (alive _).mono ?_
  rintro e w2 ⟨rfl, c2⟩
  have S1 := S0.chg0 c2
  clear S0 c2
  by_cases hlen : 60 < len
  · go_wp2_with fail
    refine (alive _).mono ?_
    rintro e w4 ⟨rfl, hc4⟩
    have hB4 := Lib.hid (S1.chg0 hc4).bel
    clear S1 hc4
    go_wp2_with fail
    go_ret
    exact ⟨rfl, hB4.out⟩
  · go_wp2_with fail
    go_loopw [34, 7] (fun i fr wr => KeepsInv w s b m len L i fr wr) (fun i _ _ => len - (intOf i).toNat)
    case atStart => exact ⟨0, 0, none, by omega, by omega, rfl, rfl, S1⟩
    case round =>
      clear S1
      obtain ⟨j, cnt, g, hj, hcnt, rfl, rfl, S1⟩ := hrel
      by_cases hlt : j < len
      · obtain ⟨x, hx⟩ : ∃ x, L[j]? = some x := ⟨_, List.getElem?_eq_getElem (by rw [← HL.out]; exact hlt)⟩
        obtain ⟨bl, off, rfl, hbw, hcell⟩ := HI.out.cell (by omega)
        have hxx : (L.map samc)[j]? = some (samc x) := by rw [List.getElem?_map, hx]; rfl
        have e0 := (S1.bel.cell hbw).trans (hcell j _ hxx 0 _ rfl)
        have e1 := (S1.bel.cell hbw).trans (hcell j _ hxx 1 _ rfl)
        have e2 := (S1.bel.cell hbw).trans (hcell j _ hxx 2 _ rfl)
        have e3 := (S1.bel.cell hbw).trans (hcell j _ hxx 3 _ rfl)
        simp only [List.length_cons, List.length_nil, Nat.add_zero, Nat.zero_add, Nat.reduceAdd] at e0 e1 e2 e3
        rw [← Nat.add_assoc] at e1 e2 e3
        have hi1 : (j : Int) < (len : Int) := by omega
        have bX := Blk.new wr 28 #[Value.int IntKind.i64 x.o, Value.int IntKind.i64 x.d, Value.int IntKind.i64 x.t, Value.int IntKind.i64 x.s]
        have cX := chg0_alloc wr (Obj.cells #[Value.int IntKind.i64 x.o, Value.int IntKind.i64 x.d, Value.int IntKind.i64 x.t, Value.int IntKind.i64 x.s] 28)
        have SX := S1.chg0 cX
        have hfle := keepFrom_le j m
        by_cases hjm : j = m
        · subst hjm
          have q : ((j : Int) == (j : Int)) = true := by simp
          have hbr := S1.st.ring.lt
          clear S1
          go_wp2_with fail
          refine (storeClear s b g cnt _ _ SX.st).mono ?_
          rintro e wC ⟨rfl, stC, cC⟩
          have SC := SX.clear stC cC
          have bC := bX.chg cC (by omega)
          have x0 := bC.cell 0
          have x1 := bC.cell 1
          have x2 := bC.cell 2
          have x3 := bC.cell 3
          simp at x0 x1 x2 x3
          clear SX stC cC bX cX e0 e1 e2 e3
          go_wp2_with fail
          refine (storeAdd s b none cnt _ x.o x.d x.t x.s _ SC.st (by omega)).mono ?_
          rintro e wB ⟨rfl, A⟩
          obtain ⟨k2, S2, -⟩ := SC.add A
          have hP : rpush 8 [] (⟨x.o, x.d, x.t, x.s⟩ : Sam) = lastN 8 ((L.take (j + 1)).drop j) := by
            rw [drop_take_snoc hx (Nat.le_refl _), show (L.take j).drop j = [] by simp, ← lastN_push (by omega)]; rfl
          rw [hP] at S2
          have S3 := S2
          clear S2 SC A hP bC x0 x1 x2 x3
          obtain ⟨c, hcd⟩ : ∃ c, c = (lastN 8 ((L.take (j + 1)).drop j)).length := ⟨_, rfl⟩
          have hc1 : c = min (j + 1 - j) 8 := by rw [hcd, lastN_len, List.length_drop, List.length_take, ← HL.out]; omega
          obtain ⟨st, hst⟩ : ∃ st, st = j + 1 - c := ⟨_, rfl⟩
          have hget : ∀ t, (lastN 8 ((L.take (j + 1)).drop j))[t]? = (L.take (j + 1))[st + t]? := fun t => by
            rw [lastN_get, List.getElem?_drop, List.length_drop, List.length_take, ← HL.out]
            congr 1
            omega
          obtain ⟨M, hM⟩ : ∃ M, M = lastN 8 ((L.take (j + 1)).drop j) := ⟨_, rfl⟩
          rw [← hM] at hcd hget
          have HG := Lib.hid hget
          have HC := Lib.hid hcd
          have hsj : j = st := by omega
          have hc1' : 1 = c := by omega
          subst hsj
          subst hc1'
          have hst1 : j < cap := by omega
          have hst2 : j ≤ j + 1 := by omega
          have hst3 : j + 1 ≤ cap := by omega
          have hcj : j + 1 - j = 1 := by omega
          have hmax : (if (j : Int) < (j : Int) + 1 - 8 then (j : Int) + 1 - 8 else (j : Int)) = (j : Int) := by split <;> omega
          have hc8 : 1 ≤ 8 := by omega
          have hc0 : 1 ≤ 1 := by omega
          have HC1 := Lib.hid hc1
          have HST := Lib.hid hst
          clear hc1 hst hc8 hc0 hcj
          rw [← hM] at S3
          have HM := Lib.hid hM
          clear hcd hget hM
          go_wp2_with fail
          refine (storeAll s b _ _ _ _ S3.st).mono ?_
          rintro e wD ⟨aA, capA, gA, rfl, oA, cA, hgA⟩
          rw [List.length_map, ← HC.out] at oA ⊢
          have S4 := S3.chg0 cA
          clear S3 cA hgA
          obtain ⟨kA, rfl⟩ := oA.pos (by rw [List.length_map, ← HC.out]; omega)
          obtain ⟨capA', hv, -, -⟩ := oA.some_form
          simp only [Value.slice.injEq] at hv
          obtain ⟨rfl, -, -⟩ := hv
          go_wp2_with fail
          go_loopw [66] (fun i wr => ∃ t d : Nat, t ≤ 1 ∧ i = .int .i64 t ∧ wr = wD.drewN d) (fun i _ => 1 - (intOf i).toNat)
          case atStart => exact ⟨0, 0, by omega, rfl, rfl⟩
          case round =>
            obtain ⟨t, d, ht, rfl, rfl⟩ := hrel
            by_cases htl : t < 1
            · obtain ⟨y, hy⟩ : ∃ y, M[t]? = some y := ⟨_, List.getElem?_eq_getElem (by rw [← HC.out]; exact htl)⟩
              have hyy : (M.map samc)[t]? = some (samc y) := by rw [List.getElem?_map, hy]; rfl
              have hLL : (L.map samc)[j + t]? = some (samc y) := by
                have := HG.out t
                rw [hy, List.getElem?_take_of_lt (by have := HST.out; omega)] at this
                rw [List.getElem?_map, ← this]; rfl
              have u0 := oA.cell rfl hyy (j := 0) rfl
              have v0 := (S4.bel.cell hbw).trans (hcell (j + t) _ hLL 0 _ rfl)
              simp only [List.length_cons, List.length_nil, Nat.zero_add, Nat.reduceAdd] at v0
              rw [show off + ((j + t) * 4 + 0) = off + j * 4 + t * 4 by omega] at v0
              have u1 := oA.cell rfl hyy (j := 1) rfl
              have v1 := (S4.bel.cell hbw).trans (hcell (j + t) _ hLL 1 _ rfl)
              simp only [List.length_cons, List.length_nil, Nat.zero_add, Nat.reduceAdd] at v1
              rw [show off + ((j + t) * 4 + 1) = off + j * 4 + t * 4 + 1 by omega] at v1
              have u2 := oA.cell rfl hyy (j := 2) rfl
              have v2 := (S4.bel.cell hbw).trans (hcell (j + t) _ hLL 2 _ rfl)
              simp only [List.length_cons, List.length_nil, Nat.zero_add, Nat.reduceAdd] at v2
              rw [show off + ((j + t) * 4 + 2) = off + j * 4 + t * 4 + 2 by omega] at v2
              have u3 := oA.cell rfl hyy (j := 3) rfl
              have v3 := (S4.bel.cell hbw).trans (hcell (j + t) _ hLL 3 _ rfl)
              simp only [List.length_cons, List.length_nil, Nat.zero_add, Nat.reduceAdd] at v3
              rw [show off + ((j + t) * 4 + 3) = off + j * 4 + t * 4 + 3 by omega] at v3
              simp only [Nat.add_zero] at u0
              have htc : (t : Int) < (1 : Int) := by omega
              clear hyy hLL hy
              go_wp2_with fail
              go_region_held3 (fun w' => w'.cell? ⟨kA, t * 4, none⟩ = some (.int .i64 y.o) ∧ w'.cell? ⟨kA, t * 4 + 1, none⟩ = some (.int .i64 y.d) ∧ w'.cell? ⟨kA, t * 4 + 2, none⟩ = some (.int .i64 y.t) ∧ w'.cell? ⟨kA, t * 4 + 3, none⟩ = some (.int .i64 y.s) ∧ w'.cell? ⟨bl, off + j * 4 + t * 4, none⟩ = some (.int .i64 y.o) ∧ w'.cell? ⟨bl, off + j * 4 + t * 4 + 1, none⟩ = some (.int .i64 y.d) ∧ w'.cell? ⟨bl, off + j * 4 + t * 4 + 2, none⟩ = some (.int .i64 y.t) ∧ w'.cell? ⟨bl, off + j * 4 + t * 4 + 3, none⟩ = some (.int .i64 y.s)) (exact ⟨u0, u1, u2, u3, v0, v1, v2, v3⟩) (fail)
              go_wp2_with fail
              go_roundw
              case rel => exact ⟨t + 1, d + 1, by omega, by go_num, rfl⟩
              case measure => simp [intOf]; omega
            · have htc : ¬ (t : Int) < (1 : Int) := by omega
              go_wp2_with fail
              go_roundw
              case rel => exact ⟨j + 1, cnt + 1, some k2, by omega, by omega, by go_num, by rw [keepFrom_eq], by rw [keepFrom_eq, ← HM.out]; exact S4.chg0 (chg0_drewN _ _)⟩
              case measure => simp [intOf]; omega
        · have q : ((j : Int) == (m : Int)) = false := by rw [beq_eq_false_iff_ne]; omega
          clear S1
          go_wp2_with fail
          refine (storeAdd s b g cnt _ x.o x.d x.t x.s _ SX.st (by omega)).mono ?_
          rintro e wB ⟨rfl, A⟩
          obtain ⟨k2, S2, -⟩ := SX.add A
          obtain ⟨f, hf⟩ : ∃ f, f = keepFrom j m := ⟨_, rfl⟩
          have hff : keepFrom (j + 1) m = f := by rw [hf]; exact keepFrom_ne hjm
          rw [← hf] at S2 hfle ⊢
          have hP : rpush 8 (lastN 8 ((L.take j).drop f)) (⟨x.o, x.d, x.t, x.s⟩ : Sam) = lastN 8 ((L.take (j + 1)).drop f) := by
            rw [drop_take_snoc hx hfle, ← lastN_push (by omega)]
          rw [hP] at S2
          have S3 := S2
          have HF := Lib.hid hff
          clear S2 SX A hP bX cX e0 e1 e2 e3 hf hff
          obtain ⟨c, hcd⟩ : ∃ c, c = (lastN 8 ((L.take (j + 1)).drop f)).length := ⟨_, rfl⟩
          have hc1 : c = min (j + 1 - f) 8 := by rw [hcd, lastN_len, List.length_drop, List.length_take, ← HL.out]; omega
          obtain ⟨st, hst⟩ : ∃ st, st = j + 1 - c := ⟨_, rfl⟩
          have hget : ∀ t, (lastN 8 ((L.take (j + 1)).drop f))[t]? = (L.take (j + 1))[st + t]? := fun t => by
            rw [lastN_get, List.getElem?_drop, List.length_drop, List.length_take, ← HL.out]
            congr 1
            omega
          obtain ⟨M, hM⟩ : ∃ M, M = lastN 8 ((L.take (j + 1)).drop f) := ⟨_, rfl⟩
          rw [← hM] at hcd hget
          have HG := Lib.hid hget
          have HC := Lib.hid hcd
          have hst1 : st < cap := by omega
          have hst2 : st ≤ j + 1 := by omega
          have hst3 : j + 1 ≤ cap := by omega
          have hcj : j + 1 - st = c := by omega
          have hmax : (if (f : Int) < (j : Int) + 1 - 8 then (j : Int) + 1 - 8 else (f : Int)) = (st : Int) := by split <;> omega
          have hc8 : c ≤ 8 := by omega
          have hc0 : 1 ≤ c := by omega
          rw [← hM] at S3
          have HM := Lib.hid hM
          clear hcd hget hM
          go_wp2_with fail
          refine (storeAll s b _ _ _ _ S3.st).mono ?_
          rintro e wD ⟨aA, capA, gA, rfl, oA, cA, hgA⟩
          rw [List.length_map, ← HC.out] at oA ⊢
          have S4 := S3.chg0 cA
          clear S3 cA hgA
          obtain ⟨kA, rfl⟩ := oA.pos (by rw [List.length_map, ← HC.out]; omega)
          obtain ⟨capA', hv, -, -⟩ := oA.some_form
          simp only [Value.slice.injEq] at hv
          obtain ⟨rfl, -, -⟩ := hv
          have HC1 := Lib.hid hc1
          have HST := Lib.hid hst
          clear hc1 hst
          go_wp2_with fail
          go_loopw [66] (fun i wr => ∃ t d : Nat, t ≤ c ∧ i = .int .i64 t ∧ wr = wD.drewN d) (fun i _ => c - (intOf i).toNat)
          case atStart => exact ⟨0, 0, by omega, rfl, rfl⟩
          case round =>
            obtain ⟨t, d, ht, rfl, rfl⟩ := hrel
            by_cases htl : t < c
            · obtain ⟨y, hy⟩ : ∃ y, M[t]? = some y := ⟨_, List.getElem?_eq_getElem (by rw [← HC.out]; exact htl)⟩
              have hyy : (M.map samc)[t]? = some (samc y) := by rw [List.getElem?_map, hy]; rfl
              have hLL : (L.map samc)[st + t]? = some (samc y) := by
                have := HG.out t
                rw [hy, List.getElem?_take_of_lt (by have := HST.out; omega)] at this
                rw [List.getElem?_map, ← this]; rfl
              have u0 := oA.cell rfl hyy (j := 0) rfl
              have v0 := (S4.bel.cell hbw).trans (hcell (st + t) _ hLL 0 _ rfl)
              simp only [List.length_cons, List.length_nil, Nat.zero_add, Nat.reduceAdd] at v0
              rw [show off + ((st + t) * 4 + 0) = off + st * 4 + t * 4 by omega] at v0
              have u1 := oA.cell rfl hyy (j := 1) rfl
              have v1 := (S4.bel.cell hbw).trans (hcell (st + t) _ hLL 1 _ rfl)
              simp only [List.length_cons, List.length_nil, Nat.zero_add, Nat.reduceAdd] at v1
              rw [show off + ((st + t) * 4 + 1) = off + st * 4 + t * 4 + 1 by omega] at v1
              have u2 := oA.cell rfl hyy (j := 2) rfl
              have v2 := (S4.bel.cell hbw).trans (hcell (st + t) _ hLL 2 _ rfl)
              simp only [List.length_cons, List.length_nil, Nat.zero_add, Nat.reduceAdd] at v2
              rw [show off + ((st + t) * 4 + 2) = off + st * 4 + t * 4 + 2 by omega] at v2
              have u3 := oA.cell rfl hyy (j := 3) rfl
              have v3 := (S4.bel.cell hbw).trans (hcell (st + t) _ hLL 3 _ rfl)
              simp only [List.length_cons, List.length_nil, Nat.zero_add, Nat.reduceAdd] at v3
              rw [show off + ((st + t) * 4 + 3) = off + st * 4 + t * 4 + 3 by omega] at v3
              simp only [Nat.add_zero] at u0
              have htc : (t : Int) < (c : Int) := by omega
              clear hyy hLL hy
              go_wp2_with fail
              go_region_held3 (fun w' => w'.cell? ⟨kA, t * 4, none⟩ = some (.int .i64 y.o) ∧ w'.cell? ⟨kA, t * 4 + 1, none⟩ = some (.int .i64 y.d) ∧ w'.cell? ⟨kA, t * 4 + 2, none⟩ = some (.int .i64 y.t) ∧ w'.cell? ⟨kA, t * 4 + 3, none⟩ = some (.int .i64 y.s) ∧ w'.cell? ⟨bl, off + st * 4 + t * 4, none⟩ = some (.int .i64 y.o) ∧ w'.cell? ⟨bl, off + st * 4 + t * 4 + 1, none⟩ = some (.int .i64 y.d) ∧ w'.cell? ⟨bl, off + st * 4 + t * 4 + 2, none⟩ = some (.int .i64 y.t) ∧ w'.cell? ⟨bl, off + st * 4 + t * 4 + 3, none⟩ = some (.int .i64 y.s)) (exact ⟨u0, u1, u2, u3, v0, v1, v2, v3⟩) (fail)
              go_wp2_with fail
              go_roundw
              case rel => exact ⟨t + 1, d + 1, by omega, by go_num, rfl⟩
              case measure => simp [intOf]; omega
            · have htc : ¬ (t : Int) < (c : Int) := by omega
              go_wp2_with fail
              go_roundw
              case rel => exact ⟨j + 1, cnt + 1, some k2, by omega, by omega, by go_num, by rw [HF.out], by rw [HF.out, ← HM.out]; exact S4.chg0 (chg0_drewN _ _)⟩
              case measure => simp [intOf]; omega
      · obtain rfl : j = len := by omega
        have HB := Lib.hid S1.bel
        clear S1
        go_wp2_with fail
        go_ret
        exact ⟨rfl, HB.out⟩
end Go.Proofs.Ytnfnonphccnbkaa
