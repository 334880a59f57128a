/- FreshMoves: slewed by so much more, the best one's offset is as much less, and it is the same one; of a shorter life no better one: the walk. -/
import Derived.Test.YtnfnonphccnbkaaStoreW
import Derived.Test.YtnfnonphccnbkaaArgs
import Derived.Test.YtnfnonphccnbkaaNone
import Derived.Test.YtnfnonphccnbkaaKeeps
set_option linter.unusedVariables false
namespace Go.Chron
open Go Go.RowKit
def mvS (x : Sam) : Sam := ⟨x.o.tmod 1152921504606846976, x.d, x.t.tmod 1152921504606846976, x.s.tmod 1152921504606846976⟩
def In60 (a : Int) : Prop := -1152921504606846976 < a ∧ a < 1152921504606846976
theorem tmod60 (a : Int) : In60 (a.tmod 1152921504606846976) := ⟨Int.lt_tmod_of_pos a (by decide), Int.tmod_lt_of_pos a (by decide)⟩
theorem in60_64 {a : Int} (h : In60 a) : In64 a := by obtain ⟨h1, h2⟩ := h; exact ⟨by omega, by omega⟩
theorem mvS_ok {x : Sam} (h : x.Ok) : (mvS x).Ok := ⟨in60_64 (tmod60 _), h.d, in60_64 (tmod60 _), in60_64 (tmod60 _)⟩
theorem nowOf_moves {x : Sam} (ho : In60 x.o) (hs : In60 x.s) {z : Int} (hz : -2147483648 ≤ z) (hz' : z ≤ 2147483647) : nowOf x z = nowOf x 0 - z ∧ -2305843009213693952 < nowOf x 0 ∧ nowOf x 0 < 2305843009213693952 := by
  obtain ⟨o1, o2⟩ := ho
  obtain ⟨s1, s2⟩ := hs
  have e1 : satSub z x.s = z - x.s := by unfold satSub; rw [if_neg (by omega), if_neg (by omega)]
  have e2 : satSub 0 x.s = 0 - x.s := by unfold satSub; rw [if_neg (by omega), if_neg (by omega)]
  have e3 : satSub x.o (z - x.s) = x.o - (z - x.s) := by unfold satSub; rw [if_neg (by omega), if_neg (by omega)]
  have e4 : satSub x.o (0 - x.s) = x.o - (0 - x.s) := by unfold satSub; rw [if_neg (by omega), if_neg (by omega)]
  unfold nowOf
  rw [e1, e2, e3, e4]
  exact ⟨by omega, by omega, by omega⟩
theorem list_snoc {α : Type} (l : List α) : l = [] ∨ ∃ m x, l = m ++ [x] := by
  rcases List.eq_nil_or_concat l with h | ⟨m, x, h⟩
  · exact .inl h
  · exact .inr ⟨m, x, by simpa using h⟩
theorem bestOf_least : ∀ (n : Nat) (l : List Sam), l.length = n → (∀ a, bestOf l = some a → ∀ c ∈ l, a.d ≤ c.d) ∧ (bestOf l = none → l = []) := by
  intro n
  induction n with
  | zero => intro l hl; obtain rfl := List.length_eq_zero_iff.1 hl; exact ⟨fun a h c hc => by simp at hc, fun _ => rfl⟩
  | succ n ih =>
    intro l hl
    rcases list_snoc l with rfl | ⟨m, x, rfl⟩
    · simp at hl
    obtain ⟨i1, i2⟩ := ih m (by simpa using hl)
    rw [bestOf_snoc]
    cases hb : bestOf m with
    | none =>
      obtain rfl := i2 hb
      refine ⟨fun a h c hc => ?_, fun h => by simp [bestStep] at h⟩
      simp [bestStep] at h
      simp at hc
      rw [hc, ← h]
      exact Int.le_refl _
    | some y =>
      have i3 := i1 y hb
      have e : bestStep (some y) x = if btOf y x then some y else some x := rfl
      rw [e]
      cases hy : btOf y x with
      | true =>
        refine ⟨fun a h c hc => ?_, fun h => by simp at h⟩
        simp at h
        subst h
        rcases List.mem_append.1 hc with hc | hc
        · exact i3 c hc
        · simp at hc; subst hc; unfold btOf at hy; simp at hy; omega
      | false =>
        refine ⟨fun a h c hc => ?_, fun h => by simp at h⟩
        simp at h
        subst h
        have hle : x.d ≤ y.d := by unfold btOf at hy; simp at hy; omega
        rcases List.mem_append.1 hc with hc | hc
        · exact Int.le_trans hle (i3 c hc)
        · simp at hc; subst hc; exact Int.le_refl _
theorem bestOf_none {l : List Sam} (h : bestOf l = none) : l = [] := (bestOf_least _ l rfl).2 h
theorem bestOf_min {l : List Sam} {a : Sam} (h : bestOf l = some a) : ∀ c ∈ l, a.d ≤ c.d := (bestOf_least _ l rfl).1 a h
theorem frOf_mono {x : Sam} {h l1 l2 : Int} (hl : l1 ≤ l2) (hf : frOf x h l1 = true) : frOf x h l2 = true := by
  unfold frOf at *
  simp at *
  omega
/-- Of a shorter life no better one. -/
theorem best_shorter {L : List Sam} {h l1 l2 : Int} (hl : l1 ≤ l2) {c : Sam} (hc : bestOf (L.filter (frOf · h l1)) = some c) : ∃ a, bestOf (L.filter (frOf · h l2)) = some a ∧ a.d ≤ c.d := by
  have hm := bestOf_mem _ _ hc
  have hm2 : c ∈ L.filter (frOf · h l2) := by
    rw [List.mem_filter] at hm ⊢
    exact ⟨hm.1, frOf_mono hl hm.2⟩
  cases hb : bestOf (L.filter (frOf · h l2)) with
  | none => rw [bestOf_none hb] at hm2; simp at hm2
  | some a => exact ⟨a, rfl, bestOf_min hb c hm2⟩
theorem lastN_mem' {α : Type} {m : Nat} {l : List α} {x : α} (h : x ∈ lastN m l) : x ∈ l := List.mem_of_mem_drop h
end Go.Chron
namespace Go.Proofs.Ytnfnonphccnbkaa
open Go.RowKit Go.Chron

theorem bestThird (s b : Nat) (g : Option Nat) (cnt : Nat) (K : List Sam) (hok : ∀ x ∈ K, x.Ok) (h l0 lm : Int) (hh : In64 h) (w : World) (st : StoreAt w s b g cnt K) {acc : Option Sam} (hb : bestOf (K.filter (frOf · h l0)) = acc) (hl : lm ≤ l0) :
    Calls Try.prog 23 #[.pointer (some ⟨s, 0, none⟩), .int .i64 h, .int .i64 lm, .int .i64 0] w fun e w' => ∃ r, (∀ c, r = some c → ∃ a, acc = some a ∧ a.d ≤ c.d) ∧ e = .returned (bestRes r 0) ∧ Chg (fun _ => False) w w' := by
  refine (storeBest s b g cnt K hok h lm 0 hh ⟨by decide, by decide⟩ w st).mono ?_
  rintro e w' ⟨rfl, c⟩
  refine ⟨_, fun c hc => ?_, rfl, c⟩
  obtain ⟨a, ha, hd⟩ := best_shorter hl hc
  exact ⟨a, by rw [← hb, ha], hd⟩

def MovesInv (w : World) (s b n : Nat) (L : List Sam) (i : Value) (wr : World) : Prop :=
  ∃ (j : Nat) (g : Option Nat), j ≤ n ∧ i = .int .i64 j ∧ StoreW w wr s b g j (lastN 8 ((L.map mvS).take j))

set_option maxRecDepth 100000 in
set_option maxHeartbeats 3200000 in
theorem freshMoves_walk (a : Option Addr) (len cap : Nat) (els : List (List Value)) (tm l0 l1 l2 : Int) (w : World) (hI : FlatIn [.int .i64, .int .i64, .int .i64, .int .i64] w a len cap els) (hh : (Lit.int .i32 tm).wf = true) (h0 : (Lit.int .u32 l0).wf = true) (h1 : (Lit.int .u32 l1).wf = true) (h2 : (Lit.int .u32 l2).wf = true) :
    Calls Try.prog 5 #[.slice a len cap, .int .i32 tm, .agg #[.int .u32 l0, .int .u32 l1, .int .u32 l2]] w fun e w' => e = .returned (.bool true) ∧ Below w.heap.size w w' := by
  have u0 : 0 ≤ l0 ∧ l0 ≤ 4294967295 := by
    simp only [Lit.wf, IntKind.min, IntKind.max, IntKind.signed, IntKind.bits, Bool.and_eq_true] at h0
    simp at h0
    omega
  have u1 : 0 ≤ l1 ∧ l1 ≤ 4294967295 := by
    simp only [Lit.wf, IntKind.min, IntKind.max, IntKind.signed, IntKind.bits, Bool.and_eq_true] at h1
    simp at h1
    omega
  have u2 : 0 ≤ l2 ∧ l2 ≤ 4294967295 := by
    simp only [Lit.wf, IntKind.min, IntKind.max, IntKind.signed, IntKind.bits, Bool.and_eq_true] at h2
    simp at h2
    omega
  have uh : -2147483648 ≤ tm ∧ tm ≤ 2147483647 := by
    simp only [Lit.wf, IntKind.min, IntKind.max, IntKind.signed, IntKind.bits, Bool.and_eq_true] at hh
    simp at hh
    omega
  obtain ⟨u0, v0⟩ := u0
  obtain ⟨u1, v1⟩ := u1
  obtain ⟨u2, v2⟩ := u2
  obtain ⟨uh, vh⟩ := uh
  clear h0 h1 h2 hh
  obtain ⟨L, rfl, hok⟩ := sams_in hI.ok
  have hc := hI.leE
  have hcm := hI.capE
  have hlenE := hI.lenE
  rw [List.length_map] at hlenE
  have HI := Lib.hid hI
  have HL := Lib.hid hlenE
  have HOK := Lib.hid hok
  clear hI hlenE hok
  have bA := Blk.new w 41 #[Value.int IntKind.u32 l0, Value.int IntKind.u32 l1, Value.int IntKind.u32 l2]
  have cA := chg0_alloc w (Obj.cells #[Value.int IntKind.u32 l0, Value.int IntKind.u32 l1, Value.int IntKind.u32 l2] 41)
  go_enter Try.func5, Try.ntmps5
  go_wp2_with fail
  obtain ⟨z, hz⟩ : ∃ z, z = wrap32 l2 := ⟨_, rfl⟩
  rw [← hz]
  have z1 : -2147483648 ≤ z := by rw [hz]; unfold wrap32; omega
  have z2 : z ≤ 2147483647 := by rw [hz]; unfold wrap32; omega
  clear hz
  have lA := bA.lt
  generalize w.alloc (Obj.cells #[Value.int IntKind.u32 l0, Value.int IntKind.u32 l1, Value.int IntKind.u32 l2] 41) = wA at *
  obtain ⟨iA, hiA⟩ : ∃ iA, iA = w.heap.size := ⟨_, rfl⟩
  rw [← hiA] at bA lA
  simp only [← hiA]
  have HIA := Lib.hid hiA
  clear hiA
  have sA := cA.size
  refine (storeNew wA).mono ?_
  rintro e w1 ⟨s, b, rfl, st, hs, hb, c1⟩
  have S0 : StoreW wA w1 s b none 0 [] := ⟨st, hb, by simp, bel0 (Below.refl _ _) c1 (Nat.le_refl _)⟩
  clear st hb c1
  go_wp2_with fail
  refine (alive _).mono ?_
  rintro e w2 ⟨rfl, c2⟩
  have S1 := S0.chg0 c2
  clear S0 c2
  by_cases hlen : 50 < len
  · go_wp2_with fail
    refine (alive _).mono ?_
    rintro e w4 ⟨rfl, hc4⟩
    have hB4 := Lib.hid ((bel0 (Below.refl _ _) cA (Nat.le_refl _)).trans ((S1.chg0 hc4).bel.mono cA.size))
    clear S1 hc4
    go_wp2_with fail
    go_ret
    exact ⟨rfl, hB4.out⟩
  · go_wp2_with fail
    go_loopw [38] (fun i wr => MovesInv wA s b len L i wr) (fun i _ => len - (intOf i).toNat)
    case atStart => exact ⟨0, none, by omega, rfl, S1⟩
    case round =>
      clear S1
      obtain ⟨j, g, hj, rfl, S1⟩ := hrel
      by_cases hlt : j < len
      · obtain ⟨x, hx⟩ : ∃ x, L[j]? = some x := ⟨_, List.getElem?_eq_getElem (by rw [← HL.out]; exact hlt)⟩
        obtain ⟨bl, off, rfl, hbw, hcell⟩ := HI.out.cell (by omega)
        have hbw' : bl < wA.heap.size := by omega
        have hxx : (L.map samc)[j]? = some (samc x) := by rw [List.getElem?_map, hx]; rfl
        have e0 := (S1.bel.cell hbw').trans (cA.keep (hcell j _ hxx 0 _ rfl) (fun h => h))
        have e1 := (S1.bel.cell hbw').trans (cA.keep (hcell j _ hxx 1 _ rfl) (fun h => h))
        have e2 := (S1.bel.cell hbw').trans (cA.keep (hcell j _ hxx 2 _ rfl) (fun h => h))
        have e3 := (S1.bel.cell hbw').trans (cA.keep (hcell j _ hxx 3 _ rfl) (fun h => h))
        simp only [List.length_cons, List.length_nil, Nat.add_zero, Nat.zero_add, Nat.reduceAdd] at e0 e1 e2 e3
        rw [← Nat.add_assoc] at e1 e2 e3
        have hi1 : (j : Int) < (len : Int) := by omega
        have cX := chg0_alloc wr (Obj.cells #[Value.int IntKind.i64 x.o, Value.int IntKind.i64 x.d, Value.int IntKind.i64 x.t, Value.int IntKind.i64 x.s] 28)
        have SX := S1.chg0 cX
        clear S1 cX
        go_wp2_with fail
        refine (storeAdd s b g j _ (x.o.tmod 1152921504606846976) x.d (x.t.tmod 1152921504606846976) (x.s.tmod 1152921504606846976) _ SX.st (by omega)).mono ?_
        rintro e wB ⟨rfl, A⟩
        obtain ⟨k2, S2, -⟩ := SX.add A
        have hP : rpush 8 (lastN 8 ((L.map mvS).take j)) (⟨x.o.tmod 1152921504606846976, x.d, x.t.tmod 1152921504606846976, x.s.tmod 1152921504606846976⟩ : Sam) = lastN 8 ((L.map mvS).take (j + 1)) := by
          rw [List.take_add_one, show (L.map mvS)[j]? = some (mvS x) by rw [List.getElem?_map, hx]; rfl, lastN_push (by omega)]; rfl
        rw [hP] at S2
        clear SX A hP e0 e1 e2 e3 hxx
        go_wp2_with fail
        go_roundw
        case rel => exact ⟨j + 1, some k2, by omega, by go_num, S2⟩
        case measure => simp [intOf]; omega
      · obtain rfl : j = len := by omega
        obtain ⟨K, hK⟩ : ∃ K, K = lastN 8 ((L.map mvS).take j) := ⟨_, rfl⟩
        rw [← hK] at S1
        have hKm : ∀ x ∈ K, ∃ y, y.Ok ∧ x = mvS y := fun x hx => by
          rw [hK] at hx
          obtain ⟨y, hy, rfl⟩ := List.mem_map.1 (List.mem_of_mem_take (lastN_mem' hx))
          exact ⟨y, HOK.out y hy, rfl⟩
        have hKok : ∀ x ∈ K, x.Ok := fun x hx => by obtain ⟨y, hy, rfl⟩ := hKm x hx; exact mvS_ok hy
        have HK := Lib.hid hKok
        have HM := Lib.hid hKm
        have hhI : In64 tm := ⟨by omega, by omega⟩
        have hzI : In64 z := ⟨by omega, by omega⟩
        have h00 : In64 0 := ⟨by decide, by decide⟩
        clear hK hKm hKok
        have HHI := Lib.hid hhI
        have HZI := Lib.hid hzI
        have H00 := Lib.hid h00
        clear hhI hzI h00
        have bA1 := bA.bel S1.bel lA
        have m0 := bA1.cell 0
        simp at m0
        clear bA1
        go_wp2_with fail
        refine (storeBest s b g j K HK.out tm l0 0 HHI.out H00.out _ S1.st).mono ?_
        rintro e wB ⟨rfl, cB⟩
        have S2 := S1.chg0 cB
        clear S1 cB m0
        cases hb : bestOf (K.filter (frOf · tm l0)) with
        | none =>
          have HB := Lib.hid hb
          clear hb
          simp only [bestRes]
          have S3 := S2.chg0 (chg0_alloc wB (Obj.cells #[Value.int IntKind.i64 0, Value.int IntKind.i64 0, Value.int IntKind.i64 0, Value.int IntKind.i64 0] 28))
          have bX := Blk.new wB 28 #[Value.int IntKind.i64 0, Value.int IntKind.i64 0, Value.int IntKind.i64 0, Value.int IntKind.i64 0]
          have bA1 := bA.bel S3.bel lA
          have m0 := bA1.cell 0
          simp at m0
          clear bA1 S2
          go_wp2_with fail
          refine (storeBest s b g j K HK.out tm l0 z HHI.out HZI.out _ S3.st).mono ?_
          rintro e wC ⟨rfl, cC⟩
          rw [HB.out]
          simp only [bestRes]
          have S4 := (S3.chg0 cC).chg0 (chg0_alloc wC (Obj.cells #[Value.int IntKind.i64 0, Value.int IntKind.i64 0, Value.int IntKind.i64 0, Value.int IntKind.i64 0] 28))
          have bX4 := (bX.chg cC (fun h => h)).alloc (Obj.cells #[Value.int IntKind.i64 0, Value.int IntKind.i64 0, Value.int IntKind.i64 0, Value.int IntKind.i64 0] 28)
          have a0 := bX4.cell 0
          have a1 := bX4.cell 1
          have a2 := bX4.cell 2
          have a3 := bX4.cell 3
          simp at a0 a1 a2 a3
          have bA1 := bA.bel S4.bel lA
          have m0 := bA1.cell 0
          have m1 := bA1.cell 1
          simp at m0 m1
          clear bA1 S3 cC bX
          go_wp2_with fail
          all_goals (
            refine (bestThird s b g j K HK.out tm l0 _ HHI.out _ S4.st HB.out (by omega)).mono ?_
            rintro e wD ⟨r, hr, rfl, cD⟩
            have hrn : r = none := by
              cases r with
              | none => rfl
              | some c => obtain ⟨a, ha, _⟩ := hr c rfl; cases ha
            subst hrn
            simp only [bestRes]
            have HB5 := Lib.hid ((bel0 (Below.refl _ _) cA (Nat.le_refl _)).trans (((S4.chg0 cD).chg0 (chg0_alloc wD (Obj.cells #[Value.int IntKind.i64 0, Value.int IntKind.i64 0, Value.int IntKind.i64 0, Value.int IntKind.i64 0] 28))).bel.mono cA.size))
            clear S4 cD m0 m1 a0 a1 a2 a3 bX4 hr
            go_wp2_with fail
            go_ret
            exact ⟨rfl, HB5.out⟩)
        | some x =>
          have HB := Lib.hid hb
          have hxm := bestOf_mem _ _ hb
          obtain ⟨y, hy, hxy⟩ := HM.out x ((List.mem_filter.1 hxm).1)
          have hox : In60 x.o := by rw [hxy]; exact tmod60 _
          have hsx : In60 x.s := by rw [hxy]; exact tmod60 _
          obtain ⟨n1, n2, n3⟩ := nowOf_moves hox hsx z1 z2
          simp only [bestRes]
          obtain ⟨N, hN⟩ : ∃ N, N = nowOf x 0 := ⟨_, rfl⟩
          rw [← hN] at n1 n2 n3 ⊢
          have HN1 := Lib.hid n1
          have HN0 := Lib.hid hN
          clear hb hxm hxy hox hsx n1 hN hy y
          have S3 := S2.chg0 (chg0_alloc wB (Obj.cells #[Value.int IntKind.i64 x.o, Value.int IntKind.i64 x.d, Value.int IntKind.i64 x.t, Value.int IntKind.i64 x.s] 28))
          have bX := Blk.new wB 28 #[Value.int IntKind.i64 x.o, Value.int IntKind.i64 x.d, Value.int IntKind.i64 x.t, Value.int IntKind.i64 x.s]
          have bA1 := bA.bel S3.bel lA
          have m0 := bA1.cell 0
          simp at m0
          clear bA1 S2
          go_wp2_with fail
          refine (storeBest s b g j K HK.out tm l0 z HHI.out HZI.out _ S3.st).mono ?_
          rintro e wC ⟨rfl, cC⟩
          rw [HB.out]
          simp only [bestRes]
          rw [HN1.out]
          have S4 := (S3.chg0 cC).chg0 (chg0_alloc wC (Obj.cells #[Value.int IntKind.i64 x.o, Value.int IntKind.i64 x.d, Value.int IntKind.i64 x.t, Value.int IntKind.i64 x.s] 28))
          have bX4 := (bX.chg cC (fun h => h)).alloc (Obj.cells #[Value.int IntKind.i64 x.o, Value.int IntKind.i64 x.d, Value.int IntKind.i64 x.t, Value.int IntKind.i64 x.s] 28)
          have a0 := bX4.cell 0
          have a1 := bX4.cell 1
          have a2 := bX4.cell 2
          have a3 := bX4.cell 3
          simp at a0 a1 a2 a3
          have bA1 := bA.bel S4.bel lA
          have m0 := bA1.cell 0
          have m1 := bA1.cell 1
          simp at m0 m1
          clear bA1 S3 cC bX
          go_wp2_with fail
          all_goals (
            refine (bestThird s b g j K HK.out tm l0 _ HHI.out _ S4.st HB.out (by omega)).mono ?_
            rintro e wD ⟨r, hr, rfl, cD⟩
            cases r with
            | none =>
              simp only [bestRes]
              have HB5 := Lib.hid ((bel0 (Below.refl _ _) cA (Nat.le_refl _)).trans (((S4.chg0 cD).chg0 (chg0_alloc wD (Obj.cells #[Value.int IntKind.i64 0, Value.int IntKind.i64 0, Value.int IntKind.i64 0, Value.int IntKind.i64 0] 28))).bel.mono cA.size))
              clear S4 cD m0 m1 a0 a1 a2 a3 bX4 hr
              go_wp2_with fail
              go_ret
              exact ⟨rfl, HB5.out⟩
            | some c =>
              obtain ⟨a', ha', hac⟩ := hr c rfl
              cases ha'
              simp only [bestRes]
              have HB5 := Lib.hid ((bel0 (Below.refl _ _) cA (Nat.le_refl _)).trans (((S4.chg0 cD).chg0 (chg0_alloc wD (Obj.cells #[Value.int IntKind.i64 c.o, Value.int IntKind.i64 c.d, Value.int IntKind.i64 c.t, Value.int IntKind.i64 c.s] 28))).bel.mono cA.size))
              have bX5 := (bX4.chg cD (fun h => h)).alloc (Obj.cells #[Value.int IntKind.i64 c.o, Value.int IntKind.i64 c.d, Value.int IntKind.i64 c.t, Value.int IntKind.i64 c.s] 28)
              have y1 := bX5.cell 1
              simp at y1
              clear S4 cD m0 m1 a0 a1 a2 a3 bX4 bX5 hr
              go_wp2_with fail
              go_ret
              exact ⟨rfl, HB5.out⟩)
theorem freshMoves_all (a : Option Addr) (len cap : Nat) (els : List (List Value)) (tm : Int) (cs : Array Value) (w : World) (hI : FlatIn [.int .i64, .int .i64, .int .i64, .int .i64] w a len cap els) (hh : (Lit.int .i32 tm).wf = true) (hc : okAll [.int .u32, .int .u32, .int .u32] cs.toList) :
    Calls Try.prog 5 #[.slice a len cap, .int .i32 tm, .agg cs] w fun e w' => e = .returned (.bool true) ∧ Below w.heap.size w w' := by
  obtain ⟨v, r, hcs, ⟨x, rfl, hx⟩, h1⟩ := okAll_cons hc
  obtain ⟨v, r, rfl, ⟨y, rfl, hy⟩, h2⟩ := okAll_cons h1
  obtain ⟨z, rfl, hz⟩ := ok_one_int h2
  obtain rfl : cs = #[.int .u32 x, .int .u32 y, .int .u32 z] := by rw [← Array.toArray_toList (xs := cs), hcs]
  exact freshMoves_walk a len cap els tm x y z w hI hh hx hy hz
end Go.Proofs.Ytnfnonphccnbkaa
