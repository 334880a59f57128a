/- FreshLeast: the best one is one of the last eight, fresh, and none of these that is fresh has a lesser delay: the walk. -/
import Derived.Test.YtnfnonphccnbkaaMoves
import Derived.Deep.RegionHeld3
import Derived.Maps.Own
import Derived.Maps.OwnOps
set_option linter.unusedVariables false
namespace Go.Chron
open Go Go.RowKit
def someB (fr : Sam → Bool) (M : List Sam) (t : Nat) : Bool := (M.take t).any fr
def thereB (fr : Sam → Bool) (M : List Sam) (x : Sam) (t : Nat) : Bool := (M.take t).any (fun y => fr y && decide (y = x))
theorem someB_succ {fr : Sam → Bool} {M : List Sam} {t : Nat} {y : Sam} (hy : M[t]? = some y) : someB fr M (t + 1) = (someB fr M t || fr y) := by
  unfold someB
  rw [List.take_add_one, hy, List.any_append]
  simp
theorem thereB_succ {fr : Sam → Bool} {M : List Sam} {x : Sam} {t : Nat} {y : Sam} (hy : M[t]? = some y) : thereB fr M x (t + 1) = (thereB fr M x t || (fr y && decide (y = x))) := by
  unfold thereB
  rw [List.take_add_one, hy, List.any_append]
  simp
theorem someB_all {fr : Sam → Bool} {M : List Sam} {x : Sam} (hx : x ∈ M) (hf : fr x = true) : someB fr M M.length = true := by
  unfold someB
  rw [List.take_length, List.any_eq_true]
  exact ⟨x, hx, hf⟩
theorem thereB_all {fr : Sam → Bool} {M : List Sam} {x : Sam} (hx : x ∈ M) (hf : fr x = true) : thereB fr M x M.length = true := by
  unfold thereB
  rw [List.take_length, List.any_eq_true]
  exact ⟨x, hx, by simp [hf]⟩
theorem lastN_at {L : List Sam} {f : Nat} (h : f = L.length - 8) (t : Nat) : (lastN 8 L)[t]? = L[f + t]? := by rw [lastN_get, h]
end Go.Chron
namespace Go.Proofs.Ytnfnonphccnbkaa
open Go.RowKit Go.Chron

theorem law4 : Maps.Keyed Try.prog 4 := Maps.bool_keyed Try.underlying4
theorem zero2 (w : World) : (zeroValue 2).run Try.prog w = .ok (.int .i64 0) w := by kernel_rfl
theorem bel_chg0 {w w1 w2 : World} (h : Below w.heap.size w w1) (c : Chg (fun _ => False) w1 w2) : Below w.heap.size w w2 := bel0 h c (Nat.le_refl _)
theorem twoMap (z : Int) (hz : In64 z) (ok : Bool) (w : World) : ∃ X1 X2,
    (Instr.mapUpdate 39 (.map (some w.heap.size)) (.bool true) (.int .i64 z)).run Try.prog (w.alloc (.map #[] 0)) = .ok () X1 ∧
    (Instr.mapUpdate 39 (.map (some w.heap.size)) (.bool false) (.int .i64 0)).run Try.prog X1 = .ok () X2 ∧
    (Instr.lookup 39 (.map (some w.heap.size)) (.bool ok) false).run Try.prog X2 = .ok (.int .i64 (if ok = true then z else 0)) X2 ∧ Chg (fun _ => False) w X2 := by
  have h0 : (w.alloc (.map #[] 0)).ownsMap Try.prog 4 (plainElem (H := Unit) Try.prog 2) w.heap.size 0 (.map []) := World.ownsMap_made _ _ _ _
  obtain ⟨X1, r1, h1, g1⟩ := h0.update law4 Try.underlying39 (by unfold maxLen; omega) (key := .bool true) (Maps.keyOf_bool_mk Try.underlying4 true) (plainElem_int Try.underlying2 (WalkArith.wf_i64 hz))
  obtain ⟨X2, r2, h2, g2⟩ := h1.update law4 Try.underlying39 (by unfold maxLen; omega) (key := .bool false) (Maps.keyOf_bool_mk Try.underlying4 false) (plainElem_int Try.underlying2 (a := 0) (q := .i64) (by decide))
  obtain ⟨c, r3, hat, -⟩ := h2.lookup_int law4 Try.underlying39 Try.underlying2 (zero2 _) (key := .bool ok) (Maps.keyOf_bool_mk Try.underlying4 ok)
  refine ⟨X1, X2, r1, r2, ?_, Chg.of_bel ((((Below.refl _ w).alloc (Nat.le_refl _) _).grown g1 (by rw [World.size_alloc]; omega) (fun j hj => by cases hj; exact Nat.le_refl _)).grown g2 (by have := g1.size; rw [World.size_alloc] at this; omega) (fun j hj => by cases hj; exact Nat.le_refl _))⟩
  cases ok with
  | false =>
    have e : (DataW.lit (H := Unit) (Lit.int .i64 0)) = .lit (.int .i64 c) := hat
    cases e
    exact r3
  | true =>
    have e : (DataW.lit (H := Unit) (Lit.int .i64 z)) = .lit (.int .i64 c) := hat
    cases e
    exact r3

def LeastInv (w : World) (s b n : Nat) (L : List Sam) (i : Value) (wr : World) : Prop :=
  ∃ (j : Nat) (g : Option Nat), j ≤ n ∧ i = .int .i64 j ∧ StoreW w wr s b g j (lastN 8 (L.take j))
/-- The second loop, when there is no best one: nothing is fresh. -/
def LeastNone (W0 : World) (c : Nat) (i th so : Value) (wr : World) : Prop := ∃ t : Nat, t ≤ c ∧ i = .int .i64 t ∧ th = .bool false ∧ so = .bool false ∧ Chg (fun _ => False) W0 wr
/-- The second loop, when x is the best one. -/
def LeastSome (W0 : World) (fr : Sam → Bool) (M : List Sam) (x : Sam) (c : Nat) (i th so : Value) (wr : World) : Prop :=
  ∃ t : Nat, t ≤ c ∧ i = .int .i64 t ∧ th = .bool (thereB fr M x t) ∧ so = .bool (someB fr M t) ∧ Chg (fun _ => False) W0 wr

set_option maxRecDepth 100000 in
set_option maxHeartbeats 3200000 in
theorem freshLeast_walk (a : Option Addr) (len cap : Nat) (els : List (List Value)) (n0 n1 n2 : Int) (w : World) (hI : FlatIn [.int .i64, .int .i64, .int .i64, .int .i64] w a len cap els) (h0 : In64 n0) (h1 : In64 n1) (h2 : In64 n2) :
    Calls Try.prog 4 #[.slice a len cap, .agg #[.int .i64 n0, .int .i64 n1, .int .i64 n2]] w fun e w' => e = .returned (.bool true) ∧ Below w.heap.size w w' := by
  obtain ⟨L, rfl, hok⟩ := sams_in hI.ok
  have hc := hI.leE
  have hcm := hI.capE
  have hlenE := hI.lenE
  rw [List.length_map] at hlenE
  have HI := Lib.hid hI
  have HL := Lib.hid hlenE
  have HOK := Lib.hid hok
  have N0 := Lib.hid h0
  have N1 := Lib.hid h1
  have N2 := Lib.hid h2
  clear hI hlenE hok h0 h1 h2
  have bA := Blk.new w 23 #[Value.int IntKind.i64 n0, Value.int IntKind.i64 n1, Value.int IntKind.i64 n2]
  have cA := chg0_alloc w (Obj.cells #[Value.int IntKind.i64 n0, Value.int IntKind.i64 n1, Value.int IntKind.i64 n2] 23)
  go_enter Try.func4, Try.ntmps4
  go_wp2_with fail
  have lA := bA.lt
  generalize w.alloc (Obj.cells #[Value.int IntKind.i64 n0, Value.int IntKind.i64 n1, Value.int IntKind.i64 n2] 23) = wA at *
  obtain ⟨iA, hiA⟩ : ∃ iA, iA = w.heap.size := ⟨_, rfl⟩
  rw [← hiA] at bA lA
  simp only [← hiA]
  have HIA := Lib.hid hiA
  clear hiA
  have sA := cA.size
  refine (storeNew wA).mono ?_
  rintro e w1 ⟨s, b, rfl, st, hs, hb, c1⟩
  have S0 : StoreW wA w1 s b none 0 [] := ⟨st, hb, by simp, bel0 (Below.refl _ _) c1 (Nat.le_refl _)⟩
  clear st hb c1
  go_wp2_with fail
  refine (alive _).mono ?_
  rintro e w2 ⟨rfl, c2⟩
  have S1 := S0.chg0 c2
  clear S0 c2
  by_cases hlen : 100 < len
  · go_wp2_with fail
    refine (alive _).mono ?_
    rintro e w4 ⟨rfl, hc4⟩
    have hB4 := Lib.hid ((bel0 (Below.refl _ _) cA (Nat.le_refl _)).trans ((S1.chg0 hc4).bel.mono cA.size))
    clear S1 hc4
    go_wp2_with fail
    go_ret
    exact ⟨rfl, hB4.out⟩
  · go_wp2_with fail
    go_loopw [30] (fun i wr => LeastInv wA s b len L i wr) (fun i _ => len - (intOf i).toNat)
    case atStart => exact ⟨0, none, by omega, rfl, S1⟩
    case round =>
      clear S1
      obtain ⟨j, g, hj, rfl, S1⟩ := hrel
      by_cases hlt : j < len
      · obtain ⟨x, hx⟩ : ∃ x, L[j]? = some x := ⟨_, List.getElem?_eq_getElem (by rw [← HL.out]; exact hlt)⟩
        obtain ⟨bl, off, rfl, hbw, hcell⟩ := HI.out.cell (by omega)
        have hbw' : bl < wA.heap.size := by omega
        have hxx : (L.map samc)[j]? = some (samc x) := by rw [List.getElem?_map, hx]; rfl
        have e0 := (S1.bel.cell hbw').trans (cA.keep (hcell j _ hxx 0 _ rfl) (fun h => h))
        have e1 := (S1.bel.cell hbw').trans (cA.keep (hcell j _ hxx 1 _ rfl) (fun h => h))
        have e2 := (S1.bel.cell hbw').trans (cA.keep (hcell j _ hxx 2 _ rfl) (fun h => h))
        have e3 := (S1.bel.cell hbw').trans (cA.keep (hcell j _ hxx 3 _ rfl) (fun h => h))
        simp only [List.length_cons, List.length_nil, Nat.add_zero, Nat.zero_add, Nat.reduceAdd] at e0 e1 e2 e3
        rw [← Nat.add_assoc] at e1 e2 e3
        have hi1 : (j : Int) < (len : Int) := by omega
        have cX := chg0_alloc wr (Obj.cells #[Value.int IntKind.i64 x.o, Value.int IntKind.i64 x.d, Value.int IntKind.i64 x.t, Value.int IntKind.i64 x.s] 28)
        have SX := S1.chg0 cX
        clear S1 cX
        go_wp2_with fail
        refine (storeAdd s b g j _ x.o x.d x.t x.s _ SX.st (by omega)).mono ?_
        rintro e wB ⟨rfl, A⟩
        obtain ⟨k2, S2, -⟩ := SX.add A
        have hP : rpush 8 (lastN 8 (L.take j)) (⟨x.o, x.d, x.t, x.s⟩ : Sam) = lastN 8 (L.take (j + 1)) := by
          rw [List.take_add_one, hx, lastN_push (by omega)]; rfl
        rw [hP] at S2
        clear SX A hP e0 e1 e2 e3 hxx
        go_wp2_with fail
        go_roundw
        case rel => exact ⟨j + 1, some k2, by omega, by go_num, S2⟩
        case measure => simp [intOf]; omega
      · obtain rfl : j = len := by omega
        obtain ⟨K, hK⟩ : ∃ K, K = lastN 8 L := ⟨_, rfl⟩
        have hK1 : lastN 8 (L.take j) = K := by rw [hK, HL.out, List.take_length]
        rw [hK1] at S1
        have hKok : ∀ x ∈ K, x.Ok := fun x hx => by rw [hK] at hx; exact HOK.out x (lastN_mem' hx)
        have HK := Lib.hid hKok
        have HKE := Lib.hid hK
        clear hK hK1 hKok
        have bA1 := bA.bel S1.bel lA
        have m0 := bA1.cell 0
        have m1 := bA1.cell 1
        have m2 := bA1.cell 2
        simp at m0 m1 m2
        clear bA1
        go_wp2_with fail
        refine (storeBest s b g j K HK.out n0 n1 n2 N0.out N2.out _ S1.st).mono ?_
        rintro e wB ⟨rfl, cB⟩
        have S2 := S1.chg0 cB
        clear S1 cB m0 m1 m2
        by_cases h8 : 8 < j
        · obtain ⟨f, hf⟩ : ∃ f, f = j - 8 := ⟨_, rfl⟩
          have i2 : ((j : Int) - 8).toNat = f := by omega
          obtain ⟨bl, off, ha, hbw, hcell⟩ := HI.out.cell (by omega)
          have hbw' : bl < wA.heap.size := by omega
          obtain ⟨a2, ha2⟩ : ∃ a2, a2 = some (⟨bl, off + f * 4, none⟩ : Addr) := ⟨_, rfl⟩
          obtain ⟨c, hcd⟩ : ∃ c, c = j - f := ⟨_, rfl⟩
          obtain ⟨cap2, hcap2⟩ : ∃ cap2, cap2 = cap - f := ⟨_, rfl⟩
          have hkl : c = K.length := by rw [HKE.out, lastN_len, ← HL.out]; omega
          have hc2 : c ≤ cap2 := by omega
          have hfcap : ¬ cap = f := by omega
          have hc8 : c ≤ 8 := by omega
          have hS : 0 < c → ∃ bl o2, a2 = some (⟨bl, o2, none⟩ : Addr) ∧ bl < wA.heap.size ∧ ∀ (t : Nat) (y : Sam), K[t]? = some y → wA.cell? ⟨bl, o2 + t * 4, none⟩ = some (.int .i64 y.o) ∧ wA.cell? ⟨bl, o2 + t * 4 + 1, none⟩ = some (.int .i64 y.d) ∧ wA.cell? ⟨bl, o2 + t * 4 + 2, none⟩ = some (.int .i64 y.t) ∧ wA.cell? ⟨bl, o2 + t * 4 + 3, none⟩ = some (.int .i64 y.s) := fun _ => by
            refine ⟨bl, _, ha2, hbw', fun t y hy => ?_⟩
            have hyy : (L.map samc)[f + t]? = some (samc y) := by
              rw [HKE.out, lastN_at (f := f) (by rw [← HL.out]; exact hf)] at hy
              rw [List.getElem?_map, hy]; rfl
            have k0 := cA.keep (hcell (f + t) _ hyy 0 _ rfl) (fun h => h)
            have k1 := cA.keep (hcell (f + t) _ hyy 1 _ rfl) (fun h => h)
            have k2 := cA.keep (hcell (f + t) _ hyy 2 _ rfl) (fun h => h)
            have k3 := cA.keep (hcell (f + t) _ hyy 3 _ rfl) (fun h => h)
            simp only [List.length_cons, List.length_nil, Nat.zero_add, Nat.reduceAdd] at k0 k1 k2 k3
            rw [show off + ((f + t) * 4 + 0) = off + f * 4 + t * 4 by omega] at k0
            rw [show off + ((f + t) * 4 + 1) = off + f * 4 + t * 4 + 1 by omega] at k1
            rw [show off + ((f + t) * 4 + 2) = off + f * 4 + t * 4 + 2 by omega] at k2
            rw [show off + ((f + t) * 4 + 3) = off + f * 4 + t * 4 + 3 by omega] at k3
            exact ⟨k0, k1, k2, k3⟩
          subst ha
          have HHF := Lib.hid hf
          clear hf hcell
          have HC := Lib.hid hcd
          have HCAP := Lib.hid hcap2
          have HA2 := Lib.hid ha2
          have HS := Lib.hid hS
          have HKL := Lib.hid hkl
          clear hcd hcap2 ha2 hS hkl
          cases hb : bestOf (K.filter (frOf · n0 n1)) with
          | none =>
            have HB := Lib.hid hb
            clear hb
            simp only [bestRes]
            have S3 := S2.chg0 (chg0_alloc wB (Obj.cells #[Value.int IntKind.i64 0, Value.int IntKind.i64 0, Value.int IntKind.i64 0, Value.int IntKind.i64 0] 28))
            have bX := Blk.new wB 28 #[Value.int IntKind.i64 0, Value.int IntKind.i64 0, Value.int IntKind.i64 0, Value.int IntKind.i64 0]
            clear S2
            go_wp2_with fail
            rw [← HA2.out, ← HC.out, ← HCAP.out]
            generalize wB.alloc (Obj.cells #[Value.int IntKind.i64 0, Value.int IntKind.i64 0, Value.int IntKind.i64 0, Value.int IntKind.i64 0] 28) = W0 at *
            generalize wB.heap.size = iX at *
            have lX := bX.lt
            go_loopw [57, 11, 12] (fun i th so wr => LeastNone W0 c i th so wr) (fun i _ _ _ => c - (intOf i).toNat)
            case atStart => exact ⟨0, by omega, rfl, rfl, rfl, Chg.refl _ _⟩
            case round =>
              obtain ⟨t, ht, rfl, rfl, rfl, cR⟩ := hrel
              have S4 := S3.chg0 cR
              by_cases htl : t < c
              · obtain ⟨y, hy⟩ : ∃ y, K[t]? = some y := ⟨_, List.getElem?_eq_getElem (by rw [← HKL.out]; exact htl)⟩
                obtain ⟨bl2, o2, rfl, hbl2, hcell2⟩ := HS.out (by omega)
                have e0 := (S4.bel.cell hbl2).trans (hcell2 t y hy).1
                have e1 := (S4.bel.cell hbl2).trans (hcell2 t y hy).2.1
                have e2 := (S4.bel.cell hbl2).trans (hcell2 t y hy).2.2.1
                have e3 := (S4.bel.cell hbl2).trans (hcell2 t y hy).2.2.2
                have hyK := List.mem_of_getElem? hy
                have hyok := HK.out y hyK
                have hi2 : (t : Int) < (c : Int) := by omega
                have cY := chg0_alloc wr (Obj.cells #[Value.int IntKind.i64 y.o, Value.int IntKind.i64 y.d, Value.int IntKind.i64 y.t, Value.int IntKind.i64 y.s] 28)
                have bY := Blk.new wr 28 #[Value.int IntKind.i64 y.o, Value.int IntKind.i64 y.d, Value.int IntKind.i64 y.t, Value.int IntKind.i64 y.s]
                have bA1 := bA.bel (S4.chg0 cY).bel lA
                have m0 := bA1.cell 0
                have m1 := bA1.cell 1
                simp at m0 m1
                obtain ⟨fy, hfy⟩ : ∃ fy, fy = frOf y n0 n1 := ⟨_, rfl⟩
                have F : ∀ W : World, Calls Try.prog 27 #[.agg #[.int .i64 y.o, .int .i64 y.d, .int .i64 y.t, .int .i64 y.s], .int .i64 n0, .int .i64 n1] W fun e w' => e = .returned (.bool fy) ∧ Chg (fun _ => False) W w' := fun W => by
                  rw [hfy]; exact fresh27 y.o y.d y.t y.s n0 n1 hyok.t N0.out W
                have HFR := Lib.hid F
                have HFY := Lib.hid hfy
                have HY := Lib.hid hy
                have HYK := Lib.hid hyK
                clear F hfy bA1 S4 hy hyK hyok
                have hfz : fy = false := by
                  cases hfz : fy with
                  | false => rfl
                  | true =>
                    have : y ∈ K.filter (frOf · n0 n1) := List.mem_filter.2 ⟨HYK.out, by rw [← HFY.out, hfz]⟩
                    rw [bestOf_none HB.out] at this
                    simp at this
                subst hfz
                go_wp2_with fail
                refine (HFR.out _).mono ?_
                rintro e wF ⟨rfl, cF⟩
                have cR2 := (cR.trans cY).trans cF
                clear e0 e1 e2 e3 cR cY cF m0 m1 bY
                go_wp2_with fail
                go_roundw
                case rel => exact ⟨t + 1, by omega, by go_num, rfl, rfl, cR2⟩
                case measure => simp [intOf]; omega
              · obtain rfl : t = c := by omega
                have cMM := @run_makeMap Try.prog
                have bX4 := bX.chg cR (fun h => h)
                have x0 := bX4.cell 0
                have x1 := bX4.cell 1
                have x2 := bX4.cell 2
                have x3 := bX4.cell 3
                simp at x0 x1 x2 x3
                have bA1 := (bA.bel S4.bel lA).alloc (Obj.map #[] 0)
                have m2 := bA1.cell 2
                simp at m2
                obtain ⟨X1, X2, r1, r2, r3, cX⟩ := twoMap n2 N2.out false wr
                simp only [Bool.false_eq_true, if_false] at r3
                have HB5 := Lib.hid ((bel0 (Below.refl _ _) cA (Nat.le_refl _)).trans ((S4.chg0 cX).bel.mono cA.size))
                have N00 : In64 0 := ⟨by decide, by decide⟩
                have H00 := Lib.hid N00
                clear bX4 bA1 S3 S4 bX cX N00 cR
                go_wp2_with fail
                refine (now28 0 0 0 0 0 H00.out H00.out H00.out _).mono ?_
                rintro e wG ⟨rfl, cG⟩
                have HB6 := Lib.hid (bel_chg0 HB5.out cG)
                clear HB5 cG r1 r2 r3 x0 x1 x2 x3 m2
                have hz0 : nowOf ⟨0, 0, 0, 0⟩ 0 = 0 := rfl
                go_wp2_with fail
                go_ret
                exact ⟨rfl, HB6.out⟩
          | some x =>
            have HB := Lib.hid hb
            have hxm := bestOf_mem _ _ hb
            have hmn := bestOf_min hb
            have HXM := Lib.hid hxm
            have HMN := Lib.hid hmn
            clear hb hxm hmn
            simp only [bestRes]
            have S3 := S2.chg0 (chg0_alloc wB (Obj.cells #[Value.int IntKind.i64 x.o, Value.int IntKind.i64 x.d, Value.int IntKind.i64 x.t, Value.int IntKind.i64 x.s] 28))
            have bX := Blk.new wB 28 #[Value.int IntKind.i64 x.o, Value.int IntKind.i64 x.d, Value.int IntKind.i64 x.t, Value.int IntKind.i64 x.s]
            clear S2
            go_wp2_with fail
            rw [← HA2.out, ← HC.out, ← HCAP.out]
            generalize wB.alloc (Obj.cells #[Value.int IntKind.i64 x.o, Value.int IntKind.i64 x.d, Value.int IntKind.i64 x.t, Value.int IntKind.i64 x.s] 28) = W0 at *
            generalize wB.heap.size = iX at *
            have lX := bX.lt
            go_loopw [57, 11, 12] (fun i th so wr => LeastSome W0 (frOf · n0 n1) K x c i th so wr) (fun i _ _ _ => c - (intOf i).toNat)
            case atStart => exact ⟨0, by omega, rfl, rfl, rfl, Chg.refl _ _⟩
            case round =>
              obtain ⟨t, ht, rfl, rfl, rfl, cR⟩ := hrel
              have S4 := S3.chg0 cR
              by_cases htl : t < c
              · obtain ⟨y, hy⟩ : ∃ y, K[t]? = some y := ⟨_, List.getElem?_eq_getElem (by rw [← HKL.out]; exact htl)⟩
                obtain ⟨bl2, o2, rfl, hbl2, hcell2⟩ := HS.out (by omega)
                have e0 := (S4.bel.cell hbl2).trans (hcell2 t y hy).1
                have e1 := (S4.bel.cell hbl2).trans (hcell2 t y hy).2.1
                have e2 := (S4.bel.cell hbl2).trans (hcell2 t y hy).2.2.1
                have e3 := (S4.bel.cell hbl2).trans (hcell2 t y hy).2.2.2
                have hyK := List.mem_of_getElem? hy
                have hyok := HK.out y hyK
                have hi2 : (t : Int) < (c : Int) := by omega
                have cY := chg0_alloc wr (Obj.cells #[Value.int IntKind.i64 y.o, Value.int IntKind.i64 y.d, Value.int IntKind.i64 y.t, Value.int IntKind.i64 y.s] 28)
                have bY := Blk.new wr 28 #[Value.int IntKind.i64 y.o, Value.int IntKind.i64 y.d, Value.int IntKind.i64 y.t, Value.int IntKind.i64 y.s]
                have bA1 := bA.bel (S4.chg0 cY).bel lA
                have m0 := bA1.cell 0
                have m1 := bA1.cell 1
                simp at m0 m1
                obtain ⟨fy, hfy⟩ : ∃ fy, fy = frOf y n0 n1 := ⟨_, rfl⟩
                have F : ∀ W : World, Calls Try.prog 27 #[.agg #[.int .i64 y.o, .int .i64 y.d, .int .i64 y.t, .int .i64 y.s], .int .i64 n0, .int .i64 n1] W fun e w' => e = .returned (.bool fy) ∧ Chg (fun _ => False) W w' := fun W => by
                  rw [hfy]; exact fresh27 y.o y.d y.t y.s n0 n1 hyok.t N0.out W
                have HFR := Lib.hid F
                have HFY := Lib.hid hfy
                have HY := Lib.hid hy
                have HYK := Lib.hid hyK
                clear F hfy bA1 S4 hy hyK hyok
                have hts : thereB (frOf · n0 n1) K x (t + 1) = (thereB (frOf · n0 n1) K x t || (fy && decide (y = x))) := by rw [thereB_succ HY.out, HFY.out]
                have hso : someB (frOf · n0 n1) K (t + 1) = (someB (frOf · n0 n1) K t || fy) := by rw [someB_succ HY.out, HFY.out]
                have hxd : fy = true → x.d ≤ y.d := fun h => HMN.out y (List.mem_filter.2 ⟨HYK.out, by rw [← HFY.out, h]⟩)
                obtain ⟨th, hth⟩ : ∃ th, th = thereB (frOf · n0 n1) K x t := ⟨_, rfl⟩
                obtain ⟨so, hsq⟩ : ∃ so, so = someB (frOf · n0 n1) K t := ⟨_, rfl⟩
                rw [← hth] at hts
                rw [← hsq] at hso
                rw [← hth, ← hsq]
                have HTS := Lib.hid hts
                have HSO := Lib.hid hso
                clear hts hso hth hsq
                cases fy with
                | false =>
                  go_wp2_with fail
                  refine (HFR.out _).mono ?_
                  rintro e wF ⟨rfl, cF⟩
                  have cR2 := (cR.trans cY).trans cF
                  clear e0 e1 e2 e3 cR cY cF m0 m1 bY hxd
                  go_wp2_with fail
                  go_roundw
                  case rel => exact ⟨t + 1, by omega, by go_num, by rw [HTS.out]; simp, by rw [HSO.out]; simp, cR2⟩
                  case measure => simp [intOf]; omega
                | true =>
                  have hxd' : x.d ≤ y.d := hxd rfl
                  clear hxd
                  go_wp2_with fail
                  refine (HFR.out _).mono ?_
                  rintro e wF ⟨rfl, cF⟩
                  have cR2 := (cR.trans cY).trans cF
                  have bY2 := bY.chg cF (fun h => h)
                  have y0 := bY2.cell 0
                  have y1 := bY2.cell 1
                  have y2 := bY2.cell 2
                  have y3 := bY2.cell 3
                  have bX4 := bX.chg cR2 (fun h => h)
                  have x0 := bX4.cell 0
                  have x1 := bX4.cell 1
                  have x2 := bX4.cell 2
                  have x3 := bX4.cell 3
                  simp at y0 y1 y2 y3 x0 x1 x2 x3
                  clear e0 e1 e2 e3 cR cY cF m0 m1 bY bY2 bX4
                  cases th with
                  | true =>
                    go_wp2_with fail
                    go_roundw
                    case rel => exact ⟨t + 1, by omega, by go_num, by rw [HTS.out]; simp, by rw [HSO.out]; simp, cR2⟩
                    case measure => simp [intOf]; omega
                  | false =>
                    by_cases hyx : y = x
                    · subst hyx
                      go_wp2_with fail
                      go_roundw
                      case rel => exact ⟨t + 1, by omega, by go_num, by rw [HTS.out]; simp, by rw [HSO.out]; simp, cR2⟩
                      case measure => simp [intOf]; omega
                    · go_wp2_with fail
                      all_goals first
                        | (exfalso; apply hyx; clear HTS HSO cR2; cases x; cases y; simp_all; done)
                        | (go_roundw
                           case rel => exact ⟨t + 1, by omega, by go_num, by rw [HTS.out]; simp [hyx], by rw [HSO.out]; simp, cR2⟩
                           case measure => simp [intOf]; omega)
              · obtain rfl : t = c := by omega
                have hth : thereB (frOf · n0 n1) K x t = true := by rw [HKL.out]; exact thereB_all (List.mem_filter.1 HXM.out).1 (List.mem_filter.1 HXM.out).2
                have hso : someB (frOf · n0 n1) K t = true := by rw [HKL.out]; exact someB_all (List.mem_filter.1 HXM.out).1 (List.mem_filter.1 HXM.out).2
                rw [hth, hso]
                have hxok := HK.out x (List.mem_filter.1 HXM.out).1
                have HXO := Lib.hid hxok
                have cMM := @run_makeMap Try.prog
                have bX4 := bX.chg cR (fun h => h)
                have x0 := bX4.cell 0
                have x1 := bX4.cell 1
                have x2 := bX4.cell 2
                have x3 := bX4.cell 3
                simp at x0 x1 x2 x3
                have bA1 := (bA.bel S4.bel lA).alloc (Obj.map #[] 0)
                have m2 := bA1.cell 2
                simp at m2
                obtain ⟨X1, X2, r1, r2, r3, cX⟩ := twoMap n2 N2.out true wr
                simp only [if_true] at r3
                have HB5 := Lib.hid ((bel0 (Below.refl _ _) cA (Nat.le_refl _)).trans ((S4.chg0 cX).bel.mono cA.size))
                clear bX4 bA1 S3 S4 bX cX cR hth hso hxok
                go_wp2_with fail
                refine (now28 x.o x.d x.t x.s n2 HXO.out.o HXO.out.s N2.out _).mono ?_
                rintro e wG ⟨rfl, cG⟩
                have HB6 := Lib.hid (bel_chg0 HB5.out cG)
                clear HB5 cG r1 r2 r3 x0 x1 x2 x3 m2
                go_wp2_with fail
                go_ret
                exact ⟨rfl, HB6.out⟩
        · obtain ⟨a2, ha2⟩ : ∃ a2, a2 = a := ⟨_, rfl⟩
          obtain ⟨c, hcd⟩ : ∃ c, c = j := ⟨_, rfl⟩
          obtain ⟨cap2, hcap2⟩ : ∃ cap2, cap2 = cap := ⟨_, rfl⟩
          have hkl : c = K.length := by rw [HKE.out, lastN_len, ← HL.out]; omega
          have hc8 : c ≤ 8 := by omega
          have hc2 : c ≤ cap2 := by omega
          have hS : 0 < c → ∃ bl o2, a2 = some (⟨bl, o2, none⟩ : Addr) ∧ bl < wA.heap.size ∧ ∀ (t : Nat) (y : Sam), K[t]? = some y → wA.cell? ⟨bl, o2 + t * 4, none⟩ = some (.int .i64 y.o) ∧ wA.cell? ⟨bl, o2 + t * 4 + 1, none⟩ = some (.int .i64 y.d) ∧ wA.cell? ⟨bl, o2 + t * 4 + 2, none⟩ = some (.int .i64 y.t) ∧ wA.cell? ⟨bl, o2 + t * 4 + 3, none⟩ = some (.int .i64 y.s) := fun hp => by
            obtain ⟨bl, off, ha, hbw, hcell⟩ := HI.out.cell (by omega)
            refine ⟨bl, off, by rw [ha2, ha], by omega, fun t y hy => ?_⟩
            have hyy : (L.map samc)[t]? = some (samc y) := by
              rw [HKE.out, lastN_at (f := 0) (by rw [← HL.out]; omega), Nat.zero_add] at hy
              rw [List.getElem?_map, hy]; rfl
            have k0 := cA.keep (hcell t _ hyy 0 _ rfl) (fun h => h)
            have k1 := cA.keep (hcell t _ hyy 1 _ rfl) (fun h => h)
            have k2 := cA.keep (hcell t _ hyy 2 _ rfl) (fun h => h)
            have k3 := cA.keep (hcell t _ hyy 3 _ rfl) (fun h => h)
            simp only [List.length_cons, List.length_nil, Nat.zero_add, Nat.reduceAdd, Nat.add_zero] at k0 k1 k2 k3
            rw [← Nat.add_assoc] at k1 k2 k3
            exact ⟨k0, k1, k2, k3⟩
          have HC := Lib.hid hcd
          have HCAP := Lib.hid hcap2
          have HA2 := Lib.hid ha2
          have HS := Lib.hid hS
          have HKL := Lib.hid hkl
          clear hcd hcap2 ha2 hS hkl
          cases hb : bestOf (K.filter (frOf · n0 n1)) with
          | none =>
            have HB := Lib.hid hb
            clear hb
            simp only [bestRes]
            have S3 := S2.chg0 (chg0_alloc wB (Obj.cells #[Value.int IntKind.i64 0, Value.int IntKind.i64 0, Value.int IntKind.i64 0, Value.int IntKind.i64 0] 28))
            have bX := Blk.new wB 28 #[Value.int IntKind.i64 0, Value.int IntKind.i64 0, Value.int IntKind.i64 0, Value.int IntKind.i64 0]
            clear S2
            go_wp2_with fail
            rw [← HA2.out, ← HC.out, ← HCAP.out]
            generalize wB.alloc (Obj.cells #[Value.int IntKind.i64 0, Value.int IntKind.i64 0, Value.int IntKind.i64 0, Value.int IntKind.i64 0] 28) = W0 at *
            generalize wB.heap.size = iX at *
            have lX := bX.lt
            go_loopw [57, 11, 12] (fun i th so wr => LeastNone W0 c i th so wr) (fun i _ _ _ => c - (intOf i).toNat)
            case atStart => exact ⟨0, by omega, rfl, rfl, rfl, Chg.refl _ _⟩
            case round =>
              obtain ⟨t, ht, rfl, rfl, rfl, cR⟩ := hrel
              have S4 := S3.chg0 cR
              by_cases htl : t < c
              · obtain ⟨y, hy⟩ : ∃ y, K[t]? = some y := ⟨_, List.getElem?_eq_getElem (by rw [← HKL.out]; exact htl)⟩
                obtain ⟨bl2, o2, rfl, hbl2, hcell2⟩ := HS.out (by omega)
                have e0 := (S4.bel.cell hbl2).trans (hcell2 t y hy).1
                have e1 := (S4.bel.cell hbl2).trans (hcell2 t y hy).2.1
                have e2 := (S4.bel.cell hbl2).trans (hcell2 t y hy).2.2.1
                have e3 := (S4.bel.cell hbl2).trans (hcell2 t y hy).2.2.2
                have hyK := List.mem_of_getElem? hy
                have hyok := HK.out y hyK
                have hi2 : (t : Int) < (c : Int) := by omega
                have cY := chg0_alloc wr (Obj.cells #[Value.int IntKind.i64 y.o, Value.int IntKind.i64 y.d, Value.int IntKind.i64 y.t, Value.int IntKind.i64 y.s] 28)
                have bY := Blk.new wr 28 #[Value.int IntKind.i64 y.o, Value.int IntKind.i64 y.d, Value.int IntKind.i64 y.t, Value.int IntKind.i64 y.s]
                have bA1 := bA.bel (S4.chg0 cY).bel lA
                have m0 := bA1.cell 0
                have m1 := bA1.cell 1
                simp at m0 m1
                obtain ⟨fy, hfy⟩ : ∃ fy, fy = frOf y n0 n1 := ⟨_, rfl⟩
                have F : ∀ W : World, Calls Try.prog 27 #[.agg #[.int .i64 y.o, .int .i64 y.d, .int .i64 y.t, .int .i64 y.s], .int .i64 n0, .int .i64 n1] W fun e w' => e = .returned (.bool fy) ∧ Chg (fun _ => False) W w' := fun W => by
                  rw [hfy]; exact fresh27 y.o y.d y.t y.s n0 n1 hyok.t N0.out W
                have HFR := Lib.hid F
                have HFY := Lib.hid hfy
                have HY := Lib.hid hy
                have HYK := Lib.hid hyK
                clear F hfy bA1 S4 hy hyK hyok
                have hfz : fy = false := by
                  cases hfz : fy with
                  | false => rfl
                  | true =>
                    have : y ∈ K.filter (frOf · n0 n1) := List.mem_filter.2 ⟨HYK.out, by rw [← HFY.out, hfz]⟩
                    rw [bestOf_none HB.out] at this
                    simp at this
                subst hfz
                go_wp2_with fail
                refine (HFR.out _).mono ?_
                rintro e wF ⟨rfl, cF⟩
                have cR2 := (cR.trans cY).trans cF
                clear e0 e1 e2 e3 cR cY cF m0 m1 bY
                go_wp2_with fail
                go_roundw
                case rel => exact ⟨t + 1, by omega, by go_num, rfl, rfl, cR2⟩
                case measure => simp [intOf]; omega
              · obtain rfl : t = c := by omega
                have cMM := @run_makeMap Try.prog
                have bX4 := bX.chg cR (fun h => h)
                have x0 := bX4.cell 0
                have x1 := bX4.cell 1
                have x2 := bX4.cell 2
                have x3 := bX4.cell 3
                simp at x0 x1 x2 x3
                have bA1 := (bA.bel S4.bel lA).alloc (Obj.map #[] 0)
                have m2 := bA1.cell 2
                simp at m2
                obtain ⟨X1, X2, r1, r2, r3, cX⟩ := twoMap n2 N2.out false wr
                simp only [Bool.false_eq_true, if_false] at r3
                have HB5 := Lib.hid ((bel0 (Below.refl _ _) cA (Nat.le_refl _)).trans ((S4.chg0 cX).bel.mono cA.size))
                have N00 : In64 0 := ⟨by decide, by decide⟩
                have H00 := Lib.hid N00
                clear bX4 bA1 S3 S4 bX cX N00 cR
                go_wp2_with fail
                refine (now28 0 0 0 0 0 H00.out H00.out H00.out _).mono ?_
                rintro e wG ⟨rfl, cG⟩
                have HB6 := Lib.hid (bel_chg0 HB5.out cG)
                clear HB5 cG r1 r2 r3 x0 x1 x2 x3 m2
                have hz0 : nowOf ⟨0, 0, 0, 0⟩ 0 = 0 := rfl
                go_wp2_with fail
                go_ret
                exact ⟨rfl, HB6.out⟩
          | some x =>
            have HB := Lib.hid hb
            have hxm := bestOf_mem _ _ hb
            have hmn := bestOf_min hb
            have HXM := Lib.hid hxm
            have HMN := Lib.hid hmn
            clear hb hxm hmn
            simp only [bestRes]
            have S3 := S2.chg0 (chg0_alloc wB (Obj.cells #[Value.int IntKind.i64 x.o, Value.int IntKind.i64 x.d, Value.int IntKind.i64 x.t, Value.int IntKind.i64 x.s] 28))
            have bX := Blk.new wB 28 #[Value.int IntKind.i64 x.o, Value.int IntKind.i64 x.d, Value.int IntKind.i64 x.t, Value.int IntKind.i64 x.s]
            clear S2
            go_wp2_with fail
            rw [← HA2.out, ← HC.out, ← HCAP.out]
            generalize wB.alloc (Obj.cells #[Value.int IntKind.i64 x.o, Value.int IntKind.i64 x.d, Value.int IntKind.i64 x.t, Value.int IntKind.i64 x.s] 28) = W0 at *
            generalize wB.heap.size = iX at *
            have lX := bX.lt
            go_loopw [57, 11, 12] (fun i th so wr => LeastSome W0 (frOf · n0 n1) K x c i th so wr) (fun i _ _ _ => c - (intOf i).toNat)
            case atStart => exact ⟨0, by omega, rfl, rfl, rfl, Chg.refl _ _⟩
            case round =>
              obtain ⟨t, ht, rfl, rfl, rfl, cR⟩ := hrel
              have S4 := S3.chg0 cR
              by_cases htl : t < c
              · obtain ⟨y, hy⟩ : ∃ y, K[t]? = some y := ⟨_, List.getElem?_eq_getElem (by rw [← HKL.out]; exact htl)⟩
                obtain ⟨bl2, o2, rfl, hbl2, hcell2⟩ := HS.out (by omega)
                have e0 := (S4.bel.cell hbl2).trans (hcell2 t y hy).1
                have e1 := (S4.bel.cell hbl2).trans (hcell2 t y hy).2.1
                have e2 := (S4.bel.cell hbl2).trans (hcell2 t y hy).2.2.1
                have e3 := (S4.bel.cell hbl2).trans (hcell2 t y hy).2.2.2
                have hyK := List.mem_of_getElem? hy
                have hyok := HK.out y hyK
                have hi2 : (t : Int) < (c : Int) := by omega
                have cY := chg0_alloc wr (Obj.cells #[Value.int IntKind.i64 y.o, Value.int IntKind.i64 y.d, Value.int IntKind.i64 y.t, Value.int IntKind.i64 y.s] 28)
                have bY := Blk.new wr 28 #[Value.int IntKind.i64 y.o, Value.int IntKind.i64 y.d, Value.int IntKind.i64 y.t, Value.int IntKind.i64 y.s]
                have bA1 := bA.bel (S4.chg0 cY).bel lA
                have m0 := bA1.cell 0
                have m1 := bA1.cell 1
                simp at m0 m1
                obtain ⟨fy, hfy⟩ : ∃ fy, fy = frOf y n0 n1 := ⟨_, rfl⟩
                have F : ∀ W : World, Calls Try.prog 27 #[.agg #[.int .i64 y.o, .int .i64 y.d, .int .i64 y.t, .int .i64 y.s], .int .i64 n0, .int .i64 n1] W fun e w' => e = .returned (.bool fy) ∧ Chg (fun _ => False) W w' := fun W => by
                  rw [hfy]; exact fresh27 y.o y.d y.t y.s n0 n1 hyok.t N0.out W
                have HFR := Lib.hid F
                have HFY := Lib.hid hfy
                have HY := Lib.hid hy
                have HYK := Lib.hid hyK
                clear F hfy bA1 S4 hy hyK hyok
                have hts : thereB (frOf · n0 n1) K x (t + 1) = (thereB (frOf · n0 n1) K x t || (fy && decide (y = x))) := by rw [thereB_succ HY.out, HFY.out]
                have hso : someB (frOf · n0 n1) K (t + 1) = (someB (frOf · n0 n1) K t || fy) := by rw [someB_succ HY.out, HFY.out]
                have hxd : fy = true → x.d ≤ y.d := fun h => HMN.out y (List.mem_filter.2 ⟨HYK.out, by rw [← HFY.out, h]⟩)
                obtain ⟨th, hth⟩ : ∃ th, th = thereB (frOf · n0 n1) K x t := ⟨_, rfl⟩
                obtain ⟨so, hsq⟩ : ∃ so, so = someB (frOf · n0 n1) K t := ⟨_, rfl⟩
                rw [← hth] at hts
                rw [← hsq] at hso
                rw [← hth, ← hsq]
                have HTS := Lib.hid hts
                have HSO := Lib.hid hso
                clear hts hso hth hsq
                cases fy with
                | false =>
                  go_wp2_with fail
                  refine (HFR.out _).mono ?_
                  rintro e wF ⟨rfl, cF⟩
                  have cR2 := (cR.trans cY).trans cF
                  clear e0 e1 e2 e3 cR cY cF m0 m1 bY hxd
                  go_wp2_with fail
                  go_roundw
                  case rel => exact ⟨t + 1, by omega, by go_num, by rw [HTS.out]; simp, by rw [HSO.out]; simp, cR2⟩
                  case measure => simp [intOf]; omega
                | true =>
                  have hxd' : x.d ≤ y.d := hxd rfl
                  clear hxd
                  go_wp2_with fail
                  refine (HFR.out _).mono ?_
                  rintro e wF ⟨rfl, cF⟩
                  have cR2 := (cR.trans cY).trans cF
                  have bY2 := bY.chg cF (fun h => h)
                  have y0 := bY2.cell 0
                  have y1 := bY2.cell 1
                  have y2 := bY2.cell 2
                  have y3 := bY2.cell 3
                  have bX4 := bX.chg cR2 (fun h => h)
                  have x0 := bX4.cell 0
                  have x1 := bX4.cell 1
                  have x2 := bX4.cell 2
                  have x3 := bX4.cell 3
                  simp at y0 y1 y2 y3 x0 x1 x2 x3
                  clear e0 e1 e2 e3 cR cY cF m0 m1 bY bY2 bX4
                  cases th with
                  | true =>
                    go_wp2_with fail
                    go_roundw
                    case rel => exact ⟨t + 1, by omega, by go_num, by rw [HTS.out]; simp, by rw [HSO.out]; simp, cR2⟩
                    case measure => simp [intOf]; omega
                  | false =>
                    by_cases hyx : y = x
                    · subst hyx
                      go_wp2_with fail
                      go_roundw
                      case rel => exact ⟨t + 1, by omega, by go_num, by rw [HTS.out]; simp, by rw [HSO.out]; simp, cR2⟩
                      case measure => simp [intOf]; omega
                    · go_wp2_with fail
                      all_goals first
                        | (exfalso; apply hyx; clear HTS HSO cR2; cases x; cases y; simp_all; done)
                        | (go_roundw
                           case rel => exact ⟨t + 1, by omega, by go_num, by rw [HTS.out]; simp [hyx], by rw [HSO.out]; simp, cR2⟩
                           case measure => simp [intOf]; omega)
              · obtain rfl : t = c := by omega
                have hth : thereB (frOf · n0 n1) K x t = true := by rw [HKL.out]; exact thereB_all (List.mem_filter.1 HXM.out).1 (List.mem_filter.1 HXM.out).2
                have hso : someB (frOf · n0 n1) K t = true := by rw [HKL.out]; exact someB_all (List.mem_filter.1 HXM.out).1 (List.mem_filter.1 HXM.out).2
                rw [hth, hso]
                have hxok := HK.out x (List.mem_filter.1 HXM.out).1
                have HXO := Lib.hid hxok
                have cMM := @run_makeMap Try.prog
                have bX4 := bX.chg cR (fun h => h)
                have x0 := bX4.cell 0
                have x1 := bX4.cell 1
                have x2 := bX4.cell 2
                have x3 := bX4.cell 3
                simp at x0 x1 x2 x3
                have bA1 := (bA.bel S4.bel lA).alloc (Obj.map #[] 0)
                have m2 := bA1.cell 2
                simp at m2
                obtain ⟨X1, X2, r1, r2, r3, cX⟩ := twoMap n2 N2.out true wr
                simp only [if_true] at r3
                have HB5 := Lib.hid ((bel0 (Below.refl _ _) cA (Nat.le_refl _)).trans ((S4.chg0 cX).bel.mono cA.size))
                clear bX4 bA1 S3 S4 bX cX cR hth hso hxok
                go_wp2_with fail
                refine (now28 x.o x.d x.t x.s n2 HXO.out.o HXO.out.s N2.out _).mono ?_
                rintro e wG ⟨rfl, cG⟩
                have HB6 := Lib.hid (bel_chg0 HB5.out cG)
                clear HB5 cG r1 r2 r3 x0 x1 x2 x3 m2
                go_wp2_with fail
                go_ret
                exact ⟨rfl, HB6.out⟩
theorem freshLeast_all (a : Option Addr) (len cap : Nat) (els : List (List Value)) (cs : Array Value) (w : World) (hI : FlatIn [.int .i64, .int .i64, .int .i64, .int .i64] w a len cap els) (hc : okAll [.int .i64, .int .i64, .int .i64] cs.toList) :
    Calls Try.prog 4 #[.slice a len cap, .agg cs] w fun e w' => e = .returned (.bool true) ∧ Below w.heap.size w w' := by
  obtain ⟨x, y, z, rfl, hx, hy, hz⟩ := ok_three hc
  exact freshLeast_walk a len cap els x y z w hI hx hy hz
end Go.Proofs.Ytnfnonphccnbkaa
