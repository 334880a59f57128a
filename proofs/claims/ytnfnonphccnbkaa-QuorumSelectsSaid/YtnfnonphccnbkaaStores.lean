/- Lists of lists of samples that come in; lists of stores; package quorum's Votes and Select: contracts. -/
import Derived.Test.YtnfnonphccnbkaaVote
import Derived.Test.YtnfnonphccnbkaaKeeps
set_option linter.unusedVariables false
namespace Go.Chron
open Go Go.RowKit
/-- One of the slices of samples. -/
structure Sl where
  a : Option Addr
  len : Nat
  cap : Nat
  L : List Sam
instance : Inhabited Sl := ⟨⟨none, 0, 0, []⟩⟩
def slv (t : Sl) : Value := .slice t.a t.len t.cap
def sh4 : List Shape := [.int .i64, .int .i64, .int .i64, .int .i64]
structure SlIn (w : World) (t : Sl) : Prop where
  f : FlatIn sh4 w t.a t.len t.cap (t.L.map samc)
  ok : ∀ x ∈ t.L, x.Ok
/-- A slice of slices of samples that came in. -/
structure NestIn (w : World) (a : Option Addr) (n cap : Nat) (S : List Sl) : Prop where
  lenE : n = S.length
  nilE : a = none → n = 0 ∧ cap = 0
  leE : n ≤ cap
  capE : cap ≤ 9223372036854775807
  reads : Reads w 1 a (S.map fun t => [slv t])
  each : ∀ t ∈ S, SlIn w t
section
variable {H : Type} {enc : TypeId × Value → H} {P : Program} {w : World} {base : Nat} {spare : Nat → Bool} {held : Bool}
open Go.ChangeShapes Go.WideShapes Go.Deep
theorem nest_in {t e e2 : TypeId} (ht : P.underlying t = some (.slice e)) (he : P.underlying e = some (.slice e2)) (hf : flatList P e2 = some sh4) (h1 : P.cellsOf e = 1) (hpos2 : 0 < P.cellsOf e2) {a : Option Addr} {len cap : Nat} {fuel : Nat} {x : DataW H × List MemPlace}
    (h : DataW.trod enc P w base spare held fuel t [.slice a len cap] = some x) : ∃ S, NestIn w a len cap S := by
  rcases open_slice ht h with ⟨h0, _⟩ | ⟨ad, len', cap', m, n, D, Pl, hcs, hb, hl, hm, hmm, _, hx⟩
  · simp at h0
    obtain ⟨rfl, rfl, rfl⟩ := h0
    exact ⟨[], ⟨rfl, fun _ => ⟨rfl, rfl⟩, Nat.le_refl _, by omega, fun h => by simp at h, by simp⟩⟩
  · simp at hcs
    obtain ⟨rfl, rfl, rfl⟩ := hcs
    have hlm : len ≤ m := by rw [hmm]; split <;> omega
    have each : ∀ i, i < len → ∃ t : Sl, w.cell? (ad.add i) = some (slv t) ∧ SlIn w t := fun i hi => by
      obtain ⟨cs', hc1, hc2⟩ := hx i (by omega)
      obtain ⟨_, hlen, hc⟩ := World.cells?_some hc1
      rw [h1] at hlen
      have hc0 : w.cell? (ad.add i) = cs'[0]? := by
        have := hc 0 (by rw [h1]; omega)
        rw [h1, Nat.mul_one] at this
        rw [← this]
        simp [Addr.add]
      have key : ∃ a' len' cap', cs' = [.slice a' len' cap'] := by
        rcases open_slice he hc2 with ⟨h0, _⟩ | ⟨ad', len', cap', _, _, _, _, hcs', _⟩
        · exact ⟨none, 0, 0, h0⟩
        · exact ⟨some ad', len', cap', hcs'⟩
      obtain ⟨a', len', cap', rfl⟩ := key
      obtain ⟨els, hF⟩ := flat_in he hf hpos2 hc2
      obtain ⟨L, rfl, hok⟩ := sams_in hF.ok
      exact ⟨⟨a', len', cap', L⟩, hc0, ⟨hF, hok⟩⟩
    obtain ⟨F, hF⟩ := choose_lt (α := Sl) (n := len) (p := fun i t => w.cell? (ad.add i) = some (slv t) ∧ SlIn w t) each
    have hspot : 0 < len → ad.spot = none := fun hp => by
      have := World.cell?_spot (hF 0 hp).1
      obtain ⟨b, off, spot⟩ := ad
      simpa [Addr.add] using this
    refine ⟨(List.range len).map F, ⟨by simp, by simp, hl, by simpa [maxLen] using hm, fun hp => ?_, fun t ht' => ?_⟩⟩
    · obtain ⟨b, off, spot⟩ := ad
      have hs := hspot (by simpa using hp)
      simp at hs
      subst hs
      refine ⟨b, off, rfl, fun i y hy j u hu => ?_⟩
      rw [List.getElem?_map] at hy
      obtain ⟨t', ht', rfl⟩ := Option.map_eq_some_iff.1 hy
      rw [List.getElem?_map] at ht'
      obtain ⟨i', hi', rfl⟩ := Option.map_eq_some_iff.1 ht'
      obtain ⟨hlt, hi''⟩ := List.getElem?_eq_some_iff.1 hi'
      simp at hi'' hlt
      subst hi''
      have hj : j = 0 := by
        cases j with
        | zero => rfl
        | succ j => simp at hu
      subst hj
      simp at hu
      subst hu
      have := (hF i hlt).1
      rw [Addr.add_lit] at this
      rw [Nat.mul_one, Nat.add_zero]
      exact this
    · obtain ⟨i, hi, rfl⟩ := List.mem_map.1 ht'
      exact (hF i (by simpa using hi)).2
end
theorem SlIn.keep {w w' : World} {t : Sl} (h : SlIn w t) (c : Chg (fun _ => False) w w') : Reads w' 4 t.a (t.L.map samc) := h.f.reads.chg c (fun _ _ h => h)
end Go.Chron

namespace Go.Chron
open Go Go.RowKit
/-- The vote of one server, if there is one. -/
def voteOf (L : List Sam) (i : Nat) (h life sl : Int) : List Vt := match bestOf (L.filter (frOf · h life)) with | none => [] | some x => [⟨i, x, nowOf x sl⟩]
/-- The votes of the first j servers. -/
def selOf (Ls : List (List Sam)) (h life sl : Int) (j : Nat) : List Vt := (List.range j).flatMap fun i => voteOf (Ls.getD i []) i h life sl
theorem selOf_succ {Ls : List (List Sam)} {h life sl : Int} {j : Nat} {L : List Sam} (hL : Ls[j]? = some L) : selOf Ls h life sl (j + 1) = selOf Ls h life sl j ++ voteOf L j h life sl := by
  unfold selOf
  rw [List.range_succ, List.flatMap_append]
  simp [List.getD_eq_getElem?_getD, hL]
theorem voteOf_len (L : List Sam) (i : Nat) (h life sl : Int) : (voteOf L i h life sl).length ≤ 1 := by unfold voteOf; split <;> simp
theorem selOf_len (Ls : List (List Sam)) (h life sl : Int) : ∀ j, (selOf Ls h life sl j).length ≤ j := by
  intro j
  induction j with
  | zero => simp [selOf]
  | succ j ih =>
    unfold selOf at *
    rw [List.range_succ, List.flatMap_append, List.length_append]
    have := voteOf_len (Ls.getD j []) j h life sl
    simp only [List.flatMap_cons, List.flatMap_nil, List.append_nil]
    omega
end Go.Chron
namespace Go.Proofs.Ytnfnonphccnbkaa
open Go.RowKit Go.Chron
/-- A pointer to a store that holds these samples; or none, and none. -/
def StAt (w : World) (v : Value) (L : List Sam) : Prop := (v = .pointer none ∧ L = []) ∨ ∃ s b g cnt, v = .pointer (some ⟨s, 0, none⟩) ∧ StoreAt w s b g cnt L
theorem StAt.chg0 {w w' : World} {v : Value} {L : List Sam} (h : StAt w v L) (c : Chg (fun _ => False) w w') : StAt w' v L := by
  rcases h with h | ⟨s, b, g, cnt, hv, h⟩
  · exact .inl h
  · exact .inr ⟨s, b, g, cnt, hv, h.chg0 c⟩
theorem stBest (v : Value) (L : List Sam) (hok : ∀ x ∈ L, x.Ok) (h life sl : Int) (hh : In64 h) (hsl : In64 sl) (w : World) (st : StAt w v L) :
    Calls Try.prog 23 #[v, .int .i64 h, .int .i64 life, .int .i64 sl] w fun e w' => e = .returned (bestRes (bestOf (L.filter (frOf · h life))) sl) ∧ Chg (fun _ => False) w w' := by
  rcases st with ⟨rfl, rfl⟩ | ⟨s, b, g, cnt, rfl, st⟩
  · exact noneBest h life sl hh hsl w
  · exact storeBest s b g cnt L hok h life sl hh hsl w st
/-- Pointers to stores that hold these lists. -/
structure StsAt (w : World) (P : List Value) (Ls : List (List Sam)) : Prop where
  len : P.length = Ls.length
  at_ : ∀ (i : Nat) v L, P[i]? = some v → Ls[i]? = some L → StAt w v L
  ok : ∀ L ∈ Ls, ∀ x ∈ L, x.Ok
theorem StsAt.chg0 {w w' : World} {P : List Value} {Ls : List (List Sam)} (h : StsAt w P Ls) (c : Chg (fun _ => False) w w') : StsAt w' P Ls := ⟨h.len, fun i v L h1 h2 => (h.at_ i v L h1 h2).chg0 c, h.ok⟩

def VSInv (w : World) (Ls : List (List Sam)) (h life sl : Int) (n : Nat) (i v : Value) (wr : World) : Prop :=
  ∃ (j : Nat) (g : Option Nat), j ≤ n ∧ i = .int .i64 j ∧ VotesAt w wr v g (selOf Ls h life sl j)

set_option maxRecDepth 100000 in
set_option maxHeartbeats 1600000 in
theorem votes46 (a : Option Addr) (n cap : Nat) (P : List Value) (Ls : List (List Sam)) (tm life sl : Int) (hh : In64 tm) (hsl : In64 sl) (w : World) (hn : n = P.length) (hcap : n ≤ cap) (hcm : cap ≤ 9223372036854775807) (hr : Reads w 1 a (P.map fun p => [p])) (hS : StsAt w P Ls) (hb : n ≤ 1000000) :
    Calls Try.prog 46 #[.slice a n cap, .int .i64 tm, .int .i64 life, .int .i64 sl] w fun e w' => ∃ v g, e = .returned v ∧ VotesAt w w' v g (selOf Ls tm life sl n) := by
  obtain ⟨i0, hi, hz0, hz1, hz2⟩ := info_parts info_vote
  have HR := Lib.hid hr
  have HN := Lib.hid hn
  have HS := Lib.hid hS
  have HH := Lib.hid hh
  have HSL := Lib.hid hsl
  clear hr hn hS hh hsl
  go_enter Try.func46, Try.ntmps46
  go_wp2_with fail
  go_step3
  go_wp2_with fail
  go_step3
  go_wp2_with fail
  go_loopw [17, 9] (fun i v wr => VSInv w Ls tm life sl n i v wr) (fun i _ _ => n - (intOf i).toNat)
  case atStart => exact ⟨0, none, by omega, rfl, ⟨Owns.nil _ _ _, by simp, Chg.refl _ _⟩⟩
  case round =>
    obtain ⟨j, g, hj, rfl, V⟩ := hrel
    by_cases hlt : j < n
    · obtain ⟨p, hp⟩ : ∃ p, P[j]? = some p := ⟨_, List.getElem?_eq_getElem (by rw [← HN.out]; exact hlt)⟩
      obtain ⟨L, hL⟩ : ∃ L, Ls[j]? = some L := ⟨_, List.getElem?_eq_getElem (by rw [← HS.out.len, ← HN.out]; exact hlt)⟩
      obtain ⟨bl, off, rfl, hcell⟩ := HR.out (by rw [List.length_map, ← HN.out]; omega)
      have e0 := V.c.keep (hcell j [p] (by rw [List.getElem?_map, hp]; rfl) 0 _ rfl) (fun h => h)
      simp only [Nat.mul_one, Nat.add_zero] at e0
      have hjn : (j : Int) < (n : Int) := by omega
      have hvs := selOf_succ (h := tm) (life := life) (sl := sl) hL
      obtain ⟨A, hA⟩ : ∃ A, A = selOf Ls tm life sl j := ⟨_, rfl⟩
      have hAl6 : A.length ≤ 1000000 := by rw [hA]; have := selOf_len Ls tm life sl j; omega
      rw [← hA] at V hvs
      have hst := (HS.out.at_ j p L hp hL).chg0 V.c
      have hLok := HS.out.ok L (List.mem_of_getElem? hL)
      have HST := Lib.hid hst
      have HLOK := Lib.hid hLok
      have HVS := Lib.hid hvs
      clear hp hL hcell hvs hA hst hLok
      go_wp2_with fail
      refine (stBest p L HLOK.out tm life sl HH.out HSL.out _ HST.out).mono ?_
      rintro e wB ⟨rfl, cB⟩
      have V1 := V.chg0 cB
      clear V cB HST
      cases hb : bestOf (L.filter (frOf · tm life)) with
      | none =>
        have hv0 : voteOf L j tm life sl = [] := by unfold voteOf; rw [hb]
        have HV0 := Lib.hid hv0
        simp only [bestRes]
        have V2 := Lib.hid (V1.chg0 (chg0_alloc wB (Obj.cells #[Value.int IntKind.i64 0, Value.int IntKind.i64 0, Value.int IntKind.i64 0, Value.int IntKind.i64 0] 28)))
        clear hb hv0 V1 e0
        go_wp2_with fail
        go_roundw
        case rel => exact ⟨j + 1, g, by omega, by go_num, by rw [HVS.out, HV0.out, List.append_nil]; exact V2.out⟩
        case measure => simp [intOf]; omega
      | some x =>
        have hv0 : voteOf L j tm life sl = [⟨j, x, nowOf x sl⟩] := by unfold voteOf; rw [hb]
        have HV0 := Lib.hid hv0
        simp only [bestRes]
        obtain ⟨N, hN⟩ : ∃ N, N = nowOf x sl := ⟨_, rfl⟩
        rw [← hN] at hv0 ⊢
        have HV0 := Lib.hid hv0
        have V2 := (V1.chg0 (chg0_alloc wB (Obj.cells #[Value.int IntKind.i64 x.o, Value.int IntKind.i64 x.d, Value.int IntKind.i64 x.t, Value.int IntKind.i64 x.s] 28)))
        have hbX := Blk.new (wB.alloc (Obj.cells #[Value.int IntKind.i64 x.o, Value.int IntKind.i64 x.d, Value.int IntKind.i64 x.t, Value.int IntKind.i64 x.s] 28)) 87 #[Value.int IntKind.i64 (j : Int), Value.int IntKind.i64 x.o, Value.int IntKind.i64 x.d, Value.int IntKind.i64 x.t, Value.int IntKind.i64 x.s, Value.int IntKind.i64 N]
        have hsz : (wB.alloc (Obj.cells #[Value.int IntKind.i64 x.o, Value.int IntKind.i64 x.d, Value.int IntKind.i64 x.t, Value.int IntKind.i64 x.s] 28)).heap.size = wB.heap.size + 1 := by simp
        have V3 := V2.chg0 (chg0_alloc _ (Obj.cells #[Value.int IntKind.i64 (j : Int), Value.int IntKind.i64 x.o, Value.int IntKind.i64 x.d, Value.int IntKind.i64 x.t, Value.int IntKind.i64 x.s, Value.int IntKind.i64 N] 87))
        rw [hsz] at hbX
        clear hb hv0 V1 V2 e0 hN
        go_wp2_with (at_builtin; refine wpList_app (by rfl) (.tmp 33) (.tmp 38) 56 (by rfl) 87 i0 _ 6 48 Try.underlying56 hi hz0 hz1 hz2 rfl (by omega) _ _ _ (by rfl) V3.o _ 87 [votec ⟨j, x, N⟩] 1 1 (by rfl) (by rfl) hbX (by simp [votec]) (by intro u hu; simp only [List.flatten_cons, List.flatten_nil, List.append_nil] at hu; exact votec_one _ u hu) (by simp) (by simp; omega) (by simp [maxLen]; omega) ?_)
        intro k cap' w' ho hc hk
        have hk' : g = some k ∨ ((wB.alloc (Obj.cells #[Value.int IntKind.i64 x.o, Value.int IntKind.i64 x.d, Value.int IntKind.i64 x.t, Value.int IntKind.i64 x.s] 28)).alloc (Obj.cells #[Value.int IntKind.i64 (j : Int), Value.int IntKind.i64 x.o, Value.int IntKind.i64 x.d, Value.int IntKind.i64 x.t, Value.int IntKind.i64 x.s, Value.int IntKind.i64 N] 87)).heap.size ≤ k := by simpa using hk
        have ho' : Owns w' 87 6 (.slice (some ⟨k, 0, none⟩) (A.length + 1) cap') (some k) ((A ++ [(⟨j, x, N⟩ : Vt)]).map votec) := by rw [List.map_append]; exact ho
        have V4 := Lib.hid (V3.add ho' hc hk')
        clear V3 ho ho' hc hk hk' hbX hsz
        go_wp2_with fail
        go_roundw
        case rel => exact ⟨j + 1, some k, by omega, by go_num, by rw [HVS.out, HV0.out]; exact V4.out⟩
        case measure => simp [intOf]; omega
    · obtain rfl : j = n := by omega
      have HV := Lib.hid V
      clear V
      go_wp2_with fail
      rw [Exit.noGoto_ret]
      go_ret
      exact ⟨_, g, rfl, HV.out⟩
theorem chOf_lt {q : Int} (h : q < 1) (l : List Int) : chOf q l = (0, 3) := by unfold chOf; rw [if_pos h]

set_option maxRecDepth 100000 in
set_option maxHeartbeats 800000 in
theorem select44 (q : Int) (a : Option Addr) (n cap : Nat) (P : List Value) (Ls : List (List Sam)) (tm life sl : Int) (hh : In64 tm) (hsl : In64 sl) (w : World) (hn : n = P.length) (hcap : n ≤ cap) (hcm : cap ≤ 9223372036854775807) (hr : Reads w 1 a (P.map fun p => [p])) (hS : StsAt w P Ls) (hb : n ≤ 1000000) :
    Calls Try.prog 44 #[.int .i64 q, .slice a n cap, .int .i64 tm, .int .i64 life, .int .i64 sl] w fun e w' => ∃ v g,
      e = .returned (.tuple #[.int .i64 (chOf q ((selOf Ls tm life sl n).map (·.off))).1, v, .int .i64 (chOf q ((selOf Ls tm life sl n).map (·.off))).2]) ∧ VotesAt w w' v g (if q < 1 then [] else selOf Ls tm life sl n) := by
  by_cases hq : q < 1
  · rw [chOf_lt hq, if_pos hq]
    clear hr hS
    go_enter Try.func44, Try.ntmps44
    go_wp2_with fail
    go_ret3
    exact ⟨_, none, rfl, ⟨Owns.nil _ _ _, by simp, Chg.refl _ _⟩⟩
  · rw [if_neg hq]
    have HR := Lib.hid hr
    have HN := Lib.hid hn
    have HS := Lib.hid hS
    have HH := Lib.hid hh
    have HSL := Lib.hid hsl
    clear hr hn hS hh hsl
    obtain ⟨V, hV⟩ : ∃ V, V = selOf Ls tm life sl n := ⟨_, rfl⟩
    rw [← hV]
    have hVl : V.length ≤ 1000000 := by rw [hV]; have := selOf_len Ls tm life sl n; omega
    have HV := Lib.hid hV
    clear hV
    go_enter Try.func44, Try.ntmps44
    go_wp2_with fail
    refine (votes46 a n cap P Ls tm life sl HH.out HSL.out _ HN.out hcap hcm HR.out HS.out hb).mono ?_
    rintro e w1 ⟨v, g, rfl, V1⟩
    rw [← HV.out] at V1
    obtain ⟨a', cap', rfl, k1, k2, hR⟩ := V1.form (n := V.length) rfl
    have HVR := Lib.hid (show VRead w1 a' V.length (V.map (·.off)) from ⟨V, rfl, rfl, hR⟩)
    clear hR
    go_wp2_with fail
    refine (choose34' q a' V.length cap' (V.map (·.off)) _ k1 k2 HVR.out hVl).mono ?_
    rintro e w2 ⟨rfl, c2⟩
    have V2 := Lib.hid (V1.chg0 c2)
    clear V1 c2 HVR
    go_wp2_with fail
    go_ret3
    exact ⟨_, g, rfl, V2.out⟩
end Go.Proofs.Ytnfnonphccnbkaa
