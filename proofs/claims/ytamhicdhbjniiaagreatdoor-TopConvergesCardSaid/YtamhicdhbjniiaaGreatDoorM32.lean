/- Lists of lists of samples that come in; lists of stores; package quorum's Votes and Select: contracts. A daemon: what it is in plain words, and how it lies in memory. -/
import Derived.Test.YtamhicdhbjniiaaGreatDoorM31
import Derived.Test.YtamhicdhbjniiaaGreatDoorM19
import Derived.Test.YtamhicdhbjniiaaGreatDoorM22
import Derived.Test.YtamhicdhbjniiaaGreatDoorM13
import Derived.Test.YtamhicdhbjniiaaGreatDoorM09
set_option linter.unusedVariables false
set_option maxHeartbeats 1600000
set_option maxRecDepth 100000
section
namespace Go.Chron
open Go Go.RowKit
def voteOf (L : List Sam) (i : Nat) (h life sl : Int) : List Vt := match bestOf (L.filter (frOf · h life)) with | none => [] | some x => [⟨i, x, nowOf x sl⟩]
def selOf (Ls : List (List Sam)) (h life sl : Int) (j : Nat) : List Vt := (List.range j).flatMap fun i => voteOf (Ls.getD i []) i h life sl
theorem selOf_succ {Ls : List (List Sam)} {h life sl : Int} {j : Nat} {L : List Sam} (hL : Ls[j]? = some L) : selOf Ls h life sl (j + 1) = selOf Ls h life sl j ++ voteOf L j h life sl := by
 unfold selOf
 rw [List.range_succ, List.flatMap_append]
 simp [List.getD_eq_getElem?_getD, hL]
theorem voteOf_len (L : List Sam) (i : Nat) (h life sl : Int) : (voteOf L i h life sl).length ≤ 1 := by unfold voteOf; split <;> simp
theorem selOf_len (Ls : List (List Sam)) (h life sl : Int) : ∀ j, (selOf Ls h life sl j).length ≤ j := by
 intro j
 induction j with
 | zero => simp [selOf]
 | succ j ih =>
  unfold selOf at *
  rw [List.range_succ, List.flatMap_append, List.length_append]
  have := voteOf_len (Ls.getD j []) j h life sl
  simp only [List.flatMap_cons, List.flatMap_nil, List.append_nil]
  omega
end Go.Chron
namespace Go.Proofs.YtamhicdhbjniiaaGreatDoor
open Go.RowKit Go.Chron
def StAt (w : World) (v : Value) (L : List Sam) : Prop := (v = .pointer none ∧ L = []) ∨ ∃ s b g cnt, v = .pointer (some ⟨s, 0, none⟩) ∧ StoreAt w s b g cnt L
theorem StAt.chg0 {w w' : World} {v : Value} {L : List Sam} (h : StAt w v L) (c : Chg (fun _ => False) w w') : StAt w' v L := by
 rcases h with h | ⟨s, b, g, cnt, hv, h⟩
 ·exact .inl h
 ·exact .inr ⟨s, b, g, cnt, hv, h.chg0 c⟩
theorem stBest (v : Value) (L : List Sam) (hok : ∀ x ∈ L, x.Ok) (h life sl : Int) (hh : In64 h) (hsl : In64 sl) (w : World) (st : StAt w v L) :
  Calls Tryz.prog 188 #[v, .int .i64 h, .int .i64 life, .int .i64 sl] w fun e w' => e = .returned (bestRes (bestOf (L.filter (frOf · h life))) sl) ∧ Chg (fun _ => False) w w' := by
 rcases st with ⟨rfl, rfl⟩ | ⟨s, b, g, cnt, rfl, st⟩
 ·exact noneBest h life sl hh hsl w
 ·exact storeBest s b g cnt L hok h life sl hh hsl w st
structure StsAt (w : World) (P : List Value) (Ls : List (List Sam)) : Prop where
 len : P.length = Ls.length
 at_ : ∀ (i : Nat) v L, P[i]? = some v → Ls[i]? = some L → StAt w v L
 ok : ∀ L ∈ Ls, ∀ x ∈ L, x.Ok
theorem StsAt.chg0 {w w' : World} {P : List Value} {Ls : List (List Sam)} (h : StsAt w P Ls) (c : Chg (fun _ => False) w w') : StsAt w' P Ls := ⟨h.len, fun i v L h1 h2 => (h.at_ i v L h1 h2).chg0 c, h.ok⟩
def VSInv (w : World) (Ls : List (List Sam)) (h life sl : Int) (n : Nat) (i v : Value) (wr : World) : Prop :=
 ∃ (j : Nat) (g : Option Nat), j ≤ n ∧ i = .int .i64 j ∧ VotesAt w wr v g (selOf Ls h life sl j)
theorem votes160 (a : Option Addr) (n cap : Nat) (P : List Value) (Ls : List (List Sam)) (tm life sl : Int) (hh : In64 tm) (hsl : In64 sl) (w : World) (hn : n = P.length) (hcap : n ≤ cap) (hcm : cap ≤ 9223372036854775807) (hr : Reads w 1 a (P.map fun p => [p])) (hS : StsAt w P Ls) (hb : n ≤ 1000000) :
  Calls Tryz.prog 160 #[.slice a n cap, .int .i64 tm, .int .i64 life, .int .i64 sl] w fun e w' => ∃ v g, e = .returned v ∧ VotesAt w w' v g (selOf Ls tm life sl n) := by
 obtain ⟨i0, hi, hz0, hz1, hz2⟩ := info_parts info_vote
 have HR := Lib.hid hr
 have HN := Lib.hid hn
 have HS := Lib.hid hS
 have HH := Lib.hid hh
 have HSL := Lib.hid hsl
 clear hr hn hS hh hsl
 go_enter Tryz.func160, Tryz.ntmps160
 go_wp2_with fail
 go_step3
 go_wp2_with fail
 go_step3
 go_wp2_with fail
 go_loopw [17, 9] (fun i v wr => VSInv w Ls tm life sl n i v wr) (fun i _ _ => n - (intOf i).toNat)
 case atStart => exact ⟨0, none, by omega, rfl, ⟨Owns.nil _ _ _, by simp, Chg.refl _ _⟩⟩
 case round =>
  obtain ⟨j, g, hj, rfl, V⟩ := hrel
  by_cases hlt : j < n
  ·obtain ⟨p, hp⟩ : ∃ p, P[j]? = some p := ⟨_, List.getElem?_eq_getElem (by rw [← HN.out]; exact hlt)⟩
   obtain ⟨L, hL⟩ : ∃ L, Ls[j]? = some L := ⟨_, List.getElem?_eq_getElem (by rw [← HS.out.len, ← HN.out]; exact hlt)⟩
   obtain ⟨bl, off, rfl, hcell⟩ := HR.out (by rw [List.length_map, ← HN.out]; omega)
   have e0 := V.c.keep (hcell j [p] (by rw [List.getElem?_map, hp]; rfl) 0 _ rfl) (fun h => h)
   simp only [Nat.mul_one, Nat.add_zero] at e0
   have hjn : (j : Int) < (n : Int) := by omega
   have hvs := selOf_succ (h := tm) (life := life) (sl := sl) hL
   obtain ⟨A, hA⟩ : ∃ A, A = selOf Ls tm life sl j := ⟨_, rfl⟩
   have hAl6 : A.length ≤ 1000000 := by rw [hA]; have := selOf_len Ls tm life sl j; omega
   rw [← hA] at V hvs
   have hst := (HS.out.at_ j p L hp hL).chg0 V.c
   have hLok := HS.out.ok L (List.mem_of_getElem? hL)
   have HST := Lib.hid hst
   have HLOK := Lib.hid hLok
   have HVS := Lib.hid hvs
   clear hp hL hcell hvs hA hst hLok
   go_wp2_with fail
   refine (stBest p L HLOK.out tm life sl HH.out HSL.out _ HST.out).mono ?_
   rintro e wB ⟨rfl, cB⟩
   have V1 := V.chg0 cB
   clear V cB HST
   cases hb : bestOf (L.filter (frOf · tm life)) with
   | none =>
    have hv0 : voteOf L j tm life sl = [] := by unfold voteOf; rw [hb]
    have HV0 := Lib.hid hv0
    simp only [bestRes]
    have V2 := Lib.hid (V1.chg0 (chg0_alloc wB (Obj.cells #[Value.int IntKind.i64 0, Value.int IntKind.i64 0, Value.int IntKind.i64 0, Value.int IntKind.i64 0] 223)))
    clear hb hv0 V1 e0
    go_wp2_with fail
    go_roundw
    case rel => exact ⟨j + 1, g, by omega, by go_num, by rw [HVS.out, HV0.out, List.append_nil]; exact V2.out⟩
    case measure => simp [intOf]; omega
   | some x =>
    have hv0 : voteOf L j tm life sl = [⟨j, x, nowOf x sl⟩] := by unfold voteOf; rw [hb]
    have HV0 := Lib.hid hv0
    simp only [bestRes]
    obtain ⟨N, hN⟩ : ∃ N, N = nowOf x sl := ⟨_, rfl⟩
    rw [← hN] at hv0 ⊢
    have HV0 := Lib.hid hv0
    have V2 := (V1.chg0 (chg0_alloc wB (Obj.cells #[Value.int IntKind.i64 x.o, Value.int IntKind.i64 x.d, Value.int IntKind.i64 x.t, Value.int IntKind.i64 x.s] 223)))
    have hbX := Blk.new (wB.alloc (Obj.cells #[Value.int IntKind.i64 x.o, Value.int IntKind.i64 x.d, Value.int IntKind.i64 x.t, Value.int IntKind.i64 x.s] 223)) 248 #[Value.int IntKind.i64 (j : Int), Value.int IntKind.i64 x.o, Value.int IntKind.i64 x.d, Value.int IntKind.i64 x.t, Value.int IntKind.i64 x.s, Value.int IntKind.i64 N]
    have hsz : (wB.alloc (Obj.cells #[Value.int IntKind.i64 x.o, Value.int IntKind.i64 x.d, Value.int IntKind.i64 x.t, Value.int IntKind.i64 x.s] 223)).heap.size = wB.heap.size + 1 := by simp
    have V3 := V2.chg0 (chg0_alloc _ (Obj.cells #[Value.int IntKind.i64 (j : Int), Value.int IntKind.i64 x.o, Value.int IntKind.i64 x.d, Value.int IntKind.i64 x.t, Value.int IntKind.i64 x.s, Value.int IntKind.i64 N] 248))
    rw [hsz] at hbX
    clear hb hv0 V1 V2 e0 hN
    go_wp2_with (at_builtin; refine wpList_app (by rfl) (.tmp 33) (.tmp 38) 138 (by rfl) 248 i0 _ 6 48 Tryz.underlying138 hi hz0 hz1 hz2 rfl (by omega) _ _ _ (by rfl) V3.o _ 248 [votec ⟨j, x, N⟩] 1 1 (by rfl) (by rfl) hbX (by simp [votec]) (by intro u hu; simp only [List.flatten_cons, List.flatten_nil, List.append_nil] at hu; exact votec_one _ u hu) (by simp) (by simp; omega) (by simp [maxLen]; omega) ?_)
    intro k cap' w' ho hc hk
    have hk' : g = some k ∨ ((wB.alloc (Obj.cells #[Value.int IntKind.i64 x.o, Value.int IntKind.i64 x.d, Value.int IntKind.i64 x.t, Value.int IntKind.i64 x.s] 223)).alloc (Obj.cells #[Value.int IntKind.i64 (j : Int), Value.int IntKind.i64 x.o, Value.int IntKind.i64 x.d, Value.int IntKind.i64 x.t, Value.int IntKind.i64 x.s, Value.int IntKind.i64 N] 248)).heap.size ≤ k := by simpa using hk
    have ho' : Owns w' 248 6 (.slice (some ⟨k, 0, none⟩) (A.length + 1) cap') (some k) ((A ++ [(⟨j, x, N⟩ : Vt)]).map votec) := by rw [List.map_append]; exact ho
    have V4 := Lib.hid (V3.add ho' hc hk')
    clear V3 ho ho' hc hk hk' hbX hsz
    go_wp2_with fail
    go_roundw
    case rel => exact ⟨j + 1, some k, by omega, by go_num, by rw [HVS.out, HV0.out]; exact V4.out⟩
    case measure => simp [intOf]; omega
  ·obtain rfl : j = n := by omega
   have HV := Lib.hid V
   clear V
   go_wp2_with fail
   rw [Exit.noGoto_ret]
   go_ret
   exact ⟨_, g, rfl, HV.out⟩
theorem chOf_lt {q : Int} (h : q < 1) (l : List Int) : chOf q l = (0, 3) := by unfold chOf; rw [if_pos h]
theorem select44 (q : Int) (a : Option Addr) (n cap : Nat) (P : List Value) (Ls : List (List Sam)) (tm life sl : Int) (hh : In64 tm) (hsl : In64 sl) (w : World) (hn : n = P.length) (hcap : n ≤ cap) (hcm : cap ≤ 9223372036854775807) (hr : Reads w 1 a (P.map fun p => [p])) (hS : StsAt w P Ls) (hb : n ≤ 1000000) :
  Calls Tryz.prog 135 #[.int .i64 q, .slice a n cap, .int .i64 tm, .int .i64 life, .int .i64 sl] w fun e w' => ∃ v g,
   e = .returned (.tuple #[.int .i64 (chOf q ((selOf Ls tm life sl n).map (·.off))).1, v, .int .i64 (chOf q ((selOf Ls tm life sl n).map (·.off))).2]) ∧ VotesAt w w' v g (if q < 1 then [] else selOf Ls tm life sl n) := by
 by_cases hq : q < 1
 ·rw [chOf_lt hq, if_pos hq]
  clear hr hS
  go_enter Tryz.func135, Tryz.ntmps135
  go_wp2_with fail
  go_ret3
  exact ⟨_, none, rfl, ⟨Owns.nil _ _ _, by simp, Chg.refl _ _⟩⟩
 ·rw [if_neg hq]
  have HR := Lib.hid hr
  have HN := Lib.hid hn
  have HS := Lib.hid hS
  have HH := Lib.hid hh
  have HSL := Lib.hid hsl
  clear hr hn hS hh hsl
  obtain ⟨V, hV⟩ : ∃ V, V = selOf Ls tm life sl n := ⟨_, rfl⟩
  rw [← hV]
  have hVl : V.length ≤ 1000000 := by rw [hV]; have := selOf_len Ls tm life sl n; omega
  have HV := Lib.hid hV
  clear hV
  go_enter Tryz.func135, Tryz.ntmps135
  go_wp2_with fail
  refine (votes160 a n cap P Ls tm life sl HH.out HSL.out _ HN.out hcap hcm HR.out HS.out hb).mono ?_
  rintro e w1 ⟨v, g, rfl, V1⟩
  rw [← HV.out] at V1
  obtain ⟨a', cap', rfl, k1, k2, hR⟩ := V1.form (n := V.length) rfl
  have HVR := Lib.hid (show VRead w1 a' V.length (V.map (·.off)) from ⟨V, rfl, rfl, hR⟩)
  clear hR
  go_wp2_with fail
  refine (choose161' q a' V.length cap' (V.map (·.off)) _ k1 k2 HVR.out hVl).mono ?_
  rintro e w2 ⟨rfl, c2⟩
  have V2 := Lib.hid (V1.chg0 c2)
  clear V1 c2 HVR
  go_wp2_with fail
  go_ret3
  exact ⟨_, g, rfl, V2.out⟩
end Go.Proofs.YtamhicdhbjniiaaGreatDoor
end
namespace Go.Proofs.YtamhicdhbjniiaaGreatDoor
section
open Go Go.RowKit Go.Chron
structure Dm where
 cfg : Cfg
 clk : Clk
 ps : List Pr
 ss : List (List Sam)
 cnt : List Int
 draw : Int
 h : Int
 theta : Int
 votes : List Vt
 chosen : Int
def PB (pb : List (Nat × Nat)) (i : Nat) : Prop := ∃ x ∈ pb, i = x.1 ∨ i = x.2
structure PsAt (w : World) (pb : List (Nat × Nat)) (ps : List Pr) : Prop where
 len : pb.length = ps.length
 at_ : ∀ (i : Nat) x p, pb[i]? = some x → ps[i]? = some p → PeerAt w x.1 x.2 p
 dis : ∀ (i j : Nat) x y, pb[i]? = some x → pb[j]? = some y → i ≠ j → x.1 ≠ y.1 ∧ x.2 ≠ y.2
section
variable {S : Nat → Prop} {w w' : World} {pb : List (Nat × Nat)} {ps : List Pr}
theorem PsAt.chg (h : PsAt w pb ps) (c : Chg S w w') (hS : ∀ i, PB pb i → ¬ S i) : PsAt w' pb ps :=
 ⟨h.len, fun i x p hx hp => (h.at_ i x p hx hp).chg c (hS _ ⟨x, List.mem_of_getElem? hx, .inl rfl⟩) (hS _ ⟨x, List.mem_of_getElem? hx, .inr rfl⟩), h.dis⟩
theorem PsAt.chg0 (h : PsAt w pb ps) (c : Chg (fun _ => False) w w') : PsAt w' pb ps := h.chg c (fun _ _ h => h)
theorem PsAt.get (h : PsAt w pb ps) {i : Nat} (hi : i < ps.length) : ∃ x p, pb[i]? = some x ∧ ps[i]? = some p ∧ PeerAt w x.1 x.2 p := by
 have h1 : pb[i]? = some (pb[i]'(by rw [h.len]; exact hi)) := List.getElem?_eq_getElem _
 have h2 : ps[i]? = some ps[i] := List.getElem?_eq_getElem hi
 exact ⟨_, _, h1, h2, h.at_ i _ _ h1 h2⟩
theorem PsAt.typ (h : PsAt w pb ps) {i : Nat} (hi : PB pb i) : (∃ cs, Blk w i 218 cs) ∨ ∃ cs, Blk w i 275 cs := by
 obtain ⟨x, hx, he⟩ := hi
 obtain ⟨j, hj, hxj⟩ := List.getElem_of_mem hx
 have h1 : pb[j]? = some x := by rw [← hxj]; exact List.getElem?_eq_getElem hj
 have h2 : ps[j]? = some (ps[j]'(by rw [← h.len]; exact hj)) := List.getElem?_eq_getElem _
 have p := h.at_ j _ _ h1 h2
 rcases he with rfl | rfl
 ·exact .inl ⟨_, p.b⟩
 ·exact .inr ⟨_, p.k⟩
theorem PsAt.far (h : PsAt w pb ps) {g : Nat} {t : TypeId} {cs : Array Value} (hb : Blk w g t cs) (h1 : t ≠ 218) (h2 : t ≠ 275) : ¬ PB pb g := by
 intro hg
 rcases h.typ hg with ⟨_, h'⟩ | ⟨_, h'⟩
 ·exact h1 (blk_typ hb h')
 ·exact h2 (blk_typ hb h')
theorem PsAt.lt (h : PsAt w pb ps) {i : Nat} (hi : PB pb i) : i < w.heap.size := by
 rcases h.typ hi with ⟨_, h'⟩ | ⟨_, h'⟩
 ·exact h'.lt
 ·exact h'.lt
theorem PsAt.set (h : PsAt w pb ps) {i : Nat} {x : Nat × Nat} {p' : Pr} (hx : pb[i]? = some x) (hp : PeerAt w' x.1 x.2 p') (c : Chg (fun k => k = x.1 ∨ k = x.2) w w') : PsAt w' pb (ps.set i p') := by
 refine ⟨by rw [List.length_set]; exact h.len, fun j y p hy hq => ?_, h.dis⟩
 by_cases hij : i = j
 ·subst hij
  have hi : i < ps.length := by have := (List.getElem?_eq_some_iff.1 hy).1; rw [← h.len]; exact this
  rw [List.getElem?_set_self hi] at hq
  cases hq
  rw [hx] at hy
  cases hy
  exact hp
 ·rw [List.getElem?_set_ne hij] at hq
  have q := h.at_ j y p hy hq
  have hi : i < ps.length := by have := (List.getElem?_eq_some_iff.1 hx).1; rw [← h.len]; exact this
  have o := h.at_ i x _ hx (List.getElem?_eq_getElem hi)
  obtain ⟨d1, d2⟩ := h.dis i j x y hx hy hij
  refine q.chg c ?_ ?_
  ·rintro (e | e)
   ·exact d1 e.symm
   ·rw [e] at q; exact absurd (blk_typ q.b o.k) (by decide)
  ·rintro (e | e)
   ·rw [e] at q; exact absurd (blk_typ q.k o.b) (by decide)
   ·exact d2 e.symm
theorem PB.of {x : Nat × Nat} {i : Nat} (hx : pb[i]? = some x) : ∀ k, k = x.1 ∨ k = x.2 → PB pb k := fun k hk => ⟨x, List.mem_of_getElem? hx, hk⟩
end
structure SB where
 s : Nat
 b : Nat
 g : Option Nat
 cnt : Nat
def SBk (sb : List SB) (i : Nat) : Prop := ∃ x ∈ sb, i = x.s ∨ i = x.b ∨ x.g = some i
structure SsAt (N : Nat) (w : World) (sb : List SB) (ss : List (List Sam)) : Prop where
 len : sb.length = ss.length
 at_ : ∀ (i : Nat) x L, sb[i]? = some x → ss[i]? = some L → StoreAt w x.s x.b x.g x.cnt L ∧ x.cnt ≤ N
 dis : ∀ (i j : Nat) x y, sb[i]? = some x → sb[j]? = some y → i ≠ j → x.b ≠ y.b ∧ ∀ k, x.g = some k → y.g ≠ some k
 ok : ∀ L ∈ ss, ∀ x ∈ L, x.Ok
section
variable {S : Nat → Prop} {w w' : World} {sb : List SB} {ss : List (List Sam)} {N : Nat}
theorem SsAt.chg (h : SsAt N w sb ss) (c : Chg S w w') (hS : ∀ i, SBk sb i → ¬ S i) : SsAt N w' sb ss :=
 ⟨h.len, fun i x L hx hL => by
  obtain ⟨a, b⟩ := h.at_ i x L hx hL
  have m := List.mem_of_getElem? hx
  exact ⟨a.chg c (hS _ ⟨x, m, .inl rfl⟩) (hS _ ⟨x, m, .inr (.inl rfl)⟩) (fun k hk => hS _ ⟨x, m, .inr (.inr hk)⟩), b⟩, h.dis, h.ok⟩
theorem SsAt.chg0 (h : SsAt N w sb ss) (c : Chg (fun _ => False) w w') : SsAt N w' sb ss := h.chg c (fun _ _ h => h)
theorem SsAt.up (h : SsAt N w sb ss) {M : Nat} (hM : N ≤ M) : SsAt M w sb ss := ⟨h.len, fun i x L hx hL => ⟨(h.at_ i x L hx hL).1, Nat.le_trans (h.at_ i x L hx hL).2 hM⟩, h.dis, h.ok⟩
theorem SsAt.get (h : SsAt N w sb ss) {i : Nat} (hi : i < ss.length) : ∃ x L, sb[i]? = some x ∧ ss[i]? = some L ∧ StoreAt w x.s x.b x.g x.cnt L ∧ x.cnt ≤ N := by
 have h1 : sb[i]? = some (sb[i]'(by rw [h.len]; exact hi)) := List.getElem?_eq_getElem _
 have h2 : ss[i]? = some ss[i] := List.getElem?_eq_getElem hi
 exact ⟨_, _, h1, h2, h.at_ i _ _ h1 h2⟩
theorem StoreAt.gblk {s b cnt : Nat} {g : Option Nat} {L : List Sam} (h : StoreAt w s b g cnt L) {k : Nat} (hk : g = some k) : ∃ cs, Blk w k 223 cs := by
 obtain ⟨v, _, ho⟩ := h.ring.ex
 exact ho.blk hk
theorem StoreAt.bblk {s b cnt : Nat} {g : Option Nat} {L : List Sam} (h : StoreAt w s b g cnt L) : ∃ cs, Blk w b 278 cs := by
 obtain ⟨v, hb, _⟩ := h.ring.ex
 exact ⟨_, hb⟩
theorem SsAt.typ (h : SsAt N w sb ss) {i : Nat} (hi : SBk sb i) : (∃ cs, Blk w i 225 cs) ∨ (∃ cs, Blk w i 278 cs) ∨ ∃ cs, Blk w i 223 cs := by
 obtain ⟨x, hx, he⟩ := hi
 obtain ⟨j, hj, hxj⟩ := List.getElem_of_mem hx
 have h1 : sb[j]? = some x := by rw [← hxj]; exact List.getElem?_eq_getElem hj
 have h2 : ss[j]? = some (ss[j]'(by rw [← h.len]; exact hj)) := List.getElem?_eq_getElem _
 obtain ⟨p, _⟩ := h.at_ j _ _ h1 h2
 rcases he with rfl | rfl | hg
 ·exact .inl ⟨_, p.st⟩
 ·exact .inr (.inl p.bblk)
 ·exact .inr (.inr (p.gblk hg))
theorem SsAt.far (h : SsAt N w sb ss) {g : Nat} {t : TypeId} {cs : Array Value} (hb : Blk w g t cs) (h1 : t ≠ 225) (h2 : t ≠ 278) (h3 : t ≠ 223) : ¬ SBk sb g := by
 intro hg
 rcases h.typ hg with ⟨_, h'⟩ | ⟨_, h'⟩ | ⟨_, h'⟩
 ·exact h1 (blk_typ hb h')
 ·exact h2 (blk_typ hb h')
 ·exact h3 (blk_typ hb h')
theorem SsAt.lt (h : SsAt N w sb ss) {i : Nat} (hi : SBk sb i) : i < w.heap.size := by
 rcases h.typ hi with ⟨_, h'⟩ | ⟨_, h'⟩ | ⟨_, h'⟩
 ·exact h'.lt
 ·exact h'.lt
 ·exact h'.lt
theorem SsAt.set (h : SsAt N w sb ss) {i : Nat} {x : SB} {L : List Sam} {y : Sam} (hx : sb[i]? = some x) (hL : ss[i]? = some L) (hy : y.Ok) (ha : StoreAdded w x.s x.b x.g x.cnt L y w') :
  ∃ k, SsAt (N + 1) w' (sb.set i ⟨x.s, x.b, some k, x.cnt + 1⟩) (ss.set i (rpush 8 L y)) ∧ Chg (fun j => j = x.b ∨ x.g = some j) w w' ∧ (x.g = some k ∨ w.heap.size ≤ k) := by
 obtain ⟨k, hk, c, hg⟩ := ha
 refine ⟨k, ⟨by rw [List.length_set, List.length_set]; exact h.len, ?_, ?_, ?_⟩, c, hg⟩
 ·intro j z M hz hM
  have hi : i < sb.length := (List.getElem?_eq_some_iff.1 hx).1
  have hi2 : i < ss.length := (List.getElem?_eq_some_iff.1 hL).1
  obtain ⟨o, oc⟩ := h.at_ i x L hx hL
  by_cases hij : i = j
  ·subst hij
   rw [List.getElem?_set_self hi] at hz
   rw [List.getElem?_set_self hi2] at hM
   cases hz; cases hM
   exact ⟨hk, by show x.cnt + 1 ≤ N + 1; omega⟩
  ·rw [List.getElem?_set_ne hij] at hz hM
   obtain ⟨q, qc⟩ := h.at_ j z M hz hM
   obtain ⟨d1, d2⟩ := h.dis i j x z hx hz hij
   refine ⟨q.chg c ?_ ?_ ?_, by omega⟩
   ·rintro (e | e)
    ·obtain ⟨_, ob⟩ := o.bblk
     have qs := q.st
     rw [e] at qs; exact absurd (blk_typ qs ob) (by decide)
    ·obtain ⟨_, ob⟩ := o.gblk e
     exact absurd (blk_typ q.st ob) (by decide)
   ·rintro (e | e)
    ·exact d1 e.symm
    ·obtain ⟨_, ob⟩ := o.gblk e
     obtain ⟨_, qb⟩ := q.bblk
     exact absurd (blk_typ qb ob) (by decide)
   ·intro m hm
    rintro (e | e)
    ·obtain ⟨_, ob⟩ := o.bblk
     obtain ⟨_, qb⟩ := q.gblk hm
     rw [e] at qb; exact absurd (blk_typ qb ob) (by decide)
    ·exact d2 m e hm
 ·intro a b z u hz hu hab
  have hi : i < sb.length := (List.getElem?_eq_some_iff.1 hx).1
  have hn : ∀ (j : Nat) q, sb[j]? = some q → i ≠ j → q.g ≠ some k := by
   intro j q hq hij e
   rcases hg with hg | hg
   ·exact (h.dis i j x q hx hq hij).2 k hg e
   ·have hj : j < ss.length := by rw [← h.len]; exact (List.getElem?_eq_some_iff.1 hq).1
    obtain ⟨o, _⟩ := h.at_ j q _ hq (List.getElem?_eq_getElem hj)
    obtain ⟨_, ob⟩ := o.gblk e
    have := ob.lt
    omega
  by_cases hia : i = a
  ·subst hia
   rw [List.getElem?_set_self hi] at hz
   rw [List.getElem?_set_ne hab] at hu
   cases hz
   refine ⟨(h.dis i b x u hx hu hab).1, fun m hm => ?_⟩
   cases hm
   exact hn b u hu hab
  ·rw [List.getElem?_set_ne hia] at hz
   by_cases hib : i = b
   ·subst hib
    rw [List.getElem?_set_self hi] at hu
    cases hu
    refine ⟨(h.dis a i z x hz hx hab).1, fun m hm e => ?_⟩
    cases e
    exact hn a z hz (fun e => hab e.symm) hm
   ·rw [List.getElem?_set_ne hib] at hu
    exact h.dis a b z u hz hu hab
 ·intro M hM z hz
  rcases List.mem_or_eq_of_mem_set hM with h' | h'
  ·exact h.ok M h' z hz
  ·subst h'
   have hL' := h.ok L (List.mem_of_getElem? hL)
   unfold rpush at hz
   split at hz
   ·rcases List.mem_append.1 hz with h' | h'
    ·exact hL' z h'
    ·rw [List.mem_singleton.1 h']; exact hy
   ·rcases List.mem_append.1 hz with h' | h'
    ·exact hL' z (List.mem_of_mem_tail h')
    ·rw [List.mem_singleton.1 h']; exact hy
end
structure DB where
 kb : Nat
 qb : Nat
 qm : Nat
 qn : Nat
 cb : Nat
 av : Value
 pv : Value
 sv : Value
 vv : Value
 ag : Option Nat
 pg : Option Nat
 sg : Option Nat
 vg : Option Nat
 pb : List (Nat × Nat)
 sb : List SB
 Q : List (Ent Int)
def dmc (d : Dm) (B : DB) : Array Value := #[B.av, .int .i64 d.cfg.quorum, .int .i64 d.cfg.least, .int .i64 d.cfg.most, .int .i64 d.cfg.delay, .int .i64 d.cfg.slew, .pointer (some ⟨B.kb, 0, none⟩), B.pv, B.sv, .pointer (some ⟨B.qb, 0, none⟩), .pointer (some ⟨B.cb, 0, none⟩), .int .u64 d.draw, .int .i64 d.h, .int .i64 d.theta, B.vv, .int .i64 d.chosen]
structure Dm.Ok (N : Nat) (d : Dm) : Prop where
 cfg : d.cfg.Ok
 clk : d.clk.Ok
 lp : d.ps.length = d.cfg.servers.length
 ls : d.ss.length = d.cfg.servers.length
 lc : d.cnt.length = 13
 ct : ∀ z ∈ d.cnt, 0 ≤ z ∧ z ≤ (N : Int)
 hk : d.clk.h ≤ d.h
 h0 : 0 ≤ d.h ∧ d.h ≤ 4611686018427387903
 draw : 0 ≤ d.draw ∧ d.draw < 18446744073709551616
 theta : In64 d.theta
 ch : 0 ≤ d.chosen ∧ d.chosen ≤ (N : Int)
 vt : ∀ v ∈ d.votes, 0 ≤ v.srv ∧ v.srv < (d.cfg.servers.length : Int)
 vl : d.votes.length ≤ d.cfg.servers.length
structure DAt (N : Nat) (w : World) (b : Nat) (d : Dm) (B : DB) : Prop where
 box : Blk w b 140 (dmc d B)
 srv : Owns w 3 1 B.av B.ag (d.cfg.servers.map i64c)
 clk : Blk w B.kb 204 (clkc d.clk)
 psl : Owns w 141 1 B.pv B.pg (B.pb.map fun x => [.pointer (some ⟨x.1, 0, none⟩)])
 ps : PsAt w B.pb d.ps
 ssl : Owns w 144 1 B.sv B.sg (B.sb.map fun x => [.pointer (some ⟨x.s, 0, none⟩)])
 ss : SsAt N w B.sb d.ss
 q : QI w B.qb B.qm B.qn B.Q
 qn : 3 * B.qn ≤ 16 * (N + 3)
 qk : ∀ e ∈ B.Q, ∃ i : Nat, i < d.ps.length ∧ e.k = (i : Int)
 cnt : Blk w B.cb 211 (cntc d.cnt)
 vot : Owns w 248 6 B.vv B.vg (d.votes.map votec)
 ok : d.Ok N
def DBk (b : Nat) (B : DB) (i : Nat) : Prop := i = b ∨ i = B.kb ∨ i = B.qb ∨ i = B.qm ∨ i = B.cb ∨ B.ag = some i ∨ B.pg = some i ∨ B.sg = some i ∨ B.vg = some i ∨ PB B.pb i ∨ SBk B.sb i
theorem DAt.chg {N : Nat} {w w' : World} {b : Nat} {d : Dm} {B : DB} {S : Nat → Prop} (h : DAt N w b d B) (c : Chg S w w') (hS : ∀ i, DBk b B i → ¬ S i) : DAt N w' b d B := by
 obtain ⟨h1, h2, h3, h4, h5, h6, h7, h8, h9, h10, h11, h12, h13⟩ := h
 unfold DBk at hS
 exact ⟨h1.chg c (hS _ (by simp)), h2.chg c (fun k hk => hS _ (by simp [hk])), h3.chg c (hS _ (by simp)), h4.chg c (fun k hk => hS _ (by simp [hk])), h5.chg c (fun i hi => hS _ (by simp [hi])),
  h6.chg c (fun k hk => hS _ (by simp [hk])), h7.chg c (fun i hi => hS _ (by simp [hi])), h8.chg c (hS _ (by simp)) (hS _ (by simp)), h9, h10, h11.chg c (hS _ (by simp)), h12.chg c (fun k hk => hS _ (by simp [hk])), h13⟩
theorem DAt.chg0 {N : Nat} {w w' : World} {b : Nat} {d : Dm} {B : DB} (h : DAt N w b d B) (c : Chg (fun _ => False) w w') : DAt N w' b d B := h.chg c (fun _ _ h => h)
theorem DAt.lt {N : Nat} {w : World} {b : Nat} {d : Dm} {B : DB} (h : DAt N w b d B) {i : Nat} (hi : DBk b B i) : i < w.heap.size := by
 rcases hi with rfl | rfl | rfl | rfl | rfl | hi | hi | hi | hi | hi | hi
 ·exact h.box.lt
 ·exact h.clk.lt
 ·exact h.q.lt.1
 ·exact h.q.lt.2
 ·exact h.cnt.lt
 ·exact h.srv.lt _ hi
 ·exact h.psl.lt _ hi
 ·exact h.ssl.lt _ hi
 ·exact h.vot.lt _ hi
 ·exact h.ps.lt hi
 ·exact h.ss.lt hi
/-! What a daemon does. -/
def Dm.askP (d : Dm) (h dr : Int) (p : Pr) : Pr := if p.isDue h && decide (dr ≠ 0) then p.ask h (d.clk.run h).c dr else p
def Dm.askS (h dr : Int) (x : Int × Pr) : List (Int × List Int) := if x.2.isDue h && decide (dr ≠ 0) then [(x.1, bytes4 3 0 0 0 dr)] else []
def Dm.drawn (d : Dm) (draw : Int) : Int := if draw ≠ 0 then draw else d.draw
def Dm.tick (d : Dm) (h draw : Int) : Dm × List (Int × List Int) :=
 ({ d with draw := d.drawn draw, ps := (d.ps.map (·.late h)).map (d.askP h (d.drawn draw)) }, (d.cfg.servers.zip (d.ps.map (·.late h))).flatMap (Dm.askS h (d.drawn draw)))
def mapTo {α : Type} (f : α → α) (l : List α) (j : Nat) : List α := (l.take j).map f ++ l.drop j
theorem mapTo_zero {α : Type} (f : α → α) (l : List α) : mapTo f l 0 = l := by simp [mapTo]
theorem mapTo_all {α : Type} (f : α → α) (l : List α) : mapTo f l l.length = l.map f := by simp [mapTo]
theorem mapTo_len {α : Type} (f : α → α) (l : List α) (j : Nat) : (mapTo f l j).length = l.length := by unfold mapTo; rw [List.length_append, List.length_map, List.length_take, List.length_drop]; omega
theorem mapTo_get {α : Type} (f : α → α) (l : List α) (j : Nat) : (mapTo f l j)[j]? = l[j]? := by
 unfold mapTo
 by_cases hj : j < l.length
 ·rw [List.getElem?_append_right (by rw [List.length_map, List.length_take]; omega), List.length_map, List.length_take, Nat.min_eq_left (by omega), Nat.sub_self, List.getElem?_drop, Nat.add_zero]
 ·rw [List.getElem?_eq_none (by rw [List.length_append, List.length_map, List.length_take, List.length_drop]; omega), List.getElem?_eq_none (by omega)]
theorem mapTo_set {α : Type} (f : α → α) (l : List α) (j : Nat) {p : α} (hp : l[j]? = some p) : (mapTo f l j).set j (f p) = mapTo f l (j + 1) := by
 obtain ⟨hj, he⟩ := List.getElem?_eq_some_iff.1 hp
 have hd : l.drop j = p :: l.drop (j + 1) := by rw [List.drop_eq_getElem_cons hj, he]
 have hl : ((l.take j).map f).length = j := by rw [List.length_map, List.length_take]; omega
 unfold mapTo
 rw [List.set_append_right _ _ (by omega), hl, Nat.sub_self, hd, List.set_cons_zero, List.take_add_one, hp]
 simp
end
end Go.Proofs.YtamhicdhbjniiaaGreatDoor
