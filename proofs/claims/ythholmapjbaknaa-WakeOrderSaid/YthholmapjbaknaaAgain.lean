/- WakeAgain: a key that is set anew is due but once; in whatever order keys are set, the same are due: the walk. -/
import Derived.Test.YthholmapjbaknaaTwo
set_option linter.unusedVariables false
set_option linter.unusedSectionVars false
namespace Go.Chron
open Go Go.RowKit
/-! ### The plain law -/
abbrev IEnt := Ent Int
/-- The numbers y at which a key of L lies. -/
def keyed (L : List IEnt) (y : Int) : Prop := ∃ e ∈ L, e.k = y
theorem keyed_set {L : List IEnt} {x d s y : Int} : keyed (setL L x d s) y ↔ keyed L y ∨ y = x := by
  unfold keyed
  constructor
  · rintro ⟨e, he, rfl⟩
    rcases mem_setL.1 he with ⟨h1, _⟩ | rfl
    · exact .inl ⟨e, h1, rfl⟩
    · exact .inr rfl
  · rintro (⟨e, he, rfl⟩ | rfl)
    · by_cases h : e.k = x
      · exact ⟨⟨x, d, s⟩, mem_setL.2 (.inr rfl), h.symm⟩
      · exact ⟨e, mem_setL.2 (.inl ⟨he, h⟩), rfl⟩
    · exact ⟨_, mem_setL.2 (.inr rfl), rfl⟩
theorem nodup_keys {L : List IEnt} (h : L.Pairwise (fun a b => a.k ≠ b.k)) : (L.map (·.k)).Nodup := List.pairwise_map.2 h
theorem keyed_len {L M : List IEnt} (hL : L.Pairwise (fun a b => a.k ≠ b.k)) (hM : M.Pairwise (fun a b => a.k ≠ b.k)) (h : ∀ y, keyed L y ↔ keyed M y) : L.length = M.length := by
  have hp : (L.map (·.k)).Perm (M.map (·.k)) := (List.perm_ext_iff_of_nodup (nodup_keys hL) (nodup_keys hM)).2 (fun y => by
    have := h y
    unfold keyed at this
    simpa using this)
  simpa using hp.length_eq
def bare (e : IEnt) : IEnt := ⟨e.k, e.k, 0⟩
theorem due_keys {L M R S : List IEnt} {h : Int} (hL : L.Pairwise (fun a b => a.k ≠ b.k)) (hM : M.Pairwise (fun a b => a.k ≠ b.k)) (dL : ∀ e ∈ L, e.d = e.k) (dM : ∀ e ∈ M, e.d = e.k) (hk : ∀ y, keyed L y ↔ keyed M y)
    (a : IsDue L h R) (b : IsDue M h S) : R.map (·.k) = S.map (·.k) ∧ ∀ y ∈ R.map (·.k), y ≤ h := by
  have aux : ∀ {L R : List IEnt}, L.Pairwise (fun a b => a.k ≠ b.k) → (∀ e ∈ L, e.d = e.k) → IsDue L h R → (R.map bare).Pairwise dueLt ∧ ∀ y, (∃ e ∈ R, e.k = y) ↔ keyed L y ∧ y ≤ h := by
    intro L R hL dL a
    have hn : R.Pairwise (fun a b => a.k ≠ b.k) := (a.perm.symm.pairwise_iff (fun h e => h e.symm)).1 (hL.filter _)
    refine ⟨List.pairwise_map.2 ((a.sorted.and hn).imp_of_mem ?_), fun y => ⟨?_, ?_⟩⟩
    · intro x y hx hy ⟨h1, h2⟩
      have e1 := dL x (a.mem.1 hx).1
      have e2 := dL y (a.mem.1 hy).1
      left
      show x.k < y.k
      rcases h1 with h1 | ⟨h1, _⟩
      · omega
      · exact absurd (by omega) h2
    · rintro ⟨e, he, rfl⟩
      obtain ⟨h1, h2⟩ := a.mem.1 he
      exact ⟨⟨e, h1, rfl⟩, by rw [← dL e h1]; exact h2⟩
    · rintro ⟨⟨e, he, rfl⟩, hy⟩
      exact ⟨e, a.mem.2 ⟨he, by rw [dL e he]; exact hy⟩, rfl⟩
  obtain ⟨p1, m1⟩ := aux hL dL a
  obtain ⟨p2, m2⟩ := aux hM dM b
  have nb : ∀ {l : List IEnt}, (l.map bare).Pairwise dueLt → (l.map bare).Nodup := fun h => h.imp (fun h e => by subst e; exact dueLt_asymm h h)
  have hm : ∀ {R : List IEnt} (z : IEnt), z ∈ R.map bare ↔ ∃ e ∈ R, e.k = z.k ∧ z = ⟨z.k, z.k, 0⟩ := by
    intro R z
    constructor
    · intro hz
      obtain ⟨e, he, rfl⟩ := List.mem_map.1 hz
      exact ⟨e, he, rfl, rfl⟩
    · rintro ⟨e, he, h1, h2⟩
      rw [h2]
      exact List.mem_map.2 ⟨e, he, by unfold bare; rw [h1]⟩
  have hp : (R.map bare).Perm (S.map bare) := (List.perm_ext_iff_of_nodup (nb p1) (nb p2)).2 (fun z => by
    rw [hm, hm]
    constructor
    · rintro ⟨e, he, h1, h2⟩
      obtain ⟨q1, q2⟩ := (m1 z.k).1 ⟨e, he, h1⟩
      obtain ⟨e2, he2, h3⟩ := (m2 z.k).2 ⟨(hk _).1 q1, q2⟩
      exact ⟨e2, he2, h3, h2⟩
    · rintro ⟨e, he, h1, h2⟩
      obtain ⟨q1, q2⟩ := (m2 z.k).1 ⟨e, he, h1⟩
      obtain ⟨e2, he2, h3⟩ := (m1 z.k).2 ⟨(hk _).2 q1, q2⟩
      exact ⟨e2, he2, h3, h2⟩)
  have he := due_unique hp p1 p2
  refine ⟨?_, fun y hy => ?_⟩
  · have := congrArg (List.map (·.k)) he
    simpa [bare, List.map_map, Function.comp_def] using this
  · obtain ⟨e, he, rfl⟩ := List.mem_map.1 hy
    exact ((m1 e.k).1 ⟨e, he, rfl⟩).2

/-! ### A map of yes -/
def boolR : Value → Option (DataW Unit × List MemPlace)
  | .bool b => some (.lit (.bool b), [])
  | _ => none
/-- A map in block m, made by at most n stores, that says yes at the keys of M. -/
def SeenI (P : Program) (w : World) (m n : Nat) (M : List IEnt) : Prop := ∃ D, w.ownsMap P 2 boolR m n D ∧ QL (Lit.int .i64) (fun _ => .lit (.bool true)) D M
theorem SeenI.chg {P : Program} {w w' : World} {m n : Nat} {M : List IEnt} {S : Nat → Prop} (h : SeenI P w m n M) (hc : Chg S w w') (hm : ¬ S m) : SeenI P w' m n M := by
  obtain ⟨D, h1, h2⟩ := h
  exact ⟨D, ownsMap_chg h1 hc hm, h2⟩
theorem SeenI.lt {P : Program} {w : World} {m n : Nat} {M : List IEnt} (h : SeenI P w m n M) : m < w.heap.size := by
  obtain ⟨D, h1, h2⟩ := h
  exact h1.lt
/-- 'len(m)' behind a guard that lets it by. -/
theorem wpList_len_guarded {H : Type} {P : Program} {ops : Array Oper} {Q : Exit → Act → World → Prop} {a : Act} {w : World} {rest : List Oper} {o : Oper} (hg : Region.wanted o (yielded ops a.tmps) = true) (m : Operand) (t : TypeId) (hop : o.op = Op.call { callee := Callee.builtin Builtin.len, args := #[m], argTypes := #[t] })
    (k e : TypeId) (ht : P.underlying t = some (.map k e)) (R : Value → Option (DataW H × List MemPlace)) (b n : Nat) (D : DataW H) (hm : a.eval m = .map (some b)) (hown : w.ownsMap P k R b n D)
    (hK : wpList P ops Q rest (a.put o.dst (.int .i64 (Maps.size D))) w) : wpList P ops Q (o :: rest) a w := by
  refine wpList_step fun K' hK' => ?_
  rw [if_pos hg]
  unfold Oper.wp
  simp [execOp, hop, resolve, invoke, builtin, hm, hown.len ht o.type, Result.andThen]
  exact hK' _ _ hK
theorem i16_in {els : List (List Value)} (h : ∀ x ∈ els, okAll [.int .i16] x) : ∃ L : List Int, els = L.map (fun x => [Value.int .i16 x]) ∧ ∀ x ∈ L, -32768 ≤ x ∧ x ≤ 32767 := by
  induction els with
  | nil => exact ⟨[], rfl, by simp⟩
  | cons y els ih =>
    obtain ⟨L, rfl, hL⟩ := ih (fun x hx => h x (List.mem_cons_of_mem _ hx))
    obtain ⟨n, rfl, hn⟩ := ok_one_int (h y (by simp))
    refine ⟨n :: L, rfl, fun z hz => ?_⟩
    rcases List.mem_cons.1 hz with rfl | hz
    · simp only [Lit.wf, IntKind.min, IntKind.max, IntKind.signed, IntKind.bits, Bool.and_eq_true, decide_eq_true_eq, if_true] at hn
      obtain ⟨h1, h2⟩ := hn
      simp at h1 h2
      omega
    · exact hL z hz
end Go.Chron
namespace Go.Proofs.Ythholmapjbaknaa
open Go.RowKit Go.Chron

/-- The first loop. -/
def AgInv (w0 : World) (ba ma bb mb mm len : Nat) (L : List Int) (i : Value) (wr : World) : Prop :=
  ∃ (j na n2 : Nat) (La M : List IEnt), j ≤ len ∧ i = .int .i64 j ∧ na ≤ 2 * j ∧ n2 ≤ j ∧ QNI w0 wr ba ma na La ∧ QNI w0 wr bb mb 0 [] ∧ SeenI Try.prog wr mm n2 M ∧ (∀ e ∈ La, e.d = e.k) ∧
    (∀ y, keyed La y ↔ y ∈ L.take j) ∧ (∀ y, keyed M y ↔ y ∈ L.take j)
theorem in16 {x : Int} (h : -32768 ≤ x ∧ x ≤ 32767) : In64 x := ⟨by omega, by omega⟩

set_option maxRecDepth 100000 in
set_option maxHeartbeats 6400000 in
theorem wakeAgain_walk (a : Option Addr) (len cap : Nat) (els : List (List Value)) (h : Int) (w : World) (hI : FlatIn [.int .i16] w a len cap els) (hh : -32768 ≤ h ∧ h ≤ 32767) :
    Calls Try.prog 3 #[.slice a len cap, .int .i16 h] w fun e w' => e = .returned (.bool true) ∧ Below w.heap.size w w' := by
  obtain ⟨L, rfl, hok⟩ := i16_in hI.ok
  have hc := hI.leE
  have hcm := hI.capE
  have hlenE := hI.lenE
  rw [List.length_map] at hlenE
  have HI := Lib.hid hI
  have HL := Lib.hid hlenE
  have HOK := Lib.hid hok
  clear hI hlenE hok
  obtain ⟨hh1, hh2⟩ := hh
  have cMM := @run_makeMap Try.prog
  go_enter Try.func3, Try.ntmps3
  go_wp2_with fail
  refine (newI w).mono ?_
  rintro e w1 ⟨ba, ma, rfl, q1, hba, hma, hbma, c1⟩
  have A1 : QNI w w1 ba ma 0 [] := ⟨q1, hba, hma, c1⟩
  have hbal := q1.lt
  clear q1 hba hma c1
  go_wp2_with fail
  refine (newI w1).mono ?_
  rintro e w2 ⟨bb, mb, rfl, q2, hbb, hmb, hbmb, c2⟩
  have A2 := A1.chg0 c2
  have hs1 := A1.c.size
  have B2 : QNI w w2 bb mb 0 [] := ⟨q2, by omega, by omega, A2.c⟩
  have n1 : ba ≠ bb := by omega
  have n2 : ba ≠ mb := by omega
  have n3 : ma ≠ bb := by omega
  have n4 : ma ≠ mb := by omega
  clear A1 q2 hbb hmb c2 hs1 hbal
  go_wp2_with fail
  refine (alive9 _).mono ?_
  rintro e w3 ⟨rfl, c3⟩
  have A3 := A2.chg0 c3
  have B3 := B2.chg0 c3
  clear A2 B2 c3
  by_cases hlen : 100 < len
  · go_wp2_with fail
    refine (alive9 _).mono ?_
    rintro e w4 ⟨rfl, c4⟩
    have HB := Lib.hid (A3.chg0 c4).bel
    clear A3 B3 c4
    go_wp2_with fail
    go_ret
    exact ⟨rfl, HB.out⟩
  · have hal := A3.q.lt
    have hbl := B3.q.lt
    have hws := A3.c.size
    have cM := chg0_alloc w3 (Obj.map #[] 0)
    have A4 := A3.chg0 cM
    have B4 := B3.chg0 cM
    have S4 : SeenI Try.prog (w3.alloc (Obj.map #[] 0)) w3.heap.size 0 [] := ⟨_, World.ownsMap_made w3 Try.prog 2 boolR, QL.nil⟩
    obtain ⟨mm, hmm⟩ : ∃ mm, mm = w3.heap.size := ⟨_, rfl⟩
    rw [← hmm] at S4
    clear A3 B3 cM
    go_wp2_with fail
    rw [← hmm]
    have n5 : mm ≠ ba ∧ mm ≠ ma := by omega
    have n6 : mm ≠ bb ∧ mm ≠ mb := by omega
    have n7 : w.heap.size ≤ mm := by omega
    clear hmm hal hbl hws
    generalize w3.alloc (Obj.map #[] 0) = w4 at *
    go_loopw [36] (fun i wr => AgInv w ba ma bb mb mm len L i wr) (fun i _ => len - idx i)
    case atStart => exact ⟨0, 0, 0, [], [], by omega, rfl, by omega, by omega, A4, B4, S4, by simp, by simp [keyed], by simp [keyed]⟩
    case round =>
      clear A4 B4 S4
      obtain ⟨j, na, ns, La, M, hj, rfl, hna, hns, A, B, S, hdk, hka, hkm⟩ := hrel
      by_cases hlt : j < len
      · obtain ⟨x, hx⟩ : ∃ x, L[j]? = some x := ⟨_, List.getElem?_eq_getElem (by rw [← HL.out]; exact hlt)⟩
        obtain ⟨bl, off, rfl, hbw, hcell⟩ := HI.out.cell (by omega)
        have hxx : (L.map (fun x => [Value.int .i16 x]))[j]? = some [Value.int .i16 x] := by rw [List.getElem?_map, hx]; rfl
        have e0 := A.c.keep (hcell j _ hxx 0 _ rfl) (fun h => h)
        simp only [List.length_cons, List.length_nil, Nat.add_zero, Nat.zero_add, Nat.mul_one] at e0
        have hi1 : (j : Int) < (len : Int) := by omega
        obtain ⟨hx1, hx2⟩ := HOK.out x (List.mem_of_getElem? hx)
        have htk : L.take (j + 1) = L.take j ++ [x] := by rw [List.take_add_one, hx]; rfl
        have HTK := Lib.hid htk
        have HDK := Lib.hid hdk
        have HKA := Lib.hid hka
        have HKM := Lib.hid hkm
        have hw1 : IntKind.i64.wrap x = x := by rw [IntKind.wrap_i64]; omega
        clear hx hxx hcell htk hdk hka hkm
        go_wp2_with fail
        refine (setI ba ma na La x j wr A.q (by omega) ⟨by omega, by omega⟩ ⟨by omega, by omega⟩).mono ?_
        rintro e wS ⟨rfl, qS, cS⟩
        have AS := A.set qS cS
        have BS := B.other cS (by omega) (by omega) (fun i hi e => by have := A.hb; have := A.hm; omega)
        have SS := S.chg cS (by omega)
        have hs2 := setI ba ma (na + 1) _ x x wS AS.q (by omega) ⟨by omega, by omega⟩ ⟨by omega, by omega⟩
        have HS2 := Lib.hid hs2
        clear A B S qS cS hs2
        go_wp2_with fail
        refine HS2.out.mono ?_
        rintro e wT ⟨rfl, qT, cT⟩
        have AT := AS.set qT cT
        have BT := BS.other cT (by omega) (by omega) (fun i hi e => by have := AS.hb; have := AS.hm; omega)
        obtain ⟨D, hD, hQ⟩ := SS.chg cT (by omega)
        obtain ⟨X, r1, hX, tX⟩ := hD.store lawI Try.underlying27 (by unfold maxLen; omega) (keyI (x := x) ⟨by omega, by omega⟩) (val := .bool true) rfl
        have cX : Chg (fun i => i = mm) wT X := (Chg.refl _ _).turned tX (fun _ => rfl)
        have AX := AT.other cX (by omega) (by omega) (fun i hi e => by omega)
        have BX := BT.other cX (by omega) (by omega) (fun i hi e => by omega)
        have SX : SeenI Try.prog X mm (ns + 1) (setL M x 0 0) := ⟨_, hX, hQ.put injI (hD.tidy lawI) (lawI.key (keyI (x := x) ⟨by omega, by omega⟩)) 0 0⟩
        obtain ⟨La', hLa'⟩ : ∃ La', La' = setL (setL La x j ((na : Int) + 1)) x x (((na + 1 : Nat) : Int) + 1) := ⟨_, rfl⟩
        have hdk' : ∀ e ∈ La', e.d = e.k := by
          rw [hLa']
          intro e he
          rcases mem_setL.1 he with ⟨h1, h2⟩ | rfl
          · rcases mem_setL.1 h1 with ⟨h3, _⟩ | rfl
            · exact HDK.out e h3
            · exact absurd rfl h2
          · rfl
        have hka' : ∀ y, keyed La' y ↔ y ∈ L.take (j + 1) := by
          intro y
          rw [hLa', keyed_set, keyed_set, HKA.out, HTK.out, List.mem_append, List.mem_singleton, or_assoc, or_self]
        have hkm' : ∀ y, keyed (setL M x 0 0) y ↔ y ∈ L.take (j + 1) := by
          intro y
          rw [keyed_set, HKM.out, HTK.out, List.mem_append, List.mem_singleton]
        rw [← hLa'] at AX
        have HF := Lib.hid (show AgInv w ba ma bb mb mm len L (.int .i64 (j + 1)) X from ⟨j + 1, na + 1 + 1, ns + 1, La', _, by omega, by go_num, by omega, by omega, AX, BX, SX, hdk', hka', hkm'⟩)
        clear AS BS SS HS2 qT cT AT BT hD hQ hX tX cX AX BX SX hLa' hdk' hka' hkm'
        go_wp2_with fail
        go_roundw
        case rel => exact HF.out
        case measure => simp [idx]; omega
      · obtain rfl : j = len := by omega
        have htl : L.take j = L := List.take_of_length_le (by rw [HL.out]; exact Nat.le_refl _)
        rw [htl] at hka hkm
        have HDK := Lib.hid hdk
        have HKA := Lib.hid hka
        have HKM := Lib.hid hkm
        have hnaj : na ≤ 200 := by omega
        clear hdk hka hkm htl
        obtain ⟨wo, hwo⟩ : ∃ wo, wo = wr := ⟨wr, rfl⟩
        subst hwo
        go_wp2_with fail
        go_loopw [58] (fun i wr => ∃ (t nb : Nat) (Lb : List IEnt), t ≤ j ∧ i = .int .i64 t ∧ nb ≤ t ∧ QNI w wr ba ma na La ∧ QNI w wr bb mb nb Lb ∧ SeenI Try.prog wr mm ns M ∧ (∀ e ∈ Lb, e.d = e.k) ∧ (∀ y, keyed Lb y ↔ y ∈ L.drop (j - t))) (fun i _ => j - idx i)
        case atStart => exact ⟨0, 0, [], by omega, rfl, by omega, A, B, S, by simp, by intro y; rw [Nat.sub_zero, HL.out, List.drop_length]; simp [keyed]⟩
        case round =>
          clear A B S
          obtain ⟨t, nb, Lb, ht, rfl, hnb, A, B, S, hdk, hkb⟩ := hrel
          have HDB := Lib.hid hdk
          have HKB := Lib.hid hkb
          clear hdk hkb
          by_cases htl : t < j
          · obtain ⟨i, hi⟩ : ∃ i : Nat, i = j - 1 - t := ⟨_, rfl⟩
            obtain ⟨x, hx⟩ : ∃ x, L[i]? = some x := ⟨_, List.getElem?_eq_getElem (by rw [← HL.out]; omega)⟩
            obtain ⟨bl, off, rfl, hbw, hcell⟩ := HI.out.cell (by omega)
            have hxx : (L.map (fun x => [Value.int .i16 x]))[i]? = some [Value.int .i16 x] := by rw [List.getElem?_map, hx]; rfl
            have e0 := A.c.keep (hcell i _ hxx 0 _ rfl) (fun h => h)
            simp only [List.length_cons, List.length_nil, Nat.add_zero, Nat.zero_add, Nat.mul_one] at e0
            have hi1 : (t : Int) < (j : Int) := by omega
            have hi2 : (j : Int) - 1 - (t : Int) = (i : Int) := by omega
            have hi3 : (i : Int) < (j : Int) := by omega
            obtain ⟨hx1, hx2⟩ := HOK.out x (List.mem_of_getElem? hx)
            rw [hi] at e0
            have htk : L.drop (j - (t + 1)) = x :: L.drop (j - t) := by
              obtain ⟨h1, h2⟩ := List.getElem?_eq_some_iff.1 hx
              rw [show j - (t + 1) = i by omega, ← h2, show j - t = i + 1 by omega]
              exact List.drop_eq_getElem_cons h1
            have HTK := Lib.hid htk
            have hw1 : IntKind.i64.wrap x = x := by rw [IntKind.wrap_i64]; omega
            have hw2 : IntKind.i64.wrap ((j : Int) - 1) = (j : Int) - 1 := by rw [IntKind.wrap_i64]; omega
            have hw3 : IntKind.i64.wrap ((j : Int) - 1 - (t : Int)) = (i : Int) := by rw [IntKind.wrap_i64]; omega
            clear hx hxx hcell htk hi2 hi3 hw3 hi
            go_wp2_with fail
            refine (setI bb mb nb Lb x x wr B.q (by omega) ⟨by omega, by omega⟩ ⟨by omega, by omega⟩).mono ?_
            rintro e wS ⟨rfl, qS, cS⟩
            have BS := B.set qS cS
            have AS := A.other cS (by omega) (by omega) (fun i hi e => by have := B.hb; have := B.hm; omega)
            have SS := S.chg cS (by omega)
            obtain ⟨Lb', hLb'⟩ : ∃ Lb', Lb' = setL Lb x x ((nb : Int) + 1) := ⟨_, rfl⟩
            have hdk' : ∀ e ∈ Lb', e.d = e.k := by
              rw [hLb']
              intro e he
              rcases mem_setL.1 he with ⟨h1, h2⟩ | rfl
              · exact HDB.out e h1
              · rfl
            have hkb' : ∀ y, keyed Lb' y ↔ y ∈ L.drop (j - (t + 1)) := by
              intro y
              rw [hLb', keyed_set, HKB.out, HTK.out, List.mem_cons]
              exact or_comm
            rw [← hLb'] at BS
            have HF := Lib.hid (show ∃ (t' nb : Nat) (Lb : List IEnt), t' ≤ j ∧ Value.int .i64 ((t : Int) + 1) = .int .i64 t' ∧ nb ≤ t' ∧ QNI w wS ba ma na La ∧ QNI w wS bb mb nb Lb ∧ SeenI Try.prog wS mm ns M ∧ (∀ e ∈ Lb, e.d = e.k) ∧ (∀ y, keyed Lb y ↔ y ∈ L.drop (j - t')) from ⟨t + 1, nb + 1, Lb', by omega, by go_num, by omega, AS, BS, SS, hdk', hkb'⟩)
            clear A B S qS cS AS BS SS hLb' hdk' hkb'
            go_wp2_with fail
            go_roundw
            case rel => exact HF.out
            case measure => simp [idx]; omega
          · obtain rfl : t = j := by omega
            have hnb2 : nb ≤ 100 := by omega
            have hkb : ∀ y, keyed Lb y ↔ y ∈ L := by have := HKB.out; rw [Nat.sub_self, List.drop_zero] at this; exact this
            obtain ⟨D, hD, hQ⟩ := S
            have hl1 : La.length = Maps.size D := by rw [hQ.size]; exact keyed_len (by obtain ⟨_, _, q⟩ := A.q.own; exact q.nodup) hQ.nodup (fun y => (HKA.out y).trans (HKM.out y).symm)
            have hl2 : Lb.length = Maps.size D := by rw [hQ.size]; exact keyed_len (by obtain ⟨_, _, q⟩ := B.q.own; exact q.nodup) hQ.nodup (fun y => (hkb y).trans (HKM.out y).symm)
            have hw1 : IntKind.i64.wrap h = h := by rw [IntKind.wrap_i64]; omega
            have HL1 := Lib.hid hl1
            have HL2 := Lib.hid hl2
            have HKB2 := Lib.hid hkb
            have ND1 := Lib.hid (show La.Pairwise (fun a b => a.k ≠ b.k) by obtain ⟨_, _, q⟩ := A.q.own; exact q.nodup)
            have ND2 := Lib.hid (show Lb.Pairwise (fun a b => a.k ≠ b.k) by obtain ⟨_, _, q⟩ := B.q.own; exact q.nodup)
            clear hl1 hl2 hkb hQ
            go_wp2_with fail
            refine (dueI ba ma na La h wr A.q (by omega)).mono ?_
            rintro e wS ⟨a1, cap1, g1, R1, rfl, d1, o1, hg1, cS⟩
            have AS := A.chg0 cS
            have BS := B.chg0 cS
            have hD2 := ownsMap_chg hD cS (fun h => h)
            have hs2 := dueI bb mb nb Lb h wS BS.q (by omega)
            have HS2 := Lib.hid hs2
            clear A B hD cS hg1 hs2
            go_wp2_with fail
            refine HS2.out.mono ?_
            rintro e wT ⟨a2, cap2, g2, R2, rfl, d2, o2, hg2, cT⟩
            have AT := AS.chg0 cT
            have BT := BS.chg0 cT
            have hD3 := ownsMap_chg hD2 cT (fun h => h)
            have o1 := o1.chg cT (fun _ _ h => h)
            obtain ⟨hk1, hk2⟩ := due_keys ND1.out ND2.out HDK.out HDB.out (fun y => (HKA.out y).trans (HKB2.out y).symm) d1 d2
            have hr1 : R1.length ≤ 200 := by have := d1.len; have := AT.q.len_le; omega
            have hrr : R1.length = R2.length := by simpa using congrArg List.length hk1
            have hkk : keysI R2 = keysI R1 := by
              have h1 : ∀ R : List IEnt, keysI R = (R.map (·.k)).map (fun y => [Value.int .i64 y]) := fun R => by rw [keysI, List.map_map]; rfl
              rw [h1, h1, hk1]
            obtain ⟨r, hr⟩ : ∃ r, r = R1.length := ⟨_, rfl⟩
            rw [hkk] at o2
            rw [← hrr, ← hr] at o2
            rw [← hr] at o1 hr1
            rw [← hrr, ← hr]
            have h3 := lenI ba ma na La wT AT.q
            have h4 := lenI bb mb nb Lb wT BT.q
            rw [HL1.out] at h3
            rw [HL2.out] at h4
            obtain ⟨sz, hsz⟩ : ∃ sz, sz = Maps.size D := ⟨_, rfl⟩
            rw [← hsz] at h3 h4
            have H3 := Lib.hid h3
            have H4 := Lib.hid h4
            have HSZ := Lib.hid hsz
            have HR := Lib.hid hr
            have HK2 := Lib.hid hk2
            have HB := Lib.hid AT.bel
            have hws := AT.c
            have HWS := Lib.hid hws
            clear AS BS HS2 hD2 cT d1 d2 hg2 AT BT hk1 hk2 hrr hkk hr h3 h4 hsz hws
            go_wp2_with fail
            refine H3.out.mono ?_
            rintro e wU ⟨rfl, rfl⟩
            go_wp2_with (at_len; refine wpList_len_own _ rfl _ 27 rfl 2 4 Try.underlying27 _ mm ns D rfl hD3 ?_; rw [← HSZ.out])
            refine H4.out.mono ?_
            rintro e wV ⟨rfl, rfl⟩
            go_wp2_with (at_len; refine wpList_len_guarded (by rfl) _ 27 rfl 2 4 Try.underlying27 _ mm ns D rfl hD3 ?_; rw [← HSZ.out])
            obtain ⟨_, _, q1, q2, q3, -⟩ := o1.form
            obtain ⟨_, _, q4, q5, q6, -⟩ := o2.form
            simp only [Value.slice.injEq] at q1 q4
            obtain ⟨-, -, rfl⟩ := q1
            obtain ⟨-, -, rfl⟩ := q4
            rw [List.length_map, ← HR.out] at q2 q5
            simp only [maxLen] at q3 q6
            have O1 := Lib.hid o1
            have O2 := Lib.hid o2
            obtain ⟨wo, hwo⟩ : ∃ wo, wo = wT := ⟨wT, rfl⟩
            subst hwo
            clear o1 o2 hD3
            go_loopw [104] (fun v wr => ∃ t : Nat, t ≤ r ∧ v = .int .i64 t ∧ Chg (fun _ => False) wo wr) (fun v _ => r - idx v)
            case atStart => exact ⟨0, by omega, rfl, Chg.refl _ _⟩
            case round =>
              obtain ⟨u, hu, rfl, cZ⟩ := hrel
              by_cases hur : u < r
              · obtain ⟨y, hy⟩ : ∃ y, R1[u]? = some y := ⟨_, List.getElem?_eq_getElem (by rw [← HR.out]; exact hur)⟩
                have hyy : (keysI R1)[u]? = some [Value.int .i64 y.k] := by rw [keysI, List.getElem?_map, hy]; rfl
                have hyh : y.k ≤ h := HK2.out y.k (List.mem_map.2 ⟨y, List.mem_of_getElem? hy, rfl⟩)
                have o1 := O1.out.chg cZ (fun _ _ h => h)
                have o2 := O2.out.chg cZ (fun _ _ h => h)
                obtain ⟨k1, rfl⟩ := o1.pos (by rw [List.length_map, ← HR.out]; omega)
                obtain ⟨k2, rfl⟩ := o2.pos (by rw [List.length_map, ← HR.out]; omega)
                obtain ⟨_, z1, -, -⟩ := o1.some_form
                obtain ⟨_, z2, -, -⟩ := o2.some_form
                simp only [Value.slice.injEq] at z1 z2
                obtain ⟨rfl, -, -⟩ := z1
                obtain ⟨rfl, -, -⟩ := z2
                have y1 := o1.cell rfl hyy (j := 0) rfl
                have y2 := o2.cell rfl hyy (j := 0) rfl
                simp only [Nat.mul_one, Nat.add_zero] at y1 y2
                have hur' : (u : Int) < (r : Int) := by omega
                have hyh' : ¬ h < y.k := by omega
                clear o1 o2 hy hyy
                go_wp2_with fail
                go_quiet (fail)
                go_wp2_with fail
                go_roundw
                case rel => exact ⟨u + 1, by omega, by go_num, cZ.drewN _⟩
                case measure => simp [idx]; omega
              · obtain rfl : u = r := by omega
                have HB2 := Lib.hid (bel0 HB.out cZ (Nat.le_refl _))
                clear cZ
                go_wp2_with fail
                go_ret
                exact ⟨rfl, HB2.out⟩
theorem wakeAgain_all (a : Option Addr) (len cap : Nat) (els : List (List Value)) (h : Int) (w : World) (hI : FlatIn [.int .i16] w a len cap els) (hh : -32768 ≤ h ∧ h ≤ 32767) :
    Calls Try.prog 3 #[.slice a len cap, .int .i16 h] w fun e w' => e = .returned (.bool true) ∧ Below w.heap.size w w' := wakeAgain_walk a len cap els h w hI hh
end Go.Proofs.Ythholmapjbaknaa
