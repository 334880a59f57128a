/- WakeOrder: what is due is by rising numbers, and is all of that, once; the first one is due when Next says: the walk. -/
import Derived.Test.YthholmapjbaknaaAgain
set_option linter.unusedVariables false
set_option linter.unusedSectionVars false
namespace Go.Chron
open Go Go.RowKit
abbrev SEnt2 := Ent (List UInt8)
def intR : Value → Option (DataW Unit × List MemPlace)
  | .int .i64 a => some (.lit (.int .i64 a), [])
  | _ => none
theorem intR_inv {v : Value} {y : DataW Unit × List MemPlace} (h : intR v = some y) : ∃ a : Int, v = .int .i64 a ∧ y = (.lit (.int .i64 a), []) := by
  unfold intR at h
  split at h
  · cases h; exact ⟨_, rfl, rfl⟩
  · cases h
theorem boolR_inv {v : Value} {y : DataW Unit × List MemPlace} (h : boolR v = some y) : ∃ a : Bool, v = .bool a ∧ y = (.lit (.bool a), []) := by
  unfold boolR at h
  split at h
  · cases h; exact ⟨_, rfl, rfl⟩
  · cases h
theorem ownsMap_look0 {H : Type} {P : Program} {w : World} {t k e : TypeId} {R : Value → Option (DataW H × List MemPlace)} {b n : Nat} {D : DataW H} (h : w.ownsMap P k R b n D) (K : Maps.Keyed P k) (ht : P.underlying t = some (.map k e)) {z : Value} (hz : (zeroValue e).run P w = .ok z w) {zd : DataW H} {zp : List MemPlace} (hzd : R z = some (zd, zp))
    {key : Value} {kl : Lit} (hkey : keyOf P k key = some kl) : ∃ v ps, (Instr.lookup t (.map (some b)) key false).run P w = .ok v w ∧ R v = some (D.atKey kl zd, ps) := by
  obtain ⟨es, clock, hb, F, _, rfl⟩ := h
  rcases Maps.fit_look false K ht hz hb F hkey with ⟨hrun, _, hat⟩ | ⟨e0, y, _, _, hrun, hRv, hat, _⟩
  · exact ⟨z, zp, by simpa using hrun, by rw [hat zd]; exact hzd⟩
  · exact ⟨e0.val, y.2, by simpa using hrun, by rw [hat zd]; exact hRv⟩
theorem Vis.start2 {κ : Type} [DecidableEq κ] {lit : κ → Lit} {f : Ent κ → DataW Unit} {D : DataW Unit} {L : List (Ent κ)} (h : QL lit f D L) : Vis lit L (Maps.has D) [] :=
  ⟨fun e he => by simp only [List.not_mem_nil, iff_false]; rw [h.has, hasL_iff.2 ⟨e, he, rfl⟩]; simp, by simp, List.Pairwise.nil⟩
theorem QL.entryI {κ : Type} [DecidableEq κ] {lit : κ → Lit} {D : DataW Unit} {L : List (Ent κ)} (h : QL lit (fun e => .lit (.int .i64 e.d)) D L) {x : κ} {c : Int} (hat : ∀ zd, D.atKey (lit x) zd = .lit (.int .i64 c)) : ∃ e ∈ L, e.k = x ∧ e.d = c := by
  have hh := Maps.has_true_of_atKey hat
  rw [h.has] at hh
  obtain ⟨e, he, hk⟩ := hasL_iff.1 hh
  have h1 := h.at_ e he .nil
  rw [hk, hat] at h1
  simp at h1
  exact ⟨e, he, hk, h1.symm⟩
theorem atL_mem {κ : Type} [DecidableEq κ] {L : List (Ent κ)} (hn : L.Pairwise (fun a b => a.k ≠ b.k)) {e : Ent κ} (he : e ∈ L) : atL L e.k = e.d ∧ hasL L e.k = true := by
  unfold atL
  rw [hasL_eq, lookL_of_mem hn he]
  exact ⟨rfl, rfl⟩
/-- What is due first, is due when Next says. -/
theorem due_head {κ : Type} [DecidableEq κ] {L R : List (Ent κ)} {h : Int} (hL : L ≠ []) (d : IsDue L h R) : (R = [] → h < nextL L) ∧ ∀ e, R[0]? = some e → e.d = nextL L := by
  obtain ⟨⟨x, hx, hxd⟩, hmin⟩ := nextL_is hL
  constructor
  · rintro rfl
    have := d.mem (e := x)
    simp [hx] at this
    omega
  · intro e he
    cases R with
    | nil => cases he
    | cons a r =>
      simp at he
      subst he
      have ha := d.mem.1 (List.mem_cons_self (a := a) (l := r))
      have h1 := hmin a ha.1
      have hxR : x ∈ a :: r := d.mem.2 ⟨hx, by have := ha.2; omega⟩
      rcases List.mem_cons.1 hxR with rfl | hxr
      · exact hxd
      · have := (List.pairwise_cons.1 d.sorted).1 x hxr
        unfold dueLt at this
        omega
end Go.Chron
namespace Go.Proofs.Ythholmapjbaknaa
open Go.RowKit Go.Chron

theorem zero2 (w : World) : (zeroValue 2).run Try.prog w = .ok (.int .i64 0) w := by kernel_rfl
theorem zero4 (w : World) : (zeroValue 4).run Try.prog w = .ok (.bool false) w := by kernel_rfl
/-- A map in block m that says when each key of L is due. -/
def AtM (w : World) (m n : Nat) (L : List SEnt2) : Prop := ∃ D, w.ownsMap Try.prog 9 intR m n D ∧ QL Lit.string (fun e => .lit (.int .i64 e.d)) D L
/-- A map in block m that says yes at the keys of M. -/
def SeenS (w : World) (m n : Nat) (M : List SEnt2) : Prop := ∃ D, w.ownsMap Try.prog 9 boolR m n D ∧ QL Lit.string (fun _ => .lit (.bool true)) D M
theorem AtM.chg {w w' : World} {m n : Nat} {L : List SEnt2} {S : Nat → Prop} (h : AtM w m n L) (hc : Chg S w w') (hm : ¬ S m) : AtM w' m n L := by
  obtain ⟨D, h1, h2⟩ := h
  exact ⟨D, ownsMap_chg h1 hc hm, h2⟩
theorem SeenS.chg {w w' : World} {m n : Nat} {L : List SEnt2} {S : Nat → Prop} (h : SeenS w m n L) (hc : Chg S w w') (hm : ¬ S m) : SeenS w' m n L := by
  obtain ⟨D, h1, h2⟩ := h
  exact ⟨D, ownsMap_chg h1 hc hm, h2⟩
theorem AtM.lt {w : World} {m n : Nat} {L : List SEnt2} (h : AtM w m n L) : m < w.heap.size := by
  obtain ⟨D, h1, h2⟩ := h
  exact h1.lt
theorem AtM.val {D : DataW Unit} {L : List SEnt2} (h2 : QL Lit.string (fun e => .lit (.int .i64 e.d)) D L) (x : List UInt8) {a : Int} {ps : List MemPlace} (hv : (D.atKey (Lit.string x) (.lit (.int .i64 0)), ps) = ((.lit (.int .i64 a) : DataW Unit), ([] : List MemPlace))) : a = atL L x := by
  have e1 := congrArg Prod.fst hv
  simp only at e1
  rw [h2.atKey x] at e1
  unfold atL
  cases hl : lookL L x with
  | none => rw [hl] at e1; simp at e1; exact e1.symm
  | some e => rw [hl] at e1; simp at e1; exact e1.symm
theorem AtM.look_ok {w : World} {m n : Nat} {L : List SEnt2} (h : AtM w m n L) (x : List UInt8) (hx : OkS x) : (Instr.lookup 36 (.map (some m)) (encStr x) true).run Try.prog w = .ok (.tuple #[.int .i64 (atL L x), .bool (hasL L x)]) w := by
  obtain ⟨D, h1, h2⟩ := h
  obtain ⟨v, ps, r1, hv⟩ := h1.look_ok lawS Try.underlying36 (zero2 w) (zd := .lit (.int .i64 0)) rfl (keyS hx)
  obtain ⟨a, rfl, ha⟩ := intR_inv hv
  rw [r1, h2.has, AtM.val h2 x ha]
theorem AtM.look {w : World} {m n : Nat} {L : List SEnt2} (h : AtM w m n L) (x : List UInt8) (hx : OkS x) : (Instr.lookup 36 (.map (some m)) (encStr x) false).run Try.prog w = .ok (.int .i64 (atL L x)) w := by
  obtain ⟨D, h1, h2⟩ := h
  obtain ⟨v, ps, r1, hv⟩ := ownsMap_look0 h1 lawS Try.underlying36 (zero2 w) (zd := .lit (.int .i64 0)) rfl (keyS hx)
  obtain ⟨a, rfl, ha⟩ := intR_inv hv
  rw [r1, AtM.val h2 x ha]
theorem SeenS.look {w : World} {m n : Nat} {L : List SEnt2} (h : SeenS w m n L) (x : List UInt8) (hx : OkS x) : (Instr.lookup 43 (.map (some m)) (encStr x) false).run Try.prog w = .ok (.bool (hasL L x)) w := by
  obtain ⟨D, h1, h2⟩ := h
  obtain ⟨v, ps, r1, hv⟩ := ownsMap_look0 h1 lawS Try.underlying43 (zero4 w) (zd := .lit (.bool false)) rfl (keyS hx)
  obtain ⟨a, rfl, ha⟩ := boolR_inv hv
  have e1 := congrArg Prod.fst ha
  simp only at e1
  rw [h2.atKey x] at e1
  rw [r1, hasL_eq]
  cases hl : lookL L x with
  | none => rw [hl] at e1; simp at e1; simp [e1]
  | some e => rw [hl] at e1; simp at e1; simp [e1]

/-- WakeOrder's first loop. -/
def OrdInv (w0 : World) (ba ma mm len : Nat) (i : Value) (wr : World) : Prop :=
  ∃ (j n k : Nat) (L : List SEnt2), j ≤ len ∧ i = .int .i64 j ∧ n ≤ j ∧ k ≤ j ∧ QNS w0 wr ba ma n L ∧ AtM wr mm k L

set_option maxRecDepth 100000 in
set_option maxHeartbeats 6400000 in
theorem wakeOrder_walk (a : Option Addr) (len cap : Nat) (els : List (List Value)) (h : Int) (w : World) (hI : FlatIn [.int .i64, .str, .int .i64] w a len cap els) :
    Calls Try.prog 4 #[.slice a len cap, .int .i64 h] w fun e w' => e = .returned (.bool true) ∧ Below w.heap.size w w' := by
  obtain ⟨acts, rfl, hok⟩ := acts_in hI.ok
  have hc := hI.leE
  have hcm := hI.capE
  have hlenE := hI.lenE
  rw [List.length_map] at hlenE
  have HI := Lib.hid hI
  have HL := Lib.hid hlenE
  have HOK := Lib.hid hok
  clear hI hlenE hok
  have cMM := @run_makeMap Try.prog
  go_enter Try.func4, Try.ntmps4
  go_wp2_with fail
  refine (newS w).mono ?_
  rintro e w1 ⟨ba, ma, rfl, q1, hba, hma, hbma, c1⟩
  have A1 : QNS w w1 ba ma 0 [] := ⟨q1, hba, hma, c1⟩
  clear q1 hba hma c1
  go_wp2_with fail
  refine (alive9 _).mono ?_
  rintro e w3 ⟨rfl, c3⟩
  have A3 := A1.chg0 c3
  clear A1 c3
  by_cases hlen : 200 < len
  · go_wp2_with fail
    refine (alive9 _).mono ?_
    rintro e w4 ⟨rfl, c4⟩
    have HB := Lib.hid (A3.chg0 c4).bel
    clear A3 c4
    go_wp2_with fail
    go_ret
    exact ⟨rfl, HB.out⟩
  · have hal := A3.q.lt
    have hws := A3.c.size
    have cM := chg0_alloc w3 (Obj.map #[] 0)
    have A4 := A3.chg0 cM
    have M4 : AtM (w3.alloc (Obj.map #[] 0)) w3.heap.size 0 [] := ⟨_, World.ownsMap_made w3 Try.prog 9 intR, QL.nil⟩
    obtain ⟨mm, hmm⟩ : ∃ mm, mm = w3.heap.size := ⟨_, rfl⟩
    rw [← hmm] at M4
    clear A3 cM
    go_wp2_with fail
    rw [← hmm]
    have n5 : mm ≠ ba ∧ mm ≠ ma := by omega
    have n7 : w.heap.size ≤ mm := by omega
    clear hmm hal hws
    generalize w3.alloc (Obj.map #[] 0) = w4 at *
    go_loopw [35] (fun i wr => OrdInv w ba ma mm len i wr) (fun i _ => len - idx i)
    case atStart => exact ⟨0, 0, 0, [], by omega, rfl, by omega, by omega, A4, M4⟩
    case round =>
      clear A4 M4
      obtain ⟨j, n, k, L, hj, rfl, hn, hk, A, M⟩ := hrel
      by_cases hlt : j < len
      · obtain ⟨x, hx⟩ : ∃ x, acts[j]? = some x := ⟨_, List.getElem?_eq_getElem (by rw [← HL.out]; exact hlt)⟩
        obtain ⟨bl, off, rfl, hbw, hcell⟩ := HI.out.cell (by omega)
        have hxx : (acts.map act1c)[j]? = some (act1c x) := by rw [List.getElem?_map, hx]; rfl
        have e0 := A.c.keep (hcell j _ hxx 0 _ rfl) (fun h => h)
        have e1 := A.c.keep (hcell j _ hxx 1 _ rfl) (fun h => h)
        have e2 := A.c.keep (hcell j _ hxx 2 _ rfl) (fun h => h)
        simp only [List.length_cons, List.length_nil, Nat.add_zero, Nat.zero_add, Nat.reduceAdd] at e0 e1 e2
        rw [← Nat.add_assoc] at e1 e2
        have hi1 : (j : Int) < (len : Int) := by omega
        have hxo := HOK.out x (List.mem_of_getElem? hx)
        obtain ⟨kd, hkd⟩ : ∃ kd, kd = x.kd := ⟨_, rfl⟩
        rw [← hkd] at e0
        clear hkd
        have bX := Blk.new wr 38 #[Value.int .i64 kd, encStr x.k, Value.int .i64 x.d]
        have cX := chg0_alloc wr (Obj.cells #[Value.int .i64 kd, encStr x.k, Value.int .i64 x.d] 38)
        have AX := A.chg0 cX
        have MX := M.chg cX (fun h => h)
        have hab := A.q.lt
        have hmb := M.lt
        have HXO := Lib.hid hxo
        have hnj' : n ≤ 200 := by omega
        have hkj' : k ≤ 200 := by omega
        clear A M cX hx hxo hxx hcell
        obtain ⟨ix, hix⟩ : ∃ ix, ix = wr.heap.size := ⟨_, rfl⟩
        rw [← hix] at bX
        have hx1 : ix ≠ ba ∧ ix ≠ ma ∧ ix ≠ mm := by omega
        clear hab hmb
        by_cases hkd : kd = 0
        · subst hkd
          go_wp2_with fail
          rw [← hix]
          generalize wr.alloc (Obj.cells #[Value.int .i64 0, encStr x.k, Value.int .i64 x.d] 38) = wX at *
          clear hix
          refine (setS ba ma n L x.k x.d wX AX.q (by omega) HXO.out.k HXO.out.d).mono ?_
          rintro e wS ⟨rfl, qS, cS⟩
          have MS := MX.chg cS (by omega)
          have AS := AX.set qS cS
          have bS := bX.chg cS (by omega)
          have m1 := bS.cell 1
          have m2 := bS.cell 2
          simp at m1 m2
          obtain ⟨D, hD, hQ⟩ := MS
          obtain ⟨X, r1, hX, tX⟩ := hD.store lawS Try.underlying36 (by unfold maxLen; omega) (keyS HXO.out.k) (val := .int .i64 x.d) rfl
          have cY : Chg (fun i => i = mm) wS X := (Chg.refl _ _).turned tX (fun _ => rfl)
          have AY := AS.other cY (by omega) (by omega) (fun i hi e => by omega)
          have MY : AtM X mm (k + 1) (setL L x.k x.d ((n : Int) + 1)) := ⟨_, hX, hQ.put injS (hD.tidy lawS) (lawS.key (keyS HXO.out.k)) x.d ((n : Int) + 1)⟩
          have HF := Lib.hid (show OrdInv w ba ma mm len (.int .i64 (j + 1)) X from ⟨j + 1, n + 1, k + 1, _, by omega, by go_num, by omega, by omega, AY, MY⟩)
          clear bX qS cS AX MX AS hD hQ hX tX cY AY MY bS
          go_wp2_with fail
          go_roundw
          case rel => exact HF.out
          case measure => simp [idx]; omega
        · go_wp2_with fail
          rw [← hix]
          generalize wr.alloc (Obj.cells #[Value.int .i64 kd, encStr x.k, Value.int .i64 x.d] 38) = wX at *
          clear hix
          refine (dropS ba ma n L x.k wX AX.q HXO.out.k).mono ?_
          rintro e wS ⟨rfl, qS, cS⟩
          have MS := MX.chg cS (by omega)
          have AS := AX.drop qS cS
          have bS := bX.chg cS (by omega)
          have m1 := bS.cell 1
          simp at m1
          obtain ⟨D, hD, hQ⟩ := MS
          have HQ := Lib.hid hQ
          clear bX qS cS AX MX bS hQ
          go_wp2_with (at_delete; refine wpList_delete_own _ rfl _ _ 36 9 rfl 2 lawS Try.underlying36 _ mm k D rfl hD _ _ rfl (keyS HXO.out.k) ?_; intro X hX tX)
          have cY : Chg (fun i => i = mm) wS X := (Chg.refl _ _).turned tX (fun _ => rfl)
          have AY := AS.other cY (by omega) (by omega) (fun i hi e => by omega)
          have MY : AtM X mm k (dropL L x.k) := ⟨_, hX, HQ.out.del injS (hD.tidy lawS) x.k⟩
          have HF := Lib.hid (show OrdInv w ba ma mm len (.int .i64 (j + 1)) X from ⟨j + 1, n, k, _, by omega, by go_num, by omega, by omega, AY, MY⟩)
          clear AS hD HQ hX tX cY AY MY
          go_wp2_with fail
          go_roundw
          case rel => exact HF.out
          case measure => simp [idx]; omega
      · obtain rfl : j = len := by omega
        have hn2 : n ≤ 200 := by omega
        have hln : L.length ≤ 200 := by have := A.q.len_le; omega
        have hrd := dueS ba ma n L h wr A.q (by omega)
        have HRD := Lib.hid hrd
        clear hrd
        go_wp2_with fail
        refine HRD.out.mono ?_
        rintro e wD ⟨a1, cap1, g1, R, rfl, d1, o1, hg1, cD⟩
        have AD := A.chg0 cD
        have MD := M.chg cD (fun h => h)
        obtain ⟨_, capx, q1, q2, q3, -⟩ := o1.form
        simp only [Value.slice.injEq] at q1
        obtain ⟨-, -, rfl⟩ := q1
        rw [List.length_map] at q2
        simp only [maxLen] at q3
        have hal := AD.q.lt
        have hml := MD.lt
        have hol := o1.lt
        have cS := chg0_alloc wD (Obj.map #[] 0)
        have AE := AD.chg0 cS
        have ME := MD.chg cS (fun h => h)
        have OE := o1.chg cS (fun _ _ h => h)
        have SE : SeenS (wD.alloc (Obj.map #[] 0)) wD.heap.size 0 [] := ⟨_, World.ownsMap_made wD Try.prog 9 boolR, QL.nil⟩
        obtain ⟨ms, hms⟩ : ∃ ms, ms = wD.heap.size := ⟨_, rfl⟩
        obtain ⟨r, hr⟩ : ∃ r, r = R.length := ⟨_, rfl⟩
        rw [← hms] at SE
        rw [← hr] at OE q2 ⊢
        have hrl : r ≤ 200 := by rw [hr]; have := d1.len; omega
        have ND := Lib.hid (show L.Pairwise (fun a b => a.k ≠ b.k) by obtain ⟨_, _, q⟩ := AD.q.own; exact q.nodup)
        have HMS := Lib.hid hms
        have HD1 := Lib.hid d1
        have HR := Lib.hid hr
        have n8 : ms ≠ ba ∧ ms ≠ ma ∧ ms ≠ mm := by omega
        have HG := Lib.hid (show ∀ k, g1 = some k → k ≠ ms from fun k hk e => by have := hol k hk; omega)
        have n9 : w.heap.size ≤ ms := by have := AD.c.size; omega
        clear A M HRD cD hg1 d1 o1 AD MD cS hr hal hml hol
        go_wp2_with fail
        rw [← HMS.out]
        clear HMS hms
        generalize wD.alloc (Obj.map #[] 0) = wE at *
        have HAE := Lib.hid AE
        have HME := Lib.hid ME
        have HOE := Lib.hid OE
        clear AE ME OE
        go_loopw [67] (fun v wr => ∃ (t ns : Nat) (M : List SEnt2), t ≤ r ∧ v = .int .i64 t ∧ ns ≤ t ∧ SeenS wr ms ns M ∧ (∀ y, hasL M y = true ↔ ∃ e ∈ R.take t, e.k = y) ∧ Chg (fun i => i = ms) wE wr) (fun v _ => r - idx v)
        case atStart => exact ⟨0, 0, [], by omega, rfl, by omega, SE, by simp [hasL], Chg.refl _ _⟩
        case round =>
          clear SE
          obtain ⟨t, ns, M, ht, rfl, hns, S, hkm, cT⟩ := hrel
          have HKM := Lib.hid hkm
          clear hkm
          by_cases htr : t < r
          · obtain ⟨y, hy⟩ : ∃ y, R[t]? = some y := ⟨_, List.getElem?_eq_getElem (by rw [← HR.out]; exact htr)⟩
            obtain ⟨hyL, hyh⟩ := HD1.out.mem.1 (List.mem_of_getElem? hy)
            have hyo := (HAE.out.q.ok y hyL).2
            have hyy : (keysS R)[t]? = some [encStr y.k] := by rw [keysS, List.getElem?_map, hy]; rfl
            have OT := HOE.out.chg cT (fun k hk e => HG.out k hk e)
            obtain ⟨k1, rfl⟩ := OT.pos (by rw [List.length_map, ← HR.out]; omega)
            obtain ⟨_, z1, -, -⟩ := OT.some_form
            simp only [Value.slice.injEq] at z1
            obtain ⟨rfl, -, -⟩ := z1
            have y0 := OT.cell rfl hyy (j := 0) rfl
            simp only [Nat.mul_one, Nat.add_zero] at y0
            have MT := HME.out.chg cT (by omega)
            obtain ⟨v1, v2⟩ := atL_mem ND.out hyL
            have l1 := MT.look_ok y.k hyo
            rw [v1, v2] at l1
            have l2 := S.look y.k hyo
            have nr : R.Pairwise (fun a b => a.k ≠ b.k) := (HD1.out.perm.symm.pairwise_iff (fun h e => h e.symm)).1 (ND.out.filter _)
            have hs0 : hasL M y.k = false := by
              rw [Bool.eq_false_iff]
              intro e1
              obtain ⟨e, he, hk⟩ := (HKM.out y.k).1 e1
              have hd : R = R.take t ++ y :: R.drop (t + 1) := by
                obtain ⟨h1, h2⟩ := List.getElem?_eq_some_iff.1 hy
                rw [← h2, ← List.drop_eq_getElem_cons h1, List.take_append_drop]
              rw [hd] at nr
              exact (List.pairwise_append.1 nr).2.2 e he y (by simp) hk
            rw [hs0] at l2
            obtain ⟨D, hD, hQ⟩ := S
            obtain ⟨X, r1, hX, tX⟩ := hD.store lawS Try.underlying43 (by unfold maxLen; omega) (keyS hyo) (val := .bool true) rfl
            have cY : Chg (fun i => i = ms) wr X := (Chg.refl _ _).turned tX (fun _ => rfl)
            have SY : SeenS X ms (ns + 1) (setL M y.k 0 0) := ⟨_, hX, hQ.put injS (hD.tidy lawS) (lawS.key (keyS hyo)) 0 0⟩
            have hkm' : ∀ z, hasL (setL M y.k 0 0) z = true ↔ ∃ e ∈ R.take (t + 1), e.k = z := by
              intro z
              have htk : R.take (t + 1) = R.take t ++ [y] := by rw [List.take_add_one, hy]; rfl
              rw [htk, hasL_iff]
              constructor
              · rintro ⟨e, he, rfl⟩
                rcases mem_setL.1 he with ⟨h1, _⟩ | rfl
                · obtain ⟨e2, h2, h3⟩ := (HKM.out e.k).1 (hasL_iff.2 ⟨e, h1, rfl⟩)
                  exact ⟨e2, List.mem_append_left _ h2, h3⟩
                · exact ⟨y, by simp, rfl⟩
              · rintro ⟨e, he, rfl⟩
                rcases List.mem_append.1 he with he | he
                · obtain ⟨e2, h2, h3⟩ := hasL_iff.1 ((HKM.out e.k).2 ⟨e, he, rfl⟩)
                  by_cases h4 : e2.k = y.k
                  · exact ⟨⟨y.k, 0, 0⟩, mem_setL.2 (.inr rfl), by rw [← h3, h4]⟩
                  · exact ⟨e2, mem_setL.2 (.inl ⟨h2, h4⟩), h3⟩
                · simp at he
                  subst he
                  exact ⟨⟨e.k, 0, 0⟩, mem_setL.2 (.inr rfl), rfl⟩
            have HF := Lib.hid (show ∃ (t' ns : Nat) (M : List SEnt2), t' ≤ r ∧ Value.int .i64 ((t : Int) + 1) = .int .i64 t' ∧ ns ≤ t' ∧ SeenS X ms ns M ∧ (∀ y, hasL M y = true ↔ ∃ e ∈ R.take t', e.k = y) ∧ Chg (fun i => i = ms) wE X from ⟨t + 1, ns + 1, _, by omega, by go_num, by omega, SY, hkm', cT.trans cY⟩)
            have htr' : (t : Int) < (r : Int) := by omega
            have htc : (t : Int) < (cap1 : Int) := by omega
            have hyh' : ¬ h < y.d := by omega
            by_cases ht0 : t = 0
            · subst ht0
              clear hyL hyo hyy OT MT v1 v2 nr hs0 hD hQ hX tX cY SY hkm' cT hy
              go_wp2_with fail
              go_roundw
              case rel => exact HF.out
              case measure => simp [idx]; omega
            · obtain ⟨z, hz⟩ : ∃ z, R[t - 1]? = some z := ⟨_, List.getElem?_eq_getElem (by rw [← HR.out]; omega)⟩
              obtain ⟨hzL, hzh⟩ := HD1.out.mem.1 (List.mem_of_getElem? hz)
              have hzz : (keysS R)[t - 1]? = some [encStr z.k] := by rw [keysS, List.getElem?_map, hz]; rfl
              have z0 := OT.cell rfl hzz (j := 0) rfl
              simp only [Nat.mul_one, Nat.add_zero] at z0
              have l3 := MT.look z.k (HAE.out.q.ok z hzL).2
              rw [(atL_mem ND.out hzL).1] at l3
              have hzy : ¬ y.d < z.d := by
                have := HD1.out.sorted
                obtain ⟨q1, q2⟩ := List.getElem?_eq_some_iff.1 hz
                obtain ⟨q3, q4⟩ := List.getElem?_eq_some_iff.1 hy
                have := (List.pairwise_iff_getElem.1 this) (t - 1) t q1 q3 (by omega)
                rw [q2, q4] at this
                unfold dueLt at this
                omega
              have ht1 : (0 : Int) < (t : Int) := by omega
              have ht2 : IntKind.i64.wrap ((t : Int) - 1) = (t : Int) - 1 := by rw [IntKind.wrap_i64]; omega
              have ht3 : ((t : Int) - 1).toNat = t - 1 := by omega
              have ht4 : (0 : Int) ≤ (t : Int) - 1 := by omega
              have ht5 : (t : Int) - 1 < (r : Int) := by omega
              clear hyL hyo hyy OT MT v1 v2 nr hs0 hD hQ hX tX cY SY hkm' cT hy hz hzL hzh hzz
              go_wp2_with fail
              go_roundw
              case rel => exact HF.out
              case measure => simp [idx]; omega
          · obtain rfl : t = r := by omega
            have htt : R.take t = R := List.take_of_length_le (by rw [HR.out]; exact Nat.le_refl _)
            rw [htt] at HKM
            have ho : ∀ i, i < w.heap.size → i ≠ ms := fun i hi e => by omega
            have AT := HAE.out.other cT (by omega) (by omega) (fun i hi e => by omega)
            have MT := HME.out.chg cT (by omega)
            have OT := HOE.out.chg cT (fun k hk e => HG.out k hk e)
            have hnx := nextS ba ma n L wr AT.q
            have HNX := Lib.hid hnx
            clear hnx cT htt ho
            go_wp2_with fail
            refine HNX.out.mono ?_
            rintro e wN ⟨rfl, cN⟩
            have AN := AT.chg0 cN
            have MN := MT.chg cN (fun h => h)
            have ON := OT.chg cN (fun _ _ h => h)
            have SN := S.chg cN (fun h => h)
            clear AT MT OT S cN HNX HAE HME HOE
            have hmN := MN
            obtain ⟨D, hD, hQ⟩ := hmN
            have HQ := Lib.hid hQ
            obtain ⟨q, hq⟩ : ∃ q, q = wN.heap.size := ⟨_, rfl⟩
            have HAN := Lib.hid AN
            have HMN := Lib.hid MN
            have HON := Lib.hid ON
            have HSN := Lib.hid SN
            obtain ⟨nx, hnx⟩ : ∃ nx, nx = nextL L := ⟨_, rfl⟩
            obtain ⟨an, han⟩ : ∃ an, an = anyL L := ⟨_, rfl⟩
            rw [← hnx, ← han]
            have HNX := Lib.hid hnx
            have HAN2 := Lib.hid han
            have hml := MN.lt
            have hsl : ms < wN.heap.size := by obtain ⟨_, h1, _⟩ := SN; exact h1.lt
            clear AN MN ON SN hQ hnx han
            go_wp2_with (at_range; refine wpList_range_own _ rfl _ 36 rfl 9 2 lawS Try.underlying36 intR mm k D rfl hD ?_; intro w0 hrg0 hg0 hs0)
            rw [← hq] at hrg0
            simp only [← hq]
            have c0 : Chg (fun _ => False) wN w0 := (Chg.refl _ _).grown hg0 (fun k _ hk => by cases hk)
            have hw0 : w0.heap.size = q + 1 := by omega
            have C0 := Lib.hid c0
            have hqm : mm ≠ q ∧ ms ≠ q := by omega
            have hqh : wN.heap.size ≤ q := by omega
            clear hg0 hs0 hD hq hml hsl c0
            go_frame
            go_loopw [] (fun wr => ∃ left cnt V, wr.ranges Try.prog 9 intR mm q k D left cnt ∧ Chg (fun i => i = q) w0 wr ∧ Vis Lit.string L left V) (fun wr => wr.rangeLeft mm q)
            case atStart => exact ⟨_, _, [], hrg0, Chg.refl _ _, Vis.start2 HQ.out⟩
            case round =>
              clear hrg0
              obtain ⟨left, cnt, V, hrg, hc, hvis⟩ := hrel
              go_wp2_with (at_next; refine wpList_next_ranges _ rfl _ rfl 9 lawS intR encStr (Value.int .i64) (fun key kl hk => by obtain ⟨x, hx, _⟩ := invS hk; exact ⟨x, hx⟩) (fun v y hv => by obtain ⟨c, hc, _⟩ := intR_inv hv; exact ⟨c, hc⟩) mm q k _ _ _ rfl hrg ?_ ?_)
              · intro _ hl0
                have cZ : Chg (fun _ => False) wN wr := C0.out.trans' hc (fun i hi e => by omega)
                have HB := Lib.hid (bel0 HAN.out.bel cZ (by have := HAN.out.c.size; omega))
                have MZ := HMN.out.chg cZ (fun h => h)
                have OZ := HON.out.chg cZ (fun _ _ h => h)
                have HMZ := Lib.hid MZ
                obtain ⟨D2, hD2, hQ2⟩ := MZ
                have hsz := hQ2.size
                clear hrg hc hvis hl0 cZ hQ2
                by_cases hL0 : L = []
                · have han0 : an = false := by rw [HAN2.out, hL0]; rfl
                  subst han0
                  have hz0 : Maps.size D2 = 0 := by rw [hsz, hL0]; rfl
                  have HZ := Lib.hid hz0
                  clear hL0 hsz OZ hz0
                  go_wp2_with (at_len; refine wpList_len_own _ rfl _ 36 rfl 9 2 Try.underlying36 _ mm k D2 rfl hD2 ?_; rw [HZ.out])
                  go_ret
                  exact ⟨rfl, HB.out⟩
                · have han0 : an = true := by rw [HAN2.out, anyL_of hL0]
                  subst han0
                  have hz0 : 0 < Maps.size D2 := by rw [hsz]; exact List.length_pos_iff.2 hL0
                  obtain ⟨sz, hsz2⟩ : ∃ sz, sz = Maps.size D2 := ⟨_, rfl⟩
                  obtain ⟨g1', g2'⟩ := due_head hL0 HD1.out
                  rw [← HNX.out] at g1' g2'
                  rw [← hsz2] at hz0
                  have HZ := Lib.hid hsz2
                  have hz1 : (0 : Int) < (sz : Int) := by omega
                  clear hsz hsz2 hL0
                  by_cases hR0 : R = []
                  · have ht0 : t = 0 := by rw [HR.out, hR0]; rfl
                    subst ht0
                    have hn1 := g1' hR0
                    have hn2 : ¬ nx ≤ h := by omega
                    clear g1' g2' OZ hR0
                    go_wp2_with (at_len; refine wpList_len_own _ rfl _ 36 rfl 9 2 Try.underlying36 _ mm k D2 rfl hD2 ?_; rw [← HZ.out])
                    go_ret
                    exact ⟨rfl, HB.out⟩
                  · have ht0 : 0 < t := by rw [HR.out]; exact List.length_pos_iff.2 hR0
                    obtain ⟨y, hy⟩ : ∃ y, R[0]? = some y := ⟨_, List.getElem?_eq_getElem (by rw [← HR.out]; exact ht0)⟩
                    have hyn := g2' y hy
                    obtain ⟨hyL, hyh⟩ := HD1.out.mem.1 (List.mem_of_getElem? hy)
                    have hyy : (keysS R)[0]? = some [encStr y.k] := by rw [keysS, List.getElem?_map, hy]; rfl
                    obtain ⟨k1, rfl⟩ := OZ.pos (by rw [List.length_map, ← HR.out]; omega)
                    obtain ⟨_, z1, -, -⟩ := OZ.some_form
                    simp only [Value.slice.injEq] at z1
                    obtain ⟨rfl, -, -⟩ := z1
                    have y0 := OZ.cell rfl hyy (j := 0) rfl
                    simp only [Nat.zero_mul, Nat.add_zero] at y0
                    have l1 := AtM.look HMZ.out y.k (HAN.out.q.ok y hyL).2
                    rw [(atL_mem ND.out hyL).1, hyn] at l1
                    have ht1 : (0 : Int) < (t : Int) := by omega
                    have ht2 : (t : Int) ≠ 0 := by omega
                    have ht3 : ((t : Int) == 0) = false := by rw [beq_eq_false_iff_ne]; exact ht2
                    clear g1' g2' OZ hR0 hyL hyy hyn hy
                    go_wp2_with (at_len; refine wpList_len_own _ rfl _ 36 rfl 9 2 Try.underlying36 _ mm k D2 rfl hD2 ?_; rw [← HZ.out])
                    go_ret
                    exact ⟨rfl, HB.out⟩
              · intro x c kl y1 y2 w1 cnt1 hkey hlk hRv hat hrg1 hcnt hg1 hs1 hen
                obtain ⟨x', hxe, hkl, hxok⟩ := invS hkey
                obtain rfl : x = x' := by simpa using hxe
                subst hkl
                obtain ⟨c', hce, hy⟩ := intR_inv hRv
                simp at hce
                subst hce
                simp only [Prod.mk.injEq] at hy
                obtain ⟨hy1, hy2⟩ := hy
                subst hy1
                obtain ⟨e, heL, hek, hed⟩ := HQ.out.entryI hat
                subst hek hed
                have hv1 := hvis.step injS ND.out (lawS.key (keyS hxok)) heL hlk
                have hc1 : Chg (fun i => i = q) w0 w1 := hc.grown hg1 (fun k _ hk => by cases hk; rfl)
                have cZ : Chg (fun _ => False) wN w1 := C0.out.trans' hc1 (fun i hi e => by omega)
                have SZ := HSN.out.chg cZ (fun h => h)
                have l1 := SZ.look e.k hxok
                have hLn : L ≠ [] := by rintro rfl; cases heL
                have hnx1 : ¬ e.d < nx := by rw [HNX.out]; have := (nextL_is hLn).2 e heL; omega
                have HV := Lib.hid hv1
                have HC := Lib.hid hc1
                have HM : cnt1 < cnt := hcnt
                have HOLD := Lib.hid hrg
                have HRG := Lib.hid hrg1
                by_cases hh : e.d ≤ h
                · have hs2 : hasL M e.k = true := (HKM.out e.k).2 ⟨e, HD1.out.mem.2 ⟨heL, hh⟩, rfl⟩
                  rw [hs2] at l1
                  clear hc hvis hv1 hrg1 hkey hlk hRv hat hg1 hcnt hrg hxok heL hc1 cZ SZ hLn hs2
                  go_wp2_with fail
                  go_roundw
                  case rel => exact ⟨_, cnt1, V ++ [e], HRG.out, HC.out, HV.out⟩
                  case measure => rw [HRG.out.left_eq, HOLD.out.left_eq]; exact HM
                · clear hc hvis hv1 hrg1 hkey hlk hRv hat hg1 hcnt hrg hxok heL hc1 cZ SZ hLn l1
                  go_wp2_with fail
                  go_roundw
                  case rel => exact ⟨_, cnt1, V ++ [e], HRG.out, HC.out, HV.out⟩
                  case measure => rw [HRG.out.left_eq, HOLD.out.left_eq]; exact HM
theorem wakeOrder_all (a : Option Addr) (len cap : Nat) (els : List (List Value)) (h : Int) (w : World) (hI : FlatIn [.int .i64, .str, .int .i64] w a len cap els) :
    Calls Try.prog 4 #[.slice a len cap, .int .i64 h] w fun e w' => e = .returned (.bool true) ∧ Below w.heap.size w w' := wakeOrder_walk a len cap els h w hI
end Go.Proofs.Ythholmapjbaknaa
