/- Package wake's Next, at two types of keys: contracts. -/
import Derived.Test.YthholmapjbaknaaQue
set_option linter.unusedVariables false
set_option linter.unusedSectionVars false
namespace Go.Chron
open Go Go.RowKit
section
variable {κ : Type} [DecidableEq κ] {lit : κ → Lit} {D : DataW Unit} {L V : List (Ent κ)} {left : Lit → Bool}
theorem QL.entry (h : QL lit (fun e => oneD e.d e.s) D L) {x : κ} {c : Int × Int} (hat : ∀ zd, D.atKey (lit x) zd = (oneD c.1 c.2, ([] : List MemPlace)).1) : ∃ e ∈ L, e.k = x ∧ e.d = c.1 ∧ e.s = c.2 := by
  have hh := Maps.has_true_of_atKey hat
  rw [h.has] at hh
  obtain ⟨e, he, hk⟩ := hasL_iff.1 hh
  have h1 := h.at_ e he .nil
  rw [hk, hat] at h1
  obtain ⟨h2, h3⟩ := oneD_inj h1
  exact ⟨e, he, hk, h2.symm, h3.symm⟩
/-- V: those that have come, of a map under way. -/
structure Vis (lit : κ → Lit) (L : List (Ent κ)) (left : Lit → Bool) (V : List (Ent κ)) : Prop where
  iff : ∀ e ∈ L, (left (lit e.k) = false ↔ e ∈ V)
  sub : ∀ e ∈ V, e ∈ L
  nodup : V.Pairwise (fun a b => a.k ≠ b.k)
theorem Vis.start (h : QL lit (fun e => oneD e.d e.s) D L) : Vis lit L (Maps.has D) [] :=
  ⟨fun e he => by simp only [List.not_mem_nil, iff_false]; rw [h.has, hasL_iff.2 ⟨e, he, rfl⟩]; simp, by simp, List.Pairwise.nil⟩
theorem ent_eq (hn : L.Pairwise (fun a b => a.k ≠ b.k)) {a b : Ent κ} (ha : a ∈ L) (hb : b ∈ L) (h : a.k = b.k) : a = b := by
  have h1 := lookL_of_mem hn ha
  have h2 := lookL_of_mem hn hb
  rw [h, h2] at h1
  cases h1; rfl
theorem Vis.step (h : Vis lit L left V) (hinj : ∀ x y, lit x = lit y → x = y) (hn : L.Pairwise (fun a b => a.k ≠ b.k)) {e : Ent κ} (hk : WideAt.IsKeyLit (lit e.k)) (he : e ∈ L) (hl : left (lit e.k) = true) :
    Vis lit L (fun z => left z && !z.sameKey (lit e.k)) (V ++ [e]) := by
  refine ⟨fun a ha => ?_, fun a ha => ?_, ?_⟩
  · simp only [Bool.and_eq_false_iff, Bool.not_eq_false', List.mem_append, List.mem_singleton]
    rw [h.iff a ha]
    refine or_congr Iff.rfl ⟨fun hs => ?_, fun hs => ?_⟩
    · exact ent_eq hn ha he (hinj _ _ (WideAt.sameKey_eq hs))
    · rw [hs]; exact WideAt.sameKey_self hk
  · rcases List.mem_append.1 ha with h1 | h1
    · exact h.sub a h1
    · simp at h1; rw [h1]; exact he
  · refine List.pairwise_append.2 ⟨h.nodup, by simp, ?_⟩
    intro a ha c hc
    simp at hc
    subst hc
    intro e1
    have := ent_eq hn (h.sub a ha) he e1
    subst this
    rw [(h.iff a he).2 ha] at hl
    cases hl
theorem nodup_of (h : L.Pairwise (fun a b => a.k ≠ b.k)) : L.Nodup := h.imp (fun h e => h (by rw [e]))
theorem Vis.done (h : Vis lit L left V) (hn : L.Pairwise (fun a b => a.k ≠ b.k)) (h0 : ∀ kl, left kl = false) : V.Perm L := by
  refine (List.perm_ext_iff_of_nodup (nodup_of h.nodup) (nodup_of hn)).2 (fun a => ⟨h.sub a, fun ha => (h.iff a ha).1 (h0 _)⟩)
def anyL (L : List (Ent κ)) : Bool := !L.isEmpty
theorem anyL_of (h : L ≠ []) : anyL L = true := by cases L with | nil => exact absurd rfl h | cons _ _ => rfl
theorem anyL_snoc (V : List (Ent κ)) (e : Ent κ) : anyL (V ++ [e]) = true := anyL_of (by simp)
theorem nextL_snoc (V : List (Ent κ)) (e : Ent κ) : nextL (V ++ [e]) = if V = [] then e.d else if e.d < nextL V then e.d else nextL V := by
  cases V with
  | nil => rfl
  | cons a r =>
    rw [if_neg (by simp)]
    unfold nextL
    simp [List.foldl_append]
end
end Go.Chron
namespace Go.Proofs.Ythholmapjbaknaa
open Go.RowKit Go.Chron

set_option maxRecDepth 100000 in
set_option maxHeartbeats 1600000 in
theorem nextI (b m n : Nat) (L : List (Ent (Int))) (w : World) (h : QI w b m n L) :
    Calls Try.prog 26 #[.pointer (some ⟨b, 0, none⟩)] w fun e w' => e = .returned (.tuple #[.int .i64 (nextL L), .bool (anyL L)]) ∧ Chg (fun _ => False) w w' := by
  obtain ⟨D, hD, hQ⟩ := h.own
  have hlt := h.lt
  have e0 := h.box.cell 0
  simp at e0
  have hl := lenI b m n L w h
  by_cases hL : L = []
  · subst hL
    simp only [List.length_nil] at hl
    clear h hD hQ
    go_enter Try.func26, Try.ntmps26
    go_wp2_with fail
    refine hl.mono ?_
    rintro e w' ⟨rfl, rfl⟩
    go_wp2_with fail
    go_ret2
    exact ⟨rfl, Chg.refl _ _⟩
  have hlp : 0 < L.length := List.length_pos_iff.2 hL
  have hlz : (((L.length : Nat) : Int) == 0) = false := by rw [beq_eq_false_iff_ne]; omega
  have HQ := Lib.hid hQ
  have HLN := Lib.hid hL
  obtain ⟨ln, hln⟩ : ∃ ln, ln = L.length := ⟨_, rfl⟩
  rw [← hln] at hl hlz
  clear h hQ hL hlp hln
  obtain ⟨r, hr⟩ : ∃ r, r = w.heap.size := ⟨_, rfl⟩
  go_enter Try.func26, Try.ntmps26
  go_wp2_with fail
  refine hl.mono ?_
  rintro e w' ⟨rfl, rfl⟩
  clear hl
  go_wp2_with (at_range; refine wpList_range_own _ rfl _ 56 rfl 2 60 lawI Try.underlying56 _ m n D rfl hD ?_; intro w0 hrg0 hg0 hs0)
  rw [← hr] at hrg0
  simp only [← hr]
  have c0 : Chg (fun _ => False) w w0 := (Chg.refl _ _).grown hg0 (fun k _ hk => by cases hk)
  have hw0 : w0.heap.size = r + 1 := by omega
  have HR := Lib.hid hr
  clear hg0 hs0 hD e0 hr hlz
  go_frame
  go_loopw [4, 5] (fun v4 v5 wr => ∃ left cnt V, wr.ranges Try.prog 2 oneR m r n D left cnt ∧ Chg (fun i => i = r) w0 wr ∧ Vis (Lit.int .i64) L left V ∧ v4 = .int .i64 (nextL V) ∧ v5 = .bool (anyL V))
    (fun _ _ wr => wr.rangeLeft m r)
  case atStart => exact ⟨_, _, [], hrg0, Chg.refl _ _, Vis.start HQ.out, rfl, rfl⟩
  case round =>
    clear hrg0
    obtain ⟨left, cnt, V, hrg, hc, hvis, rfl, rfl⟩ := hrel
    go_wp2_with (at_next; refine wpList_next_ranges _ rfl _ rfl 2 lawI oneR (Value.int .i64) (fun c : Int × Int => .agg #[.int .i64 c.1, .int .i64 c.2]) (fun key kl hk => by obtain ⟨x, hx, _⟩ := invI hk; exact ⟨x, hx⟩) (fun v y hv => by obtain ⟨c, hc, _⟩ := oneR_inv hv; exact ⟨c, hc⟩) m r n _ _ _ rfl hrg ?_ ?_)
    · intro _ hl0
      have hp := hvis.done HQ.out.nodup hl0
      have hV : V ≠ [] := fun e => by rw [e] at hp; exact HLN.out (List.nil_perm.1 hp)
      have hnx : nextL V = nextL L := (IsNext.eq (L := L) ⟨by obtain ⟨x, hx, he⟩ := (nextL_is hV).1; exact ⟨x, hp.subset hx, he⟩, fun e he => (nextL_is hV).2 e (hp.symm.subset he)⟩)
      have hcc : Chg (fun _ => False) w wr := c0.trans' hc (fun i hi e => by have := HR.out; omega)
      rw [hnx, anyL_of hV]
      clear hrg hc hvis hl0 hp hnx
      go_wp2_with fail
      go_ret2
      exact ⟨by rw [anyL_of HLN.out]; rfl, hcc⟩
    · intro x c1 c2 kl y1 y2 w1 cnt1 hkey hlk hRv hat hrg1 hcnt hg1 hs1 hen
      obtain ⟨x', hxe, hkl, hxok⟩ := invI hkey
      obtain rfl : x = x' := by simpa using hxe
      subst hkl
      have hy : y1 = oneD c1 c2 := by have := (oneR_mk c1 c2).symm.trans hRv; cases this; rfl
      subst hy
      obtain ⟨e, heL, hek, hed, hes⟩ := HQ.out.entry (c := (c1, c2)) hat
      subst hek hed hes
      have hv1 := hvis.step (injI) HQ.out.nodup (lawI.key (keyI hxok)) heL hlk
      have hc1 : Chg (fun i => i = r) w0 w1 := hc.grown hg1 (fun k _ hk => by cases hk; rfl)
      have hc2 := hc1.alloc (Obj.cells #[Value.int .i64 e.d, Value.int .i64 e.s] 60)
      have hrg2 := hrg1.alloc (Obj.cells #[Value.int .i64 e.d, Value.int .i64 e.s] 60)
      have hnl := nextL_snoc V e
      have HC := Lib.hid hc2
      have HV := Lib.hid hv1
      have HRG := Lib.hid hrg2
      have HM : cnt1 < cnt := hcnt
      have HOLD := Lib.hid hrg
      clear hc hc1 hc2 hvis hv1 hrg1 hrg2 hkey hlk hRv hat hg1 hcnt hrg hxok heL
      have fin : ∀ z : Int, z = nextL (V ++ [e]) → ∃ left cnt V', (w1.alloc (Obj.cells #[Value.int .i64 e.d, Value.int .i64 e.s] 60)).ranges Try.prog 2 oneR m r n D left cnt ∧ Chg (fun i => i = r) w0 (w1.alloc (Obj.cells #[Value.int .i64 e.d, Value.int .i64 e.s] 60)) ∧ Vis (Lit.int .i64) L left V' ∧ Value.int .i64 z = .int .i64 (nextL V') ∧ Value.bool true = .bool (anyL V') := fun z hz =>
        ⟨_, _, V ++ [e], HRG.out, HC.out, HV.out, by rw [hz], by rw [anyL_snoc]⟩
      by_cases hV : V = []
      · rw [if_pos hV] at hnl
        rw [show anyL V = false by rw [hV]; rfl]
        have HF := Lib.hid (fin e.d hnl.symm)
        clear hnl fin
        go_wp2_with fail
        go_roundw
        case rel => exact HF.out
        case measure => rw [HRG.out.left_eq, HOLD.out.left_eq]; exact HM
      · rw [if_neg hV] at hnl
        obtain ⟨nv, hnv⟩ : ∃ nv, nv = nextL V := ⟨_, rfl⟩
        rw [← hnv] at hnl ⊢
        rw [anyL_of hV]
        by_cases hlt2 : e.d < nv
        · rw [if_pos hlt2] at hnl
          have HF := Lib.hid (fin e.d hnl.symm)
          clear hnl fin hnv
          go_wp2_with fail
          go_roundw
          case rel => exact HF.out
          case measure => rw [HRG.out.left_eq, HOLD.out.left_eq]; exact HM
        · rw [if_neg hlt2] at hnl
          have HF := Lib.hid (fin nv hnl.symm)
          clear hnl fin hnv
          go_wp2_with fail
          go_roundw
          case rel => exact HF.out
          case measure => rw [HRG.out.left_eq, HOLD.out.left_eq]; exact HM

set_option maxRecDepth 100000 in
set_option maxHeartbeats 1600000 in
theorem nextS (b m n : Nat) (L : List (Ent (List UInt8))) (w : World) (h : QS w b m n L) :
    Calls Try.prog 17 #[.pointer (some ⟨b, 0, none⟩)] w fun e w' => e = .returned (.tuple #[.int .i64 (nextL L), .bool (anyL L)]) ∧ Chg (fun _ => False) w w' := by
  obtain ⟨D, hD, hQ⟩ := h.own
  have hlt := h.lt
  have e0 := h.box.cell 0
  simp at e0
  have hl := lenS b m n L w h
  by_cases hL : L = []
  · subst hL
    simp only [List.length_nil] at hl
    clear h hD hQ
    go_enter Try.func17, Try.ntmps17
    go_wp2_with fail
    refine hl.mono ?_
    rintro e w' ⟨rfl, rfl⟩
    go_wp2_with fail
    go_ret2
    exact ⟨rfl, Chg.refl _ _⟩
  have hlp : 0 < L.length := List.length_pos_iff.2 hL
  have hlz : (((L.length : Nat) : Int) == 0) = false := by rw [beq_eq_false_iff_ne]; omega
  have HQ := Lib.hid hQ
  have HLN := Lib.hid hL
  obtain ⟨ln, hln⟩ : ∃ ln, ln = L.length := ⟨_, rfl⟩
  rw [← hln] at hl hlz
  clear h hQ hL hlp hln
  obtain ⟨r, hr⟩ : ∃ r, r = w.heap.size := ⟨_, rfl⟩
  go_enter Try.func17, Try.ntmps17
  go_wp2_with fail
  refine hl.mono ?_
  rintro e w' ⟨rfl, rfl⟩
  clear hl
  go_wp2_with (at_range; refine wpList_range_own _ rfl _ 65 rfl 9 60 lawS Try.underlying65 _ m n D rfl hD ?_; intro w0 hrg0 hg0 hs0)
  rw [← hr] at hrg0
  simp only [← hr]
  have c0 : Chg (fun _ => False) w w0 := (Chg.refl _ _).grown hg0 (fun k _ hk => by cases hk)
  have hw0 : w0.heap.size = r + 1 := by omega
  have HR := Lib.hid hr
  clear hg0 hs0 hD e0 hr hlz
  go_frame
  go_loopw [4, 5] (fun v4 v5 wr => ∃ left cnt V, wr.ranges Try.prog 9 oneR m r n D left cnt ∧ Chg (fun i => i = r) w0 wr ∧ Vis Lit.string L left V ∧ v4 = .int .i64 (nextL V) ∧ v5 = .bool (anyL V))
    (fun _ _ wr => wr.rangeLeft m r)
  case atStart => exact ⟨_, _, [], hrg0, Chg.refl _ _, Vis.start HQ.out, rfl, rfl⟩
  case round =>
    clear hrg0
    obtain ⟨left, cnt, V, hrg, hc, hvis, rfl, rfl⟩ := hrel
    go_wp2_with (at_next; refine wpList_next_ranges _ rfl _ rfl 9 lawS oneR encStr (fun c : Int × Int => .agg #[.int .i64 c.1, .int .i64 c.2]) (fun key kl hk => by obtain ⟨x, hx, _⟩ := invS hk; exact ⟨x, hx⟩) (fun v y hv => by obtain ⟨c, hc, _⟩ := oneR_inv hv; exact ⟨c, hc⟩) m r n _ _ _ rfl hrg ?_ ?_)
    · intro _ hl0
      have hp := hvis.done HQ.out.nodup hl0
      have hV : V ≠ [] := fun e => by rw [e] at hp; exact HLN.out (List.nil_perm.1 hp)
      have hnx : nextL V = nextL L := (IsNext.eq (L := L) ⟨by obtain ⟨x, hx, he⟩ := (nextL_is hV).1; exact ⟨x, hp.subset hx, he⟩, fun e he => (nextL_is hV).2 e (hp.symm.subset he)⟩)
      have hcc : Chg (fun _ => False) w wr := c0.trans' hc (fun i hi e => by have := HR.out; omega)
      rw [hnx, anyL_of hV]
      clear hrg hc hvis hl0 hp hnx
      go_wp2_with fail
      go_ret2
      exact ⟨by rw [anyL_of HLN.out]; rfl, hcc⟩
    · intro x c1 c2 kl y1 y2 w1 cnt1 hkey hlk hRv hat hrg1 hcnt hg1 hs1 hen
      obtain ⟨x', hxe, hkl, hxok⟩ := invS hkey
      obtain rfl : x = x' := by simpa using hxe
      subst hkl
      have hy : y1 = oneD c1 c2 := by have := (oneR_mk c1 c2).symm.trans hRv; cases this; rfl
      subst hy
      obtain ⟨e, heL, hek, hed, hes⟩ := HQ.out.entry (c := (c1, c2)) hat
      subst hek hed hes
      have hv1 := hvis.step (injS) HQ.out.nodup (lawS.key (keyS hxok)) heL hlk
      have hc1 : Chg (fun i => i = r) w0 w1 := hc.grown hg1 (fun k _ hk => by cases hk; rfl)
      have hc2 := hc1.alloc (Obj.cells #[Value.int .i64 e.d, Value.int .i64 e.s] 60)
      have hrg2 := hrg1.alloc (Obj.cells #[Value.int .i64 e.d, Value.int .i64 e.s] 60)
      have hnl := nextL_snoc V e
      have HC := Lib.hid hc2
      have HV := Lib.hid hv1
      have HRG := Lib.hid hrg2
      have HM : cnt1 < cnt := hcnt
      have HOLD := Lib.hid hrg
      clear hc hc1 hc2 hvis hv1 hrg1 hrg2 hkey hlk hRv hat hg1 hcnt hrg hxok heL
      have fin : ∀ z : Int, z = nextL (V ++ [e]) → ∃ left cnt V', (w1.alloc (Obj.cells #[Value.int .i64 e.d, Value.int .i64 e.s] 60)).ranges Try.prog 9 oneR m r n D left cnt ∧ Chg (fun i => i = r) w0 (w1.alloc (Obj.cells #[Value.int .i64 e.d, Value.int .i64 e.s] 60)) ∧ Vis Lit.string L left V' ∧ Value.int .i64 z = .int .i64 (nextL V') ∧ Value.bool true = .bool (anyL V') := fun z hz =>
        ⟨_, _, V ++ [e], HRG.out, HC.out, HV.out, by rw [hz], by rw [anyL_snoc]⟩
      by_cases hV : V = []
      · rw [if_pos hV] at hnl
        rw [show anyL V = false by rw [hV]; rfl]
        have HF := Lib.hid (fin e.d hnl.symm)
        clear hnl fin
        go_wp2_with fail
        go_roundw
        case rel => exact HF.out
        case measure => rw [HRG.out.left_eq, HOLD.out.left_eq]; exact HM
      · rw [if_neg hV] at hnl
        obtain ⟨nv, hnv⟩ : ∃ nv, nv = nextL V := ⟨_, rfl⟩
        rw [← hnv] at hnl ⊢
        rw [anyL_of hV]
        by_cases hlt2 : e.d < nv
        · rw [if_pos hlt2] at hnl
          have HF := Lib.hid (fin e.d hnl.symm)
          clear hnl fin hnv
          go_wp2_with fail
          go_roundw
          case rel => exact HF.out
          case measure => rw [HRG.out.left_eq, HOLD.out.left_eq]; exact HM
        · rw [if_neg hlt2] at hnl
          have HF := Lib.hid (fin nv hnl.symm)
          clear hnl fin hnv
          go_wp2_with fail
          go_roundw
          case rel => exact HF.out
          case measure => rw [HRG.out.left_eq, HOLD.out.left_eq]; exact HM
end Go.Proofs.Ythholmapjbaknaa
