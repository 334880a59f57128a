/- Package wake's New, Set, Drop, At and Len, at two types of keys: contracts. Package wake's Next, at two types of keys: contracts. The map of what is done by each kind of event. The map of what came, by server and counter. -/
import Derived.Test.YtamhicdhbjniiaaGreatDoorM08
import Derived.Test.YtamhicdhbjniiaaGreatDoorRows
import Derived.Maps.StringElems
import Derived.DeepKeys3
set_option linter.unusedVariables false
set_option maxHeartbeats 1600000
set_option maxRecDepth 100000
section
namespace Go.Chron
open Go Go.RowKit
structure QAt {κ : Type} [DecidableEq κ] (P : Program) (T k : TypeId) (lit : κ → Lit) (ok : κ → Prop) (w : World) (b m n : Nat) (L : List (Ent κ)) : Prop where
 box : Blk w b T #[.map (some m), .int .i64 n]
 own : ∃ D, w.ownsMap P k oneR m n D ∧ QL lit (fun e => oneD e.d e.s) D L
 rise : L.Pairwise (fun a b => a.s < b.s)
 le : ∀ e ∈ L, 0 ≤ e.s ∧ e.s ≤ n
 ok : ∀ e ∈ L, In64 e.d ∧ ok e.k
section
variable {κ : Type} [DecidableEq κ] {P : Program} {T k : TypeId} {lit : κ → Lit} {ok : κ → Prop} {w w' : World} {b m n : Nat} {L : List (Ent κ)} {S : Nat → Prop}
theorem QAt.ne (h : QAt P T k lit ok w b m n L) : b ≠ m := by
 obtain ⟨D, ⟨es, clock, hm, _⟩, _⟩ := h.own
 intro e
 have := h.box
 unfold Blk at this
 rw [e, hm] at this
 cases this
theorem QAt.lt (h : QAt P T k lit ok w b m n L) : b < w.heap.size ∧ m < w.heap.size := by
 obtain ⟨D, hD, _⟩ := h.own
 exact ⟨h.box.lt, hD.lt⟩
theorem QAt.chg (h : QAt P T k lit ok w b m n L) (hc : Chg S w w') (hb : ¬ S b) (hm : ¬ S m) : QAt P T k lit ok w' b m n L := by
 obtain ⟨D, hD, hQ⟩ := h.own
 exact ⟨h.box.chg hc hb, ⟨D, ownsMap_chg hD hc hm, hQ⟩, h.rise, h.le, h.ok⟩
theorem QAt.chg0 (h : QAt P T k lit ok w b m n L) (hc : Chg (fun _ => False) w w') : QAt P T k lit ok w' b m n L := h.chg hc (fun h => h) (fun h => h)
theorem QAt.put {W : World} {D : DataW Unit} {x : κ} {d : Int} {key : Value} (h : QAt P T k lit ok w b m n L) (bX : Blk w' b T #[.map (some m), .int .i64 ((n : Int) + 1)]) (hX : w'.ownsMap P k oneR m (n + 1) (D.put (lit x) (oneD d ((n : Int) + 1)))) (hQ : QL lit (fun e => oneD e.d e.s) D L)
  (hinj : ∀ x y, lit x = lit y → x = y) (K : Maps.Keyed P k) (hk : keyOf P k key = some (lit x)) (hx : ok x) (hd : In64 d) (hn : n ≤ 1000000) (hD : W.ownsMap P k oneR m n D) : QAt P T k lit ok w' b m (n + 1) (setL L x d ((n : Int) + 1)) := by
 refine ⟨by simpa using bX, ⟨_, hX, hQ.put hinj (hD.tidy K) (K.key hk) d _⟩, ?_, ?_, ?_⟩
 ·unfold setL
  refine List.pairwise_append.2 ⟨h.rise.filter _, by simp, ?_⟩
  intro a ha c hc
  simp at hc
  subst hc
  have := h.le a (mem_dropL.1 ha).1
  show a.s < (n : Int) + 1
  omega
 ·intro e he
  rcases mem_setL.1 he with ⟨he, _⟩ | rfl
  ·have := h.le e he
   exact ⟨this.1, by simp; omega⟩
  ·exact ⟨by show (0 : Int) ≤ (n : Int) + 1; omega, by simp⟩
 ·intro e he
  rcases mem_setL.1 he with ⟨he, _⟩ | rfl
  ·exact h.ok e he
  ·exact ⟨hd, hx⟩
end
end Go.Chron
namespace Go.Proofs.YtamhicdhbjniiaaGreatDoor
open Go.RowKit Go.Chron
theorem lawI : Maps.Keyed Tryz.prog 3 := Maps.int_keyed Tryz.underlying3
theorem keyI {x : Int} (h : In64 x) : keyOf Tryz.prog 3 (.int .i64 x) = some (.int .i64 x) := Maps.keyOf_int_mk Tryz.underlying3 (in64_wf h)
theorem invI {v : Value} {kl : Lit} (h : keyOf Tryz.prog 3 v = some kl) : ∃ x : Int, v = .int .i64 x ∧ kl = .int .i64 x ∧ In64 x := by
 obtain ⟨x, h1, h2, h3⟩ := Maps.keyOf_int_inv Tryz.underlying3 h
 exact ⟨x, h1, h2, wf_in64 h3⟩
abbrev QI (w : World) (b m n : Nat) (L : List (Ent (Int))) : Prop := QAt Tryz.prog 207 3 (Lit.int .i64) In64 w b m n L
theorem injI (x y : Int) (h : (Lit.int .i64) x = (Lit.int .i64) y) : x = y := by cases h; rfl
theorem newI (w : World) : Calls Tryz.prog 49 #[] w fun e w' => ∃ b m, e = .returned (.pointer (some ⟨b, 0, none⟩)) ∧ QI w' b m 0 [] ∧ w.heap.size ≤ b ∧ w.heap.size ≤ m ∧ b ≠ m ∧ Chg (fun _ => False) w w' := by
 have cMM := @run_makeMap Tryz.prog
 go_enter Tryz.func49, Tryz.ntmps49
 go_wp2_with fail
 go_ret
 have h0 := World.ownsMap_made w Tryz.prog 3 oneR
 refine ⟨_, w.heap.size, rfl, ⟨by simpa using Blk.new (w.alloc (Obj.map #[] 0)) 207 #[.map (some w.heap.size), .int .i64 0], ⟨_, ownsMap_chg h0 (chg0_alloc _ _) (fun h => h), QL.nil⟩, List.Pairwise.nil, by simp, by simp⟩, by simp, Nat.le_refl _, by simp, (chg0_alloc _ _).trans (chg0_alloc _ _)⟩
theorem setI (b m n : Nat) (L : List (Ent (Int))) (x : Int) (d : Int) (w : World) (h : QI w b m n L) (hn : n ≤ 1000000) (hx : In64 x) (hd : In64 d) :
  Calls Tryz.prog 53 #[.pointer (some ⟨b, 0, none⟩), Value.int .i64 x, .int .i64 d] w fun e w' => e = .returned (.tuple #[]) ∧ QI w' b m (n + 1) (setL L x d (n + 1)) ∧ Chg (fun i => i = b ∨ i = m) w w' := by
 obtain ⟨D, hD, hQ⟩ := h.own
 have hne := h.ne
 have hb := h.box
 have e0 := hb.cell 0
 have e1 := hb.cell 1
 have f1 := hb.frozen 1
 simp at e0 e1
 have hb1 := hb.set_ 1 (.int .i64 ((n : Int) + 1))
 have cc : Chg (fun i => i = b ∨ i = m) w (w.setCell ⟨b, 1, none⟩ (.int .i64 ((n : Int) + 1))) := (Chg.refl _ w).setCell (fun _ => .inl rfl) _
 have c1 : Chg (fun i => i = b) w (w.setCell ⟨b, 1, none⟩ (.int .i64 ((n : Int) + 1))) := Chg.setCell (S := fun i => i = b) (Chg.refl _ w) (fun _ => rfl) _
 have hD1 : (w.setCell ⟨b, 1, none⟩ (.int .i64 ((n : Int) + 1))).drew.ownsMap Tryz.prog 3 oneR m n D := (ownsMap_chg hD c1 (fun e => hne e.symm)).drew
 obtain ⟨X, r1, hX, tX⟩ := hD1.store lawI Tryz.underlying205 (by unfold maxLen; omega) (keyI hx) (oneR_mk d ((n : Int) + 1))
 have cX : Chg (fun i => i = b ∨ i = m) w X := cc.drew.turned tX (fun _ => .inr rfl)
 have bX : Blk X b 207 #[.map (some m), .int .i64 ((n : Int) + 1)] := Blk.chg (S := fun i => i = m) (by simpa using hb1.drew) ((Chg.refl _ _).turned tX (fun _ => rfl)) hne
 have hs := h.ok
 have QX : QI X b m (n + 1) (setL L x d (n + 1)) := h.put bX hX hQ injI lawI (keyI hx) hx hd hn hD1
 have HX := Lib.hid QX
 have HC := Lib.hid cX
 have g0 := hb1.cell 0
 have g1 := hb1.cell 1
 simp at g0 g1
 clear h hD hQ hne hb hb1 cc c1 hD1 hX tX cX bX hs QX
 go_enter Tryz.func53, Tryz.ntmps53
 go_wp2_with fail
 go_region
 go_wp2_with fail
 go_end0
 exact ⟨rfl, HX.out, HC.out⟩
theorem lenI (b m n : Nat) (L : List (Ent (Int))) (w : World) (h : QI w b m n L) :
  Calls Tryz.prog 95 #[.pointer (some ⟨b, 0, none⟩)] w fun e w' => e = .returned (.int .i64 L.length) ∧ w = w' := by
 obtain ⟨D, hD, hQ⟩ := h.own
 have e0 := h.box.cell 0
 simp at e0
 have hz := hQ.size
 clear h hQ
 go_enter Tryz.func95, Tryz.ntmps95
 go_wp2_with (at_len; refine wpList_len_own _ rfl _ 205 rfl 3 227 Tryz.underlying205 _ m n D rfl hD ?_)
 go_ret
 exact ⟨rfl, rfl⟩
end Go.Proofs.YtamhicdhbjniiaaGreatDoor
end
section
set_option linter.unusedSectionVars false
namespace Go.Chron
open Go Go.RowKit
section
variable {κ : Type} [DecidableEq κ] {lit : κ → Lit} {D : DataW Unit} {L V : List (Ent κ)} {left : Lit → Bool}
theorem QL.entry (h : QL lit (fun e => oneD e.d e.s) D L) {x : κ} {c : Int × Int} (hat : ∀ zd, D.atKey (lit x) zd = (oneD c.1 c.2, ([] : List MemPlace)).1) : ∃ e ∈ L, e.k = x ∧ e.d = c.1 ∧ e.s = c.2 := by
 have hh := Maps.has_true_of_atKey hat
 rw [h.has] at hh
 obtain ⟨e, he, hk⟩ := hasL_iff.1 hh
 have h1 := h.at_ e he .nil
 rw [hk, hat] at h1
 obtain ⟨h2, h3⟩ := oneD_inj h1
 exact ⟨e, he, hk, h2.symm, h3.symm⟩
structure Vis (lit : κ → Lit) (L : List (Ent κ)) (left : Lit → Bool) (V : List (Ent κ)) : Prop where
 iff : ∀ e ∈ L, (left (lit e.k) = false ↔ e ∈ V)
 sub : ∀ e ∈ V, e ∈ L
 nodup : V.Pairwise (fun a b => a.k ≠ b.k)
theorem Vis.start (h : QL lit (fun e => oneD e.d e.s) D L) : Vis lit L (Maps.has D) [] :=
 ⟨fun e he => by simp only [List.not_mem_nil, iff_false]; rw [h.has, hasL_iff.2 ⟨e, he, rfl⟩]; simp, by simp, List.Pairwise.nil⟩
theorem ent_eq (hn : L.Pairwise (fun a b => a.k ≠ b.k)) {a b : Ent κ} (ha : a ∈ L) (hb : b ∈ L) (h : a.k = b.k) : a = b := by
 have h1 := lookL_of_mem hn ha
 have h2 := lookL_of_mem hn hb
 rw [h, h2] at h1
 cases h1; rfl
theorem Vis.step (h : Vis lit L left V) (hinj : ∀ x y, lit x = lit y → x = y) (hn : L.Pairwise (fun a b => a.k ≠ b.k)) {e : Ent κ} (hk : WideAt.IsKeyLit (lit e.k)) (he : e ∈ L) (hl : left (lit e.k) = true) :
  Vis lit L (fun z => left z && !z.sameKey (lit e.k)) (V ++ [e]) := by
 refine ⟨fun a ha => ?_, fun a ha => ?_, ?_⟩
 ·simp only [Bool.and_eq_false_iff, Bool.not_eq_false', List.mem_append, List.mem_singleton]
  rw [h.iff a ha]
  refine or_congr Iff.rfl ⟨fun hs => ?_, fun hs => ?_⟩
  ·exact ent_eq hn ha he (hinj _ _ (WideAt.sameKey_eq hs))
  ·rw [hs]; exact WideAt.sameKey_self hk
 ·rcases List.mem_append.1 ha with h1 | h1
  ·exact h.sub a h1
  ·simp at h1; rw [h1]; exact he
 ·refine List.pairwise_append.2 ⟨h.nodup, by simp, ?_⟩
  intro a ha c hc
  simp at hc
  subst hc
  intro e1
  have := ent_eq hn (h.sub a ha) he e1
  subst this
  rw [(h.iff a he).2 ha] at hl
  cases hl
theorem nodup_of (h : L.Pairwise (fun a b => a.k ≠ b.k)) : L.Nodup := h.imp (fun h e => h (by rw [e]))
theorem Vis.done (h : Vis lit L left V) (hn : L.Pairwise (fun a b => a.k ≠ b.k)) (h0 : ∀ kl, left kl = false) : V.Perm L := by
 refine (List.perm_ext_iff_of_nodup (nodup_of h.nodup) (nodup_of hn)).2 (fun a => ⟨h.sub a, fun ha => (h.iff a ha).1 (h0 _)⟩)
def anyL (L : List (Ent κ)) : Bool := !L.isEmpty
theorem anyL_of (h : L ≠ []) : anyL L = true := by cases L with | nil => exact absurd rfl h | cons _ _ => rfl
theorem anyL_snoc (V : List (Ent κ)) (e : Ent κ) : anyL (V ++ [e]) = true := anyL_of (by simp)
theorem nextL_snoc (V : List (Ent κ)) (e : Ent κ) : nextL (V ++ [e]) = if V = [] then e.d else if e.d < nextL V then e.d else nextL V := by
 cases V with
 | nil => rfl
 | cons a r =>
  rw [if_neg (by simp)]
  unfold nextL
  simp [List.foldl_append]
end
end Go.Chron
namespace Go.Proofs.YtamhicdhbjniiaaGreatDoor
open Go.RowKit Go.Chron
theorem nextI (b m n : Nat) (L : List (Ent (Int))) (w : World) (h : QI w b m n L) :
  Calls Tryz.prog 59 #[.pointer (some ⟨b, 0, none⟩)] w fun e w' => e = .returned (.tuple #[.int .i64 (nextL L), .bool (anyL L)]) ∧ Chg (fun _ => False) w w' := by
 obtain ⟨D, hD, hQ⟩ := h.own
 have hlt := h.lt
 have e0 := h.box.cell 0
 simp at e0
 have hl := lenI b m n L w h
 by_cases hL : L = []
 ·subst hL
  simp only [List.length_nil] at hl
  clear h hD hQ
  go_enter Tryz.func59, Tryz.ntmps59
  go_wp2_with fail
  refine hl.mono ?_
  rintro e w' ⟨rfl, rfl⟩
  go_wp2_with fail
  go_ret2
  exact ⟨rfl, Chg.refl _ _⟩
 have hlp : 0 < L.length := List.length_pos_iff.2 hL
 have hlz : (((L.length : Nat) : Int) == 0) = false := by rw [beq_eq_false_iff_ne]; omega
 have HQ := Lib.hid hQ
 have HLN := Lib.hid hL
 obtain ⟨ln, hln⟩ : ∃ ln, ln = L.length := ⟨_, rfl⟩
 rw [← hln] at hl hlz
 clear h hQ hL hlp hln
 obtain ⟨r, hr⟩ : ∃ r, r = w.heap.size := ⟨_, rfl⟩
 go_enter Tryz.func59, Tryz.ntmps59
 go_wp2_with fail
 refine hl.mono ?_
 rintro e w' ⟨rfl, rfl⟩
 clear hl
 go_wp2_with (at_range; refine wpList_range_own _ rfl _ 205 rfl 3 227 lawI Tryz.underlying205 _ m n D rfl hD ?_; intro w0 hrg0 hg0 hs0)
 rw [← hr] at hrg0
 simp only [← hr]
 have c0 : Chg (fun _ => False) w w0 := (Chg.refl _ _).grown hg0 (fun k _ hk => by cases hk)
 have hw0 : w0.heap.size = r + 1 := by omega
 have HR := Lib.hid hr
 clear hg0 hs0 hD e0 hr hlz
 go_frame
 go_loopw [4, 5] (fun v4 v5 wr => ∃ left cnt V, wr.ranges Tryz.prog 3 oneR m r n D left cnt ∧ Chg (fun i => i = r) w0 wr ∧ Vis (Lit.int .i64) L left V ∧ v4 = .int .i64 (nextL V) ∧ v5 = .bool (anyL V))
  (fun _ _ wr => wr.rangeLeft m r)
 case atStart => exact ⟨_, _, [], hrg0, Chg.refl _ _, Vis.start HQ.out, rfl, rfl⟩
 case round =>
  clear hrg0
  obtain ⟨left, cnt, V, hrg, hc, hvis, rfl, rfl⟩ := hrel
  go_wp2_with (at_next; refine wpList_next_ranges _ rfl _ rfl 3 lawI oneR (Value.int .i64) (fun c : Int × Int => .agg #[.int .i64 c.1, .int .i64 c.2]) (fun key kl hk => by obtain ⟨x, hx, _⟩ := invI hk; exact ⟨x, hx⟩) (fun v y hv => by obtain ⟨c, hc, _⟩ := oneR_inv hv; exact ⟨c, hc⟩) m r n _ _ _ rfl hrg ?_ ?_)
  ·intro _ hl0
   have hp := hvis.done HQ.out.nodup hl0
   have hV : V ≠ [] := fun e => by rw [e] at hp; exact HLN.out (List.nil_perm.1 hp)
   have hnx : nextL V = nextL L := (IsNext.eq (L := L) ⟨by obtain ⟨x, hx, he⟩ := (nextL_is hV).1; exact ⟨x, hp.subset hx, he⟩, fun e he => (nextL_is hV).2 e (hp.symm.subset he)⟩)
   have hcc : Chg (fun _ => False) w wr := c0.trans' hc (fun i hi e => by have := HR.out; omega)
   rw [hnx, anyL_of hV]
   clear hrg hc hvis hl0 hp hnx
   go_wp2_with fail
   go_ret2
   exact ⟨by rw [anyL_of HLN.out]; rfl, hcc⟩
  ·intro x c1 c2 kl y1 y2 w1 cnt1 hkey hlk hRv hat hrg1 hcnt hg1 hs1 hen
   obtain ⟨x', hxe, hkl, hxok⟩ := invI hkey
   obtain rfl : x = x' := by simpa using hxe
   subst hkl
   have hy : y1 = oneD c1 c2 := by have := (oneR_mk c1 c2).symm.trans hRv; cases this; rfl
   subst hy
   obtain ⟨e, heL, hek, hed, hes⟩ := HQ.out.entry (c := (c1, c2)) hat
   subst hek hed hes
   have hv1 := hvis.step (injI) HQ.out.nodup (lawI.key (keyI hxok)) heL hlk
   have hc1 : Chg (fun i => i = r) w0 w1 := hc.grown hg1 (fun k _ hk => by cases hk; rfl)
   have hc2 := hc1.alloc (Obj.cells #[Value.int .i64 e.d, Value.int .i64 e.s] 227)
   have hrg2 := hrg1.alloc (Obj.cells #[Value.int .i64 e.d, Value.int .i64 e.s] 227)
   have hnl := nextL_snoc V e
   have HC := Lib.hid hc2
   have HV := Lib.hid hv1
   have HRG := Lib.hid hrg2
   have HM : cnt1 < cnt := hcnt
   have HOLD := Lib.hid hrg
   clear hc hc1 hc2 hvis hv1 hrg1 hrg2 hkey hlk hRv hat hg1 hcnt hrg hxok heL
   have fin : ∀ z : Int, z = nextL (V ++ [e]) → ∃ left cnt V', (w1.alloc (Obj.cells #[Value.int .i64 e.d, Value.int .i64 e.s] 227)).ranges Tryz.prog 3 oneR m r n D left cnt ∧ Chg (fun i => i = r) w0 (w1.alloc (Obj.cells #[Value.int .i64 e.d, Value.int .i64 e.s] 227)) ∧ Vis (Lit.int .i64) L left V' ∧ Value.int .i64 z = .int .i64 (nextL V') ∧ Value.bool true = .bool (anyL V') := fun z hz =>
    ⟨_, _, V ++ [e], HRG.out, HC.out, HV.out, by rw [hz], by rw [anyL_snoc]⟩
   by_cases hV : V = []
   ·rw [if_pos hV] at hnl
    rw [show anyL V = false by rw [hV]; rfl]
    have HF := Lib.hid (fin e.d hnl.symm)
    clear hnl fin
    go_wp2_with fail
    go_roundw
    case rel => exact HF.out
    case measure => rw [HRG.out.left_eq, HOLD.out.left_eq]; exact HM
   ·rw [if_neg hV] at hnl
    obtain ⟨nv, hnv⟩ : ∃ nv, nv = nextL V := ⟨_, rfl⟩
    rw [← hnv] at hnl ⊢
    rw [anyL_of hV]
    by_cases hlt2 : e.d < nv
    ·rw [if_pos hlt2] at hnl
     have HF := Lib.hid (fin e.d hnl.symm)
     clear hnl fin hnv
     go_wp2_with fail
     go_roundw
     case rel => exact HF.out
     case measure => rw [HRG.out.left_eq, HOLD.out.left_eq]; exact HM
    ·rw [if_neg hlt2] at hnl
     have HF := Lib.hid (fin nv hnl.symm)
     clear hnl fin hnv
     go_wp2_with fail
     go_roundw
     case rel => exact HF.out
     case measure => rw [HRG.out.left_eq, HOLD.out.left_eq]; exact HM
end Go.Proofs.YtamhicdhbjniiaaGreatDoor
end
namespace Go.Proofs.YtamhicdhbjniiaaGreatDoor
section
open Go Go.RowKit Go.Chron
def fnR : Value → Option (DataW Unit × List MemPlace)
 | .func (.func n) ⟨[.pointer (some ⟨b, 0, none⟩)]⟩ ⟨[]⟩ => some (oneD n b, [])
 | .nilFunc => some (.lit (.bool false), [])
 | _ => none
theorem fnR_inv {v : Value} {n b : Nat} {ps : List MemPlace} (h : fnR v = some (oneD n b, ps)) : v = .func (.func n) #[.pointer (some ⟨b, 0, none⟩)] #[] := by
 unfold fnR at h
 split at h
 ·simp only [Option.some.injEq, Prod.mk.injEq] at h
  obtain ⟨h1, _⟩ := h
  obtain ⟨e1, e2⟩ := oneD_inj h1
  have e1' : _ = n := Int.ofNat.inj e1
  have e2' : _ = b := Int.ofNat.inj e2
  subst e1' e2'
  rfl
 ·simp only [Option.some.injEq, Prod.mk.injEq] at h
  obtain ⟨h1, _⟩ := h
  unfold oneD at h1
  cases h1
 ·cases h
def doV (b : Nat) (kind : Int) : Value := if kind = 0 then .func (.func 56) #[.pointer (some ⟨b, 0, none⟩)] #[] else if kind = 1 then .func (.func 57) #[.pointer (some ⟨b, 0, none⟩)] #[] else .nilFunc
theorem zero148 (w : World) : (zeroValue 148).run Tryz.prog w = .ok .nilFunc w := by kernel_rfl
theorem doMap (b : Nat) (kind : Int) (hk : In64 kind) (w : World) : ∃ X1 X2,
  (Instr.mapUpdate 150 (.map (some w.heap.size)) (.int .i64 0) (.func (.func 56) #[.pointer (some ⟨b, 0, none⟩)] #[])).run Tryz.prog (w.alloc (.map #[] 0)) = .ok () X1 ∧
  (Instr.mapUpdate 150 (.map (some w.heap.size)) (.int .i64 1) (.func (.func 57) #[.pointer (some ⟨b, 0, none⟩)] #[])).run Tryz.prog X1 = .ok () X2 ∧
  (Instr.lookup 150 (.map (some w.heap.size)) (.int .i64 kind) true).run Tryz.prog X2 = .ok (.tuple #[doV b kind, .bool (decide (kind = 0) || decide (kind = 1))]) X2 ∧ Chg (fun _ => False) w X2 := by
 have h0 : (w.alloc (.map #[] 0)).ownsMap Tryz.prog 3 fnR w.heap.size 0 (.map []) := World.ownsMap_made _ _ _ _
 obtain ⟨X1, r1, h1, g1⟩ := h0.update lawI Tryz.underlying150 (by unfold maxLen; omega) (key := .int .i64 0) (keyI ⟨by omega, by omega⟩) (val := .func (.func 56) #[.pointer (some ⟨b, 0, none⟩)] #[]) (d := oneD 56 b) (ps := []) rfl
 obtain ⟨X2, r2, h2, g2⟩ := h1.update lawI Tryz.underlying150 (by unfold maxLen; omega) (key := .int .i64 1) (keyI ⟨by omega, by omega⟩) (val := .func (.func 57) #[.pointer (some ⟨b, 0, none⟩)] #[]) (d := oneD 57 b) (ps := []) rfl
 refine ⟨X1, X2, r1, r2, ?_, (fun (hb : Below w.heap.size w X2) => (Chg.of_below hb).mono (fun i hi h => by omega)) ((((Below.refl _ w).alloc (Nat.le_refl _) _).grown g1 (by rw [World.size_alloc]; omega) (fun j hj => by cases hj; exact Nat.le_refl _)).grown g2 (by have := g1.size; rw [World.size_alloc] at this; omega) (fun j hj => by cases hj; exact Nat.le_refl _))⟩
 have hm0 : Maps.IsMap (DataW.map (H := Unit) []) := Maps.isMap_empty
 have hm1 := hm0.put (.int .i64 0) (oneD 56 b)
 obtain ⟨es, clock, hb, F, _, he⟩ := h2
 have hl := Maps.fit_look true lawI Tryz.underlying150 (zero148 X2) hb F (keyI hk)
 rw [← he] at hl
 have a1 : ∀ z, (((DataW.map (H := Unit) []).put (.int .i64 0) (oneD 56 b)).put (.int .i64 1) (oneD 57 b)).atKey (.int .i64 1) z = oneD 57 b := fun z => Maps.atKey_put_same hm1 (lawI.key (keyI ⟨by omega, by omega⟩)) _ z
 have a0 : ∀ z, (((DataW.map (H := Unit) []).put (.int .i64 0) (oneD 56 b)).put (.int .i64 1) (oneD 57 b)).atKey (.int .i64 0) z = oneD 56 b := fun z => by
  rw [Maps.atKey_put_other (by intro h; cases h)]
  exact Maps.atKey_put_same hm0 (lawI.key (keyI ⟨by omega, by omega⟩)) _ z
 have no : ∀ z : DataW Unit, z = oneD 56 b → ¬ z = oneD 57 b := fun z h1 h2 => by
  rw [h1] at h2
  have := (oneD_inj h2).1
  omega
 by_cases k0 : kind = 0
 ·subst k0
  rcases hl with ⟨_, _, hat⟩ | ⟨e0, y, _, _, hrun, hR, hat, _⟩
  ·have := hat (.lit (.bool true))
   rw [a0] at this
   unfold oneD at this
   cases this
  ·have := hat (.lit (.bool true))
   rw [a0] at this
   obtain ⟨y1, y2⟩ := y
   simp only at this
   rw [← this] at hR
   have hv := fnR_inv hR
   rw [hv] at hrun
   exact hrun
 ·by_cases k1 : kind = 1
  ·subst k1
   rcases hl with ⟨_, _, hat⟩ | ⟨e0, y, _, _, hrun, hR, hat, _⟩
   ·have := hat (.lit (.bool true))
    rw [a1] at this
    unfold oneD at this
    cases this
   ·have := hat (.lit (.bool true))
    rw [a1] at this
    obtain ⟨y1, y2⟩ := y
    simp only at this
    rw [← this] at hR
    have hv := fnR_inv hR
    rw [hv] at hrun
    exact hrun
  ·have ak : ∀ z, (((DataW.map (H := Unit) []).put (.int .i64 0) (oneD 56 b)).put (.int .i64 1) (oneD 57 b)).atKey (.int .i64 kind) z = z := fun z => by
    rw [Maps.atKey_put_other (by intro h; cases h; exact k1 rfl), Maps.atKey_put_other (by intro h; cases h; exact k0 rfl)]
    rfl
   have hdv : doV b kind = .nilFunc := by unfold doV; rw [if_neg k0, if_neg k1]
   rw [hdv, decide_eq_false k0, decide_eq_false k1]
   rcases hl with ⟨hrun, _, _⟩ | ⟨e0, y, _, _, hrun, hR, hat, _⟩
   ·exact hrun
   ·have h1 := hat (.lit (.bool true))
    have h2 := hat (.lit (.bool false))
    rw [ak] at h1 h2
    rw [← h1] at h2
    cases h2
end
section
open Go Go.RowKit Go.Chron
theorem lawW : Maps.Keyed Tryz.prog 184 := Maps.Keyed.of_law (deep_law (m := 2) (by decide) (by kernel_rfl) (by kernel_rfl) (by kernel_rfl))
theorem kt184 : Tryz.prog.keyType 184 = true := by kernel_rfl
theorem co184 : Tryz.prog.cellsOf 184 = 2 := by kernel_rfl
theorem co2 : Tryz.prog.cellsOf 2 = 1 := by kernel_rfl
theorem ts450 : Tryz.prog.types.size + 1 = 448 + 2 := by kernel_rfl
theorem keyW (x y : Int) (hx : In64 x) (hy : In64 y) : ∃ kl, keyOf Tryz.prog 184 (.agg #[.int .i64 x, .int .i64 y]) = some kl := by
 have w1 := in64_wf hx
 have w2 := in64_wf hy
 have hu : ∃ fs, Tryz.prog.underlying 184 = some (.struct fs) ∧ fs.all (·.name != "_") = true ∧ fs.toList.map (fun f => (f.type, f.offset)) = [(2, 0), (2, 1)] := ⟨_, Tryz.underlying184, by kernel_rfl, by rfl⟩
 obtain ⟨fs, hu, hall, hfs⟩ := hu
 refine ⟨.string (keyBytes [.int .i64 x, .int .i64 y]), ?_⟩
 unfold keyOf
 rw [hu]
 simp only [kt184, Bool.true_and, Value.formed, hu, co184]
 rw [ts450]
 have e1 : ∀ (d : Nat) (z : Int), (Lit.int .i64 z).wf = true → Tryz.prog.keyLits (d + 1) 2 [.int .i64 z] = some [.int .i64 z] := fun d z hz => by
  unfold Program.keyLits
  simp [Tryz.underlying2, hz]
 have e2 : ∀ d : Nat, Tryz.prog.keyLits (d + 2) 184 [.int .i64 x, .int .i64 y] = some [.int .i64 x, .int .i64 y] := fun d => by
  unfold Program.keyLits
  rw [hu]
  simp only [co184, hall]
  have : (fs.toList.mapM fun f => Tryz.prog.keyLits (d + 1) f.type (([Value.int .i64 x, .int .i64 y].drop f.offset).take (Tryz.prog.cellsOf f.type))) = ((fs.toList.map (fun f => (f.type, f.offset))).mapM fun p => Tryz.prog.keyLits (d + 1) p.1 (([Value.int .i64 x, .int .i64 y].drop p.2).take (Tryz.prog.cellsOf p.1))) := by
   rw [List.mapM_map]
   simp only [Function.comp_def]
  simp only [List.length_cons, List.length_nil, and_self, if_true]
  rw [this, hfs]
  simp [co2, e1 d x w1, e1 d y w2]
 have e3 := e2 448
 generalize 448 + 2 = q at *
 simp [Value.cells, e3]
theorem zero182 (w : World) : (zeroValue 182).run Tryz.prog w = .ok (.agg #[.int .i64 0, .int .i64 0]) w := by kernel_rfl
theorem cameSet {w : World} {m n : Nat} {D : DataW Unit} (h : w.ownsMap Tryz.prog 184 oneR m n D) (hn : n < maxLen) (x y a b : Int) (hx : In64 x) (hy : In64 y) : ∃ D' w', (Instr.mapUpdate 110 (.map (some m)) (.agg #[.int .i64 x, .int .i64 y]) (.agg #[.int .i64 a, .int .i64 b])).run Tryz.prog w = .ok () w' ∧ w'.ownsMap Tryz.prog 184 oneR m (n + 1) D' ∧ Chg (fun i => i = m) w w' := by
 obtain ⟨kl, hk⟩ := keyW x y hx hy
 obtain ⟨w', hr, ho, hg⟩ := h.update lawW Tryz.underlying110 hn hk (oneR_mk a b)
 exact ⟨_, w', hr, ho, (Chg.refl _ w).grown hg (fun k _ e => by cases e; rfl)⟩
end
end Go.Proofs.YtamhicdhbjniiaaGreatDoor
