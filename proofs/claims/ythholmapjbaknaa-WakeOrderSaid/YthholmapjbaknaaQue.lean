/- Package wake's New, Set, Drop, At and Len, at two types of keys: contracts. -/
import Derived.Test.YthholmapjbaknaaEnt
import Derived.Test.YthholmapjbaknaaRows
import Derived.Maps.StringElems
set_option linter.unusedVariables false
namespace Go.Chron
open Go Go.RowKit
def OkS (x : List UInt8) : Prop := x.length ≤ maxLen
def atL {κ : Type} [DecidableEq κ] (L : List (Ent κ)) (x : κ) : Int := match lookL L x with | some e => e.d | none => 0
/-- A queue: its box in block b, its map in block m, n were set; what it holds. -/
structure QAt {κ : Type} [DecidableEq κ] (P : Program) (T k : TypeId) (lit : κ → Lit) (ok : κ → Prop) (w : World) (b m n : Nat) (L : List (Ent κ)) : Prop where
  box : Blk w b T #[.map (some m), .int .i64 n]
  own : ∃ D, w.ownsMap P k oneR m n D ∧ QL lit (fun e => oneD e.d e.s) D L
  rise : L.Pairwise (fun a b => a.s < b.s)
  le : ∀ e ∈ L, 0 ≤ e.s ∧ e.s ≤ n
  ok : ∀ e ∈ L, In64 e.d ∧ ok e.k
section
variable {κ : Type} [DecidableEq κ] {P : Program} {T k : TypeId} {lit : κ → Lit} {ok : κ → Prop} {w w' : World} {b m n : Nat} {L : List (Ent κ)} {S : Nat → Prop}
theorem QAt.ne (h : QAt P T k lit ok w b m n L) : b ≠ m := by
  obtain ⟨D, ⟨es, clock, hm, _⟩, _⟩ := h.own
  intro e
  have := h.box
  unfold Blk at this
  rw [e, hm] at this
  cases this
theorem QAt.lt (h : QAt P T k lit ok w b m n L) : b < w.heap.size ∧ m < w.heap.size := by
  obtain ⟨D, hD, _⟩ := h.own
  exact ⟨h.box.lt, hD.lt⟩
theorem QAt.chg (h : QAt P T k lit ok w b m n L) (hc : Chg S w w') (hb : ¬ S b) (hm : ¬ S m) : QAt P T k lit ok w' b m n L := by
  obtain ⟨D, hD, hQ⟩ := h.own
  exact ⟨h.box.chg hc hb, ⟨D, ownsMap_chg hD hc hm, hQ⟩, h.rise, h.le, h.ok⟩
theorem QAt.chg0 (h : QAt P T k lit ok w b m n L) (hc : Chg (fun _ => False) w w') : QAt P T k lit ok w' b m n L := h.chg hc (fun h => h) (fun h => h)
theorem QAt.len_le (h : QAt P T k lit ok w b m n L) : L.length ≤ n := by
  obtain ⟨D, hD, hQ⟩ := h.own
  rw [← hQ.size]
  exact hD.size_le
theorem QAt.put {W : World} {D : DataW Unit} {x : κ} {d : Int} {key : Value} (h : QAt P T k lit ok w b m n L) (bX : Blk w' b T #[.map (some m), .int .i64 ((n : Int) + 1)]) (hX : w'.ownsMap P k oneR m (n + 1) (D.put (lit x) (oneD d ((n : Int) + 1)))) (hQ : QL lit (fun e => oneD e.d e.s) D L)
    (hinj : ∀ x y, lit x = lit y → x = y) (K : Maps.Keyed P k) (hk : keyOf P k key = some (lit x)) (hx : ok x) (hd : In64 d) (hn : n ≤ 1000000) (hD : W.ownsMap P k oneR m n D) : QAt P T k lit ok w' b m (n + 1) (setL L x d ((n : Int) + 1)) := by
  refine ⟨by simpa using bX, ⟨_, hX, hQ.put hinj (hD.tidy K) (K.key hk) d _⟩, ?_, ?_, ?_⟩
  · unfold setL
    refine List.pairwise_append.2 ⟨h.rise.filter _, by simp, ?_⟩
    intro a ha c hc
    simp at hc
    subst hc
    have := h.le a (mem_dropL.1 ha).1
    show a.s < (n : Int) + 1
    omega
  · intro e he
    rcases mem_setL.1 he with ⟨he, _⟩ | rfl
    · have := h.le e he
      exact ⟨this.1, by simp; omega⟩
    · exact ⟨by show (0 : Int) ≤ (n : Int) + 1; omega, by simp⟩
  · intro e he
    rcases mem_setL.1 he with ⟨he, _⟩ | rfl
    · exact h.ok e he
    · exact ⟨hd, hx⟩
theorem QAt.del {D : DataW Unit} {x : κ} (h : QAt P T k lit ok w b m n L) (hc : Chg (fun i => i = m) w w') (hX : w'.ownsMap P k oneR m n (D.del (lit x))) (hQ : QL lit (fun e => oneD e.d e.s) D L) (hinj : ∀ x y, lit x = lit y → x = y) (hT : Maps.Tidy D) : QAt P T k lit ok w' b m n (dropL L x) :=
  ⟨h.box.chg hc h.ne, ⟨_, hX, hQ.del hinj hT x⟩, h.rise.filter _, fun e he => h.le e (mem_dropL.1 he).1, fun e he => h.ok e (mem_dropL.1 he).1⟩
end
end Go.Chron
namespace Go.Proofs.Ythholmapjbaknaa
open Go.RowKit Go.Chron

theorem zero60 (w : World) : (zeroValue 60).run Try.prog w = .ok (.agg #[.int .i64 0, .int .i64 0]) w := by kernel_rfl
theorem lawI : Maps.Keyed Try.prog 2 := Maps.int_keyed Try.underlying2
theorem lawS : Maps.Keyed Try.prog 9 := Maps.string_keyed Try.underlying9
theorem keyI {x : Int} (h : In64 x) : keyOf Try.prog 2 (.int .i64 x) = some (.int .i64 x) := Maps.keyOf_int_mk Try.underlying2 (in64_wf h)
theorem keyS {x : List UInt8} (h : OkS x) : keyOf Try.prog 9 (encStr x) = some (.string x) := by
  have := WideMaps.keyOf_string_mk (P := Try.prog) Try.underlying9 (s := ⟨x.toArray⟩) (by show x.toArray.size ≤ maxLen; rw [List.size_toArray]; exact h)
  simpa using this
theorem invS {v : Value} {kl : Lit} (h : keyOf Try.prog 9 v = some kl) : ∃ x : List UInt8, v = encStr x ∧ kl = .string x ∧ OkS x := by
  cases v <;> simp [keyOf, Try.underlying9, mapKey] at h
  rename_i s
  obtain ⟨h1, rfl⟩ := h
  refine ⟨s.data.toList, by obtain ⟨d⟩ := s; simp, rfl, ?_⟩
  show s.data.toList.length ≤ maxLen
  rw [Array.length_toList]
  exact h1
theorem invI {v : Value} {kl : Lit} (h : keyOf Try.prog 2 v = some kl) : ∃ x : Int, v = .int .i64 x ∧ kl = .int .i64 x ∧ In64 x := by
  obtain ⟨x, h1, h2, h3⟩ := Maps.keyOf_int_inv Try.underlying2 h
  exact ⟨x, h1, h2, wf_in64 h3⟩

/-- A queue with keys of type 2. -/
abbrev QI (w : World) (b m n : Nat) (L : List (Ent (Int))) : Prop := QAt Try.prog 58 2 (Lit.int .i64) In64 w b m n L
theorem injI (x y : Int) (h : (Lit.int .i64) x = (Lit.int .i64) y) : x = y := by cases h; rfl

set_option maxRecDepth 100000 in
set_option maxHeartbeats 800000 in
theorem newI (w : World) : Calls Try.prog 8 #[] w fun e w' => ∃ b m, e = .returned (.pointer (some ⟨b, 0, none⟩)) ∧ QI w' b m 0 [] ∧ w.heap.size ≤ b ∧ w.heap.size ≤ m ∧ b ≠ m ∧ Chg (fun _ => False) w w' := by
  have cMM := @run_makeMap Try.prog
  go_enter Try.func8, Try.ntmps8
  go_wp2_with fail
  go_ret
  have h0 := World.ownsMap_made w Try.prog 2 oneR
  refine ⟨_, w.heap.size, rfl, ⟨by simpa using Blk.new (w.alloc (Obj.map #[] 0)) 58 #[.map (some w.heap.size), .int .i64 0], ⟨_, ownsMap_chg h0 (chg0_alloc _ _) (fun h => h), QL.nil⟩, List.Pairwise.nil, by simp, by simp⟩, by simp, Nat.le_refl _, by simp, (chg0_alloc _ _).trans (chg0_alloc _ _)⟩

set_option maxRecDepth 100000 in
set_option maxHeartbeats 800000 in
theorem setI (b m n : Nat) (L : List (Ent (Int))) (x : Int) (d : Int) (w : World) (h : QI w b m n L) (hn : n ≤ 1000000) (hx : In64 x) (hd : In64 d) :
    Calls Try.prog 10 #[.pointer (some ⟨b, 0, none⟩), Value.int .i64 x, .int .i64 d] w fun e w' => e = .returned (.tuple #[]) ∧ QI w' b m (n + 1) (setL L x d (n + 1)) ∧ Chg (fun i => i = b ∨ i = m) w w' := by
  obtain ⟨D, hD, hQ⟩ := h.own
  have hne := h.ne
  have hb := h.box
  have e0 := hb.cell 0
  have e1 := hb.cell 1
  have f1 := hb.frozen 1
  simp at e0 e1
  have hb1 := hb.set_ 1 (.int .i64 ((n : Int) + 1))
  have cc : Chg (fun i => i = b ∨ i = m) w (w.setCell ⟨b, 1, none⟩ (.int .i64 ((n : Int) + 1))) := (Chg.refl _ w).setCell (fun _ => .inl rfl) _
  have c1 : Chg (fun i => i = b) w (w.setCell ⟨b, 1, none⟩ (.int .i64 ((n : Int) + 1))) := Chg.setCell (S := fun i => i = b) (Chg.refl _ w) (fun _ => rfl) _
  have hD1 : (w.setCell ⟨b, 1, none⟩ (.int .i64 ((n : Int) + 1))).drew.ownsMap Try.prog 2 oneR m n D := (ownsMap_chg hD c1 (fun e => hne e.symm)).drew
  obtain ⟨X, r1, hX, tX⟩ := hD1.store lawI Try.underlying56 (by unfold maxLen; omega) (keyI hx) (oneR_mk d ((n : Int) + 1))
  have cX : Chg (fun i => i = b ∨ i = m) w X := cc.drew.turned tX (fun _ => .inr rfl)
  have bX : Blk X b 58 #[.map (some m), .int .i64 ((n : Int) + 1)] := Blk.chg (S := fun i => i = m) (by simpa using hb1.drew) ((Chg.refl _ _).turned tX (fun _ => rfl)) hne
  have hs := h.ok
  have QX : QI X b m (n + 1) (setL L x d (n + 1)) := h.put bX hX hQ injI lawI (keyI hx) hx hd hn hD1
  have HX := Lib.hid QX
  have HC := Lib.hid cX
  have g0 := hb1.cell 0
  have g1 := hb1.cell 1
  simp at g0 g1
  clear h hD hQ hne hb hb1 cc c1 hD1 hX tX cX bX hs QX
  go_enter Try.func10, Try.ntmps10
  go_wp2_with fail
  go_region
  go_wp2_with fail
  go_end0
  exact ⟨rfl, HX.out, HC.out⟩

set_option maxRecDepth 100000 in
set_option maxHeartbeats 800000 in
theorem dropI (b m n : Nat) (L : List (Ent (Int))) (x : Int) (w : World) (h : QI w b m n L) (hx : In64 x) :
    Calls Try.prog 25 #[.pointer (some ⟨b, 0, none⟩), Value.int .i64 x] w fun e w' => e = .returned (.tuple #[]) ∧ QI w' b m n (dropL L x) ∧ Chg (fun i => i = m) w w' := by
  obtain ⟨D, hD, hQ⟩ := h.own
  have e0 := h.box.cell 0
  simp at e0
  have H := Lib.hid h
  have HQ := Lib.hid hQ
  clear h hQ
  go_enter Try.func25, Try.ntmps25
  go_wp2_with (at_delete; refine wpList_delete_own _ rfl _ _ 56 2 rfl 60 lawI Try.underlying56 _ m n D rfl hD _ _ rfl (keyI hx) ?_; intro w1 hown1 hturn1)
  have c1 : Chg (fun i => i = m) w w1 := (Chg.refl _ _).turned hturn1 (fun _ => rfl)
  have Q1 := Lib.hid (H.out.del c1 hown1 HQ.out (injI) (hD.tidy lawI))
  clear hown1 hturn1
  go_wp2_with fail
  go_end0
  exact ⟨rfl, Q1.out, c1⟩

set_option maxRecDepth 100000 in
set_option maxHeartbeats 800000 in
theorem atI (b m n : Nat) (L : List (Ent (Int))) (x : Int) (w : World) (h : QI w b m n L) (hx : In64 x) :
    Calls Try.prog 27 #[.pointer (some ⟨b, 0, none⟩), Value.int .i64 x] w fun e w' => e = .returned (.tuple #[.int .i64 (atL L x), .bool (hasL L x)]) ∧ Chg (fun _ => False) w w' := by
  obtain ⟨D, hD, hQ⟩ := h.own
  have e0 := h.box.cell 0
  simp at e0
  obtain ⟨v, ps, r1, hv⟩ := hD.look_ok lawI Try.underlying56 (zero60 w) (oneR_mk 0 0) (keyI hx)
  rw [hQ.has] at r1
  obtain ⟨⟨c1, c2⟩, rfl, hc⟩ := oneR_inv hv
  have hat : c1 = atL L x := by
    have e1 := congrArg Prod.fst hc
    rw [show (D.atKey (Lit.int .i64 x) (oneD 0 0), ps).1 = D.atKey (Lit.int .i64 x) (oneD 0 0) from rfl, hQ.atKey x] at e1
    unfold atL
    cases hl : lookL L x with
    | none => rw [hl] at e1; exact (oneD_inj e1).1.symm
    | some e => rw [hl] at e1; exact (oneD_inj e1).1.symm
  rw [← hat]
  have cc := chg0_alloc w (Obj.cells #[Value.int .i64 c1, Value.int .i64 c2] 60)
  clear h hD hQ hv hc hat
  generalize hasL L x = ok at *
  go_enter Try.func27, Try.ntmps27
  go_wp2_with fail
  go_ret2
  exact ⟨rfl, cc⟩

set_option maxRecDepth 100000 in
set_option maxHeartbeats 800000 in
theorem lenI (b m n : Nat) (L : List (Ent (Int))) (w : World) (h : QI w b m n L) :
    Calls Try.prog 12 #[.pointer (some ⟨b, 0, none⟩)] w fun e w' => e = .returned (.int .i64 L.length) ∧ w = w' := by
  obtain ⟨D, hD, hQ⟩ := h.own
  have e0 := h.box.cell 0
  simp at e0
  have hz := hQ.size
  clear h hQ
  go_enter Try.func12, Try.ntmps12
  go_wp2_with (at_len; refine wpList_len_own _ rfl _ 56 rfl 2 60 Try.underlying56 _ m n D rfl hD ?_)
  go_ret
  exact ⟨rfl, rfl⟩

/-- A queue with keys of type 9. -/
abbrev QS (w : World) (b m n : Nat) (L : List (Ent (List UInt8))) : Prop := QAt Try.prog 67 9 Lit.string OkS w b m n L
theorem injS (x y : List UInt8) (h : Lit.string x = Lit.string y) : x = y := by cases h; rfl

set_option maxRecDepth 100000 in
set_option maxHeartbeats 800000 in
theorem newS (w : World) : Calls Try.prog 13 #[] w fun e w' => ∃ b m, e = .returned (.pointer (some ⟨b, 0, none⟩)) ∧ QS w' b m 0 [] ∧ w.heap.size ≤ b ∧ w.heap.size ≤ m ∧ b ≠ m ∧ Chg (fun _ => False) w w' := by
  have cMM := @run_makeMap Try.prog
  go_enter Try.func13, Try.ntmps13
  go_wp2_with fail
  go_ret
  have h0 := World.ownsMap_made w Try.prog 9 oneR
  refine ⟨_, w.heap.size, rfl, ⟨by simpa using Blk.new (w.alloc (Obj.map #[] 0)) 67 #[.map (some w.heap.size), .int .i64 0], ⟨_, ownsMap_chg h0 (chg0_alloc _ _) (fun h => h), QL.nil⟩, List.Pairwise.nil, by simp, by simp⟩, by simp, Nat.le_refl _, by simp, (chg0_alloc _ _).trans (chg0_alloc _ _)⟩

set_option maxRecDepth 100000 in
set_option maxHeartbeats 800000 in
theorem setS (b m n : Nat) (L : List (Ent (List UInt8))) (x : List UInt8) (d : Int) (w : World) (h : QS w b m n L) (hn : n ≤ 1000000) (hx : OkS x) (hd : In64 d) :
    Calls Try.prog 14 #[.pointer (some ⟨b, 0, none⟩), encStr x, .int .i64 d] w fun e w' => e = .returned (.tuple #[]) ∧ QS w' b m (n + 1) (setL L x d (n + 1)) ∧ Chg (fun i => i = b ∨ i = m) w w' := by
  obtain ⟨D, hD, hQ⟩ := h.own
  have hne := h.ne
  have hb := h.box
  have e0 := hb.cell 0
  have e1 := hb.cell 1
  have f1 := hb.frozen 1
  simp at e0 e1
  have hb1 := hb.set_ 1 (.int .i64 ((n : Int) + 1))
  have cc : Chg (fun i => i = b ∨ i = m) w (w.setCell ⟨b, 1, none⟩ (.int .i64 ((n : Int) + 1))) := (Chg.refl _ w).setCell (fun _ => .inl rfl) _
  have c1 : Chg (fun i => i = b) w (w.setCell ⟨b, 1, none⟩ (.int .i64 ((n : Int) + 1))) := Chg.setCell (S := fun i => i = b) (Chg.refl _ w) (fun _ => rfl) _
  have hD1 : (w.setCell ⟨b, 1, none⟩ (.int .i64 ((n : Int) + 1))).drew.ownsMap Try.prog 9 oneR m n D := (ownsMap_chg hD c1 (fun e => hne e.symm)).drew
  obtain ⟨X, r1, hX, tX⟩ := hD1.store lawS Try.underlying65 (by unfold maxLen; omega) (keyS hx) (oneR_mk d ((n : Int) + 1))
  have cX : Chg (fun i => i = b ∨ i = m) w X := cc.drew.turned tX (fun _ => .inr rfl)
  have bX : Blk X b 67 #[.map (some m), .int .i64 ((n : Int) + 1)] := Blk.chg (S := fun i => i = m) (by simpa using hb1.drew) ((Chg.refl _ _).turned tX (fun _ => rfl)) hne
  have hs := h.ok
  have QX : QS X b m (n + 1) (setL L x d (n + 1)) := h.put bX hX hQ injS lawS (keyS hx) hx hd hn hD1
  have HX := Lib.hid QX
  have HC := Lib.hid cX
  have g0 := hb1.cell 0
  have g1 := hb1.cell 1
  simp at g0 g1
  clear h hD hQ hne hb hb1 cc c1 hD1 hX tX cX bX hs QX
  go_enter Try.func14, Try.ntmps14
  go_wp2_with fail
  go_region
  go_wp2_with fail
  go_end0
  exact ⟨rfl, HX.out, HC.out⟩

set_option maxRecDepth 100000 in
set_option maxHeartbeats 800000 in
theorem dropS (b m n : Nat) (L : List (Ent (List UInt8))) (x : List UInt8) (w : World) (h : QS w b m n L) (hx : OkS x) :
    Calls Try.prog 15 #[.pointer (some ⟨b, 0, none⟩), encStr x] w fun e w' => e = .returned (.tuple #[]) ∧ QS w' b m n (dropL L x) ∧ Chg (fun i => i = m) w w' := by
  obtain ⟨D, hD, hQ⟩ := h.own
  have e0 := h.box.cell 0
  simp at e0
  have H := Lib.hid h
  have HQ := Lib.hid hQ
  clear h hQ
  go_enter Try.func15, Try.ntmps15
  go_wp2_with (at_delete; refine wpList_delete_own _ rfl _ _ 65 9 rfl 60 lawS Try.underlying65 _ m n D rfl hD _ _ rfl (keyS hx) ?_; intro w1 hown1 hturn1)
  have c1 : Chg (fun i => i = m) w w1 := (Chg.refl _ _).turned hturn1 (fun _ => rfl)
  have Q1 := Lib.hid (H.out.del c1 hown1 HQ.out (injS) (hD.tidy lawS))
  clear hown1 hturn1
  go_wp2_with fail
  go_end0
  exact ⟨rfl, Q1.out, c1⟩

set_option maxRecDepth 100000 in
set_option maxHeartbeats 800000 in
theorem atS (b m n : Nat) (L : List (Ent (List UInt8))) (x : List UInt8) (w : World) (h : QS w b m n L) (hx : OkS x) :
    Calls Try.prog 21 #[.pointer (some ⟨b, 0, none⟩), encStr x] w fun e w' => e = .returned (.tuple #[.int .i64 (atL L x), .bool (hasL L x)]) ∧ Chg (fun _ => False) w w' := by
  obtain ⟨D, hD, hQ⟩ := h.own
  have e0 := h.box.cell 0
  simp at e0
  obtain ⟨v, ps, r1, hv⟩ := hD.look_ok lawS Try.underlying65 (zero60 w) (oneR_mk 0 0) (keyS hx)
  rw [hQ.has] at r1
  obtain ⟨⟨c1, c2⟩, rfl, hc⟩ := oneR_inv hv
  have hat : c1 = atL L x := by
    have e1 := congrArg Prod.fst hc
    rw [show (D.atKey (Lit.string x) (oneD 0 0), ps).1 = D.atKey (Lit.string x) (oneD 0 0) from rfl, hQ.atKey x] at e1
    unfold atL
    cases hl : lookL L x with
    | none => rw [hl] at e1; exact (oneD_inj e1).1.symm
    | some e => rw [hl] at e1; exact (oneD_inj e1).1.symm
  rw [← hat]
  have cc := chg0_alloc w (Obj.cells #[Value.int .i64 c1, Value.int .i64 c2] 60)
  clear h hD hQ hv hc hat
  generalize hasL L x = ok at *
  go_enter Try.func21, Try.ntmps21
  go_wp2_with fail
  go_ret2
  exact ⟨rfl, cc⟩

set_option maxRecDepth 100000 in
set_option maxHeartbeats 800000 in
theorem lenS (b m n : Nat) (L : List (Ent (List UInt8))) (w : World) (h : QS w b m n L) :
    Calls Try.prog 24 #[.pointer (some ⟨b, 0, none⟩)] w fun e w' => e = .returned (.int .i64 L.length) ∧ w = w' := by
  obtain ⟨D, hD, hQ⟩ := h.own
  have e0 := h.box.cell 0
  simp at e0
  have hz := hQ.size
  clear h hQ
  go_enter Try.func24, Try.ntmps24
  go_wp2_with (at_len; refine wpList_len_own _ rfl _ 65 rfl 9 60 Try.underlying65 _ m n D rfl hD ?_)
  go_ret
  exact ⟨rfl, rfl⟩
end Go.Proofs.Ythholmapjbaknaa
