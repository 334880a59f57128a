/- conf.Parse: its parts in memory. conf.line: contract. conf.words: what holds while its words are made, in whatever order. -/
import Derived.Test.YtamhicdhbjniiaaGreatDoorM26
import Derived.Test.YtamhicdhbjniiaaGreatDoorM08
import Derived.Test.YtamhicdhbjniiaaGreatDoorM06
set_option linter.unusedVariables false
namespace Go.Proofs.YtamhicdhbjniiaaGreatDoor
section
open Go Go.RowKit Go.Chron
structure CB where
 cb : Nat
 pc : Nat
 w : Nat → Nat
 l : Nat → Nat
 r : Nat → Nat
 sa : Option Addr
 scap : Nat
 sg : Option Nat
def ptrs (cb : Nat) (k : Nat) : List Nat := if k = 1 then [1] else if k = 2 then [2, 3] else if k = 3 then [4] else [5]
theorem ptrs_len (cb k : Nat) (h : k ≠ 0) : (ptrs cb k).length = many k := by
 unfold ptrs many
 by_cases h1 : k = 1
 ·subst h1; rfl
 ·by_cases h2 : k = 2
  ·subst h2; rfl
  ·rw [if_neg h1, if_neg h2, if_neg h2]
   split <;> rfl
def takeF (C : CB) (k : Nat) : Value := if k = 0 then .func (.func 120) #[] #[.pointer (some ⟨C.pc, 0, none⟩)] else .func (.func 119) #[] #[.pointer (some ⟨C.l k, 0, none⟩)]
def wordc (C : CB) (k : Nat) (b : Bool) : Array Value := #[.int .i64 (many k), .bool (decide (k = 0)), .bool b, takeF C k]
def cfgc (C : CB) (c : Cfg) : Array Value := #[.slice C.sa c.servers.length C.scap, .int .i64 c.quorum, .int .i64 c.least, .int .i64 c.most, .int .i64 c.delay, .int .i64 c.slew]
structure PS.Ok (s : PS) : Prop where
 n : s.c.servers.length ≤ 16
structure CAt (w : World) (C : CB) (s : PS) : Prop where
 cfg : Blk w C.cb 29 (cfgc C s.c)
 srv : Owns w 3 1 (.slice C.sa s.c.servers.length C.scap) C.sg (s.c.servers.map i64c)
 pc : Blk w C.pc 164 #[.pointer (some ⟨C.cb, 0, none⟩)]
 ws : ∀ k, k < 5 → Blk w (C.w k) 199 (wordc C k (s.seen k))
 ls : ∀ k, k < 5 → k ≠ 0 → Blk w (C.l k) 265 #[.slice (some ⟨C.r k, 0, none⟩) (many k) (many k)]
 rs : ∀ k, k < 5 → k ≠ 0 → Blk w (C.r k) 266 ((ptrs C.cb k).map fun o => Value.pointer (some ⟨C.cb, o, none⟩)).toArray
 dis : ∀ i j, i < 5 → j < 5 → C.w i = C.w j → i = j
 ok : s.Ok
def CBk (C : CB) (i : Nat) : Prop := i = C.cb ∨ i = C.pc ∨ (∃ k, k < 5 ∧ i = C.w k) ∨ (∃ k, k < 5 ∧ k ≠ 0 ∧ (i = C.l k ∨ i = C.r k)) ∨ C.sg = some i
theorem CAt.chg {w w' : World} {C : CB} {s : PS} {S : Nat → Prop} (h : CAt w C s) (c : Chg S w w') (hS : ∀ i, CBk C i → ¬ S i) : CAt w' C s :=
 ⟨h.cfg.chg c (hS _ (.inl rfl)), h.srv.chg c (fun k hk => hS _ (.inr (.inr (.inr (.inr hk))))), h.pc.chg c (hS _ (.inr (.inl rfl))), fun k hk => (h.ws k hk).chg c (hS _ (.inr (.inr (.inl ⟨k, hk, rfl⟩)))),
  fun k hk h0 => (h.ls k hk h0).chg c (hS _ (.inr (.inr (.inr (.inl ⟨k, hk, h0, .inl rfl⟩))))), fun k hk h0 => (h.rs k hk h0).chg c (hS _ (.inr (.inr (.inr (.inl ⟨k, hk, h0, .inr rfl⟩))))), h.dis, h.ok⟩
theorem CAt.chg0 {w w' : World} {C : CB} {s : PS} (h : CAt w C s) (c : Chg (fun _ => False) w w') : CAt w' C s := h.chg c (fun _ _ h => h)
theorem CAt.lt {w : World} {C : CB} {s : PS} (h : CAt w C s) {i : Nat} (hi : CBk C i) : i < w.heap.size := by
 rcases hi with rfl | rfl | ⟨k, hk, rfl⟩ | ⟨k, hk, h0, rfl | rfl⟩ | hi
 ·exact h.cfg.lt
 ·exact h.pc.lt
 ·exact (h.ws k hk).lt
 ·exact (h.ls k hk h0).lt
 ·exact (h.rs k hk h0).lt
 ·exact h.srv.lt _ hi
/-! The map of the words. -/
def ptrR : Value → Option (DataW Unit × List MemPlace)
 | .pointer (some ⟨b, 0, none⟩) => some (oneD b 0, [])
 | .pointer none => some (.lit (.bool false), [])
 | _ => none
theorem ptrR_inv {v : Value} {b : Nat} {ps : List MemPlace} (h : ptrR v = some (oneD b 0, ps)) : v = .pointer (some ⟨b, 0, none⟩) := by
 unfold ptrR at h
 split at h
 ·simp only [Option.some.injEq, Prod.mk.injEq] at h
  obtain ⟨e1, _⟩ := oneD_inj h.1
  have e1' : _ = b := Int.ofNat.inj e1
  subst e1'
  rfl
 ·simp only [Option.some.injEq, Prod.mk.injEq] at h
  obtain ⟨h1, _⟩ := h
  unfold oneD at h1
  cases h1
 ·cases h
theorem lawS : Maps.Keyed Tryz.prog 9 := Maps.string_keyed Tryz.underlying9
theorem keyS (s : List UInt8) (h : s.length ≤ maxLen) : keyOf Tryz.prog 9 (strv s) = some (.string s) := by
 unfold keyOf strv
 rw [Tryz.underlying9]
 unfold mapKey
 rw [Tryz.underlying9]
 have : (⟨s.toArray⟩ : ByteArray).size ≤ maxLen := h
 simp [this]
theorem zero196 (w : World) : (zeroValue 196).run Tryz.prog w = .ok (.pointer none) w := by kernel_rfl
def KD (C : CB) (D : DataW Unit) : Prop := (∀ k z, k < 5 → D.atKey (.string (kw k)) z = oneD (C.w k) 0) ∧ ∀ s z, kwIx s = none → D.atKey (.string s) z = z
structure MAt (w : World) (m n : Nat) (C : CB) : Prop where
 own : ∃ D, w.ownsMap Tryz.prog 9 ptrR m n D ∧ KD C D
theorem MAt.chg {w w' : World} {m n : Nat} {C : CB} {S : Nat → Prop} (h : MAt w m n C) (c : Chg S w w') (hm : ¬ S m) : MAt w' m n C := by
 obtain ⟨D, h1, h2⟩ := h.own
 exact ⟨D, ownsMap_chg h1 c hm, h2⟩
def lookV (C : CB) (s : List UInt8) : Value := match kwIx s with | some k => .pointer (some ⟨C.w k, 0, none⟩) | none => .pointer none
theorem MAt.look {w : World} {m n : Nat} {C : CB} (h : MAt w m n C) (s : List UInt8) (hs : s.length ≤ maxLen) :
  (Instr.lookup 192 (.map (some m)) (strv s) true).run Tryz.prog w = .ok (.tuple #[lookV C s, .bool (kwIx s).isSome]) w := by
 obtain ⟨D, ⟨es, clock, hb, F, _, he⟩, h1, h2⟩ := h.own
 have hl := Maps.fit_look true lawS Tryz.underlying192 (zero196 w) hb F (keyS s hs)
 rw [← he] at hl
 cases hk : kwIx s with
 | some k =>
  obtain ⟨k5, rfl⟩ := kwIx_some hk
  have hv : lookV C (kw k) = .pointer (some ⟨C.w k, 0, none⟩) := by unfold lookV; rw [hk]
  rw [hv]
  rcases hl with ⟨_, _, hat⟩ | ⟨e0, y, _, _, hrun, hR, hat, _⟩
  ·have := hat (.lit (.bool true))
   rw [h1 k _ k5] at this
   unfold oneD at this
   cases this
  ·have := hat (.lit (.bool true))
   rw [h1 k _ k5] at this
   obtain ⟨y1, y2⟩ := y
   simp only at this
   rw [← this] at hR
   have hv := ptrR_inv hR
   rw [hv] at hrun
   exact hrun
 | none =>
  have hv : lookV C s = .pointer none := by unfold lookV; rw [hk]
  rw [hv]
  rcases hl with ⟨hrun, _, _⟩ | ⟨e0, y, _, _, hrun, hR, hat, _⟩
  ·exact hrun
  ·have q1 := hat (.lit (.bool true))
   have q2 := hat (.lit (.bool false))
   rw [h2 s _ hk] at q1 q2
   rw [← q1] at q2
   cases q2
end
section
open Go Go.RowKit Go.Chron
theorem numsI_cons (w : List UInt8) (r : List (List UInt8)) : numsI (w :: r) = if (numI w).2 ≠ 0 then ([], (numI w).2) else ((numI w).1 :: (numsI r).1, (numsI r).2) := rfl
theorem numsI_app : ∀ a b : List (List UInt8), (numsI a).2 = 0 → numsI (a ++ b) = ((numsI a).1 ++ (numsI b).1, (numsI b).2)
 | [], b, _ => rfl
 | w :: r, b, h => by
  rw [numsI_cons] at h
  split at h
  ·rename_i hne; exact absurd h hne
  ·rename_i hn
   have ih := numsI_app r b h
   rw [List.cons_append, numsI_cons w (r ++ b), if_neg hn, ih, numsI_cons w r, if_neg hn]
   rfl
theorem numsI_one (w : List UInt8) (h : (numI w).2 = 0) : numsI [w] = ([(numI w).1], 0) := by
 unfold numsI
 rw [if_neg (by simpa using h)]
 rfl
theorem numsI_err (w : List UInt8) (r : List (List UInt8)) (h : (numI w).2 ≠ 0) : numsI (w :: r) = ([], (numI w).2) := by
 unfold numsI
 rw [if_pos h]
theorem numI_in (w : List UInt8) : 0 ≤ (numI w).1 ∧ (numI w).1 ≤ 1000000000 ∧ 0 ≤ (numI w).2 ∧ (numI w).2 ≤ 6 := by
 unfold numI
 repeat' split
 all_goals (simp only; omega)
theorem lineI_num {s : PS} {hd : List UInt8} {tl : List (List UInt8)} {k : Nat} (hk : kwIx hd = some k) (hl : tl.length = many k) (h : (numsI tl).2 ≠ 0) : lineI s (hd :: tl) = (s, (numsI tl).2) := by
 unfold lineI
 simp only [List.headD_cons, hk, List.tail_cons, List.length_cons]
 have h1 : ¬ (tl.length + 1 ≠ 1 + many k) := by omega
 exact (if_neg h1).trans (if_pos h)
theorem lineI_twice {s : PS} {hd : List UInt8} {tl : List (List UInt8)} {k : Nat} (hk : kwIx hd = some k) (hl : tl.length = many k) (h : (numsI tl).2 = 0) (h2 : s.seen k = true ∧ k ≠ 0) : lineI s (hd :: tl) = (s, 12) := by
 unfold lineI
 simp only [List.headD_cons, hk, List.tail_cons, List.length_cons]
 have h1 : ¬ (tl.length + 1 ≠ 1 + many k) := by omega
 have h3 : ¬ ((numsI tl).2 ≠ 0) := by omega
 exact (if_neg h1).trans ((if_neg h3).trans (if_pos h2))
theorem lineI_done {s : PS} {hd : List UInt8} {tl : List (List UInt8)} {k : Nat} (hk : kwIx hd = some k) (hl : tl.length = many k) (h : (numsI tl).2 = 0) (h2 : ¬ (s.seen k = true ∧ k ≠ 0)) : lineI s (hd :: tl) = (⟨(takeI k (numsI tl).1 s.c).1, fun j => if j = k then true else s.seen j⟩, (takeI k (numsI tl).1 s.c).2) := by
 unfold lineI
 simp only [List.headD_cons, hk, List.tail_cons, List.length_cons]
 have h1 : ¬ (tl.length + 1 ≠ 1 + many k) := by omega
 have h3 : ¬ ((numsI tl).2 ≠ 0) := by omega
 exact (if_neg h1).trans ((if_neg h3).trans (if_neg h2))
def seeS (s : PS) (k : Nat) : PS := ⟨s.c, fun j => if j = k then true else s.seen j⟩
theorem CAt.see {w : World} {C : CB} {s : PS} {k : Nat} (h : CAt w C s) (hk : k < 5) : CAt (w.setCell ⟨C.w k, 2, none⟩ (.bool true)) C (seeS s k) ∧ Chg (fun i => i = C.w k) w (w.setCell ⟨C.w k, 2, none⟩ (.bool true)) := by
 have c : Chg (fun i => i = C.w k) w (w.setCell ⟨C.w k, 2, none⟩ (.bool true)) := (Chg.refl (fun i => i = C.w k) w).setCell (p := ⟨C.w k, 2, none⟩) (fun _ => rfl) _
 have hb := h.ws k hk
 have far : ∀ {i : Nat} {t : TypeId} {cs : Array Value}, Blk w i t cs → t ≠ 199 → ¬ i = C.w k := fun hi ht e => by subst e; exact ht (blk_typ hi hb)
 refine ⟨⟨h.cfg.chg c (far h.cfg (by decide)), h.srv.chg c (fun j hj => by obtain ⟨cs, hcs⟩ := h.srv.blk hj; exact far hcs (by decide)), h.pc.chg c (far h.pc (by decide)), ?_, fun j hj h0 => (h.ls j hj h0).chg c (far (h.ls j hj h0) (by decide)), fun j hj h0 => (h.rs j hj h0).chg c (far (h.rs j hj h0) (by decide)), h.dis, ⟨h.ok.n⟩⟩, c⟩
 intro j hj
 by_cases hjk : j = k
 ·subst hjk
  have := hb.set_ 2 (.bool true)
  simpa [wordc, seeS] using this
 ·have := (h.ws j hj).chg c (fun e => hjk (h.dis j k hj hk e))
  simpa [seeS, hjk] using this
theorem take_nz (k : Nat) (h : k ≠ 0) (ns : List Int) (c : Cfg) : (takeI k ns c).2 = 0 := by
 unfold takeI
 rw [if_neg h]
 by_cases h1 : k = 1
 ·simp [h1]
 ·by_cases h2 : k = 2
  ·simp [h2]
  ·by_cases h3 : k = 3 <;> simp [h1, h2, h3]
theorem take_in {z : Int} {c : Cfg} (h : c.servers.contains z = true) : takeI 0 [z] c = (c, 12) := (if_pos rfl).trans (if_pos h)
theorem take_full {z : Int} {c : Cfg} (h : ¬ c.servers.contains z = true) (h2 : c.servers.length = 16) : takeI 0 [z] c = (c, 11) := (if_pos rfl).trans ((if_neg h).trans (if_pos h2))
theorem take_more {z : Int} {c : Cfg} (h : ¬ c.servers.contains z = true) (h2 : ¬ c.servers.length = 16) : takeI 0 [z] c = ({ c with servers := c.servers ++ [z] }, 0) := (if_pos rfl).trans ((if_neg h).trans (if_neg h2))
theorem setAll_cfg (C : CB) (c : Cfg) (k : Nat) (hk : k < 5) (h0 : k ≠ 0) (ns : List Int) (hn : ns.length = many k) : setAll (cfgc C c) ((ptrs C.cb k).zip ns) = cfgc C (takeI k ns c).1 := by
 have : k = 1 ∨ k = 2 ∨ k = 3 ∨ k = 4 := by omega
 rcases this with rfl | rfl | rfl | rfl
 ·obtain ⟨a, rfl⟩ := List.length_eq_one_iff.1 hn
  simp [setAll, cfgc, ptrs, takeI]
 ·match ns, hn with
  | [a, b], _ => simp [setAll, cfgc, ptrs, takeI]
 ·obtain ⟨a, rfl⟩ := List.length_eq_one_iff.1 hn
  simp [setAll, cfgc, ptrs, takeI]
 ·obtain ⟨a, rfl⟩ := List.length_eq_one_iff.1 hn
  simp [setAll, cfgc, ptrs, takeI]
theorem take_srv (k : Nat) (h0 : k ≠ 0) (ns : List Int) (c : Cfg) : (takeI k ns c).1.servers = c.servers := by
 unfold takeI
 rw [if_neg h0]
 by_cases h1 : k = 1
 ·simp [h1]
 ·by_cases h2 : k = 2
  ·simp [h2]
  ·by_cases h3 : k = 3 <;> simp [h1, h2, h3]
theorem CAt.taken {w w' : World} {C : CB} {s : PS} {k : Nat} (h : CAt w C s) (hk : k < 5) (h0 : k ≠ 0) {ns : List Int} (hn : ns.length = many k) (hb : Blk w' C.cb 29 (setAll (cfgc C s.c) ((ptrs C.cb k).zip ns))) (c : Chg (fun i => i = C.cb) w w') : CAt w' C ⟨(takeI k ns s.c).1, s.seen⟩ := by
 have far : ∀ {i : Nat} {t : TypeId} {cs : Array Value}, Blk w i t cs → t ≠ 29 → ¬ i = C.cb := fun hi ht e => by subst e; exact ht (blk_typ hi h.cfg)
 rw [setAll_cfg C s.c k hk h0 ns hn] at hb
 have hs := take_srv k h0 ns s.c
 refine ⟨hb, ?_, h.pc.chg c (far h.pc (by decide)), fun j hj => (h.ws j hj).chg c (far (h.ws j hj) (by decide)), fun j hj h0 => (h.ls j hj h0).chg c (far (h.ls j hj h0) (by decide)), fun j hj h0 => (h.rs j hj h0).chg c (far (h.rs j hj h0) (by decide)), h.dis, ⟨by rw [hs]; exact h.ok.n⟩⟩
 rw [hs]
 exact h.srv.chg c (fun j hj => by obtain ⟨cs, hcs⟩ := h.srv.blk hj; exact far hcs (by decide))
def CB.grow (C : CB) (k cap : Nat) : CB := { C with sa := some ⟨k, 0, none⟩, scap := cap, sg := some k }
theorem CAt.served {w w' : World} {C : CB} {s : PS} (h : CAt w C s) {z : Int} {k cap : Nat} (hl : s.c.servers.length < 16) (hb : Blk w' C.cb 29 #[.slice (some ⟨k, 0, none⟩) (s.c.servers.length + 1) cap, .int .i64 s.c.quorum, .int .i64 s.c.least, .int .i64 s.c.most, .int .i64 s.c.delay, .int .i64 s.c.slew])
  (ho : Owns w' 3 1 (.slice (some ⟨k, 0, none⟩) (s.c.servers.length + 1) cap) (some k) ((s.c.servers ++ [z]).map i64c)) (c : Chg (fun i => i = C.cb ∨ C.sg = some i) w w') : CAt w' (C.grow k cap) ⟨{ s.c with servers := s.c.servers ++ [z] }, s.seen⟩ := by
 have far : ∀ {i : Nat} {t : TypeId} {cs : Array Value}, Blk w i t cs → t ≠ 29 → t ≠ 3 → ¬ (i = C.cb ∨ C.sg = some i) := fun hi h1 h2 e => by
  rcases e with e | e
  ·subst e; exact h1 (blk_typ hi h.cfg)
  ·obtain ⟨cs, hcs⟩ := h.srv.blk e; exact h2 (blk_typ hi hcs)
 refine ⟨?_, ?_, h.pc.chg c (far h.pc (by decide) (by decide)), fun j hj => ?_, fun j hj h0 => (h.ls j hj h0).chg c (far (h.ls j hj h0) (by decide) (by decide)), fun j hj h0 => (h.rs j hj h0).chg c (far (h.rs j hj h0) (by decide) (by decide)), h.dis, ⟨by simp; omega⟩⟩
 ·show Blk w' C.cb 29 _
  unfold cfgc
  simpa [CB.grow] using hb
 ·simpa [CB.grow] using ho
 ·exact (h.ws j hj).chg c (far (h.ws j hj) (by decide) (by decide))
structure CB.Same (C C' : CB) : Prop where
 cb : C'.cb = C.cb
 pc : C'.pc = C.pc
 w : C'.w = C.w
 l : C'.l = C.l
 r : C'.r = C.r
theorem CB.same_grow (C : CB) (k cap : Nat) : C.Same (C.grow k cap) := ⟨rfl, rfl, rfl, rfl, rfl⟩
theorem CB.same_refl (C : CB) : C.Same C := ⟨rfl, rfl, rfl, rfl, rfl⟩
theorem CB.Same.trans {C C' C'' : CB} (h : C.Same C') (k : C'.Same C'') : C.Same C'' := ⟨k.cb.trans h.cb, k.pc.trans h.pc, k.w.trans h.w, k.l.trans h.l, k.r.trans h.r⟩
theorem MAt.same {w : World} {m n : Nat} {C C' : CB} (h : MAt w m n C) (s : C.Same C') : MAt w m n C' := by
 obtain ⟨D, h1, h2, h3⟩ := h.own
 exact ⟨D, h1, fun k z hk => by rw [s.w]; exact h2 k z hk, h3⟩
structure LinePost (w : World) (C : CB) (s : PS) (w' : World) : Prop where
 ex : ∃ C', CAt w' C' s ∧ C.Same C' ∧ Chg (CBk C) w w' ∧ (∀ i, CBk C' i → CBk C i ∨ w.heap.size ≤ i)
theorem LinePost.same {w w' : World} {C : CB} {s : PS} (h : CAt w' C s) (c : Chg (CBk C) w w') : LinePost w C s w' := ⟨C, h, C.same_refl, c, fun i hi => .inl hi⟩
end
section
open Go Go.RowKit Go.Chron
def bsO (k : Nat) : Nat := if k = 1 then 9 else if k = 2 then 19 else if k = 3 then 26 else 33
def clO (k : Nat) : Nat := if k = 0 then 3 else if k = 1 then 10 else if k = 2 then 20 else if k = 3 then 27 else 34
def inO (k : Nat) : Nat := if k = 0 then 4 else if k = 1 then 11 else if k = 2 then 21 else if k = 3 then 28 else 35
def tbS (k : Nat) : Nat := if k = 1 then 14 else if k = 2 then 23 else if k = 3 then 29 else 35
def tcS (k : Nat) : Nat := if k = 0 then 9 else if k = 1 then 15 else if k = 2 then 24 else if k = 3 then 30 else 36
theorem bsO_inj : ∀ k, k < 5 → ∀ j, j < 5 → 1 ≤ k → 1 ≤ j → bsO k = bsO j → k = j := by decide
theorem clO_inj : ∀ k, k < 5 → ∀ j, j < 5 → clO k = clO j → k = j := by decide
theorem inO_inj : ∀ k, k < 5 → ∀ j, j < 5 → inO k = inO j → k = j := by decide
theorem tbS_inj : ∀ k, k < 5 → ∀ j, j < 5 → 1 ≤ k → 1 ≤ j → tbS k = tbS j → k = j := by decide
theorem tcS_inj : ∀ k, k < 5 → ∀ j, j < 5 → tcS k = tcS j → k = j := by decide
theorem cl_in : ∀ k, k < 5 → ∀ j, j < 5 → clO k ≠ inO j := by decide
theorem cl_bs : ∀ k, k < 5 → ∀ j, j < 5 → clO k ≠ bsO j := by decide
theorem in_bs : ∀ k, k < 5 → ∀ j, j < 5 → inO k ≠ bsO j := by decide
theorem tb_tc : ∀ k, k < 5 → ∀ j, j < 5 → tbS k ≠ tcS j := by decide
theorem bs_no : ∀ k, k < 5 → bsO k ≠ 0 ∧ bsO k ≠ 36 ∧ bsO k ≠ 37 := by decide
theorem cl_no : ∀ k, k < 5 → clO k ≠ 0 ∧ clO k ≠ 36 ∧ clO k ≠ 37 := by decide
theorem in_no : ∀ k, k < 5 → inO k ≠ 0 ∧ inO k ≠ 36 ∧ inO k ≠ 37 := by decide
theorem tb_no : ∀ k, k < 5 → tbS k ≠ 6 ∧ tbS k ≠ 37 ∧ tbS k ≠ 2 := by decide
theorem tc_no : ∀ k, k < 5 → tcS k ≠ 6 ∧ tcS k ≠ 37 ∧ tcS k ≠ 2 := by decide
def mvs : List Nat := [0, 3, 4, 9, 10, 11, 19, 20, 21, 26, 27, 28, 33, 34, 35, 36, 37]
def updL (L : Nat → Bool) (i : Nat) (j : Nat) : Bool := if j = i then true else L j
def updV (x : Nat → Value) (i : Nat) (v : Value) (j : Nat) : Value := if j = i then v else x j
theorem updL_of {L : Nat → Bool} {i j : Nat} (h : updL L i j = true) (hn : j ≠ i) : L j = true := by unfold updL at h; rwa [if_neg hn] at h
theorem updL_ne {L : Nat → Bool} {i j : Nat} (hn : j ≠ i) : updL L i j = L j := if_neg hn
theorem updL_eq {L : Nat → Bool} {i : Nat} : updL L i i = true := if_pos rfl
theorem updL_up {L : Nat → Bool} {i j : Nat} (h : L j = true) : updL L i j = true := by unfold updL; split <;> first | rfl | exact h
theorem updV_ne {x : Nat → Value} {i j : Nat} {v : Value} (hn : j ≠ i) : updV x i v j = x j := if_neg hn
theorem updV_eq {x : Nat → Value} {i : Nat} {v : Value} : updV x i v i = v := if_pos rfl
theorem kw_len (j : Nat) : (kw j).length ≤ maxLen := by
 unfold kw maxLen
 split <;> simp
structure WdInv (B : Nat) (W0 : World) (cb pc : Nat) (L : Nat → Bool) (f : Nat) (x : Nat → Value) (w : World) (C : CB) (m n : Nat) (D : DataW Unit) : Prop where
 tk : ∀ i, i < 38 → i ∉ mvs → L i = true
 ch : Chg (fun _ => False) W0 w
 c0 : C.cb = cb ∧ C.pc = pc ∧ C.sa = none ∧ C.scap = 0 ∧ C.sg = none
 s0 : L 0 = true → x 6 = .map (some m)
 s36 : L 36 = true → x 37 = .map (some m)
 s37 : L 37 = true → x 2 = .map (some m)
 d36 : L 36 = true → L 0 = true
 d37 : L 37 = true → L 36 = true
 sb : ∀ k, k < 5 → 1 ≤ k → L (bsO k) = true → x (tbS k) = .slice (some ⟨C.r k, 0, none⟩) (many k) (many k)
 sc : ∀ k, k < 5 → L (clO k) = true → x (tcS k) = .pointer (some ⟨C.w k, 0, none⟩)
 ws : ∀ k, k < 5 → L (clO k) = true → Blk w (C.w k) 199 (wordc C k false) ∧ B ≤ C.w k
 ls : ∀ k, k < 5 → 1 ≤ k → L (clO k) = true → Blk w (C.l k) 265 #[.slice (some ⟨C.r k, 0, none⟩) (many k) (many k)] ∧ B ≤ C.l k
 rs : ∀ k, k < 5 → 1 ≤ k → L (bsO k) = true → Blk w (C.r k) 266 ((ptrs C.cb k).map fun o => Value.pointer (some ⟨C.cb, o, none⟩)).toArray ∧ B ≤ C.r k
 mp : L 0 = true → w.ownsMap Tryz.prog 9 ptrR m n D ∧ Maps.IsMap D ∧ B ≤ m
 at_ : L 0 = true → ∀ k, k < 5 → ∀ z, D.atKey (.string (kw k)) z = if L (inO k) = true then oneD (C.w k) 0 else z
 no : L 0 = true → ∀ s z, kwIx s = none → D.atKey (.string s) z = z
 nf : n + f ≤ 38
 dis : ∀ i j, i < 5 → j < 5 → L (clO i) = true → L (clO j) = true → C.w i = C.w j → i = j
 cbk : ∀ k, k < 5 → 1 ≤ k → L (clO k) = true → L (bsO k) = true
 ibk : ∀ k, k < 5 → L (inO k) = true → L (clO k) = true ∧ L 0 = true
variable {B cb pc m n f : Nat} {W0 w w' : World} {L : Nat → Bool} {x : Nat → Value} {C : CB} {D : DataW Unit}
theorem WdInv.grow (h : WdInv B W0 cb pc L f x w C m n D) (c : Chg (fun _ => False) w w') : WdInv B W0 cb pc L f x w' C m n D :=
 { h with
   ch := h.ch.trans c
   ws := fun k hk hl => ⟨(h.ws k hk hl).1.chg c id, (h.ws k hk hl).2⟩
   ls := fun k hk h1 hl => ⟨(h.ls k hk h1 hl).1.chg c id, (h.ls k hk h1 hl).2⟩
   rs := fun k hk h1 hl => ⟨(h.rs k hk h1 hl).1.chg c id, (h.rs k hk h1 hl).2⟩
   mp := fun h0 => ⟨ownsMap_chg (h.mp h0).1 c id, (h.mp h0).2⟩ }
theorem tk_up {i : Nat} (h : ∀ i, i < 38 → i ∉ mvs → L i = true) : ∀ j, j < 38 → j ∉ mvs → updL L i j = true := fun j hj hn => updL_up (h j hj hn)
theorem WdInv.make (h : WdInv B W0 cb pc L (f + 1) x w C m n D) (h0 : L 0 = false) (hB : B ≤ w.heap.size) :
  WdInv B W0 cb pc (updL L 0) f (updV x 6 (.map (some w.heap.size))) (w.alloc (.map #[] 0)) C w.heap.size 0 (.map []) := by
 have g := h.grow (chg0_alloc w (.map #[] 0))
 have n0 : ¬ L 0 = true := by rw [h0]; simp
 exact {
  tk := tk_up h.tk
  ch := g.ch
  c0 := h.c0
  s0 := fun _ => updV_eq
  s36 := fun hl => absurd (h.d36 (updL_of hl (by omega))) n0
  s37 := fun hl => absurd (h.d36 (h.d37 (updL_of hl (by omega)))) n0
  d36 := fun _ => updL_eq
  d37 := fun hl => updL_up (h.d37 (updL_of hl (by omega)))
  sb := fun k hk h1 hl => by rw [updV_ne (tb_no k hk).1]; exact h.sb k hk h1 (updL_of hl (bs_no k hk).1)
  sc := fun k hk hl => by rw [updV_ne (tc_no k hk).1]; exact h.sc k hk (updL_of hl (cl_no k hk).1)
  ws := fun k hk hl => g.ws k hk (updL_of hl (cl_no k hk).1)
  ls := fun k hk h1 hl => g.ls k hk h1 (updL_of hl (cl_no k hk).1)
  rs := fun k hk h1 hl => g.rs k hk h1 (updL_of hl (bs_no k hk).1)
  mp := fun _ => ⟨World.ownsMap_made _ _ _ _, Maps.isMap_empty, hB⟩
  at_ := fun _ k hk z => by
   rw [updL_ne (in_no k hk).1, if_neg (fun hl => n0 (h.ibk k hk hl).2)]
   rfl
  no := fun _ s z _ => rfl
  nf := by have := h.nf; omega
  dis := fun i j hi hj a b e => h.dis i j hi hj (updL_of a (cl_no i hi).1) (updL_of b (cl_no j hj).1) e
  cbk := fun k hk h1 hl => updL_up (h.cbk k hk h1 (updL_of hl (cl_no k hk).1))
  ibk := fun k hk hl => ⟨updL_up (h.ibk k hk (updL_of hl (in_no k hk).1)).1, updL_eq⟩ }
def CB.setW (C : CB) (k v : Nat) : CB := { C with w := fun j => if j = k then v else C.w j }
def CB.setL (C : CB) (k v : Nat) : CB := { C with l := fun j => if j = k then v else C.l j }
def CB.setR (C : CB) (k v : Nat) : CB := { C with r := fun j => if j = k then v else C.r j }
theorem wordc_setW (C : CB) (k v j : Nat) (b : Bool) : wordc (C.setW k v) j b = wordc C j b := rfl
theorem wordc_setL (C : CB) (k v j : Nat) (b : Bool) (h : j ≠ k) : wordc (C.setL k v) j b = wordc C j b := by
 unfold wordc takeF CB.setL
 simp only [if_neg h]
theorem WdInv.row (h : WdInv B W0 cb pc L (f + 1) x w C m n D) {k : Nat} (hk : k < 5) (h1 : 1 ≤ k) (h0 : L (bsO k) = false) (hB : B ≤ w.heap.size) :
  WdInv B W0 cb pc (updL L (bsO k)) f (updV x (tbS k) (.slice (some ⟨w.heap.size, 0, none⟩) (many k) (many k))) (w.alloc (.cells ((ptrs cb k).map fun o => Value.pointer (some ⟨cb, o, none⟩)).toArray 266)) (C.setR k w.heap.size) m n D := by
 have g := h.grow (chg0_alloc w (.cells ((ptrs cb k).map fun o => Value.pointer (some ⟨cb, o, none⟩)).toArray 266))
 have n0 : ¬ L (bsO k) = true := by rw [h0]; simp
 have nk : ∀ j, j < 5 → 1 ≤ j → L (clO j) = true → j ≠ k := fun j hj hj1 hl e => n0 (by rw [← e]; exact h.cbk j hj hj1 hl)
 exact {
  tk := tk_up h.tk
  ch := g.ch
  c0 := h.c0
  s0 := fun hl => by rw [updV_ne (Ne.symm (tb_no k hk).1)]; exact h.s0 (updL_of hl (Ne.symm (bs_no k hk).1))
  s36 := fun hl => by rw [updV_ne (Ne.symm (tb_no k hk).2.1)]; exact h.s36 (updL_of hl (Ne.symm (bs_no k hk).2.1))
  s37 := fun hl => by rw [updV_ne (Ne.symm (tb_no k hk).2.2)]; exact h.s37 (updL_of hl (Ne.symm (bs_no k hk).2.2))
  d36 := fun hl => updL_up (h.d36 (updL_of hl (Ne.symm (bs_no k hk).2.1)))
  d37 := fun hl => updL_up (h.d37 (updL_of hl (Ne.symm (bs_no k hk).2.2)))
  sb := fun j hj hj1 hl => by
   by_cases e : j = k
   ·subst e
    rw [updV_eq]
    simp [CB.setR]
   ·rw [updV_ne (fun q => e (tbS_inj j hj k hk hj1 h1 q))]
    simp only [CB.setR, if_neg e]
    exact h.sb j hj hj1 (updL_of hl (fun q => e (bsO_inj j hj k hk hj1 h1 q)))
  sc := fun j hj hl => by rw [updV_ne (Ne.symm (tb_tc k hk j hj))]; exact h.sc j hj (updL_of hl (cl_bs j hj k hk))
  ws := fun j hj hl => g.ws j hj (updL_of hl (cl_bs j hj k hk))
  ls := fun j hj hj1 hl => by
   have hl' := updL_of hl (cl_bs j hj k hk)
   simp only [CB.setR, if_neg (nk j hj hj1 hl')]
   exact g.ls j hj hj1 hl'
  rs := fun j hj hj1 hl => by
   by_cases e : j = k
   ·subst e
    simp only [CB.setR, if_pos]
    rw [h.c0.1]
    exact ⟨Blk.new _ _ _, hB⟩
   ·simp only [CB.setR, if_neg e]
    exact g.rs j hj hj1 (updL_of hl (fun q => e (bsO_inj j hj k hk hj1 h1 q)))
  mp := fun hl => g.mp (updL_of hl (Ne.symm (bs_no k hk).1))
  at_ := fun hl j hj z => by
   rw [updL_ne (in_bs j hj k hk)]
   exact h.at_ (updL_of hl (Ne.symm (bs_no k hk).1)) j hj z
  no := fun hl => h.no (updL_of hl (Ne.symm (bs_no k hk).1))
  nf := by have := h.nf; omega
  dis := fun i j hi hj a b e => h.dis i j hi hj (updL_of a (cl_bs i hi k hk)) (updL_of b (cl_bs j hj k hk)) e
  cbk := fun j hj hj1 hl => updL_up (h.cbk j hj hj1 (updL_of hl (cl_bs j hj k hk)))
  ibk := fun j hj hl => ⟨updL_up (h.ibk j hj (updL_of hl (in_bs j hj k hk))).1, updL_up (h.ibk j hj (updL_of hl (in_bs j hj k hk))).2⟩ }
theorem WdInv.word (h : WdInv B W0 cb pc L (f + 1) x w C m n D) {k : Nat} (hk : k < 5) (h0 : L (clO k) = false) (hB : B ≤ w.heap.size) (c : Chg (fun _ => False) w w') (v lv : Nat) (hd : 1 ≤ k → L (bsO k) = true)
  (hv : w.heap.size ≤ v) (hb : Blk w' v 199 (wordc ((C.setL k lv).setW k v) k false)) (hl : 1 ≤ k → Blk w' lv 265 #[.slice (some ⟨C.r k, 0, none⟩) (many k) (many k)] ∧ w.heap.size ≤ lv) :
  WdInv B W0 cb pc (updL L (clO k)) f (updV x (tcS k) (.pointer (some ⟨v, 0, none⟩))) w' ((C.setL k lv).setW k v) m n D := by
 have g := h.grow c
 have n0 : ¬ L (clO k) = true := by rw [h0]; simp
 have hlt : ∀ j, j < 5 → L (clO j) = true → C.w j < w.heap.size := fun j hj hl => (h.ws j hj hl).1.lt
 have nk : ∀ j, j < 5 → L (clO j) = true → j ≠ k := fun j hj hl e => n0 (by rw [← e]; exact hl)
 exact {
  tk := tk_up h.tk
  ch := g.ch
  c0 := h.c0
  s0 := fun hl => by rw [updV_ne (Ne.symm (tc_no k hk).1)]; exact h.s0 (updL_of hl (Ne.symm (cl_no k hk).1))
  s36 := fun hl => by rw [updV_ne (Ne.symm (tc_no k hk).2.1)]; exact h.s36 (updL_of hl (Ne.symm (cl_no k hk).2.1))
  s37 := fun hl => by rw [updV_ne (Ne.symm (tc_no k hk).2.2)]; exact h.s37 (updL_of hl (Ne.symm (cl_no k hk).2.2))
  d36 := fun hl => updL_up (h.d36 (updL_of hl (Ne.symm (cl_no k hk).2.1)))
  d37 := fun hl => updL_up (h.d37 (updL_of hl (Ne.symm (cl_no k hk).2.2)))
  sb := fun j hj hj1 hl => by rw [updV_ne (tb_tc j hj k hk)]; exact h.sb j hj hj1 (updL_of hl (Ne.symm (cl_bs k hk j hj)))
  sc := fun j hj hl => by
   by_cases e : j = k
   ·subst e
    rw [updV_eq]
    simp [CB.setW]
   ·rw [updV_ne (fun q => e (tcS_inj j hj k hk q))]
    simp only [CB.setW, CB.setL, if_neg e]
    exact h.sc j hj (updL_of hl (fun q => e (clO_inj j hj k hk q)))
  ws := fun j hj hl => by
   by_cases e : j = k
   ·subst e
    refine ⟨?_, ?_⟩
    ·simpa [CB.setW] using hb
    ·simp only [CB.setW, if_pos]; omega
   ·have := g.ws j hj (updL_of hl (fun q => e (clO_inj j hj k hk q)))
    rw [wordc_setW, wordc_setL _ _ _ _ _ e]
    simp only [CB.setW, CB.setL, if_neg e]
    exact this
  ls := fun j hj hj1 hl' => by
   by_cases e : j = k
   ·subst e
    simp only [CB.setW, CB.setL, if_pos]
    exact ⟨(hl hj1).1, by have := (hl hj1).2; omega⟩
   ·simp only [CB.setW, CB.setL, if_neg e]
    exact g.ls j hj hj1 (updL_of hl' (fun q => e (clO_inj j hj k hk q)))
  rs := fun j hj hj1 hl => g.rs j hj hj1 (updL_of hl (Ne.symm (cl_bs k hk j hj)))
  mp := fun hl => g.mp (updL_of hl (Ne.symm (cl_no k hk).1))
  at_ := fun hl j hj z => by
   rw [updL_ne (Ne.symm (cl_in k hk j hj)), h.at_ (updL_of hl (Ne.symm (cl_no k hk).1)) j hj z]
   by_cases hi : L (inO j) = true
   ·rw [if_pos hi, if_pos hi]
    simp only [CB.setW, CB.setL, if_neg (nk j hj (h.ibk j hj hi).1)]
   ·rw [if_neg hi, if_neg hi]
  no := fun hl => h.no (updL_of hl (Ne.symm (cl_no k hk).1))
  nf := by have := h.nf; omega
  dis := fun i j hi hj a b e => by
   by_cases ei : i = k
   ·by_cases ej : j = k
    ·omega
    ·exfalso
     have := hlt j hj (updL_of b (fun q => ej (clO_inj j hj k hk q)))
     simp only [CB.setW, CB.setL, if_pos ei, if_neg ej] at e
     omega
   ·by_cases ej : j = k
    ·exfalso
     have := hlt i hi (updL_of a (fun q => ei (clO_inj i hi k hk q)))
     simp only [CB.setW, CB.setL, if_pos ej, if_neg ei] at e
     omega
    ·simp only [CB.setW, CB.setL, if_neg ej, if_neg ei] at e
     exact h.dis i j hi hj (updL_of a (fun q => ei (clO_inj i hi k hk q))) (updL_of b (fun q => ej (clO_inj j hj k hk q))) e
  cbk := fun j hj hj1 hl => by
   by_cases e : j = k
   ·subst e; exact updL_up (hd hj1)
   ·exact updL_up (h.cbk j hj hj1 (updL_of hl (fun q => e (clO_inj j hj k hk q))))
  ibk := fun j hj hl => ⟨updL_up (h.ibk j hj (updL_of hl (Ne.symm (cl_in k hk j hj)))).1, updL_up (h.ibk j hj (updL_of hl (Ne.symm (cl_in k hk j hj)))).2⟩ }
theorem WdInv.put (h : WdInv B W0 cb pc L (f + 1) x w C m n D) {k : Nat} (hk : k < 5) (h0 : L (inO k) = false) (hm : L 0 = true) (hw : L (clO k) = true)
  (hB0 : ∀ i, i < W0.heap.size → i < B) (c : Chg (fun i => i = m) w w') (ho : w'.ownsMap Tryz.prog 9 ptrR m (n + 1) (D.put (.string (kw k)) (oneD (C.w k) 0))) :
  WdInv B W0 cb pc (updL L (inO k)) f x w' C m (n + 1) (D.put (.string (kw k)) (oneD (C.w k) 0)) := by
 have nm : ∀ {b ty cs}, Blk w b ty cs → ¬ b = m := fun hb e => by
  obtain ⟨es, clock, hmb, _⟩ := (h.mp hm).1
  have hb' := hb
  unfold Blk at hb'
  rw [e, hmb] at hb'
  cases hb'
 obtain ⟨q1, q2, q3⟩ := h.mp hm
 have nz : ∀ j, j < 5 → L (clO j) = true → ∀ e, e = inO k → True := fun _ _ _ _ _ => trivial
 exact {
  tk := tk_up h.tk
  ch := h.ch.trans' c (fun i hi e => by have := hB0 i hi; have e' : i = m := e; omega)
  c0 := h.c0
  s0 := fun _ => h.s0 hm
  s36 := fun hl => h.s36 (updL_of hl (Ne.symm (in_no k hk).2.1))
  s37 := fun hl => h.s37 (updL_of hl (Ne.symm (in_no k hk).2.2))
  d36 := fun hl => updL_up hm
  d37 := fun hl => updL_up (h.d37 (updL_of hl (Ne.symm (in_no k hk).2.2)))
  sb := fun j hj hj1 hl => h.sb j hj hj1 (updL_of hl (Ne.symm (in_bs k hk j hj)))
  sc := fun j hj hl => h.sc j hj (updL_of hl (cl_in j hj k hk))
  ws := fun j hj hl => ⟨(h.ws j hj (updL_of hl (cl_in j hj k hk))).1.chg c (nm (h.ws j hj (updL_of hl (cl_in j hj k hk))).1), (h.ws j hj (updL_of hl (cl_in j hj k hk))).2⟩
  ls := fun j hj hj1 hl => ⟨(h.ls j hj hj1 (updL_of hl (cl_in j hj k hk))).1.chg c (nm (h.ls j hj hj1 (updL_of hl (cl_in j hj k hk))).1), (h.ls j hj hj1 (updL_of hl (cl_in j hj k hk))).2⟩
  rs := fun j hj hj1 hl => ⟨(h.rs j hj hj1 (updL_of hl (Ne.symm (in_bs k hk j hj)))).1.chg c (nm (h.rs j hj hj1 (updL_of hl (Ne.symm (in_bs k hk j hj)))).1), (h.rs j hj hj1 (updL_of hl (Ne.symm (in_bs k hk j hj)))).2⟩
  mp := fun _ => ⟨ho, q2.put _ _, q3⟩
  at_ := fun _ j hj z => by
   by_cases e : j = k
   ·subst e
    rw [if_pos updL_eq]
    exact Maps.atKey_put_same q2 (lawS.key (keyS (kw j) (kw_len j))) _ z
   ·rw [updL_ne (fun q => e (inO_inj j hj k hk q)), Maps.atKey_put_other (fun q => e (kw_inj hj hk (by injection q)))]
    exact h.at_ hm j hj z
  no := fun _ s z hs => by
   rw [Maps.atKey_put_other (fun q => kwIx_none hs k hk (by injection q))]
   exact h.no hm s z hs
  nf := by have := h.nf; omega
  dis := fun i j hi hj a b e => h.dis i j hi hj (updL_of a (cl_in i hi k hk)) (updL_of b (cl_in j hj k hk)) e
  cbk := fun j hj hj1 hl => updL_up (h.cbk j hj hj1 (updL_of hl (cl_in j hj k hk)))
  ibk := fun j hj hl => by
   by_cases e : j = k
   ·subst e; exact ⟨updL_up hw, updL_up hm⟩
   ·have := h.ibk j hj (updL_of hl (fun q => e (inO_inj j hj k hk q)))
    exact ⟨updL_up this.1, updL_up this.2⟩ }
theorem WdInv.out (h : WdInv B W0 cb pc L (f + 1) x w C m n D) (hm : L 0 = true) : WdInv B W0 cb pc (updL L 36) f (updV x 37 (.map (some m))) w C m n D :=
 { h with
   tk := tk_up h.tk
   s0 := fun hl => by rw [updV_ne (by omega)]; exact h.s0 hm
   s36 := fun _ => updV_eq
   s37 := fun hl => by rw [updV_ne (by omega)]; exact h.s37 (updL_of hl (by omega))
   d36 := fun _ => updL_up hm
   d37 := fun _ => updL_eq
   sb := fun k hk h1 hl => by rw [updV_ne (tb_no k hk).2.1]; exact h.sb k hk h1 (updL_of hl (bs_no k hk).2.1)
   sc := fun k hk hl => by rw [updV_ne (tc_no k hk).2.1]; exact h.sc k hk (updL_of hl (cl_no k hk).2.1)
   ws := fun k hk hl => h.ws k hk (updL_of hl (cl_no k hk).2.1)
   ls := fun k hk h1 hl => h.ls k hk h1 (updL_of hl (cl_no k hk).2.1)
   rs := fun k hk h1 hl => h.rs k hk h1 (updL_of hl (bs_no k hk).2.1)
   mp := fun _ => h.mp hm
   at_ := fun _ k hk z => by rw [updL_ne (in_no k hk).2.1]; exact h.at_ hm k hk z
   no := fun _ => h.no hm
   nf := by have := h.nf; omega
   dis := fun i j hi hj a b e => h.dis i j hi hj (updL_of a (cl_no i hi).2.1) (updL_of b (cl_no j hj).2.1) e
   cbk := fun k hk h1 hl => updL_up (h.cbk k hk h1 (updL_of hl (cl_no k hk).2.1))
   ibk := fun k hk hl => ⟨updL_up (h.ibk k hk (updL_of hl (in_no k hk).2.1)).1, updL_up hm⟩ }
theorem WdInv.last (h : WdInv B W0 cb pc L (f + 1) x w C m n D) (hm : L 36 = true) : WdInv B W0 cb pc (updL L 37) f (updV x 2 (.map (some m))) w C m n D :=
 { h with
   tk := tk_up h.tk
   s0 := fun hl => by rw [updV_ne (by omega)]; exact h.s0 (h.d36 hm)
   s36 := fun _ => by rw [updV_ne (by omega)]; exact h.s36 hm
   s37 := fun _ => updV_eq
   d36 := fun _ => updL_up (h.d36 hm)
   d37 := fun _ => updL_up hm
   sb := fun k hk h1 hl => by rw [updV_ne (tb_no k hk).2.2]; exact h.sb k hk h1 (updL_of hl (bs_no k hk).2.2)
   sc := fun k hk hl => by rw [updV_ne (tc_no k hk).2.2]; exact h.sc k hk (updL_of hl (cl_no k hk).2.2)
   ws := fun k hk hl => h.ws k hk (updL_of hl (cl_no k hk).2.2)
   ls := fun k hk h1 hl => h.ls k hk h1 (updL_of hl (cl_no k hk).2.2)
   rs := fun k hk h1 hl => h.rs k hk h1 (updL_of hl (bs_no k hk).2.2)
   mp := fun _ => h.mp (h.d36 hm)
   at_ := fun _ k hk z => by rw [updL_ne (in_no k hk).2.2]; exact h.at_ (h.d36 hm) k hk z
   no := fun _ => h.no (h.d36 hm)
   nf := by have := h.nf; omega
   dis := fun i j hi hj a b e => h.dis i j hi hj (updL_of a (cl_no i hi).2.2) (updL_of b (cl_no j hj).2.2) e
   cbk := fun k hk h1 hl => updL_up (h.cbk k hk h1 (updL_of hl (cl_no k hk).2.2))
   ibk := fun k hk hl => ⟨updL_up (h.ibk k hk (updL_of hl (in_no k hk).2.2)).1, updL_up (h.d36 hm)⟩ }
end
end Go.Proofs.YtamhicdhbjniiaaGreatDoor
