/- Package peer: what a peer does, and contracts. Package peer: Late, Ask. -/
import Derived.Test.YtamhicdhbjniiaaGreatDoorM15
import Derived.Test.YtamhicdhbjniiaaGreatDoorM07
import Derived.Test.YtamhicdhbjniiaaGreatDoorM12
set_option linter.unusedVariables false
namespace Go.Proofs.YtamhicdhbjniiaaGreatDoor
section
open Go Go.RowKit Go.Chron
def MaxH : Int := 4611686018427387903
structure Pr where
 k : Bko
 st : Int
 due : Int
 pat : Int
 sent : Int
 clock : Int
 cookie : Int
deriving DecidableEq
structure Pr.Ok (p : Pr) : Prop where
 k : p.k.Ok
 st : p.st = 0 ∨ p.st = 1 ∨ p.st = 2
 due : 0 ≤ p.due ∧ p.due ≤ 4611686018427387903 + 1024000000000
 pat : 0 ≤ p.pat ∧ p.pat ≤ 1024000000000
 sent : 0 ≤ p.sent ∧ p.sent ≤ 4611686018427387903
 clock : In64 p.clock
 cookie : 0 ≤ p.cookie ∧ p.cookie < 18446744073709551616
def Pr.isLate (p : Pr) (h : Int) : Bool := decide (p.st = 1) && decide (p.sent + p.pat < h)
def Pr.rest (p : Pr) (s : Int) : Pr := { p with st := 0, due := p.sent + s * 1000000000 }
def Pr.late (p : Pr) (h : Int) : Pr := if p.isLate h then ({ p with k := p.k.fail } : Pr).rest p.k.fail.now else p
def Pr.isDue (p : Pr) (h : Int) : Bool := decide (p.st = 0) && decide (p.due ≤ h)
def Pr.ask (p : Pr) (h clock cookie : Int) : Pr := { p with st := 1, sent := h, clock := clock, cookie := cookie }
def Pr.next (p : Pr) : Int := if p.st = 0 then min p.due MaxH else if p.st = 1 then min (p.sent + p.pat + 1) MaxH else MaxH
def Pr.answer (p : Pr) (h clock slewed : Int) (L : List Int) : Pr × Sam × Int :=
 if p.st = 2 then (p, (⟨0, 0, 0, 0⟩ : Sam), 3) else if p.st = 0 then (p, (⟨0, 0, 0, 0⟩ : Sam), 4)
 else let y := lookOf L p.cookie
  if y.2 = 8 then ({ p with st := 2 }, (⟨0, 0, 0, 0⟩ : Sam), 8)
  else if y.2 ≠ 0 then (p, (⟨0, 0, 0, 0⟩ : Sam), y.2)
  else if p.isLate h then (p, (⟨0, 0, 0, 0⟩ : Sam), 12)
  else (({ p with k := p.k.good } : Pr).rest p.k.good.now, ⟨makeO p.clock clock y.1.recv y.1.xmit, makeD p.clock clock y.1.recv y.1.xmit, h, slewed⟩, 0)
theorem Pr.rest_ok {p : Pr} (o : p.Ok) {s : Int} (h0 : 0 ≤ s) (h1 : s ≤ 1024) : (p.rest s).Ok := by
 obtain ⟨h2, h3, h4, h5, h6, h7, h8⟩ := o
 exact ⟨h2, .inl rfl, by simp only [Pr.rest]; omega, h5, h6, h7, h8⟩
theorem Pr.ask_ok {p : Pr} (o : p.Ok) {h clock cookie : Int} (h0 : 0 ≤ h) (h1 : h ≤ 4611686018427387903) (hc : In64 clock) (hk : 0 ≤ cookie ∧ cookie < 18446744073709551616) : (p.ask h clock cookie).Ok :=
 ⟨o.k, .inr (.inl rfl), o.due, o.pat, ⟨h0, h1⟩, hc, hk⟩
def prc (k : Nat) (p : Pr) : Array Value := #[.pointer (some ⟨k, 0, none⟩), .int .i64 p.st, .int .i64 p.due, .int .i64 p.pat, .int .i64 p.sent, .int .i64 p.clock, .int .u64 p.cookie]
theorem state152 (b k : Nat) (p : Pr) (w : World) (h : Blk w b 218 (prc k p)) : Calls Tryz.prog 152 #[.pointer (some ⟨b, 0, none⟩)] w fun e w' => e = .returned (.int .i64 p.st) ∧ w' = w := by
 have k1 := h.cell 1
 simp [prc] at k1
 generalize p.st = s at *
 clear h
 go_enter Tryz.func152, Tryz.ntmps152
 go_wp2_with fail
 go_ret
 exact ⟨rfl, rfl⟩
theorem due130 (b k : Nat) (p : Pr) (h : Int) (w : World) (hb : Blk w b 218 (prc k p)) : Calls Tryz.prog 130 #[.pointer (some ⟨b, 0, none⟩), .int .i64 h] w fun e w' => e = .returned (.bool (p.isDue h)) ∧ Chg (fun _ => False) w w' := by
 have HS := Lib.hid (fun W (hW : Chg (fun _ => False) w W) => state152 b k p W (hb.chg hW (fun h => h)))
 have k2 := hb.cell 2
 simp [prc] at k2
 unfold Pr.isDue
 generalize p.st = s at *
 generalize p.due = d at *
 clear hb
 go_enter Tryz.func130, Tryz.ntmps130
 go_wp2_with fail
 refine (HS.out _ (Chg.refl _ _)).mono ?_
 rintro e w' ⟨rfl, rfl⟩
 by_cases h0 : s = 0
 ·subst h0
  go_wp2_with fail
  go_ret
  exact ⟨rfl, by repeat (first | exact Chg.refl _ _ | exact (by assumption) | apply Chg.drewN | apply Chg.drew | apply Chg.alloc)⟩
 ·go_wp2_with fail
  go_ret
  exact ⟨ret_bool (by simp [h0]), by repeat (first | exact Chg.refl _ _ | exact (by assumption) | apply Chg.drewN | apply Chg.drew | apply Chg.alloc)⟩
theorem late127 (b k : Nat) (p : Pr) (h : Int) (w : World) (o : p.Ok) (hb : Blk w b 218 (prc k p)) : Calls Tryz.prog 127 #[.pointer (some ⟨b, 0, none⟩), .int .i64 h] w fun e w' => e = .returned (.bool (p.isLate h)) ∧ Chg (fun _ => False) w w' := by
 have HS := Lib.hid (fun W (hW : Chg (fun _ => False) w W) => (state152 b k p W (hb.chg hW (fun h => h))))
 have k2 := hb.cell 3
 have k3 := hb.cell 4
 simp [prc] at k2 k3
 have o1 := o.pat
 have o2 := o.sent
 unfold Pr.isLate
 generalize p.st = s at *
 generalize p.pat = d at *
 generalize p.sent = t at *
 clear hb o
 by_cases h0 : s = 1
 ·subst h0
  go_enter Tryz.func127, Tryz.ntmps127
  go_upto_region 1 with (fail)
  go_quiet (first | (go_at_call 152; exact Calls.quiet_of_same (HS.out _ ((Chg.refl _ _).drewN _))))
  go_wp2_with fail
  go_ret
  exact ⟨rfl, by repeat (first | exact Chg.refl _ _ | exact (by assumption) | apply Chg.drewN | apply Chg.drew | apply Chg.alloc)⟩
 ·go_enter Tryz.func127, Tryz.ntmps127
  go_upto_region 1 with (fail)
  go_quiet (first | (go_at_call 152; exact Calls.quiet_of_same (HS.out _ ((Chg.refl _ _).drewN _))))
  go_wp2_with fail
  go_ret
  exact ⟨ret_bool (by simp [h0]), by repeat (first | exact Chg.refl _ _ | exact (by assumption) | apply Chg.drewN | apply Chg.drew | apply Chg.alloc)⟩
theorem rest128 (b k : Nat) (p : Pr) (s : Int) (w : World) (o : p.Ok) (h0 : 0 ≤ s) (h1 : s ≤ 1024) (hb : Blk w b 218 (prc k p)) :
  Calls Tryz.prog 128 #[.pointer (some ⟨b, 0, none⟩), .int .i64 s] w fun e w' => e = .returned (.tuple #[]) ∧ Blk w' b 218 (prc k (p.rest s)) ∧ Chg (fun i => i = b) w w' := by
 have k1 := hb.cell 1
 have k2 := hb.cell 2
 have k4 := hb.cell 4
 have f1 := hb.frozen 1
 have f2 := hb.frozen 2
 simp [prc] at k1 k2 k4
 have o2 := o.sent
 have K := (hb.set_ 1 (.int .i64 0)).set_ 2 (.int .i64 (p.sent + s * 1000000000))
 simp [prc] at K
 have HK := Lib.hid K
 unfold prc Pr.rest
 simp only
 generalize p.sent = t at *
 clear hb o K
 go_enter Tryz.func128, Tryz.ntmps128
 go_wp2_with fail
 go_end0
 exact ⟨rfl, HK.out, ((Chg.refl (fun i => i = b) w).setCell (p := ⟨b, 1, none⟩) (fun _ => rfl) _).setCell (p := ⟨b, 2, none⟩) (fun _ => rfl) _⟩
theorem next54 (b k : Nat) (p : Pr) (w : World) (o : p.Ok) (hb : Blk w b 218 (prc k p)) :
  Calls Tryz.prog 54 #[.pointer (some ⟨b, 0, none⟩)] w fun e w' => e = .returned (.int .i64 p.next) ∧ Chg (fun _ => False) w w' := by
 have k1 := hb.cell 1
 have k2 := hb.cell 2
 have k3 := hb.cell 3
 have k4 := hb.cell 4
 simp [prc] at k1 k2 k3 k4
 have o1 := o.pat
 have o2 := o.sent
 have hs := o.st
 have hn : p.next = if p.st = 0 then min p.due MaxH else if p.st = 1 then min (p.sent + p.pat + 1) MaxH else MaxH := rfl
 generalize p.next = N at *
 generalize p.st = s at *
 generalize p.pat = q at *
 generalize p.sent = t at *
 generalize p.due = d at *
 unfold MaxH at hn
 clear hb o
 rcases hs with rfl | rfl | rfl
 ·rw [if_pos rfl] at hn
  have HN := Lib.hid hn
  clear hn
  go_enter Tryz.func54, Tryz.ntmps54
  go_wp2_with fail
  all_goals (go_ret; exact ⟨ret_int (by rw [HN.out] <;> omega), Chg.refl _ _⟩)
 ·rw [if_neg (by omega), if_pos rfl] at hn
  have HN := Lib.hid hn
  clear hn
  go_enter Tryz.func54, Tryz.ntmps54
  go_wp2_with fail
  go_region
  all_goals (go_wp2_with fail; go_ret; exact ⟨ret_int (by rw [HN.out] <;> omega), (Chg.refl _ _).drew⟩)
 ·rw [if_neg (by omega), if_neg (by omega)] at hn
  subst hn
  go_enter Tryz.func54, Tryz.ntmps54
  go_wp2_with fail
  go_ret
  exact ⟨rfl, by repeat (first | exact Chg.refl _ _ | exact (by assumption) | apply Chg.drewN | apply Chg.drew | apply Chg.alloc)⟩
end
section
open Go Go.RowKit Go.Chron
structure PeerAt (w : World) (b k : Nat) (p : Pr) : Prop where
 b : Blk w b 218 (prc k p)
 k : Blk w k 275 (bkoc p.k)
 o : p.Ok
theorem PeerAt.ne {w : World} {b k : Nat} {p : Pr} (h : PeerAt w b k p) : b ≠ k := by
 rintro rfl
 exact absurd (blk_typ h.b h.k) (by decide)
theorem PeerAt.chg {S : Nat → Prop} {w w' : World} {b k : Nat} {p : Pr} (h : PeerAt w b k p) (c : Chg S w w') (hb : ¬ S b) (hk : ¬ S k) : PeerAt w' b k p := ⟨h.b.chg c hb, h.k.chg c hk, h.o⟩
theorem PeerAt.chg0 {w w' : World} {b k : Nat} {p : Pr} (h : PeerAt w b k p) (c : Chg (fun _ => False) w w') : PeerAt w' b k p := h.chg c (fun h => h) (fun h => h)
theorem late89 (b k : Nat) (p : Pr) (h : Int) (w : World) (hp : PeerAt w b k p) :
  Calls Tryz.prog 89 #[.pointer (some ⟨b, 0, none⟩), .int .i64 h] w fun e w' => e = .returned (.bool (p.isLate h)) ∧ PeerAt w' b k (p.late h) ∧ Chg (fun i => i = b ∨ i = k) w w' := by
 have HL := Lib.hid (late127 b k p h w hp.o hp.b)
 have HP := Lib.hid hp
 by_cases hl : p.isLate h = true
 ·have e1 : p.late h = ({ p with k := p.k.fail } : Pr).rest p.k.fail.now := by unfold Pr.late; rw [if_pos hl]
  rw [hl] at HL ⊢
  have HE := Lib.hid e1
  clear hl hp e1
  go_enter Tryz.func89, Tryz.ntmps89
  go_wp2_with fail
  refine HL.out.mono ?_
  rintro e w1 ⟨rfl, c1⟩
  have P1 := HP.out.chg0 c1
  have HP1 := Lib.hid P1
  have k0 := P1.b.cell 0
  simp [prc] at k0
  clear P1
  go_wp2_with fail
  refine (fail129 k p.k w1 HP1.out.o.k HP1.out.k).mono ?_
  rintro e w2 ⟨rfl, K2, c2⟩
  have B2 := HP1.out.b.chg c2 (fun h => HP1.out.ne h)
  have f := Bko.fail_ok HP.out.o.k
  have n0 : 0 ≤ p.k.fail.now := by have := f.l0; have := f.n0; omega
  have n1 : p.k.fail.now ≤ 1024 := by have := f.n1; have := f.m1; omega
  have HB2 := Lib.hid B2
  have HK2 := Lib.hid K2
  have HF := Lib.hid f
  clear f B2 K2 k0
  generalize hnn : p.k.fail.now = nn at *
  go_wp2_with fail
  have o' : ({ p with k := p.k.fail } : Pr).Ok := ⟨HF.out, HP.out.o.st, HP.out.o.due, HP.out.o.pat, HP.out.o.sent, HP.out.o.clock, HP.out.o.cookie⟩
  refine (rest128 b k ({ p with k := p.k.fail } : Pr) nn w2 o' n0 n1 HB2.out).mono ?_
  rintro e w3 ⟨rfl, B3, c3⟩
  have K3 := HK2.out.chg c3 (fun h => HP.out.ne h.symm)
  have o3 := Pr.rest_ok o' n0 n1
  clear o'
  go_wp2_with fail
  go_ret
  refine ⟨rfl, by rw [HE.out]; exact ⟨B3, K3, o3⟩, ?_⟩
  exact ((c1.mono (fun _ _ h => h.elim)).trans (c2.mono (fun _ _ h => .inr h))).trans (c3.mono (fun _ _ h => .inl h))
 ·have hf : p.isLate h = false := by simpa using hl
  have e1 : p.late h = p := by unfold Pr.late; rw [if_neg hl]
  rw [hf] at HL ⊢
  rw [e1]
  clear hl hp e1
  go_enter Tryz.func89, Tryz.ntmps89
  go_wp2_with fail
  refine HL.out.mono ?_
  rintro e w1 ⟨rfl, c1⟩
  go_wp2_with fail
  go_ret
  exact ⟨rfl, HP.out.chg0 c1, c1.mono (fun _ _ h => h.elim)⟩
theorem ask90 (b k : Nat) (p : Pr) (h clock cookie : Int) (w : World) (hp : PeerAt w b k p) (h0 : 0 ≤ h) (h1 : h ≤ 4611686018427387903) (hd : p.isDue h = true) (hc : In64 clock) (hk : 1 ≤ cookie ∧ cookie < 18446744073709551616) :
  Calls Tryz.prog 90 #[.pointer (some ⟨b, 0, none⟩), .int .i64 h, .int .i64 clock, .int .u64 cookie] w fun e w' => ∃ v g, e = .returned (.tuple #[v, .int .i64 0]) ∧
   Owns w' 5 1 v g ((bytes4 3 0 0 0 cookie).map u8c) ∧ (∀ i, g = some i → w.heap.size ≤ i) ∧ PeerAt w' b k (p.ask h clock cookie) ∧ Chg (fun i => i = b) w w' := by
 have HD := Lib.hid (due130 b k p h w hp.b)
 rw [hd] at HD
 have HP := Lib.hid hp
 have HC := Lib.hid hc
 have k0 := hk.1
 have hlt := hp.b.lt
 clear hp hc hd
 go_enter Tryz.func90, Tryz.ntmps90
 go_wp2_with fail
 refine HD.out.mono ?_
 rintro e w1 ⟨rfl, c1⟩
 have P1 := HP.out.chg0 c1
 have HP1 := Lib.hid P1
 have x1 := P1.b.cell 1
 have x4 := P1.b.cell 4
 have x5 := P1.b.cell 5
 have x6 := P1.b.cell 6
 simp [prc] at x1 x4 x5 x6
 have f1 := P1.b.frozen 1
 have f4 := P1.b.frozen 4
 have f5 := P1.b.frozen 5
 have f6 := P1.b.frozen 6
 have K := (((P1.b.set_ 1 (.int .i64 1)).set_ 4 (.int .i64 h)).set_ 5 (.int .i64 clock)).set_ 6 (.int .u64 cookie)
 have c2 : Chg (fun i => i = b) w1 _ := ((((Chg.refl (fun i => i = b) w1).setCell (p := ⟨b, 1, none⟩) (fun _ => rfl) (.int .i64 1)).setCell (p := ⟨b, 4, none⟩) (fun _ => rfl) (.int .i64 h)).setCell (p := ⟨b, 5, none⟩) (fun _ => rfl) (.int .i64 clock)).setCell (p := ⟨b, 6, none⟩) (fun _ => rfl) (.int .u64 cookie)
 have HC2 := Lib.hid c2
 have HK := Lib.hid K
 clear P1 K c2
 go_wp2_with fail
 refine (query131 cookie ⟨by omega, hk.2⟩ _).mono ?_
 rintro e w3 ⟨v, g, rfl, B3⟩
 have HB := Lib.hid B3
 clear B3 x1 x4 x5 x6 f1 f4 f5 f6
 go_wp2_with fail
 go_ret2
 have B3 := HB.out
 have cc := (c1.mono (S' := fun i => i = b) (fun _ _ h => h.elim)).trans HC2.out
 refine ⟨v, g, rfl, B3.o, fun i hi => Nat.le_trans cc.size (B3.n i hi), ⟨?_, ?_, Pr.ask_ok HP.out.o h0 h1 HC.out ⟨by omega, hk.2⟩⟩, cc.trans (B3.c.mono (fun _ _ h => h.elim))⟩
 ·have := HK.out.chg B3.c (fun h => h)
  simpa [prc, Pr.ask] using this
 ·exact (HP1.out.k.chg HC2.out (fun h => HP.out.ne h.symm)).chg B3.c (fun h => h)
theorem askNo90 (b k : Nat) (p : Pr) (h clock cookie : Int) (w : World) (hp : PeerAt w b k p) (h0 : 0 ≤ h) (h1 : h ≤ 4611686018427387903) (hd : p.isDue h = false ∨ cookie = 0) :
  Calls Tryz.prog 90 #[.pointer (some ⟨b, 0, none⟩), .int .i64 h, .int .i64 clock, .int .u64 cookie] w fun e w' => (∃ y, e = .returned (.tuple #[.slice none 0 0, .int .i64 y]) ∧ (y = 2 ∨ y = 9)) ∧ Chg (fun _ => False) w w' := by
 have HD := Lib.hid (due130 b k p h w hp.b)
 by_cases hd' : p.isDue h = true
 ·obtain rfl : cookie = 0 := by
   rcases hd with hd | hd
   ·rw [hd] at hd'; cases hd'
   ·exact hd
  rw [hd'] at HD
  clear hp hd hd'
  go_enter Tryz.func90, Tryz.ntmps90
  go_wp2_with fail
  refine HD.out.mono ?_
  rintro e w1 ⟨rfl, c1⟩
  go_wp2_with fail
  go_ret2
  exact ⟨⟨2, rfl, .inl rfl⟩, c1⟩
 ·rw [show p.isDue h = false by simpa using hd'] at HD
  clear hp hd hd'
  go_enter Tryz.func90, Tryz.ntmps90
  go_wp2_with fail
  refine HD.out.mono ?_
  rintro e w1 ⟨rfl, c1⟩
  go_wp2_with fail
  go_ret2
  exact ⟨⟨9, rfl, .inr rfl⟩, c1⟩
end
end Go.Proofs.YtamhicdhbjniiaaGreatDoor
