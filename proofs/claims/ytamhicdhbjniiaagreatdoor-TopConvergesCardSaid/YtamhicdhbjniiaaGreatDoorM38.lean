/- What an answer does to a daemon and a world, in plain words. world.come: contract. -/
import Derived.Test.YtamhicdhbjniiaaGreatDoorM37
import Derived.Test.YtamhicdhbjniiaaGreatDoorM22
set_option linter.unusedVariables false
set_option maxHeartbeats 6400000
set_option maxRecDepth 100000
namespace Go.Proofs.YtamhicdhbjniiaaGreatDoor
section
open Go Go.RowKit Go.Chron
def Way.rx (y : Way) (t : Int) : Int := if y.kind = 0 then max 1 (fromI (satAdd t y.err)) else max 1 y.lie
def Way.xx (y : Way) (t : Int) : Int := if y.kind = 0 then max 1 (fromI (satAdd (satAdd t y.stay) y.err)) else max 1 y.lie
theorem ans_eq (y : Way) (c t : Int) : y.ans c t = bytes4 4 1 c (y.rx t) (y.xx t) := by
 unfold Way.ans Way.rx Way.xx
 split <;> rfl
theorem rx_in {y : Way} (o : y.Ok) (t : Int) : 1 ≤ y.rx t ∧ y.rx t < 18446744073709551616 := by
 have h1 := fromI_in (satAdd t y.err)
 have h2 := o.lie
 unfold Way.rx
 split <;> omega
theorem xx_in {y : Way} (o : y.Ok) (t : Int) : 1 ≤ y.xx t ∧ y.xx t < 18446744073709551616 := by
 have h1 := fromI_in (satAdd (satAdd t y.stay) y.err)
 have h2 := o.lie
 unfold Way.xx
 split <;> omega
theorem ans_len' (y : Way) (c t : Int) : (y.ans c t).length = 48 := by rw [ans_eq]; exact bytes4_len _ _ _ _ _
theorem look_ans {y : Way} (o : y.Ok) {c t : Int} (h0 : 0 < c) (h1 : c < 18446744073709551616) : lookOf (y.ans c t) c = (pkt4 4 1 c (y.rx t) (y.xx t), 0) := by
 have hr := rx_in o t
 have hx := xx_in o t
 have hp : pktOf (y.ans c t) = pkt4 4 1 c (y.rx t) (y.xx t) := by
  rw [ans_eq]
  exact pkt_bytes 4 1 c _ _ (.inr rfl) (by omega) (by omega) (by omega) (by omega)
 have hs : saneOf (pkt4 4 1 c (y.rx t) (y.xx t)) c = 0 := by
  unfold saneOf pkt4
  simp only
  rw [if_neg (by decide), if_neg (by decide), if_neg (by omega), if_neg (by decide), if_neg (by decide), if_neg (by decide), if_neg (by omega)]
 unfold lookOf
 rw [if_neg (by rw [ans_len']; decide), hp]
 simp only [hs]
 simp
def Pr.took (p : Pr) : Pr := ({ p with k := p.k.good } : Pr).rest p.k.good.now
def samOf (p : Pr) (y : Way) (h clock sl t : Int) : Sam := ⟨makeO p.clock clock (y.rx t) (y.xx t), makeD p.clock clock (y.rx t) (y.xx t), h, sl⟩
theorem answer_ans {p : Pr} {y : Way} (o : y.Ok) {h clock sl t : Int} (hst : p.st = 1) (h0 : 0 < p.cookie) (h1 : p.cookie < 18446744073709551616) (hl : p.isLate h = false) :
  p.answer h clock sl (y.ans p.cookie t) = (p.took, samOf p y h clock sl t, 0) := by
 unfold Pr.answer
 rw [if_neg (by omega), if_neg (by omega), look_ans o h0 h1]
 simp only
 rw [if_neg (by decide), if_neg (by decide), if_neg (by rw [hl]; decide)]
 rfl
def Dm.heard (d : Dm) (i : Nat) (h : Int) (p : Pr) (x : Sam) : Dm := (({ d with h := h, ps := d.ps.set i p.took } : Dm).take i h x).count 0
theorem doData_ans {d : Dm} {i : Nat} {p : Pr} {y : Way} (o : y.Ok) {h t addr : Int} (hix : Lib.idxOf d.cfg.servers addr = (i : Int)) (hp : d.ps[i]? = some p) (hst : p.st = 1) (h0 : 0 < p.cookie) (h1 : p.cookie < 18446744073709551616) (hl : p.isLate h = false) :
  d.doData h addr (y.ans p.cookie t) = (d.heard i h p (samOf p y h (d.clk.run h).c (d.clk.run h).all t), 0) := by
 have hi : ((d.at h).ps.getD i (Pr.new (d.at h).cfg 0)) = p := by
  show d.ps.getD i _ = p
  rw [List.getD_eq_getElem?_getD, hp]; rfl
 have hc : (d.at h).come i h (y.ans p.cookie t) = (({ d with h := h, ps := d.ps.set i p.took } : Dm).take i h (samOf p y h (d.clk.run h).c (d.clk.run h).all t), 0) := by
  unfold Dm.come
  rw [hi]
  rw [answer_ans o hst h0 h1 hl]
  rfl
 have hh : (d.at h).hear h addr (y.ans p.cookie t) = (({ d with h := h, ps := d.ps.set i p.took } : Dm).take i h (samOf p y h (d.clk.run h).c (d.clk.run h).all t), 0) := by
  unfold Dm.hear
  rw [if_neg (by rw [ans_len']; decide)]
  show (if Lib.idxOf d.cfg.servers addr < 0 then _ else _) = _
  rw [hix, if_neg (by omega)]
  show (d.at h).come (Lib.idxOf d.cfg.servers addr).toNat h _ = _
  rw [hix, Int.toNat_natCast]
  exact hc
 unfold Dm.doData
 simp only [hh]
 rfl
def Wm.ticked (W : Wm) (dr : Int) : Wm := (W.d.doTick W.g.h dr).2.foldl (Wm.send (W.d.drawn dr)) { W with d := (W.d.doTick W.g.h dr).1 }
end
section
open Go Go.RowKit Go.Chron
theorem comeSet {M : Nat} {w9 W2 : World} {p db : Nat} {d' : Dm} {D D' : DB} {a0 a1 a2 a3 v0 v1 v2 v3 : Value} (d9 : DAt M w9 db d' D') (f9 : ∀ j, DBk db D' j → DBk db D j ∨ p + 1 ≤ j) (hp : W2.heap.size ≤ p) (hl : ∀ j, DBk db D j → j < p) (cT : Chg (DBk db D) W2 w9) (N9 : Blk w9 p 74 #[a0, a1, a2, a3]) :
  ((((w9.setCell ⟨p, 0, none⟩ v0).setCell ⟨p, 1, none⟩ v1).setCell ⟨p, 2, none⟩ v2).setCell ⟨p, 3, none⟩ v3).cell? ⟨p, 3, none⟩ = some v3 ∧ DAt M ((((w9.setCell ⟨p, 0, none⟩ v0).setCell ⟨p, 1, none⟩ v1).setCell ⟨p, 2, none⟩ v2).setCell ⟨p, 3, none⟩ v3) db d' D' ∧ Chg (DBk db D) W2 ((((w9.setCell ⟨p, 0, none⟩ v0).setCell ⟨p, 1, none⟩ v1).setCell ⟨p, 2, none⟩ v2).setCell ⟨p, 3, none⟩ v3) := by
 have B := (((N9.set_ 0 v0).set_ 1 v1).set_ 2 v2).set_ 3 v3
 have q := B.cell 3
 simp at q
 have c : Chg (fun i => i = p) w9 ((((w9.setCell ⟨p, 0, none⟩ v0).setCell ⟨p, 1, none⟩ v1).setCell ⟨p, 2, none⟩ v2).setCell ⟨p, 3, none⟩ v3) := ((((Chg.refl (fun i => i = p) w9).setCell (p := ⟨p, 0, none⟩) (fun _ => rfl) v0).setCell (p := ⟨p, 1, none⟩) (fun _ => rfl) v1).setCell (p := ⟨p, 2, none⟩) (fun _ => rfl) v2).setCell (p := ⟨p, 3, none⟩) (fun _ => rfl) v3
 refine ⟨q, d9.chg c (fun i hi e => ?_), cT.trans' c (fun i hi e => ?_)⟩
 ·have e' : i = p := e
  rcases f9 i hi with h | h
  ·have := hl i h; omega
  ·omega
 ·have e' : i = p := e
  omega
structure ComePost (N : Nat) (w : World) (b : Nat) (W : Wm) (B : WB) (x : MA) (e : Ending) (w' : World) : Prop where
 e : e = .returned (.tuple #[])
 ex : ∃ B', WAt (N + 5) w' b (W.come x.a) B' ∧ (∀ i, WAll b B' i → WAll b B i ∨ w.heap.size ≤ i) ∧ B'.uv = B.uv ∧ B'.ug = B.ug ∧ B'.M = B.M
 c : Chg (WAll b B) w w'
theorem come42 {N : Nat} {b : Nat} {W : Wm} {B : WB} {w : World} (h : WAt N w b W B) (x : MA) (hx : x.Ok W.d.cfg.servers.length w) (hN : N ≤ 185000) :
    Calls Tryz.prog 42 #[.pointer (some ⟨b, 0, none⟩), .agg #[.int .i64 x.a.at_, .int .i64 x.a.sent, .int .i64 x.a.srv, .slice (some ⟨x.k, 0, none⟩) x.a.data.length x.cap]] w (ComePost N w b W B x) := by
  have hg1 := h.gok.h
  have HWA := Lib.hid h
  have HX := Lib.hid hx
  have cB := chg0_alloc w (Obj.cells #[.int .i64 x.a.at_, .int .i64 x.a.sent, .int .i64 x.a.srv, .slice (some ⟨x.k, 0, none⟩) x.a.data.length x.cap] 118)
  have B3 := Blk.new w 118 #[.int .i64 x.a.at_, .int .i64 x.a.sent, .int .i64 x.a.srv, .slice (some ⟨x.k, 0, none⟩) x.a.data.length x.cap]
  have hW2 := h.chg0 cB
  have HCH := Lib.hid (chosen23 N B.db W.d B.D _ hW2.d)
  have k0 := hW2.box.cell 0
  simp [wmc] at k0
  have hltW : ∀ i, DBk B.db B.D i → i < w.heap.size := fun i hi => h.d.lt hi
  have HB3 := Lib.hid B3
  have HW2 := Lib.hid hW2
  have HCB := Lib.hid cB
  have HLTW := Lib.hid hltW
  obtain ⟨p3, hp3⟩ : ∃ p, p = w.heap.size := ⟨_, rfl⟩
  obtain ⟨ch, hch⟩ : ∃ ch, ch = W.d.chosen := ⟨_, rfl⟩
  have HP3 := Lib.hid hp3
  have HCC := Lib.hid hch
  rw [← hch] at HCH
  have HS2W := Lib.hid (show (w.alloc (Obj.cells #[.int .i64 x.a.at_, .int .i64 x.a.sent, .int .i64 x.a.srv, .slice (some ⟨x.k, 0, none⟩) x.a.data.length x.cap] 118)).heap.size = w.heap.size + 1 from by simp)
  clear h hx cB B3 hW2 hltW hp3 hch
  go_enter Tryz.func42, Tryz.ntmps42
  go_upto_region 1 with (fail)
  generalize w.alloc (Obj.cells #[.int .i64 x.a.at_, .int .i64 x.a.sent, .int .i64 x.a.srv, .slice (some ⟨x.k, 0, none⟩) x.a.data.length x.cap] 118) = W2 at *
  rw [← HP3.out]
  rw [← HP3.out] at HB3
  go_upto_region 2 with (go_at_call 23; refine HCH.out.mono ?_; rintro e wt ⟨rfl, hwt⟩; rw [hwt]; clear hwt wt)
  have hO := HB3.out
  have hsv := HW2.out.srv
  obtain ⟨sk, hsk⟩ := hsv.pos (by rw [List.length_map]; have := HX.out.s; omega)
  rw [hsk] at hsv
  obtain ⟨scap, hsvv, hsc1, hsc2⟩ := hsv.some_form
  rw [List.length_map] at hsvv hsc1
  obtain ⟨ad, had⟩ : ∃ ad, W.d.cfg.servers[x.a.srv]? = some ad := ⟨_, List.getElem?_eq_getElem HX.out.s⟩
  have q4 : W2.cell? ⟨sk, x.a.srv, none⟩ = some (.int .i64 ad) := by
    have hz : (W.d.cfg.servers.map i64c)[x.a.srv]? = some (i64c ad) := by rw [List.getElem?_map, had]; rfl
    have := hsv.cell rfl hz (j := 0) (u := .int .i64 ad) rfl
    simpa using this
  have hgd : W.d.cfg.servers.getD x.a.srv 0 = ad := by rw [List.getD_eq_getElem?_getD, had]; rfl
  have q0 := HW2.out.box.cell 0
  have q1 := HW2.out.box.cell 1
  have q2 := HW2.out.box.cell 2
  have q3 := hO.cell 2
  have q5 := hO.cell 3
  have q6 := hO.cell 1
  simp [wmc] at q0 q1 q2 q3 q5 q6
  rw [hsvv] at q2
  have hxo := HX.out.o.chg HCB.out (fun _ _ h => h)
  obtain ⟨xcap', hxv, hxc1, hxc2⟩ := hxo.some_form
  rw [List.length_map] at hxv hxc1
  have hxcap : x.cap = xcap' := by injection hxv
  have hxb : ∀ a : Addr, some ⟨x.k, 0, none⟩ = some a → a.block ≠ B.db := fun a ha e => by
    cases ha
    obtain ⟨_, h'⟩ := hxo.blk rfl
    have e' : x.k = B.db := e
    rw [e'] at h'
    exact absurd (blk_typ h' HW2.out.d.box) (by decide)
  have hxr := hxo.reads
  have HDD := Lib.hid (fun W' (hW : Chg (fun _ => False) W2 W') => doData21 N B.db W.d B.D W' (HW2.out.d.chg0 hW) hN W.g.h ad 0 (some ⟨x.k, 0, none⟩) x.a.data.length x.cap x.a.data HWA.out.h (by omega) rfl (by rw [hxcap]; exact hxc1) (by rw [hxcap]; unfold maxLen at hxc2; omega) HX.out.b (hxr.chg hW (fun _ _ h => h)) hxb)
  have HCFG := Lib.hid (doData_cfg W.d W.g.h ad x.a.data)
  have HVOT := Lib.hid (doData_votes W.d W.g.h ad x.a.data)
  have hcome : W.come x.a = if ch < (W.d.doData W.g.h ad x.a.data).1.chosen then { W with d := (W.d.doData W.g.h ad x.a.data).1, log := W.log ++ [((W.d.doData W.g.h ad x.a.data).1.theta, Wm.off { W with d := (W.d.doData W.g.h ad x.a.data).1 })] } else { W with d := (W.d.doData W.g.h ad x.a.data).1 } := by
    unfold Wm.come
    simp only [hgd, HCC.out]
  have HCOM := Lib.hid hcome
  obtain ⟨d', hd'⟩ : ∃ d', d' = (W.d.doData W.g.h ad x.a.data).1 := ⟨_, rfl⟩
  obtain ⟨er, her⟩ : ∃ er, er = (W.d.doData W.g.h ad x.a.data).2 := ⟨_, rfl⟩
  rw [← hd'] at HCFG HVOT HCOM
  simp only [← hd', ← her] at HDD
  obtain ⟨ck, hck⟩ : ∃ ck, ck = (d'.clk.run W.g.h).c := ⟨_, rfl⟩
  obtain ⟨wk, hwk⟩ : ∃ wk, wk = d'.wake := ⟨_, rfl⟩
  simp only [← hck, ← hwk] at HDD
  obtain ⟨sn, hsn⟩ : ∃ sn, sn = W.d.cfg.servers.length := ⟨_, rfl⟩
  obtain ⟨srv, hsrv⟩ : ∃ srv, srv = x.a.srv := ⟨_, rfl⟩
  obtain ⟨xk, hxk⟩ : ∃ xk, xk = x.k := ⟨_, rfl⟩
  obtain ⟨xn, hxn⟩ : ∃ xn, xn = x.a.data.length := ⟨_, rfl⟩
  obtain ⟨xcap, hxcp⟩ : ∃ xcap, xcap = x.cap := ⟨_, rfl⟩
  have hsrvl : srv < sn := by rw [hsrv, hsn]; exact HX.out.s
  have hsrvI : (srv : Int) < sn := by omega
  have hsrvc : srv < scap := by omega
  rw [← hxk, ← hxn, ← hxcp] at HDD q5
  rw [← hsn] at q2
  rw [← hsrv] at q3 q4
  have nb : ¬ DBk B.db B.D b := HWA.out.dis b (.inl rfl)
  have nsk : ¬ DBk B.db B.D sk := HWA.out.dis sk (by unfold WBk; simp [hsk])
  have np3 : ¬ DBk B.db B.D p3 := fun hi => by have := HLTW.out _ hi; have := HP3.out; omega
  have HS2 := Lib.hid (fun W' (hW : Chg (DBk B.db B.D) W2 W') => (⟨hW.keep q0 nb, hW.keep q1 nb, hW.keep q2 nb, hW.keep q3 np3, hW.keep q4 nsk, hW.keep q5 np3⟩ : W'.cell? ⟨b, 0, none⟩ = some (.pointer (some ⟨B.db, 0, none⟩)) ∧ W'.cell? ⟨b, 1, none⟩ = some (.pointer (some ⟨B.gb, 0, none⟩)) ∧ W'.cell? ⟨b, 2, none⟩ = some (.slice (some ⟨sk, 0, none⟩) sn scap) ∧ W'.cell? ⟨p3, 2, none⟩ = some (.int .i64 srv) ∧ W'.cell? ⟨sk, srv, none⟩ = some (.int .i64 ad) ∧ W'.cell? ⟨p3, 3, none⟩ = some (.slice (some ⟨xk, 0, none⟩) xn xcap)))
  have HG2 := Lib.hid HW2.out.g
  have HLT := Lib.hid (fun i (hi : DBk B.db B.D i) => HW2.out.d.lt hi)
  have HND := Lib.hid (show ¬ DBk B.db B.D W2.heap.size from fun hi => by have := HLT.out _ hi; omega)
  obtain ⟨gh, hgh0⟩ : ∃ gh, gh = W.g.h := ⟨_, rfl⟩
  rw [← hgh0] at HDD
  have HGH := Lib.hid hgh0.symm
  have HQ6 := Lib.hid q6
  have HX5 := Lib.hid (And.intro hsrv (And.intro hck hd'))
  clear nb nsk np3 hgh0 hO hsv hsvv hsc2 hsc1 had q0 q1 q2 q3 q4 q5 q6 hgd hxo hxv hxc1 hxc2 hxcap hxb hxr hcome hd' her hck hwk hsn hsrv hxk hxn hxcp hg1 hsk k0
  go_cut [5] (fun s5 wx => ∃ p D', s5 = .pointer (some ⟨p, 0, none⟩) ∧ wx.cell? ⟨p, 3, none⟩ = some (.int .i64 er) ∧ DAt (N + 5) wx B.db d' D' ∧ Chg (DBk B.db B.D) W2 wx ∧ (∀ j, DBk B.db D' j → DBk B.db B.D j ∨ W2.heap.size ≤ j) ∧ W2.heap.size ≤ p)
  case first =>
    refine wp_region_noPanic ?_
    refine wp_region_till (s := 25) (S := (fun w' => w'.cell? ⟨b, 0, none⟩ = some (.pointer (some ⟨B.db, 0, none⟩)) ∧ w'.cell? ⟨b, 1, none⟩ = some (.pointer (some ⟨B.gb, 0, none⟩)) ∧ w'.cell? ⟨b, 2, none⟩ = some (.slice (some ⟨sk, 0, none⟩) sn scap) ∧ w'.cell? ⟨p3, 2, none⟩ = some (.int .i64 srv) ∧ w'.cell? ⟨sk, srv, none⟩ = some (.int .i64 ad) ∧ w'.cell? ⟨p3, 3, none⟩ = some (.slice (some ⟨xk, 0, none⟩) xn xcap))) (by kernel_rfl) ?_
    have hHeld := HS2.out W2.drew (Chg.drew (Chg.refl _ _))
    refine wP 0 13 _ (fun _ => hHeld) ?_
    refine wP 1 14 _ (fun _ => hHeld) ?_
    refine wP 2 15 _ (fun _ => hHeld) ?_
    refine wL 3 16 _ (fun _ => hHeld) ?_
    refine wP 4 17 _ (fun _ => hHeld) ?_
    refine wP 5 18 _ (fun _ => hHeld) ?_
    refine wP 6 19 _ (fun _ => hHeld) ?_
    refine wL 7 20 _ (fun _ => hHeld) ?_
    refine wP 9 22 _ (fun _ => hHeld) ?_
    refine wP 10 23 _ (fun _ => hHeld) ?_
    refine wP 11 24 _ (fun _ => hHeld) ?_
    refine wL 12 25 _ (fun _ => hHeld) ?_
    refine wP 13 26 _ (fun _ => hHeld) ?_
    refine wL 14 27 _ (fun _ => hHeld) ?_
    refine wP 15 28 _ (fun _ => hHeld) ?_
    refine wL 16 29 _ (fun _ => hHeld) ?_
    refine wP 17 30 _ (fun _ => hHeld) ?_
    refine wL 18 31 _ (fun _ => hHeld) ?_
    refine wpTill_more [8, 24] (by kernel_rfl) (by simp) (TillAll.cons (i := 8) (oi := ⟨some 21, _, _, _, _, _⟩) rfl (fun KK hKK => ?_) (TillAll.cons (i := 24) (oi := ⟨some 5, _, _, _, _, _⟩) rfl (fun KK hKK => ?_) TillAll.nil))
    · go_simp
      refine (hard43 B.gb W.g _ (Blk.chg HG2.out (show Chg (fun _ => False) W2 _ from kC) id)).mono ?_
      rintro e wt ⟨rfl, rfl⟩
      rw [HGH.out]
      refine hKK _ _ (andS (HS2.out _ kC) (fun hHeld' => ?_))
      clear hKK KK
      try simp only [Act.put, qA, qB, qC]
      refine wP 19 32 _ (fun _ => hHeld') ?_
      refine wpTill_more [20, 24] (by kernel_rfl) (by simp) (TillAll.cons (i := 20) (oi := ⟨some 33, _, _, _, _, _⟩) rfl (fun KK hKK => ?_) (TillAll.cons (i := 24) (oi := ⟨some 5, _, _, _, _, _⟩) rfl (fun KK hKK => ?_) TillAll.nil))
      · go_simp
        refine (HDD.out _ kC).mono ?_
        rintro e w9 ⟨D', rfl, d9, c9, f9⟩
        have cT : Chg (DBk B.db B.D) W2 w9 := Chg.trans kC c9
        try (have N9 : Blk w9 W2.heap.size 74 #[.slice none 0 0, .int .i64 0, .int .i64 0, .int .i64 0] := Blk.chg (Blk.new W2.drew 74 #[.slice none 0 0, .int .i64 0, .int .i64 0, .int .i64 0]) c9 HND.out
             have n0 := N9.cell 0
             have n1 := N9.cell 1
             have n2 := N9.cell 2
             have n3 := N9.cell 3
             have z0 := N9.frozen 0
             have z1 := N9.frozen 1
             have z2 := N9.frozen 2
             have z3 := N9.frozen 3
             simp at n0 n1 n2 n3)
        refine hKK _ _ (andS (HS2.out _ kC) (fun hHeld'' => ?_))
        clear hKK KK
        try simp only [Act.put, qA, qB, qC]
        refine wP 21 12 _ (fun _ => hHeld'') ?_
        refine wP 22 34 _ (fun _ => hHeld'') ?_
        refine wP 23 35 _ (fun _ => hHeld'') ?_
        refine wpTill_one (i := 24) (oi := ⟨some 5, _, _, _, _, _⟩) rfl (by kernel_rfl) (fun KK hKK => ?_)
        go_simp
        refine hKK _ _ (andS (HS2.out _ kC) (fun hHeld''' => ?_))
        clear hKK KK
        try simp only [Act.put, qA, qB, qC]
        refine wpTill_one (i := 25) (oi := ⟨none, _, _, _, _, _⟩) rfl (by kernel_rfl) (fun KK hKK => ?_)
        go_simp
        refine hKK _ _ ⟨(fun h => (by simp at h)), ?_⟩
        clear hKK KK
        try simp only [Act.put, qA, qB, qC]
        refine wP 26 6 _ (fun h => (by simp at h)) ?_
        refine wpTill_done (by kernel_rfl) ?_
        refine NoPanic.normal ?_
        have D9 := Lib.hid d9
        have F9 := Lib.hid f9
        have C9 := Lib.hid cT
        try have HN9 := Lib.hid N9
        clear d9 f9 cT c9
        try clear N9 n0 n1 n2 n3 z0 z1 z2 z3
        go_wp2_with fail
        go_meet
        first
          | (have f9' : ∀ j, DBk B.db D' j → DBk B.db B.D j ∨ W2.heap.size + 1 ≤ j := fun j hj => (F9.out j hj).imp id (fun h => by
               have h' : (W2.alloc (Obj.cells #[.slice none 0 0, .int .i64 0, .int .i64 0, .int .i64 0] 74)).heap.size ≤ j := h
               rw [World.size_alloc] at h'
               exact h')
             obtain ⟨K1, K2, K3⟩ := comeSet (v0 := .slice none 0 0) (v1 := .int .i64 ck) (v2 := .int .i64 wk) (v3 := .int .i64 er) D9.out f9' (Nat.le_refl _) HLT.out C9.out HN9.out
             exact ⟨W2.heap.size, D', rfl, K1, K2, K3, fun j hj => (f9' j hj).imp id (fun h => by omega), Nat.le_refl _⟩)
          | (have B10 := Blk.new w9 74 #[.slice none 0 0, .int .i64 ck, .int .i64 wk, .int .i64 er]
             exact ⟨w9.heap.size, D', rfl, (by have := B10.cell 3; exact this), D9.out.chg0 (chg0_alloc _ _), C9.out.alloc _, F9.out, C9.out.size⟩)
      · go_simp
        refine hKK _ _ (andS (HS2.out _ kC) (fun hHeld'' => ?_))
        clear hKK KK
        try simp only [Act.put, qA, qB, qC]
        refine wpTill_one (i := 20) (oi := ⟨some 33, _, _, _, _, _⟩) rfl (by kernel_rfl) (fun KK hKK => ?_)
        go_simp
        refine (HDD.out _ kC).mono ?_
        rintro e w9 ⟨D', rfl, d9, c9, f9⟩
        have cT : Chg (DBk B.db B.D) W2 w9 := Chg.trans kC c9
        try (have N9 : Blk w9 W2.heap.size 74 #[.slice none 0 0, .int .i64 0, .int .i64 0, .int .i64 0] := Blk.chg (Blk.new W2.drew 74 #[.slice none 0 0, .int .i64 0, .int .i64 0, .int .i64 0]) c9 HND.out
             have n0 := N9.cell 0
             have n1 := N9.cell 1
             have n2 := N9.cell 2
             have n3 := N9.cell 3
             have z0 := N9.frozen 0
             have z1 := N9.frozen 1
             have z2 := N9.frozen 2
             have z3 := N9.frozen 3
             simp at n0 n1 n2 n3)
        refine hKK _ _ (andS (HS2.out _ kC) (fun hHeld''' => ?_))
        clear hKK KK
        try simp only [Act.put, qA, qB, qC]
        refine wP 21 12 _ (fun _ => hHeld''') ?_
        refine wP 22 34 _ (fun _ => hHeld''') ?_
        refine wP 23 35 _ (fun _ => hHeld''') ?_
        refine wpTill_one (i := 25) (oi := ⟨none, _, _, _, _, _⟩) rfl (by kernel_rfl) (fun KK hKK => ?_)
        go_simp
        refine hKK _ _ ⟨(fun h => (by simp at h)), ?_⟩
        clear hKK KK
        try simp only [Act.put, qA, qB, qC]
        refine wP 26 6 _ (fun h => (by simp at h)) ?_
        refine wpTill_done (by kernel_rfl) ?_
        refine NoPanic.normal ?_
        have D9 := Lib.hid d9
        have F9 := Lib.hid f9
        have C9 := Lib.hid cT
        try have HN9 := Lib.hid N9
        clear d9 f9 cT c9
        try clear N9 n0 n1 n2 n3 z0 z1 z2 z3
        go_wp2_with fail
        go_meet
        first
          | (have f9' : ∀ j, DBk B.db D' j → DBk B.db B.D j ∨ W2.heap.size + 1 ≤ j := fun j hj => (F9.out j hj).imp id (fun h => by
               have h' : (W2.alloc (Obj.cells #[.slice none 0 0, .int .i64 0, .int .i64 0, .int .i64 0] 74)).heap.size ≤ j := h
               rw [World.size_alloc] at h'
               exact h')
             obtain ⟨K1, K2, K3⟩ := comeSet (v0 := .slice none 0 0) (v1 := .int .i64 ck) (v2 := .int .i64 wk) (v3 := .int .i64 er) D9.out f9' (Nat.le_refl _) HLT.out C9.out HN9.out
             exact ⟨W2.heap.size, D', rfl, K1, K2, K3, fun j hj => (f9' j hj).imp id (fun h => by omega), Nat.le_refl _⟩)
          | (have B10 := Blk.new w9 74 #[.slice none 0 0, .int .i64 ck, .int .i64 wk, .int .i64 er]
             exact ⟨w9.heap.size, D', rfl, (by have := B10.cell 3; exact this), D9.out.chg0 (chg0_alloc _ _), C9.out.alloc _, F9.out, C9.out.size⟩)
    · go_simp
      refine hKK _ _ (andS (HS2.out _ kC) (fun hHeld' => ?_))
      clear hKK KK
      try simp only [Act.put, qA, qB, qC]
      refine wpTill_one (i := 8) (oi := ⟨some 21, _, _, _, _, _⟩) rfl (by kernel_rfl) (fun KK hKK => ?_)
      go_simp
      refine (hard43 B.gb W.g _ (Blk.chg HG2.out (show Chg (fun _ => False) W2 _ from kC) id)).mono ?_
      rintro e wt ⟨rfl, rfl⟩
      rw [HGH.out]
      refine hKK _ _ (andS (HS2.out _ kC) (fun hHeld'' => ?_))
      clear hKK KK
      try simp only [Act.put, qA, qB, qC]
      refine wP 19 32 _ (fun _ => hHeld'') ?_
      refine wpTill_one (i := 20) (oi := ⟨some 33, _, _, _, _, _⟩) rfl (by kernel_rfl) (fun KK hKK => ?_)
      go_simp
      refine (HDD.out _ kC).mono ?_
      rintro e w9 ⟨D', rfl, d9, c9, f9⟩
      have cT : Chg (DBk B.db B.D) W2 w9 := Chg.trans kC c9
      try (have N9 : Blk w9 W2.heap.size 74 #[.slice none 0 0, .int .i64 0, .int .i64 0, .int .i64 0] := Blk.chg (Blk.new W2.drew 74 #[.slice none 0 0, .int .i64 0, .int .i64 0, .int .i64 0]) c9 HND.out
           have n0 := N9.cell 0
           have n1 := N9.cell 1
           have n2 := N9.cell 2
           have n3 := N9.cell 3
           have z0 := N9.frozen 0
           have z1 := N9.frozen 1
           have z2 := N9.frozen 2
           have z3 := N9.frozen 3
           simp at n0 n1 n2 n3)
      refine hKK _ _ (andS (HS2.out _ kC) (fun hHeld''' => ?_))
      clear hKK KK
      try simp only [Act.put, qA, qB, qC]
      refine wP 21 12 _ (fun _ => hHeld''') ?_
      refine wP 22 34 _ (fun _ => hHeld''') ?_
      refine wP 23 35 _ (fun _ => hHeld''') ?_
      refine wpTill_one (i := 25) (oi := ⟨none, _, _, _, _, _⟩) rfl (by kernel_rfl) (fun KK hKK => ?_)
      go_simp
      refine hKK _ _ ⟨(fun h => (by simp at h)), ?_⟩
      clear hKK KK
      try simp only [Act.put, qA, qB, qC]
      refine wP 26 6 _ (fun h => (by simp at h)) ?_
      refine wpTill_done (by kernel_rfl) ?_
      refine NoPanic.normal ?_
      have D9 := Lib.hid d9
      have F9 := Lib.hid f9
      have C9 := Lib.hid cT
      try have HN9 := Lib.hid N9
      clear d9 f9 cT c9
      try clear N9 n0 n1 n2 n3 z0 z1 z2 z3
      go_wp2_with fail
      go_meet
      first
        | (have f9' : ∀ j, DBk B.db D' j → DBk B.db B.D j ∨ W2.heap.size + 1 ≤ j := fun j hj => (F9.out j hj).imp id (fun h => by
             have h' : (W2.alloc (Obj.cells #[.slice none 0 0, .int .i64 0, .int .i64 0, .int .i64 0] 74)).heap.size ≤ j := h
             rw [World.size_alloc] at h'
             exact h')
           obtain ⟨K1, K2, K3⟩ := comeSet (v0 := .slice none 0 0) (v1 := .int .i64 ck) (v2 := .int .i64 wk) (v3 := .int .i64 er) D9.out f9' (Nat.le_refl _) HLT.out C9.out HN9.out
           exact ⟨W2.heap.size, D', rfl, K1, K2, K3, fun j hj => (f9' j hj).imp id (fun h => by omega), Nat.le_refl _⟩)
        | (have B10 := Blk.new w9 74 #[.slice none 0 0, .int .i64 ck, .int .i64 wk, .int .i64 er]
           exact ⟨w9.heap.size, D', rfl, (by have := B10.cell 3; exact this), D9.out.chg0 (chg0_alloc _ _), C9.out.alloc _, F9.out, C9.out.size⟩)
  case rest =>
    obtain ⟨p, D', rfl, c3, d9, c9, f9, hp⟩ := hcut
    have hWX := HW2.out.heard (Nat.le_add_right N 5) d9 c9 f9 HCFG.out.1 (by rw [HCFG.out.2]; exact Int.le_refl _)
    have cX : Chg (WAll b B) w wc := (HCB.out.mono (S' := WAll b B) (fun _ _ h => h.elim)).trans (c9.mono (fun _ _ h => .inr h))
    have np3 : ¬ DBk B.db B.D p3 := fun hi => by have := HLTW.out _ hi; have := HP3.out; omega
    have B3 := HB3.out.chg c9 np3
    by_cases he : er = 0
    · subst he
      have q2 := B3.cell 2
      have q1 := B3.cell 1
      have q5 := hWX.box.cell 5
      have q6 := hWX.box.cell 1
      simp [wmc] at q1 q2 q5 q6
      rw [← HX5.out.1] at q2
      obtain ⟨sent, hsent⟩ : ∃ sent, sent = x.a.sent := ⟨_, rfl⟩
      rw [← hsent] at q1
      have HG4 := Lib.hid hWX.g
      have HS4 := Lib.hid (fun W' (hW : Chg (fun _ => False) wc W') => (⟨hW.keep q5 (fun h => h), hW.keep q2 (fun h => h), hW.keep q6 (fun h => h), hW.keep q1 (fun h => h)⟩ : W'.cell? ⟨b, 5, none⟩ = some (.map (some B.mb)) ∧ W'.cell? ⟨p3, 2, none⟩ = some (.int .i64 srv) ∧ W'.cell? ⟨b, 1, none⟩ = some (.pointer (some ⟨B.gb, 0, none⟩)) ∧ W'.cell? ⟨p3, 1, none⟩ = some (.int .i64 sent)))
      obtain ⟨gt, hgt0⟩ : ∃ gt, gt = W.g.t := ⟨_, rfl⟩
      have HGT := Lib.hid hgt0.symm
      obtain ⟨Dm, hDm⟩ := hWX.came
      have hgo := HWA.out.gok.h
      have hmn := HWA.out.mn
      have hsi : In64 (srv : Int) := by have h1 := HX.out.s; have h2 := HWA.out.d.ok.cfg.n1; have h3 := HX5.out.1; exact ⟨by omega, by omega⟩
      obtain ⟨D2, w10, r10, o10, c10⟩ := cameSet (w := wc.drew) (ownsMap_chg hDm (Chg.drew (Chg.refl (fun _ => False) wc)) (fun h => h)) (by show B.mn < maxLen; unfold maxLen; omega) (srv : Int) gh (IntKind.i64.wrap (gt - sent)) gt hsi ⟨by rw [← HGH.out]; omega, by rw [← HGH.out]; omega⟩
      have hWY := (hWX.chg0 (Chg.drew (Chg.refl (fun _ => False) wc))).camed c10 o10 (by show B.mn + 1 ≤ N + 5; omega)
      have HWX := Lib.hid hWY
      have HCX := Lib.hid (cX.trans (((Chg.drew (Chg.refl (fun _ => False) wc)).mono (S' := WAll b B) (fun _ _ h => h.elim)).trans' c10 (fun i hi e => by have e' : i = B.mb := e; exact .inl (by unfold WBk; simp [e']))))
      clear hsent hgt0 hDm hgo hmn hsi o10 c10 hWY cX B3 np3 d9 c9 q1 q2 q5 q6
      go_upto_region 4 with (fail)
      refine wp_region_noPanic ?_
      refine wp_region_till (s := 26) (S := (fun w' => w'.cell? ⟨b, 5, none⟩ = some (.map (some B.mb)) ∧ w'.cell? ⟨p3, 2, none⟩ = some (.int .i64 srv) ∧ w'.cell? ⟨b, 1, none⟩ = some (.pointer (some ⟨B.gb, 0, none⟩)) ∧ w'.cell? ⟨p3, 1, none⟩ = some (.int .i64 sent))) (by kernel_rfl) ?_
      have hHeld := HS4.out wc.drew (Chg.drew (Chg.refl _ _))
      refine wP 0 39 _ (fun _ => hHeld) ?_
      refine wP 1 40 _ (fun _ => hHeld) ?_
      refine wP 2 41 _ (fun _ => hHeld) ?_
      refine wL 3 42 _ (fun _ => hHeld) ?_
      refine wP 4 43 _ (fun _ => hHeld) ?_
      refine wL 5 44 _ (fun _ => hHeld) ?_
      refine wP 6 45 _ (fun _ => hHeld) ?_
      refine wP 7 46 _ (fun _ => hHeld) ?_
      refine wP 8 47 _ (fun _ => hHeld) ?_
      refine wL 9 48 _ (fun _ => hHeld) ?_
      refine wP 12 51 _ (fun _ => hHeld) ?_
      refine wP 13 52 _ (fun _ => hHeld) ?_
      refine wP 14 53 _ (fun _ => hHeld) ?_
      refine wL 15 54 _ (fun _ => hHeld) ?_
      refine wP 17 56 _ (fun _ => hHeld) ?_
      refine wL 18 57 _ (fun _ => hHeld) ?_
      refine wP 20 59 _ (fun _ => hHeld) ?_
      refine wP 21 60 _ (fun _ => hHeld) ?_
      refine wP 22 61 _ (fun _ => hHeld) ?_
      refine wL 23 62 _ (fun _ => hHeld) ?_
      refine wpTill_one (i := 10) (oi := ⟨some 49, _, _, _, _, _⟩) rfl (by kernel_rfl) (fun KK hKK => ?_)
      go_simp
      refine (hard43 B.gb W.g _ (Blk.chg HG4.out (show Chg (fun _ => False) wc _ from kC) id)).mono ?_
      rintro e wt ⟨rfl, rfl⟩
      rw [HGH.out]
      refine hKK _ _ (andS (HS4.out _ kC) (fun hHeld' => ?_))
      clear hKK KK
      try simp only [Act.put, qA, qB, qC]
      refine wP 11 50 _ (fun _ => hHeld') ?_
      refine wpTill_one (i := 16) (oi := ⟨some 55, _, _, _, _, _⟩) rfl (by kernel_rfl) (fun KK hKK => ?_)
      go_simp
      refine (true37 B.gb W.g _ (Blk.chg HG4.out (show Chg (fun _ => False) wc _ from kC) id)).mono ?_
      rintro e wt ⟨rfl, rfl⟩
      rw [HGT.out]
      refine hKK _ _ (andS (HS4.out _ kC) (fun hHeld'' => ?_))
      clear hKK KK
      try simp only [Act.put, qA, qB, qC]
      refine wP 19 58 _ (fun _ => hHeld'') ?_
      refine wpTill_one (i := 24) (oi := ⟨some 63, _, _, _, _, _⟩) rfl (by kernel_rfl) (fun KK hKK => ?_)
      go_simp
      refine (true37 B.gb W.g _ (Blk.chg HG4.out (show Chg (fun _ => False) wc _ from kC) id)).mono ?_
      rintro e wt ⟨rfl, rfl⟩
      rw [HGT.out]
      refine hKK _ _ (andS (HS4.out _ kC) (fun hHeld''' => ?_))
      clear hKK KK
      try simp only [Act.put, qA, qB, qC]
      refine wP 25 64 _ (fun _ => hHeld''') ?_
      refine wpTill_one (i := 26) (oi := ⟨none, _, _, _, _, _⟩) rfl (by kernel_rfl) (fun KK hKK => ?_)
      go_simp
      refine hKK _ _ ⟨(fun h => (by simp at h)), ?_⟩
      clear hKK KK
      try simp only [Act.put, qA, qB, qC]
      refine wpTill_done (by kernel_rfl) ?_
      refine NoPanic.normal ?_
      have HCN := Lib.hid (chosen23 (N + 5) B.db d' D' _ HWX.out.d)
      obtain ⟨c', hc'⟩ : ∃ c', c' = d'.chosen := ⟨_, rfl⟩
      rw [← hc'] at HCN HCOM HVOT
      have k0 := HWX.out.box.cell 0
      simp [wmc] at k0
      have HCE := Lib.hid hc'
      clear hc'
      go_upto_region 5 with (fail)
      by_cases hgt : ch < c'
      · have hsam : ∀ v ∈ d'.votes, In64 v.sam.t := fun v hv => by
          obtain ⟨M, hM, hm⟩ := HVOT.out (by rw [← HCC.out]; exact hgt) v hv
          exact (HWX.out.d.ss.ok M hM _ hm).t
        have HNT := Lib.hid (note77 HWX.out (by have h1 := HWX.out.d.ok.hk; have h2 := HCFG.out.2; show d'.clk.h ≤ W.g.h; have h1' : d'.clk.h ≤ d'.h := h1; omega) (by have := HWA.out.gok.h; show W.g.h ≤ _; omega) (by have := HWA.out.ln; show W.log.length + 1 ≤ N + 5; omega) hsam (by omega))
        clear hsam
        go_wp2_with (go_at_call 23; refine HCN.out.mono ?_; rintro e wt ⟨rfl, hwt⟩; rw [hwt]; clear hwt wt)
        refine HNT.out.mono ?_
        rintro e wz ⟨rfl, ⟨B', wz1, wz2, wz3⟩, cz⟩
        go_wp2_with fail
        refine bodyPost_ret (v := .tuple #[]) (by simp [results, Tryz.results42, go_sem]) rfl ?_
        have hcm := HCOM.out
        rw [if_pos hgt] at hcm
        refine ⟨rfl, ⟨B', by rw [hcm]; exact wz1, fun i hi => ?_, wz3⟩, HCX.out.trans' cz (fun i hi h => ?_)⟩
        · have hs := HCX.out.size
          rcases wz2 i hi with h | h
          · rcases h with h | h
            · exact .inl (.inl h)
            · rcases f9 i h with h | h
              · exact .inl (.inr h)
              · exact .inr (by have := HS2W.out; omega)
          · exact .inr (by omega)
        · rcases h with h | h
          · exact .inl h
          · rcases f9 i h with h | h
            · exact .inr h
            · have := HS2W.out; omega
      · go_wp2_with (go_at_call 23; refine HCN.out.mono ?_; rintro e wt ⟨rfl, hwt⟩; rw [hwt]; clear hwt wt)
        refine bodyPost_ret (v := .tuple #[]) (by simp [results, Tryz.results42, go_sem]) rfl ?_
        have hcm := HCOM.out
        rw [if_neg (by omega)] at hcm
        have hw := HWX.out
        rw [← hcm] at hw
        refine ⟨rfl, ⟨_, hw, fun i hi => ?_, rfl, rfl, rfl⟩, HCX.out⟩
        rcases hi with h | h
        · exact .inl (.inl h)
        · rcases f9 i h with h | h
          · exact .inl (.inr h)
          · exact .inr (by have := HS2W.out; omega)
    · have HWX := Lib.hid hWX
      have HCX := Lib.hid cX
      clear cX B3 np3 d9 c9 hWX
      have HCN := Lib.hid (chosen23 (N + 5) B.db d' D' _ HWX.out.d)
      obtain ⟨c', hc'⟩ : ∃ c', c' = d'.chosen := ⟨_, rfl⟩
      rw [← hc'] at HCN HCOM HVOT
      have k0 := HWX.out.box.cell 0
      simp [wmc] at k0
      have HCE := Lib.hid hc'
      clear hc'
      go_upto_region 5 with (fail)
      by_cases hgt : ch < c'
      · have hsam : ∀ v ∈ d'.votes, In64 v.sam.t := fun v hv => by
          obtain ⟨M, hM, hm⟩ := HVOT.out (by rw [← HCC.out]; exact hgt) v hv
          exact (HWX.out.d.ss.ok M hM _ hm).t
        have HNT := Lib.hid (note77 HWX.out (by have h1 := HWX.out.d.ok.hk; have h2 := HCFG.out.2; show d'.clk.h ≤ W.g.h; have h1' : d'.clk.h ≤ d'.h := h1; omega) (by have := HWA.out.gok.h; show W.g.h ≤ _; omega) (by have := HWA.out.ln; show W.log.length + 1 ≤ N + 5; omega) hsam (by omega))
        clear hsam
        go_wp2_with (go_at_call 23; refine HCN.out.mono ?_; rintro e wt ⟨rfl, hwt⟩; rw [hwt]; clear hwt wt)
        refine HNT.out.mono ?_
        rintro e wz ⟨rfl, ⟨B', wz1, wz2, wz3⟩, cz⟩
        go_wp2_with fail
        refine bodyPost_ret (v := .tuple #[]) (by simp [results, Tryz.results42, go_sem]) rfl ?_
        have hcm := HCOM.out
        rw [if_pos hgt] at hcm
        refine ⟨rfl, ⟨B', by rw [hcm]; exact wz1, fun i hi => ?_, wz3⟩, HCX.out.trans' cz (fun i hi h => ?_)⟩
        · have hs := HCX.out.size
          rcases wz2 i hi with h | h
          · rcases h with h | h
            · exact .inl (.inl h)
            · rcases f9 i h with h | h
              · exact .inl (.inr h)
              · exact .inr (by have := HS2W.out; omega)
          · exact .inr (by omega)
        · rcases h with h | h
          · exact .inl h
          · rcases f9 i h with h | h
            · exact .inr h
            · have := HS2W.out; omega
      · go_wp2_with (go_at_call 23; refine HCN.out.mono ?_; rintro e wt ⟨rfl, hwt⟩; rw [hwt]; clear hwt wt)
        refine bodyPost_ret (v := .tuple #[]) (by simp [results, Tryz.results42, go_sem]) rfl ?_
        have hcm := HCOM.out
        rw [if_neg (by omega)] at hcm
        have hw := HWX.out
        rw [← hcm] at hw
        refine ⟨rfl, ⟨_, hw, fun i hi => ?_, rfl, rfl, rfl⟩, HCX.out⟩
        rcases hi with h | h
        · exact .inl (.inl h)
        · rcases f9 i h with h | h
          · exact .inl (.inr h)
          · exact .inr (by have := HS2W.out; omega)
end
end Go.Proofs.YtamhicdhbjniiaaGreatDoor
