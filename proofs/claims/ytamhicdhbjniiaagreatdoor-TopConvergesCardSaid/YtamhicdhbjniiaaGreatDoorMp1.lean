/- Servers that are asked together, and all answer: what a step does, in plain words. Servers that are asked together: a step of their world, in plain words. -/
import Derived.Test.YtamhicdhbjniiaaGreatDoorM38
set_option linter.unusedVariables false
namespace Go.Proofs.YtamhicdhbjniiaaGreatDoor
section
open Go Go.RowKit Go.Chron
structure Crew (c : Cfg) (ys : List Way) : Prop where
 l : c.servers.length = ys.length
 ix : ∀ i, i < ys.length → Lib.idxOf c.servers (c.servers.getD i 0) = (i : Int)
 ok : ∀ y ∈ ys, y.Ok
 k : ∀ y ∈ ys, y.kind ≠ 2
 q : c.quorum ≤ (ys.length : Int)
 q1 : 1 ≤ c.quorum
 mo : 0 ≤ c.most
theorem way_mem {ys : List Way} {i : Nat} (h : i < ys.length) : ys.getD i way0 ∈ ys := by
 rw [List.getD_eq_getElem?_getD, List.getElem?_eq_getElem h]
 exact List.getElem_mem h
def ansAt (ys : List Way) (dr t : Int) (i : Nat) : Ans :=
 ⟨satAdd t ((ys.getD i way0).there + (ys.getD i way0).stay + (ys.getD i way0).back), t, i, (ys.getD i way0).ans dr (satAdd t (ys.getD i way0).there)⟩
theorem asks_rep (h dr : Int) (p : Pr) : ∀ l : List Int, (l.zip (List.replicate l.length p)).flatMap (Dm.askS h dr) = if p.isDue h && decide (dr ≠ 0) then l.map (fun a => (a, bytes4 3 0 0 0 dr)) else []
 | [] => by simp
 | a :: l => by
  rw [List.length_cons, List.replicate_succ, List.zip_cons_cons, List.flatMap_cons, asks_rep h dr p l]
  unfold Dm.askS
  cases hx : (p.isDue h && decide (dr ≠ 0)) with
  | true => simp
  | false => simp
theorem tick_all {d : Dm} {p : Pr} {n : Nat} {h dr : Int} (hs : d.cfg.servers.length = n) (hp : d.ps = List.replicate n p) (hd : dr ≠ 0) :
  d.doTick h dr = ({ d with h := h, draw := dr, ps := List.replicate n (if (p.late h).isDue h then (p.late h).ask h (d.clk.run h).c dr else p.late h) }, if (p.late h).isDue h then d.cfg.servers.map (fun a => (a, bytes4 3 0 0 0 dr)) else []) := by
 subst hs
 have ha := asks_rep h dr (p.late h) d.cfg.servers
 unfold Dm.doTick Dm.tick
 simp only [Dm.at, Dm.drawn, hd, hp, List.map_replicate, ne_eq, not_false_eq_true, if_true, decide_true, Bool.and_true, Dm.askP] at ha ⊢
 rw [ha]
theorem map_getD {β : Type} (l : List Int) (f : Int → β) : l.map f = (List.range l.length).map (fun i => f (l.getD i 0)) := by
 apply List.ext_getElem
 ·simp
 ·intro i h1 h2
  simp at h1
  simp [List.getD_eq_getElem?_getD, List.getElem?_eq_getElem h1]
section
variable {c : Cfg} {ys : List Way}
theorem send_all (C : Crew c ys) (dr : Int) (L : List Int) (W : Wm) (hc : W.d.cfg = c) (hw : W.ways = ys) : ∀ j : Nat, j ≤ ys.length →
  ((List.range j).map fun i => (c.servers.getD i 0, L)).foldl (Wm.send dr) W = { W with sent := W.sent + j, under := W.under ++ (List.range j).map (ansAt ys dr W.g.t) }
 | 0, _ => by simp
 | j + 1, hj => by
  rw [List.range_succ, List.map_append, List.foldl_append, send_all C dr L W hc hw j (by omega), List.map_append]
  simp only [List.map_cons, List.map_nil, List.foldl_cons, List.foldl_nil]
  have hk : (ys.getD j way0).kind ≠ 2 := C.k _ (way_mem (by omega))
  unfold Wm.send Wm.at_
  simp only [hc, hw, C.ix j (by omega), Int.toNat_natCast, if_neg hk]
  rw [List.append_assoc]
  have : W.sent + (j : Int) + 1 = W.sent + ((j + 1 : Nat) : Int) := by omega
  rw [this]
  rfl
def Wm.ticks (W : Wm) (dr : Int) : Wm := (W.d.doTick W.g.h dr).2.foldl (Wm.send (W.d.drawn dr)) { W with d := (W.d.doTick W.g.h dr).1 }
theorem ticks_all (C : Crew c ys) {W : Wm} {p : Pr} {dr : Int} (hc : W.d.cfg = c) (hw : W.ways = ys) (hp : W.d.ps = List.replicate ys.length p) (hu : W.under = []) (hd : dr ≠ 0) :
  W.ticks dr = if (p.late W.g.h).isDue W.g.h then { W with d := { W.d with h := W.g.h, draw := dr, ps := List.replicate ys.length ((p.late W.g.h).ask W.g.h (W.d.clk.run W.g.h).c dr) }, sent := W.sent + ys.length, under := (List.range ys.length).map (ansAt ys dr W.g.t) }
   else { W with d := { W.d with h := W.g.h, draw := dr, ps := List.replicate ys.length (p.late W.g.h) } } := by
 have ht := tick_all (h := W.g.h) (by rw [hc]; exact C.l) hp hd
 have hdr : W.d.drawn dr = dr := by simp [Dm.drawn, hd]
 unfold Wm.ticks
 rw [ht, hdr]
 cases hdue : (p.late W.g.h).isDue W.g.h with
 | true =>
  simp only [if_true]
  have hm : W.d.cfg.servers.map (fun a => (a, bytes4 3 0 0 0 dr)) = (List.range ys.length).map fun i => (c.servers.getD i 0, bytes4 3 0 0 0 dr) := by
   rw [hc, map_getD, C.l]
  rw [hm, send_all C dr _ ({ W with d := { W.d with h := W.g.h, draw := dr, ps := List.replicate ys.length ((p.late W.g.h).ask W.g.h (W.d.clk.run W.g.h).c dr) } } : Wm) hc hw ys.length (Nat.le_refl _)]
  simp only [hu, List.nil_append]
 | false => simp only [Bool.false_eq_true, if_false, List.foldl_nil]
def Wm.sam (ys : List Way) (p : Pr) (V : Wm) (t : Int) (i : Nat) : Sam :=
 samOf p (ys.getD i way0) V.g.h (V.d.clk.run V.g.h).c (V.d.clk.run V.g.h).all (satAdd t (ys.getD i way0).there)
def stD (n : Nat) (S : List (List Sam)) (X : Nat → Sam) (D : List Nat) : List (List Sam) := (List.range n).map fun i => if i ∈ D then rpush 8 (S.getD i []) (X i) else S.getD i []
theorem range_set {β : Type} (n i : Nat) (f : Nat → β) (v : β) : ((List.range n).map f).set i v = (List.range n).map (fun j => if j = i then v else f j) := by
 apply List.ext_getElem
 ·simp
 ·intro j h1 h2
  simp [List.getElem_set]
  by_cases h : i = j
  ·subst h; simp
  ·rw [if_neg h, if_neg (fun e => h e.symm)]
theorem stD_add (n : Nat) (S : List (List Sam)) (X : Nat → Sam) {D : List Nat} {i : Nat} (hi : i < n) (hn : i ∉ D) : (stD n S X D).set i (rpush 8 ((stD n S X D).getD i []) (X i)) = stD n S X (i :: D) := by
 have hg : (stD n S X D).getD i [] = S.getD i [] := by
  unfold stD
  rw [List.getD_eq_getElem?_getD, List.getElem?_map, List.getElem?_range hi]
  simp [hn]
 rw [hg]
 unfold stD
 rw [range_set]
 apply List.map_congr_left
 intro j _
 by_cases h : j = i
 ·subst h; simp
 ·simp [h]
structure Mid (c : Cfg) (ys : List Way) (p : Pr) (t : Int) (V : Wm) (G : Int → Prop) (D : List Nat) (W : Wm) : Prop where
 g : W.g = V.g
 ways : W.ways = ys
 cfg : W.d.cfg = c
 under : W.under = V.under
 sent : W.sent = V.sent
 ps : W.d.ps = (List.range ys.length).map (fun i => if i ∈ D then p.took else p)
 ss : W.d.ss = stD ys.length V.d.ss (Wm.sam ys p V t) D
 clk : (W.d.clk = V.d.clk ∧ W.log = V.log ∧ ∃ i, i < ys.length ∧ i ∉ D) ∨
  ∃ th, G th ∧ W.d.clk = { V.d.clk.run V.g.h with left := clampI th (-2305843009213693952) 2305843009213693952 } ∧ V.log.length < W.log.length
theorem run_again {k : Clk} (h : Int) (l : Int) : ({ k.run h with left := l } : Clk).run h = { k.run h with left := l } := by
 have hr : ({ k.run h with left := l } : Clk).room h = 0 := by
  unfold Clk.room Clk.run
  simp
 have hs : ({ k.run h with left := l } : Clk).slews h = 0 := by
  unfold Clk.slews
  rw [hr]
  unfold clampI
  simp only
  split
  ·rfl
  ·split
   ·rfl
   ·omega
 have hw : ∀ x, wrap64 (wrap64 x) = wrap64 x := fun x => by unfold wrap64; omega
 unfold Clk.run at hs ⊢
 rw [hs]
 simp [hw]
theorem take_no (d : Dm) (i : Nat) (h : Int) (x : Sam) {ss : List (List Sam)} (hs : d.ss.set i (rpush 8 (d.ss.getD i []) x) = ss) (hc : (chOf d.cfg.quorum ((selOf ss h (2 * d.cfg.most * 1000000000) (d.clk.run h).all d.ss.length).map (·.off))).2 ≠ 0) : d.take i h x = { d with ss := ss } := by
 unfold Dm.take
 simp only [hs]
 rw [if_neg hc]
theorem take_yes (d : Dm) (i : Nat) (h : Int) (x : Sam) {ss : List (List Sam)} (hs : d.ss.set i (rpush 8 (d.ss.getD i []) x) = ss) (hc : (chOf d.cfg.quorum ((selOf ss h (2 * d.cfg.most * 1000000000) (d.clk.run h).all d.ss.length).map (·.off))).2 = 0) :
  ∃ V th, d.take i h x = { d with ss := ss, clk := adj d.clk h th, theta := th, votes := V, chosen := d.chosen + 1 } ∧ th = (chOf d.cfg.quorum ((selOf ss h (2 * d.cfg.most * 1000000000) (d.clk.run h).all d.ss.length).map (·.off))).1 := by
 unfold Dm.take
 simp only [hs]
 rw [if_pos hc]
 exact ⟨_, _, rfl, rfl⟩
theorem bestOf_some {l : List Sam} (h : l ≠ []) : ∃ x, bestOf l = some x := by
 rcases List.eq_nil_or_concat l with rfl | ⟨r, x, rfl⟩
 ·exact absurd rfl h
 ·rw [List.concat_eq_append, bestOf_snoc]
  unfold bestStep
  split
  ·exact ⟨_, rfl⟩
  ·split <;> exact ⟨_, rfl⟩
theorem selOf_all {Ls : List (List Sam)} {h life sl : Int} : ∀ j : Nat, (∀ i, i < j → ∃ x ∈ Ls.getD i [], frOf x h life = true) → (selOf Ls h life sl j).length = j
 | 0, _ => rfl
 | j + 1, hf => by
  have ih := selOf_all (Ls := Ls) (h := h) (life := life) (sl := sl) j (fun i hi => hf i (by omega))
  unfold selOf at *
  rw [List.range_succ, List.flatMap_append, List.length_append, ih]
  obtain ⟨x, hx, hfr⟩ := hf j (by omega)
  obtain ⟨y, hy⟩ := bestOf_some (l := (Ls.getD j []).filter (frOf · h life)) (by
   intro e
   have : x ∈ (Ls.getD j []).filter (frOf · h life) := List.mem_filter.2 ⟨hx, hfr⟩
   rw [e] at this
   cases this)
  have hv : (voteOf (Ls.getD j []) j h life sl).length = 1 := by unfold voteOf; rw [hy]; rfl
  simp only [List.flatMap_cons, List.flatMap_nil, List.append_nil, hv]
theorem rpush_last {α : Type} (m : Nat) (L : List α) (x : α) : x ∈ rpush m L x := by
 unfold rpush
 split <;> simp
theorem fr_now (x : Sam) {h life : Int} (hx : x.t = h) (hl : 0 ≤ life) : frOf x h life = true := by
 have : satSub h h = 0 := by unfold satSub; split <;> (try split) <;> omega
 unfold frOf
 rw [hx, this]
 simp [hl]
theorem Mid.come (C : Crew c ys) {p : Pr} {t : Int} {V W : Wm} {G : Int → Prop} {D : List Nat} (h : Mid c ys p t V G D W) (hst : p.st = 1) (h0 : 0 < p.cookie) (h1 : p.cookie < 18446744073709551616) (hl : p.isLate V.g.h = false)
  (hG : ∀ D, (chOf c.quorum ((selOf (stD ys.length V.d.ss (Wm.sam ys p V t) D) V.g.h (2 * c.most * 1000000000) (V.d.clk.run V.g.h).all ys.length).map (·.off))).2 = 0 → G (chOf c.quorum ((selOf (stD ys.length V.d.ss (Wm.sam ys p V t) D) V.g.h (2 * c.most * 1000000000) (V.d.clk.run V.g.h).all ys.length).map (·.off))).1)
  {i : Nat} (hi : i < ys.length) (hn : i ∉ D) {a : Ans} (ha : a = ansAt ys p.cookie t i) : Mid c ys p t V G (i :: D) (W.come a) := by
 obtain ⟨g1, g2, g3, g4, g5, g6, g7, g8⟩ := h
 have oy := C.ok _ (way_mem hi)
 have hrun : (W.d.clk.run V.g.h).c = (V.d.clk.run V.g.h).c ∧ (W.d.clk.run V.g.h).all = (V.d.clk.run V.g.h).all ∧ ∀ th, adj W.d.clk V.g.h th = { V.d.clk.run V.g.h with left := clampI th (-2305843009213693952) 2305843009213693952 } := by
  rcases g8 with ⟨e, _⟩ | ⟨th, _, e, _⟩
  ·rw [e]; exact ⟨rfl, rfl, fun _ => rfl⟩
  ·rw [e]
   refine ⟨by rw [run_again], by rw [run_again], fun th' => ?_⟩
   unfold adj
   rw [run_again]
 obtain ⟨r1, r2, r3⟩ := hrun
 have hsrv : a.srv = i := by rw [ha]; rfl
 have hp : W.d.ps[i]? = some p := by rw [g6, List.getElem?_map, List.getElem?_range hi]; simp [hn]
 have hdd := doData_ans (d := W.d) (i := i) (h := W.g.h) (addr := W.d.cfg.servers.getD a.srv 0) (t := satAdd t (ys.getD i way0).there) oy (by rw [hsrv, g3]; exact C.ix i hi) hp hst h0 h1 (by rw [g1]; exact hl)
 have hda : a.data = (ys.getD i way0).ans p.cookie (satAdd t (ys.getD i way0).there) := by rw [ha]; rfl
 have hsam : samOf p (ys.getD i way0) W.g.h (W.d.clk.run W.g.h).c (W.d.clk.run W.g.h).all (satAdd t (ys.getD i way0).there) = Wm.sam ys p V t i := by
  unfold Wm.sam
  rw [g1, r1, r2]
 rw [hsam, ← hda] at hdd
 have hps : W.d.ps.set i p.took = (List.range ys.length).map (fun j => if j ∈ i :: D then p.took else p) := by
  rw [g6, range_set]
  apply List.map_congr_left
  intro j _
  by_cases e : j = i
  ·subst e; simp
  ·simp [e]
 have hss : W.d.ss.set i (rpush 8 (W.d.ss.getD i []) (Wm.sam ys p V t i)) = stD ys.length V.d.ss (Wm.sam ys p V t) (i :: D) := by rw [g7, stD_add _ _ _ hi hn]
 have hlen : W.d.ss.length = ys.length := by rw [g7]; simp [stD]
 obtain ⟨ch, hch⟩ : ∃ ch, ch = chOf c.quorum ((selOf (stD ys.length V.d.ss (Wm.sam ys p V t) (i :: D)) V.g.h (2 * c.most * 1000000000) (V.d.clk.run V.g.h).all ys.length).map (·.off)) := ⟨_, rfl⟩
 have hgi := hG (i :: D)
 rw [← hch] at hgi
 have hcq : chOf ({ W.d with h := W.g.h, ps := W.d.ps.set i p.took } : Dm).cfg.quorum ((selOf (stD ys.length V.d.ss (Wm.sam ys p V t) (i :: D)) W.g.h (2 * ({ W.d with h := W.g.h, ps := W.d.ps.set i p.took } : Dm).cfg.most * 1000000000) (({ W.d with h := W.g.h, ps := W.d.ps.set i p.took } : Dm).clk.run W.g.h).all ({ W.d with h := W.g.h, ps := W.d.ps.set i p.took } : Dm).ss.length).map (·.off)) = ch := by
  show chOf W.d.cfg.quorum ((selOf _ W.g.h (2 * W.d.cfg.most * 1000000000) (W.d.clk.run W.g.h).all W.d.ss.length).map (·.off)) = ch
  rw [g3, g1, r2, hlen, hch]
 by_cases hz : ch.2 = 0
 ·obtain ⟨Vt, th, ht, hth⟩ := take_yes ({ W.d with h := W.g.h, ps := W.d.ps.set i p.took } : Dm) i W.g.h (Wm.sam ys p V t i) hss (by rw [hcq]; exact hz)
  rw [hcq] at hth
  have hW : W.come a = { W with d := (({ ({ W.d with h := W.g.h, ps := W.d.ps.set i p.took } : Dm) with ss := stD ys.length V.d.ss (Wm.sam ys p V t) (i :: D), clk := adj W.d.clk W.g.h th, theta := th, votes := Vt, chosen := W.d.chosen + 1 } : Dm).count 0), log := (W.come a).log } ∧ W.log.length < (W.come a).log.length := by
   have hc1 : W.d.chosen < W.d.chosen + 1 := by omega
   unfold Wm.come
   simp only [hdd]
   unfold Dm.heard
   rw [ht]
   unfold Dm.count
   simp only
   rw [if_pos hc1]
   exact ⟨rfl, by simp⟩
  rw [hW.1]
  refine ⟨g1, g2, g3, g4, g5, hps, rfl, .inr ⟨th, by rw [hth]; exact hgi hz, ?_, ?_⟩⟩
  ·show adj W.d.clk W.g.h th = _
   rw [g1]; exact r3 th
  ·have h1 := hW.2
   show V.log.length < (W.come a).log.length
   rcases g8 with ⟨_, e, _⟩ | ⟨_, _, _, e⟩
   ·rw [e] at h1; exact h1
   ·omega
 ·have ht := take_no ({ W.d with h := W.g.h, ps := W.d.ps.set i p.took } : Dm) i W.g.h (Wm.sam ys p V t i) hss (by rw [hcq]; exact hz)
  have hW : W.come a = { W with d := (({ ({ W.d with h := W.g.h, ps := W.d.ps.set i p.took } : Dm) with ss := stD ys.length V.d.ss (Wm.sam ys p V t) (i :: D) } : Dm).count 0) } := by
   unfold Wm.come
   simp only [hdd]
   unfold Dm.heard
   rw [ht]
   unfold Dm.count
   simp
  rw [hW]
  refine ⟨g1, g2, g3, g4, g5, hps, rfl, ?_⟩
  rcases g8 with ⟨e1, e2, _⟩ | e
  ·refine .inl ⟨e1, e2, ?_⟩
   apply Classical.byContradiction
   intro hno
   apply hz
   have hfull : ∀ j, j < ys.length → j ∈ i :: D := fun j hj => Classical.byContradiction fun hx => hno ⟨j, hj, hx⟩
   have hL := selOf_all (Ls := stD ys.length V.d.ss (Wm.sam ys p V t) (i :: D)) (h := V.g.h) (life := 2 * c.most * 1000000000) (sl := (V.d.clk.run V.g.h).all) ys.length (fun j hj => by
    refine ⟨Wm.sam ys p V t j, ?_, fr_now _ rfl (by have := C.mo; omega)⟩
    unfold stD
    rw [List.getD_eq_getElem?_getD, List.getElem?_map, List.getElem?_range hj]
    simp only [Option.map_some, Option.getD_some]
    rw [if_pos (hfull j hj)]
    exact rpush_last _ _ _)
   have hq := C.q
   have hq1 := C.q1
   rw [hch]
   unfold chOf
   rw [if_neg (by omega), if_neg (by rw [List.length_map, hL]; omega)]
  ·exact .inr e
structure Heard (ys : List Way) (p : Pr) (t : Int) (V : Wm) (G : Int → Prop) (W : Wm) : Prop where
 g : W.g = V.g
 ways : W.ways = ys
 cfg : W.d.cfg = V.d.cfg
 under : W.under = V.under
 sent : W.sent = V.sent
 ps : W.d.ps = List.replicate ys.length p.took
 ss : W.d.ss = (List.range ys.length).map fun i => rpush 8 (V.d.ss.getD i []) (Wm.sam ys p V t i)
 clk : ∃ th, G th ∧ W.d.clk = { V.d.clk.run V.g.h with left := clampI th (-2305843009213693952) 2305843009213693952 }
 log : V.log.length < W.log.length
theorem Mid.all (C : Crew c ys) {p : Pr} {t : Int} {V : Wm} {G : Int → Prop} (hst : p.st = 1) (h0 : 0 < p.cookie) (h1 : p.cookie < 18446744073709551616) (hl : p.isLate V.g.h = false)
  (hG : ∀ D, (chOf c.quorum ((selOf (stD ys.length V.d.ss (Wm.sam ys p V t) D) V.g.h (2 * c.most * 1000000000) (V.d.clk.run V.g.h).all ys.length).map (·.off))).2 = 0 → G (chOf c.quorum ((selOf (stD ys.length V.d.ss (Wm.sam ys p V t) D) V.g.h (2 * c.most * 1000000000) (V.d.clk.run V.g.h).all ys.length).map (·.off))).1) :
  ∀ (is : List Nat) (D : List Nat) (W : Wm), Mid c ys p t V G D W → is.Nodup → (∀ i ∈ is, i < ys.length ∧ i ∉ D) → Mid c ys p t V G (is.reverse ++ D) ((is.map (ansAt ys p.cookie t)).foldl Wm.come W)
 | [], D, W, h, _, _ => h
 | i :: is, D, W, h, hn, hd => by
  obtain ⟨n1, n2⟩ := List.nodup_cons.1 hn
  have hi := hd i (by simp)
  have := Mid.all C hst h0 h1 hl hG is (i :: D) _ (h.come C hst h0 h1 hl hG hi.1 hi.2 rfl) n2 (fun j hj => ⟨(hd j (by simp [hj])).1, fun hx => by
   rcases List.mem_cons.1 hx with rfl | hx
   ·exact n1 hj
   ·exact (hd j (by simp [hj])).2 hx⟩)
  rw [List.reverse_cons, List.append_assoc]
  exact this
theorem heard_all (C : Crew c ys) {p : Pr} {t : Int} {V : Wm} {G : Int → Prop} (hst : p.st = 1) (h0 : 0 < p.cookie) (h1 : p.cookie < 18446744073709551616) (hl : p.isLate V.g.h = false) (hc : V.d.cfg = c) (hw : V.ways = ys) (hp : V.d.ps = List.replicate ys.length p) (hs : V.d.ss.length = ys.length)
  (hG : ∀ D, (chOf c.quorum ((selOf (stD ys.length V.d.ss (Wm.sam ys p V t) D) V.g.h (2 * c.most * 1000000000) (V.d.clk.run V.g.h).all ys.length).map (·.off))).2 = 0 → G (chOf c.quorum ((selOf (stD ys.length V.d.ss (Wm.sam ys p V t) D) V.g.h (2 * c.most * 1000000000) (V.d.clk.run V.g.h).all ys.length).map (·.off))).1)
  {us : List Ans} (hu : us.Perm ((List.range ys.length).map (ansAt ys p.cookie t))) : Heard ys p t V G (us.foldl Wm.come V) := by
 have hn : 0 < ys.length := by have := C.q; have := C.q1; omega
 obtain ⟨is, his, hp'⟩ : ∃ is : List Nat, us = is.map (ansAt ys p.cookie t) ∧ is.Perm (List.range ys.length) := by
  refine ⟨us.map (·.srv), ?_, ?_⟩
  ·rw [List.map_map]
   have : ∀ a ∈ us, a = (ansAt ys p.cookie t ∘ fun x => x.srv) a := by
    intro a ha
    obtain ⟨i, _, rfl⟩ := List.mem_map.1 (hu.mem_iff.1 ha)
    rfl
   exact (List.map_id us).symm.trans (List.map_congr_left (fun a ha => this a ha))
  ·have h2 := hu.map (fun a : Ans => a.srv)
   rw [List.map_map] at h2
   have : (List.range ys.length).map ((fun a : Ans => a.srv) ∘ ansAt ys p.cookie t) = List.range ys.length := (List.map_congr_left (fun a _ => rfl)).trans (List.map_id _)
   rw [this] at h2
   exact h2
 subst his
 have m0 : Mid c ys p t V G [] V := by
  refine ⟨rfl, hw, hc, rfl, rfl, ?_, ?_, .inl ⟨rfl, rfl, 0, hn, by simp⟩⟩
  ·rw [hp]
   simp [List.map_const']
  ·unfold stD
   apply List.ext_getElem
   ·simp [hs]
   ·intro i h1 h2
    simp [List.getD_eq_getElem?_getD, List.getElem?_eq_getElem h1]
 have hm := Mid.all C hst h0 h1 hl hG is [] V m0 (hp'.nodup_iff.2 List.nodup_range) (fun i hi => ⟨List.mem_range.1 (hp'.mem_iff.1 hi), by simp⟩)
 rw [List.append_nil] at hm
 have hfull : ∀ j, j < ys.length → j ∈ is.reverse := fun j hj => List.mem_reverse.2 (hp'.mem_iff.2 (List.mem_range.2 hj))
 obtain ⟨g1, g2, g3, g4, g5, g6, g7, g8⟩ := hm
 have hck : ∃ th, G th ∧ ((is.map (ansAt ys p.cookie t)).foldl Wm.come V).d.clk = { V.d.clk.run V.g.h with left := clampI th (-2305843009213693952) 2305843009213693952 } ∧ V.log.length < ((is.map (ansAt ys p.cookie t)).foldl Wm.come V).log.length := by
  rcases g8 with ⟨_, _, j, hj, hx⟩ | h
  ·exact absurd (hfull j hj) hx
  ·exact h
 obtain ⟨th, t1, t2, t3⟩ := hck
 refine ⟨g1, g2, by rw [g3, hc], g4, g5, ?_, ?_, ⟨th, t1, t2⟩, t3⟩
 ·rw [g6]
  apply List.ext_getElem
  ·simp
  ·intro j h1 h2
   simp at h1
   have := hfull j h1
   simp at this
   simp [this]
 ·rw [g7]
  unfold stD
  apply List.map_congr_left
  intro j hj
  rw [if_pos (hfull j (List.mem_range.1 hj))]
end
end
section
open Go Go.RowKit Go.Chron
structure Lk (c : Cfg) (ys : List Way) (Ta : Int) (W : Wm) (p : Pr) : Prop where
 ways : W.ways = ys
 cfg : W.d.cfg = c
 ps : W.d.ps = List.replicate ys.length p
 ss : W.d.ss.length = ys.length
 least : p.k.least = 4
 pat : p.pat = 2000000000
 st : (p.st = 1 ∧ p.sent = W.g.h ∧ Ta = W.g.t ∧ (0 < p.cookie ∧ p.cookie < 18446744073709551616) ∧ W.under = (List.range ys.length).map (ansAt ys p.cookie W.g.t)) ∨
  (p.st = 0 ∧ p.due ≤ p.sent + 4000000000 ∧ (W.g.h < p.due ∨ W.g.h = p.sent) ∧ W.under = [])
 lo : (W.g.h - p.sent - (W.g.t - Ta)) * 10000 ≤ W.g.t - Ta
 hi : (W.g.t - Ta - (W.g.h - p.sent)) * 10000 ≤ W.g.t - Ta
variable {c : Cfg} {ys : List Way}
theorem Lk.gap {Ta : Int} {W : Wm} {p : Pr} (h : Lk c ys Ta W p) : 0 ≤ W.g.t - Ta ∧ W.g.t - Ta ≤ 4000400100 := by
 have h1 := h.lo
 have h2 := h.hi
 rcases h.st with ⟨_, a, b, _⟩ | ⟨_, a, b, _⟩ <;> omega
theorem late_idle {p : Pr} (h : p.st = 0) (t : Int) : p.late t = p := by
 unfold Pr.late Pr.isLate
 rw [if_neg]
 simp [h]
theorem due_idle {p : Pr} (h : p.st = 0) (t : Int) : p.isDue t = decide (p.due ≤ t) := by
 unfold Pr.isDue
 simp [h]
def Picks (c : Cfg) (ys : List Way) (p : Pr) (t : Int) (V : Wm) (G : Int → Prop) : Prop :=
 ∀ D, (chOf c.quorum ((selOf (stD ys.length V.d.ss (Wm.sam ys p V t) D) V.g.h (2 * c.most * 1000000000) (V.d.clk.run V.g.h).all ys.length).map (·.off))).2 = 0 → G (chOf c.quorum ((selOf (stD ys.length V.d.ss (Wm.sam ys p V t) D) V.g.h (2 * c.most * 1000000000) (V.d.clk.run V.g.h).all ys.length).map (·.off))).1
def Wm.past (W : Wm) (dt dh : Int) : Wm := { W with g := W.g.step dt dh, under := [] }
structure LkA (c : Cfg) (ys : List Way) (Ta : Int) (W : Wm) (p : Pr) (G : Int → Prop) (dt dh : Int) (W' : Wm) : Prop where
 g : W'.g = W.g.step dt dh
 lk : Lk c ys Ta W' p.took
 ss : W'.d.ss = (List.range ys.length).map fun i => rpush 8 (W.d.ss.getD i []) (Wm.sam ys p (W.past dt dh) W.g.t i)
 clk : ∃ th, G th ∧ W'.d.clk = { W.d.clk.run (W.g.h + dh) with left := clampI th (-2305843009213693952) 2305843009213693952 }
 log : W.log.length < W'.log.length
theorem lk_heard (C : Crew c ys) {Ta : Int} {W : Wm} {p : Pr} (h : Lk c ys Ta W p) (hst : p.st = 1) {dt dh dr : Int} (ht : 100000000 ≤ dt ∧ dt ≤ 1000000000) (h1 : (dh - dt) * 10000 ≤ dt) (h2 : (dt - dh) * 10000 ≤ dt) (hd : dr ≠ 0)
  {G : Int → Prop} (hG : Picks c ys p W.g.t (W.past dt dh) G) {us : List Ans} (hu : us.Perm W.under) : LkA c ys Ta W p G dt dh (W.step us dt dh dr) := by
 obtain ⟨l1, l2, l3, l4, l5, l6, l7, l8, l9⟩ := h
 obtain ⟨s1, s2, s3, s4, s5⟩ := l7.resolve_right (fun x => by have := x.1; omega)
 rw [s5] at hu
 have hh : (W.past dt dh).g.h = W.g.h + dh := rfl
 have H := heard_all C (V := W.past dt dh) hst s4.1 s4.2 (by
  unfold Pr.isLate
  simp only [hst, decide_true, Bool.true_and, decide_eq_false_iff_not]
  rw [hh, s2, l6]; omega) l2 l1 l3 l4 hG hu
 have he : W.step us dt dh dr = (us.foldl Wm.come (W.past dt dh)).ticks dr := rfl
 rw [he]
 generalize us.foldl Wm.come (W.past dt dh) = U at *
 obtain ⟨q1, q2, q3, q4, q5, q6, q7, q8, q9⟩ := H
 have hU : U.g.h = W.g.h + dh := by rw [q1]; rfl
 have hT := ticks_all C (W := U) (dr := dr) (by rw [q3]; exact l2) q2 q6 (by rw [q4]; rfl) hd
 have k0 : p.took.st = 0 := rfl
 have kd : p.took.due = p.sent + 4000000000 := by
  show p.sent + p.k.least * 1000000000 = _
  rw [l5]; omega
 rw [late_idle k0, due_idle k0, kd, hU, if_neg (by simp only [decide_eq_true_eq]; omega)] at hT
 rw [hT]
 refine ⟨q1, ⟨q2, by show U.d.cfg = c; rw [q3]; exact l2, rfl, ?_, l5, l6, .inr ⟨k0, by rw [kd]; exact Int.le_refl _, .inl ?_, by show U.under = []; rw [q4]; rfl⟩, ?_, ?_⟩, q7, ?_, ?_⟩
 ·show U.d.ss.length = _
  rw [q7]; simp
 ·show U.g.h < _
  rw [kd, hU]; omega
 ·show (U.g.h - p.sent - (U.g.t - Ta)) * 10000 ≤ U.g.t - Ta
  rw [q1]
  show (W.g.h + dh - p.sent - (W.g.t + dt - Ta)) * 10000 ≤ W.g.t + dt - Ta
  omega
 ·show (U.g.t - Ta - (U.g.h - p.sent)) * 10000 ≤ U.g.t - Ta
  rw [q1]
  show (W.g.t + dt - Ta - (W.g.h + dh - p.sent)) * 10000 ≤ W.g.t + dt - Ta
  omega
 ·exact q8
 ·exact q9
structure LkB (c : Cfg) (ys : List Way) (Ta : Int) (W : Wm) (p : Pr) (dt dh dr : Int) (W' : Wm) : Prop where
 g : W'.g = W.g.step dt dh
 ss : W'.d.ss = W.d.ss
 clk : W'.d.clk = W.d.clk
 log : W'.log = W.log
 lk : Lk c ys Ta W' p ∨ Lk c ys (W.g.t + dt) W' (p.ask (W.g.h + dh) (W.d.clk.run (W.g.h + dh)).c dr)
theorem lk_idle (C : Crew c ys) {Ta : Int} {W : Wm} {p : Pr} (h : Lk c ys Ta W p) (hst : p.st = 0) {dt dh dr : Int} (ht : 100000000 ≤ dt ∧ dt ≤ 1000000000) (h1 : (dh - dt) * 10000 ≤ dt) (h2 : (dt - dh) * 10000 ≤ dt) (hd : 0 < dr ∧ dr < 18446744073709551616)
  {us : List Ans} (hu : us.Perm W.under) : LkB c ys Ta W p dt dh dr (W.step us dt dh dr) := by
 obtain ⟨l1, l2, l3, l4, l5, l6, l7, l8, l9⟩ := h
 obtain ⟨s1, s2, s3, s4⟩ := l7.resolve_left (fun x => by have := x.1; omega)
 rw [s4] at hu
 have hus := hu.eq_nil
 subst hus
 have he : W.step [] dt dh dr = (W.past dt dh).ticks dr := rfl
 rw [he]
 have hU : (W.past dt dh).g.h = W.g.h + dh := rfl
 have hT := ticks_all C (W := W.past dt dh) (dr := dr) l2 l1 l3 rfl (by omega)
 rw [late_idle hst, due_idle hst, hU] at hT
 rw [hT]
 by_cases hdu : p.due ≤ W.g.h + dh
 ·rw [if_pos (by simp only [decide_eq_true_eq]; exact hdu)]
  refine ⟨rfl, rfl, rfl, rfl, .inr ⟨l1, l2, rfl, l4, l5, l6, .inl ⟨rfl, rfl, rfl, hd, rfl⟩, ?_, ?_⟩⟩
  ·show (W.g.h + dh - (W.g.h + dh) - (W.g.t + dt - (W.g.t + dt))) * 10000 ≤ W.g.t + dt - (W.g.t + dt)
   omega
  ·show (W.g.t + dt - (W.g.t + dt) - (W.g.h + dh - (W.g.h + dh))) * 10000 ≤ W.g.t + dt - (W.g.t + dt)
   omega
 ·rw [if_neg (by simp only [decide_eq_true_eq]; exact hdu)]
  refine ⟨rfl, rfl, rfl, rfl, .inl ⟨l1, l2, rfl, l4, l5, l6, .inr ⟨hst, s2, .inl ?_, rfl⟩, ?_, ?_⟩⟩
  ·show W.g.h + dh < p.due
   omega
  ·show (W.g.h + dh - p.sent - (W.g.t + dt - Ta)) * 10000 ≤ W.g.t + dt - Ta
   omega
  ·show (W.g.t + dt - Ta - (W.g.h + dh - p.sent)) * 10000 ≤ W.g.t + dt - Ta
   omega
theorem Lk.under_len {Ta : Int} {W : Wm} {p : Pr} (h : Lk c ys Ta W p) (hn : ys.length ≤ 5) : W.under.length ≤ 5 := by
 rcases h.st with ⟨_, _, _, _, e⟩ | ⟨_, _, _, e⟩
 ·rw [e]; simp; omega
 ·rw [e]; simp
theorem Lk.under_at {Ta : Int} {W : Wm} {p : Pr} (h : Lk c ys Ta W p) {dt : Int} (hy : ∀ y ∈ ys, 0 ≤ y.there + y.stay + y.back ∧ y.there + y.stay + y.back ≤ dt) (ht : -2305843009213693952 ≤ W.g.t ∧ W.g.t + dt ≤ 2305843009213693952) : ∀ a ∈ W.under, a.at_ ≤ W.g.t + dt := by
 intro a ha
 rcases h.st with ⟨_, _, _, _, e⟩ | ⟨_, _, _, e⟩
 ·rw [e] at ha
  obtain ⟨i, hi, rfl⟩ := List.mem_map.1 ha
  have := hy _ (way_mem (List.mem_range.1 hi))
  show satAdd W.g.t ((ys.getD i way0).there + (ys.getD i way0).stay + (ys.getD i way0).back) ≤ _
  generalize (ys.getD i way0).there + (ys.getD i way0).stay + (ys.getD i way0).back = z at *
  unfold satAdd
  split
  ·omega
  ·split <;> omega
 ·rw [e] at ha; cases ha
theorem Lk.two {Ta : Int} {W : Wm} {p : Pr} (h : Lk c ys Ta W p) : p.st = 1 ∨ p.st = 0 := by
 rcases h.st with h | h
 ·exact .inl h.1
 ·exact .inr h.1
theorem lk_new {n0 n2 rate : Int} (C : Crew c ys) (hd : c.delay = 2000) (hl : c.least = 4) : Lk c ys n0 ⟨⟨c, ⟨0, n2, 0, 0, c.slew⟩, List.replicate c.servers.length (Pr.new c 0), List.replicate c.servers.length [], cnt0, 0, 0, 0, [], 0⟩, ⟨n0, 0, n0, 0, rate, 0⟩, ys, [], [], 0⟩ (Pr.new c 0) := by
 refine ⟨rfl, rfl, by rw [C.l], by rw [List.length_replicate, C.l], hl, ?_, .inr ⟨rfl, by show (0 : Int) ≤ 0 + 4000000000; omega, .inr rfl, rfl⟩, ?_, ?_⟩
 ·show c.delay * 1000000 = _
  rw [hd]
  rfl
 ·show ((0 : Int) - 0 - (n0 - n0)) * 10000 ≤ n0 - n0
  omega
 ·show (n0 - n0 - ((0 : Int) - 0)) * 10000 ≤ n0 - n0
  omega
end
end Go.Proofs.YtamhicdhbjniiaaGreatDoor
