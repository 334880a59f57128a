/- One server that is silent, or answers at once: when it is asked. TopBackoff's config: its text is read again as it is. One server, silent or not, behind each half of a second: the law of TopBackoff in plain words. TopBackoff: contract. -/
import Derived.Test.YtamhicdhbjniiaaGreatDoorM38
import Derived.Test.YtamhicdhbjniiaaGreatDoorM46
import Derived.Test.YtamhicdhbjniiaaGreatDoorM44
import Derived.Test.YtamhicdhbjniiaaGreatDoorM48
set_option linter.unusedVariables false
set_option maxHeartbeats 6400000
set_option maxRecDepth 100000
namespace Go.Proofs.YtamhicdhbjniiaaGreatDoor
section
open Go Go.RowKit Go.Chron
theorem idx_one (a : Int) : Lib.idxOf [a] a = 0 := by simp [Lib.idxOf, Lib.idxFrom]
structure Ticked (W : Wm) (dr a : Int) (p : Pr) (y : Way) (W' : Wm) : Prop where
 g : W'.g = W.g
 ways : W'.ways = W.ways
 cfg : W'.d.cfg = W.d.cfg
 ask : (p.late W.g.h).isDue W.g.h = true → (∃ cl, W'.d.ps = [(p.late W.g.h).ask W.g.h cl dr]) ∧ W'.sent = W.sent + 1 ∧
  W'.under = if y.kind = 2 then [] else [⟨satAdd W.g.t (y.there + y.stay + y.back), W.g.t, 0, y.ans dr (satAdd W.g.t y.there)⟩]
 not : (p.late W.g.h).isDue W.g.h = false → W'.d.ps = [p.late W.g.h] ∧ W'.sent = W.sent ∧ W'.under = []
theorem ticked_one {W : Wm} {a : Int} {p : Pr} {y : Way} {dr : Int} (hs : W.d.cfg.servers = [a]) (hp : W.d.ps = [p]) (hw : W.ways = [y]) (hd : dr ≠ 0) (hu : W.under = []) : Ticked W dr a p y (W.ticked dr) := by
 have ht := tick_one (h := W.g.h) hs hp hd
 have hdr : W.d.drawn dr = dr := by simp [Dm.drawn, hd]
 unfold Wm.ticked
 rw [ht, hdr]
 cases hdue : (p.late W.g.h).isDue W.g.h with
 | true =>
  simp only [if_true, List.foldl_cons, List.foldl_nil]
  unfold Wm.send Wm.at_
  simp only [hs, idx_one, hw, hu]
  by_cases hk : y.kind = 2
  ·simp [hk]
   constructor <;> simp [hdue, hk, hw]
   exact ⟨_, rfl⟩
  ·simp [hk]
   constructor <;> simp [hdue, hk, hw]
   exact ⟨_, rfl⟩
 | false =>
  simp only [Bool.false_eq_true, if_false, List.foldl_nil]
  constructor <;> simp [hdue, hu]
structure One (c : Cfg) (a : Int) (y : Way) (k : Nat) (W : Wm) (p : Pr) : Prop where
 t : W.g.t = (k : Int) * 500000000
 h : W.g.h = (k : Int) * 500000000
 rate : W.g.rate = 0
 steps : W.g.steps = (k : Int)
 cfg : W.d.cfg = c
 ways : W.ways = [y]
 ps : W.d.ps = [p]
 sent : 0 ≤ W.sent
 least : p.k.least = c.least
 most : p.k.most = c.most
 pat : p.pat = 1000000000
structure Sil (c : Cfg) (k : Nat) (gap last : Int) (p : Pr) : Prop where
 st : (p.st = 1 ∧ p.sent = last * 500000000 ∧ p.k.now = gap ∧ (k : Int) ≤ last + 2) ∨ (p.st = 0 ∧ p.due = last * 500000000 + p.k.now * 1000000000 ∧ p.k.now = min (2 * gap) c.most ∧ (k : Int) < last + 2 * p.k.now)
 gap : c.least ≤ gap ∧ gap ≤ c.most
structure SilJ (c : Cfg) (a : Int) (y : Way) (k : Nat) (gap last : Int) (W : Wm) : Prop where
 ex : ∃ p, One c a y k W p ∧ Sil c k gap last p
 under : W.under = []
theorem sil_step {c : Cfg} {a : Int} {y : Way} {k : Nat} {gap last dr : Int} {W : Wm} (h : SilJ c a y k gap last W) (hs : c.servers = [a]) (hy : y.kind = 2) (hd : dr ≠ 0) (h4 : 4 ≤ c.least) :
  (SilJ c a y (k + 1) gap last (W.step [] 500000000 500000000 dr) ∧ (W.step [] 500000000 500000000 dr).sent = W.sent) ∨
   (SilJ c a y (k + 1) (min (2 * gap) c.most) ((k : Int) + 1) (W.step [] 500000000 500000000 dr) ∧ (W.step [] 500000000 500000000 dr).sent = W.sent + 1 ∧ (k : Int) + 1 - last = 2 * min (2 * gap) c.most) := by
 obtain ⟨⟨p, o, s⟩, hu⟩ := h
 have T : Ticked _ dr a p y (W.step [] 500000000 500000000 dr) := ticked_one (W := { W with g := W.g.step 500000000 500000000, under := [] }) (by show W.d.cfg.servers = _; rw [o.cfg, hs]) o.ps o.ways hd rfl
 have hh : ({ W with g := W.g.step 500000000 500000000, under := [] } : Wm).g.h = ((k : Int) + 1) * 500000000 := by show W.g.h + 500000000 = _; rw [o.h]; omega
 have ht : ({ W with g := W.g.step 500000000 500000000, under := [] } : Wm).g.t = ((k : Int) + 1) * 500000000 := by show W.g.t + 500000000 = _; rw [o.t]; omega
 generalize W.step [] 500000000 500000000 dr = W' at *
 have hg := T.g
 have g1 : W'.g.t = ((k + 1 : Nat) : Int) * 500000000 := by rw [hg, ht]; omega
 have g2 : W'.g.h = ((k + 1 : Nat) : Int) * 500000000 := by rw [hg, hh]; omega
 have g3 : W'.g.rate = 0 := by rw [hg]; exact o.rate
 have g4 : W'.g.steps = ((k + 1 : Nat) : Int) := by rw [hg]; show W.g.steps + 1 = _; rw [o.steps]; omega
 have g5 : W'.d.cfg = c := by rw [T.cfg]; exact o.cfg
 have g6 : W'.ways = [y] := by rw [T.ways]; exact o.ways
 have hask := T.ask
 have hnot := T.not
 rw [hh] at hask hnot
 have hsent : ({ W with g := W.g.step 500000000 500000000, under := [] } : Wm).sent = W.sent := rfl
 rw [hsent] at hask hnot
 obtain ⟨hgap1, hgap2⟩ := s.gap
 rcases s.st with ⟨s1, s2, s3, s4⟩ | ⟨s1, s2, s3, s4⟩
 ·-- it waits
  by_cases hl : (k : Int) + 1 ≤ last + 2
  ·have hlate : p.late (((k : Int) + 1) * 500000000) = p := by
    unfold Pr.late Pr.isLate
    rw [if_neg]
    simp only [Bool.and_eq_true, decide_eq_true_eq]
    rintro ⟨_, hx⟩
    rw [s2, o.pat] at hx; omega
   have hdue : p.isDue (((k : Int) + 1) * 500000000) = false := by unfold Pr.isDue; simp [s1]
   rw [hlate] at hnot
   obtain ⟨q1, q2, q3⟩ := hnot hdue
   exact .inl ⟨⟨⟨p, ⟨g1, g2, g3, g4, g5, g6, q1, by rw [q2]; exact o.sent, o.least, o.most, o.pat⟩, ⟨.inl ⟨s1, s2, s3, by omega⟩, s.gap⟩⟩, q3⟩, q2⟩
  ·have hlate : p.late (((k : Int) + 1) * 500000000) = ({ p with k := p.k.fail } : Pr).rest p.k.fail.now := by
    unfold Pr.late
    rw [if_pos]
    unfold Pr.isLate
    simp only [Bool.and_eq_true, decide_eq_true_eq]
    exact ⟨s1, by rw [s2, o.pat]; omega⟩
   have hn : p.k.fail.now = min (2 * gap) c.most := by show min (2 * p.k.now) p.k.most = _; rw [s3, o.most]
   have hdue : (({ p with k := p.k.fail } : Pr).rest p.k.fail.now).isDue (((k : Int) + 1) * 500000000) = false := by
    unfold Pr.isDue Pr.rest
    simp only [decide_true, Bool.true_and, decide_eq_false_iff_not]
    rw [s2, hn]
    omega
   rw [hlate] at hnot
   obtain ⟨q1, q2, q3⟩ := hnot hdue
   refine .inl ⟨⟨⟨_, ⟨g1, g2, g3, g4, g5, g6, q1, by rw [q2]; exact o.sent, o.least, o.most, o.pat⟩, ⟨.inr ⟨rfl, ?_, hn, ?_⟩, s.gap⟩⟩, q3⟩, q2⟩
   ·show p.sent + p.k.fail.now * 1000000000 = _
    rw [s2]
    rfl
   ·show ((k + 1 : Nat) : Int) < last + 2 * p.k.fail.now
    rw [hn]; omega
 ·-- it is idle
  have hlate : p.late (((k : Int) + 1) * 500000000) = p := by
   unfold Pr.late Pr.isLate
   rw [if_neg]
   simp [s1]
  rw [hlate] at hnot hask
  by_cases hl : (k : Int) + 1 < last + 2 * p.k.now
  ·have hdue : p.isDue (((k : Int) + 1) * 500000000) = false := by
    unfold Pr.isDue
    simp only [s1, decide_true, Bool.true_and, decide_eq_false_iff_not]
    rw [s2]; omega
   obtain ⟨q1, q2, q3⟩ := hnot hdue
   exact .inl ⟨⟨⟨p, ⟨g1, g2, g3, g4, g5, g6, q1, by rw [q2]; exact o.sent, o.least, o.most, o.pat⟩, ⟨.inr ⟨s1, s2, s3, by omega⟩, s.gap⟩⟩, q3⟩, q2⟩
  ·have hdue : p.isDue (((k : Int) + 1) * 500000000) = true := by
    unfold Pr.isDue
    simp only [s1, decide_true, Bool.true_and, decide_eq_true_eq]
    rw [s2]; omega
   obtain ⟨⟨cl, q1⟩, q2, q3⟩ := hask hdue
   rw [if_pos hy] at q3
   refine .inr ⟨⟨⟨_, ⟨g1, g2, g3, g4, g5, g6, q1, by rw [q2]; have := o.sent; omega, o.least, o.most, o.pat⟩, ⟨.inl ⟨rfl, rfl, s3, ?_⟩, ?_⟩⟩, q3⟩, q2, ?_⟩
   ·omega
   ·omega
   ·rw [← s3]; omega
structure Hon (c : Cfg) (y : Way) (k : Nat) (last : Int) (p : Pr) (U : List Ans) : Prop where
 st : (p.st = 1 ∧ p.sent = last * 500000000 ∧ (k : Int) = last ∧ (0 < p.cookie ∧ p.cookie < 18446744073709551616) ∧ ∃ t, U = [⟨last * 500000000, last * 500000000, 0, y.ans p.cookie t⟩]) ∨ (p.st = 0 ∧ p.due = last * 500000000 + c.least * 1000000000 ∧ (k : Int) < last + 2 * c.least ∧ U = [])
structure HonJ (c : Cfg) (a : Int) (y : Way) (k : Nat) (last : Int) (W : Wm) : Prop where
 ex : ∃ p, One c a y k W p ∧ Hon c y k last p W.under
theorem hon_step {c : Cfg} {a : Int} {y : Way} {k : Nat} {last dr : Int} {W : Wm} (h : HonJ c a y k last W) (hs : c.servers = [a]) (hy : y = ⟨0, 0, 0, 0, 0, 0⟩) (hd : 0 < dr ∧ dr < 18446744073709551616) (h4 : 4 ≤ c.least) (hk : k < 1000000) :
  (HonJ c a y (k + 1) last (W.step W.under 500000000 500000000 dr) ∧ (W.step W.under 500000000 500000000 dr).sent = W.sent) ∨
   (HonJ c a y (k + 1) ((k : Int) + 1) (W.step W.under 500000000 500000000 dr) ∧ (W.step W.under 500000000 500000000 dr).sent = W.sent + 1 ∧ (k : Int) + 1 - last = 2 * c.least) := by
 obtain ⟨p, o, s⟩ := h
 have oy : y.Ok := by rw [hy]; exact ⟨.inl rfl, by decide, by decide, by decide, by decide, by decide⟩
 have hkd : y.kind ≠ 2 := by rw [hy]; decide
 -- what comes
 have hcm : ∃ (W1 : Wm) (q : Pr), W.under.foldl Wm.come { W with g := W.g.step 500000000 500000000, under := [] } = W1 ∧ W1.g = W.g.step 500000000 500000000 ∧ W1.ways = W.ways ∧ W1.under = [] ∧ W1.sent = W.sent ∧ W1.d.cfg = W.d.cfg ∧ W1.d.ps = [q] ∧
   q.st = 0 ∧ q.due = last * 500000000 + c.least * 1000000000 ∧ q.k.least = c.least ∧ q.k.most = c.most ∧ q.pat = 1000000000 := by
  rcases s.st with ⟨s1, s2, s3, s4, t, s5⟩ | ⟨s1, s2, s3, s4⟩
  ·rw [s5]
   have hl : p.isLate (W.g.step 500000000 500000000).h = false := by
    unfold Pr.isLate
    simp only [s1, decide_true, Bool.true_and, decide_eq_false_iff_not]
    show ¬ p.sent + p.pat < W.g.h + 500000000
    rw [s2, o.pat, o.h]; omega
   have C := come_ans (W := { W with g := W.g.step 500000000 500000000, under := [] }) (a := ⟨last * 500000000, last * 500000000, 0, y.ans p.cookie t⟩) (p := p) (y := y) oy (t := t)
    (by show Lib.idxOf W.d.cfg.servers (W.d.cfg.servers.getD 0 0) = _; rw [o.cfg, hs]; exact idx_one a) (by show W.d.ps[0]? = _; rw [o.ps]; rfl) s1 s4.1 s4.2 hl rfl
   obtain ⟨c1, c2, c3, c4, c5⟩ := C
   refine ⟨_, p.took, rfl, c1, c2, c3, c4, ?_, ?_, rfl, ?_, o.least, o.most, o.pat⟩
   ·show (Wm.come _ _).d.cfg = _
    rw [c5, (heard_proj _ _ _ _ _).1]
   ·show (Wm.come _ _).d.ps = _
    rw [c5, (heard_proj _ _ _ _ _).2.1]
    show W.d.ps.set 0 p.took = _
    rw [o.ps]; rfl
   ·show p.sent + p.k.least * 1000000000 = _
    rw [s2, o.least]
  ·rw [s4]
   exact ⟨_, p, rfl, rfl, rfl, rfl, rfl, rfl, o.ps, s1, s2, o.least, o.most, o.pat⟩
 obtain ⟨W1, q, e0, e1, e2, e3, e4, e5, e6, f1, f2, f3, f4, f5⟩ := hcm
 have T : Ticked W1 dr a q y (W.step W.under 500000000 500000000 dr) := by
  rw [step_eq, e0]
  exact ticked_one (by rw [e5, o.cfg, hs]) e6 (by rw [e2, o.ways]) (by omega) e3
 have hkk : k < last + 2 * c.least := by
  rcases s.st with ⟨_, _, s3, _⟩ | ⟨_, _, s3, _⟩ <;> omega
 have hh : W1.g.h = ((k : Int) + 1) * 500000000 := by rw [e1]; show W.g.h + 500000000 = _; rw [o.h]; omega
 have ht : W1.g.t = ((k : Int) + 1) * 500000000 := by rw [e1]; show W.g.t + 500000000 = _; rw [o.t]; omega
 generalize W.step W.under 500000000 500000000 dr = W' at *
 have hg := T.g
 have g1 : W'.g.t = ((k + 1 : Nat) : Int) * 500000000 := by rw [hg, ht]; omega
 have g2 : W'.g.h = ((k + 1 : Nat) : Int) * 500000000 := by rw [hg, hh]; omega
 have g3 : W'.g.rate = 0 := by rw [hg, e1]; exact o.rate
 have g4 : W'.g.steps = ((k + 1 : Nat) : Int) := by rw [hg, e1]; show W.g.steps + 1 = _; rw [o.steps]; omega
 have g5 : W'.d.cfg = c := by rw [T.cfg, e5]; exact o.cfg
 have g6 : W'.ways = [y] := by rw [T.ways, e2]; exact o.ways
 have hask := T.ask
 have hnot := T.not
 rw [hh] at hask hnot
 rw [e4] at hask hnot
 have hlate : q.late (((k : Int) + 1) * 500000000) = q := by
  unfold Pr.late Pr.isLate
  rw [if_neg]
  simp [f1]
 rw [hlate] at hnot hask
 by_cases hl : (k : Int) + 1 < last + 2 * c.least
 ·have hdue : q.isDue (((k : Int) + 1) * 500000000) = false := by
   unfold Pr.isDue
   simp only [f1, decide_true, Bool.true_and, decide_eq_false_iff_not]
   rw [f2]; omega
  obtain ⟨q1, q2, q3⟩ := hnot hdue
  exact .inl ⟨⟨q, ⟨g1, g2, g3, g4, g5, g6, q1, by rw [q2]; exact o.sent, f3, f4, f5⟩, ⟨.inr ⟨f1, f2, by omega, q3⟩⟩⟩, q2⟩
 ·have hdue : q.isDue (((k : Int) + 1) * 500000000) = true := by
   unfold Pr.isDue
   simp only [f1, decide_true, Bool.true_and, decide_eq_true_eq]
   rw [f2]; omega
  obtain ⟨⟨cl, q1⟩, q2, q3⟩ := hask hdue
  rw [if_neg hkd] at q3
  have hsa : satAdd W1.g.t (y.there + y.stay + y.back) = ((k : Int) + 1) * 500000000 := by
   have hz : y.there + y.stay + y.back = 0 := by rw [hy]; rfl
   rw [ht, hz]
   unfold satAdd
   rw [if_neg (by omega), if_neg (by omega)]
   omega
  rw [hsa, ht] at q3
  refine .inr ⟨⟨_, ⟨g1, g2, g3, g4, g5, g6, q1, by rw [q2]; have := o.sent; omega, f3, f4, f5⟩, ⟨.inl ⟨rfl, rfl, by omega, hd, _, q3⟩⟩⟩, q2, by omega⟩
end
section
open Go Go.RowKit Go.Chron
def bkC (a b : Nat) : Cfg := ⟨[5], 1, 4 + (a : Int), 4 + (a : Int) + (b : Int), 1000, 1⟩
theorem bk_parse : ∀ a, a < 5 → ∀ b, b < 60 → parseI (printI (bkC a b)) = (bkC a b, 0, 0) := by decide +kernel
end
section
open Go Go.RowKit Go.Chron
def bkY (ans : Bool) : Way := if ans then way0 else ⟨2, 0, 0, 0, 0, 0⟩
structure BkOk (c : Cfg) : Prop where
 s : c.servers = [5]
 l4 : 4 ≤ c.least
 l8 : c.least ≤ 8
 lm : c.least ≤ c.most
 m : c.most ≤ 67
 de : c.delay = 1000
structure BkJ (ans : Bool) (c : Cfg) (k : Nat) (gap last : Int) (W : Wm) : Prop where
 j : (ans = true ∧ HonJ c 5 (bkY ans) k last W ∧ gap = c.least) ∨ (ans = false ∧ SilJ c 5 (bkY ans) k gap last W)
 s : 1 ≤ W.sent ∧ last ≤ 1 + 134 * (W.sent - 1)
 k : (k : Int) ≤ last + 134
 l : 1 ≤ last
structure Ready (k : Nat) (W : Wm) : Prop where
 s : StepOk W.g 500000000 500000000
 u : W.under.length ≤ 1
 a : ∀ a ∈ W.under, a.at_ ≤ W.g.t + 500000000
 t : W.g.t = (k : Int) * 500000000
theorem One.ready {c : Cfg} {a : Int} {y : Way} {k : Nat} {W : Wm} {p : Pr} (h : One c a y k W p) (hk : k < 1000) : StepOk W.g 500000000 500000000 := by
 obtain ⟨h1, h2, h3, h4, _⟩ := h
 refine ⟨by omega, by omega, ?_, ?_, ?_, ?_, ?_⟩
 ·rw [h3]; decide
 ·rw [h3]; decide
 ·rw [h1]; omega
 ·rw [h2]; omega
 ·rw [h4]; omega
theorem BkJ.ready {ans : Bool} {c : Cfg} {k : Nat} {gap last : Int} {W : Wm} (h : BkJ ans c k gap last W) (hk : k < 1000) : Ready k W := by
 rcases h.j with ⟨_, ⟨p, o, q⟩, _⟩ | ⟨_, ⟨p, o, q⟩, u⟩
 ·refine ⟨o.ready hk, ?_, ?_, o.t⟩
  ·rcases q.st with ⟨_, _, _, _, t, hu⟩ | ⟨_, _, _, hu⟩
   ·rw [hu]; simp
   ·rw [hu]; simp
  ·intro a ha
   rcases q.st with ⟨_, _, hkl, _, t, hu⟩ | ⟨_, _, _, hu⟩
   ·rw [hu] at ha
    rw [List.mem_singleton.1 ha, o.t]
    show last * 500000000 ≤ _
    omega
   ·rw [hu] at ha; cases ha
 ·refine ⟨o.ready hk, by rw [u]; simp, fun a ha => (by rw [u] at ha; cases ha), o.t⟩
theorem bk_step {ans : Bool} {c : Cfg} {k : Nat} {gap last dr : Int} {W : Wm} (h : BkJ ans c k gap last W) (hc : BkOk c) (hd : 0 < dr ∧ dr < 18446744073709551616) (hk : k < 1000) {us : List Ans} (hp : us.Perm W.under) :
  (BkJ ans c (k + 1) gap last (W.step us 500000000 500000000 dr) ∧ (W.step us 500000000 500000000 dr).sent = W.sent) ∨
   ∃ gap', gap' = (if ans = true then gap else min (2 * gap) c.most) ∧ BkJ ans c (k + 1) gap' ((k : Int) + 1) (W.step us 500000000 500000000 dr) ∧ (W.step us 500000000 500000000 dr).sent = W.sent + 1 ∧ (k : Int) + 1 - last = 2 * gap' := by
 have hr := h.ready hk
 have hus := perm_one hp hr.u
 subst hus
 have hs := h.s
 have hl := h.l
 rcases h.j with ⟨rfl, hj, hg⟩ | ⟨rfl, hj⟩
 ·rcases hon_step hj hc.s rfl hd hc.l4 (by omega) with ⟨a1, a2⟩ | ⟨a1, a2, a3⟩
  ·refine .inl ⟨⟨.inl ⟨rfl, a1, hg⟩, by rw [a2]; exact hs, ?_, hl⟩, a2⟩
   obtain ⟨p, o, q⟩ := a1
   have := hc.l8
   rcases q.st with ⟨_, _, q3, _⟩ | ⟨_, _, q3, _⟩ <;> omega
  ·have hl8 := hc.l8
   have hl4 := hc.l4
   exact .inr ⟨gap, by simp, ⟨.inl ⟨rfl, a1, hg⟩, by rw [a2]; omega, by omega, by omega⟩, a2, by rw [hg]; exact a3⟩
 ·have hu := hj.under
  rw [hu]
  rcases sil_step (dr := dr) hj hc.s rfl (by omega) hc.l4 with ⟨a1, a2⟩ | ⟨a1, a2, a3⟩
  ·refine .inl ⟨⟨.inr ⟨rfl, a1⟩, by rw [a2]; exact hs, ?_, hl⟩, a2⟩
   obtain ⟨⟨p, o, q⟩, _⟩ := a1
   have := hc.m
   rcases q.st with ⟨_, _, _, q3⟩ | ⟨_, _, q3, q4⟩ <;> omega
  ·have hm := hc.m
   exact .inr ⟨min (2 * gap) c.most, by simp, ⟨.inr ⟨rfl, a1⟩, by rw [a2]; omega, by omega, by omega⟩, a2, a3⟩
theorem bk_ready0 (c : Cfg) (ans : Bool) : Ready 0 (wm0 c 0 0 0 0 [bkY ans]) :=
 ⟨⟨by decide, by decide, by show ((500000000 : Int) - 500000000) * 1000000 ≤ 0 * 500000000; decide, by show ((500000000 : Int) - 500000000) * 1000000 ≤ 0 * 500000000; decide, by show (0 : Int) + 500000000 ≤ _; decide, by show (0 : Int) + 500000000 ≤ _; decide, by show (0 : Int) < 1000000; decide⟩, by show ([] : List Ans).length ≤ 1; decide, fun a ha => (by cases ha), rfl⟩
theorem bk_first {c : Cfg} (ans : Bool) (hc : BkOk c) {dr : Int} (hd : 0 < dr ∧ dr < 18446744073709551616) :
  BkJ ans c 1 c.least 1 ((wm0 c 0 0 0 0 [bkY ans]).step [] 500000000 500000000 dr) ∧ ((wm0 c 0 0 0 0 [bkY ans]).step [] 500000000 500000000 dr).sent = 1 := by
 have hps : (wm0 c 0 0 0 0 [bkY ans]).d.ps = [Pr.new c 0] := by
  show List.replicate c.servers.length (Pr.new c 0) = _
  rw [hc.s]; rfl
 have T : Ticked _ dr 5 (Pr.new c 0) (bkY ans) ((wm0 c 0 0 0 0 [bkY ans]).step [] 500000000 500000000 dr) := ticked_one (W := { wm0 c 0 0 0 0 [bkY ans] with g := (wm0 c 0 0 0 0 [bkY ans]).g.step 500000000 500000000, under := [] }) (by show c.servers = _; rw [hc.s]) hps rfl (by omega) rfl
 have hh : ({ wm0 c 0 0 0 0 [bkY ans] with g := (wm0 c 0 0 0 0 [bkY ans]).g.step 500000000 500000000, under := [] } : Wm).g.h = 500000000 := rfl
 have ht : ({ wm0 c 0 0 0 0 [bkY ans] with g := (wm0 c 0 0 0 0 [bkY ans]).g.step 500000000 500000000, under := [] } : Wm).g.t = 500000000 := rfl
 have hg0 : ({ wm0 c 0 0 0 0 [bkY ans] with g := (wm0 c 0 0 0 0 [bkY ans]).g.step 500000000 500000000, under := [] } : Wm).g.rate = 0 ∧ ({ wm0 c 0 0 0 0 [bkY ans] with g := (wm0 c 0 0 0 0 [bkY ans]).g.step 500000000 500000000, under := [] } : Wm).g.steps = 1 := ⟨rfl, rfl⟩
 have hcf : ({ wm0 c 0 0 0 0 [bkY ans] with g := (wm0 c 0 0 0 0 [bkY ans]).g.step 500000000 500000000, under := [] } : Wm).d.cfg = c := rfl
 have hwy : ({ wm0 c 0 0 0 0 [bkY ans] with g := (wm0 c 0 0 0 0 [bkY ans]).g.step 500000000 500000000, under := [] } : Wm).ways = [bkY ans] := rfl
 have hsn : ({ wm0 c 0 0 0 0 [bkY ans] with g := (wm0 c 0 0 0 0 [bkY ans]).g.step 500000000 500000000, under := [] } : Wm).sent = 0 := rfl
 generalize ({ wm0 c 0 0 0 0 [bkY ans] with g := (wm0 c 0 0 0 0 [bkY ans]).g.step 500000000 500000000, under := [] } : Wm) = V at *
 generalize (wm0 c 0 0 0 0 [bkY ans]).step [] 500000000 500000000 dr = W' at *
 have hlate : (Pr.new c 0).late 500000000 = Pr.new c 0 := by
  unfold Pr.late Pr.isLate
  rw [if_neg]
  simp [Pr.new]
 have hdue : ((Pr.new c 0).late V.g.h).isDue V.g.h = true := by
  rw [hh, hlate]
  unfold Pr.isDue Pr.new
  simp
 obtain ⟨⟨cl, q1⟩, q2, q3⟩ := T.ask hdue
 rw [hh, hlate] at q1
 rw [hsn] at q2
 have hg := T.g
 have o : One c 5 (bkY ans) 1 W' ((Pr.new c 0).ask 500000000 cl dr) :=
  ⟨by rw [hg, ht]; rfl, by rw [hg, hh]; rfl, by rw [hg]; exact hg0.1, by rw [hg]; exact hg0.2, by rw [T.cfg, hcf], by rw [T.ways, hwy], q1, by rw [q2]; decide, rfl, rfl, by show c.delay * 1000000 = _; rw [hc.de]; rfl⟩
 have hl4 := hc.l4
 have hlm := hc.lm
 refine ⟨⟨?_, by rw [q2]; omega, by omega, by omega⟩, by rw [q2]; rfl⟩
 cases ans with
 | true =>
  refine .inl ⟨rfl, ⟨_, o, ⟨.inl ⟨rfl, rfl, rfl, hd, ?_⟩⟩⟩, rfl⟩
  rw [if_neg (by decide)] at q3
  refine ⟨satAdd V.g.t (bkY true).there, ?_⟩
  rw [q3]
  have hsa : satAdd V.g.t ((bkY true).there + (bkY true).stay + (bkY true).back) = 1 * 500000000 := by rw [ht]; decide
  rw [hsa, ht]
  rfl
 | false =>
  refine .inr ⟨rfl, ⟨_, o, ⟨.inl ⟨rfl, rfl, rfl, by omega⟩, by omega, by omega⟩⟩, ?_⟩
  rw [if_pos (by decide)] at q3
  exact q3
end
section
open Go Go.RowKit Go.Chron
structure BkAt (w : World) (ans : Bool) (c : Cfg) (p3 p2 : Nat) (le mo : Int) (b i : Nat) (gap last sent : Int) (wr : World) : Prop where
 ex : ∃ N W B, N ≤ 8 * i ∧ WAt N wr b W B ∧ (∀ i, WAll b B i → w.heap.size ≤ i) ∧ ((i = 0 ∧ W = wm0 c 0 0 0 0 [bkY ans] ∧ gap = c.least ∧ last = -1 ∧ sent = 0) ∨ (1 ≤ i ∧ ∃ lk, last = lk * 500000000 ∧ BkJ ans c i gap lk W ∧ sent = W.sent))
 p : Blk wr p3 29 #[.slice (some ⟨p2, 0, none⟩) 1 1, .int .i64 1, .int .i64 le, .int .i64 mo, .int .i64 1000, .int .i64 1]
 c : Chg (fun _ => False) w wr
theorem backoff7 {n : Nat} {w : World} (hl : Laid n w) (hT : Told n w) (x0 x1 : Int) (h0 : 0 ≤ x0 ∧ x0 < 256) (h1 : 0 ≤ x1 ∧ x1 < 256) (ans : Bool) : Calls Tryz.prog 7 #[.agg #[.int .u8 x0, .int .u8 x1], .bool ans] w fun e w' => e = .returned (.bool true) ∧ Chg (fun _ => False) w w' := by
 have HLA := Lib.hid hl
 have HTO := Lib.hid hT
 have c1 := chg0_alloc w (Obj.cells #[.int .u8 x0, .int .u8 x1] 95)
 have A1 := Blk.new w 95 #[.int .u8 x0, .int .u8 x1]
 have s1 : (w.alloc (Obj.cells #[.int .u8 x0, .int .u8 x1] 95)).heap.size = w.heap.size + 1 := by simp
 clear hl hT
 go_enter Tryz.func7, Tryz.ntmps7
 go_upto_region 2 with (fail)
 obtain ⟨p1, hp1⟩ : ∃ p, p = w.heap.size := ⟨_, rfl⟩
 rw [← hp1] at A1 s1
 rw [← hp1]
 generalize w.alloc (Obj.cells #[.int .u8 x0, .int .u8 x1] 95) = wb at *
 have c2 := chg0_alloc wb (Obj.cells #[.int .i64 5] 3)
 have A2 := Blk.new wb 3 #[.int .i64 5]
 have s2 : (wb.alloc (Obj.cells #[.int .i64 5] 3)).heap.size = p1 + 1 + 1 := by simp [s1]
 rw [s1] at A2
 obtain ⟨p2, hp2⟩ : ∃ p, p = p1 + 1 := ⟨_, rfl⟩
 rw [← hp2] at A2 s2
 rw [← hp2]
 have A1' := A1.chg c2 (fun h => h)
 generalize wb.alloc (Obj.cells #[.int .i64 5] 3) = wc at *
 obtain ⟨le, hle⟩ : ∃ le, le = 4 + x0 % 5 := ⟨_, rfl⟩
 rw [← hle]
 have c3 := chg0_alloc wc (Obj.cells #[.slice (some ⟨p2, 0, none⟩) 1 1, .int .i64 1, .int .i64 le, .int .i64 0, .int .i64 1000, .int .i64 1] 29)
 have A3 := Blk.new wc 29 #[.slice (some ⟨p2, 0, none⟩) 1 1, .int .i64 1, .int .i64 le, .int .i64 0, .int .i64 1000, .int .i64 1]
 have s3 : (wc.alloc (Obj.cells #[.slice (some ⟨p2, 0, none⟩) 1 1, .int .i64 1, .int .i64 le, .int .i64 0, .int .i64 1000, .int .i64 1] 29)).heap.size = p2 + 1 + 1 := by simp [s2]
 rw [s2] at A3
 obtain ⟨p3, hp3⟩ : ∃ p, p = p2 + 1 := ⟨_, rfl⟩
 rw [← hp3] at A3 s3
 rw [← hp3]
 have A1'' := A1'.chg c3 (fun h => h)
 have A2' := A2.chg c3 (fun h => h)
 generalize wc.alloc (Obj.cells #[.slice (some ⟨p2, 0, none⟩) 1 1, .int .i64 1, .int .i64 le, .int .i64 0, .int .i64 1000, .int .i64 1] 29) = wd at *
 have k0 := A1''.cell 1
 have k1 := A3.cell 2
 have k2 := A3.cell 3
 have z3 := A3.frozen 3
 simp at k0 k1 k2
 have hle1 : 4 ≤ le ∧ le ≤ 8 := by omega
 have hmw : IntKind.i64.wrap (le + x1 % 60) = le + x1 % 60 := by unfold IntKind.wrap; simp [IntKind.bits, IntKind.signed]; omega
 have HC := Lib.hid ((c1.trans c2).trans c3)
 have HA := Lib.hid (And.intro A2' A3)
 have HP := Lib.hid (And.intro hp1 (And.intro hp2 (And.intro hp3 s3)))
 have HLE := Lib.hid hle
 clear c1 c2 c3 A1 A1' A1'' A2 A2' A3 hp1 hp2 hp3 s1 s2 s3 hle
 clear wb wc
 go_upto_region 3 with (fail)
 obtain ⟨mo, hmo⟩ : ∃ mo, mo = le + x1 % 60 := ⟨_, rfl⟩
 rw [← hmo]
 have A3 : Blk (wd.setCell ⟨p3, 3, none⟩ (.int .i64 mo)) p3 29 #[.slice (some ⟨p2, 0, none⟩) 1 1, .int .i64 1, .int .i64 le, .int .i64 mo, .int .i64 1000, .int .i64 1] := by simpa using HA.out.2.set_ 3 (.int .i64 mo)
 have cP : Chg (fun i => i = p3) wd (wd.setCell ⟨p3, 3, none⟩ (.int .i64 mo)) := (Chg.refl (fun i => i = p3) wd).setCell (p := ⟨p3, 3, none⟩) (fun _ => rfl) _
 have A2 := HA.out.1.chg cP (fun h => by have := HP.out; omega)
 have hmo1 : le ≤ mo ∧ mo ≤ 67 := by omega
 have sX : (wd.setCell ⟨p3, 3, none⟩ (.int .i64 mo)).heap.size = p3 + 1 := by rw [show (wd.setCell ⟨p3, 3, none⟩ (.int .i64 mo)).heap.size = wd.heap.size from by simp]; have := HP.out; omega
 have cW : Chg (fun _ => False) w (wd.setCell ⟨p3, 3, none⟩ (.int .i64 mo)) := HC.out.trans' cP (fun i hi h => by have h0 : i = p3 := h; have := HP.out; omega)
 have HMO := Lib.hid hmo
 clear hmw k0 k1 k2 z3 cP hmo HA HC
 generalize wd.setCell ⟨p3, 3, none⟩ (.int .i64 mo) = wx at *
 have A4 := Blk.new wx 97 #[.int .i64 2, .int .i64 0, .int .i64 0, .int .i64 0, .int .i64 0, .int .u64 0]
 have c4 := chg0_alloc wx (Obj.cells #[.int .i64 2, .int .i64 0, .int .i64 0, .int .i64 0, .int .i64 0, .int .u64 0] 97)
 have s4 : (wx.alloc (Obj.cells #[.int .i64 2, .int .i64 0, .int .i64 0, .int .i64 0, .int .i64 0, .int .u64 0] 97)).heap.size = p3 + 1 + 1 := by simp [sX]
 rw [sX] at A4
 obtain ⟨p4, hp4⟩ : ∃ p, p = p3 + 1 := ⟨_, rfl⟩
 rw [← hp4] at A4 s4
 go_upto_if 30 with (fail)
 rw [← hp4]
 have A3' := A3.chg c4 (fun h => h)
 have A2' := A2.chg c4 (fun h => h)
 generalize wx.alloc (Obj.cells #[.int .i64 2, .int .i64 0, .int .i64 0, .int .i64 0, .int .i64 0, .int .u64 0] 97) = wy at *
 have z0 := A4.frozen 0
 have y0 := A4.cell 0
 simp at y0
 have HY := Lib.hid (And.intro A4 (And.intro A3' (And.intro A2' (cW.trans c4))))
 have HP4 := Lib.hid (And.intro hp4 s4)
 clear A4 A3 A3' A2 A2' cW c4 sX hp4 s4
 go_cut [] (fun wz => Blk wz p4 97 (wayc (bkY ans)) ∧ Chg (fun i => i = p4) wy wz)
 case first =>
  cases ans with
  | true =>
   go_wp2_with fail
   go_meet
   exact ⟨by simpa [bkY, way0, wayc] using HY.out.1.set_ 0 (.int .i64 0), (Chg.refl (fun i => i = p4) wy).setCell (p := ⟨p4, 0, none⟩) (fun _ => rfl) _⟩
  | false =>
   go_wp2_with fail
   go_meet
   exact ⟨HY.out.1, Chg.refl _ _⟩
 case rest =>
  obtain ⟨A5, c5⟩ := hcut
  have hkd : ∃ kd : Int, wayc (bkY ans) = #[.int .i64 kd, .int .i64 0, .int .i64 0, .int .i64 0, .int .i64 0, .int .u64 0] := by cases ans <;> exact ⟨_, rfl⟩
  obtain ⟨kd, hkd⟩ := hkd
  have HKD := Lib.hid hkd
  rw [hkd] at A5
  have hC : bkC (x0 % 5).toNat (x1 % 60).toNat = ⟨[5], 1, le, mo, 1000, 1⟩ := by
   have h1 : (((x0 % 5).toNat : Nat) : Int) = x0 % 5 := by omega
   have h2 : (((x1 % 60).toNat : Nat) : Int) = x1 % 60 := by omega
   unfold bkC
   rw [h1, h2, ← HLE.out, ← HMO.out]
  obtain ⟨c, hc⟩ : ∃ c : Cfg, c = ⟨[5], 1, le, mo, 1000, 1⟩ := ⟨_, rfl⟩
  have hpar : parseI (printI c) = (c, 0, 0) := by
   rw [hc, ← hC]
   exact bk_parse _ (by omega) _ (by omega)
  have hok : BkOk c := by
   rw [hc]
   exact ⟨rfl, by show 4 ≤ le; omega, by show le ≤ 8; omega, by show le ≤ mo; omega, by show mo ≤ 67; omega, rfl⟩
  have hsm : c.Small := by
   rw [hc]
   exact ⟨fun z hz => by rw [List.mem_singleton.1 hz]; decide, by show ([5] : List Int).length ≤ 16; decide, by show (0 : Int) ≤ 1 ∧ (1 : Int) ≤ 1000000000; decide, by show 0 ≤ le ∧ le ≤ 1000000000; omega, by show 0 ≤ mo ∧ mo ≤ 1000000000; omega, by show (0 : Int) ≤ 1000 ∧ (1000 : Int) ≤ 1000000000; decide, by show (0 : Int) ≤ 1 ∧ (1 : Int) ≤ 1000000000; decide⟩
  have A3 := HY.out.2.1.chg c5 (fun h => by have h1 := HP4.out; omega)
  have A2 := HY.out.2.2.1.chg c5 (fun h => by have h1 := HP4.out; have h2 := HP.out; omega)
  have cW : Chg (fun _ => False) w wc := HY.out.2.2.2.trans' c5 (fun i hi h => by have h0 : i = p4 := h; have h1 := HP4.out; have h2 := HP.out; omega)
  have HPR := Lib.hid (fun W' (hW : Chg (fun _ => False) wc W') => print9 c hsm (some ⟨p2, 0, none⟩) 1 W' (fun _ => ⟨p2, 0, rfl, fun i x hx k u hu => by
   have hcs : c.servers.map i64c = [[.int .i64 5]] := by rw [hc]; rfl
   rw [hcs] at hx
   cases i with
   | zero =>
    cases hx
    have := (A2.chg hW (fun h => h)).cell k
    simp only [Nat.zero_mul, Nat.zero_add]
    rw [this]
    simpa using hu
   | succ i => cases hx⟩) (by rw [hc]; exact Nat.le_refl _))
  have hcv : cfgv (.slice (some ⟨p2, 0, none⟩) c.servers.length 1) c = .agg #[.slice (some ⟨p2, 0, none⟩) 1 1, .int .i64 1, .int .i64 le, .int .i64 mo, .int .i64 1000, .int .i64 1] := by rw [hc]; rfl
  rw [hcv] at HPR
  have hplen : (printI c).length < 4294967281 := by
   have h1 := servs_len c.servers
   have h2 : c.servers.length = 1 := by rw [hc]; rfl
   have h3 := textI_len c.quorum.toNat
   have h4 := textI_len c.least.toNat
   have h5 := textI_len c.most.toNat
   have h6 := textI_len c.delay.toNat
   have h7 := textI_len c.slew.toNat
   unfold printI
   rw [h2] at h1
   generalize c.servers.flatMap servI = L at *
   simp
   omega
  have HNW := Lib.hid (fun W' row (hW : Chg (fun _ => False) wc W') (hB : Blk W' row 97 #[.int .i64 kd, .int .i64 0, .int .i64 0, .int .i64 0, .int .i64 0, .int .u64 0]) => new14 (printI c) c hplen hpar 0 0 0 0 (by omega) (by omega) (by omega) (by omega) [bkY ans] (some ⟨row, 0, none⟩) 1
   (fun y hy => by rw [List.mem_singleton.1 hy]; cases ans <;> exact ⟨by decide, by decide, by decide, by decide, by decide, by decide⟩) (by rw [hc]; rfl) W'
   (fun _ => ⟨row, 0, rfl, fun i x hx k u hu => by
    cases i with
    | zero =>
     cases hx
     have hu' : (wayc (bkY ans)).toList[k]? = some u := hu
     rw [hkd] at hu'
     have := hB.cell k
     simp only [Nat.zero_mul, Nat.zero_add]
     rw [this]
     simpa using hu'
    | succ i => cases hx⟩) (by intro h; cases h) (Nat.le_refl _) n ((HLA.out.chg0 cW).chg0 hW))
  unfold strv at HNW
  have hl1 : ([bkY ans] : List Way).length = 1 := rfl
  rw [hl1] at HNW
  clear hl1
  have q0 := A3.cell 0
  have q1 := A3.cell 1
  have q2 := A3.cell 2
  have q3 := A3.cell 3
  have q4 := A3.cell 4
  have q5 := A3.cell 5
  have r0 := A5.cell 0
  have r1 := A5.cell 1
  have r2 := A5.cell 2
  have r3 := A5.cell 3
  have r4 := A5.cell 4
  have r5 := A5.cell 5
  simp at q0 q1 q2 q3 q4 q5 r0 r1 r2 r3 r4 r5
  have HS6 := Lib.hid (fun W' (hW : Chg (fun _ => False) wc W') => (⟨hW.keep q0 (fun h => h), hW.keep q1 (fun h => h), hW.keep q2 (fun h => h), hW.keep q3 (fun h => h), hW.keep q4 (fun h => h), hW.keep q5 (fun h => h), hW.keep r0 (fun h => h), hW.keep r1 (fun h => h), hW.keep r2 (fun h => h), hW.keep r3 (fun h => h), hW.keep r4 (fun h => h), hW.keep r5 (fun h => h)⟩ : W'.cell? ⟨p3, 0, none⟩ = some (.slice (some ⟨p2, 0, none⟩) 1 1) ∧ W'.cell? ⟨p3, 1, none⟩ = some (.int .i64 1) ∧ W'.cell? ⟨p3, 2, none⟩ = some (.int .i64 le) ∧ W'.cell? ⟨p3, 3, none⟩ = some (.int .i64 mo) ∧ W'.cell? ⟨p3, 4, none⟩ = some (.int .i64 1000) ∧ W'.cell? ⟨p3, 5, none⟩ = some (.int .i64 1) ∧ W'.cell? ⟨p4, 0, none⟩ = some (.int .i64 kd) ∧ W'.cell? ⟨p4, 1, none⟩ = some (.int .i64 0) ∧ W'.cell? ⟨p4, 2, none⟩ = some (.int .i64 0) ∧ W'.cell? ⟨p4, 3, none⟩ = some (.int .i64 0) ∧ W'.cell? ⟨p4, 4, none⟩ = some (.int .i64 0) ∧ W'.cell? ⟨p4, 5, none⟩ = some (.int .u64 0)))
  obtain ⟨W0, hW0⟩ : ∃ W0, W0 = wm0 c 0 0 0 0 [bkY ans] := ⟨_, rfl⟩
  rw [← hW0] at HNW
  have HW0 := Lib.hid hW0
  have HA3 := Lib.hid (And.intro A3 (And.intro cW hok))
  have HLM := Lib.hid (And.intro (show c.least = le from by rw [hc]) (show c.most = mo from by rw [hc]))
  obtain ⟨pt, hpt⟩ : ∃ pt, pt = (printI c).toArray := ⟨_, rfl⟩
  rw [← hpt] at HPR HNW
  have HPT := Lib.hid (Eq.refl pt)
  clear hkd hC hc hpar hsm A3 A2 A5 cW c5 hcv hplen q0 q1 q2 q3 q4 q5 r0 r1 r2 r3 r4 r5 hW0 hpt hok z0 y0
  go_upto_region 6 with (fail)
  go_cut [7, 9] (fun s7 s9 wx => ∃ b B, s7 = .pointer (some ⟨b, 0, none⟩) ∧ s9 = .int .i64 0 ∧ WAt 0 wx b W0 B ∧ (∀ i, WAll b B i → wc.heap.size ≤ i) ∧ Chg (fun _ => False) wc wx)
  case first =>
   refine wp_region_noPanic ?_
   refine wp_region_till (s := 10) (S := fun w' => w'.cell? ⟨p3, 0, none⟩ = some (.slice (some ⟨p2, 0, none⟩) 1 1) ∧ w'.cell? ⟨p3, 1, none⟩ = some (.int .i64 1) ∧ w'.cell? ⟨p3, 2, none⟩ = some (.int .i64 le) ∧ w'.cell? ⟨p3, 3, none⟩ = some (.int .i64 mo) ∧ w'.cell? ⟨p3, 4, none⟩ = some (.int .i64 1000) ∧ w'.cell? ⟨p3, 5, none⟩ = some (.int .i64 1) ∧ w'.cell? ⟨p4, 0, none⟩ = some (.int .i64 kd) ∧ w'.cell? ⟨p4, 1, none⟩ = some (.int .i64 0) ∧ w'.cell? ⟨p4, 2, none⟩ = some (.int .i64 0) ∧ w'.cell? ⟨p4, 3, none⟩ = some (.int .i64 0) ∧ w'.cell? ⟨p4, 4, none⟩ = some (.int .i64 0) ∧ w'.cell? ⟨p4, 5, none⟩ = some (.int .u64 0)) (by kernel_rfl) ?_
   have hHeld := HS6.out wc.drew (Chg.drew (Chg.refl _ _))
   refine wL 0 33 _ (fun _ => hHeld) ?_
   try simp only [Act.put, qA, qB, qC]
   refine wP 2 35 _ (fun _ => hHeld) ?_
   try simp only [Act.put, qA, qB, qC]
   refine wL 3 36 _ (fun _ => hHeld) ?_
   try simp only [Act.put, qA, qB, qC]
   refine wpTill_more [1, 4] (by kernel_rfl) (by simp) (TillAll.cons (i := 1) (oi := ⟨some 34, _, _, _, _, _⟩) rfl (fun KK hKK => ?_) (TillAll.cons (i := 4) (oi := ⟨some 37, _, _, _, _, _⟩) rfl (fun KK hKK => ?_) TillAll.nil))
   ·go_simp
    refine (HPR.out _ kC).mono ?_
    rintro e w7 ⟨rfl, c7⟩
    have cT7 : Chg (fun _ => False) wc w7 := Chg.trans kC c7
    refine hKK _ _ (andS (HS6.out _ kC) (fun hHeld' => ?_))
    clear hKK KK
    try simp only [Act.put, qA, qB, qC]
    refine wpTill_one (i := 4) (oi := ⟨some 37, _, _, _, _, _⟩) rfl (by kernel_rfl) (fun KK hKK => ?_)
    go_simp
    refine hKK _ _ (andS (HS6.out _ kC) (fun hHeld'' => ?_))
    clear hKK KK
    try simp only [Act.put, qA, qB, qC]
    refine wpTill_one (i := 5) (oi := ⟨some 38, _, _, _, _, _⟩) rfl (by kernel_rfl) (fun KK hKK => ?_)
    go_simp
    refine (HNW.out _ _ kC (by first | exact Blk.new _ _ _ | exact Blk.chg (S := fun _ => False) (Blk.new _ _ _) ((Chg.drew (Chg.refl (fun _ => False) _)).trans c7) (fun h => h))).mono ?_
    rintro e w8 ⟨⟨b, B, rfl, hb1, hb2⟩, c8⟩
    have cT8 : Chg (fun _ => False) wc w8 := Chg.trans kC c8
    clear c8
    refine hKK _ _ (andS (HS6.out _ kC) (fun hHeld''' => ?_))
    clear hKK KK
    try simp only [Act.put, qA, qB, qC]
    refine wP 6 32 _ (fun _ => hHeld''') ?_
    try simp only [Act.put, qA, qB, qC]
    refine wP 7 39 _ (fun _ => hHeld''') ?_
    try simp only [Act.put, qA, qB, qC]
    refine wP 8 40 _ (fun _ => hHeld''') ?_
    try simp only [Act.put, qA, qB, qC]
    refine wP 9 41 _ (fun _ => hHeld''') ?_
    try simp only [Act.put, qA, qB, qC]
    refine wpTill_one (i := 10) (oi := ⟨some 7, _, _, _, _, _⟩) rfl (by kernel_rfl) (fun KK hKK => ?_)
    go_simp
    refine hKK _ _ ⟨(fun h => (by simp at h)), ?_⟩
    clear hKK KK
    try simp only [Act.put, qA, qB, qC]
    refine wP 11 8 _ (fun h => (by simp at h)) ?_
    try simp only [Act.put, qA, qB, qC]
    refine wP 12 9 _ (fun h => (by simp at h)) ?_
    try simp only [Act.put, qA, qB, qC]
    refine wpTill_done (by kernel_rfl) ?_
    refine NoPanic.normal ?_
    have HB := Lib.hid (And.intro hb1 (And.intro hb2 cT8))
    go_wp2_with fail
    go_meet
    exact ⟨b, B, rfl, rfl, HB.out.1, fun i hi => Nat.le_trans (Chg.size (S := fun _ => False) kC) (HB.out.2.1 i hi), HB.out.2.2⟩
   ·go_simp
    refine hKK _ _ (andS (HS6.out _ kC) (fun hHeld' => ?_))
    clear hKK KK
    try simp only [Act.put, qA, qB, qC]
    refine wpTill_one (i := 1) (oi := ⟨some 34, _, _, _, _, _⟩) rfl (by kernel_rfl) (fun KK hKK => ?_)
    go_simp
    refine (HPR.out _ kC).mono ?_
    rintro e w7 ⟨rfl, c7⟩
    have cT7 : Chg (fun _ => False) wc w7 := Chg.trans kC c7
    refine hKK _ _ (andS (HS6.out _ kC) (fun hHeld'' => ?_))
    clear hKK KK
    try simp only [Act.put, qA, qB, qC]
    refine wpTill_one (i := 5) (oi := ⟨some 38, _, _, _, _, _⟩) rfl (by kernel_rfl) (fun KK hKK => ?_)
    go_simp
    refine (HNW.out _ _ kC (by first | exact Blk.new _ _ _ | exact Blk.chg (S := fun _ => False) (Blk.new _ _ _) ((Chg.drew (Chg.refl (fun _ => False) _)).trans c7) (fun h => h))).mono ?_
    rintro e w8 ⟨⟨b, B, rfl, hb1, hb2⟩, c8⟩
    have cT8 : Chg (fun _ => False) wc w8 := Chg.trans kC c8
    clear c8
    refine hKK _ _ (andS (HS6.out _ kC) (fun hHeld''' => ?_))
    clear hKK KK
    try simp only [Act.put, qA, qB, qC]
    refine wP 6 32 _ (fun _ => hHeld''') ?_
    try simp only [Act.put, qA, qB, qC]
    refine wP 7 39 _ (fun _ => hHeld''') ?_
    try simp only [Act.put, qA, qB, qC]
    refine wP 8 40 _ (fun _ => hHeld''') ?_
    try simp only [Act.put, qA, qB, qC]
    refine wP 9 41 _ (fun _ => hHeld''') ?_
    try simp only [Act.put, qA, qB, qC]
    refine wpTill_one (i := 10) (oi := ⟨some 7, _, _, _, _, _⟩) rfl (by kernel_rfl) (fun KK hKK => ?_)
    go_simp
    refine hKK _ _ ⟨(fun h => (by simp at h)), ?_⟩
    clear hKK KK
    try simp only [Act.put, qA, qB, qC]
    refine wP 11 8 _ (fun h => (by simp at h)) ?_
    try simp only [Act.put, qA, qB, qC]
    refine wP 12 9 _ (fun h => (by simp at h)) ?_
    try simp only [Act.put, qA, qB, qC]
    refine wpTill_done (by kernel_rfl) ?_
    refine NoPanic.normal ?_
    have HB := Lib.hid (And.intro hb1 (And.intro hb2 cT8))
    go_wp2_with fail
    go_meet
    exact ⟨b, B, rfl, rfl, HB.out.1, fun i hi => Nat.le_trans (Chg.size (S := fun _ => False) kC) (HB.out.2.1 i hi), HB.out.2.2⟩
  case rest =>
   obtain ⟨b, B, rfl, rfl, hWt, hWge, c6⟩ := hcut
   obtain ⟨wy6, hwy6⟩ : ∃ x, x = wc := ⟨_, rfl⟩
   have A3 := HA3.out.1.chg c6 (fun h => h)
   have hba : BkAt w ans c p3 p2 le mo b 0 le (-1) 0 wc := by
    refine ⟨⟨0, W0, B, by omega, hWt, fun i hi => Nat.le_trans HA3.out.2.1.size (hWge i hi), .inl ⟨rfl, HW0.out, HLM.out.1.symm, rfl, rfl⟩⟩, A3, HA3.out.2.1.trans c6⟩
   have HBA := Lib.hid hba
   have HOK := Lib.hid HA3.out.2.2
   have q2 := A3.cell 2
   simp at q2
   have HP3 : Hid (w.heap.size ≤ p3) := Lib.hid (by have := HP.out; omega)
   clear hba A3 hWt hWge c6 hwy6 wy6 HW0 HA3 HS6 HPR HNW HPT
   go_wp2_with fail
   go_loopw [50, 10, 11, 12] (fun v50 v10 v11 v12 wr => ∃ (i : Nat) (gap last sent : Int), i ≤ 600 ∧ v50 = .int .i64 i ∧ v10 = .int .i64 gap ∧ v11 = .int .i64 last ∧ v12 = .int .i64 sent ∧ BkAt w ans c p3 p2 le mo b i gap last sent wr) (fun v50 _ _ _ _ => 600 - (intOf v50).toNat)
   case atStart => exact ⟨0, le, -1, 0, by omega, rfl, rfl, rfl, rfl, HBA.out⟩
   case round =>
    clear HBA q2
    obtain ⟨i, gap, last, sent, hi, rfl, rfl, rfl, rfl, ⟨N, W, B1, b1, b2, b3, b4⟩, b5, b6⟩ := hrel
    by_cases hi6 : i < 600
    ·have hiI : (i : Int) < 600 := by omega
     have hrd : Ready i W := by
      rcases b4 with ⟨rfl, rfl, _⟩ | ⟨_, lk, _, hj, _⟩
      ·exact bk_ready0 c ans
      ·exact hj.ready (by omega)
     have hdr : 0 < (i : Int) + 1 ∧ (i : Int) + 1 < 18446744073709551616 := by omega
     have HDO := Lib.hid (do16 b2 hrd.s ⟨by omega, hdr.2⟩ (by have := hrd.u; omega) hrd.a (by have := hrd.u; omega))
     -- what is behind the step
     have hnx : ∀ us : List Ans, us.Perm W.under → (1 ≤ i ∧ ∃ lk, last = lk * 500000000 ∧ 1 ≤ lk ∧ BkJ ans c (i + 1) gap lk (W.step us 500000000 500000000 ((i : Int) + 1)) ∧ (W.step us 500000000 500000000 ((i : Int) + 1)).sent = sent) ∨
       (i = 0 ∧ gap = c.least ∧ last = -1 ∧ BkJ ans c (i + 1) gap ((i : Int) + 1) (W.step us 500000000 500000000 ((i : Int) + 1)) ∧ (W.step us 500000000 500000000 ((i : Int) + 1)).sent = sent + 1) ∨
       (1 ≤ i ∧ ∃ lk gap', last = lk * 500000000 ∧ 1 ≤ lk ∧ (0 ≤ gap ∧ gap ≤ 67) ∧ gap' = (if ans = true then gap else min (2 * gap) c.most) ∧ (i : Int) + 1 - lk = 2 * gap' ∧ BkJ ans c (i + 1) gap' ((i : Int) + 1) (W.step us 500000000 500000000 ((i : Int) + 1)) ∧ (W.step us 500000000 500000000 ((i : Int) + 1)).sent = sent + 1) := by
      intro us hp
      rcases b4 with ⟨rfl, rfl, hg, hla, hse⟩ | ⟨h1, lk, hla, hj, hse⟩
      ·have hus : us = [] := by
        have : us.Perm [] := hp
        exact this.eq_nil
       subst hus
       obtain ⟨f1, f2⟩ := bk_first ans HOK.out hdr
       refine .inr (.inl ⟨rfl, hg, hla, ?_, ?_⟩)
       ·rw [hg]; exact f1
       ·rw [hse]; exact f2
      ·rcases bk_step hj HOK.out hdr (by omega) hp with ⟨s1, s2⟩ | ⟨gap', s1, s2, s3, s4⟩
       ·exact .inl ⟨h1, lk, hla, hj.l, s1, by rw [s2, hse]⟩
       ·have hgb : 0 ≤ gap ∧ gap ≤ 67 := by
         have o4 := HOK.out.l4
         have o8 := HOK.out.l8
         have om := HOK.out.m
         rcases hj.j with ⟨_, _, q⟩ | ⟨_, ⟨⟨_, _, q⟩, _⟩⟩
         ·omega
         ·have := q.gap; omega
        exact .inr (.inr ⟨h1, lk, gap', hla, hj.l, hgb, s1, s4, s2, by rw [s3, hse]⟩)
     have HNX := Lib.hid hnx
     have HB := Lib.hid (And.intro b1 (And.intro b2 (And.intro b3 (And.intro b5 (And.intro b6 hrd)))))
     have hu : IntKind.u64.wrap ((i : Int) + 1) = (i : Int) + 1 := by unfold IntKind.wrap; simp [IntKind.bits, IntKind.signed]; omega
     clear b1 b2 b3 b4 b5 b6 hnx hrd hdr
     go_wp2_with fail
     refine HDO.out.mono ?_
     rintro e w9 ⟨rfl, ⟨us, B2, u1, u2, u3⟩, c9⟩
     obtain ⟨g1, g2, g3, g4, g5, g6⟩ := HB.out
     have A9 := g4.chg c9 (fun h => g2.farT h g4 (.inr (.inr (.inr (.inr rfl)))))
     have hN2 : N + 5 * W.under.length + 3 ≤ 8 * (i + 1) := by have := g6.u; omega
     have hW2 : ∀ i, WAll b B2 i → w.heap.size ≤ i := fun k hk => by
      rcases u3 k hk with h | h
      ·exact g3 k h
      ·have := g5.size; omega
     have cW9 : Chg (fun _ => False) w w9 := g5.trans' c9 (fun k hk h => by have := g3 k h; omega)
     have hnx := HNX.out us u1
     obtain ⟨W2, hW2e⟩ : ∃ W2, W2 = W.step us 500000000 500000000 ((i : Int) + 1) := ⟨_, rfl⟩
     rw [← hW2e] at hnx u2
     have HSE := Lib.hid (fun W' (hW : Chg (fun _ => False) w9 W') => sent27 (u2.chg0 hW))
     have HTR := Lib.hid (fun W' (hW : Chg (fun _ => False) w9 W') => true15 (u2.chg0 hW))
     have q3 := A9.cell 3
     simp at q3
     have HB2 := Lib.hid (And.intro hN2 (And.intro u2 (And.intro hW2 (And.intro A9 cW9))))
     clear g1 g2 g3 g4 g5 g6 A9 hN2 hW2 cW9 u1 u2 u3 c9 hW2e HDO HNX HB
     rcases hnx with ⟨h1, lk, hla, hlk, hj, hs⟩ | ⟨h1, hg, hla, hj, hs⟩ | ⟨h1, lk, gap', hla, hlk, hgb, hgp, hdf, hj, hs⟩
     ·-- nothing was sent
      rw [hs] at HSE
      have HJ := Lib.hid (And.intro h1 (And.intro hla (And.intro hj hs)))
      clear h1 hla hj hs hlk
      go_wp2_with fail
      refine (HSE.out _ (Chg.refl _ _)).mono ?_
      rintro e wt ⟨rfl, hwt⟩
      rw [hwt]
      clear hwt wt
      go_wp2_with fail
      refine ⟨⟨i + 1, gap, last, sent, by omega, by simp, rfl, rfl, rfl, ⟨⟨_, W2, B2, HB2.out.1, HB2.out.2.1, HB2.out.2.2.1, .inr ⟨by omega, lk, HJ.out.2.1, HJ.out.2.2.1, HJ.out.2.2.2.symm⟩⟩, HB2.out.2.2.2.1, HB2.out.2.2.2.2⟩⟩, by simp [intOf]; omega⟩
     ·-- the first one
      subst hla
      have hrt := (hj.ready (by omega)).t
      rw [hs] at HSE
      rw [hrt] at HTR
      have hi0 : i = 0 := h1
      subst hi0
      have HJ := Lib.hid (And.intro hj hs)
      clear h1 hj hs hg hrt
      have hne : ¬ (sent + 1 = sent) := by omega
      have he1 : (((0 + 1 : Nat) : Int) * 500000000) = 500000000 := by decide
      rw [he1] at HTR
      go_wp2_with fail
      refine (HSE.out _ (Chg.refl _ _)).mono ?_
      rintro e wt ⟨rfl, hwt⟩
      rw [hwt]
      clear hwt wt
      go_wp2_with fail
      refine (HSE.out _ (Chg.refl _ _)).mono ?_
      rintro e wt ⟨rfl, hwt⟩
      rw [hwt]
      clear hwt wt
      go_wp2_with fail
      refine (HTR.out _ (Chg.refl _ _)).mono ?_
      rintro e wt ⟨rfl, hwt⟩
      rw [hwt]
      clear hwt wt
      go_wp2_with fail
      refine ⟨⟨0 + 1, gap, 500000000, sent + 1, by omega, by simp, rfl, rfl, rfl, ⟨⟨_, W2, B2, HB2.out.1, HB2.out.2.1, HB2.out.2.2.1, .inr ⟨by omega, 1, by omega, HJ.out.1, HJ.out.2.symm⟩⟩, HB2.out.2.2.2.1, HB2.out.2.2.2.2⟩⟩, by simp [intOf]⟩
     ·have hrt := (hj.ready (by omega)).t
      rw [hs] at HSE
      rw [hrt] at HTR
      have hne : ¬ (sent + 1 = sent) := by omega
      obtain ⟨tv, htv⟩ : ∃ tv : Int, tv = ((i + 1 : Nat) : Int) * 500000000 := ⟨_, rfl⟩
      rw [← htv] at HTR
      have hla0 : 0 ≤ last := by omega
      obtain ⟨d9, hd9⟩ : ∃ d9 : Int, d9 = gap' * 1000000000 := ⟨_, rfl⟩
      have hgp0 : 0 ≤ gap' := by
       have o4 := HOK.out.l4
       have om := HOK.out.lm
       rw [hgp]
       split <;> omega
      have hgp1 : gap' ≤ 301 := by omega
      have hsub : IntKind.i64.wrap (tv - last) = d9 := by
       have : tv - last = d9 := by omega
       rw [this]
       unfold IntKind.wrap; simp [IntKind.bits, IntKind.signed]; omega
      have hdd : IntKind.i64.wrap (gap' * 1000000000) = d9 := by
       rw [← hd9]
       unfold IntKind.wrap; simp [IntKind.bits, IntKind.signed]; omega
      have HJ := Lib.hid (And.intro hj (And.intro hs (And.intro htv hd9)))
      clear hj hs hla hrt htv hd9 hdf hlk h1
      cases ans with
      | true =>
       have hgg : gap' = gap := by rw [hgp]; rfl
       subst hgg
       clear hgp
       go_wp2_with fail
       refine (HSE.out _ (Chg.refl _ _)).mono ?_
       rintro e wt ⟨rfl, hwt⟩
       rw [hwt]
       clear hwt wt
       go_wp2_with fail
       refine (HSE.out _ (Chg.refl _ _)).mono ?_
       rintro e wt ⟨rfl, hwt⟩
       rw [hwt]
       clear hwt wt
       go_wp2_with fail
       refine (HTR.out _ (Chg.refl _ _)).mono ?_
       rintro e wt ⟨rfl, hwt⟩
       rw [hwt]
       clear hwt wt
       go_wp2_with fail
       refine (HTR.out _ (Chg.refl _ _)).mono ?_
       rintro e wt ⟨rfl, hwt⟩
       rw [hwt]
       clear hwt wt
       go_wp2_with fail
       refine ⟨⟨i + 1, gap', tv, sent + 1, by omega, by simp, rfl, rfl, rfl, ⟨⟨_, W2, B2, HB2.out.1, HB2.out.2.1, HB2.out.2.2.1, .inr ⟨by omega, (i : Int) + 1, by rw [HJ.out.2.2.1]; omega, HJ.out.1, HJ.out.2.1.symm⟩⟩, HB2.out.2.2.2.1, HB2.out.2.2.2.2⟩⟩, by simp [intOf]; omega⟩
      | false =>
       have hgg : gap' = min (2 * gap) mo := by rw [hgp, HLM.out.2]; rfl
       have hw2 : IntKind.i64.wrap (2 * gap) = 2 * gap := by unfold IntKind.wrap; simp [IntKind.bits, IntKind.signed]; omega
       rw [hgg] at hdd
       have HGG := Lib.hid hgg
       clear hgp hgg
       go_wp2_with fail
       refine (HSE.out _ (Chg.refl _ _)).mono ?_
       rintro e wt ⟨rfl, hwt⟩
       rw [hwt]
       clear hwt wt
       go_wp2_with fail
       refine (HSE.out _ (Chg.refl _ _)).mono ?_
       rintro e wt ⟨rfl, hwt⟩
       rw [hwt]
       clear hwt wt
       go_wp2_with fail
       refine (HTR.out _ (Chg.refl _ _)).mono ?_
       rintro e wt ⟨rfl, hwt⟩
       rw [hwt]
       clear hwt wt
       go_wp2_with fail
       refine (HTR.out _ (Chg.refl _ _)).mono ?_
       rintro e wt ⟨rfl, hwt⟩
       rw [hwt]
       clear hwt wt
       go_wp2_with fail
       refine ⟨⟨i + 1, min (2 * gap) mo, tv, sent + 1, by omega, by simp, rfl, rfl, rfl, ⟨⟨_, W2, B2, HB2.out.1, HB2.out.2.1, HB2.out.2.2.1, .inr ⟨by omega, (i : Int) + 1, by rw [HJ.out.2.2.1]; omega, by rw [← HGG.out]; exact HJ.out.1, HJ.out.2.1.symm⟩⟩, HB2.out.2.2.2.1, HB2.out.2.2.2.2⟩⟩, by simp [intOf]; omega⟩
    ·have hi0 : i = 600 := by omega
     subst hi0
     have hs4 : 4 ≤ sent := by
      rcases b4 with ⟨h, _⟩ | ⟨_, lk, _, hj, hse⟩
      ·omega
      ·have h1 := hj.s
       have h2 := hj.k
       rw [hse]; omega
     have HAL := Lib.hid (alive11 (HLA.out.chg0 b6) (HTO.out.chg0 b6))
     have HB6 := Lib.hid b6
     clear b1 b2 b3 b4 b5 b6
     go_wp2_with (go_at_call 11; refine HAL.out.mono ?_; rintro e w9 ⟨rfl, c9⟩)
     go_ret
     exact ⟨rfl, HB6.out.trans c9⟩
end
end Go.Proofs.YtamhicdhbjniiaaGreatDoor
