/- daemon.New: what is there while it is made. -/
import Derived.Test.YtamhicdhbjniiaaGreatDoorM30
import Derived.Test.YtamhicdhbjniiaaGreatDoorM32
import Derived.Test.YtamhicdhbjniiaaGreatDoorM08
import Derived.Test.YtamhicdhbjniiaaGreatDoorM06
import Derived.Deep.RegionHeld3
set_option linter.unusedVariables false
namespace Go.Proofs.YtamhicdhbjniiaaGreatDoor
section
open Go Go.RowKit Go.Chron
def dm0 (c : Cfg) (k : Clk) (h : Int) (j : Nat) : Dm := ⟨c, k, List.replicate j (Pr.new c h), List.replicate j [], cnt0, 0, h, 0, [], 0⟩
def clk0 (c : Cfg) (h z : Int) : Clk := ⟨h, z, 0, 0, c.slew⟩
structure DPart (w : World) (b : Nat) (c : Cfg) (k : Clk) (h : Int) (j : Nat) (B : DB) : Prop where
 box : Blk w b 140 (dmc (dm0 c k h j) B)
 srv : Owns w 3 1 B.av B.ag (c.servers.map i64c)
 clk : Blk w B.kb 204 (clkc k)
 psl : Owns w 141 1 B.pv B.pg (B.pb.map fun x => [.pointer (some ⟨x.1, 0, none⟩)])
 ps : PsAt w B.pb (List.replicate j (Pr.new c h))
 ssl : Owns w 144 1 B.sv B.sg (B.sb.map fun x => [.pointer (some ⟨x.s, 0, none⟩)])
 ss : SsAt 0 w B.sb (List.replicate j [])
 q : QI w B.qb B.qm B.qn B.Q
 qn : B.qn = j
 qk : ∀ e ∈ B.Q, ∃ i : Nat, i < j ∧ e.k = (i : Int)
 cnt : Blk w B.cb 211 (cntc cnt0)
 vv : B.vv = .slice none 0 0 ∧ B.vg = none
theorem DPart.chg {w w' : World} {b j : Nat} {c : Cfg} {k : Clk} {h : Int} {B : DB} {S : Nat → Prop} (p : DPart w b c k h j B) (cc : Chg S w w') (hS : ∀ i, DBk b B i → ¬ S i) : DPart w' b c k h j B := by
 obtain ⟨h1, h2, h3, h4, h5, h6, h7, h8, h9, h10, h11, h12⟩ := p
 unfold DBk at hS
 exact ⟨h1.chg cc (hS _ (by simp)), h2.chg cc (fun k hk => hS _ (by simp [hk])), h3.chg cc (hS _ (by simp)), h4.chg cc (fun k hk => hS _ (by simp [hk])), h5.chg cc (fun i hi => hS _ (by simp [hi])),
  h6.chg cc (fun k hk => hS _ (by simp [hk])), h7.chg cc (fun i hi => hS _ (by simp [hi])), h8.chg cc (hS _ (by simp)) (hS _ (by simp)), h9, h10, h11.chg cc (hS _ (by simp)), h12⟩
theorem DPart.chg0 {w w' : World} {b j : Nat} {c : Cfg} {k : Clk} {h : Int} {B : DB} (p : DPart w b c k h j B) (cc : Chg (fun _ => False) w w') : DPart w' b c k h j B := p.chg cc (fun _ _ h => h)
theorem DPart.lt {w : World} {b j : Nat} {c : Cfg} {k : Clk} {h : Int} {B : DB} (p : DPart w b c k h j B) {i : Nat} (hi : DBk b B i) : i < w.heap.size := by
 rcases hi with rfl | rfl | rfl | rfl | rfl | hi | hi | hi | hi | hi | hi
 ·exact p.box.lt
 ·exact p.clk.lt
 ·exact p.q.lt.1
 ·exact p.q.lt.2
 ·exact p.cnt.lt
 ·exact p.srv.lt _ hi
 ·exact p.psl.lt _ hi
 ·exact p.ssl.lt _ hi
 ·rw [p.vv.2] at hi; cases hi
 ·exact p.ps.lt hi
 ·exact p.ss.lt hi
theorem PsAt.snoc {w w' : World} {pb : List (Nat × Nat)} {ps : List Pr} {S : Nat → Prop} {x : Nat × Nat} {p : Pr} (h : PsAt w pb ps) (c : Chg S w w') (hS : ∀ i, PB pb i → ¬ S i) (hp : PeerAt w' x.1 x.2 p) (h1 : w.heap.size ≤ x.1) (h2 : w.heap.size ≤ x.2) : PsAt w' (pb ++ [x]) (ps ++ [p]) := by
 have g := h.chg c hS
 have old : ∀ {i : Nat} {y : Nat × Nat}, pb[i]? = some y → y.1 < w.heap.size ∧ y.2 < w.heap.size := fun hy => ⟨h.lt ⟨_, List.mem_of_getElem? hy, .inl rfl⟩, h.lt ⟨_, List.mem_of_getElem? hy, .inr rfl⟩⟩
 refine ⟨by simp [h.len], fun i y q hy hq => ?_, fun i j y z hy hz hij => ?_⟩
 ·rcases Nat.lt_or_ge i pb.length with hi | hi
  ·rw [List.getElem?_append_left hi] at hy
   rw [List.getElem?_append_left (by rw [← h.len]; exact hi)] at hq
   exact g.at_ i y q hy hq
  ·rw [List.getElem?_append_right hi] at hy
   rw [List.getElem?_append_right (by rw [← h.len]; exact hi)] at hq
   have e : i - pb.length = 0 := by
    rcases Nat.eq_zero_or_pos (i - pb.length) with e | e
    ·exact e
    ·rw [List.getElem?_eq_none (by simp; omega)] at hy; cases hy
   rw [e] at hy
   rw [← h.len, e] at hq
   cases hy; cases hq
   exact hp
 ·have cs : ∀ {a : Nat} {u : Nat × Nat}, (pb ++ [x])[a]? = some u → (a < pb.length ∧ pb[a]? = some u) ∨ (a = pb.length ∧ u = x) := by
   intro a u hu
   rcases Nat.lt_or_ge a pb.length with ha | ha
   ·rw [List.getElem?_append_left ha] at hu; exact .inl ⟨ha, hu⟩
   ·rw [List.getElem?_append_right ha] at hu
    rcases Nat.eq_zero_or_pos (a - pb.length) with e | e
    ·rw [e] at hu; cases hu; exact .inr ⟨by omega, rfl⟩
    ·rw [List.getElem?_eq_none (by simp; omega)] at hu; cases hu
  rcases cs hy with ⟨a1, a2⟩ | ⟨a1, rfl⟩ <;> rcases cs hz with ⟨b1, b2⟩ | ⟨b1, rfl⟩
  ·exact h.dis i j y z a2 b2 hij
  ·have := old a2; exact ⟨by omega, by omega⟩
  ·have := old b2; exact ⟨by omega, by omega⟩
  ·omega
theorem SsAt.snoc {N : Nat} {w w' : World} {sb : List SB} {ss : List (List Sam)} {S : Nat → Prop} {x : SB} (h : SsAt N w sb ss) (c : Chg S w w') (hS : ∀ i, SBk sb i → ¬ S i) (hp : StoreAt w' x.s x.b x.g x.cnt []) (hc : x.cnt ≤ N) (h2 : w.heap.size ≤ x.b) (h3 : x.g = none) : SsAt N w' (sb ++ [x]) (ss ++ [[]]) := by
 have g := h.chg c hS
 have old : ∀ {i : Nat} {y : SB}, sb[i]? = some y → y.b < w.heap.size := fun hy => h.lt ⟨_, List.mem_of_getElem? hy, .inr (.inl rfl)⟩
 refine ⟨by simp [h.len], fun i y q hy hq => ?_, fun i j y z hy hz hij => ?_, fun L hL => ?_⟩
 ·rcases Nat.lt_or_ge i sb.length with hi | hi
  ·rw [List.getElem?_append_left hi] at hy
   rw [List.getElem?_append_left (by rw [← h.len]; exact hi)] at hq
   exact g.at_ i y q hy hq
  ·rw [List.getElem?_append_right hi] at hy
   rw [List.getElem?_append_right (by rw [← h.len]; exact hi)] at hq
   have e : i - sb.length = 0 := by
    rcases Nat.eq_zero_or_pos (i - sb.length) with e | e
    ·exact e
    ·rw [List.getElem?_eq_none (by simp; omega)] at hy; cases hy
   rw [e] at hy
   rw [← h.len, e] at hq
   cases hy; cases hq
   exact ⟨hp, hc⟩
 ·have cs : ∀ {a : Nat} {u : SB}, (sb ++ [x])[a]? = some u → (a < sb.length ∧ sb[a]? = some u) ∨ (a = sb.length ∧ u = x) := by
   intro a u hu
   rcases Nat.lt_or_ge a sb.length with ha | ha
   ·rw [List.getElem?_append_left ha] at hu; exact .inl ⟨ha, hu⟩
   ·rw [List.getElem?_append_right ha] at hu
    rcases Nat.eq_zero_or_pos (a - sb.length) with e | e
    ·rw [e] at hu; cases hu; exact .inr ⟨by omega, rfl⟩
    ·rw [List.getElem?_eq_none (by simp; omega)] at hu; cases hu
  rcases cs hy with ⟨a1, a2⟩ | ⟨a1, rfl⟩ <;> rcases cs hz with ⟨b1, b2⟩ | ⟨b1, rfl⟩
  ·exact h.dis i j y z a2 b2 hij
  ·have := old a2; exact ⟨by omega, fun k _ e => by rw [h3] at e; cases e⟩
  ·have := old b2; exact ⟨by omega, fun k e => by rw [h3] at e; cases e⟩
  ·omega
 ·rcases List.mem_append.1 hL with hL | hL
  ·exact h.ok L hL
  ·rw [List.mem_singleton.1 hL]; intro x hx; cases hx
theorem appRound {w1 v1 v2 v3 : World} {D s s2 k1 k2 : Nat} {pg sg : Option Nat} {cs : Array Value} {E1 E2 F1 F2 : List (List Value)} {row1 row2 : Obj} {pv sv PV SV : Value}
  (hb : Blk w1 D 140 cs) (hO1 : Owns w1 141 1 pv pg E1) (hO2 : Owns w1 144 1 sv sg E2)
  (ho1 : Owns v1 141 1 PV (some k1) F1) (hch1 : Chg (fun b => pg = some b) (w1.alloc row1) v1) (hk1 : pg = some k1 ∨ w1.heap.size ≤ k1)
  (st2 : StoreAt v2 s s2 none 0 []) (hs1 : v1.heap.size ≤ s) (hs2 : v1.heap.size ≤ s2) (c2 : Chg (fun _ => False) v1 v2)
  (ho3 : Owns v3 144 1 SV (some k2) F2) (hch3 : Chg (fun b => sg = some b) (v2.alloc row2) v3) (hk3 : sg = some k2 ∨ v2.heap.size ≤ k2) :
  Blk ((v3.setCell ⟨D, 7, none⟩ PV).setCell ⟨D, 8, none⟩ SV) D 140 ((cs.setIfInBounds 7 PV).setIfInBounds 8 SV) ∧ Owns ((v3.setCell ⟨D, 7, none⟩ PV).setCell ⟨D, 8, none⟩ SV) 141 1 PV (some k1) F1 ∧
   Owns ((v3.setCell ⟨D, 7, none⟩ PV).setCell ⟨D, 8, none⟩ SV) 144 1 SV (some k2) F2 ∧ StoreAt ((v3.setCell ⟨D, 7, none⟩ PV).setCell ⟨D, 8, none⟩ SV) s s2 none 0 [] ∧ w1.heap.size ≤ s ∧ w1.heap.size ≤ s2 ∧ (sg = some k2 ∨ w1.heap.size ≤ k2) ∧
   Chg (fun i => i = D ∨ pg = some i ∨ sg = some i) w1 ((v3.setCell ⟨D, 7, none⟩ PV).setCell ⟨D, 8, none⟩ SV) := by
 have n1 : ¬ pg = some D := fun e => by obtain ⟨_, h'⟩ := hO1.blk e; exact absurd (blk_typ h' hb) (by decide)
 have n2 : ¬ sg = some D := fun e => by obtain ⟨_, h'⟩ := hO2.blk e; exact absurd (blk_typ h' hb) (by decide)
 have z0 : w1.heap.size ≤ v1.heap.size := Nat.le_trans (by simp) hch1.size
 have z1 := c2.size
 have z2 : v2.heap.size ≤ v3.heap.size := Nat.le_trans (by simp) hch3.size
 have d1 := (hb.alloc row1).chg hch1 n1
 have d2 := d1.chg c2 id
 have d3 := (d2.alloc row2).chg hch3 n2
 have q1 := ((ho1.chg c2 (fun _ _ h => h)).alloc row2).chg hch3 (fun k hk e => by
  cases hk
  rcases hk1 with h | h
  ·obtain ⟨_, h'⟩ := hO1.blk h
   obtain ⟨_, h''⟩ := hO2.blk e
   exact absurd (blk_typ h' h'') (by decide)
  ·have := hO2.lt _ e; omega)
 have cD : Chg (fun i => i = D) v3 ((v3.setCell ⟨D, 7, none⟩ PV).setCell ⟨D, 8, none⟩ SV) := ((Chg.refl (fun i => i = D) v3).setCell (p := ⟨D, 7, none⟩) (fun _ => rfl) _).setCell (p := ⟨D, 8, none⟩) (fun _ => rfl) _
 have hDl := hb.lt
 refine ⟨(d3.set_ 7 PV).set_ 8 SV, q1.chg cD (fun k hk e => ?_), ho3.chg cD (fun k hk e => ?_), ?_, by omega, by omega, ?_, ?_⟩
 ·obtain ⟨_, h'⟩ := q1.blk hk
  rw [show k = D from e] at h'
  exact absurd (blk_typ h' d3) (by decide)
 ·obtain ⟨_, h'⟩ := ho3.blk hk
  rw [show k = D from e] at h'
  exact absurd (blk_typ h' d3) (by decide)
 ·refine (((st2.chg (chg0_alloc v2 row2) (fun h => h) (fun h => h) (fun _ _ h => h)).chg hch3 (fun e => ?_) (fun e => ?_) (fun k hk => by cases hk)).chg cD (fun e => ?_) (fun e => ?_) (fun k hk => by cases hk))
  ·have := hO2.lt _ e; omega
  ·have := hO2.lt _ e; omega
  ·have e' : s = D := e; omega
  ·have e' : s2 = D := e; omega
 ·rcases hk3 with h | h
  ·exact .inl h
  ·exact .inr (by omega)
 ·exact ((((chg0_alloc w1 row1).mono (S' := fun i => i = D ∨ pg = some i ∨ sg = some i) (fun _ _ h => h.elim)).trans (hch1.mono (fun _ _ h => .inr (.inl h)))).trans ((c2.mono (fun _ _ h => h.elim)).trans (((chg0_alloc v2 row2).mono (fun _ _ h => h.elim)).trans (hch3.mono (fun _ _ h => .inr (.inr h)))))).trans (cD.mono (fun _ _ h => .inl h))
theorem PsAt.nil (w : World) : PsAt w [] [] := ⟨rfl, fun i x p h => by simp at h, fun i j x y h => by simp at h⟩
theorem SsAt.nil (N : Nat) (w : World) : SsAt N w [] [] := ⟨rfl, fun i x p h => by simp at h, fun i j x y h => by simp at h, fun L h => by cases h⟩
theorem DPart.round {w w1 X w8 : World} {b j pb pk k1 k2 s s2 : Nat} {c : Cfg} {k : Clk} {h : Int} {B : DB} {PV SV : Value} {Q' : List (Ent Int)}
  (p : DPart w b c k h j B) (c1 : Chg (fun _ => False) w w1) (hp : PeerAt w1 pb pk (Pr.new c h)) (hpb : w.heap.size ≤ pb) (hpk : w.heap.size ≤ pk)
  (a1 : Blk X b 140 (dmc (dm0 c k h j) { B with pv := PV, sv := SV })) (a2 : Owns X 141 1 PV (some k1) ((B.pb.map fun x => [.pointer (some ⟨x.1, 0, none⟩)]) ++ [[.pointer (some ⟨pb, 0, none⟩)]]))
  (a3 : Owns X 144 1 SV (some k2) ((B.sb.map fun x => [.pointer (some ⟨x.s, 0, none⟩)]) ++ [[.pointer (some ⟨s, 0, none⟩)]])) (a4 : StoreAt X s s2 none 0 []) (a5 : w1.heap.size ≤ s) (a6 : w1.heap.size ≤ s2)
  (a8 : Chg (fun i => i = b ∨ B.pg = some i ∨ B.sg = some i) w1 X) (q8 : QI w8 B.qb B.qm (B.qn + 1) Q') (c8 : Chg (fun i => i = B.qb ∨ i = B.qm) X w8) (hq : ∀ e ∈ Q', ∃ i : Nat, i < j + 1 ∧ e.k = (i : Int)) :
  DPart w8 b c k h (j + 1) { B with pv := PV, pg := some k1, sv := SV, sg := some k2, pb := B.pb ++ [(pb, pk)], sb := B.sb ++ [⟨s, s2, none, 0⟩], qn := j + 1, Q := Q' } := by
 have cA : Chg (fun i => (i = b ∨ B.pg = some i ∨ B.sg = some i) ∨ (i = B.qb ∨ i = B.qm)) w w8 := ((c1.mono (fun _ _ h => h.elim)).trans (a8.mono (fun _ _ h => .inl h))).trans (c8.mono (fun _ _ h => .inr h))
 have cB : Chg (fun i => (i = b ∨ B.pg = some i ∨ B.sg = some i) ∨ (i = B.qb ∨ i = B.qm)) w1 w8 := (a8.mono (fun _ _ h => .inl h)).trans (c8.mono (fun _ _ h => .inr h))
 have ltq := p.q.lt
 have ltb := p.box.lt
 have ltp := p.psl.lt
 have lts := p.ssl.lt
 have qmap : ∀ {t cs}, ¬ Blk w B.qm t cs := fun hb => by
  obtain ⟨D, ⟨es, clock, hm, _⟩, _⟩ := p.q.own
  unfold Blk at hb
  rw [hm] at hb; cases hb
 have z0 := c1.size
 have z1 := a8.size
 have nf : ∀ {i : Nat} {t : TypeId} {cs : Array Value}, Blk w i t cs → t ≠ 140 → t ≠ 141 → t ≠ 144 → t ≠ 207 → ¬ ((i = b ∨ B.pg = some i ∨ B.sg = some i) ∨ (i = B.qb ∨ i = B.qm)) := by
  rintro i t cs hb h1 h2 h3 h4 ((e | e | e) | (e | e))
  ·subst e; exact h1 (blk_typ hb p.box)
  ·obtain ⟨_, h'⟩ := p.psl.blk e; exact h2 (blk_typ hb h')
  ·obtain ⟨_, h'⟩ := p.ssl.blk e; exact h3 (blk_typ hb h')
  ·subst e; exact h4 (blk_typ hb p.q.box)
  ·subst e; exact qmap hb
 have nq : ∀ {i : Nat} {t : TypeId} {cs : Array Value}, Blk X i t cs → t ≠ 207 → ¬ (i = B.qb ∨ i = B.qm) := by
  have nb : ∀ {t : TypeId} {cs : Array Value}, Blk w B.qb t cs → t ≠ 207 → False := fun hb h4 => h4 (blk_typ hb p.q.box)
  have cX : Chg (fun i => i = b ∨ B.pg = some i ∨ B.sg = some i) w X := (c1.mono (fun _ _ h => h.elim)).trans a8
  have n1 : ¬ (B.qb = b ∨ B.pg = some B.qb ∨ B.sg = some B.qb) := by
   rintro (e | e | e)
   ·have := p.q.box; rw [e] at this; exact absurd (blk_typ this p.box) (by decide)
   ·obtain ⟨_, h'⟩ := p.psl.blk e; exact absurd (blk_typ h' p.q.box) (by decide)
   ·obtain ⟨_, h'⟩ := p.ssl.blk e; exact absurd (blk_typ h' p.q.box) (by decide)
  have n2 : ¬ (B.qm = b ∨ B.pg = some B.qm ∨ B.sg = some B.qm) := by
   rintro (e | e | e)
   ·have := p.box; rw [← e] at this; exact qmap this
   ·obtain ⟨_, h'⟩ := p.psl.blk e; exact qmap h'
   ·obtain ⟨_, h'⟩ := p.ssl.blk e; exact qmap h'
  have qX := p.q.chg cX n1 n2
  rintro i t cs hb h4 (e | e)
  ·subst e; exact h4 (blk_typ hb qX.box)
  ·subst e
   obtain ⟨D, ⟨es, clock, hm, _⟩, _⟩ := qX.own
   unfold Blk at hb
   rw [hm] at hb; cases hb
 have hS : ∀ {i : Nat}, w.heap.size ≤ i → ¬ ((i = b ∨ B.pg = some i ∨ B.sg = some i) ∨ (i = B.qb ∨ i = B.qm)) := by
  rintro i hi ((e | e | e) | (e | e))
  ·omega
  ·have := ltp _ e; omega
  ·have := lts _ e; omega
  ·omega
  ·omega
 exact {
  box := a1.chg c8 (nq a1 (by decide))
  srv := p.srv.chg cA (fun k hk => by obtain ⟨_, h'⟩ := p.srv.blk hk; exact nf h' (by decide) (by decide) (by decide) (by decide))
  clk := p.clk.chg cA (nf p.clk (by decide) (by decide) (by decide) (by decide))
  psl := by
   have := a2.chg c8 (fun k hk => by obtain ⟨_, h'⟩ := a2.blk hk; exact nq h' (by decide))
   simpa using this
  ps := by
   rw [List.replicate_succ']
   refine p.ps.snoc cA (fun i hi => ?_) (hp.chg cB (hS hpb) (hS hpk)) hpb hpk
   rcases p.ps.typ hi with ⟨_, h'⟩ | ⟨_, h'⟩
   ·exact nf h' (by decide) (by decide) (by decide) (by decide)
   ·exact nf h' (by decide) (by decide) (by decide) (by decide)
  ssl := by
   have := a3.chg c8 (fun k hk => by obtain ⟨_, h'⟩ := a3.blk hk; exact nq h' (by decide))
   simpa using this
  ss := by
   rw [List.replicate_succ']
   refine p.ss.snoc (x := ⟨s, s2, none, 0⟩) cA (fun i hi => ?_) (a4.chg c8 ?_ ?_ (fun k hk => by cases hk)) (Nat.le_refl _) (by show w.heap.size ≤ s2; omega) rfl
   ·rcases p.ss.typ hi with ⟨_, h'⟩ | ⟨_, h'⟩ | ⟨_, h'⟩
    ·exact nf h' (by decide) (by decide) (by decide) (by decide)
    ·exact nf h' (by decide) (by decide) (by decide) (by decide)
    ·exact nf h' (by decide) (by decide) (by decide) (by decide)
   ·rintro (e | e)
    ·have e' : s = B.qb := e; omega
    ·have e' : s = B.qm := e; omega
   ·rintro (e | e)
    ·have e' : s2 = B.qb := e; omega
    ·have e' : s2 = B.qm := e; omega
  q := by
   have := q8
   rw [p.qn] at this
   exact this
  qn := rfl
  qk := hq
  cnt := p.cnt.chg cA (nf p.cnt (by decide) (by decide) (by decide) (by decide))
  vv := p.vv }
theorem parseI_ok {t : List UInt8} (h : (parseI t).2.2 = 0) : (parseI t).1.Ok := by
 unfold parseI at h ⊢
 split
 ·rename_i h1; rw [if_pos h1] at h; exact absurd h h1
 ·rename_i h1
  rw [if_neg h1] at h
  split
  ·rename_i h2; rw [if_pos h2] at h; exact absurd h h2
  ·rename_i h2
   rw [if_neg h2] at h
   split
   ·rename_i h3; rw [if_pos h3] at h; cases h
   ·rename_i h3
    rw [if_neg h3] at h
    split
    ·rename_i h4; rw [if_pos h4] at h; exact absurd h h4
    ·rename_i h4; exact Cfg.ok_of (Classical.byContradiction h4)
end
end Go.Proofs.YtamhicdhbjniiaaGreatDoor
