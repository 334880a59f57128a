/- world.Do: laws of its memory, and of what it does. world.send: laws. -/
import Derived.Test.YtamhicdhbjniiaaGreatDoorM38
import Derived.Test.YtamhicdhbjniiaaGreatDoorM08
set_option linter.unusedVariables false
namespace Go.Proofs.YtamhicdhbjniiaaGreatDoor
section
open Go Go.RowKit Go.Chron
theorem WAt.redo {N b : Nat} {W : Wm} {B : WB} {w X : World} {g' : Gh} {UV : Value} {M' : List MA} (h : WAt N w b W B) (a1 : Blk X b 113 (wmc W { B with uv := UV })) (ag : Blk X B.gb 174 (ghc g')) (ok : g'.Ok) (hh : W.d.h ≤ g'.h)
  (a2 : OwnsF X 118 4 UV B.ug (M'.map mac)) (hM : ∀ x ∈ M', x ∈ B.M) (c : Chg (fun i => i = b ∨ i = B.gb ∨ B.ug = some i) w X) : WAt N X b { W with g := g', under := M'.map (·.a) } { B with uv := UV, M := M' } := by
 have nf : ∀ {i : Nat} {t : TypeId} {cs : Array Value}, Blk w i t cs → t ≠ 113 → t ≠ 118 → t ≠ 174 → ¬ (i = b ∨ i = B.gb ∨ B.ug = some i) := by
  rintro i t cs hb h1 h2 h3 (e | e | e)
  ·subst e; exact h1 (blk_typ hb h.box)
  ·subst e; exact h3 (blk_typ hb h.g)
  ·obtain ⟨_, h'⟩ := h.und.blk e; exact h2 (blk_typ hb h')
 obtain ⟨D, hD⟩ := h.came
 have nm : ¬ (B.mb = b ∨ B.mb = B.gb ∨ B.ug = some B.mb) := by
  obtain ⟨es, clock, hm, _⟩ := hD
  have nn : ∀ {t cs}, ¬ Blk w B.mb t cs := fun hb => by
   unfold Blk at hb
   rw [hm] at hb; cases hb
  rintro (e | e | e)
  ·have := h.box; rw [← e] at this; exact nn this
  ·have := h.g; rw [← e] at this; exact nn this
  ·obtain ⟨_, h'⟩ := h.und.blk e; exact nn h'
 have nd : ∀ i, DBk B.db B.D i → ¬ (i = b ∨ i = B.gb ∨ B.ug = some i) := fun i hi e => by
  rcases e with e | e | e
  ·exact h.dis i (.inl e) hi
  ·exact h.dis i (.inr (.inl e)) hi
  ·exact h.dis i (by unfold WBk; simp [e]) hi
 exact {
  box := a1
  d := h.d.chg c nd
  g := ag
  gok := ok
  srv := h.srv.chg c (fun k hk => by obtain ⟨_, h'⟩ := h.srv.blk hk; exact nf h' (by decide) (by decide) (by decide))
  way := h.way.chg c (fun k hk => by obtain ⟨_, h'⟩ := h.way.blk hk; exact nf h' (by decide) (by decide) (by decide))
  wok := h.wok
  wl := h.wl
  und := a2
  mok := fun y hy => (h.mok y (hM y hy)).chg c (by obtain ⟨_, h'⟩ := (h.mok y (hM y hy)).blk; exact nf h' (by decide) (by decide) (by decide))
  mu := rfl
  came := ⟨D, ownsMap_chg hD c nm⟩
  mn := h.mn
  log := h.log.chg c (fun k hk => by obtain ⟨_, h'⟩ := h.log.blk hk; exact nf h' (by decide) (by decide) (by decide))
  lok := fun y hy => (h.lok y hy).chg c (fun k hk => by obtain ⟨_, h'⟩ := (h.lok y hy).o.blk hk; exact nf h' (by decide) (by decide) (by decide))
  ll := h.ll
  ln := h.ln
  sent := h.sent
  h := hh
  dis := by
   rintro i hi hd
   unfold WBk at hi
   simp only at hi
   rcases hi with hi | hi | hi | hi | hi | ⟨y, hy, hi⟩ | hi | hi | hi
   ·exact h.dis i (.inl hi) hd
   ·exact h.dis i (.inr (.inl hi)) hd
   ·exact h.dis i (by unfold WBk; simp [hi]) hd
   ·exact h.dis i (by unfold WBk; simp [hi]) hd
   ·exact h.dis i (by unfold WBk; simp [hi]) hd
   ·exact h.dis i (.inr (.inr (.inr (.inr (.inr (.inl ⟨y, hM y hy, hi⟩)))))) hd
   ·exact h.dis i (by unfold WBk; simp [hi]) hd
   ·exact h.dis i (by unfold WBk; simp [hi]) hd
   ·exact h.dis i (.inr (.inr (.inr (.inr (.inr (.inr (.inr (.inr hi)))))))) hd
  apart := fun k hk y hy => h.apart k hk y (hM y hy) }
def lenAt (w : World) (b : Nat) : Nat := match w.cell? ⟨b, 4, none⟩ with | some (.slice _ n _) => n | _ => 0
theorem come_under (V : Wm) (u : List Ans) (a : Ans) : ({ V with under := u } : Wm).come a = { V.come a with under := u } := by
 unfold Wm.come
 simp only
 split <;> rfl
theorem come_keeps (V : Wm) (a : Ans) : (V.come a).under = V.under ∧ (V.come a).g = V.g ∧ (V.come a).ways = V.ways ∧ (V.come a).sent = V.sent ∧ (V.come a).d.cfg = V.d.cfg := by
 have := (doData_cfg V.d V.g.h (V.d.cfg.servers.getD a.srv 0) a.data).1
 unfold Wm.come
 simp only
 split <;> exact ⟨rfl, rfl, rfl, rfl, this⟩
theorem foldl_come_keeps : ∀ (us : List Ans) (V : Wm), (us.foldl Wm.come V).under = V.under ∧ (us.foldl Wm.come V).g = V.g ∧ (us.foldl Wm.come V).ways = V.ways ∧ (us.foldl Wm.come V).sent = V.sent ∧ (us.foldl Wm.come V).d.cfg = V.d.cfg
 | [], V => ⟨rfl, rfl, rfl, rfl, rfl⟩
 | a :: us, V => by
  obtain ⟨h1, h2, h3, h4, h5⟩ := foldl_come_keeps us (V.come a)
  obtain ⟨g1, g2, g3, g4, g5⟩ := come_keeps V a
  exact ⟨h1.trans g1, h2.trans g2, h3.trans g3, h4.trans g4, h5.trans g5⟩
theorem WAt.lenAt {N b : Nat} {W : Wm} {B : WB} {w : World} (h : WAt N w b W B) : lenAt w b = W.under.length := by
 have q := h.box.cell 4
 simp [wmc] at q
 obtain ⟨a, cap, hv, _⟩ := h.und.form
 rw [hv] at q
 unfold Go.Proofs.YtamhicdhbjniiaaGreatDoor.lenAt
 rw [q, ← h.mu, List.length_map, List.length_map]
theorem DAt.far5 {N b : Nat} {d : Dm} {B : DB} {w : World} (h : DAt N w b d B) {i : Nat} {t : TypeId} {cs : Array Value} (hi : DBk b B i) (hb : Blk w i t cs) (ht : t = 80 ∨ t = 5) : False := by
 rcases hi with rfl | rfl | rfl | rfl | rfl | hi | hi | hi | hi | hi | hi
 ·rcases ht with rfl | rfl <;> exact absurd (blk_typ hb h.box) (by decide)
 ·rcases ht with rfl | rfl <;> exact absurd (blk_typ hb h.clk) (by decide)
 ·rcases ht with rfl | rfl <;> exact absurd (blk_typ hb h.q.box) (by decide)
 ·obtain ⟨D, ⟨es, clock, hm, _⟩, _⟩ := h.q.own
  unfold Blk at hb
  rw [hm] at hb; cases hb
 ·rcases ht with rfl | rfl <;> exact absurd (blk_typ hb h.cnt) (by decide)
 ·obtain ⟨_, h'⟩ := h.srv.blk hi; rcases ht with rfl | rfl <;> exact absurd (blk_typ hb h') (by decide)
 ·obtain ⟨_, h'⟩ := h.psl.blk hi; rcases ht with rfl | rfl <;> exact absurd (blk_typ hb h') (by decide)
 ·obtain ⟨_, h'⟩ := h.ssl.blk hi; rcases ht with rfl | rfl <;> exact absurd (blk_typ hb h') (by decide)
 ·obtain ⟨_, h'⟩ := h.vot.blk hi; rcases ht with rfl | rfl <;> exact absurd (blk_typ hb h') (by decide)
 ·exact h.ps.far hb (by rcases ht with rfl | rfl <;> decide) (by rcases ht with rfl | rfl <;> decide) hi
 ·exact h.ss.far hb (by rcases ht with rfl | rfl <;> decide) (by rcases ht with rfl | rfl <;> decide) (by rcases ht with rfl | rfl <;> decide) hi
theorem WAt.far5 {N b : Nat} {W : Wm} {B : WB} {w : World} (h : WAt N w b W B) (hM : B.M = []) {i : Nat} {t : TypeId} {cs : Array Value} (hi : WAll b B i) (hb : Blk w i t cs) (ht : t = 80 ∨ t = 5) : False := by
 rcases hi with (rfl | rfl | hi | hi | hi | ⟨x, hx, rfl⟩ | rfl | hi | ⟨x, hx, hi⟩) | hi
 ·rcases ht with rfl | rfl <;> exact absurd (blk_typ hb h.box) (by decide)
 ·rcases ht with rfl | rfl <;> exact absurd (blk_typ hb h.g) (by decide)
 ·obtain ⟨_, h'⟩ := h.srv.blk hi; rcases ht with rfl | rfl <;> exact absurd (blk_typ hb h') (by decide)
 ·obtain ⟨_, h'⟩ := h.way.blk hi; rcases ht with rfl | rfl <;> exact absurd (blk_typ hb h') (by decide)
 ·obtain ⟨_, h'⟩ := h.und.blk hi; rcases ht with rfl | rfl <;> exact absurd (blk_typ hb h') (by decide)
 ·rw [hM] at hx; cases hx
 ·obtain ⟨D, ⟨es, clock, hm, _⟩⟩ := h.came
  unfold Blk at hb
  rw [hm] at hb; cases hb
 ·obtain ⟨_, h'⟩ := h.log.blk hi; rcases ht with rfl | rfl <;> exact absurd (blk_typ hb h') (by decide)
 ·obtain ⟨_, h'⟩ := (h.lok x hx).o.blk hi; rcases ht with rfl | rfl <;> exact absurd (blk_typ hb h') (by decide)
 ·exact h.d.far5 hi hb ht
theorem idx_mem : ∀ (zs : List Int) (x : Int) (i : Nat), x ∈ zs → ∃ k, k < zs.length ∧ Lib.idxFrom zs x i = ((i + k : Nat) : Int)
 | [], _, _, h => by cases h
 | z :: zs, x, i, h => by
  unfold Lib.idxFrom
  by_cases hz : z = x
  ·rw [if_pos hz]
   exact ⟨0, by simp, by simp⟩
  ·rw [if_neg hz]
   rcases List.mem_cons.1 h with e | h'
   ·exact absurd e.symm hz
   ·obtain ⟨k, hk, he⟩ := idx_mem zs x (i + 1) h'
    exact ⟨k + 1, by simp; omega, by rw [he]; congr 1; omega⟩
theorem sends_of (d : Dm) (h dr : Int) : ∀ s ∈ (d.doTick h dr).2, s.2 = bytes4 3 0 0 0 (d.drawn dr) ∧ ∃ si : Nat, si < d.cfg.servers.length ∧ Lib.idxOf d.cfg.servers s.1 = (si : Int) := by
 intro s hs
 have hs' : s ∈ (d.cfg.servers.zip (d.ps.map (·.late h))).flatMap (Dm.askS h (d.drawn dr)) := hs
 obtain ⟨x, hx, hxs⟩ := List.mem_flatMap.1 hs'
 unfold Dm.askS at hxs
 split at hxs
 ·rw [List.mem_singleton.1 hxs]
  obtain ⟨k, hk, he⟩ := idx_mem d.cfg.servers x.1 0 (List.of_mem_zip hx).1
  exact ⟨rfl, k, hk, by unfold Lib.idxOf; rw [he]; simp⟩
 ·cases hxs
theorem sends_len (d : Dm) (h dr : Int) : (d.doTick h dr).2.length ≤ d.cfg.servers.length := by
 have : ∀ l : List (Int × Pr), (l.flatMap (Dm.askS h (d.drawn dr))).length ≤ l.length := by
  intro l
  induction l with
  | nil => simp
  | cons x l ih =>
   rw [List.flatMap_cons, List.length_append, List.length_cons]
   have : (Dm.askS h (d.drawn dr) x).length ≤ 1 := by unfold Dm.askS; split <;> simp
   omega
 refine Nat.le_trans (this (d.cfg.servers.zip (d.ps.map (·.late h)))) ?_
 rw [List.length_zip]
 exact Nat.min_le_left _ _
def KM : Ky MA := ⟨(·.a.at_), (·.a.sent), (·.a.srv), (·.k), (·.a.data.length), (·.cap)⟩
end
end Go.Proofs.YtamhicdhbjniiaaGreatDoor
section
namespace Go.Chron
open Go Go.RowKit
section
variable {P : Program} {w : World} {ops : Array Oper} {o : Oper} {a : Act} {Q : Exit → Act → World → Prop}
theorem step_appF {K : Act → World → Prop} {E : Prop} (hgd : o.guard = none) (s x : Operand) (t : TypeId)
  (ho : o.op = .call { callee := .builtin .append, args := #[s, x], argTypes := #[t, t] })
  (e : TypeId) (i : TypeInfo) (z : Value) (sz bytes : Nat) (ht : P.underlying t = some (.slice e)) (hi : P.info? e = some i) (hz : i.zero = some z)
  (hsize : i.size = sz) (hby : i.bytes = bytes) (hzs : z.cells.size = sz) (hsz : 0 < sz)
  (v : Value) (g : Option Nat) (els : List (List Value)) (hs : a.eval s = v) (hown : OwnsF w e sz v g els)
  (tb : Nat) (tt : TypeId) (news : List (List Value)) (m c : Nat) (hx : a.eval x = .slice (some ⟨tb, 0, none⟩) m c) (hm : m = news.length) (hb : Blk w tb tt news.flatten.toArray)
  (hne : ∀ y ∈ news, y.length = sz) (h1 : ∀ u ∈ news.flatten, u.oneCell' = true) (hpos : 0 < news.length)
  (hbytes : (els.length + news.length) * bytes ≤ 140737488355328) (h63 : els.length + news.length ≤ maxLen)
  (h : ∀ k off cap w', OwnsF w' e sz (.slice (some ⟨k, off, none⟩) (els.length + news.length) cap) (some k) (els ++ news) → Chg (fun b => g = some b) w w' → (g = some k ∨ w.heap.size ≤ k) →
   K (a.put o.dst (.slice (some ⟨k, off, none⟩) (els.length + news.length) cap)) w') :
  if Region.wanted o (yielded ops a.tmps) = true then Oper.wp P o a w K Q else E := by
 subst hm
 have hw : Region.wanted o (yielded ops a.tmps) = true := by simp [Region.wanted, hgd]
 rw [if_pos hw]
 obtain ⟨k, off, cap, w', hr, h2, h3, h4⟩ := run_appF (P := P) (w := w) t o.type e i z sz bytes ht hi hz hsize hby hzs hsz hown ⟨tb, 0, none⟩ news c (fun j u hu => by rw [Addr.add_lit, hb.cell]; simpa using hu) hne h1 hpos hbytes h63
 unfold Oper.wp execOp
 simp only [ho, resolve, invoke, builtin, Sem.run_bind, Sem.run_pure, Result.andThen_ok, List.map_toArray, List.map_cons, List.map_nil, hs, hx, hr]
 exact h k off cap w' h2 h3 h4
end
end Go.Chron
namespace Go.Proofs.YtamhicdhbjniiaaGreatDoor
open Go Go.RowKit Go.Chron
theorem WAt.sent1 {N b : Nat} {W : Wm} {B : WB} {w X : World} {s : Int} (h : WAt N w b W B) (a1 : Blk X b 113 (wmc { W with sent := s } B)) (c : Chg (fun i => i = b) w X) (hs : 0 ≤ s ∧ s ≤ 16 * (N : Int)) : WAt N X b { W with sent := s } B := by
 have nf : ∀ {i : Nat} {t : TypeId} {cs : Array Value}, Blk w i t cs → t ≠ 113 → ¬ i = b := by
  rintro i t cs hb h1 e
  subst e; exact h1 (blk_typ hb h.box)
 obtain ⟨D, hD⟩ := h.came
 have nm : ¬ B.mb = b := fun e => by
  obtain ⟨es, clock, hm, _⟩ := hD
  have hb := h.box
  unfold Blk at hb
  rw [← e, hm] at hb; cases hb
 exact {
  box := a1
  d := h.d.chg c (fun i hi e => h.dis i (.inl e) hi)
  g := h.g.chg c (nf h.g (by decide))
  gok := h.gok
  srv := h.srv.chg c (fun k hk => by obtain ⟨_, h'⟩ := h.srv.blk hk; exact nf h' (by decide))
  way := h.way.chg c (fun k hk => by obtain ⟨_, h'⟩ := h.way.blk hk; exact nf h' (by decide))
  wok := h.wok
  wl := h.wl
  und := h.und.chg c (fun k hk => by obtain ⟨_, h'⟩ := h.und.blk hk; exact nf h' (by decide))
  mok := fun y hy => (h.mok y hy).chg c (by obtain ⟨_, h'⟩ := (h.mok y hy).blk; exact nf h' (by decide))
  mu := h.mu
  came := ⟨D, ownsMap_chg hD c nm⟩
  mn := h.mn
  log := h.log.chg c (fun k hk => by obtain ⟨_, h'⟩ := h.log.blk hk; exact nf h' (by decide))
  lok := fun y hy => (h.lok y hy).chg c (fun k hk => by obtain ⟨_, h'⟩ := (h.lok y hy).o.blk hk; exact nf h' (by decide))
  ll := h.ll
  ln := h.ln
  sent := hs
  h := h.h
  dis := h.dis
  apart := h.apart }
theorem WAt.under1 {N b k1 : Nat} {W : Wm} {B : WB} {w X : World} {UV : Value} {x : MA} (h : WAt N w b W B) (hx : x.Ok W.d.cfg.servers.length X) (hxn : ¬ DBk B.db B.D x.k) (hxk : k1 ≠ x.k) (hxu : B.ug ≠ some x.k) (hk : B.ug = some k1 ∨ w.heap.size ≤ k1)
  (a1 : Blk X b 113 (wmc W { B with uv := UV })) (a2 : OwnsF X 118 4 UV (some k1) (B.M.map mac ++ [mac x])) (c : Chg (fun i => i = b ∨ B.ug = some i) w X) : WAt N X b { W with under := W.under ++ [x.a] } { B with uv := UV, ug := some k1, M := B.M ++ [x] } := by
 have nf : ∀ {i : Nat} {t : TypeId} {cs : Array Value}, Blk w i t cs → t ≠ 113 → t ≠ 118 → ¬ (i = b ∨ B.ug = some i) := by
  rintro i t cs hb h1 h2 (e | e)
  ·subst e; exact h1 (blk_typ hb h.box)
  ·obtain ⟨_, h'⟩ := h.und.blk e; exact h2 (blk_typ hb h')
 obtain ⟨D, hD⟩ := h.came
 have nm : ¬ (B.mb = b ∨ B.ug = some B.mb) := by
  obtain ⟨es, clock, hm, _⟩ := hD
  have nn : ∀ {t cs}, ¬ Blk w B.mb t cs := fun hb => by
   unfold Blk at hb
   rw [hm] at hb; cases hb
  rintro (e | e)
  ·have := h.box; rw [← e] at this; exact nn this
  ·obtain ⟨_, h'⟩ := h.und.blk e; exact nn h'
 have nd : ∀ i, DBk B.db B.D i → ¬ (i = b ∨ B.ug = some i) := fun i hi e => by
  rcases e with e | e
  ·exact h.dis i (.inl e) hi
  ·exact h.dis i (by unfold WBk; simp [e]) hi
 exact {
  box := a1
  d := h.d.chg c nd
  g := h.g.chg c (nf h.g (by decide) (by decide))
  gok := h.gok
  srv := h.srv.chg c (fun k hk => by obtain ⟨_, h'⟩ := h.srv.blk hk; exact nf h' (by decide) (by decide))
  way := h.way.chg c (fun k hk => by obtain ⟨_, h'⟩ := h.way.blk hk; exact nf h' (by decide) (by decide))
  wok := h.wok
  wl := h.wl
  und := by simpa using a2
  mok := fun y hy => by
   rcases List.mem_append.1 hy with hy | hy
   ·exact (h.mok y hy).chg c (by obtain ⟨_, h'⟩ := (h.mok y hy).blk; exact nf h' (by decide) (by decide))
   ·rw [List.mem_singleton.1 hy]; exact hx
  mu := by
   show (B.M ++ [x]).map _ = W.under ++ _
   rw [List.map_append, h.mu]
   rfl
  came := ⟨D, ownsMap_chg hD c nm⟩
  mn := h.mn
  log := h.log.chg c (fun k hk => by obtain ⟨_, h'⟩ := h.log.blk hk; exact nf h' (by decide) (by decide))
  lok := fun y hy => (h.lok y hy).chg c (fun k hk => by obtain ⟨_, h'⟩ := (h.lok y hy).o.blk hk; exact nf h' (by decide) (by decide))
  ll := h.ll
  ln := h.ln
  sent := h.sent
  h := h.h
  dis := by
   rintro i hi hd
   unfold WBk at hi
   simp only at hi
   rcases hi with hi | hi | hi | hi | hi | ⟨y, hy, hi⟩ | hi | hi | hi
   ·exact h.dis i (.inl hi) hd
   ·exact h.dis i (.inr (.inl hi)) hd
   ·exact h.dis i (by unfold WBk; simp [hi]) hd
   ·exact h.dis i (by unfold WBk; simp [hi]) hd
   ·cases hi
    rcases hk with e | e
    ·exact h.dis _ (by unfold WBk; simp [e]) hd
    ·have := h.d.lt hd; omega
   ·rcases List.mem_append.1 hy with hy | hy
    ·exact h.dis i (.inr (.inr (.inr (.inr (.inr (.inl ⟨y, hy, hi⟩)))))) hd
    ·rw [List.mem_singleton.1 hy] at hi
     rw [hi] at hxn
     exact hxn hd
   ·exact h.dis i (by unfold WBk; simp [hi]) hd
   ·exact h.dis i (by unfold WBk; simp [hi]) hd
   ·exact h.dis i (.inr (.inr (.inr (.inr (.inr (.inr (.inr (.inr hi)))))))) hd
  apart := by
   intro k hk' y hy
   cases hk'
   rcases List.mem_append.1 hy with hy | hy
   ·rcases hk with e | e
    ·exact h.apart _ e y hy
    ·obtain ⟨_, h'⟩ := (h.mok y hy).blk
     have := h'.lt
     omega
   ·rw [List.mem_singleton.1 hy]
    exact fun e => hxk e.symm }
end Go.Proofs.YtamhicdhbjniiaaGreatDoor
end
