/- daemon.datagram: contract. daemon.Do: contract. daemon.Do at a tick, at a datagram, and where it may not be. -/
import Derived.Test.YtamhicdhbjniiaaGreatDoorM34
import Derived.Test.YtamhicdhbjniiaaGreatDoorM09
set_option linter.unusedVariables false
set_option maxHeartbeats 6400000
set_option maxRecDepth 100000
namespace Go.Proofs.YtamhicdhbjniiaaGreatDoor
section
open Go Go.RowKit Go.Chron
def Dm.count (d : Dm) (y : Int) : Dm := { d with cnt := cntAdd d.cnt y.toNat }
theorem DAt.recount {N : Nat} {w w' : World} {b : Nat} {d : Dm} {B : DB} (h : DAt N w b d B) (c : Chg (fun i => i = B.cb) w w') {cs : List Int} (hb : Blk w' B.cb 211 (cntc cs)) (hl : cs.length = 13) (hc : ∀ z ∈ cs, 0 ≤ z ∧ z ≤ (N + 1 : Nat)) : DAt (N + 1) w' b { d with cnt := cs } B := by
 have far : ∀ {i : Nat} {t : TypeId} {cs : Array Value}, Blk w i t cs → t ≠ 211 → ¬ i = B.cb := fun hi ht e => by subst e; exact ht (blk_typ hi h.cnt)
 have farO : ∀ {e : TypeId} {sz : Nat} {v : Value} {g : Option Nat} {els : List (List Value)}, Owns w e sz v g els → e ≠ 211 → ∀ k, g = some k → ¬ k = B.cb := fun ho ht k hk e => by
  obtain ⟨cs, hcs⟩ := ho.blk hk
  exact far hcs ht e
 refine ⟨h.box.chg c (far h.box (by decide)), h.srv.chg c (farO h.srv (by decide)), h.clk.chg c (far h.clk (by decide)), h.psl.chg c (farO h.psl (by decide)), ?_, h.ssl.chg c (farO h.ssl (by decide)), ?_, ?_, by have := h.qn; omega, h.qk, hb, h.vot.chg c (farO h.vot (by decide)), ?_⟩
 ·exact h.ps.chg c (fun i hi e => h.ps.far h.cnt (by decide) (by decide) (by rw [← show i = B.cb from e]; exact hi))
 ·exact (h.ss.chg c (fun i hi e => h.ss.far h.cnt (by decide) (by decide) (by decide) (by rw [← show i = B.cb from e]; exact hi))).up (Nat.le_succ N)
 ·refine h.q.chg c (far h.q.box (by decide)) (fun e => ?_)
  obtain ⟨D, ⟨es, clock, hm, _⟩, _⟩ := h.q.own
  have h1 := h.cnt
  unfold Blk at h1
  rw [← show B.qm = B.cb from e, hm] at h1; cases h1
 ·obtain ⟨o1, o2, o3, o4, o5, o6, o7, o8, o9, o10, o11, o12, o13⟩ := h.ok
  exact ⟨o1, o2, o3, o4, hl, hc, o7, o8, o9, o10, ⟨o11.1, by have := o11.2; show d.chosen ≤ _; omega⟩, o12, o13⟩
theorem cntAdd_in {cs : List Int} {N : Nat} (h : ∀ z ∈ cs, 0 ≤ z ∧ z ≤ (N : Int)) (i : Nat) : ∀ z ∈ cntAdd cs i, 0 ≤ z ∧ z ≤ ((N + 1 : Nat) : Int) := by
 intro z hz
 unfold cntAdd at hz
 rcases List.mem_or_eq_of_mem_set hz with hz | rfl
 ·have := h z hz; omega
 ·rw [List.getD_eq_getElem?_getD]
  cases hg : cs[i]? with
  | none => simp; omega
  | some x =>
   have := h x (List.mem_of_getElem? hg)
   simp
   omega
theorem saneOf_in (p : Pkt) (c : Int) : 0 ≤ saneOf p c ∧ saneOf p c ≤ 11 := by unfold saneOf; repeat' split <;> omega
theorem come_in (d : Dm) (i : Nat) (h : Int) (L : List Int) : 0 ≤ (d.come i h L).2 ∧ (d.come i h L).2 < 13 := by
 unfold Dm.come
 simp only
 split
 ·simp
 ·unfold Pr.answer
  split
  ·simp
  ·split
   ·simp
   ·simp only
    split
    ·simp
    ·split
     ·have h2 : 0 ≤ (lookOf L (d.ps.getD i (Pr.new d.cfg 0)).cookie).2 ∧ (lookOf L (d.ps.getD i (Pr.new d.cfg 0)).cookie).2 ≤ 11 := by
       unfold lookOf
       split
       ·simp
       ·exact saneOf_in _ _
      simp only
      omega
     ·split <;> simp
theorem hear_in (d : Dm) (h addr : Int) (L : List Int) : 0 ≤ (d.hear h addr L).2 ∧ (d.hear h addr L).2 < 13 := by
 unfold Dm.hear
 split
 ·simp
 ·simp only
  split
  ·simp
  ·exact come_in d _ h L
theorem hear91 (N : Nat) (b : Nat) (d : Dm) (B : DB) (w : World) (hd : DAt N w b d B) (hN : N ≤ 187000) (kind h addr draw : Int) (a : Option Addr) (n cap : Nat) (L : List Int) (h0 : d.h = h) (h1 : h ≤ 4611686018427387903)
  (hn : n = L.length) (hc : n ≤ cap) (hcm : cap ≤ 9223372036854775807) (hL : ∀ x ∈ L, 0 ≤ x ∧ x < 256) (hR : Reads w 1 a (L.map u8c)) :
  Calls Tryz.prog 91 #[.pointer (some ⟨b, 0, none⟩), .agg #[.int .i64 kind, .int .i64 h, .int .i64 addr, .int .u64 draw, .slice a n cap]] w fun e w' => ∃ B', e = .returned (.int .i64 (d.hear h addr L).2) ∧ DAt (N + 1) w' b (d.hear h addr L).1 B' ∧ Chg (DBk b B) w w' ∧ ∀ j, DBk b B' j → DBk b B j ∨ w.heap.size ≤ j := by
 by_cases h48 : n < 48
 ·have he : d.hear h addr L = (d, 1) := by unfold Dm.hear; rw [if_pos (by omega)]
  rw [he]
  refine (hearNo91 N b d B w hd kind h addr draw a n cap 1 (.inl ⟨h48, rfl⟩)).mono ?_
  rintro e w' ⟨rfl, c⟩
  exact ⟨B, rfl, (hd.chg0 c).up, c.mono (fun _ _ h => h.elim), fun j hj => .inl hj⟩
 ·have he : d.hear h addr L = (if Lib.idxOf d.cfg.servers addr < 0 then (d, 2) else d.come (Lib.idxOf d.cfg.servers addr).toNat h L) := by unfold Dm.hear; rw [if_neg (by omega)]
  rcases idx_cases d.cfg.servers addr with hi | ⟨i, hil, hi, _⟩
  ·rw [he, if_pos (by rw [hi]; decide)]
   refine (hearNo91 N b d B w hd kind h addr draw a n cap 2 (.inr ⟨by omega, by rw [hi]; decide, rfl⟩)).mono ?_
   rintro e w' ⟨rfl, c⟩
   exact ⟨B, rfl, (hd.chg0 c).up, c.mono (fun _ _ h => h.elim), fun j hj => .inl hj⟩
  ·rw [he, if_neg (by rw [hi]; omega), hi]
   obtain ⟨blk, off, ha, _⟩ := hR (by rw [List.length_map]; omega)
   subst ha
   exact hearCome91 N b d B w hd hN kind h addr draw ⟨blk, off, none⟩ n cap L i hi hil h0 h1 hn hc hcm (by omega) hL hR
theorem datagram57 (N : Nat) (b : Nat) (d : Dm) (B : DB) (w : World) (hd : DAt N w b d B) (hN : N ≤ 187000) (kind h addr draw : Int) (a : Option Addr) (n cap : Nat) (L : List Int) (h0 : d.h = h) (h1 : h ≤ 4611686018427387903)
  (hn : n = L.length) (hc : n ≤ cap) (hcm : cap ≤ 9223372036854775807) (hL : ∀ x ∈ L, 0 ≤ x ∧ x < 256) (hR : Reads w 1 a (L.map u8c)) :
  Calls Tryz.prog 57 #[.pointer (some ⟨b, 0, none⟩), .agg #[.int .i64 kind, .int .i64 h, .int .i64 addr, .int .u64 draw, .slice a n cap]] w fun e w' => ∃ B', e = .returned (.agg #[.slice none 0 0, .int .i64 0, .int .i64 0, .int .i64 (d.hear h addr L).2]) ∧ DAt (N + 2) w' b ((d.hear h addr L).1.count (d.hear h addr L).2) B' ∧ Chg (DBk b B) w w' ∧ ∀ j, DBk b B' j → DBk b B j ∨ w.heap.size ≤ j := by
 have HD := Lib.hid hd
 have HR := Lib.hid hR
 have hin := hear_in d h addr L
 have HH := Lib.hid (fun W (hW : Chg (fun _ => False) w W) => hear91 N b d B W (HD.out.chg0 hW) hN kind h addr draw a n cap L h0 h1 hn hc hcm hL (HR.out.chg hW (fun _ _ h => h)))
 generalize (d.hear h addr L).1 = d1 at *
 generalize (d.hear h addr L).2 = y at *
 have HIN := Lib.hid hin
 clear hd hR hn hc hcm hL
 go_enter Tryz.func57, Tryz.ntmps57
 go_upto_region 1 with (fail)
 have c0 := (chg0_alloc w (Obj.cells #[.int .i64 kind, .int .i64 h, .int .i64 addr, .int .u64 draw, .slice a n cap] 68)).alloc (Obj.cells #[.slice none 0 0, .int .i64 0, .int .i64 0, .int .i64 0] 74)
 have E1 := (Blk.new w 68 #[.int .i64 kind, .int .i64 h, .int .i64 addr, .int .u64 draw, .slice a n cap]).alloc (Obj.cells #[.slice none 0 0, .int .i64 0, .int .i64 0, .int .i64 0] 74)
 have G1 := Blk.new (w.alloc (Obj.cells #[.int .i64 kind, .int .i64 h, .int .i64 addr, .int .u64 draw, .slice a n cap] 68)) 74 #[.slice none 0 0, .int .i64 0, .int .i64 0, .int .i64 0]
 rw [show (w.alloc (Obj.cells #[.int .i64 kind, .int .i64 h, .int .i64 addr, .int .u64 draw, .slice a n cap] 68)).heap.size = w.heap.size + 1 by simp] at G1
 have HHW := Lib.hid (HH.out _ c0)
 have hbl := fun j (hj : DBk b B j) => HD.out.lt hj
 have HBL := Lib.hid hbl
 clear HH hbl
 generalize (w.alloc (Obj.cells #[.int .i64 kind, .int .i64 h, .int .i64 addr, .int .u64 draw, .slice a n cap] 68)).alloc (Obj.cells #[.slice none 0 0, .int .i64 0, .int .i64 0, .int .i64 0] 74) = W1 at *
 generalize hge : w.heap.size = ge at *
 have e0 := E1.cell 0
 have e1 := E1.cell 1
 have e2 := E1.cell 2
 have e3 := E1.cell 3
 have e4 := E1.cell 4
 simp at e0 e1 e2 e3 e4
 go_wp2_with fail
 refine HHW.out.mono ?_
 rintro e w2 ⟨B2, rfl, D2, c2, f2⟩
 have hg1 : ¬ DBk b B (ge + 1) := fun hh => by have := HBL.out _ hh; omega
 have G2 := G1.chg c2 hg1
 have HD2 := Lib.hid D2
 have HG2 := Lib.hid G2
 have HC2 := Lib.hid c2
 have hf2 : ∀ j, DBk b B2 j → DBk b B j ∨ ge + 2 ≤ j := fun j hj => by
  rcases f2 j hj with h' | h'
  ·exact .inl h'
  ·right; have := c0.size; have := E1.lt; have := G1.lt; omega
 have HF2 := Lib.hid hf2
 have u10 := D2.box.cell 10
 simp [dmc] at u10
 obtain ⟨y0, y1⟩ := hin
 obtain ⟨m, hm⟩ : ∃ m : Nat, y = (m : Int) := Int.eq_ofNat_of_zero_le y0
 subst hm
 have hm13 : m < 13 := by omega
 clear D2 G2 c2 e0 e1 e2 e3 e4 hg1 f2 hf2 E1 G1
 go_wp2_with fail
 have ct := HD2.out.ok.ct
 refine (add92 B2.cb d1.cnt m hm13 w2 HD2.out.ok.lc (fun z hz => by have := ct z hz; omega) HD2.out.cnt).mono ?_
 rintro e w3 ⟨rfl, K3, c3⟩
 have D3 := HD2.out.recount c3 K3 (by rw [cntAdd_len]; exact HD2.out.ok.lc) (cntAdd_in ct m)
 have hcb : DBk b B2 B2.cb := .inr (.inr (.inr (.inr (.inl rfl))))
 have hcbg : ¬ ge + 1 = B2.cb := fun e => by have h1 := HG2.out; rw [e] at h1; exact absurd (blk_typ h1 HD2.out.cnt) (by decide)
 have G3 := HG2.out.chg c3 hcbg
 have hsz2 := HC2.out.size
 have hszw := c0.size
 have cw : Chg (DBk b B) w w3 := ((c0.mono (S' := DBk b B) (fun _ _ h => h.elim)).trans HC2.out).trans' c3 (fun i hi e => by
  have e' : i = B2.cb := e
  rcases HF2.out B2.cb hcb with h' | h'
  ·rw [e']; exact h'
  ·omega)
 have n0 := G3.cell 0
 have n1 := G3.cell 1
 have n2 := G3.cell 2
 have n3 := G3.cell 3
 simp at n0 n1 n2 n3
 have f0 := G3.frozen 0
 have f1 := G3.frozen 1
 have f2 := G3.frozen 2
 have f3 := G3.frozen 3
 have HD3 := Lib.hid D3
 have HG3 := Lib.hid G3
 have HCW := Lib.hid cw
 clear D3 G3 cw K3 c3
 go_wp2_with fail
 obtain ⟨E, e⟩ := set4 HG3.out (.slice none 0 0) (.int .i64 0) (.int .i64 0) (.int .i64 m)
 have hg3 : ¬ DBk b B2 (ge + 1) := fun hh => by
  rcases HF2.out _ hh with h' | h'
  ·have := HBL.out _ h'; omega
  ·omega
 have DE := HD3.out.chg e (fun i hi e => hg3 (by have e' : i = ge + 1 := e; rw [← e']; exact hi))
 have CE := HCW.out.trans' (S := DBk b B) e (fun i hi e => by have e' : i = ge + 1 := e; omega)
 have m0 := E.cell 0
 have m1 := E.cell 1
 have m2 := E.cell 2
 have m3 := E.cell 3
 simp at m0 m1 m2 m3
 refine bodyPost_ret (v := .agg #[.slice none 0 0, .int .i64 0, .int .i64 0, .int .i64 m]) ?_ rfl ?_
 ·simp [results, Tryz.results57, go_sem, m0, m1, m2, m3]
 ·refine ⟨B2, rfl, DE, CE, fun j hj => ?_⟩
  rcases HF2.out j hj with h' | h'
  ·exact .inl h'
  ·right; omega
end
section
open Go Go.RowKit Go.Chron
def minOf : List Int → Int
 | [] => 0
 | a :: r => r.foldl min a
def Dm.wake (d : Dm) : Int := minOf (d.ps.map Pr.next)
theorem foldmin_le (r : List Int) : ∀ a : Int, r.foldl min a ≤ a ∧ (∀ x ∈ r, r.foldl min a ≤ x) ∧ (r.foldl min a = a ∨ r.foldl min a ∈ r) := by
 induction r with
 | nil => intro a; simp
 | cons y r ih =>
  intro a
  rw [List.foldl_cons]
  obtain ⟨h1, h2, h3⟩ := ih (min a y)
  refine ⟨by omega, ?_, ?_⟩
  ·intro x hx
   rcases List.mem_cons.1 hx with rfl | hx
   ·omega
   ·exact h2 x hx
  ·rcases h3 with h3 | h3
   ·by_cases hay : a ≤ y
    ·left; rw [h3]; omega
    ·right; rw [h3]; rw [Int.min_eq_right (by omega)]; simp
   ·right; exact List.mem_cons_of_mem _ h3
theorem minOf_spec {l : List Int} (hl : l ≠ []) : minOf l ∈ l ∧ ∀ x ∈ l, minOf l ≤ x := by
 cases l with
 | nil => exact absurd rfl hl
 | cons a r =>
  obtain ⟨h1, h2, h3⟩ := foldmin_le r a
  refine ⟨?_, ?_⟩
  ·rcases h3 with h3 | h3
   ·show r.foldl min a ∈ _
    rw [h3]; simp
   ·exact List.mem_cons_of_mem _ h3
  ·intro x hx
   rcases List.mem_cons.1 hx with rfl | hx
   ·exact h1
   ·exact h2 x hx
def Dm.at (d : Dm) (h : Int) : Dm := { d with h := h }
def Dm.doTick (d : Dm) (h draw : Int) : Dm × List (Int × List Int) := (d.at h).tick h draw
def Dm.doData (d : Dm) (h addr : Int) (L : List Int) : Dm × Int :=
 let r := (d.at h).hear h addr L
 (r.1.count r.2, r.2)
structure QSet (n : Nat) (ps : List Pr) (j : Nat) (Q : List (Ent Int)) : Prop where
 keys : ∀ e ∈ Q, ∃ i : Nat, i < n ∧ e.k = (i : Int)
 set_ : ∀ (i : Nat) p, i < j → ps[i]? = some p → ∀ e ∈ Q, e.k = (i : Int) → e.d = p.next
 has : ∀ i : Nat, i < j → ∃ e ∈ Q, e.k = (i : Int)
theorem QSet.step {n : Nat} {ps : List Pr} {j : Nat} {Q : List (Ent Int)} {p : Pr} {s : Int} (h : QSet n ps j Q) (hj : j < n) (hp : ps[j]? = some p) : QSet n ps (j + 1) (setL Q (j : Int) p.next s) := by
 refine ⟨?_, ?_, ?_⟩
 ·intro e he
  rcases mem_setL.1 he with ⟨he, _⟩ | rfl
  ·exact h.keys e he
  ·exact ⟨j, hj, rfl⟩
 ·intro i q hi hq e he hk
  rcases mem_setL.1 he with ⟨he, hne⟩ | rfl
  ·by_cases hij : i = j
   ·subst hij; exact absurd hk hne
   ·exact h.set_ i q (by omega) hq e he hk
  ·have : (j : Int) = (i : Int) := hk
   have hij : j = i := by omega
   subst hij
   rw [hp] at hq
   cases hq
   rfl
 ·intro i hi
  by_cases hij : i = j
  ·subst hij
   exact ⟨_, mem_setL.2 (.inr rfl), rfl⟩
  ·obtain ⟨e, he, hk⟩ := h.has i (by omega)
   exact ⟨e, mem_setL.2 (.inl ⟨he, by rw [hk]; omega⟩), hk⟩
theorem QSet.next {n : Nat} {ps : List Pr} {Q : List (Ent Int)} (h : QSet n ps n Q) (hn : n = ps.length) (h0 : 0 < n) : nextL Q = minOf (ps.map Pr.next) := by
 have hQ : Q ≠ [] := by
  obtain ⟨e, he, _⟩ := h.has 0 h0
  intro hq; rw [hq] at he; cases he
 have hl : ps.map Pr.next ≠ [] := by
  intro hq
  have : ps.length = 0 := by have := congrArg List.length hq; rwa [List.length_map] at this
  omega
 obtain ⟨m1, m2⟩ := minOf_spec hl
 obtain ⟨⟨e, he, hed⟩, hmin⟩ := nextL_is hQ
 obtain ⟨i, hi, hk⟩ := h.keys e he
 have hp : ps[i]? = some (ps[i]'(by omega)) := List.getElem?_eq_getElem _
 have h1 := h.set_ i _ hi hp e he hk
 have a1 : minOf (ps.map Pr.next) ≤ nextL Q := by
  rw [← hed, h1]
  exact m2 _ (List.mem_map.2 ⟨_, List.mem_of_getElem? hp, rfl⟩)
 obtain ⟨q, hq, hqe⟩ := List.mem_map.1 m1
 obtain ⟨k, hk', hqk⟩ := List.getElem_of_mem hq
 obtain ⟨e', he', hk2⟩ := h.has k (by omega)
 have h2 := h.set_ k q (by omega) (by rw [← hqk]; exact List.getElem?_eq_getElem hk') e' he' hk2
 have a2 := hmin e' he'
 rw [h2, hqe] at a2
 omega
theorem DAt.atH {N : Nat} {w w' : World} {b : Nat} {d : Dm} {B : DB} {h : Int} (hd : DAt N w b d B) (c : Chg (fun i => i = b) w w') (K : Blk w' b 140 ((dmc d B).setIfInBounds 12 (.int .i64 h))) (h0 : d.h ≤ h) (h1 : h ≤ 4611686018427387903) : DAt N w' b (d.at h) B :=
 hd.rebox c (by simpa [dmc, Dm.at] using K) rfl rfl rfl rfl rfl rfl ⟨hd.ok.cfg, hd.ok.clk, hd.ok.lp, hd.ok.ls, hd.ok.lc, hd.ok.ct, by have := hd.ok.hk; show d.clk.h ≤ h; omega, ⟨by have := hd.ok.h0; show 0 ≤ h; omega, h1⟩, hd.ok.draw, hd.ok.theta, hd.ok.ch, hd.ok.vt, hd.ok.vl⟩
theorem Pr.next_in {p : Pr} (o : p.Ok) : In64 p.next := by
 have h1 := o.due
 have h2 := o.sent
 have h3 := o.pat
 unfold Pr.next MaxH In64
 repeat' split <;> omega
theorem DAt.up3 {N : Nat} {w : World} {b : Nat} {d : Dm} {B : DB} (h : DAt N w b d B) : DAt (N + 3) w b d B := ((h.up).up).up
theorem DAt.requeue {N : Nat} {w w' : World} {b : Nat} {d : Dm} {B : DB} {qn : Nat} {Q : List (Ent Int)} (h0 : DAt N w b d B) (c : Chg (fun i => i = B.qb ∨ i = B.qm) w w') (hq : QI w' B.qb B.qm qn Q) (hk : ∀ e ∈ Q, ∃ i : Nat, i < d.ps.length ∧ e.k = (i : Int)) (hn : 3 * qn ≤ 16 * (N + 6)) : DAt (N + 3) w' b d { B with qn := qn, Q := Q } := by
 have h := h0.up3
 have hmap : ∀ {t : TypeId} {cs : Array Value}, ¬ Blk w B.qm t cs := fun hb => by
  obtain ⟨D, ⟨es, clock, hm, _⟩, _⟩ := h.q.own
  unfold Blk at hb
  rw [hm] at hb; cases hb
 have far : ∀ {i : Nat} {t : TypeId} {cs : Array Value}, Blk w i t cs → t ≠ 207 → ¬ (i = B.qb ∨ i = B.qm) := fun hi ht e => by
  rcases e with e | e
  ·subst e; exact ht (blk_typ hi h.q.box)
  ·subst e; exact hmap hi
 have farO : ∀ {e : TypeId} {sz : Nat} {v : Value} {g : Option Nat} {els : List (List Value)}, Owns w e sz v g els → e ≠ 207 → ∀ k, g = some k → ¬ (k = B.qb ∨ k = B.qm) := fun ho ht k hk => by
  obtain ⟨cs, hcs⟩ := ho.blk hk
  exact far hcs ht
 refine ⟨h.box.chg c (far h.box (by decide)), h.srv.chg c (farO h.srv (by decide)), h.clk.chg c (far h.clk (by decide)), h.psl.chg c (farO h.psl (by decide)), ?_, h.ssl.chg c (farO h.ssl (by decide)), ?_, hq, by show 3 * qn ≤ 16 * (N + 3 + 3); omega, hk, h.cnt.chg c (far h.cnt (by decide)), h.vot.chg c (farO h.vot (by decide)), h.ok⟩
 ·refine h.ps.chg c (fun i hi e => ?_)
  rcases h.ps.typ hi with ⟨_, h'⟩ | ⟨_, h'⟩
  ·exact far h' (by decide) e
  ·exact far h' (by decide) e
 ·refine h.ss.chg c (fun i hi e => ?_)
  rcases h.ss.typ hi with ⟨_, h'⟩ | ⟨_, h'⟩ | ⟨_, h'⟩
  ·exact far h' (by decide) e
  ·exact far h' (by decide) e
  ·exact far h' (by decide) e
theorem DAt.no74 {N : Nat} {w : World} {b : Nat} {d : Dm} {B : DB} {i : Nat} {cs : Array Value} (h : DAt N w b d B) (hb : Blk w i 74 cs) : ¬ DBk b B i := by
 have own : ∀ {e : TypeId} {sz : Nat} {v : Value} {g : Option Nat} {els : List (List Value)}, Owns w e sz v g els → e ≠ 74 → ¬ g = some i := fun ho ht hg => by
  obtain ⟨cs', hcs⟩ := ho.blk hg
  exact ht (blk_typ hcs hb)
 rintro (e | e | e | e | e | e | e | e | e | e | e)
 ·subst e; exact absurd (blk_typ h.box hb) (by decide)
 ·subst e; exact absurd (blk_typ h.clk hb) (by decide)
 ·subst e; exact absurd (blk_typ h.q.box hb) (by decide)
 ·subst e
  obtain ⟨D, ⟨es, clock, hm, _⟩, _⟩ := h.q.own
  unfold Blk at hb
  rw [hm] at hb; cases hb
 ·subst e; exact absurd (blk_typ h.cnt hb) (by decide)
 ·exact own h.srv (by decide) e
 ·exact own h.psl (by decide) e
 ·exact own h.ssl (by decide) e
 ·exact own h.vot (by decide) e
 ·exact h.ps.far hb (by decide) (by decide) e
 ·exact h.ss.far hb (by decide) (by decide) (by decide) e
theorem keepC {W w' : World} {b ge go kb : Nat} {h : Int} (hh : W.cell? ⟨b, 6, none⟩ = some (.pointer (some ⟨kb, 0, none⟩)) ∧ W.cell? ⟨ge, 1, none⟩ = some (.int .i64 h)) (hn : ¬ b = go ∧ ¬ ge = go) (c : Chg (fun i => i = go) W w') : (w'.cell? ⟨b, 6, none⟩ = some (.pointer (some ⟨kb, 0, none⟩)) ∧ w'.cell? ⟨ge, 1, none⟩ = some (.int .i64 h)) ∧ Chg (fun i => i = go) W w' := ⟨⟨c.keep hh.1 hn.1, c.keep hh.2 hn.2⟩, c⟩
theorem keepQ {W w' : World} {b qb qm : Nat} (hh : W.cell? ⟨b, 9, none⟩ = some (.pointer (some ⟨qb, 0, none⟩))) (hn : ¬ (b = qb ∨ b = qm)) (c : Chg (fun i => i = qb ∨ i = qm) W w') : (w'.cell? ⟨b, 9, none⟩ = some (.pointer (some ⟨qb, 0, none⟩))) ∧ Chg (fun i => i = qb ∨ i = qm) W w' := ⟨c.keep hh hn, c⟩
theorem doG (N N' : Nat) (b : Nat) (d d' : Dm) (B : DB) (w : World) (hd : DAt N w b d B) (kind h addr draw : Int) (dv : Value) (f : Nat) (y : Int) (R : World → Option Addr → Nat → Nat → Prop) (hk : In64 kind) (hv : doV b kind = .func (.func f) #[.pointer (some ⟨b, 0, none⟩)] #[]) (hok : (decide (kind = 0) || decide (kind = 1)) = true)
  (hcf : ∀ args W, (callFunc f args).run Tryz.prog W = .ok (.enter f args) W) (h0 : d.h ≤ h) (h00 : 0 ≤ h) (h1 : h ≤ 4611686018427387903)
  (hf : ∀ W, DAt N W b (d.at h) B → Chg (fun i => i = b) w W → Calls Tryz.prog f #[.pointer (some ⟨b, 0, none⟩), .agg #[.int .i64 kind, .int .i64 h, .int .i64 addr, .int .u64 draw, dv]] W fun e w' => ∃ va vl vc B', e = .returned (.agg #[.slice va vl vc, .int .i64 0, .int .i64 0, .int .i64 y]) ∧ DAt N' w' b d' B' ∧ Chg (DBk b B) W w' ∧ (∀ j, DBk b B' j → DBk b B j ∨ W.heap.size ≤ j) ∧ R w' va vl vc)
  (hR : ∀ S w1 w2 va vl vc, R w1 va vl vc → Chg S w1 w2 → (∀ i, S i → ¬ ∃ cs, Blk w1 i 80 cs ∨ Blk w1 i 5 cs) → R w2 va vl vc) (hdh : d'.h = h) (hN' : N' ≤ 186000) :
  Calls Tryz.prog 21 #[.pointer (some ⟨b, 0, none⟩), .agg #[.int .i64 kind, .int .i64 h, .int .i64 addr, .int .u64 draw, dv]] w fun e w' => ∃ va vl vc B', e = .returned (.tuple #[.agg #[.slice va vl vc, .int .i64 (d'.clk.run h).c, .int .i64 d'.wake, .int .i64 y], .int .i64 0]) ∧ DAt (N' + 3) w' b d' B' ∧ Chg (DBk b B) w w' ∧ (∀ j, DBk b B' j → DBk b B j ∨ w.heap.size ≤ j) ∧ R w' va vl vc := by
 have HD := Lib.hid hd
 have HF := Lib.hid hf
 have HRR := Lib.hid hR
 have HBL := Lib.hid (fun j (hj : DBk b B j) => hd.lt hj)
 have hblt := hd.box.lt
 have c0 := (chg0_alloc w (Obj.cells #[.int .i64 kind, .int .i64 h, .int .i64 addr, .int .u64 draw, dv] 68)).alloc (Obj.cells #[.slice none 0 0, .int .i64 0, .int .i64 0, .int .i64 0] 74)
 have E1 := (Blk.new w 68 #[.int .i64 kind, .int .i64 h, .int .i64 addr, .int .u64 draw, dv]).alloc (Obj.cells #[.slice none 0 0, .int .i64 0, .int .i64 0, .int .i64 0] 74)
 have G1 := Blk.new (w.alloc (Obj.cells #[.int .i64 kind, .int .i64 h, .int .i64 addr, .int .u64 draw, dv] 68)) 74 #[.slice none 0 0, .int .i64 0, .int .i64 0, .int .i64 0]
 have HDH := Lib.hid (And.intro h0 (And.intro hdh hN'))
 rw [show (w.alloc (Obj.cells #[.int .i64 kind, .int .i64 h, .int .i64 addr, .int .u64 draw, dv] 68)).heap.size = w.heap.size + 1 by simp] at G1
 have HV := Lib.hid (And.intro hk (And.intro hv hok))
 clear hf hR hd hv hok hk h0 hdh hN'
 go_enter Tryz.func21, Tryz.ntmps21
 go_upto_region 3 with (fail)
 generalize (w.alloc (Obj.cells #[.int .i64 kind, .int .i64 h, .int .i64 addr, .int .u64 draw, dv] 68)).alloc (Obj.cells #[.slice none 0 0, .int .i64 0, .int .i64 0, .int .i64 0] 74) = W1 at *
 generalize hge : w.heap.size = ge at *
 obtain ⟨X1, X2, r1, r2, r3, cX⟩ := doMap b kind HV.out.1 W1
 rw [HV.out.2.1, HV.out.2.2] at r3
 have E2 := E1.chg cX (fun h => h)
 have G2 := G1.chg cX (fun h => h)
 have c2 := c0.trans cX
 have D2 := HD.out.chg0 c2
 have hdh0 : d.h ≤ h := HDH.out.1
 have e0 := E1.alloc (Obj.map #[] 0)
 have q0 := E2.cell 0
 have q1 := E2.cell 1
 have q2 := E2.cell 2
 have q3 := E2.cell 3
 have q4 := E2.cell 4
 simp at q0 q1 q2 q3 q4
 have b12 := D2.box.cell 12
 have f12 := D2.box.frozen 12
 simp [dmc] at b12
 have HE2 := Lib.hid E2
 have HG2 := Lib.hid G2
 have HD2 := Lib.hid D2
 have HC2 := Lib.hid c2
 have s0 : X2.cell? ⟨ge, 0, none⟩ = some (.int .i64 kind) := q0
 clear E2 G2 D2 c2 E1 G1 c0 e0 cX
 have cMM := @run_makeMap Tryz.prog
 go_upto_region 8 with (fail)
 clear r1 r2 r3 cMM
 go_quiet (fail)
 go_wp2_with fail
 have cs : Chg (fun i => i = b) X2 ((X2.drewN nq).setCell ⟨b, 12, none⟩ (.int .i64 h)) := ((Chg.refl (fun i => i = b) X2).drewN nq).setCell (p := ⟨b, 12, none⟩) (fun _ => rfl) _
 have K3 := (HD2.out.box.drewN nq).set_ 12 (.int .i64 h)
 have D3 := HD2.out.atH cs K3 hdh0 h1
 have E3 := HE2.out.chg cs (fun e => by have e' : ge = b := e; omega)
 have G3 := HG2.out.chg cs (fun e => by have e' : ge + 1 = b := e; omega)
 have cw3 : Chg (fun i => i = b) w _ := (HC2.out.mono (S' := fun i => i = b) (fun _ _ h => h.elim)).trans cs
 have HE3 := Lib.hid E3
 have HG3 := Lib.hid G3
 have HC3 := Lib.hid cw3
 have HFF := Lib.hid (HF.out _ D3 cw3)
 clear E3 G3 cw3 cs K3 D3 HF q0 q1 q2 q3 q4 s0 b12 f12 HD2 HE2 HG2 HC2
 generalize (X2.drewN nq).setCell ⟨b, 12, none⟩ (.int .i64 h) = W3 at *
 refine HFF.out.mono ?_
 rintro e w4 ⟨va, vl, vc, B', rfl, D4, c4, f4, R4⟩
 have ng0 : ¬ DBk b B ge := fun hh => by have := HBL.out _ hh; omega
 have ng1 : ¬ DBk b B (ge + 1) := fun hh => by have := HBL.out _ hh; omega
 have E5 := (HE3.out.chg c4 ng0).alloc (Obj.cells #[.slice va vl vc, .int .i64 0, .int .i64 0, .int .i64 y] 74)
 have G5 := (HG3.out.chg c4 ng1).alloc (Obj.cells #[.slice va vl vc, .int .i64 0, .int .i64 0, .int .i64 y] 74)
 have O5 := Blk.new w4 74 #[.slice va vl vc, .int .i64 0, .int .i64 0, .int .i64 y]
 have D5 := D4.chg0 (chg0_alloc w4 (Obj.cells #[.slice va vl vc, .int .i64 0, .int .i64 0, .int .i64 y] 74))
 have R5 := HRR.out _ _ _ _ _ _ R4 (chg0_alloc w4 (Obj.cells #[.slice va vl vc, .int .i64 0, .int .i64 0, .int .i64 y] 74)) (fun _ h => h.elim)
 have c5 : Chg (DBk b B) w _ := ((HC3.out.mono (S' := DBk b B) (fun i _ h => .inl h)).trans c4).alloc (Obj.cells #[.slice va vl vc, .int .i64 0, .int .i64 0, .int .i64 y] 74)
 have hsz3 := HC3.out.size
 have hsz4 := c4.size
 have f5 : ∀ j, DBk b B' j → DBk b B j ∨ ge + 2 ≤ j := fun j hj => by
  rcases f4 j hj with h' | h'
  ·exact .inl h'
  ·right; have := HG3.out.lt; omega
 have hO1 : ge + 1 < w4.heap.size := by have := HG3.out.lt; omega
 go_upto_region 12 with (fail)
 clear D4 c4 f4 R4 HE3 HG3 HFF ng0 ng1 hsz3 hsz4
 generalize w4.alloc (Obj.cells #[.slice va vl vc, .int .i64 0, .int .i64 0, .int .i64 y] 74) = W5 at *
 generalize hgo : w4.heap.size = go at *
 obtain ⟨pk, pcap, hpv, hpg, hpc, hpm, hpx⟩ := D5.peer
 have b7 := D5.box.cell 7
 simp [dmc, hpv] at b7
 have HD5 := Lib.hid D5
 have HE5 := Lib.hid E5
 have HG5 := Lib.hid G5
 have HO5 := Lib.hid O5
 have HR5 := Lib.hid R5
 have HC5 := Lib.hid c5
 have HF5 := Lib.hid f5
 have HPX := Lib.hid hpx
 have HPG := Lib.hid (And.intro hpv hpg)
 generalize hpl : d'.ps.length = n at *
 have HPL := Lib.hid hpl
 have hn16 : n ≤ 16 := by have := HD5.out.ok.lp; have := HD5.out.ok.cfg.n1; omega
 have hn0 : 0 < n := by have := HD5.out.ok.lp; have := HD5.out.ok.cfg.n0; omega
 clear D5 E5 G5 O5 R5 c5 f5 hpx hpv hpg hpl
 go_wp2_with fail
 go_loopw [62] (fun i wr => ∃ (j qn : Nat) (Q : List (Ent Int)), j ≤ n ∧ i = .int .i64 j ∧ qn = B'.qn + j ∧ QI wr B'.qb B'.qm qn Q ∧ QSet n d'.ps j Q ∧ Chg (fun i => i = B'.qb ∨ i = B'.qm) W5 wr) (fun i _ => n - (intOf i).toNat)
 case atStart => exact ⟨0, B'.qn, B'.Q, by omega, rfl, rfl, HD5.out.q, ⟨fun e he => by have := HD5.out.qk e he; rw [HPL.out] at this; exact this, fun i p hi => absurd hi (by omega), fun i hi => absurd hi (by omega)⟩, Chg.refl _ _⟩
 case round =>
  obtain ⟨j, qn, Q, hj, rfl, hqn, hQ, hS, c6⟩ := hrel
  by_cases hjn : j < n
  ·have nf : ∀ {i : Nat} {t : TypeId} {cs : Array Value}, Blk W5 i t cs → t ≠ 207 → ¬ (i = B'.qb ∨ i = B'.qm) := fun hb ht e => by
    rcases e with e | e
    ·subst e; exact ht (blk_typ hb HD5.out.q.box)
    ·subst e
     obtain ⟨D, ⟨es, clock, hm, _⟩, _⟩ := HD5.out.q.own
     unfold Blk at hb
     rw [hm] at hb; cases hb
   obtain ⟨x, p, hx, hp, hP⟩ := HD5.out.ps.get (i := j) (by rw [HPL.out]; exact hjn)
   have P6 := hP.chg c6 (nf hP.b (by decide)) (nf hP.k (by decide))
   obtain ⟨pcs, hpcs⟩ := HD5.out.psl.blk (by exact HPG.out.2)
   have pc := c6.keep (HPX.out j x hx) (nf hpcs (by decide))
   have X6 := HD5.out.box.chg c6 (nf HD5.out.box (by decide))
   have b9 := X6.cell 9
   simp [dmc] at b9
   have hnb := nf HD5.out.box (by decide)
   have hnx1 := nf hP.b (by decide)
   have hqn1 : qn ≤ 1000000 := by have := HD5.out.qn; have := HDH.out.2.2; omega
   have HNX := Lib.hid (fun W (hW : Chg (fun _ => False) wr W) => next54 x.1 x.2 p W P6.o (P6.chg0 hW).b)
   have HST := Lib.hid (fun W (hW : Chg (fun _ => False) wr W) => setI B'.qb B'.qm qn Q (j : Int) p.next W (hQ.chg0 hW) hqn1 ⟨by omega, by omega⟩ (Pr.next_in P6.o))
   have hstep := hS.step (s := ((qn : Int) + 1)) hjn hp
   have HSTEP := Lib.hid hstep
   have HC6 := Lib.hid c6
   have HB9 := Lib.hid b9
   have HNB := Lib.hid hnb
   have hjI : (j : Int) < n := by omega
   have hjc : j < pcap := by omega
   obtain ⟨x1, x2⟩ := x
   simp only at pc HNX
   generalize p.next = nx at *
   clear nf hx hp hP P6 hpcs X6 hnb hnx1 hS hQ c6 hstep
   go_upto_region 15 with (fail)
   go_region_held3 (fun w' => (w'.cell? ⟨b, 9, none⟩ = some (.pointer (some ⟨B'.qb, 0, none⟩))) ∧ Chg (fun i => i = B'.qb ∨ i = B'.qm) wr w')
    (refine keepQ HB9.out HNB.out ?_ <;> (repeat (first | (with_reducible exact Chg.refl _ _) | assumption | (with_reducible apply Chg.drewN) | (with_reducible apply Chg.drew) | (with_reducible apply Chg.alloc))))
    (first | (go_at_call 54; refine (HNX.out _ (by repeat (first | (with_reducible exact Chg.refl _ _) | assumption | (with_reducible apply Chg.drew)))).mono ?_; rintro e w7 ⟨rfl, c7⟩; have cT := Chg.trans (S := fun _ => False) (w := wr) (by repeat (first | (with_reducible exact Chg.refl _ _) | (with_reducible apply Chg.drew))) c7; have cU := cT.mono (S' := fun i => i = B'.qb ∨ i = B'.qm) (fun _ _ h => h.elim)) | (go_at_call 53; refine (HST.out _ (by repeat (first | (with_reducible exact Chg.refl _ _) | assumption | (with_reducible apply Chg.drew)))).mono ?_; rintro e w8 ⟨rfl, q8, c8⟩; have cV := cU.trans c8))
   all_goals (
    have HQ8 := Lib.hid q8
    have HC8 := Lib.hid (HC6.out.trans cV)
    clear q8 cV cU cT c7 c8 pc b9
    go_wp2_with fail
    go_roundw
    case rel => exact ⟨j + 1, qn + 1, _, by omega, by go_num, by omega, HQ8.out, HSTEP.out, HC8.out⟩
    case measure => simp [intOf]; omega)
  ·have hjn' : j = n := by omega
   subst hjn'
   have D6 := HD5.out.requeue c6 hQ (by rw [HPL.out]; exact hS.keys) (by have := HD5.out.qn; omega)
   have hwk : nextL Q = d'.wake := hS.next HPL.out.symm hn0
   have nf : ∀ {i : Nat} {t : TypeId} {cs : Array Value}, Blk W5 i t cs → t ≠ 207 → ¬ (i = B'.qb ∨ i = B'.qm) := fun hb ht e => by
    rcases e with e | e
    ·subst e; exact ht (blk_typ hb HD5.out.q.box)
    ·subst e
     obtain ⟨D, ⟨es, clock, hm, _⟩, _⟩ := HD5.out.q.own
     unfold Blk at hb
     rw [hm] at hb; cases hb
   have E6 := HE5.out.chg c6 (nf HE5.out (by decide))
   have G6 := HG5.out.chg c6 (nf HG5.out (by decide))
   have O6 := HO5.out.chg c6 (nf HO5.out (by decide))
   have R6 := HRR.out _ _ _ _ _ _ HR5.out c6 (fun i hi hh => by
    obtain ⟨cs, hh | hh⟩ := hh
    ·exact nf hh (by decide) hi
    ·exact nf hh (by decide) hi)
   have hgow := HO5.out.lt
   have hszW5 := HC5.out.size
   have cw6 : Chg (DBk b B) w wr := HC5.out.trans' c6 (fun i hi e => by
    have e' : DBk b B' i := by
     rcases e with e | e
     ·exact .inr (.inr (.inl e))
     ·exact .inr (.inr (.inr (.inl e)))
    rcases HF5.out i e' with h' | h'
    ·exact h'
    ·omega)
   have hkh : d'.clk.h ≤ h := by have := D6.ok.hk; rw [HDH.out.2.1] at this; exact this
   have HRD := Lib.hid (fun W (hW : Chg (fun _ => False) wr W) => read58 B'.kb d'.clk h W (D6.chg0 hW).clk D6.ok.clk hkh h1)
   have b6 := D6.box.cell 6
   have b9 := D6.box.cell 9
   simp [dmc] at b6 b9
   have e1 := E6.cell 1
   simp at e1
   have o1 := O6.cell 1
   have p1 := O6.frozen 1
   simp at o1
   have hnc : ¬ b = go ∧ ¬ ge = go := ⟨fun e => by have hb := D6.box; rw [e] at hb; exact absurd (blk_typ hb O6) (by decide), fun e => by rw [e] at E6; exact absurd (blk_typ E6 O6) (by decide)⟩
   have HNC := Lib.hid hnc
   have HD6 := Lib.hid D6
   have HE6 := Lib.hid E6
   have HG6 := Lib.hid G6
   have HO6 := Lib.hid O6
   have HR6 := Lib.hid R6
   have HC6 := Lib.hid cw6
   have HQ := Lib.hid hQ
   have HWK := Lib.hid hwk
   generalize hclk : (d'.clk.run h).c = ck at *
   have HCLK := Lib.hid hclk
   clear D6 E6 G6 O6 R6 cw6 hQ hwk nf c6 hS hclk hnc
   go_upto_region 17 with (fail)
   go_cut [] (fun wx => Blk wx go 74 #[.slice va vl vc, .int .i64 ck, .int .i64 0, .int .i64 y] ∧ Chg (fun i => i = go) wr wx)
   case first =>
    have HK1 := Lib.hid (And.intro b6 e1)
    go_region_held3 (fun w' => (w'.cell? ⟨b, 6, none⟩ = some (.pointer (some ⟨B'.kb, 0, none⟩)) ∧ w'.cell? ⟨ge, 1, none⟩ = some (.int .i64 h)) ∧ Chg (fun i => i = go) wr w')
     (refine keepC HK1.out HNC.out ?_ <;> (repeat (first | (with_reducible exact Chg.refl _ _) | assumption | (with_reducible apply Chg.drewN) | (with_reducible apply Chg.drew) | (with_reducible refine Chg.setCell ?_ (fun _ => by rfl) _))))
     (first | (go_at_call 58; refine (HRD.out _ (by repeat (first | (with_reducible exact Chg.refl _ _) | (with_reducible apply Chg.drew)))).mono ?_; rintro e w7 ⟨rfl, c7⟩; have cT := Chg.trans (S := fun _ => False) (w := wr) (by repeat (first | (with_reducible exact Chg.refl _ _) | (with_reducible apply Chg.drew))) c7; have cU := cT.mono (S' := fun i => i = go) (fun _ _ h => h.elim); have O7 := HO6.out.chg cT (fun h => h); have o71 := O7.cell 1; have o7f := O7.frozen 1; simp at o71))
    all_goals (
     have O8 := O7.set_ 1 (.int .i64 ck)
     simp at O8
     have c8 := cU.setCell (p := ⟨go, 1, none⟩) (fun _ => rfl) (.int .i64 ck)
     go_wp2_with fail
     go_meet
     exact ⟨O8, c8⟩)
   case rest =>
    obtain ⟨O8, c8⟩ := hcut
    have hno := HD6.out.no74 HO6.out
    have hno2 := HD6.out.no74 HG6.out
    have D8 := HD6.out.chg c8 (fun i hi e => hno (by rw [← show i = go from e]; exact hi))
    have hgg : ¬ ge + 1 = go := by omega
    have G8 := HG6.out.chg c8 hgg
    have R8 := HRR.out _ _ _ _ _ _ HR6.out c8 (fun i hi hh => by
     have e' : i = go := hi
     subst e'
     obtain ⟨cs, hh | hh⟩ := hh
     ·exact absurd (blk_typ hh HO6.out) (by decide)
     ·exact absurd (blk_typ hh HO6.out) (by decide))
    have cw8 := HC6.out.trans' c8 (S := DBk b B) (fun i hi e => by have e' : i = go := e; omega)
    have hNX := Lib.hid (fun W (hW : Chg (fun _ => False) wc W) => nextI B'.qb B'.qm (B'.qn + j) Q W (by have := (D8.chg0 hW).q; rw [← hqn]; exact this))
    rw [HWK.out] at hNX
    have b9' := D8.box.cell 9
    simp [dmc] at b9'
    have HD8 := Lib.hid D8
    have HG8 := Lib.hid G8
    have HO8 := Lib.hid O8
    have HR8 := Lib.hid R8
    have HC8 := Lib.hid cw8
    clear b6 b9 e1 o1 p1 D8 G8 O8 R8 cw8 c8
    obtain ⟨W8, rfl⟩ : ∃ W8, W8 = wc := ⟨wc, rfl⟩
    generalize hwkk : d'.wake = wk at *
    have HWKK := Lib.hid hwkk
    clear hwkk
    go_wp2_with fail
    refine (hNX.out _ (Chg.refl _ _)).mono ?_
    rintro e w9 ⟨rfl, c9⟩
    have D9 := HD8.out.chg0 c9
    have G9 := HG8.out.chg c9 (fun h => h)
    have O9 := HO8.out.chg c9 (fun h => h)
    have R9 := HRR.out _ _ _ _ _ _ HR8.out c9 (fun _ h => h.elim)
    have cw9 := HC8.out.trans (c9.mono (S' := DBk b B) (fun _ _ h => h.elim))
    have o2 := O9.cell 2
    have p2 := O9.frozen 2
    simp at o2
    clear b9'
    go_upto_region 19 with (fail)
    have OA := O9.set_ 2 (.int .i64 wk)
    simp at OA
    have cA : Chg (fun i => i = go) w9 (w9.setCell ⟨go, 2, none⟩ (.int .i64 wk)) := (Chg.refl (fun i => i = go) w9).setCell (p := ⟨go, 2, none⟩) (fun _ => rfl) _
    have DA := D9.chg cA (fun i hi e => hno (by rw [← show i = go from e]; exact hi))
    have GA := G9.chg cA hgg
    have RA := HRR.out _ _ _ _ _ _ R9 cA (fun i hi hh => by
     have e' : i = go := hi
     subst e'
     obtain ⟨cs, hh | hh⟩ := hh
     ·exact absurd (blk_typ hh O9) (by decide)
     ·exact absurd (blk_typ hh O9) (by decide))
    have cwA := cw9.trans' cA (S := DBk b B) (fun i hi e => by have e' : i = go := e; omega)
    clear D9 G9 O9 R9 cw9 o2 p2 cA
    generalize w9.setCell ⟨go, 2, none⟩ (.int .i64 wk) = WA at *
    have a0 := OA.cell 0
    have a1 := OA.cell 1
    have a2 := OA.cell 2
    have a3 := OA.cell 3
    have n0 := GA.cell 0
    have n1 := GA.cell 1
    have n2 := GA.cell 2
    have n3 := GA.cell 3
    have f0 := GA.frozen 0
    have f1 := GA.frozen 1
    have f2 := GA.frozen 2
    have f3 := GA.frozen 3
    simp at a0 a1 a2 a3 n0 n1 n2 n3
    have HDA := Lib.hid DA
    have HGA := Lib.hid GA
    have HRA := Lib.hid RA
    have HCA := Lib.hid cwA
    clear DA GA OA RA cwA
    go_wp2_with fail
    obtain ⟨E, e⟩ := set4 HGA.out (.slice va vl vc) (.int .i64 ck) (.int .i64 wk) (.int .i64 y)
    have DE := HDA.out.chg e (fun i hi e => hno2 (by rw [← show i = ge + 1 from e]; exact hi))
    have RE := HRR.out _ _ _ _ _ _ HRA.out e (fun i hi hh => by
     have e' : i = ge + 1 := hi
     subst e'
     obtain ⟨cs, hh | hh⟩ := hh
     ·exact absurd (blk_typ hh HGA.out) (by decide)
     ·exact absurd (blk_typ hh HGA.out) (by decide))
    have CE := HCA.out.trans' e (S := DBk b B) (fun i hi e => by have e' : i = ge + 1 := e; omega)
    have m0 := E.cell 0
    have m1 := E.cell 1
    have m2 := E.cell 2
    have m3 := E.cell 3
    simp at m0 m1 m2 m3
    refine bodyPost_ret (v := .tuple #[.agg #[.slice va vl vc, .int .i64 ck, .int .i64 wk, .int .i64 y], .int .i64 0]) ?_ rfl ⟨va, vl, vc, _, by rw [HCLK.out, HWKK.out], DE, CE, ?_, RE⟩
    ·simp [results, Tryz.results21, go_sem, m0, m1, m2, m3]
    ·intro i hi
     have hi' : DBk b B' i := hi
     rcases HF5.out i hi' with h' | h'
     ·exact .inl h'
     ·right; omega
end
section
open Go Go.RowKit Go.Chron
theorem cf56 (args : Array Value) (W : World) : (callFunc 56 args).run Tryz.prog W = .ok (.enter 56 args) W := by kernel_rfl
theorem cf57 (args : Array Value) (W : World) : (callFunc 57 args).run Tryz.prog W = .ok (.enter 57 args) W := by kernel_rfl
theorem take_h (d : Dm) (i : Nat) (h : Int) (x : Sam) : (d.take i h x).h = d.h := by unfold Dm.take; simp only; split <;> rfl
theorem come_h (d : Dm) (i : Nat) (h : Int) (L : List Int) : (d.come i h L).1.h = d.h := by
 unfold Dm.come
 simp only
 split
 ·exact take_h _ i h _
 ·rfl
theorem hear_h (d : Dm) (h addr : Int) (L : List Int) : (d.hear h addr L).1.h = d.h := by
 unfold Dm.hear
 split
 ·rfl
 ·simp only
  split
  ·rfl
  ·exact come_h d _ h L
theorem doTick21 (N : Nat) (b : Nat) (d : Dm) (B : DB) (w : World) (hd : DAt N w b d B) (hN : N ≤ 186000) (h addr draw : Int) (dv : Value) (h0 : d.h ≤ h) (h1 : h ≤ 4611686018427387903) (hdr : 0 ≤ draw ∧ draw < 18446744073709551616) :
  Calls Tryz.prog 21 #[.pointer (some ⟨b, 0, none⟩), .agg #[.int .i64 0, .int .i64 h, .int .i64 addr, .int .u64 draw, dv]] w fun e w' => ∃ va vl vc B', e = .returned (.tuple #[.agg #[.slice va vl vc, .int .i64 (d.clk.run h).c, .int .i64 (d.doTick h draw).1.wake, .int .i64 0], .int .i64 0]) ∧
   DAt (N + 3) w' b (d.doTick h draw).1 B' ∧ Chg (DBk b B) w w' ∧ (∀ j, DBk b B' j → DBk b B j ∨ w.heap.size ≤ j) ∧ ∃ g vs, SendsAt w w' (.slice va vl vc) g (d.doTick h draw).2 vs := by
 have h00 : 0 ≤ h := by have := hd.ok.h0; omega
 refine doG N N b d (d.doTick h draw).1 B w hd 0 h addr draw dv 56 0 (fun w' va vl vc => ∃ g vs, SendsAt w w' (.slice va vl vc) g (d.doTick h draw).2 vs) ⟨by omega, by omega⟩ rfl rfl cf56 h0 h00 h1 ?_ ?_ rfl hN
 ·intro W hW c
  refine (tick56 N b (d.at h) B W hW 0 h addr draw dv (Int.le_refl _) h1 hdr).mono ?_
  rintro e w' ⟨v, g, vs, rfl, S, D, c'⟩
  obtain ⟨va, vc, rfl, -, -, -, -⟩ := S.o.form
  exact ⟨va, _, vc, B, rfl, D, c'.mono (fun i _ hi => by
   rcases hi with hi | hi
   ·exact .inr (.inr (.inr (.inr (.inr (.inr (.inr (.inr (.inr (.inl hi)))))))))
   ·exact .inl hi), fun j hj => .inl hj, g, vs, S.base c.size⟩
 ·rintro S w1 w2 va vl vc ⟨g, vs, hs⟩ c hS
  refine ⟨g, vs, hs.chg c (fun k _ hk hSk => hS k hSk ?_)⟩
  rcases hs.blk hk with ⟨cs, h'⟩ | ⟨cs, h'⟩
  ·exact ⟨cs, .inl h'⟩
  ·exact ⟨cs, .inr h'⟩
theorem doData21 (N : Nat) (b : Nat) (d : Dm) (B : DB) (w : World) (hd : DAt N w b d B) (hN : N ≤ 185000) (h addr draw : Int) (a : Option Addr) (n cap : Nat) (L : List Int) (h0 : d.h ≤ h) (h1 : h ≤ 4611686018427387903)
  (hn : n = L.length) (hc : n ≤ cap) (hcm : cap ≤ 9223372036854775807) (hL : ∀ x ∈ L, 0 ≤ x ∧ x < 256) (hR : Reads w 1 a (L.map u8c)) (hab : ∀ ad, a = some ad → ad.block ≠ b) :
  Calls Tryz.prog 21 #[.pointer (some ⟨b, 0, none⟩), .agg #[.int .i64 1, .int .i64 h, .int .i64 addr, .int .u64 draw, .slice a n cap]] w fun e w' => ∃ B', e = .returned (.tuple #[.agg #[.slice none 0 0, .int .i64 ((d.doData h addr L).1.clk.run h).c, .int .i64 (d.doData h addr L).1.wake, .int .i64 (d.doData h addr L).2], .int .i64 0]) ∧
   DAt (N + 5) w' b (d.doData h addr L).1 B' ∧ Chg (DBk b B) w w' ∧ (∀ j, DBk b B' j → DBk b B j ∨ w.heap.size ≤ j) := by
 have h00 : 0 ≤ h := by have := hd.ok.h0; omega
 refine (doG N (N + 2) b d (d.doData h addr L).1 B w hd 1 h addr draw (.slice a n cap) 57 (d.doData h addr L).2 (fun w' va vl vc => va = none ∧ vl = 0 ∧ vc = 0) ⟨by omega, by omega⟩ rfl rfl cf57 h0 h00 h1 ?_ ?_ ?_ (by omega)).mono ?_
 ·intro W hW c
  refine (datagram57 N b (d.at h) B W hW (by omega) 1 h addr draw a n cap L rfl h1 hn hc hcm hL (hR.chg c (fun ad had => hab ad had))).mono ?_
  rintro e w' ⟨B', rfl, D, c', f⟩
  exact ⟨none, 0, 0, B', rfl, D, c', f, rfl, rfl, rfl⟩
 ·intro S w1 w2 va vl vc hh c hS
  exact hh
 ·show ((d.at h).hear h addr L).1.h = h
  rw [hear_h]
  rfl
 ·rintro e w' ⟨va, vl, vc, B', rfl, D, c, f, rfl, rfl, rfl⟩
  exact ⟨B', rfl, D, c, f⟩
end
end Go.Proofs.YtamhicdhbjniiaaGreatDoor
