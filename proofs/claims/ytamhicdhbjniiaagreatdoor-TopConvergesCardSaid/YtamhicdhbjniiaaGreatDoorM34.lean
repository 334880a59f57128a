/- daemon.hear: what it does. daemon.hear: an answer comes to a server. -/
import Derived.Test.YtamhicdhbjniiaaGreatDoorM33
set_option linter.unusedVariables false
set_option maxHeartbeats 6400000
set_option maxRecDepth 100000
namespace Go.Proofs.YtamhicdhbjniiaaGreatDoor
section
open Go Go.RowKit Go.Chron
theorem idx_bound (zs : List Int) (x : Int) : ∀ i : Nat, Lib.idxFrom zs x i = -1 ∨ ∃ k : Nat, k < zs.length ∧ Lib.idxFrom zs x i = ((i + k : Nat) : Int) ∧ zs[k]? = some x := by
 induction zs with
 | nil => intro i; left; rfl
 | cons z r ih =>
  intro i
  unfold Lib.idxFrom
  by_cases h : z = x
  ·right
   exact ⟨0, by simp, by simp [h], by simp [h]⟩
  ·rcases ih (i + 1) with h1 | ⟨k, hk, he, hx⟩
   ·left; simpa [h] using h1
   ·right
    refine ⟨k + 1, by simp; omega, ?_, by simpa using hx⟩
    have : i + 1 + k = i + (k + 1) := by omega
    rw [this] at he
    simpa [h] using he
theorem idx_cases (zs : List Int) (x : Int) : Lib.idxOf zs x = -1 ∨ ∃ k : Nat, k < zs.length ∧ Lib.idxOf zs x = (k : Int) ∧ zs[k]? = some x := by
 rcases idx_bound zs x 0 with h | ⟨k, hk, he, hx⟩
 ·exact .inl h
 ·exact .inr ⟨k, hk, by rw [Nat.zero_add] at he; exact he, hx⟩
def Dm.take (d : Dm) (i : Nat) (h : Int) (x : Sam) : Dm :=
 let ss' := d.ss.set i (rpush 8 (d.ss.getD i []) x)
 let all := (d.clk.run h).all
 let V := selOf ss' h (2 * d.cfg.most * 1000000000) all d.ss.length
 let c := chOf d.cfg.quorum (V.map (·.off))
 if c.2 = 0 then { d with ss := ss', clk := adj d.clk h c.1, theta := c.1, votes := V, chosen := d.chosen + 1 } else { d with ss := ss' }
def Dm.come (d : Dm) (i : Nat) (h : Int) (L : List Int) : Dm × Int :=
 let r := (d.ps.getD i (Pr.new d.cfg 0)).answer h (d.clk.run h).c (d.clk.run h).all L
 let d1 := { d with ps := d.ps.set i r.1 }
 if r.2.2 = 0 then (d1.take i h r.2.1, 0) else (d1, r.2.2)
def Dm.hear (d : Dm) (h addr : Int) (L : List Int) : Dm × Int :=
 if L.length < 48 then (d, 1) else
 let k := Lib.idxOf d.cfg.servers addr
 if k < 0 then (d, 2) else d.come k.toNat h L
theorem index_int (b off n cap : Nat) (L : List Int) (z : Int) (w : World) (hn : n = L.length) (hb : n ≤ 9223372036854775807) (hg : ∀ j z, L[j]? = some z → w.cell? ⟨b, off + j, none⟩ = some (.int .i64 z)) :
  Calls Tryz.prog 78 #[.slice (some ⟨b, off, none⟩) n cap, .int .i64 z] w fun e w' => e = .returned (.int .i64 (Lib.idxOf L z)) ∧ w' = w := by
 have := Tryz.slices_Index_int b off n cap L z w (by omega) hb (fun j hj => by rw [List.getD_eq_getElem?_getD, List.getElem?_eq_getElem hj]; exact hg j _ (List.getElem?_eq_getElem hj))
 rw [List.take_of_length_le (by omega)] at this
 exact this
theorem hearNo91 (N : Nat) (b : Nat) (d : Dm) (B : DB) (w : World) (hd : DAt N w b d B) (kind h addr draw : Int) (a : Option Addr) (n cap : Nat) (y : Int) (hy : (n < 48 ∧ y = 1) ∨ (48 ≤ n ∧ Lib.idxOf d.cfg.servers addr < 0 ∧ y = 2)) :
  Calls Tryz.prog 91 #[.pointer (some ⟨b, 0, none⟩), .agg #[.int .i64 kind, .int .i64 h, .int .i64 addr, .int .u64 draw, .slice a n cap]] w fun e w' => e = .returned (.int .i64 y) ∧ Chg (fun _ => False) w w' := by
 have HD := Lib.hid hd
 have c0 := chg0_alloc w (Obj.cells #[.int .i64 kind, .int .i64 h, .int .i64 addr, .int .u64 draw, .slice a n cap] 68)
 have E0 := Blk.new w 68 #[.int .i64 kind, .int .i64 h, .int .i64 addr, .int .u64 draw, .slice a n cap]
 have D0 := hd.chg0 c0
 obtain ⟨sk, scap, hav, hag, hscap, hscm, hsc⟩ := D0.server
 have hI := Lib.hid (fun W (hW : Chg (fun _ => False) (w.alloc (Obj.cells #[.int .i64 kind, .int .i64 h, .int .i64 addr, .int .u64 draw, .slice a n cap] 68)) W) => index_int sk 0 d.cfg.servers.length scap d.cfg.servers addr W rfl (by omega) (fun j z hz => by rw [Nat.zero_add]; exact hW.keep (hsc j z hz) (fun h => h)))
 have b0 := D0.box.cell 0
 simp [dmc, hav] at b0
 rcases hy with ⟨hn, rfl⟩ | ⟨hn, hk, rfl⟩
 ·have hnI : (n : Int) < 48 := by omega
  clear hsc hd D0
  go_enter Tryz.func91, Tryz.ntmps91
  go_wp2_with fail
  go_ret
  exact ⟨rfl, c0⟩
 ·have hnI : ¬ (n : Int) < 48 := by omega
  generalize Lib.idxOf d.cfg.servers addr = k at *
  generalize d.cfg.servers.length = sl at *
  clear hsc hd D0 hscap
  go_enter Tryz.func91, Tryz.ntmps91
  go_upto_region 1 with (fail)
  generalize w.alloc (Obj.cells #[.int .i64 kind, .int .i64 h, .int .i64 addr, .int .u64 draw, .slice a n cap] 68) = W at *
  generalize hge : w.heap.size = ge at *
  have e2 := E0.cell 2
  have e4 := E0.cell 4
  simp at e2 e4
  go_upto_region 3 with (fail)
  go_quiet (first | (go_at_call 78; exact Calls.quiet_of_same (hI.out _ ((Chg.refl _ _).drewN _))))
  go_wp2_with fail
  go_ret
  exact ⟨rfl, c0.drewN _⟩
theorem map_set_same {α β : Type} (f : α → β) (l : List α) (i : Nat) {x y : α} (hx : l[i]? = some x) (h : f y = f x) : (l.set i y).map f = l.map f := by
 rw [List.map_set, h]
 exact List.set_getElem?_self' (by rw [List.getElem?_map, hx]; rfl)
theorem DAt.restore {N : Nat} {w w' : World} {b : Nat} {d : Dm} {B : DB} {i : Nat} {x : SB} {L : List Sam} {y : Sam} (h : DAt N w b d B) (hx : B.sb[i]? = some x) (hL : d.ss[i]? = some L) (hy : y.Ok) (ha : StoreAdded w x.s x.b x.g x.cnt L y w') :
  ∃ k, DAt (N + 1) w' b { d with ss := d.ss.set i (rpush 8 L y) } { B with sb := B.sb.set i ⟨x.s, x.b, some k, x.cnt + 1⟩ } ∧ Chg (SBk B.sb) w w' ∧ ∀ j, SBk (B.sb.set i ⟨x.s, x.b, some k, x.cnt + 1⟩) j → SBk B.sb j ∨ w.heap.size ≤ j := by
 obtain ⟨k, hs, c0, hk⟩ := h.ss.set hx hL hy ha
 have hxm := List.mem_of_getElem? hx
 have c : Chg (SBk B.sb) w w' := c0.mono (fun j _ e => by
  rcases e with e | e
  ·exact ⟨x, hxm, .inr (.inl e)⟩
  ·exact ⟨x, hxm, .inr (.inr e)⟩)
 have far : ∀ {i : Nat} {t : TypeId} {cs : Array Value}, Blk w i t cs → t ≠ 225 → t ≠ 278 → t ≠ 223 → ¬ SBk B.sb i := fun hi h1 h2 h3 => h.ss.far hi h1 h2 h3
 have farO : ∀ {e : TypeId} {sz : Nat} {v : Value} {g : Option Nat} {els : List (List Value)}, Owns w e sz v g els → e ≠ 225 → e ≠ 278 → e ≠ 223 → ∀ k, g = some k → ¬ SBk B.sb k := fun ho h1 h2 h3 k hk => by
  obtain ⟨cs, hcs⟩ := ho.blk hk
  exact far hcs h1 h2 h3
 refine ⟨k, ⟨h.box.chg c (far h.box (by decide) (by decide) (by decide)), h.srv.chg c (farO h.srv (by decide) (by decide) (by decide)), h.clk.chg c (far h.clk (by decide) (by decide) (by decide)), h.psl.chg c (farO h.psl (by decide) (by decide) (by decide)), ?_, ?_, hs, ?_, by have := h.qn; show 3 * B.qn ≤ 16 * (N + 1 + 3); omega, h.qk, h.cnt.chg c (far h.cnt (by decide) (by decide) (by decide)), h.vot.chg c (farO h.vot (by decide) (by decide) (by decide)), ?_⟩, c, ?_⟩
 ·refine h.ps.chg c (fun i hi e => ?_)
  rcases h.ps.typ hi with ⟨_, h'⟩ | ⟨_, h'⟩
  ·exact far h' (by decide) (by decide) (by decide) e
  ·exact far h' (by decide) (by decide) (by decide) e
 ·show Owns w' 144 1 B.sv B.sg ((B.sb.set i ⟨x.s, x.b, some k, x.cnt + 1⟩).map fun x => [.pointer (some ⟨x.s, 0, none⟩)])
  rw [map_set_same (y := ⟨x.s, x.b, some k, x.cnt + 1⟩) (fun x : SB => [Value.pointer (some ⟨x.s, 0, none⟩)]) B.sb i hx rfl]
  exact h.ssl.chg c (farO h.ssl (by decide) (by decide) (by decide))
 ·refine h.q.chg c (far h.q.box (by decide) (by decide) (by decide)) (fun e => ?_)
  obtain ⟨D, ⟨es, clock, hm, _⟩, _⟩ := h.q.own
  rcases h.ss.typ e with ⟨_, h'⟩ | ⟨_, h'⟩ | ⟨_, h'⟩
  ·unfold Blk at h'; rw [hm] at h'; cases h'
  ·unfold Blk at h'; rw [hm] at h'; cases h'
  ·unfold Blk at h'; rw [hm] at h'; cases h'
 ·obtain ⟨o1, o2, o3, o4, o5, o6, o7, o8, o9, o10, o11, o12, o13⟩ := h.ok
  exact ⟨o1, o2, o3, by show (d.ss.set i _).length = _; rw [List.length_set]; exact o4, o5, fun z hz => by have := o6 z hz; omega, o7, o8, o9, o10, ⟨o11.1, by have := o11.2; show d.chosen ≤ _; omega⟩, o12, o13⟩
 ·intro j hj
  obtain ⟨z, hz, he⟩ := hj
  rcases List.mem_or_eq_of_mem_set hz with hz | rfl
  ·exact .inl ⟨z, hz, he⟩
  ·rcases he with e | e | e
   ·exact .inl ⟨x, hxm, .inl e⟩
   ·exact .inl ⟨x, hxm, .inr (.inl e)⟩
   ·cases e
    rcases hk with hk | hk
    ·exact .inl ⟨x, hxm, .inr (.inr hk)⟩
    ·exact .inr hk
theorem DAt.chose {N : Nat} {w w' : World} {b : Nat} {d : Dm} {B : DB} {k' : Clk} {th ch : Int} {V : List Vt} {v : Value} {g : Option Nat} (h : DAt N w b d B) (c : Chg (fun i => i = b ∨ i = B.kb) w w')
  (hb : Blk w' b 140 (dmc { d with clk := k', theta := th, votes := V, chosen := ch } { B with vv := v, vg := g })) (hk : Blk w' B.kb 204 (clkc k')) (hv : Owns w' 248 6 v g (V.map votec)) (ho : ({ d with clk := k', theta := th, votes := V, chosen := ch } : Dm).Ok N) :
  DAt N w' b { d with clk := k', theta := th, votes := V, chosen := ch } { B with vv := v, vg := g } := by
 have far : ∀ {i : Nat} {t : TypeId} {cs : Array Value}, Blk w i t cs → t ≠ 140 → t ≠ 204 → ¬ (i = b ∨ i = B.kb) := fun hi h1 h2 e => by
  rcases e with e | e
  ·subst e; exact h1 (blk_typ hi h.box)
  ·subst e; exact h2 (blk_typ hi h.clk)
 have farO : ∀ {e : TypeId} {sz : Nat} {v : Value} {g : Option Nat} {els : List (List Value)}, Owns w e sz v g els → e ≠ 140 → e ≠ 204 → ∀ k, g = some k → ¬ (k = b ∨ k = B.kb) := fun ho h1 h2 k hk => by
  obtain ⟨cs, hcs⟩ := ho.blk hk
  exact far hcs h1 h2
 refine ⟨hb, h.srv.chg c (farO h.srv (by decide) (by decide)), hk, h.psl.chg c (farO h.psl (by decide) (by decide)), ?_, h.ssl.chg c (farO h.ssl (by decide) (by decide)), ?_, ?_, h.qn, h.qk, h.cnt.chg c (far h.cnt (by decide) (by decide)), hv, ho⟩
 ·refine h.ps.chg c (fun i hi e => ?_)
  rcases h.ps.typ hi with ⟨_, h'⟩ | ⟨_, h'⟩
  ·exact far h' (by decide) (by decide) e
  ·exact far h' (by decide) (by decide) e
 ·refine h.ss.chg c (fun i hi e => ?_)
  rcases h.ss.typ hi with ⟨_, h'⟩ | ⟨_, h'⟩ | ⟨_, h'⟩
  ·exact far h' (by decide) (by decide) e
  ·exact far h' (by decide) (by decide) e
  ·exact far h' (by decide) (by decide) e
 ·refine h.q.chg c (far h.q.box (by decide) (by decide)) (fun e => ?_)
  obtain ⟨D, ⟨es, clock, hm, _⟩, _⟩ := h.q.own
  have h1 := h.box
  have h2 := h.clk
  unfold Blk at h1 h2
  rcases e with e | e
  ·rw [← show B.qm = b from e, hm] at h1; cases h1
  ·rw [← show B.qm = B.kb from e, hm] at h2; cases h2
theorem DAt.stores {N : Nat} {w : World} {b : Nat} {d : Dm} {B : DB} (h : DAt N w b d B) : ∃ k cap, B.sv = .slice (some ⟨k, 0, none⟩) d.ss.length cap ∧ B.sg = some k ∧ d.ss.length ≤ cap ∧ cap ≤ 9223372036854775807 ∧ (∀ i x, B.sb[i]? = some x → w.cell? ⟨k, i, none⟩ = some (.pointer (some ⟨x.s, 0, none⟩))) ∧ Reads w 1 (some ⟨k, 0, none⟩) ((B.sb.map fun x => Value.pointer (some ⟨x.s, 0, none⟩)).map fun p => [p]) := by
 have hl : (B.sb.map fun x => [Value.pointer (some ⟨x.s, 0, none⟩)]).length = d.ss.length := by rw [List.length_map]; exact h.ss.len
 obtain ⟨k, hk⟩ := h.ssl.pos (by rw [hl, h.ok.ls]; exact h.ok.cfg.n0)
 have ho := h.ssl
 rw [hk] at ho
 obtain ⟨cap, hv, h1, h2⟩ := ho.some_form
 rw [hl] at hv h1
 refine ⟨k, cap, hv, hk, h1, h2, fun i x hx => ?_, ?_⟩
 ·have := ho.cell rfl (i := i) (x := [.pointer (some ⟨x.s, 0, none⟩)]) (by simp [hx]) (j := 0) (u := .pointer (some ⟨x.s, 0, none⟩)) rfl
  simpa using this
 ·have := ho.reads
  rw [List.map_map]
  exact this
theorem SsAt.sts {N : Nat} {w : World} {sb : List SB} {ss : List (List Sam)} (h : SsAt N w sb ss) : StsAt w (sb.map fun x => Value.pointer (some ⟨x.s, 0, none⟩)) ss :=
 ⟨by rw [List.length_map]; exact h.len, fun i v L hv hL => by
  rw [List.getElem?_map] at hv
  cases hx : sb[i]? with
  | none => rw [hx] at hv; cases hv
  | some x =>
   rw [hx] at hv
   cases hv
   exact .inr ⟨x.s, x.b, x.g, x.cnt, rfl, (h.at_ i x L hx hL).1⟩, h.ok⟩
end
section
open Go Go.RowKit Go.Chron
theorem DAt.up {N : Nat} {w : World} {b : Nat} {d : Dm} {B : DB} (h : DAt N w b d B) : DAt (N + 1) w b d B := by
 obtain ⟨h1, h2, h3, h4, h5, h6, h7, h8, h9, h10, h11, h12, h13⟩ := h
 obtain ⟨o1, o2, o3, o4, o5, o6, o7, o8, o9, o10, o11, o12, o13⟩ := h13
 exact ⟨h1, h2, h3, h4, h5, h6, h7.up (Nat.le_succ N), h8, by omega, h10, h11, h12, ⟨o1, o2, o3, o4, o5, fun z hz => by have := o6 z hz; omega, o7, o8, o9, o10, ⟨o11.1, by have := o11.2; omega⟩, o12, o13⟩⟩
theorem keepH {W8 w' : World} {b pk i ge x1 x2 pl pcap n cap : Nat} {h : Int} {a : Addr} (hh : W8.cell? ⟨b, 7, none⟩ = some (.slice (some ⟨pk, 0, none⟩) pl pcap) ∧ W8.cell? ⟨pk, i, none⟩ = some (.pointer (some ⟨x1, 0, none⟩)) ∧ W8.cell? ⟨ge, 1, none⟩ = some (.int .i64 h) ∧ W8.cell? ⟨ge, 4, none⟩ = some (.slice (some a) n cap))
  (hn : ¬ (b = x1 ∨ b = x2) ∧ ¬ (pk = x1 ∨ pk = x2) ∧ ¬ (ge = x1 ∨ ge = x2)) (c : Chg (fun i => i = x1 ∨ i = x2) W8 w') :
  (w'.cell? ⟨b, 7, none⟩ = some (.slice (some ⟨pk, 0, none⟩) pl pcap) ∧ w'.cell? ⟨pk, i, none⟩ = some (.pointer (some ⟨x1, 0, none⟩)) ∧ w'.cell? ⟨ge, 1, none⟩ = some (.int .i64 h) ∧ w'.cell? ⟨ge, 4, none⟩ = some (.slice (some a) n cap)) ∧ Chg (fun i => i = x1 ∨ i = x2) W8 w' :=
 ⟨⟨c.keep hh.1 hn.1, c.keep hh.2.1 hn.2.1, c.keep hh.2.2.1 hn.2.2, c.keep hh.2.2.2 hn.2.2⟩, c⟩
theorem samOk_answer {p : Pr} (o : p.Ok) {cv av : Int} (hc : In64 cv) (ha : In64 av) (h : Int) (L : List Int) (hh : 0 ≤ h ∧ h ≤ 4611686018427387903) : (p.answer h cv av L).2.1.Ok := by
 have z0 : In64 0 := by unfold In64; omega
 have z : Sam.Ok ⟨0, 0, 0, 0⟩ := ⟨z0, z0, z0, z0⟩
 unfold Pr.answer
 split
 ·exact z
 ·split
  ·exact z
  ·simp only
   split
   ·exact z
   ·split
    ·exact z
    ·split
     ·exact z
     ·exact ⟨makeO_in _ _ _ _, makeD_in _ _ _ _, by unfold In64; simp only; omega, ha⟩
theorem VotesAt.base {w0 w w' : World} {v : Value} {g : Option Nat} {L : List Vt} (h : VotesAt w w' v g L) (c : Chg (fun _ => False) w0 w) : VotesAt w0 w' v g L := ⟨h.o, fun k hk => Nat.le_trans c.size (h.n k hk), c.trans h.c⟩
theorem keepU {W w' : World} {b ge uk sln ucap : Nat} {q mo h : Int} (hh : W.cell? ⟨b, 1, none⟩ = some (.int .i64 q) ∧ W.cell? ⟨b, 3, none⟩ = some (.int .i64 mo) ∧ W.cell? ⟨b, 8, none⟩ = some (.slice (some ⟨uk, 0, none⟩) sln ucap) ∧ W.cell? ⟨ge, 1, none⟩ = some (.int .i64 h)) (c : Chg (fun _ => False) W w') :
  (w'.cell? ⟨b, 1, none⟩ = some (.int .i64 q) ∧ w'.cell? ⟨b, 3, none⟩ = some (.int .i64 mo) ∧ w'.cell? ⟨b, 8, none⟩ = some (.slice (some ⟨uk, 0, none⟩) sln ucap) ∧ w'.cell? ⟨ge, 1, none⟩ = some (.int .i64 h)) ∧ Chg (fun _ => False) W w' :=
 ⟨⟨c.keep hh.1 id, c.keep hh.2.1 id, c.keep hh.2.2.1 id, c.keep hh.2.2.2 id⟩, c⟩
theorem selOf_mem (Ls : List (List Sam)) (h life sl : Int) (n : Nat) : ∀ v ∈ selOf Ls h life sl n, 0 ≤ v.srv ∧ v.srv < (n : Int) ∧ In64 v.off := by
 intro v hv
 unfold selOf at hv
 obtain ⟨i, hi, hvi⟩ := List.mem_flatMap.1 hv
 have hi' := List.mem_range.1 hi
 unfold voteOf at hvi
 split at hvi
 ·cases hvi
 ·rw [List.mem_singleton.1 hvi]
  exact ⟨by simp only; omega, by simp only; omega, satSub_in _ _⟩
theorem medOf_in (l : List Int) (h : ∀ z ∈ l, In64 z) : In64 (medOf l) := by
 by_cases hl : l = []
 ·rw [hl, medOf_nil]; unfold In64; omega
 ·exact h _ (med_mem hl)
theorem chOf_in (q : Int) (l : List Int) (h : ∀ z ∈ l, In64 z) : In64 (chOf q l).1 := by
 have z0 : In64 0 := by unfold In64; omega
 unfold chOf
 split
 ·exact z0
 ·split
  ·exact z0
  ·exact medOf_in l h
theorem ans_all (b k : Nat) (p : Pr) (h cv av : Int) (a : Addr) (n cap : Nat) (L : List Int) (hst : p.st = 0 ∨ p.st = 1 ∨ p.st = 2) (W : World)
  (HA : ∀ W' (hW : Chg (fun _ => False) W W') (hst : p.st = 1), Calls Tryz.prog 133 #[.pointer (some ⟨b, 0, none⟩), .int .i64 h, .int .i64 cv, .int .i64 av, .slice (some a) n cap] W' (AnsPost W' b k (p.answer h cv av L)))
  (HB : ∀ W' (hW : Chg (fun _ => False) W W') y (hy : (p.st = 2 ∧ y = 3) ∨ (p.st = 0 ∧ y = 4)), Calls Tryz.prog 133 #[.pointer (some ⟨b, 0, none⟩), .int .i64 h, .int .i64 cv, .int .i64 av, .slice (some a) n cap] W' (AnsPost W' b k (p, ⟨0, 0, 0, 0⟩, y))) :
  ∀ W' (hW : Chg (fun _ => False) W W'), Calls Tryz.prog 133 #[.pointer (some ⟨b, 0, none⟩), .int .i64 h, .int .i64 cv, .int .i64 av, .slice (some a) n cap] W' (AnsPost W' b k (p.answer h cv av L)) := by
 intro W' hW
 rcases hst with h0 | h0 | h0
 ·have := HB W' hW 4 (.inr ⟨h0, rfl⟩)
  rw [show p.answer h cv av L = (p, ⟨0, 0, 0, 0⟩, 4) by unfold Pr.answer; rw [if_neg (by omega), if_pos h0]]
  exact this
 ·exact HA W' hW h0
 ·have := HB W' hW 3 (.inl ⟨h0, rfl⟩)
  rw [show p.answer h cv av L = (p, ⟨0, 0, 0, 0⟩, 3) by unfold Pr.answer; rw [if_pos h0]]
  exact this
theorem hearCome91 (N : Nat) (b : Nat) (d : Dm) (B : DB) (w : World) (hd : DAt N w b d B) (hN : N ≤ 187000) (kind h addr draw : Int) (a : Addr) (n cap : Nat) (L : List Int) (i : Nat) (hi : Lib.idxOf d.cfg.servers addr = (i : Int)) (hil : i < d.cfg.servers.length) (h0 : d.h = h) (h1 : h ≤ 4611686018427387903)
  (hn : n = L.length) (hc : n ≤ cap) (hcm : cap ≤ 9223372036854775807) (h48 : 48 ≤ n) (hL : ∀ x ∈ L, 0 ≤ x ∧ x < 256) (hR : Reads w 1 (some a) (L.map u8c)) :
  Calls Tryz.prog 91 #[.pointer (some ⟨b, 0, none⟩), .agg #[.int .i64 kind, .int .i64 h, .int .i64 addr, .int .u64 draw, .slice (some a) n cap]] w fun e w' => ∃ B', e = .returned (.int .i64 (d.come i h L).2) ∧ DAt (N + 1) w' b (d.come i h L).1 B' ∧ Chg (DBk b B) w w' ∧ ∀ j, DBk b B' j → DBk b B j ∨ w.heap.size ≤ j := by
 have HD := Lib.hid hd
 have c0 := chg0_alloc w (Obj.cells #[.int .i64 kind, .int .i64 h, .int .i64 addr, .int .u64 draw, .slice (some a) n cap] 68)
 have E0 := Blk.new w 68 #[.int .i64 kind, .int .i64 h, .int .i64 addr, .int .u64 draw, .slice (some a) n cap]
 have D0 := hd.chg0 c0
 have R0 := hR.chg c0 (fun _ _ h => h)
 obtain ⟨sk, scap, hav, hag, hscap, hscm, hsc⟩ := D0.server
 have hI := Lib.hid (fun W (hW : Chg (fun _ => False) (w.alloc (Obj.cells #[.int .i64 kind, .int .i64 h, .int .i64 addr, .int .u64 draw, .slice (some a) n cap] 68)) W) => index_int sk 0 d.cfg.servers.length scap d.cfg.servers addr W rfl (by omega) (fun j z hz => by rw [Nat.zero_add]; exact hW.keep (hsc j z hz) (fun h => h)))
 rw [hi] at hI
 have hlp := hd.ok.lp
 have hls := hd.ok.ls
 have hko := hd.ok.clk
 have hkh : d.clk.h ≤ h := by have := hd.ok.hk; omega
 have hrun := Clk.run_ok hko hkh h1
 obtain ⟨x, p, hx, hp, hP⟩ := D0.ps.get (i := i) (by omega)
 have hget : d.ps.getD i (Pr.new d.cfg 0) = p := by rw [List.getD_eq_getElem?_getD, hp]; rfl
 have hcome : d.come i h L = (let r := p.answer h (d.clk.run h).c (d.clk.run h).all L
   let d1 : Dm := { d with ps := d.ps.set i r.1 }
   if r.2.2 = 0 then (d1.take i h r.2.1, 0) else (d1, r.2.2)) := by unfold Dm.come; rw [hget]
 obtain ⟨pk, pcap, hpv, hpg, hpcap, hpcm, hpc⟩ := D0.peer
 have HNN := Lib.hid (show 0 ≤ d.h from hd.ok.h0.1)
 have HO2 := Lib.hid hd.ok.cfg
 have HCHN := Lib.hid hd.ok.ch
 have HDH := Lib.hid h0
 have HKH2 := Lib.hid hkh
 have HCOME := Lib.hid hcome
 have HAV := Lib.hid (And.intro hav hag)
 have HPV := Lib.hid (And.intro hpv hpg)
 have HLEN := Lib.hid (And.intro hlp (And.intro hls hd.ok.cfg.n1))
 have HKO := Lib.hid hko
 have HRUN := Lib.hid hrun
 have HX := Lib.hid hx
 have HPP := Lib.hid hp
 have HPC := Lib.hid hpc
 have HSC := Lib.hid hsc
 have HL := Lib.hid hL
 have HN2 := Lib.hid hn
 have HIL := Lib.hid hil
 have HI0 := Lib.hid hi
 have hnI : ¬ (n : Int) < 48 := by omega
 have hpl : i < d.ps.length := by omega
 have hplI : (i : Int) < d.ps.length := by omega
 have hii : ¬ (i : Int) < 0 := by omega
 have hipc : i < pcap := by omega
 have HC := Lib.hid hc
 have HP := Lib.hid hP
 generalize hcv : (d.clk.run h).c = cv at *
 generalize hall : (d.clk.run h).all = av at *
 have HCV := Lib.hid (And.intro hcv hall)
 have hcin : In64 cv := by rw [← hcv]; exact HRUN.out.c
 have hain : In64 av := by rw [← hall]; exact HRUN.out.all
 have HIN := Lib.hid (And.intro hcin hain)
 have HRD := Lib.hid (fun W (hW : Chg (fun _ => False) (w.alloc (Obj.cells #[.int .i64 kind, .int .i64 h, .int .i64 addr, .int .u64 draw, .slice (some a) n cap] 68)) W) => read58 B.kb d.clk h W (D0.chg0 hW).clk hko hkh h1)
 have HSL := Lib.hid (fun W (hW : Chg (fun _ => False) (w.alloc (Obj.cells #[.int .i64 kind, .int .i64 h, .int .i64 addr, .int .u64 draw, .slice (some a) n cap] 68)) W) => slewed132 B.kb d.clk h W (D0.chg0 hW).clk hko hkh h1)
 rw [hcv] at HRD
 rw [hall] at HSL
 have HD0 := Lib.hid D0
 have HR0 := Lib.hid R0
 have HE0 := Lib.hid E0
 have HC0 := Lib.hid c0
 have b0 := D0.box.cell 0
 have b6 := D0.box.cell 6
 have b7 := D0.box.cell 7
 simp [dmc, hav, hpv] at b0 b6 b7
 obtain ⟨x1, x2⟩ := x
 have pc := hpc i (x1, x2) hx
 simp only at pc hP
 generalize d.ps.length = pl at *
 generalize d.cfg.servers.length = sl at *
 clear hd D0 R0 E0 hsc hlp hls hko hkh hrun hx hp hP hget hcome hpc hL hn hil hi hcv hall hcin hain hR hav hag hpv hpg hscap hscm hpcap hpcm hc
 go_enter Tryz.func91, Tryz.ntmps91
 go_upto_region 1 with (fail)
 generalize w.alloc (Obj.cells #[.int .i64 kind, .int .i64 h, .int .i64 addr, .int .u64 draw, .slice (some a) n cap] 68) = W at *
 generalize hge : w.heap.size = ge at *
 have e1 := HE0.out.cell 1
 have e2 := HE0.out.cell 2
 have e4 := HE0.out.cell 4
 simp at e1 e2 e4
 go_upto_region 3 with (fail)
 go_quiet (first | (go_at_call 78; exact Calls.quiet_of_same (hI.out _ ((Chg.refl _ _).drewN _))))
 go_upto_region 6 with (fail)
 go_cut [6] (fun s6 wx => s6 = .int .i64 cv ∧ Chg (fun _ => False) W wx)
 case first =>
  go_region_with (first | (go_at_call 58; refine (HRD.out _ (((Chg.refl _ _).drewN _).drew)).mono ?_; rintro e w5 ⟨rfl, c5⟩))
  all_goals (go_wp2_with fail; go_meet; exact ⟨rfl, (((Chg.refl _ _).drewN _).drew).trans c5⟩)
 case rest =>
  obtain ⟨rfl, c6⟩ := hcut
  have E6 := HE0.out.chg c6 (fun h => h)
  have X6 := HD0.out.box.chg c6 (fun h => h)
  clear b0 b6 b7 e1 e2 e4
  have b6 := X6.cell 6
  have b7 := X6.cell 7
  simp [dmc, HPV.out.1] at b6 b7
  have e1 := E6.cell 1
  have e4 := E6.cell 4
  simp at e1 e4
  have HC6 := Lib.hid c6
  clear c6 E6 X6
  obtain ⟨W6, rfl⟩ : ∃ W6, W6 = wc := ⟨wc, rfl⟩
  go_upto_region 7 with (fail)
  go_cut [8] (fun s8 wx => s8 = .int .i64 av ∧ Chg (fun _ => False) W6 wx)
  case first =>
   go_region_with (first | (go_at_call 132; refine (HSL.out _ (HC6.out.drew)).mono ?_; rintro e w5 ⟨rfl, c5⟩))
   all_goals (go_wp2_with fail; go_meet; exact ⟨rfl, (chg0_drew _).trans c5⟩)
  case rest =>
   obtain ⟨rfl, c7⟩ := hcut
   have c8 := HC6.out.trans c7
   have E8 := HE0.out.chg c8 (fun h => h)
   have X8 := HD0.out.box.chg c8 (fun h => h)
   have D8 := HD0.out.chg0 c8
   have pc8 := c8.keep pc (fun h => h)
   have R8 := HR0.out.chg c8 (fun _ _ h => h)
   have HA := Lib.hid (fun W' (hW : Chg (fun _ => False) wc W') (hst : p.st = 1) => answer133 x1 x2 p h cv av a n cap L W' ((HP.out.chg0 c8).chg0 hW) hst ⟨by have := HNN.out; omega, h1⟩ HIN.out.1 HIN.out.2 HN2.out HC.out hcm h48 HL.out (R8.chg hW (fun _ _ h => h)))
   have HB := Lib.hid (fun W' (hW : Chg (fun _ => False) wc W') y (hy : (p.st = 2 ∧ y = 3) ∨ (p.st = 0 ∧ y = 4)) => ansNo133 x1 x2 p h cv av (.slice (some a) n cap) W' ((HP.out.chg0 c8).chg0 hW) y hy)
   have HANS := Lib.hid (ans_all x1 x2 p h cv av a n cap L HP.out.o.st wc HA.out HB.out)
   clear b6 b7 e1 e4 HA HB
   have b7 := X8.cell 7
   simp [dmc, HPV.out.1] at b7
   have e1 := E8.cell 1
   have e4 := E8.cell 4
   simp at e1 e4
   have HD8 := Lib.hid D8
   have HE8 := Lib.hid E8
   have HC8 := Lib.hid c8
   clear c7 c8 E8 X8 D8 pc R8 HRD HSL hI HC6 HD0 HR0 HE0
   obtain ⟨W8, rfl⟩ : ∃ W8, W8 = wc := ⟨wc, rfl⟩
   generalize hr : p.answer h cv av L = r at *
   obtain ⟨r1, ⟨so, sd, stt, ss⟩, y⟩ := r
   unfold AnsPost samCells at HANS
   simp only at HANS
   go_upto_region 8 with (fail)
   have nb7 : ∀ o, (W8.alloc o).cell? ⟨b, 7, none⟩ = some (.slice (some ⟨pk, 0, none⟩) pl pcap) := fun o => by have := (HD8.out.box.alloc o).cell 7; simpa [dmc, HPV.out.1] using this
   have ne1 : ∀ o, (W8.alloc o).cell? ⟨ge, 1, none⟩ = some (.int .i64 h) := fun o => by have := (HE8.out.alloc o).cell 1; simpa using this
   have ne4 : ∀ o, (W8.alloc o).cell? ⟨ge, 4, none⟩ = some (.slice (some a) n cap) := fun o => by have := (HE8.out.alloc o).cell 4; simpa using this
   have npc : ∀ o, (W8.alloc o).cell? ⟨pk, i, none⟩ = some (.pointer (some ⟨x1, 0, none⟩)) := fun o => ((chg0_alloc W8 o).keep pc8 (fun h => h))
   have hnot : ¬ (b = x1 ∨ b = x2) ∧ ¬ (pk = x1 ∨ pk = x2) ∧ ¬ (ge = x1 ∨ ge = x2) := by
    have hP8 := HD8.out.ps.at_ i (x1, x2) p HX.out HPP.out
    obtain ⟨cs, hcs⟩ := HD8.out.psl.blk (by exact HPV.out.2)
    refine ⟨?_, ?_, ?_⟩
    ·rintro (e | e)
     ·exact absurd (blk_typ (e ▸ HD8.out.box) hP8.b) (by decide)
     ·exact absurd (blk_typ (e ▸ HD8.out.box) hP8.k) (by decide)
    ·rintro (e | e)
     ·exact absurd (blk_typ (e ▸ hcs) hP8.b) (by decide)
     ·exact absurd (blk_typ (e ▸ hcs) hP8.k) (by decide)
    ·rintro (e | e)
     ·exact absurd (blk_typ (e ▸ HE8.out) hP8.b) (by decide)
     ·exact absurd (blk_typ (e ▸ HE8.out) hP8.k) (by decide)
   have hp1 := HD8.out.lt (i := x1) (.inr (.inr (.inr (.inr (.inr (.inr (.inr (.inr (.inr (.inl (PB.of HX.out x1 (.inl rfl))))))))))))
   have hp2 := HD8.out.lt (i := x2) (.inr (.inr (.inr (.inr (.inr (.inr (.inr (.inr (.inr (.inl (PB.of HX.out x2 (.inr rfl))))))))))))
   go_cut [10, 11] (fun s10 s11 wx => s11 = .int .i64 y ∧ ∃ gp, s10 = .pointer (some ⟨gp, 0, none⟩) ∧ Blk wx gp 223 #[.int .i64 so, .int .i64 sd, .int .i64 stt, .int .i64 ss] ∧ W8.heap.size ≤ gp ∧ PeerAt wx x1 x2 r1 ∧ Chg (fun i => i = x1 ∨ i = x2) W8 wx)
   case first =>
    have HKH := Lib.hid (And.intro b7 (And.intro pc8 (And.intro e1 e4)))
    have HPG := Lib.hid hnot
    clear nb7 ne1 ne4 npc
    go_region_held3 (fun w' => (w'.cell? ⟨b, 7, none⟩ = some (.slice (some ⟨pk, 0, none⟩) pl pcap) ∧ w'.cell? ⟨pk, i, none⟩ = some (.pointer (some ⟨x1, 0, none⟩)) ∧ w'.cell? ⟨ge, 1, none⟩ = some (.int .i64 h) ∧ w'.cell? ⟨ge, 4, none⟩ = some (.slice (some a) n cap)) ∧ Chg (fun i => i = x1 ∨ i = x2) W8 w')
     (refine keepH HKH.out HPG.out ?_ <;> (repeat (first | (with_reducible exact Chg.refl _ _) | assumption | (with_reducible apply Chg.drewN) | (with_reducible apply Chg.drew) | (with_reducible apply Chg.alloc) | (refine Chg.setCell ?_ (fun h => absurd h (Nat.lt_irrefl _)) _))))
     (first | (go_at_call 133; refine (HANS.out _ (by repeat (first | (with_reducible exact Chg.refl _ _) | (with_reducible apply Chg.drew) | (with_reducible apply Chg.alloc)))).mono ?_; rintro e w9 ⟨rfl, p9, c9⟩; have hsz9 := c9.size; have cT := Chg.trans (S := fun i => i = x1 ∨ i = x2) (w := W8) (by repeat (first | (with_reducible exact Chg.refl _ _) | (with_reducible apply Chg.drew) | (with_reducible apply Chg.alloc))) c9; try (have N9 := Blk.chg (Blk.new W8.drew 223 #[.int .i64 0, .int .i64 0, .int .i64 0, .int .i64 0]) c9 (fun e => by rcases e with e | e <;> (have e' : W8.heap.size = _ := e; omega)); have m0 := N9.cell 0; have m1 := N9.cell 1; have m2 := N9.cell 2; have m3 := N9.cell 3; have f0 := N9.frozen 0; have f1 := N9.frozen 1; have f2 := N9.frozen 2; have f3 := N9.frozen 3; simp at m0 m1 m2 m3 f0 f1 f2 f3)))
    ·go_wp2_with fail
     go_meet
     exact ⟨rfl, _, rfl, Blk.new _ _ _, hsz9, p9.chg0 (chg0_alloc _ _), cT.alloc _⟩
    ·obtain ⟨E, e⟩ := set4 N9 (.int .i64 so) (.int .i64 sd) (.int .i64 stt) (.int .i64 ss)
     have hh1 : ∀ k : Nat, k < W8.heap.size → ¬ k = W8.drew.heap.size := fun k hk e' => by have e2 : k = W8.heap.size := e'; omega
     have PE := p9.chg e (hh1 _ hp1) (hh1 _ hp2)
     have CE := cT.trans' (S := fun i => i = x1 ∨ i = x2) e (fun i hi e => absurd e (hh1 i hi))
     go_wp2_with fail
     go_meet
     exact ⟨rfl, _, rfl, E, Nat.le_refl _, PE, CE⟩
   case rest =>
    obtain ⟨rfl, gp, rfl, SB9, hgp, P9, c9⟩ := hcut
    have D9 := HD8.out.reps c9 (fun k hk => .inl (PB.of HX.out k hk)) (HD8.out.ps.set HX.out P9 c9) (by simp)
    have E9 := HE8.out.chg c9 hnot.2.2
    have cw : Chg (DBk b B) w wc := ((HC0.out.trans HC8.out).mono (fun _ _ h => h.elim)).trans (c9.mono (fun k _ hk => .inr (.inr (.inr (.inr (.inr (.inr (.inr (.inr (.inr (.inl (PB.of HX.out k hk))))))))))))
    clear b7 e1 e4 pc8 nb7 ne1 ne4 npc hnot hp1 hp2 c9 P9 HANS
    have HCM := HCOME.out
    simp only at HCM
    obtain ⟨d1, hd1⟩ : ∃ d1 : Dm, d1 = { d with ps := d.ps.set i r1 } := ⟨_, rfl⟩
    rw [← hd1] at D9 HCM
    have q1 : d1.cfg = d.cfg := by rw [hd1]
    have q2 : d1.clk = d.clk := by rw [hd1]
    have q3 : d1.ss = d.ss := by rw [hd1]
    have q4 : d1.h = d.h := by rw [hd1]
    have q5 : d1.chosen = d.chosen := by rw [hd1]
    have HQ := Lib.hid (And.intro q1 (And.intro q2 (And.intro q3 q4)))
    have HQ5 := Lib.hid q5
    clear q1 q2 q3 q4 q5 hd1
    by_cases hy : y = 0
    ·subst hy
     rw [if_pos rfl] at HCM
     have HCM2 := Lib.hid HCM
     clear HCM
     obtain ⟨W9, rfl⟩ : ∃ W9, W9 = wc := ⟨wc, rfl⟩
     obtain ⟨st, LL, hst, hLL, hS, hcnt⟩ := D9.ss.get (i := i) (by rw [HQ.out.2.2.1, HLEN.out.2.1]; exact HIL.out)
     obtain ⟨tk, tcap, hsv, hsg, htc, htm, htp, htr⟩ := D9.stores
     have hyok : Sam.Ok ⟨so, sd, stt, ss⟩ := by
      have := samOk_answer HP.out.o HIN.out.1 HIN.out.2 h L ⟨by have := HNN.out; omega, h1⟩
      rw [hr] at this
      exact this
     have HST := Lib.hid (fun W' (hW : Chg (fun _ => False) W9 W') => storeAdd st.s st.b st.g st.cnt LL so sd stt ss W' (hS.chg0 hW) (by omega))
     have t8 := D9.box.cell 8
     simp [dmc, hsv] at t8
     have t9 := htp i st hst
     have s0 := SB9.cell 0
     have s1 := SB9.cell 1
     have s2 := SB9.cell 2
     have s3 := SB9.cell 3
     simp at s0 s1 s2 s3
     have HD9 := Lib.hid D9
     have HE9 := Lib.hid E9
     have HSTB := Lib.hid hst
     have HLL := Lib.hid hLL
     have HYOK := Lib.hid hyok
     have HCW := Lib.hid cw
     have hsl : i < d1.ss.length := by rw [HQ.out.2.2.1, HLEN.out.2.1]; exact HIL.out
     have hslI : (i : Int) < d1.ss.length := by omega
     have hslc : i < tcap := by omega
     generalize hslne : d1.ss.length = sln at *
     have HSLN := Lib.hid hslne
     clear D9 E9 hst hLL hS htp htr hyok SB9 cw hsv hsg hcnt hslne
     go_upto_region 11 with (fail)
     go_cut [] (fun wx => StoreAdded W9.drew st.s st.b st.g st.cnt LL ⟨so, sd, stt, ss⟩ wx)
     case first =>
      go_region_with (first | (go_at_call 134; refine (HST.out _ (chg0_drew _)).mono ?_; rintro e w5 ⟨rfl, a5⟩))
      all_goals (go_wp2_with fail; go_meet; exact a5)
     case rest =>
      have D9 := HD9.out.chg0 (chg0_drew W9)
      obtain ⟨kk, D10, c10, f10⟩ := D9.restore HSTB.out HLL.out HYOK.out hcut
      have E10 := (HE9.out.drew).chg c10 (HD9.out.ss.far HE9.out (by decide) (by decide) (by decide))
      have cw10 := HCW.out.trans ((((chg0_drew W9).mono (S' := DBk b B) (fun _ _ h => h.elim))).trans (c10.mono (fun k _ hk => .inr (.inr (.inr (.inr (.inr (.inr (.inr (.inr (.inr (.inr hk))))))))))))
      have hget2 : d1.ss.getD i [] = LL := by rw [List.getD_eq_getElem?_getD, HLL.out]; rfl
      have hsz9 : w.heap.size ≤ W9.drew.heap.size := by have := HCW.out.size; exact this
      obtain ⟨B2, hB2⟩ : ∃ B2 : DB, B2 = { B with sb := B.sb.set i ⟨st.s, st.b, some kk, st.cnt + 1⟩ } := ⟨_, rfl⟩
      obtain ⟨d2, hd2⟩ : ∃ d2 : Dm, d2 = { d1 with ss := d1.ss.set i (rpush 8 LL ⟨so, sd, stt, ss⟩) } := ⟨_, rfl⟩
      rw [← hB2, ← hd2] at D10
      have hDB : ∀ j, DBk b B2 j → DBk b B j ∨ w.heap.size ≤ j := by
       intro j hj
       rw [hB2] at hj
       rcases hj with hj | hj | hj | hj | hj | hj | hj | hj | hj | hj | hj
       ·exact .inl (.inl hj)
       ·exact .inl (.inr (.inl hj))
       ·exact .inl (.inr (.inr (.inl hj)))
       ·exact .inl (.inr (.inr (.inr (.inl hj))))
       ·exact .inl (.inr (.inr (.inr (.inr (.inl hj)))))
       ·exact .inl (.inr (.inr (.inr (.inr (.inr (.inl hj))))))
       ·exact .inl (.inr (.inr (.inr (.inr (.inr (.inr (.inl hj)))))))
       ·exact .inl (.inr (.inr (.inr (.inr (.inr (.inr (.inr (.inl hj))))))))
       ·exact .inl (.inr (.inr (.inr (.inr (.inr (.inr (.inr (.inr (.inl hj)))))))))
       ·exact .inl (.inr (.inr (.inr (.inr (.inr (.inr (.inr (.inr (.inr (.inl hj))))))))))
       ·rcases f10 j hj with hj | hj
        ·exact .inl (.inr (.inr (.inr (.inr (.inr (.inr (.inr (.inr (.inr (.inr hj))))))))))
        ·exact .inr (Nat.le_trans hsz9 hj)
      have p1 : d2.cfg = d.cfg := by rw [hd2]; exact HQ.out.1
      have p2 : d2.clk = d.clk := by rw [hd2]; exact HQ.out.2.1
      have p3 : d2.h = d.h := by rw [hd2]; exact HQ.out.2.2.2
      have p4 : d2.ss.length = sln := by rw [hd2]; show (d1.ss.set i _).length = _; rw [List.length_set]; exact HSLN.out
      have p5 : d2.chosen = d.chosen := by rw [hd2]; exact HQ5.out
      have HP5 := Lib.hid p5
      have htake : d1.take i h ⟨so, sd, stt, ss⟩ = (let c := chOf d2.cfg.quorum ((selOf d2.ss h (2 * d2.cfg.most * 1000000000) av sln).map (·.off))
        if c.2 = 0 then { d2 with clk := adj d2.clk h c.1, theta := c.1, votes := selOf d2.ss h (2 * d2.cfg.most * 1000000000) av sln, chosen := d2.chosen + 1 } else d2) := by
       have hav1 : (d1.clk.run h).all = av := by rw [HQ.out.2.1]; exact HCV.out.2
       unfold Dm.take
       rw [hget2, HSLN.out, hav1, hd2]
      have HTK := Lib.hid htake
      have HPD := Lib.hid (And.intro p1 (And.intro p2 (And.intro p3 p4)))
      have HDB := Lib.hid hDB
      have HD10 := Lib.hid D10
      have HE10 := Lib.hid E10
      have HC10 := Lib.hid cw10
      clear hcut t8 t9 s0 s1 s2 s3 c10 D9 htake p1 p2 p3 p4 p5 hDB hd2 hB2 f10 E10 cw10 hget2 hsz9
      obtain ⟨W10, rfl⟩ : ∃ W10, W10 = wc := ⟨wc, rfl⟩
      have hlife : In64 (2 * d2.cfg.most * 1000000000) := by rw [HPD.out.1]; have := HO2.out.mo; have := HO2.out.le; unfold In64; omega
      have hmo : 4 ≤ d2.cfg.most ∧ d2.cfg.most ≤ 1024 := by rw [HPD.out.1]; have := HO2.out.mo; have := HO2.out.le; omega
      have hqu : ¬ d2.cfg.quorum < 1 := by rw [HPD.out.1]; have := HO2.out.qu; omega
      obtain ⟨uk, ucap, husv, husg, huc, hum, hup, hur⟩ := HD10.out.stores
      rw [HPD.out.2.2.2] at husv huc
      have hSEL := fun W' (hW : Chg (fun _ => False) W10 W') => select44 d2.cfg.quorum (some ⟨uk, 0, none⟩) sln ucap (B2.sb.map fun x => Value.pointer (some ⟨x.s, 0, none⟩)) d2.ss h (2 * d2.cfg.most * 1000000000) av ⟨by have := HNN.out; omega, by omega⟩ HIN.out.2 W' (by rw [List.length_map, HD10.out.ss.len, HPD.out.2.2.2]) huc hum (hur.chg hW (fun _ _ h => h)) (HD10.out.ss.chg0 hW).sts (by have := HLEN.out; have := HO2.out.n1; have := HSLN.out; rw [HQ.out.2.2.1] at this; omega)
      have u1 := HD10.out.box.cell 1
      have u3 := HD10.out.box.cell 3
      have u8 := HD10.out.box.cell 8
      simp [dmc, husv] at u1 u3 u8
      have e1 := HE10.out.cell 1
      simp at e1
      simp only [if_neg hqu] at hSEL
      have HSEL := Lib.hid hSEL
      have HUK := Lib.hid husv
      generalize hV : selOf d2.ss h (2 * d2.cfg.most * 1000000000) av sln = V at *
      generalize hch : chOf d2.cfg.quorum (V.map (·.off)) = ch at *
      obtain ⟨ch1, ch2⟩ := ch
      clear hSEL husv husg hup hur hlife
      obtain ⟨m0, m1⟩ := hmo
      have hwr : IntKind.i64.wrap (IntKind.i64.wrap (2 * d2.cfg.most) * 1000000000) = 2 * d2.cfg.most * 1000000000 := by rw [IntKind.wrap_i64, IntKind.wrap_i64]; omega
      have HWR := Lib.hid hwr
      clear hwr
      go_upto_region 12 with (fail)
      go_cut [12, 13, 14] (fun s12 s13 s14 wx => s12 = .int .i64 ch1 ∧ s14 = .int .i64 ch2 ∧ ∃ g, VotesAt W10 wx s13 g V)
      case first =>
       have HKU := Lib.hid (And.intro u1 (And.intro u3 (And.intro u8 e1)))
       go_region_held3 (fun w' => (w'.cell? ⟨b, 1, none⟩ = some (.int .i64 d2.cfg.quorum) ∧ w'.cell? ⟨b, 3, none⟩ = some (.int .i64 d2.cfg.most) ∧ w'.cell? ⟨b, 8, none⟩ = some (.slice (some ⟨uk, 0, none⟩) sln ucap) ∧ w'.cell? ⟨ge, 1, none⟩ = some (.int .i64 h)) ∧ Chg (fun _ => False) W10 w')
        (refine keepU HKU.out ?_ <;> (repeat (first | (with_reducible exact Chg.refl _ _) | assumption | (with_reducible apply Chg.drewN) | (with_reducible apply Chg.drew) | (with_reducible apply Chg.alloc))))
        (first | (go_at_call 135; rw [HWR.out]; refine (HSEL.out _ (by repeat (first | (with_reducible exact Chg.refl _ _) | (with_reducible apply Chg.drew) | (with_reducible apply Chg.alloc)))).mono ?_; rintro e wv ⟨v, g, rfl, V5⟩; have cT := Chg.trans (S := fun _ => False) (w := W10) (by repeat (first | (with_reducible exact Chg.refl _ _) | (with_reducible apply Chg.drew) | (with_reducible apply Chg.alloc))) V5.c))
       all_goals (go_wp2_with fail; go_meet; exact ⟨rfl, rfl, g, V5.base (chg0_drew _)⟩)
      case rest =>
       obtain ⟨rfl, rfl, g, V12⟩ := hcut
       have D12 := HD10.out.chg0 V12.c
       have E12 := HE10.out.chg V12.c (fun h => h)
       have cw12 := HC10.out.trans (V12.c.mono (S' := DBk b B) (fun _ _ h => h.elim))
       have HTK2 := HTK.out
       simp only at HTK2
       clear u1 u3 u8 e1 HSEL
       by_cases hc2 : ch2 = 0
       ·rw [if_pos hc2] at HTK2
        subst hc2
        have HAD := Lib.hid (adjust136 B2.kb d2.clk h ch1 wc D12.clk (by rw [HPD.out.2.1]; exact HKO.out) (by rw [HPD.out.2.1]; have := HKH2.out; exact this) h1)
        have u6 := D12.box.cell 6
        simp [dmc] at u6
        have e1 := E12.cell 1
        simp at e1
        have HD12 := Lib.hid D12
        have HV12 := Lib.hid V12
        have HC12 := Lib.hid cw12
        have HTK3 := Lib.hid HTK2
        have HHV := Lib.hid hV
        have HCH := Lib.hid hch
        clear D12 E12 V12 cw12 HTK2 hV hch
        obtain ⟨W12, rfl⟩ : ∃ W12, W12 = wc := ⟨wc, rfl⟩
        obtain ⟨va, vcap, hvv, hvl, hvm, hvr⟩ := HV12.out.form rfl
        generalize hvlen : V.length = vlen at *
        subst hvv
        go_upto_region 14 with (fail)
        go_cut [] (fun wx => Blk wx B2.kb 204 (clkc (adj d2.clk h ch1)) ∧ Chg (fun k => k = B2.kb) W12.drew wx)
        case first =>
         go_region_with (first | (go_at_call 136; refine (adjust136 B2.kb d2.clk h ch1 _ (HD12.out.chg0 (chg0_drew _)).clk (by rw [HPD.out.2.1]; exact HKO.out) (by rw [HPD.out.2.1]; exact HKH2.out) h1).mono ?_; rintro e w5 ⟨rfl, k5, c5⟩))
         all_goals (go_wp2_with fail; go_meet; exact ⟨k5, c5⟩)
        case rest =>
         obtain ⟨K13, c13⟩ := hcut
         have hbk : ¬ b = B2.kb := fun e => by have h1 := HD12.out.box; rw [e] at h1; exact absurd (blk_typ h1 HD12.out.clk) (by decide)
         have X13 := (HD12.out.box.drew).chg c13 hbk
         clear u6 e1
         have u13 := X13.cell 13
         have u14 := X13.cell 14
         have u15 := X13.cell 15
         have f13 := X13.frozen 13
         have f14 := X13.frozen 14
         have f15 := X13.frozen 15
         simp [dmc] at u13 u14 u15
         have hchn := HD12.out.ok.ch
         have hch0 : 0 ≤ d2.chosen := hchn.1
         have hch1 : d2.chosen ≤ 190000 := by have := hchn.2; omega
         have XN := ((X13.set_ 13 (.int .i64 ch1)).set_ 14 (.slice va vlen vcap)).set_ 15 (.int .i64 (d2.chosen + 1))
         have cN : Chg (fun k => k = b) wc _ := (((Chg.refl (fun k => k = b) wc).setCell (p := ⟨b, 13, none⟩) (fun _ => rfl) (.int .i64 ch1)).setCell (p := ⟨b, 14, none⟩) (fun _ => rfl) (.slice va vlen vcap)).setCell (p := ⟨b, 15, none⟩) (fun _ => rfl) (.int .i64 (d2.chosen + 1))
         have KN := K13.chg cN (fun e => hbk e.symm)
         have vfar : ∀ k, g = some k → ¬ (k = B2.kb) ∧ ¬ (k = b) := fun k hk => by
          obtain ⟨cs, hcs⟩ := HV12.out.o.blk hk
          exact ⟨fun e => by rw [e] at hcs; exact absurd (blk_typ hcs HD12.out.clk) (by decide), fun e => by rw [e] at hcs; exact absurd (blk_typ hcs HD12.out.box) (by decide)⟩
         have VN := (((HV12.out.o.drew).chg c13 (fun k hk => (vfar k hk).1)).chg cN (fun k hk => (vfar k hk).2))
         have cAll : Chg (fun k => k = b ∨ k = B2.kb) W12 _ := (((chg0_drew W12).mono (S' := fun k => k = b ∨ k = B2.kb) (fun _ _ h => h.elim)).trans (c13.mono (fun _ _ h => .inr h))).trans (cN.mono (fun _ _ h => .inl h))
         have okN : ({ d2 with clk := adj d2.clk h ch1, theta := ch1, votes := V, chosen := d2.chosen + 1 } : Dm).Ok (N + 1) := by
          obtain ⟨o1, o2, o3, o4, o5, o6, o7, o8, o9, o10, o11, o12, o13⟩ := HD12.out.ok
          have hVs := fun v hv => selOf_mem d2.ss h (2 * d2.cfg.most * 1000000000) av sln v (by rw [HHV.out]; exact hv)
          have hsl2 : sln = d2.cfg.servers.length := by rw [← o4, HPD.out.2.2.2]
          refine ⟨o1, adj_ok o2 (by rw [HPD.out.2.1]; exact HKH2.out) h1 ch1, o3, o4, o5, o6, ?_, o8, o9, ?_, ?_, ?_, ?_⟩
          ·show h ≤ d2.h
           rw [HPD.out.2.2.1, HDH.out]; exact Int.le_refl _
          ·have := chOf_in d2.cfg.quorum (V.map (·.off)) (fun z hz => by
            obtain ⟨v, hv, rfl⟩ := List.mem_map.1 hz
            exact (hVs v hv).2.2)
           rw [HCH.out] at this
           exact this
          ·have := HCHN.out
           show 0 ≤ d2.chosen + 1 ∧ d2.chosen + 1 ≤ ((N + 1 : Nat) : Int)
           rw [HP5.out]
           omega
          ·intro v hv
           have := hVs v hv
           rw [← hsl2]
           exact ⟨this.1, this.2.1⟩
          ·show V.length ≤ d2.cfg.servers.length
           rw [← hsl2, ← HHV.out]
           exact selOf_len _ _ _ _ _
         have DN := HD12.out.chose (v := .slice va vlen vcap) (g := g) cAll (by simpa [dmc] using XN) KN VN okN
         have hsz12 := HC12.out.size
         have cEnd := HC12.out.trans' cAll (S := DBk b B) (fun j hj e => by
          rcases e with e | e
          ·exact .inl e
          ·rcases HDB.out j (.inr (.inl e)) with h' | h'
           ·exact h'
           ·omega)
         have HDN := Lib.hid DN
         have HCE := Lib.hid cEnd
         clear XN cN KN VN cAll DN cEnd K13 c13 X13 vfar hchn okN
         have hgn := HV12.out.n
         have hsz10 := HC10.out.size
         go_wp2_with fail
         go_ret
         refine ⟨by rw [HCM2.out]; rfl, { B2 with vv := .slice va vlen vcap, vg := g }, ?_, HCE.out, ?_⟩
         ·rw [HCM2.out]
          show DAt _ _ _ (d1.take i h ⟨so, sd, stt, ss⟩) _
          rw [HTK3.out]
          exact HDN.out
         ·intro j hj
          have hh : ∀ j, DBk b B2 j → DBk b B j ∨ ge ≤ j := fun j hj => by
           rcases HDB.out j hj with h' | h'
           ·exact .inl h'
           ·right; omega
          rcases hj with hj | hj | hj | hj | hj | hj | hj | hj | hj | hj
          ·exact .inl (.inl hj)
          ·exact hh j (.inr (.inl hj))
          ·exact hh j (.inr (.inr (.inl hj)))
          ·exact hh j (.inr (.inr (.inr (.inl hj))))
          ·exact hh j (.inr (.inr (.inr (.inr (.inl hj)))))
          ·exact hh j (.inr (.inr (.inr (.inr (.inr (.inl hj))))))
          ·exact hh j (.inr (.inr (.inr (.inr (.inr (.inr (.inl hj)))))))
          ·exact hh j (.inr (.inr (.inr (.inr (.inr (.inr (.inr (.inl hj))))))))
          ·have := hgn j hj
           right; omega
          ·exact hh j (.inr (.inr (.inr (.inr (.inr (.inr (.inr (.inr (.inr hj)))))))))
       ·rw [if_neg hc2] at HTK2
        have HD12 := Lib.hid D12
        have HC12 := Lib.hid cw12
        have HTK3 := Lib.hid HTK2
        clear D12 E12 V12 cw12 HTK2 hV hch
        go_wp2_with fail
        go_ret
        refine ⟨by rw [HCM2.out]; rfl, B2, ?_, HC12.out, ?_⟩
        ·rw [HCM2.out]
         show DAt _ _ _ (d1.take i h ⟨so, sd, stt, ss⟩) _
         rw [HTK3.out]
         exact HD12.out
        ·intro j hj
         rcases HDB.out j hj with h' | h'
         ·exact .inl h'
         ·right; omega
    ·rw [if_neg hy] at HCM
     go_wp2_with fail
     go_ret
     exact ⟨by first | rfl | rw [HCM], B, by first | exact D9.up | (rw [HCM]; exact D9.up), cw, fun j hj => .inl hj⟩
end
end Go.Proofs.YtamhicdhbjniiaaGreatDoor
