/- daemon.tick: contract. -/
import Derived.Test.YtamhicdhbjniiaaGreatDoorM32
import Derived.Deep.RegionWith
import Derived.BigRegion
import Derived.Deep.CutBlock
import Derived.StillTailTactics
set_option linter.unusedVariables false
set_option maxHeartbeats 3200000
set_option maxRecDepth 100000
namespace Go.Proofs.YtamhicdhbjniiaaGreatDoor
section
open Go Go.RowKit Go.Chron
structure SendsAt (w w' : World) (v : Value) (g : Option Nat) (l : List (Int × List Int)) (vs : List (Value × Option Nat)) : Prop where
 len : vs.length = l.length
 o : Owns w' 80 2 v g ((l.zip vs).map fun x => [.int .i64 x.1.1, x.2.1])
 n : ∀ k, g = some k → w.heap.size ≤ k
 each : ∀ (i : Nat) x y, l[i]? = some x → vs[i]? = some y → Owns w' 5 1 y.1 y.2 (x.2.map u8c) ∧ ∀ k, y.2 = some k → w.heap.size ≤ k
theorem SendsAt.chg {w w' w'' : World} {v : Value} {g : Option Nat} {l : List (Int × List Int)} {vs : List (Value × Option Nat)} {S : Nat → Prop} (h : SendsAt w w' v g l vs) (c : Chg S w' w'') (hS : ∀ k, w.heap.size ≤ k → (g = some k ∨ ∃ y ∈ vs, y.2 = some k) → ¬ S k) : SendsAt w w'' v g l vs :=
 ⟨h.len, h.o.chg c (fun k hk => hS k (h.n k hk) (.inl hk)), h.n, fun i x y hx hy => by
  obtain ⟨a, b⟩ := h.each i x y hx hy
  exact ⟨a.chg c (fun k hk => hS k (b k hk) (.inr ⟨y, List.mem_of_getElem? hy, hk⟩)), b⟩⟩
theorem SendsAt.chg0 {w w' w'' : World} {v : Value} {g : Option Nat} {l : List (Int × List Int)} {vs : List (Value × Option Nat)} (h : SendsAt w w' v g l vs) (c : Chg (fun _ => False) w' w'') : SendsAt w w'' v g l vs := h.chg c (fun _ _ _ h => h)
theorem SendsAt.blk {w w' : World} {v : Value} {g : Option Nat} {l : List (Int × List Int)} {vs : List (Value × Option Nat)} (h : SendsAt w w' v g l vs) {k : Nat} (hk : g = some k ∨ ∃ y ∈ vs, y.2 = some k) : (∃ cs, Blk w' k 80 cs) ∨ ∃ cs, Blk w' k 5 cs := by
 rcases hk with hk | ⟨y, hy, hk⟩
 ·exact .inl (h.o.blk hk)
 ·obtain ⟨j, hj, hyj⟩ := List.getElem_of_mem hy
  have h1 : vs[j]? = some y := by rw [← hyj]; exact List.getElem?_eq_getElem hj
  have h2 : l[j]? = some (l[j]'(by rw [← h.len]; exact hj)) := List.getElem?_eq_getElem _
  exact .inr ((h.each j _ _ h2 h1).1.blk hk)
theorem info_send : (Tryz.prog.info? 80).map (fun i => (i.zero, i.size, i.bytes)) = some (some (.agg #[.int .i64 0, .slice none 0 0]), 2, 32) := by kernel_rfl
theorem SendsAt.base {w0 w w' : World} {v : Value} {g : Option Nat} {l : List (Int × List Int)} {vs : List (Value × Option Nat)} (h : SendsAt w w' v g l vs) (hsz : w0.heap.size ≤ w.heap.size) : SendsAt w0 w' v g l vs :=
 ⟨h.len, h.o, fun k hk => Nat.le_trans hsz (h.n k hk), fun i x y hx hy => ⟨(h.each i x y hx hy).1, fun k hk => Nat.le_trans hsz ((h.each i x y hx hy).2 k hk)⟩⟩
theorem SendsAt.nil (w w' : World) : SendsAt w w' (.slice none 0 0) none [] [] := ⟨rfl, Owns.nil _ _ _, by simp, by simp⟩
theorem DAt.rebox {N : Nat} {w w' : World} {b : Nat} {d d' : Dm} {B : DB} (h : DAt N w b d B) (c : Chg (fun i => i = b) w w') (hb : Blk w' b 140 (dmc d' B)) (hc : d'.cfg = d.cfg) (hk : d'.clk = d.clk) (hp : d'.ps = d.ps) (hs : d'.ss = d.ss) (hn : d'.cnt = d.cnt) (hv : d'.votes = d.votes) (ho : d'.Ok N) : DAt N w' b d' B := by
 have far : ∀ {i : Nat} {t : TypeId} {cs : Array Value}, Blk w i t cs → t ≠ 140 → ¬ i = b := fun hi ht e => by subst e; exact ht (blk_typ hi h.box)
 have farO : ∀ {e : TypeId} {sz : Nat} {v : Value} {g : Option Nat} {els : List (List Value)}, Owns w e sz v g els → e ≠ 140 → ∀ k, g = some k → ¬ k = b := fun ho ht k hk e => by
  obtain ⟨cs, hcs⟩ := ho.blk hk
  exact far hcs ht e
 refine ⟨hb, by rw [hc]; exact h.srv.chg c (farO h.srv (by decide)), by rw [hk]; exact h.clk.chg c (far h.clk (by decide)), h.psl.chg c (farO h.psl (by decide)), ?_, h.ssl.chg c (farO h.ssl (by decide)), ?_, ?_, h.qn, by rw [hp]; exact h.qk, by rw [hn]; exact h.cnt.chg c (far h.cnt (by decide)), by rw [hv]; exact h.vot.chg c (farO h.vot (by decide)), ho⟩
 ·rw [hp]; exact h.ps.chg c (fun i hi e => h.ps.far h.box (by decide) (by decide) (by rw [← show i = b from e]; exact hi))
 ·rw [hs]; exact h.ss.chg c (fun i hi e => h.ss.far h.box (by decide) (by decide) (by decide) (by rw [← show i = b from e]; exact hi))
 ·exact h.q.chg c (far h.q.box (by decide)) (fun e => by
   obtain ⟨D, ⟨es, clock, hm, _⟩, _⟩ := h.q.own
   have hbx := h.box
   unfold Blk at hbx
   rw [← show B.qm = b from e, hm] at hbx
   cases hbx)
theorem tick_draw {N : Nat} {w w' : World} {b : Nat} {d : Dm} {B : DB} {draw : Int} (h : DAt N w b d B) (c : Chg (fun i => i = b) w w') (K : Blk w' b 140 ((dmc d B).setIfInBounds 11 (.int .u64 draw))) (hdr : 0 ≤ draw ∧ draw < 18446744073709551616) : DAt N w' b { d with draw := draw } B :=
 h.rebox c (by simpa [dmc] using K) rfl rfl rfl rfl rfl rfl ⟨h.ok.cfg, h.ok.clk, h.ok.lp, h.ok.ls, h.ok.lc, h.ok.ct, h.ok.hk, h.ok.h0, hdr, h.ok.theta, h.ok.ch, h.ok.vt, h.ok.vl⟩
theorem DAt.reps {N : Nat} {w w' : World} {b : Nat} {d : Dm} {B : DB} {ps' : List Pr} {S : Nat → Prop} (h : DAt N w b d B) (c : Chg S w w') (hS : ∀ i, S i → PB B.pb i ∨ ∃ cs, Blk w i 74 cs) (hp : PsAt w' B.pb ps') (hl : ps'.length = d.ps.length) : DAt N w' b { d with ps := ps' } B := by
 have far : ∀ {i : Nat} {t : TypeId} {cs : Array Value}, Blk w i t cs → t ≠ 218 → t ≠ 275 → t ≠ 74 → ¬ S i := fun hi h1 h2 h3 hs => by
  rcases hS _ hs with hs | ⟨_, hs⟩
  ·exact h.ps.far hi h1 h2 hs
  ·exact h3 (blk_typ hi hs)
 have farO : ∀ {e : TypeId} {sz : Nat} {v : Value} {g : Option Nat} {els : List (List Value)}, Owns w e sz v g els → e ≠ 218 → e ≠ 275 → e ≠ 74 → ∀ k, g = some k → ¬ S k := fun ho h1 h2 h3 k hk => by
  obtain ⟨cs, hcs⟩ := ho.blk hk
  exact far hcs h1 h2 h3
 refine ⟨h.box.chg c (far h.box (by decide) (by decide) (by decide)), h.srv.chg c (farO h.srv (by decide) (by decide) (by decide)), h.clk.chg c (far h.clk (by decide) (by decide) (by decide)), h.psl.chg c (farO h.psl (by decide) (by decide) (by decide)), hp, h.ssl.chg c (farO h.ssl (by decide) (by decide) (by decide)), ?_, ?_, h.qn, by simp only; rw [hl]; exact h.qk, h.cnt.chg c (far h.cnt (by decide) (by decide) (by decide)), h.vot.chg c (farO h.vot (by decide) (by decide) (by decide)), ?_⟩
 ·refine h.ss.chg c (fun i hi e => ?_)
  rcases h.ss.typ hi with ⟨_, h'⟩ | ⟨_, h'⟩ | ⟨_, h'⟩
  ·exact far h' (by decide) (by decide) (by decide) e
  ·exact far h' (by decide) (by decide) (by decide) e
  ·exact far h' (by decide) (by decide) (by decide) e
 ·refine h.q.chg c (far h.q.box (by decide) (by decide) (by decide)) (fun e => ?_)
  obtain ⟨D, ⟨es, clock, hm, _⟩, _⟩ := h.q.own
  rcases hS _ e with e | ⟨_, h'⟩
  ·rcases h.ps.typ e with ⟨_, h'⟩ | ⟨_, h'⟩
   ·unfold Blk at h'; rw [hm] at h'; cases h'
   ·unfold Blk at h'; rw [hm] at h'; cases h'
  ·unfold Blk at h'; rw [hm] at h'; cases h'
 ·exact ⟨h.ok.cfg, h.ok.clk, by simp only; rw [hl]; exact h.ok.lp, h.ok.ls, h.ok.lc, h.ok.ct, h.ok.hk, h.ok.h0, h.ok.draw, h.ok.theta, h.ok.ch, h.ok.vt, h.ok.vl⟩
theorem DAt.peer {N : Nat} {w : World} {b : Nat} {d : Dm} {B : DB} (h : DAt N w b d B) : ∃ k cap, B.pv = .slice (some ⟨k, 0, none⟩) d.ps.length cap ∧ B.pg = some k ∧ d.ps.length ≤ cap ∧ cap ≤ 9223372036854775807 ∧ ∀ i x, B.pb[i]? = some x → w.cell? ⟨k, i, none⟩ = some (.pointer (some ⟨x.1, 0, none⟩)) := by
 have hl : (B.pb.map fun x => [Value.pointer (some ⟨x.1, 0, none⟩)]).length = d.ps.length := by rw [List.length_map]; exact h.ps.len
 have hp := h.psl.pos (by rw [hl, h.ok.lp]; exact h.ok.cfg.n0)
 obtain ⟨k, hk⟩ := hp
 have ho := h.psl
 rw [hk] at ho
 obtain ⟨cap, hv, h1, h2⟩ := ho.some_form
 rw [hl] at hv h1
 refine ⟨k, cap, hv, hk, h1, h2, fun i x hx => ?_⟩
 have := ho.cell rfl (i := i) (x := [.pointer (some ⟨x.1, 0, none⟩)]) (by simp [hx]) (j := 0) (u := .pointer (some ⟨x.1, 0, none⟩)) rfl
 simpa using this
theorem DAt.server {N : Nat} {w : World} {b : Nat} {d : Dm} {B : DB} (h : DAt N w b d B) : ∃ k cap, B.av = .slice (some ⟨k, 0, none⟩) d.cfg.servers.length cap ∧ B.ag = some k ∧ d.cfg.servers.length ≤ cap ∧ cap ≤ 9223372036854775807 ∧ ∀ i z, d.cfg.servers[i]? = some z → w.cell? ⟨k, i, none⟩ = some (.int .i64 z) := by
 have hl : (d.cfg.servers.map i64c).length = d.cfg.servers.length := by rw [List.length_map]
 obtain ⟨k, hk⟩ := h.srv.pos (by rw [hl]; exact h.ok.cfg.n0)
 have ho := h.srv
 rw [hk] at ho
 obtain ⟨cap, hv, h1, h2⟩ := ho.some_form
 rw [hl] at hv h1
 refine ⟨k, cap, hv, hk, h1, h2, fun i z hz => ?_⟩
 have := ho.cell rfl (i := i) (x := i64c z) (by simp [hz]) (j := 0) (u := .int .i64 z) rfl
 simpa using this
theorem SendsAt.snoc {w w1 w2 : World} {v v' : Value} {g : Option Nat} {l : List (Int × List Int)} {vs : List (Value × Option Nat)} {a : Int} {bs : List Int} {dv : Value} {dg : Option Nat} {k : Nat}
  (h : SendsAt w w1 v g l vs) (hd : Owns w1 5 1 dv dg (bs.map u8c)) (hdg : ∀ i, dg = some i → w.heap.size ≤ i)
  (ho : Owns w2 80 2 v' (some k) (((l.zip vs).map fun x => [Value.int .i64 x.1.1, x.2.1]) ++ [[.int .i64 a, dv]])) (hc : Chg (fun b => g = some b) w1 w2) (hk : g = some k ∨ w1.heap.size ≤ k) (hw : w.heap.size ≤ w1.heap.size) :
  SendsAt w w2 v' (some k) (l ++ [(a, bs)]) (vs ++ [(dv, dg)]) := by
 have far : ∀ {i : Nat} {cs : Array Value}, Blk w1 i 5 cs → ¬ g = some i := fun hb e => by
  obtain ⟨cs, hcs⟩ := h.o.blk e
  exact absurd (blk_typ hb hcs) (by decide)
 have farO : ∀ {v : Value} {g' : Option Nat} {els : List (List Value)}, Owns w1 5 1 v g' els → ∀ k, g' = some k → ¬ g = some k := fun ho k hk => by
  obtain ⟨cs, hcs⟩ := ho.blk hk
  exact far hcs
 refine ⟨by rw [List.length_append, List.length_append, h.len]; rfl, ?_, ?_, ?_⟩
 ·rw [List.zip_append h.len.symm, List.map_append]; exact ho
 ·intro i hi
  cases hi
  rcases hk with hk | hk
  ·exact h.n _ hk
  ·omega
 ·intro i x y hx hy
  by_cases hi : i < l.length
  ·rw [List.getElem?_append_left hi] at hx
   rw [List.getElem?_append_left (by rw [h.len]; exact hi)] at hy
   obtain ⟨o, n⟩ := h.each i x y hx hy
   exact ⟨o.chg hc (farO o), n⟩
  ·rw [List.getElem?_append_right (by omega)] at hx
   rw [List.getElem?_append_right (by rw [h.len]; omega), h.len] at hy
   have h0 : i - l.length = 0 := by
    rcases Nat.eq_zero_or_pos (i - l.length) with h0 | h0
    ·exact h0
    ·rw [List.getElem?_eq_none (by simp; omega)] at hx; cases hx
   rw [h0] at hx hy
   cases hx; cases hy
   exact ⟨hd.chg hc (farO hd), hdg⟩
theorem List.set_getElem?_self' {α : Type} {l : List α} {i : Nat} {x : α} (h : l[i]? = some x) : l.set i x = l := by
 obtain ⟨hi, he⟩ := List.getElem?_eq_some_iff.1 h
 rw [← he]
 exact List.set_getElem_self hi
theorem askS_snoc (f : Int × Pr → List (Int × List Int)) (L : List Int) (P : List Pr) (j : Nat) {a : Int} {p : Pr} (ha : L[j]? = some a) (hp : P[j]? = some p) : ((L.zip P).take (j + 1)).flatMap f = ((L.zip P).take j).flatMap f ++ f (a, p) := by
 have : (L.zip P)[j]? = some (a, p) := by rw [List.getElem?_zip_eq_some]; exact ⟨ha, hp⟩
 rw [List.take_add_one, this, List.flatMap_append]
 simp
theorem askS_len (h dr : Int) (l : List (Int × Pr)) : (l.flatMap (Dm.askS h dr)).length ≤ l.length := by
 induction l with
 | nil => simp
 | cons x r ih =>
  rw [List.flatMap_cons, List.length_append, List.length_cons]
  have : (Dm.askS h dr x).length ≤ 1 := by unfold Dm.askS; split <;> simp
  omega
theorem tick56 (N : Nat) (b : Nat) (d : Dm) (B : DB) (w : World) (hd : DAt N w b d B) (kind h addr draw : Int) (dv : Value) (h0 : d.h ≤ h) (h1 : h ≤ 4611686018427387903) (hdr : 0 ≤ draw ∧ draw < 18446744073709551616) :
  Calls Tryz.prog 56 #[.pointer (some ⟨b, 0, none⟩), .agg #[.int .i64 kind, .int .i64 h, .int .i64 addr, .int .u64 draw, dv]] w fun e w' => ∃ v g vs, e = .returned (.agg #[v, .int .i64 0, .int .i64 0, .int .i64 0]) ∧
   SendsAt w w' v g (d.tick h draw).2 vs ∧ DAt N w' b (d.tick h draw).1 B ∧ Chg (fun i => PB B.pb i ∨ i = b) w w' := by
 have HO := Lib.hid hd.ok
 have HD := Lib.hid hd
 clear hd
 go_enter Tryz.func56, Tryz.ntmps56
 go_upto_region 1 with (fail)
 have c0 := chg0_alloc w (Obj.cells #[.int .i64 kind, .int .i64 h, .int .i64 addr, .int .u64 draw, dv] 68)
 have E0 := Blk.new w 68 #[.int .i64 kind, .int .i64 h, .int .i64 addr, .int .u64 draw, dv]
 have G1 := Blk.new (w.alloc (Obj.cells #[.int .i64 kind, .int .i64 h, .int .i64 addr, .int .u64 draw, dv] 68)) 74 #[.slice none 0 0, .int .i64 0, .int .i64 0, .int .i64 0]
 have E1 := E0.alloc (Obj.cells #[.slice none 0 0, .int .i64 0, .int .i64 0, .int .i64 0] 74)
 have c1 := c0.alloc (Obj.cells #[.slice none 0 0, .int .i64 0, .int .i64 0, .int .i64 0] 74)
 have D1 := (HD.out.chg0 c0).chg0 (chg0_alloc _ (Obj.cells #[.slice none 0 0, .int .i64 0, .int .i64 0, .int .i64 0] 74))
 rw [show (w.alloc (Obj.cells #[.int .i64 kind, .int .i64 h, .int .i64 addr, .int .u64 draw, dv] 68)).heap.size = w.heap.size + 1 by simp] at G1
 have hblt := HD.out.box.lt
 clear c0 E0
 generalize (w.alloc (Obj.cells #[.int .i64 kind, .int .i64 h, .int .i64 addr, .int .u64 draw, dv] 68)).alloc (Obj.cells #[.slice none 0 0, .int .i64 0, .int .i64 0, .int .i64 0] 74) = W1 at *
 generalize hge : w.heap.size = ge at *
 have e1 := E1.cell 1
 have e3 := E1.cell 3
 simp at e1 e3
 have f6 := D1.box.frozen 11
 have b6 := D1.box.cell 11
 simp [dmc] at b6
 have HD1 := Lib.hid D1
 have HG1 := Lib.hid G1
 have HE1 := Lib.hid E1
 clear D1 G1 E1
 go_upto_if 15 with (fail)
 go_cut [] (fun wc => DAt N wc b { d with draw := d.drawn draw } B ∧ Blk wc ge 68 #[.int .i64 kind, .int .i64 h, .int .i64 addr, .int .u64 draw, dv] ∧ Blk wc (ge + 1) 74 #[.slice none 0 0, .int .i64 0, .int .i64 0, .int .i64 0] ∧ Chg (fun i => i = b) w wc)
 case first =>
  by_cases hz : draw = 0
  ·subst hz
   go_wp2_with fail
   go_meet
   have hdd : d.drawn 0 = d.draw := by unfold Dm.drawn; simp
   rw [hdd]
   exact ⟨HD1.out, HE1.out, HG1.out, c1.mono (fun _ _ h => h.elim)⟩
  ·have hdd : d.drawn draw = draw := by unfold Dm.drawn; rw [if_pos hz]
   have cs : Chg (fun i => i = b) W1 (W1.setCell ⟨b, 11, none⟩ (.int .u64 draw)) := (Chg.refl (fun i => i = b) W1).setCell (p := ⟨b, 11, none⟩) (fun _ => rfl) _
   have K := HD1.out.box.set_ 11 (.int .u64 draw)
   have D2 := tick_draw HD1.out cs K hdr
   go_wp2_with fail
   go_meet
   rw [hdd]
   exact ⟨D2, HE1.out.chg cs (fun h => by have h' : ge = b := h; omega), HG1.out.chg cs (fun h => by have h' : ge + 1 = b := h; omega), (c1.mono (S' := fun i => i = b) (fun _ _ h => h.elim)).trans cs⟩
 case rest =>
  obtain ⟨D2, E2, G2, c2⟩ := hcut
  clear b6 f6 e1 e3 HD1 HG1 HE1 c1
  have hps : ({ d with draw := d.drawn draw } : Dm).ps = d.ps := rfl
  have hlen : d.ps.length = d.cfg.servers.length := HO.out.lp
  have hn16 : d.ps.length ≤ 16 := by rw [hlen]; exact HO.out.cfg.n1
  have hnpos : 0 < d.ps.length := by rw [hlen]; exact HO.out.cfg.n0
  have HT := Lib.hid (show d.tick h draw = ({ d with draw := d.drawn draw, ps := (d.ps.map (·.late h)).map (d.askP h (d.drawn draw)) }, (d.cfg.servers.zip (d.ps.map (·.late h))).flatMap (Dm.askS h (d.drawn draw))) from rfl)
  obtain ⟨pk, cap, hpv, hpg, hcap, hcm, hpc⟩ := D2.peer
  simp only at hpv hcap
  obtain ⟨n, hn⟩ : ∃ n, n = d.ps.length := ⟨_, rfl⟩
  rw [← hn] at hpv hcap hn16 hnpos hlen
  have b7 := D2.box.cell 7
  simp [dmc, hpv] at b7
  have HD2 := Lib.hid D2
  have HE2 := Lib.hid E2
  have HG2 := Lib.hid G2
  have HN := Lib.hid hn
  have HLEN := Lib.hid hlen
  have HPC := Lib.hid hpc
  clear hlen
  clear D2 E2 G2 hn hpc
  go_wp2_with fail
  go_loopw [26] (fun i wr => ∃ j : Nat, j ≤ n ∧ i = .int .i64 j ∧ PsAt wr B.pb (mapTo (·.late h) d.ps j) ∧ Chg (PB B.pb) wc wr) (fun i _ => n - (intOf i).toNat)
  case atStart => exact ⟨0, by omega, rfl, by rw [mapTo_zero]; exact HD2.out.ps, Chg.refl _ _⟩
  case round =>
   obtain ⟨j, hj, rfl, P3, c3⟩ := hrel
   by_cases hjn : j < n
   ·obtain ⟨x, p, hx, hp, hP⟩ := P3.get (i := j) (by rw [mapTo_len]; have := HN.out; omega)
    have hx0 := hx
    have E3 := HE2.out.chg c3 (HD2.out.ps.far HE2.out (by decide) (by decide))
    have e1 := E3.cell 1
    simp at e1
    have pc := c3.keep (HPC.out j x hx) (fun hh => by
     obtain ⟨cs, hcs⟩ := HD2.out.psl.blk (by exact hpg)
     exact HD2.out.ps.far hcs (by decide) (by decide) hh)
    rw [mapTo_get] at hp
    have HL := Lib.hid (late89 x.1 x.2 p h wr hP)
    have hjnI : (j : Int) < n := by omega
    have hjc : j < cap := by omega
    have HC3 := Lib.hid c3
    have HP3 := Lib.hid P3
    have HX := Lib.hid hx
    have HPP := Lib.hid hp
    obtain ⟨x1, x2⟩ := x
    simp only at pc HL
    clear P3 c3 hx hp hP E3 hx0
    go_wp2_with fail
    refine HL.out.mono ?_
    rintro e w4 ⟨rfl, P4, c4⟩
    have P5 := HP3.out.set HX.out P4 c4
    rw [mapTo_set (·.late h) d.ps j HPP.out] at P5
    have c5 := HC3.out.trans (c4.mono (fun k _ hk => PB.of HX.out k hk))
    have HP5 := Lib.hid P5
    have HC5 := Lib.hid c5
    clear P4 c4 P5 c5 e1 pc
    go_wp2_with fail
    go_roundw
    case rel => exact ⟨j + 1, by omega, by go_num, HP5.out, HC5.out⟩
    case measure => simp [intOf]; omega
   ·obtain rfl : j = n := by omega
    rw [HN.out, mapTo_all] at P3
    have D4 := HD2.out.reps c3 (fun _ h => .inl h) P3 (by simp)
    have nf : ∀ {g : Nat} {t : TypeId} {cs : Array Value}, Blk wc g t cs → t ≠ 218 → t ≠ 275 → ¬ PB B.pb g := fun hb h1 h2 => HD2.out.ps.far hb h1 h2
    have E4 := HE2.out.chg c3 (nf HE2.out (by decide) (by decide))
    have G4 := HG2.out.chg c3 (nf HG2.out (by decide) (by decide))
    have c4 := (c2.mono (S' := fun i => PB B.pb i ∨ i = b) (fun _ _ h => .inr h)).trans (c3.mono (fun _ _ h => .inl h))
    have hPC4 : ∀ (i : Nat) x, B.pb[i]? = some x → wr.cell? ⟨pk, i, none⟩ = some (.pointer (some ⟨x.1, 0, none⟩)) := fun i x hx => c3.keep (HPC.out i x hx) (fun hh => by
     obtain ⟨cs, hcs⟩ := HD2.out.psl.blk (by exact hpg)
     exact nf hcs (by decide) (by decide) hh)
    clear nf c2 c3 P3 HD2 HE2 HG2 HPC
    simp only at D4
    have e1 := E4.cell 1
    simp at e1
    have b6 := D4.box.cell 6
    simp [dmc] at b6
    have HD4 := Lib.hid D4
    have HE4 := Lib.hid E4
    have HG4 := Lib.hid G4
    have HPC4 := Lib.hid hPC4
    have HC4 := Lib.hid c4
    have hR := Lib.hid (fun W (hW : Chg (fun _ => False) wr W) => read58 B.kb d.clk h W (HD4.out.chg0 hW).clk HO.out.clk (by have := HO.out.hk; omega) h1)
    clear D4 E4 G4 hPC4 c4
    go_upto_region 8 with (fail)
    go_cut [7] (fun s7 wx => s7 = .int .i64 (d.clk.run h).c ∧ Chg (fun _ => False) wr wx)
    case first =>
     go_region_with (first | (go_at_call 58; refine (hR.out _ (chg0_drew _)).mono ?_; rintro e w5 ⟨rfl, c5⟩))
     all_goals (go_wp2_with fail; go_meet; exact ⟨rfl, (chg0_drew _).trans c5⟩)
    case rest =>
     obtain ⟨rfl, c5⟩ := hcut
     have D5 := HD4.out.chg0 c5
     have E5 := HE4.out.chg c5 (fun h => h)
     have G5 := HG4.out.chg c5 (fun h => h)
     have hC5 := HC4.out.trans (c5.mono (fun _ _ h => h.elim))
     have hPC5 : ∀ (i : Nat) x, B.pb[i]? = some x → wc.cell? ⟨pk, i, none⟩ = some (.pointer (some ⟨x.1, 0, none⟩)) := fun i x hx => c5.keep (HPC4.out i x hx) (fun h => h)
     have hcin := (Clk.run_ok HO.out.clk (show d.clk.h ≤ h by have := HO.out.hk; omega) h1).c
     have hdrin : 0 ≤ d.drawn draw ∧ d.drawn draw < 18446744073709551616 := D5.ok.draw
     obtain ⟨sk, scap, hav, hag, hscap, hscm, hsc⟩ := D5.server
     simp only at hav hscap hsc
     rw [← HLEN.out] at hav hscap
     generalize hcc : (d.clk.run h).c = c at *
     generalize hdr' : d.drawn draw = dr at *
     generalize hPP : d.ps.map (·.late h) = PP at *
     have hPl : PP.length = j := by rw [← hPP, List.length_map]; exact HN.out.symm
     have HD5 := Lib.hid D5
     have HE5 := Lib.hid E5
     have HG5 := Lib.hid G5
     have HC5 := Lib.hid hC5
     have HPC5 := Lib.hid hPC5
     have HSC := Lib.hid hsc
     have HPL := Lib.hid hPl
     have HCIN := Lib.hid hcin
     have b7 := D5.box.cell 7
     simp [dmc, hpv] at b7
     have hszw : w.heap.size ≤ wc.heap.size := by rw [hge]; have := hC5.size; omega
     have HSZ := Lib.hid hszw
     clear D5 E5 G5 hC5 hPC5 hsc hPl hcin c5 HD4 HE4 HG4 HPC4 HC4 b6 e1 hR
     obtain ⟨wv, rfl⟩ : ∃ wv, wv = wc := ⟨wc, rfl⟩
     obtain ⟨i0, hi, hz0, hz1, hz2⟩ := info_parts info_send
     go_wp2_with fail
     go_loopw [50] (fun i wr => ∃ (m : Nat) (v : Value) (g : Option Nat) (vs : List (Value × Option Nat)), m ≤ j ∧ i = .int .i64 m ∧ PsAt wr B.pb (mapTo (d.askP h dr) PP m) ∧ SendsAt wv wr v g (((d.cfg.servers.zip PP).take m).flatMap (Dm.askS h dr)) vs ∧ Blk wr (ge + 1) 74 #[v, .int .i64 0, .int .i64 0, .int .i64 0] ∧ Chg (fun i => PB B.pb i ∨ i = ge + 1) wv wr) (fun i _ => j - (intOf i).toNat)
     case atStart => exact ⟨0, _, none, [], by omega, rfl, by rw [mapTo_zero]; exact HD5.out.ps, by simpa using SendsAt.nil wv wv, HG5.out, Chg.refl _ _⟩
     case round =>
      obtain ⟨m, v, g, vs, hm, rfl, P6, S6, G6, c6⟩ := hrel
      by_cases hmj : m < j
      ·obtain ⟨x, p, hx, hp, hP⟩ := P6.get (i := m) (by rw [mapTo_len, HPL.out]; omega)
       rw [mapTo_get] at hp
       obtain ⟨z, hz⟩ : ∃ z, d.cfg.servers[m]? = some z := ⟨_, List.getElem?_eq_getElem (by rw [← HLEN.out]; omega)⟩
       have nf : ∀ {i : Nat} {t : TypeId} {cs : Array Value}, Blk wv i t cs → t ≠ 218 → t ≠ 275 → t ≠ 74 → ¬ (PB B.pb i ∨ i = ge + 1) := fun hb h1 h2 h3 hh => by
        rcases hh with hh | hh
        ·exact HD5.out.ps.far hb h1 h2 hh
        ·rw [hh] at hb; exact h3 (blk_typ hb HG5.out)
       have E6 := HE5.out.chg c6 (nf HE5.out (by decide) (by decide) (by decide))
       have X6 := HD5.out.box.chg c6 (nf HD5.out.box (by decide) (by decide) (by decide))
       have pc := c6.keep (HPC5.out m x hx) (fun hh => by
        obtain ⟨cs, hcs⟩ := HD5.out.psl.blk (by exact hpg)
        exact nf hcs (by decide) (by decide) (by decide) hh)
       have sc := c6.keep (HSC.out m z hz) (fun hh => by
        obtain ⟨cs, hcs⟩ := HD5.out.srv.blk (by exact hag)
        exact nf hcs (by decide) (by decide) (by decide) hh)
       have hsz6 : wv.heap.size ≤ wr.heap.size := c6.size
       have e1 := E6.cell 1
       simp at e1
       have b0 := X6.cell 0
       have b11 := X6.cell 11
       simp [dmc, hav] at b0 b11
       have hmI : (m : Int) < j := by omega
       have hmc : m < cap := by omega
       have hms : m < scap := by omega
       have hmsI : (m : Int) < scap := by omega
       obtain ⟨x1, x2⟩ := x
       simp only at pc hP
       have HX := Lib.hid hx
       have HPP := Lib.hid hp
       have HZ := Lib.hid hz
       have HP := Lib.hid hP
       have HP6 := Lib.hid P6
       have HS6 := Lib.hid S6
       have HG6 := Lib.hid G6
       have HC6 := Lib.hid c6
       have HE6 := Lib.hid E6
       have HX6 := Lib.hid X6
       have hpb : PB B.pb x1 := PB.of hx x1 (.inl rfl)
       have hng : ¬ x1 = ge + 1 := fun e => by have hb := hP.b; rw [e] at hb; exact absurd (blk_typ hb G6) (by decide)
       have hsk : ¬ sk = x1 := fun e => by
        obtain ⟨cs, hcs⟩ := HD5.out.srv.blk (by exact hag)
        exact nf hcs (by decide) (by decide) (by decide) (.inl (by rw [e]; exact hpb))
       clear hx hp hz hP P6 S6 G6 c6 E6 X6 nf
       go_upto_block 3 with (fail)
       go_cut [] (fun wx => ∃ (v' : Value) (g' : Option Nat) (vs' : List (Value × Option Nat)), PsAt wx B.pb (mapTo (d.askP h dr) PP (m + 1)) ∧ SendsAt wv wx v' g' (((d.cfg.servers.zip PP).take (m + 1)).flatMap (Dm.askS h dr)) vs' ∧ Blk wx (ge + 1) 74 #[v', .int .i64 0, .int .i64 0, .int .i64 0] ∧ Chg (fun i => PB B.pb i ∨ i = ge + 1) wv wx)
       case first =>
        by_cases hdue : (p.isDue h && decide (dr ≠ 0)) = true
        ·have hd1 : p.isDue h = true := by simp only [Bool.and_eq_true] at hdue; exact hdue.1
         have hd2 : dr ≠ 0 := by simp only [Bool.and_eq_true, decide_eq_true_eq] at hdue; exact hdue.2
         have HA := Lib.hid (fun W (hW : Chg (fun _ => False) wr W) => ask90 x1 x2 p h c dr W (HP.out.chg0 hW) (by have := HO.out.h0; omega) h1 hd1 HCIN.out ⟨by omega, hdrin.2⟩)
         have hap : d.askP h dr p = p.ask h c dr := by unfold Dm.askP; rw [if_pos hdue, hcc]
         have hfs : Dm.askS h dr (z, p) = [(z, bytes4 3 0 0 0 dr)] := by unfold Dm.askS; rw [if_pos hdue]
         have HAP := Lib.hid hap
         have HFS := Lib.hid hfs
         clear hdue hd1 hd2 hap hfs
         go_upto_region 12 with (fail)
         go_cut [11, 12] (fun s11 s12 wx => s12 = .int .i64 0 ∧ ∃ dg, Owns wx 5 1 s11 dg ((bytes4 3 0 0 0 dr).map u8c) ∧ (∀ i, dg = some i → wr.heap.size ≤ i) ∧ PeerAt wx x1 x2 (p.ask h c dr) ∧ Chg (fun i => i = x1) wr wx)
         case first =>
          go_region_with (first | (go_at_call 90; refine (HA.out _ (chg0_drew _)).mono ?_; rintro e w7 ⟨dv, dg, rfl, o7, n7, p7, c7⟩))
          all_goals (go_wp2_with fail; go_meet; exact ⟨rfl, dg, o7, n7, p7, ((chg0_drew _).mono (fun _ _ h => h.elim)).trans c7⟩)
         case rest =>
          obtain ⟨rfl, dg, o7, n7, p7, c7⟩ := hcut
          obtain ⟨da, dcap, rfl, -, -, -, -⟩ := o7.form
          generalize hbl : ((bytes4 3 0 0 0 dr).map u8c).length = blen at *
          clear hbl
          have G7 := HG6.out.chg c7 (fun h => hng (Eq.symm h))
          have S7 := HS6.out.chg c7 (fun k hk hh e => by
           have hb := HP.out.b
           rw [← show k = x1 from e] at hb
           rcases HS6.out.blk hh with ⟨_, h'⟩ | ⟨_, h'⟩
           ·exact absurd (blk_typ hb h') (by decide)
           ·exact absurd (blk_typ hb h') (by decide))
          have X7 := HX6.out.chg c7 (fun e => by
           have hb := HP.out.b
           rw [← show b = x1 from e] at hb
           exact absurd (blk_typ hb HX6.out) (by decide))
          have sc7 := c7.keep sc hsk
          have P7 := HP6.out.set HX.out p7 (c7.mono (fun _ _ h => .inl h))
          rw [← HAP.out, mapTo_set (d.askP h dr) PP m HPP.out] at P7
          have c8 := HC6.out.trans (c7.mono (S' := fun i => PB B.pb i ∨ i = ge + 1) (fun k _ hk => .inl (by rw [show k = x1 from hk]; exact hpb)))
          have hsz7 : wv.heap.size ≤ wc.heap.size := Nat.le_trans hsz6 c7.size
          have hdg7 : ∀ i, dg = some i → wv.heap.size ≤ i := fun i hi => Nat.le_trans hsz6 (n7 i hi)
          clear b0 b11 e1 sc pc
          have g0 := G7.cell 0
          have b0 := X7.cell 0
          simp [dmc, hav] at g0 b0
          have HG7 := Lib.hid G7
          have HS7 := Lib.hid S7
          have HP7 := Lib.hid P7
          have HC8 := Lib.hid c8
          have HO7 := Lib.hid o7
          have HDG := Lib.hid hdg7
          have HSZ7 := Lib.hid hsz7
          have hml : (((((d.cfg.servers.zip PP).take m).flatMap (Dm.askS h dr)).zip vs).map fun x => [Value.int .i64 x.1.1, x.2.1]).length ≤ 16 := by
           have := askS_len h dr ((d.cfg.servers.zip PP).take m)
           rw [List.length_map, List.length_zip]
           rw [List.length_take] at this
           omega
          clear G7 S7 P7 c7 c8 o7 n7 p7 X7 hdg7 hsz7 hsz6 HG6 HS6 HP6 HC6 HX6 HE6 HA
          obtain ⟨wq, rfl⟩ : ∃ wq, wq = wc := ⟨wc, rfl⟩
          have n0 : ∀ o, (wq.alloc o).cell? ⟨ge + 1, 0, none⟩ = some v := fun o => by have := (HG7.out.alloc o).cell 0; simpa using this
          generalize hEls : (((((d.cfg.servers.zip PP).take m).flatMap (Dm.askS h dr)).zip vs).map fun x => [Value.int .i64 x.1.1, x.2.1]) = els at *
          have hOw : Owns wq 80 2 v g els := by rw [← hEls]; exact HS7.out.o
          have HOW := Lib.hid hOw
          have hgn : ¬ g = some (ge + 1) := fun e => by
           obtain ⟨_, h'⟩ := hOw.blk e
           exact absurd (blk_typ h' HG7.out) (by decide)
          have HELS := Lib.hid hEls
          clear hOw hEls
          have hlist := askS_snoc (Dm.askS h dr) d.cfg.servers PP m HZ.out HPP.out
          rw [HFS.out] at hlist
          have HLI := Lib.hid hlist
          clear hlist
          go_upto_region 14 with (fail)
          go_region_law ((refine step_app (by rfl) (.tmp 70) (.tmp 81) 72 (by rfl) 80 i0 _ 2 32 Tryz.underlying72 hi hz0 hz1 hz2 rfl (by omega) v g els (by rfl) (HOW.out.drew.alloc _) _ 80 [[.int .i64 z, .slice da blen dcap]] 1 1 (by rfl) rfl (Blk.new _ _ _) (by simp) (by simp [Value.oneCell']) (by simp) (by simp; omega) (by simp [maxLen]; omega) ?_
                          intro k cap' w' ho' hchg hk'
                          have q0 := hchg.keep (p := ⟨ge + 1, 0, none⟩) ((HG7.out.drew.alloc _).cell 0) hgn
                          have f0 : w'.frozen? ⟨ge + 1, 0, none⟩ = false := (hchg.frozen (p := ⟨ge + 1, 0, none⟩) (HG7.out.drew.alloc _).lt hgn).trans ((HG7.out.drew.alloc _).frozen 0)
                          simp at q0))
          all_goals (
           have S8 := HS7.out.chg0 ((chg0_drew _).alloc (Obj.cells #[.int .i64 z, .slice da blen dcap] 80))
           have O8 := (HO7.out.drew).alloc (Obj.cells #[.int .i64 z, .slice da blen dcap] 80)
           have S9 := S8.snoc O8 HDG.out (by rw [HELS.out]; exact ho') hchg (by simpa using hk') (by have := HSZ7.out; simp; omega)
           rw [← HLI.out] at S9
           have G9 := (HG7.out.drew.alloc (Obj.cells #[.int .i64 z, .slice da blen dcap] 80)).chg hchg hgn
           have cA : Chg (fun i => i = ge + 1) w' (w'.setCell ⟨ge + 1, 0, none⟩ (.slice (some ⟨k, 0, none⟩) (els.length + 1) cap')) := (Chg.refl (fun i => i = ge + 1) w').setCell (p := ⟨ge + 1, 0, none⟩) (fun _ => rfl) _
           have S10 := S9.chg cA (fun kk _ hh e => by
            have e' : kk = ge + 1 := e
            rw [e'] at hh
            rcases S9.blk hh with ⟨_, h'⟩ | ⟨_, h'⟩
            ·exact absurd (blk_typ h' G9) (by decide)
            ·exact absurd (blk_typ h' G9) (by decide))
           have G10 := G9.set_ 0 (.slice (some ⟨k, 0, none⟩) (els.length + 1) cap')
           have cB := ((((chg0_drew wq).alloc (Obj.cells #[.int .i64 z, .slice da blen dcap] 80)).mono (S' := fun i => i = ge + 1 ∨ g = some i) (fun _ _ h => h.elim)).trans (hchg.mono (fun _ _ h => .inr h))).trans (cA.mono (fun _ _ h => .inl h))
           have PA := HP7.out.chg cB (fun i hi e => by
            rcases e with e | e
            ·subst e
             exact HP7.out.far HG7.out (by decide) (by decide) hi
            ·obtain ⟨_, h'⟩ := HOW.out.blk e
             exact HP7.out.far h' (by decide) (by decide) hi)
           have cC := HC8.out.trans' (S := fun i => PB B.pb i ∨ i = ge + 1) cB (fun i hi e => by
            rcases e with e | e
            ·exact .inr e
            ·have := HS7.out.n i e; omega)
           have K10 : Hid (∃ (v' : Value) (g' : Option Nat) (vs' : List (Value × Option Nat)), PsAt _ B.pb (mapTo (d.askP h dr) PP (m + 1)) ∧ SendsAt wv _ v' g' (((d.cfg.servers.zip PP).take (m + 1)).flatMap (Dm.askS h dr)) vs' ∧ Blk _ (ge + 1) 74 #[v', .int .i64 0, .int .i64 0, .int .i64 0] ∧ Chg (fun i => PB B.pb i ∨ i = ge + 1) wv _) := Lib.hid ⟨_, _, _, PA, S10, by simpa using G10, cC⟩
           clear S8 O8 S9 G9 cA S10 G10 cB PA cC ho' hchg hk' q0 f0
           go_wp2_with fail
           go_meet
           exact K10.out)
        ·have hdu : p.isDue h = false ∨ dr = 0 := by
          simp only [Bool.and_eq_true, decide_eq_true_eq, not_and] at hdue
          by_cases h' : p.isDue h = true
          ·right; exact Classical.byContradiction (fun e => hdue h' e)
          ·left; simpa using h'
         have HA := Lib.hid (fun W (hW : Chg (fun _ => False) wr W) => askNo90 x1 x2 p h c dr W (HP.out.chg0 hW) (by have := HO.out.h0; omega) h1 hdu)
         have hap : d.askP h dr p = p := by unfold Dm.askP; rw [if_neg hdue]
         have hfs : Dm.askS h dr (z, p) = [] := by unfold Dm.askS; rw [if_neg hdue]
         have HAP := Lib.hid hap
         have HFS := Lib.hid hfs
         clear hdue hap hfs hdu
         go_upto_region 12 with (fail)
         go_cut [11, 12] (fun s11 s12 wx => (∃ y, s12 = .int .i64 y ∧ (y = 2 ∨ y = 9)) ∧ Chg (fun _ => False) wr wx)
         case first =>
          go_region_with (first | (go_at_call 90; refine (HA.out _ (chg0_drew _)).mono ?_; rintro e w7 ⟨⟨y, rfl, hy⟩, c7⟩))
          all_goals (go_wp2_with fail; go_meet; exact ⟨⟨y, rfl, hy⟩, (chg0_drew _).trans c7⟩)
         case rest =>
          obtain ⟨⟨y, rfl, hy⟩, c7⟩ := hcut
          have hy0 : ¬ y = 0 := by omega
          have S7 := HS6.out.chg0 c7
          have G7 := HG6.out.chg c7 (fun h => h)
          have P7 := HP6.out.chg0 c7
          have hlist := askS_snoc (Dm.askS h dr) d.cfg.servers PP m HZ.out HPP.out
          rw [HFS.out, List.append_nil] at hlist
          rw [← hlist] at S7
          have hset := mapTo_set (d.askP h dr) PP m HPP.out
          rw [HAP.out, List.set_getElem?_self' (by rw [mapTo_get]; exact HPP.out)] at hset
          rw [hset] at P7
          have c8 := HC6.out.trans (c7.mono (S' := fun i => PB B.pb i ∨ i = ge + 1) (fun _ _ h => h.elim))
          have K10 : Hid (∃ (v' : Value) (g' : Option Nat) (vs' : List (Value × Option Nat)), PsAt _ B.pb (mapTo (d.askP h dr) PP (m + 1)) ∧ SendsAt wv _ v' g' (((d.cfg.servers.zip PP).take (m + 1)).flatMap (Dm.askS h dr)) vs' ∧ Blk _ (ge + 1) 74 #[v', .int .i64 0, .int .i64 0, .int .i64 0] ∧ Chg (fun i => PB B.pb i ∨ i = ge + 1) wv _) := Lib.hid ⟨_, _, _, P7, S7, G7, c8⟩
          clear S7 G7 P7 hlist hset c8 c7
          go_wp2_with fail
          go_meet
          exact K10.out
       case rest =>
        obtain ⟨v', g', vs', PA, SA, GA, cA⟩ := hcut
        have HSA := Lib.hid SA
        have HGA := Lib.hid GA
        have HPA := Lib.hid PA
        have HCC := Lib.hid cA
        clear SA GA PA cA b0 b11 e1 sc pc
        go_wp2_with fail
        go_roundw
        case rel => exact ⟨m + 1, v', g', vs', by omega, by go_num, HPA.out, HSA.out, HGA.out, HCC.out⟩
        case measure => simp [intOf]; omega
      ·have hmj' : m = j := by omega
       subst hmj'
       have hz : (d.cfg.servers.zip PP).take m = d.cfg.servers.zip PP := List.take_of_length_le (by rw [List.length_zip, HPL.out]; omega)
       rw [hz] at S6
       have hmt : mapTo (d.askP h dr) PP m = PP.map (d.askP h dr) := by have := mapTo_all (d.askP h dr) PP; rwa [HPL.out] at this
       rw [hmt] at P6
       have D6 := HD5.out.reps c6 (fun i hi => by
        rcases hi with hi | hi
        ·exact .inl hi
        ·subst hi; exact .inr ⟨_, HG5.out⟩) P6 (by simp)
       have c7 := HC5.out.trans' (S := fun i => PB B.pb i ∨ i = b) c6 (fun i hi e => by
        rcases e with e | e
        ·exact .inl e
        ·omega)
       have S7 := S6.base HSZ.out
       have HS7 := Lib.hid S7
       have HD6 := Lib.hid D6
       have HC7 := Lib.hid c7
       have n0 := G6.cell 0
       have n1 := G6.cell 1
       have n2 := G6.cell 2
       have n3 := G6.cell 3
       simp at n0 n1 n2 n3
       have f0 := G6.frozen 0
       have f1 := G6.frozen 1
       have f2 := G6.frozen 2
       have f3 := G6.frozen 3
       have HG6 := Lib.hid G6
       obtain ⟨va, vcap, hvv, -, -, -, -⟩ := S7.o.form
       generalize (List.map (fun x => [Value.int .i64 x.1.1, x.2.1]) (((d.cfg.servers.zip PP).flatMap (Dm.askS h dr)).zip vs)).length = vlen at *
       subst hvv
       clear D6 c7 S7 G6 P6 S6 c6 hz hmt
       go_wp2_with fail
       obtain ⟨E, e⟩ := set4 HG6.out (.slice va vlen vcap) (.int .i64 0) (.int .i64 0) (.int .i64 0)
       have nfE : ∀ {i : Nat} {t : TypeId} {cs : Array Value}, Blk wr i t cs → t ≠ 74 → ¬ i = ge + 1 := fun hb h1 e => by rw [e] at hb; exact h1 (blk_typ hb HG6.out)
       have DE := HD6.out.reps e (fun i hi => by have hi' : i = ge + 1 := hi; subst hi'; exact .inr ⟨_, HG6.out⟩) (HD6.out.ps.chg e (fun i hi e => HD6.out.ps.far HG6.out (by decide) (by decide) (by rw [← show i = ge + 1 from e]; exact hi))) rfl
       have SE := HS7.out.chg e (fun k _ hh e => by
        rcases HS7.out.blk hh with ⟨_, h'⟩ | ⟨_, h'⟩
        ·exact nfE h' (by decide) e
        ·exact nfE h' (by decide) e)
       have CE := HC7.out.trans' (S := fun i => PB B.pb i ∨ i = b) e (fun i hi e => by have e' : i = ge + 1 := e; omega)
       have m0 := E.cell 0
       have m1 := E.cell 1
       have m2 := E.cell 2
       have m3 := E.cell 3
       simp at m0 m1 m2 m3
       refine bodyPost_ret (v := .agg #[.slice va vlen vcap, .int .i64 0, .int .i64 0, .int .i64 0]) ?_ rfl ⟨_, rfl, ⟨g, vs, ?_⟩, ?_, CE⟩
       ·simp [results, Tryz.results56, go_sem, m0, m1, m2, m3]
       ·rw [HT.out]; exact SE
       ·rw [HT.out]; exact DE
end
end Go.Proofs.YtamhicdhbjniiaaGreatDoor
