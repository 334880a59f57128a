/- world.note: contract. world.come: what it leaves. -/
import Derived.Test.YtamhicdhbjniiaaGreatDoorM36
import Derived.Test.YtamhicdhbjniiaaGreatDoorM35
set_option linter.unusedVariables false
set_option maxHeartbeats 6400000
set_option maxRecDepth 100000
namespace Go.Proofs.YtamhicdhbjniiaaGreatDoor
section
open Go Go.RowKit Go.Chron
theorem cameLook2 {w : World} {m n : Nat} {D : DataW Unit} (h : w.ownsMap Tryz.prog 184 oneR m n D) (x y : Int) (hx : In64 x) (hy : In64 y) : ∃ a b, ∀ w', w'.ownsMap Tryz.prog 184 oneR m n D → (Instr.lookup 110 (.map (some m)) (.agg #[.int .i64 x, .int .i64 y]) false).run Tryz.prog w' = .ok (.agg #[.int .i64 a, .int .i64 b]) w' := by
 obtain ⟨kl, hk⟩ := keyW x y hx hy
 obtain ⟨v, ps, hr, hv⟩ := h.lookup lawW Tryz.underlying110 (zero182 w) (oneR_mk 0 0) hk
 obtain ⟨c, rfl, hc⟩ := oneR_inv hv
 refine ⟨c.1, c.2, fun w' h' => ?_⟩
 obtain ⟨v', ps', hr', hv'⟩ := h'.lookup lawW Tryz.underlying110 (zero182 w') (oneR_mk 0 0) hk
 obtain ⟨c', rfl, hc'⟩ := oneR_inv hv'
 injection hc with q1 _
 injection hc' with q2 _
 obtain ⟨e1, e2⟩ := oneD_inj (q1.symm.trans q2)
 rw [hr', e1, e2]
theorem info126 : (Tryz.prog.info? 126).map (fun i => (i.zero, i.size, i.bytes)) = some (some (.agg #[.int .i64 0, .bool false, .int .i64 0, .int .i64 0, .int .i64 0]), 5, 40) := by kernel_rfl
theorem info104 : (Tryz.prog.info? 104).map (fun i => (i.zero, i.size, i.bytes)) = some (some (.agg #[.int .i64 0, .int .i64 0, .slice none 0 0]), 3, 40) := by kernel_rfl
theorem WAt.noted {N b k1 : Nat} {W : Wm} {B : WB} {w X : World} {LV : Value} {x : LG} (h : WAt N w b W B) (hx : x.Ok X) (hxg : ∀ k, x.g = some k → ¬ DBk B.db B.D k) (a1 : Blk X b 113 (wmc W { B with lv := LV })) (a2 : Owns X 104 3 LV (some k1) (B.ML.map lgc ++ [lgc x]))
  (c : Chg (fun i => i = b ∨ B.lg = some i) w X) (hk : B.lg = some k1 ∨ w.heap.size ≤ k1) (hl : W.log.length + 1 ≤ N) : WAt N X b { W with log := W.log ++ [(x.th, x.off)] } { B with lv := LV, lg := some k1, ML := B.ML ++ [x] } := by
 have nf : ∀ {i : Nat} {t : TypeId} {cs : Array Value}, Blk w i t cs → t ≠ 113 → t ≠ 104 → ¬ (i = b ∨ B.lg = some i) := by
  rintro i t cs hb h1 h2 (e | e)
  ·subst e; exact h1 (blk_typ hb h.box)
  ·obtain ⟨_, h'⟩ := h.log.blk e; exact h2 (blk_typ hb h')
 obtain ⟨D, hD⟩ := h.came
 have nm : ¬ (B.mb = b ∨ B.lg = some B.mb) := by
  obtain ⟨es, clock, hm, _⟩ := hD
  have nn : ∀ {t cs}, ¬ Blk w B.mb t cs := fun hb => by
   unfold Blk at hb
   rw [hm] at hb; cases hb
  rintro (e | e)
  ·have := h.box; rw [← e] at this; exact nn this
  ·obtain ⟨_, h'⟩ := h.log.blk e; exact nn h'
 have nd : ∀ i, DBk B.db B.D i → ¬ (i = b ∨ B.lg = some i) := fun i hi e => by
  rcases e with e | e
  ·exact h.dis i (.inl e) hi
  ·exact h.dis i (by unfold WBk; simp [e]) hi
 exact {
  box := a1
  d := h.d.chg c nd
  g := h.g.chg c (nf h.g (by decide) (by decide))
  gok := h.gok
  srv := h.srv.chg c (fun k hk => by obtain ⟨_, h'⟩ := h.srv.blk hk; exact nf h' (by decide) (by decide))
  way := h.way.chg c (fun k hk => by obtain ⟨_, h'⟩ := h.way.blk hk; exact nf h' (by decide) (by decide))
  wok := h.wok
  wl := h.wl
  und := h.und.chg c (fun k hk => by obtain ⟨_, h'⟩ := h.und.blk hk; exact nf h' (by decide) (by decide))
  mok := fun y hy => (h.mok y hy).chg c (by obtain ⟨_, h'⟩ := (h.mok y hy).blk; exact nf h' (by decide) (by decide))
  mu := h.mu
  came := ⟨D, ownsMap_chg hD c nm⟩
  mn := h.mn
  log := by simpa using a2
  lok := fun y hy => by
   rcases List.mem_append.1 hy with hy | hy
   ·exact (h.lok y hy).chg c (fun k hk => by obtain ⟨_, h'⟩ := (h.lok y hy).o.blk hk; exact nf h' (by decide) (by decide))
   ·rw [List.mem_singleton.1 hy]; exact hx
  ll := by
   show (B.ML ++ [x]).map _ = W.log ++ _
   rw [List.map_append, h.ll]
   rfl
  ln := by show (W.log ++ _).length ≤ N; rw [List.length_append]; exact hl
  sent := h.sent
  h := h.h
  dis := by
   rintro i hi hd
   unfold WBk at hi
   simp only at hi
   rcases hi with hi | hi | hi | hi | hi | hi | hi | hi | ⟨y, hy, hi⟩
   ·exact h.dis i (.inl hi) hd
   ·exact h.dis i (.inr (.inl hi)) hd
   ·exact h.dis i (by unfold WBk; simp [hi]) hd
   ·exact h.dis i (by unfold WBk; simp [hi]) hd
   ·exact h.dis i (by unfold WBk; simp [hi]) hd
   ·exact h.dis i (.inr (.inr (.inr (.inr (.inr (.inl hi)))))) hd
   ·exact h.dis i (by unfold WBk; simp [hi]) hd
   ·cases hi
    rcases hk with e | e
    ·exact h.dis _ (by unfold WBk; simp [e]) hd
    ·have := h.d.lt hd; omega
   ·rcases List.mem_append.1 hy with hy | hy
    ·exact h.dis i (.inr (.inr (.inr (.inr (.inr (.inr (.inr (.inr ⟨y, hy, hi⟩)))))))) hd
    ·rw [List.mem_singleton.1 hy] at hi
     exact hxg i hi hd
  apart := h.apart }
structure NotePost (N : Nat) (w : World) (b : Nat) (W : Wm) (B : WB) (e : Ending) (w' : World) : Prop where
 e : e = .returned (.tuple #[])
 ex : ∃ B', WAt N w' b { W with log := W.log ++ [(W.d.theta, W.off)] } B' ∧ (∀ i, WAll b B' i → WAll b B i ∨ w.heap.size ≤ i) ∧ B'.uv = B.uv ∧ B'.ug = B.ug ∧ B'.M = B.M
 c : Chg (WAll b B) w w'
theorem note77 {N : Nat} {b : Nat} {W : Wm} {B : WB} {w : World} (h : WAt N w b W B) (hh : W.d.clk.h ≤ W.g.h) (h1 : W.g.h ≤ 4611686018427387903) (hl : W.log.length + 1 ≤ N) (hvo : ∀ v ∈ W.d.votes, In64 v.sam.t) (hN : N ≤ 1000000) : Calls Tryz.prog 77 #[.pointer (some ⟨b, 0, none⟩)] w (NotePost N w b W B) := by
 have k0 := h.box.cell 0
 simp [wmc] at k0
 have HWA := Lib.hid h
 have HLA := Lib.hid (last113 N B.db W.d B.D w h.d)
 have HOF := Lib.hid (fun W' (hW : Chg (fun _ => False) w W') => off31 (h.chg0 hW) hh h1)
 have hvl : W.d.votes.length ≤ 16 := by have := h.d.ok.vl; have := h.d.ok.cfg.n1; omega
 obtain ⟨n, hn⟩ : ∃ n, n = W.d.votes.length := ⟨_, rfl⟩
 rw [← hn] at hvl HLA
 have HN := Lib.hid hn
 obtain ⟨th, hth⟩ : ∃ th, th = W.d.theta := ⟨_, rfl⟩
 obtain ⟨off, hoff⟩ : ∃ off, off = W.off := ⟨_, rfl⟩
 rw [← hth] at HLA
 simp only [← hoff] at HOF
 have HTO := Lib.hid (And.intro hth hoff)
 clear h hh h1 hn hth hoff
 go_enter Tryz.func77, Tryz.ntmps77
 go_wp2_with fail
 refine HLA.out.mono ?_
 rintro e w1 ⟨a, cap, g, rfl, hv, hg, c1⟩
 go_wp2_with fail
 refine (HOF.out _ c1).mono ?_
 rintro e w2 ⟨rfl, c2⟩
 obtain ⟨a', cap', hsv, hc1, hc2, hc3, hc4⟩ := hv.form
 rw [List.length_map, ← HN.out] at hsv hc1
 obtain ⟨rfl, rfl⟩ : a = a' ∧ cap = cap' := by injection hsv with q1 q2 q3; exact ⟨q1, q3⟩
 have c12 := c1.trans c2
 have cA := chg0_alloc w2 (Obj.cells #[.int .i64 th, .int .i64 off, .slice none 0 0] 104)
 have HC12 := Lib.hid c12
 have HL := Lib.hid (Blk.new w2 104 #[.int .i64 th, .int .i64 off, .slice none 0 0])
 have HW2 := Lib.hid (HWA.out.chg0 c12)
 have HV3 := Lib.hid ((hv.chg c2 (fun _ _ h => h)).chg cA (fun _ _ h => h))
 have HC3 := Lib.hid (c12.trans cA)
 have hlt : ∀ i, WAll b B i → i < w2.heap.size := fun i hi => HW2.out.lt hi
 have hgl : ∀ k, g = some k → k < w2.heap.size := fun k hk => (hv.chg c2 (fun _ _ h => h)).lt k hk
 have HW3 := Lib.hid (HW2.out.chg0 cA)
 have HSZ := Lib.hid (show (w2.alloc (Obj.cells #[.int .i64 th, .int .i64 off, .slice none 0 0] 104)).heap.size = w2.heap.size + 1 from by simp)
 obtain ⟨L, hL⟩ : ∃ L, L = w2.heap.size := ⟨_, rfl⟩
 rw [← hL] at HL HSZ hlt hgl
 have HLT := Lib.hid (And.intro hlt hgl)
 have HG := Lib.hid hg
 have HA4 := Lib.hid hc4
 clear hsv hc2 hc3 c12 cA HW2 hv c1 c2 k0 HLA HOF hlt hgl hg hc4
 have HLE := Lib.hid hL
 clear hL
 go_upto_region 3 with (fail)
 rw [← HLE.out]
 generalize w2.alloc (Obj.cells #[.int .i64 th, .int .i64 off, .slice none 0 0] 104) = W3 at *
 go_loopw [22] (fun i wr => ∃ (j : Nat) (els : List (List Value)) (la : Option Addr) (lcap : Nat) (lg : Option Nat), j ≤ n ∧ i = .int .i64 j ∧ els.length = j ∧ (∀ u ∈ els.flatten, u.oneCell' = true) ∧ Owns wr 126 5 (.slice la j lcap) lg els ∧ (∀ k, lg = some k → W3.heap.size ≤ k) ∧ Blk wr L 104 #[.int .i64 th, .int .i64 off, .slice la j lcap] ∧ Chg (fun i => i = L) W3 wr) (fun i _ => n - (intOf i).toNat)
 case atStart => exact ⟨0, [], none, 0, none, by omega, rfl, rfl, by simp, Owns.nil _ _ _, by simp, HL.out, Chg.refl _ _⟩
 case round =>
  obtain ⟨j, els, la, lcap, lg, hj, rfl, hel, hone, hO, hlg, hB, hch⟩ := hrel
  have hwl : ∀ i, WAll b B i → ¬ i = L := fun i hi e => by have := HLT.out.1 i hi; omega
  have HWr := Lib.hid (HW3.out.chg hch hwl)
  have HR := Lib.hid (And.intro hel (And.intro hone (And.intro hO (And.intro hlg (And.intro hB hch)))))
  clear hone hO hlg hB hch hwl
  by_cases hjn : j < n
  ·have hjI : (j : Int) < n := by omega
   obtain ⟨v, hv⟩ : ∃ v, W.d.votes[j]? = some v := ⟨_, List.getElem?_eq_getElem (by rw [← HN.out]; exact hjn)⟩
   have hvm := List.mem_of_getElem? hv
   have hvt := HWA.out.d.ok.vt v hvm
   have hvin := hvo v hvm
   have hVr := HV3.out.chg HR.out.2.2.2.2.2 (fun k hk e => by have := HLT.out.2 k hk; have e' : k = L := e; omega)
   obtain ⟨vk, hvk⟩ := hVr.pos (by rw [List.length_map, ← HN.out]; omega)
   rw [hvk] at hVr
   obtain ⟨_, hfv, _⟩ := hVr.some_form
   have hae : a = some ⟨vk, 0, none⟩ := by injection hfv
   have hz2 : (W.d.votes.map votec)[j]? = some (votec v) := by rw [List.getElem?_map, hv]; rfl
   obtain ⟨si, hsi, hsr⟩ : ∃ si : Nat, si < W.d.cfg.servers.length ∧ v.srv = (si : Int) := ⟨v.srv.toNat, by omega, by omega⟩
   have hc0 : wr.cell? ⟨vk, j * 6, none⟩ = _ := hVr.cell rfl hz2 (j := 0) (u := .int .i64 v.srv) rfl
   have hc1' := hVr.cell rfl hz2 (j := 1) (u := .int .i64 v.sam.o) rfl
   have hc2' := hVr.cell rfl hz2 (j := 2) (u := .int .i64 v.sam.d) rfl
   have hc3' := hVr.cell rfl hz2 (j := 3) (u := .int .i64 v.sam.t) rfl
   have hc4' := hVr.cell rfl hz2 (j := 4) (u := .int .i64 v.sam.s) rfl
   have hc5' := hVr.cell rfl hz2 (j := 5) (u := .int .i64 v.off) rfl
   subst hae
   rw [hsr] at hc0
   clear hVr hfv hz2 hvt hvm
   obtain ⟨wo, rfl⟩ : ∃ wo, wo = wr := ⟨wr, rfl⟩
   have cW := chg0_alloc wo (Obj.cells #[.int .i64 si, .int .i64 v.sam.o, .int .i64 v.sam.d, .int .i64 v.sam.t, .int .i64 v.sam.s, .int .i64 v.off] 248)
   have B6 := Blk.new wo 248 #[.int .i64 si, .int .i64 v.sam.o, .int .i64 v.sam.d, .int .i64 v.sam.t, .int .i64 v.sam.s, .int .i64 v.off]
   obtain ⟨D, hD⟩ := HWr.out.came
   have hsin : In64 (si : Int) := by have := HWA.out.d.ok.cfg.n1; exact ⟨by omega, by omega⟩
   obtain ⟨ca, cb, hlook⟩ := cameLook2 hD (si : Int) v.sam.t hsin hvin
   have k5 := HWr.out.box.cell 5
   simp [wmc] at k5
   obtain ⟨p6, hp6⟩ : ∃ p6, p6 = wo.heap.size := ⟨_, rfl⟩
   rw [← hp6] at B6
   have b60 := B6.cell 0
   have b63 := B6.cell 3
   simp at b60 b63
   have hwm : B.mb < wo.heap.size := hD.lt
   have HS5 := Lib.hid (fun W' (hW : Chg (fun _ => False) (wo.alloc (Obj.cells #[.int .i64 si, .int .i64 v.sam.o, .int .i64 v.sam.d, .int .i64 v.sam.t, .int .i64 v.sam.s, .int .i64 v.off] 248)) W') =>
    (⟨hW.keep (cW.keep k5 (fun h => h)) (fun h => h), hW.keep b60 (fun h => h), hW.keep b63 (fun h => h), hlook W' (ownsMap_chg hD (cW.trans hW) (fun h => h))⟩ :
     W'.cell? ⟨b, 5, none⟩ = some (.map (some B.mb)) ∧ W'.cell? ⟨p6, 0, none⟩ = some (.int .i64 si) ∧ W'.cell? ⟨p6, 3, none⟩ = some (.int .i64 v.sam.t) ∧ (Instr.lookup 110 (.map (some B.mb)) (.agg #[.int .i64 si, .int .i64 v.sam.t]) false).run Tryz.prog W' = .ok (.agg #[.int .i64 ca, .int .i64 cb]) W'))
   have HP6 := Lib.hid (And.intro B6 (And.intro cW hp6))
   clear cW B6 hD hsin hlook k5 b60 b63 hwm
   go_upto_region 5 with (fail)
   rw [← hp6]
   clear hp6 hc0 hc1' hc2' hc3' hc4' hc5'
   generalize wo.alloc (Obj.cells #[.int .i64 si, .int .i64 v.sam.o, .int .i64 v.sam.d, .int .i64 v.sam.t, .int .i64 v.sam.s, .int .i64 v.off] 248) = W5 at *
   refine wp_region_noPanic ?_
   refine wp_region_till (s := 12) (S := (fun w' => w'.cell? ⟨b, 5, none⟩ = some (.map (some B.mb)) ∧ w'.cell? ⟨p6, 0, none⟩ = some (.int .i64 si) ∧ w'.cell? ⟨p6, 3, none⟩ = some (.int .i64 v.sam.t) ∧ (Instr.lookup 110 (.map (some B.mb)) (.agg #[.int .i64 si, .int .i64 v.sam.t]) false).run Tryz.prog w' = .ok (.agg #[.int .i64 ca, .int .i64 cb]) w')) (by kernel_rfl) ?_
   have hHeld := HS5.out W5.drew (Chg.drew (Chg.refl _ _))
   refine wP 0 26 _ (fun _ => hHeld) ?_
   refine wP 1 27 _ (fun _ => hHeld) ?_
   refine wP 2 28 _ (fun _ => hHeld) ?_
   refine wL 3 29 _ (fun _ => hHeld) ?_
   refine wP 4 30 _ (fun _ => hHeld) ?_
   refine wL 5 31 _ (fun _ => hHeld) ?_
   refine wP 6 32 _ (fun _ => hHeld) ?_
   refine wP 7 33 _ (fun _ => hHeld) ?_
   refine wL 8 34 _ (fun _ => hHeld) ?_
   refine wP 9 35 _ (fun _ => hHeld) ?_
   refine wL 10 36 _ (fun _ => hHeld) ?_
   refine wpTill_one (i := 11) (oi := ⟨some 7, _, _, _, _, _⟩) rfl (by kernel_rfl) (fun KK hKK => ?_)
   go_simp
   refine hKK _ _ (andS (HS5.out _ kC) (fun hHeld' => ?_))
   clear hKK KK
   try simp only [Act.put, qA, qB, qC]
   refine wpTill_one (i := 12) (oi := ⟨none, _, _, _, _, _⟩) rfl (by kernel_rfl) (fun KK hKK => ?_)
   go_simp
   refine hKK _ _ ⟨(fun h => (by simp at h)), ?_⟩
   clear hKK KK
   try simp only [Act.put, qA, qB, qC]
   refine wpTill_done (by kernel_rfl) ?_
   refine NoPanic.normal ?_
   generalize hp7 : W5.heap.size = p7
   have cW6 := (chg0_alloc W5 (Obj.cells #[.int .i64 ca, .int .i64 cb] 182)).drew
   have B7 := (Blk.new W5 182 #[.int .i64 ca, .int .i64 cb]).drew
   rw [hp7] at B7
   clear HS5 hHeld hHeld'
   go_upto_region 6 with (fail)
   generalize hW6 : (W5.alloc (Obj.cells #[.int .i64 ca, .int .i64 cb] 182)).drew = W6 at *
   have c06 := HP6.out.2.1.trans cW6
   have HL6 := Lib.hid (HR.out.2.2.2.2.1.chg c06 (fun h => h))
   have HO6 := Lib.hid (HR.out.2.2.1.chg c06 (fun _ _ h => h))
   have HW6 := Lib.hid (HWr.out.chg0 c06)
   have B66 := HP6.out.1.chg cW6 (fun h => h)
   have hwy := HW6.out.way
   obtain ⟨wk, hwk⟩ := hwy.pos (by rw [List.length_map, HWA.out.wl]; omega)
   rw [hwk] at hwy
   obtain ⟨wcap, hwv, hwc1, hwc2⟩ := hwy.some_form
   rw [List.length_map] at hwv hwc1
   obtain ⟨y, hy⟩ : ∃ y, W.ways[si]? = some y := ⟨_, List.getElem?_eq_getElem (by rw [HWA.out.wl]; exact hsi)⟩
   have hwz : (W.ways.map fun y => (wayc y).toList)[si]? = some (wayc y).toList := by rw [List.getElem?_map, hy]; rfl
   have q0 : W6.cell? ⟨wk, si * 6, none⟩ = some (.int .i64 y.kind) := hwy.cell rfl hwz (j := 0) rfl
   have q1 := HL6.out.cell 2
   have q2 := B66.cell 0
   have q3 := B66.cell 2
   have q4 := B7.cell 0
   have q5 := B7.cell 1
   have q6 := HW6.out.box.cell 1
   have q7 := HW6.out.box.cell 3
   simp [wmc] at q1 q2 q3 q4 q5 q6 q7
   rw [hwv] at q7
   have nt : ∀ {i : Nat} {t : TypeId} {cs : Array Value}, Blk W6 i t cs → t ≠ 126 → ¬ lg = some i := fun hb ht e => by
    obtain ⟨_, h'⟩ := HO6.out.blk e
    exact ht (blk_typ hb h')
   obtain ⟨_, hwb⟩ := hwy.blk rfl
   have n1 := nt HL6.out (by decide)
   have n2 := nt B66 (by decide)
   have n3 := nt B7 (by decide)
   have n4 := nt HW6.out.box (by decide)
   have n5 := nt hwb (by decide)
   have HNG := Lib.hid (nt HW6.out.g (by decide))
   have HG6 := Lib.hid HW6.out.g
   have HNL := Lib.hid n1
   obtain ⟨kd, hkd⟩ : ∃ kd, kd = y.kind := ⟨_, rfl⟩
   rw [← hkd] at q0
   obtain ⟨wn, hwn⟩ : ∃ wn, wn = W.ways.length := ⟨_, rfl⟩
   rw [← hwn] at q7 hwc1
   have hsw : si < wn := by rw [hwn, HWA.out.wl]; exact hsi
   have hswI : (si : Int) < wn := by omega
   have hsc : si < wcap := by omega
   have HS6 := Lib.hid (fun W' (hW : Chg (fun i => lg = some i) W6 W') => (⟨hW.keep q0 n5, hW.keep q1 n1, hW.keep q2 n2, hW.keep q3 n2, hW.keep q4 n3, hW.keep q5 n3, hW.keep q6 n4, hW.keep q7 n4⟩ :
    W'.cell? ⟨wk, si * 6, none⟩ = some (.int .i64 kd) ∧ W'.cell? ⟨L, 2, none⟩ = some (.slice la j lcap) ∧ W'.cell? ⟨p6, 0, none⟩ = some (.int .i64 si) ∧ W'.cell? ⟨p6, 2, none⟩ = some (.int .i64 v.sam.d) ∧ W'.cell? ⟨p7, 0, none⟩ = some (.int .i64 ca) ∧ W'.cell? ⟨p7, 1, none⟩ = some (.int .i64 cb) ∧ W'.cell? ⟨b, 1, none⟩ = some (.pointer (some ⟨B.gb, 0, none⟩)) ∧ W'.cell? ⟨b, 3, none⟩ = some (.slice (some ⟨wk, 0, none⟩) wn wcap)))
   obtain ⟨i0, hi1, hi2, hi3, hi4⟩ := info_parts info126
   have HC06 := Lib.hid c06
   clear c06 cW6 B7 B66 hwy hwv hwc2 hy hwz q0 q1 q2 q3 q4 q5 q6 q7 nt hwb n1 n2 n3 n4 n5 hkd hwn hsi hwc1
   refine wp_region_noPanic ?_
   refine wp_region_till (s := 31) (S := (fun w' => w'.cell? ⟨wk, si * 6, none⟩ = some (.int .i64 kd) ∧ w'.cell? ⟨L, 2, none⟩ = some (.slice la j lcap) ∧ w'.cell? ⟨p6, 0, none⟩ = some (.int .i64 si) ∧ w'.cell? ⟨p6, 2, none⟩ = some (.int .i64 v.sam.d) ∧ w'.cell? ⟨p7, 0, none⟩ = some (.int .i64 ca) ∧ w'.cell? ⟨p7, 1, none⟩ = some (.int .i64 cb) ∧ w'.cell? ⟨b, 1, none⟩ = some (.pointer (some ⟨B.gb, 0, none⟩)) ∧ w'.cell? ⟨b, 3, none⟩ = some (.slice (some ⟨wk, 0, none⟩) wn wcap))) (by kernel_rfl) ?_
   have hHeld := HS6.out W6.drew (Chg.drew (Chg.refl _ _))
   refine wP 0 37 _ (fun _ => hHeld) ?_
   refine wL 1 38 _ (fun _ => hHeld) ?_
   refine wP 2 39 _ (fun _ => hHeld) ?_
   refine wL 3 40 _ (fun _ => hHeld) ?_
   refine wP 4 41 _ (fun _ => hHeld) ?_
   refine wP 5 42 _ (fun _ => hHeld) ?_
   refine wP 6 43 _ (fun _ => hHeld) ?_
   refine wL 7 44 _ (fun _ => hHeld) ?_
   refine wP 8 45 _ (fun _ => hHeld) ?_
   refine wL 9 46 _ (fun _ => hHeld) ?_
   refine wP 10 47 _ (fun _ => hHeld) ?_
   refine wP 11 48 _ (fun _ => hHeld) ?_
   refine wL 12 49 _ (fun _ => hHeld) ?_
   refine wP 13 50 _ (fun _ => hHeld) ?_
   refine wP 14 51 _ (fun _ => hHeld) ?_
   refine wP 15 52 _ (fun _ => hHeld) ?_
   refine wL 16 53 _ (fun _ => hHeld) ?_
   refine wP 17 54 _ (fun _ => hHeld) ?_
   refine wL 18 55 _ (fun _ => hHeld) ?_
   refine wP 19 56 _ (fun _ => hHeld) ?_
   refine wP 20 57 _ (fun _ => hHeld) ?_
   refine wP 21 58 _ (fun _ => hHeld) ?_
   refine wL 22 59 _ (fun _ => hHeld) ?_
   refine wP 24 61 _ (fun _ => hHeld) ?_
   refine wL 25 62 _ (fun _ => hHeld) ?_
   refine wpTill_one (i := 23) (oi := ⟨some 60, _, _, _, _, _⟩) rfl (by kernel_rfl) (fun KK hKK => ?_)
   go_simp
   refine (true37 B.gb W.g _ (HG6.out.chg (show Chg (fun i => lg = some i) W6 _ from kC) HNG.out)).mono ?_
   rintro e wt ⟨rfl, rfl⟩
   refine hKK _ _ (andS (HS6.out _ kC) (fun hHeld' => ?_))
   clear hKK KK
   try simp only [Act.put, qA, qB, qC]
   refine wP 26 63 _ (fun _ => hHeld') ?_
   refine wP 27 64 _ (fun _ => hHeld') ?_
   refine wpTill_one (i := 28) (oi := ⟨some 65, _, _, _, _, _⟩) rfl (by kernel_rfl) (fun KK hKK => ?_)
   go_simp
   refine hKK _ _ (andS (HS6.out _ kC) (fun hHeld'' => ?_))
   clear hKK KK
   try simp only [Act.put, qA, qB, qC]
   refine wpTill_one (i := 29) (oi := ⟨some 66, _, _, _, _, _⟩) rfl (by kernel_rfl) (fun KK hKK => ?_)
   refine step_app (by rfl) (.tmp 38) (.tmp 65) 102 (by rfl) 126 i0 _ 5 40 Tryz.underlying102 hi1 hi2 hi3 hi4 rfl (by omega) (.slice la j lcap) lg els (by rfl) (HO6.out.drew.alloc _) _ _ [[.int .i64 si, .bool (kd == 0), .int .i64 v.sam.d, .int .i64 ca, .int .i64 (IntKind.i64.wrap (W.g.t - cb))]] 1 1 (by rfl) rfl (Blk.new _ _ _) (by simp) (by simp [Value.oneCell']) (by simp) (by rw [hel]; simp; omega) (by rw [hel]; simp [maxLen]; omega) ?_
   intro k1 cap1 v1 ho1 hch1 hk1
   have cT : Chg (fun i => lg = some i) W6 v1 := Chg.trans kC hch1
   have d1 := HL6.out.chg cT HNL.out
   have f2 := d1.frozen 2
   refine hKK _ _ (andS (HS6.out _ kC) (fun hHeld => ?_))
   clear hKK KK
   try simp only [Act.put, qA, qB, qC]
   refine wP 30 67 _ (fun _ => hHeld) ?_
   refine wpTill_one (i := 31) (oi := ⟨none, _, _, _, _, _⟩) rfl (by kernel_rfl) (fun KK hKK => ?_)
   go_simp
   refine hKK _ _ ⟨(fun h => (by simp at h)), ?_⟩
   clear hKK KK
   try simp only [Act.put, qA, qB, qC]
   refine wpTill_done (by kernel_rfl) ?_
   refine NoPanic.normal ?_
   have ho1' : Owns v1 126 5 (.slice (some ⟨k1, 0, none⟩) (j + 1) cap1) (some k1) (els ++ [[.int .i64 si, .bool (kd == 0), .int .i64 v.sam.d, .int .i64 ca, .int .i64 (IntKind.i64.wrap (W.g.t - cb))]]) := by
    rw [hel] at ho1; exact ho1
   have cS : Chg (fun i => i = L) v1 (v1.setCell ⟨L, 2, none⟩ (.slice (some ⟨k1, 0, none⟩) (j + 1) cap1)) := (Chg.refl (fun i => i = L) v1).setCell (p := ⟨L, 2, none⟩) (fun _ => rfl) _
   have O9 := ho1'.chg cS (fun k hk e => by
    cases hk
    obtain ⟨_, h'⟩ := ho1'.blk rfl
    have e' : k1 = L := e
    rw [e'] at h'
    exact absurd (blk_typ h' d1) (by decide))
   have L9 := d1.set_ 2 (.slice (some ⟨k1, 0, none⟩) (j + 1) cap1)
   have z1 := HR.out.2.2.2.2.2.size
   have z2 := HC06.out.size
   have F9 : ∀ k, some k1 = some k → W3.heap.size ≤ k := fun k hk => by
    cases hk
    rcases hk1 with e | e
    ·exact HR.out.2.2.2.1 _ e
    ·have e' : (W6.alloc (Obj.cells #[.int .i64 si, .bool (kd == 0), .int .i64 v.sam.d, .int .i64 ca, .int .i64 (IntKind.i64.wrap (W.g.t - cb))] 126)).heap.size ≤ k1 := e
     rw [World.size_alloc] at e'
     omega
   have C9 := ((HR.out.2.2.2.2.2.trans (HC06.out.mono (fun _ _ h => h.elim))).trans' cT (fun i hi e => by have := HR.out.2.2.2.1 i e; omega)).trans cS
   have one9 : ∀ u ∈ (els ++ [[Value.int .i64 si, .bool (kd == 0), .int .i64 v.sam.d, .int .i64 ca, .int .i64 (IntKind.i64.wrap (W.g.t - cb))]]).flatten, u.oneCell' = true := fun u hu => by
    rw [List.flatten_append] at hu
    rcases List.mem_append.1 hu with hu | hu
    ·exact HR.out.2.1 u hu
    ·simp at hu
     rcases hu with rfl | rfl | rfl | rfl | rfl <;> rfl
   have HO9 := Lib.hid O9
   have HL9 := Lib.hid L9
   have HF9 := Lib.hid F9
   have HC9 := Lib.hid C9
   have HN9 := Lib.hid one9
   clear ho1 ho1' cS O9 L9 z1 z2 F9 C9 one9 d1 f2 hch1 hk1 cT hHeld
   try clear hHeld' hHeld''
   go_wp2_with fail
   go_roundw
   case rel => exact ⟨j + 1, _, _, _, _, by omega, by go_num, by rw [List.length_append, hel]; rfl, HN9.out, HO9.out, HF9.out, by simpa using HL9.out, HC9.out⟩
   case measure => simp [intOf]; omega
  ·obtain rfl : j = n := by omega
   have hbl := HR.out.2.2.2.2.1
   have k6 := HWr.out.box.cell 6
   have q0 := hbl.cell 0
   have q1 := hbl.cell 1
   have q2 := hbl.cell 2
   simp [wmc] at k6 q0 q1 q2
   have hLO := HWr.out.log
   have hll : B.ML.length = W.log.length := by rw [← HWr.out.ll, List.length_map]
   obtain ⟨EL, hEL⟩ : ∃ EL, EL = B.ML.map lgc := ⟨_, rfl⟩
   rw [← hEL] at hLO
   have HEL := Lib.hid (And.intro hEL (show EL.length + 1 ≤ 1000000 by rw [hEL, List.length_map]; omega))
   obtain ⟨lv, hlv⟩ : ∃ lv, lv = B.lv := ⟨_, rfl⟩
   obtain ⟨lgg, hlgg⟩ : ∃ lgg, lgg = B.lg := ⟨_, rfl⟩
   rw [← hlv] at k6 hLO
   rw [← hlgg] at hLO
   have HVV := Lib.hid (And.intro hlv hlgg)
   have n1 : ¬ lgg = some b := fun e => by obtain ⟨_, h'⟩ := hLO.blk e; exact absurd (blk_typ h' HWr.out.box) (by decide)
   have n2 : ¬ lgg = some L := fun e => by
    have := HLT.out.1 L (.inl (by unfold WBk; rw [hlgg] at e; simp [e])); omega
   have HS8 := Lib.hid (fun W' (hW : Chg (fun i => lgg = some i) wr W') => (⟨hW.keep k6 n1, hW.keep q0 n2, hW.keep q1 n2, hW.keep q2 n2⟩ :
    W'.cell? ⟨b, 6, none⟩ = some lv ∧ W'.cell? ⟨L, 0, none⟩ = some (.int .i64 th) ∧ W'.cell? ⟨L, 1, none⟩ = some (.int .i64 off) ∧ W'.cell? ⟨L, 2, none⟩ = some (.slice la j lcap)))
   have HLO := Lib.hid hLO
   have HBX := Lib.hid HWr.out.box
   have HNB := Lib.hid n1
   obtain ⟨i0, hi1, hi2, hi3, hi4⟩ := info_parts info104
   clear hbl k6 q0 q1 q2 hLO hll hEL hlv hlgg n1 n2
   go_upto_region 8 with (fail)
   refine wp_region_noPanic ?_
   refine wp_region_till (s := 10) (S := (fun w' => w'.cell? ⟨b, 6, none⟩ = some lv ∧ w'.cell? ⟨L, 0, none⟩ = some (.int .i64 th) ∧ w'.cell? ⟨L, 1, none⟩ = some (.int .i64 off) ∧ w'.cell? ⟨L, 2, none⟩ = some (.slice la j lcap))) (by kernel_rfl) ?_
   have hHeld := HS8.out wr.drew (Chg.drew (Chg.refl _ _))
   refine wP 0 69 _ (fun _ => hHeld) ?_
   refine wP 1 70 _ (fun _ => hHeld) ?_
   refine wP 2 71 _ (fun _ => hHeld) ?_
   refine wP 3 72 _ (fun _ => hHeld) ?_
   refine wL 4 73 _ (fun _ => hHeld) ?_
   refine wL 5 74 _ (fun _ => hHeld) ?_
   refine wpTill_one (i := 6) (oi := ⟨some 75, _, _, _, _, _⟩) rfl (by kernel_rfl) (fun KK hKK => ?_)
   go_simp
   refine hKK _ _ (andS (HS8.out _ kC) (fun hHeld' => ?_))
   clear hKK KK
   try simp only [Act.put, qA, qB, qC]
   refine wpTill_one (i := 7) (oi := ⟨some 76, _, _, _, _, _⟩) rfl (by kernel_rfl) (fun KK hKK => ?_)
   refine step_app (by rfl) (.tmp 73) (.tmp 75) 39 (by rfl) 104 i0 _ 3 40 Tryz.underlying39 hi1 hi2 hi3 hi4 rfl (by omega) lv lgg EL (by rfl) (HLO.out.drew.alloc _) _ _ [[.int .i64 th, .int .i64 off, .slice la j lcap]] 1 1 (by rfl) rfl (Blk.new _ _ _) (by simp) (by simp [Value.oneCell']) (by simp) (by have := HEL.out.2; simp; omega) (by have := HEL.out.2; simp [maxLen]; omega) ?_
   intro k1 cap1 v1 ho1 hch1 hk1
   have cT : Chg (fun i => lgg = some i) wr v1 := Chg.trans kC hch1
   have d1 := HBX.out.chg cT HNB.out
   have f6 := d1.frozen 6
   refine hKK _ _ (andS (HS8.out _ kC) (fun hHeld'' => ?_))
   clear hKK KK
   try simp only [Act.put, qA, qB, qC]
   refine wP 8 77 _ (fun _ => hHeld'') ?_
   refine wP 9 78 _ (fun _ => hHeld'') ?_
   refine wpTill_one (i := 10) (oi := ⟨none, _, _, _, _, _⟩) rfl (by kernel_rfl) (fun KK hKK => ?_)
   go_simp
   refine hKK _ _ ⟨(fun h => (by simp at h)), ?_⟩
   clear hKK KK
   try simp only [Act.put, qA, qB, qC]
   refine wpTill_done (by kernel_rfl) ?_
   refine NoPanic.normal ?_
   have hN1 : lgg = some k1 ∨ wr.heap.size ≤ k1 := hk1.imp id (fun h => by
    have h' : (wr.alloc (Obj.cells #[.int .i64 th, .int .i64 off, .slice la j lcap] 104)).heap.size ≤ k1 := h
    rw [World.size_alloc] at h'
    omega)
   have hvv := HVV.out.1
   have hvg := HVV.out.2
   have hEE := HEL.out.1
   have cS : Chg (fun i => i = b) v1 (v1.setCell ⟨b, 6, none⟩ (.slice (some ⟨k1, 0, none⟩) (EL.length + 1) cap1)) := (Chg.refl (fun i => i = b) v1).setCell (p := ⟨b, 6, none⟩) (fun _ => rfl) _
   have A1 := d1.set_ 6 (.slice (some ⟨k1, 0, none⟩) (EL.length + 1) cap1)
   have A2 := ho1.chg cS (fun k hk e => by
    obtain ⟨_, h'⟩ := ho1.blk hk
    have e' : k = b := e
    rw [e'] at h'
    exact absurd (blk_typ h' d1) (by decide))
   have CX : Chg (fun i => i = b ∨ B.lg = some i) wr (v1.setCell ⟨b, 6, none⟩ (.slice (some ⟨k1, 0, none⟩) (EL.length + 1) cap1)) := by
    rw [← hvg]
    exact (cT.mono (fun _ _ h => .inr h)).trans (cS.mono (fun _ _ h => .inl h))
   have hO := HR.out.2.2.1
   have hfl := HR.out.2.2.2.1
   have hz := HSZ.out
   have hLG : (⟨th, off, la, lcap, lg, els⟩ : LG).Ok (v1.setCell ⟨b, 6, none⟩ (.slice (some ⟨k1, 0, none⟩) (EL.length + 1) cap1)) := by
    refine ⟨?_, HR.out.2.1, by show els.length ≤ 16; omega⟩
    have := hO.chg CX (fun k hk e => by
     obtain ⟨_, h'⟩ := hO.blk hk
     rcases e with e | e
     ·rw [e] at h'; exact absurd (blk_typ h' HWr.out.box) (by decide)
     ·obtain ⟨_, h''⟩ := HWr.out.log.blk e
      exact absurd (blk_typ h' h'') (by decide))
    rw [← hel] at this
    exact this
   have WX := HWr.out.noted (LV := .slice (some ⟨k1, 0, none⟩) (EL.length + 1) cap1) hLG (fun k hk hd => by have := hfl k hk; have := HLT.out.1 k (.inr hd); omega) (by simpa [wmc] using A1) (by rw [hEE] at A2 ⊢; rw [← hel] at A2; exact A2) CX (by rw [← hvg]; exact hN1) hl
   have hsz1 := HC3.out.size
   have hszr := HR.out.2.2.2.2.2.size
   have cW : Chg (WAll b B) w (v1.setCell ⟨b, 6, none⟩ (.slice (some ⟨k1, 0, none⟩) (EL.length + 1) cap1)) := by
    refine ((HC3.out.mono (S' := WAll b B) (fun _ _ h => h.elim)).trans' HR.out.2.2.2.2.2 (fun i hi e => ?_)).trans' CX (fun i hi e => ?_)
    ·have e' : i = L := e
     have h2 := HC12.out.size
     have h3 := HLE.out
     omega
    ·rcases e with e | e
     ·exact .inl (.inl e)
     ·exact .inl (by unfold WBk; simp [e])
   refine bodyPost_ret (v := .tuple #[]) (by simp [results, Tryz.results77, go_sem]) rfl ?_
   have WX' := WX
   rw [HTO.out.1, HTO.out.2] at WX'
   refine ⟨rfl, ⟨_, WX', ?_, rfl, rfl, rfl⟩, cW⟩
   rintro i (hi | hi)
   ·unfold WBk at hi
    simp only at hi
    rcases hi with hi | hi | hi | hi | hi | hi | hi | hi | ⟨y, hy, hi⟩
    ·exact .inl (.inl (.inl hi))
    ·exact .inl (.inl (.inr (.inl hi)))
    ·exact .inl (.inl (by unfold WBk; simp [hi]))
    ·exact .inl (.inl (by unfold WBk; simp [hi]))
    ·exact .inl (.inl (by unfold WBk; simp [hi]))
    ·exact .inl (.inl (.inr (.inr (.inr (.inr (.inr (.inl hi)))))))
    ·exact .inl (.inl (by unfold WBk; simp [hi]))
    ·cases hi
     rcases hN1 with e | e
     ·rw [hvg] at e; exact .inl (.inl (by unfold WBk; simp [e]))
     ·exact .inr (by omega)
    ·rcases List.mem_append.1 hy with hy | hy
     ·exact .inl (.inl (.inr (.inr (.inr (.inr (.inr (.inr (.inr (.inr ⟨y, hy, hi⟩)))))))))
     ·rw [List.mem_singleton.1 hy] at hi
      have := hfl i hi
      exact .inr (by omega)
   ·exact .inl (.inr hi)
end
section
open Go Go.RowKit Go.Chron
theorem take_cfg (d : Dm) (i : Nat) (h : Int) (x : Sam) : (d.take i h x).cfg = d.cfg ∧ (d.take i h x).h = d.h := by
 unfold Dm.take
 simp only
 split <;> exact ⟨rfl, rfl⟩
theorem hear_cfg (d : Dm) (h addr : Int) (L : List Int) : (d.hear h addr L).1.cfg = d.cfg ∧ (d.hear h addr L).1.h = d.h := by
 unfold Dm.hear
 split
 ·exact ⟨rfl, rfl⟩
 ·simp only
  split
  ·exact ⟨rfl, rfl⟩
  ·unfold Dm.come
   simp only
   split
   ·exact take_cfg _ _ _ _
   ·exact ⟨rfl, rfl⟩
theorem doData_cfg (d : Dm) (h addr : Int) (L : List Int) : (d.doData h addr L).1.cfg = d.cfg ∧ (d.doData h addr L).1.h = h := by
 have := hear_cfg (d.at h) h addr L
 exact this
theorem voteOf_mem {L : List Sam} {i : Nat} {h life sl : Int} {v : Vt} (hv : v ∈ voteOf L i h life sl) : v.sam ∈ L := by
 unfold voteOf at hv
 split at hv
 ·cases hv
 ·rename_i x hx
  rw [List.mem_singleton.1 hv]
  exact (List.mem_filter.1 (bestOf_mem _ _ hx)).1
theorem selOf_sam {Ls : List (List Sam)} {h life sl : Int} {j : Nat} {v : Vt} (hv : v ∈ selOf Ls h life sl j) : ∃ L ∈ Ls, v.sam ∈ L := by
 unfold selOf at hv
 obtain ⟨i, _, hi⟩ := List.mem_flatMap.1 hv
 have hm := voteOf_mem hi
 rw [List.getD_eq_getElem?_getD] at hm
 cases hL : Ls[i]? with
 | none => rw [hL] at hm; cases hm
 | some L => rw [hL] at hm; exact ⟨L, List.mem_of_getElem? hL, hm⟩
theorem take_votes (d : Dm) (i : Nat) (h : Int) (x : Sam) (hc : d.chosen < (d.take i h x).chosen) : ∀ v ∈ (d.take i h x).votes, ∃ L ∈ (d.take i h x).ss, v.sam ∈ L := by
 unfold Dm.take at hc ⊢
 simp only at hc ⊢
 split at hc
 ·rename_i h0
  rw [if_pos h0]
  exact fun v hv => selOf_sam hv
 ·exact absurd hc (Int.lt_irrefl _)
theorem hear_votes (d : Dm) (h addr : Int) (L : List Int) (hc : d.chosen < (d.hear h addr L).1.chosen) : ∀ v ∈ (d.hear h addr L).1.votes, ∃ M ∈ (d.hear h addr L).1.ss, v.sam ∈ M := by
 unfold Dm.hear at hc ⊢
 split at hc
 ·exact absurd hc (Int.lt_irrefl _)
 ·rename_i hl
  rw [if_neg hl]
  simp only at hc ⊢
  split at hc
  ·exact absurd hc (Int.lt_irrefl _)
  ·rename_i hk
   rw [if_neg hk]
   unfold Dm.come at hc ⊢
   simp only at hc ⊢
   split at hc
   ·rename_i h0
    rw [if_pos h0]
    exact take_votes _ _ _ _ hc
   ·exact absurd hc (Int.lt_irrefl _)
theorem doData_votes (d : Dm) (h addr : Int) (L : List Int) (hc : d.chosen < (d.doData h addr L).1.chosen) : ∀ v ∈ (d.doData h addr L).1.votes, ∃ M ∈ (d.doData h addr L).1.ss, v.sam ∈ M :=
 hear_votes (d.at h) h addr L hc
theorem WAt.heard {N M : Nat} {w w' : World} {b : Nat} {W : Wm} {B : WB} {d' : Dm} {D' : DB} (h : WAt N w b W B) (hNM : N ≤ M) (hd : DAt M w' B.db d' D') (c : Chg (DBk B.db B.D) w w') (hf : ∀ j, DBk B.db D' j → DBk B.db B.D j ∨ w.heap.size ≤ j)
  (hc : d'.cfg = W.d.cfg) (hh : d'.h ≤ W.g.h) : WAt M w' b { W with d := d' } { B with D := D' } := by
 have nd : ∀ i, WBk b B i → ¬ DBk B.db B.D i := h.dis
 have nW := nd
 unfold WBk at nd
 exact {
  box := h.box.chg c (nd _ (by simp))
  d := hd
  g := h.g.chg c (nd _ (by simp))
  gok := h.gok
  srv := by
   show Owns w' 3 1 B.sv B.sg (d'.cfg.servers.map i64c)
   rw [hc]
   exact h.srv.chg c (fun k hk => nd _ (by simp [hk]))
  way := h.way.chg c (fun k hk => nd _ (by simp [hk]))
  wok := h.wok
  wl := by show W.ways.length = d'.cfg.servers.length; rw [hc]; exact h.wl
  und := h.und.chg c (fun k hk => nd _ (by simp [hk]))
  mok := fun x hx => by
   show x.Ok d'.cfg.servers.length w'
   rw [hc]
   exact (h.mok x hx).chg c (nd _ (by right; right; right; right; right; left; exact ⟨x, hx, rfl⟩))
  mu := h.mu
  came := by obtain ⟨D, hD⟩ := h.came; exact ⟨D, ownsMap_chg hD c (nd _ (by simp))⟩
  mn := Nat.le_trans h.mn hNM
  log := h.log.chg c (fun k hk => nd _ (by simp [hk]))
  lok := fun x hx => (h.lok x hx).chg c (fun k hk => nd _ (by right; right; right; right; right; right; right; right; exact ⟨x, hx, hk⟩))
  ll := h.ll
  ln := Nat.le_trans h.ln hNM
  sent := ⟨h.sent.1, by have := h.sent.2; show W.sent ≤ _; omega⟩
  h := hh
  dis := fun i hi hd' => by
   have hi' : WBk b B i := hi
   rcases hf i hd' with e | e
   ·exact nW i hi' e
   ·have := h.lt (.inl hi'); omega
  apart := h.apart }
theorem WAt.camed {N n' : Nat} {w w' : World} {b : Nat} {W : Wm} {B : WB} {D' : DataW Unit} (h : WAt N w b W B) (c : Chg (fun i => i = B.mb) w w') (ho : w'.ownsMap Tryz.prog 184 oneR B.mb n' D') (hn : n' ≤ N) : WAt N w' b W { B with mn := n' } := by
 obtain ⟨D, hD⟩ := h.came
 have nb : ∀ {i : Nat} {t cs}, Blk w i t cs → ¬ i = B.mb := fun hb e => by
  obtain ⟨es, clock, hm, _⟩ := hD
  unfold Blk at hb
  rw [e, hm] at hb; cases hb
 have nd : ¬ DBk B.db B.D B.mb := h.dis _ (by unfold WBk; simp)
 exact {
  box := h.box.chg c (nb h.box)
  d := h.d.chg c (fun i hi e => nd (by have e' : i = B.mb := e; rwa [e'] at hi))
  g := h.g.chg c (nb h.g)
  gok := h.gok
  srv := h.srv.chg c (fun k hk => by obtain ⟨_, h'⟩ := h.srv.blk hk; exact nb h')
  way := h.way.chg c (fun k hk => by obtain ⟨_, h'⟩ := h.way.blk hk; exact nb h')
  wok := h.wok
  wl := h.wl
  und := h.und.chg c (fun k hk => by obtain ⟨_, h'⟩ := h.und.blk hk; exact nb h')
  mok := fun x hx => (h.mok x hx).chg c (by obtain ⟨_, h'⟩ := (h.mok x hx).blk; exact nb h')
  mu := h.mu
  came := ⟨D', ho⟩
  mn := hn
  log := h.log.chg c (fun k hk => by obtain ⟨_, h'⟩ := h.log.blk hk; exact nb h')
  lok := fun x hx => (h.lok x hx).chg c (fun k hk => by obtain ⟨_, h'⟩ := (h.lok x hx).o.blk hk; exact nb h')
  ll := h.ll
  ln := h.ln
  sent := h.sent
  h := h.h
  dis := h.dis
  apart := h.apart }
end
end Go.Proofs.YtamhicdhbjniiaaGreatDoor
