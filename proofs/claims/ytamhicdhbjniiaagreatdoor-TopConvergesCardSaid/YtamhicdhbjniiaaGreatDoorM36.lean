/- daemon: Chosen, Read. daemon.Config and Last: contracts. A world: what it is in plain words, and how it lies in memory. world: True, Sent, Clock, Off. -/
import Derived.Test.YtamhicdhbjniiaaGreatDoorM35
import Derived.Test.YtamhicdhbjniiaaGreatDoorM24
import Derived.Test.YtamhicdhbjniiaaGreatDoorM50
import Derived.Test.YtamhicdhbjniiaaGreatDoorM06
import Derived.Test.YtamhicdhbjniiaaGreatDoorM09
import Derived.Deep.RegionHeld3
set_option linter.unusedVariables false
set_option maxHeartbeats 1600000
set_option maxRecDepth 100000
namespace Go.Proofs.YtamhicdhbjniiaaGreatDoor
section
open Go Go.RowKit Go.Chron
theorem chosen23 (N : Nat) (b : Nat) (d : Dm) (B : DB) (w : World) (hd : DAt N w b d B) : Calls Tryz.prog 23 #[.pointer (some ⟨b, 0, none⟩)] w fun e w' => e = .returned (.int .i64 d.chosen) ∧ w' = w := by
 have k := hd.box.cell 15
 simp [dmc] at k
 generalize d.chosen = c at *
 clear hd
 go_enter Tryz.func23, Tryz.ntmps23
 go_wp2_with fail
 go_ret
 exact ⟨rfl, rfl⟩
theorem read107 (N : Nat) (b : Nat) (d : Dm) (B : DB) (h : Int) (w : World) (hd : DAt N w b d B) (h0 : d.clk.h ≤ h) (h1 : h ≤ 4611686018427387903) : Calls Tryz.prog 107 #[.pointer (some ⟨b, 0, none⟩), .int .i64 h] w fun e w' => e = .returned (.tuple #[.int .i64 (d.clk.run h).c, .int .i64 0]) ∧ Chg (fun _ => False) w w' := by
 have k := hd.box.cell 6
 simp [dmc] at k
 have HR := Lib.hid (read58 B.kb d.clk h w hd.clk hd.ok.clk h0 h1)
 generalize (d.clk.run h).c = c at *
 clear hd h0
 go_enter Tryz.func107, Tryz.ntmps107
 go_wp2_with fail
 refine HR.out.mono ?_
 rintro e w1 ⟨rfl, c1⟩
 go_wp2_with fail
 go_ret2
 exact ⟨rfl, c1⟩
end
section
open Go Go.RowKit Go.Chron
theorem set6 {W : World} {g : Nat} {t : TypeId} {a0 a1 a2 a3 a4 a5 : Value} (D : Blk W g t #[a0, a1, a2, a3, a4, a5]) (u0 u1 u2 u3 u4 u5 : Value) :
  Blk ((((((W.setCell ⟨g, 0, none⟩ u0).setCell ⟨g, 1, none⟩ u1).setCell ⟨g, 2, none⟩ u2).setCell ⟨g, 3, none⟩ u3).setCell ⟨g, 4, none⟩ u4).setCell ⟨g, 5, none⟩ u5) g t #[u0, u1, u2, u3, u4, u5] ∧ Chg (fun i => i = g) W ((((((W.setCell ⟨g, 0, none⟩ u0).setCell ⟨g, 1, none⟩ u1).setCell ⟨g, 2, none⟩ u2).setCell ⟨g, 3, none⟩ u3).setCell ⟨g, 4, none⟩ u4).setCell ⟨g, 5, none⟩ u5) := by
 refine ⟨?_, (Chg.setCell (Chg.setCell (Chg.setCell (Chg.setCell (Chg.setCell (Chg.setCell (Chg.refl (fun i => i = g) W) (p := ⟨g, 0, none⟩) (fun _ => rfl) u0) (p := ⟨g, 1, none⟩) (fun _ => rfl) u1) (p := ⟨g, 2, none⟩) (fun _ => rfl) u2) (p := ⟨g, 3, none⟩) (fun _ => rfl) u3) (p := ⟨g, 4, none⟩) (fun _ => rfl) u4) (p := ⟨g, 5, none⟩) (fun _ => rfl) u5)⟩
 have := ((((((D.set_ 0 u0).set_ 1 u1).set_ 2 u2).set_ 3 u3).set_ 4 u4).set_ 5 u5)
 simpa using this
theorem config34 (N : Nat) (b : Nat) (d : Dm) (B : DB) (w : World) (hd : DAt N w b d B) :
  Calls Tryz.prog 34 #[.pointer (some ⟨b, 0, none⟩)] w fun e w' => ∃ a c g, e = .returned (cfgv (.slice a d.cfg.servers.length c) d.cfg) ∧ Owns w' 3 1 (.slice a d.cfg.servers.length c) g (d.cfg.servers.map i64c) ∧ (∀ k, g = some k → w.heap.size ≤ k) ∧ Chg (fun _ => False) w w' := by
 obtain ⟨sk, cap, hav, hag, hcap, hcm, hsc⟩ := hd.server
 have hsl16 := hd.ok.cfg.n1
 have HCL := Lib.hid (fun W (hW : Chg (fun _ => False) w W) => clone70 (some ⟨sk, 0, none⟩) d.cfg.servers.length cap (d.cfg.servers.map i64c) W (by rw [List.length_map]) (by intro h; cases h) (by intro x hx; obtain ⟨z, _, rfl⟩ := List.mem_map.1 hx; rfl)
  (by have := (hd.srv.chg hW (fun _ _ h => h)).reads; rw [hag] at this; exact this) (by intro u hu; obtain ⟨x, hx, hxu⟩ := List.mem_flatten.1 hu; obtain ⟨z, _, rfl⟩ := List.mem_map.1 hx; simp [i64c] at hxu; subst hxu; rfl) (by rw [List.length_map]; omega) (by rw [List.length_map]; unfold maxLen; omega))
 have HD := Lib.hid hd
 have hl : (d.cfg.servers.map i64c).length = d.cfg.servers.length := List.length_map _
 have c0 := chg0_alloc w (Obj.cells #[.slice none 0 0, .int .i64 0, .int .i64 0, .int .i64 0, .int .i64 0, .int .i64 0] 29)
 have G0 := Blk.new w 29 #[.slice none 0 0, .int .i64 0, .int .i64 0, .int .i64 0, .int .i64 0, .int .i64 0]
 have D0 := hd.chg0 c0
 have b0 := D0.box.cell 0
 have b1 := D0.box.cell 1
 have b2 := D0.box.cell 2
 have b3 := D0.box.cell 3
 have b4 := D0.box.cell 4
 have b5 := D0.box.cell 5
 simp [dmc, hav] at b0 b1 b2 b3 b4 b5
 unfold cfgv
 generalize hn : d.cfg.servers.length = n at *
 generalize d.cfg.quorum = qu at *
 generalize d.cfg.least = le at *
 generalize d.cfg.most = mo at *
 generalize d.cfg.delay = de at *
 generalize d.cfg.slew = sl at *
 have HL := Lib.hid hl
 clear hd D0 hav hag hsc hl hn
 go_enter Tryz.func34, Tryz.ntmps34
 go_upto_region 1 with (fail)
 generalize w.alloc (Obj.cells #[.slice none 0 0, .int .i64 0, .int .i64 0, .int .i64 0, .int .i64 0, .int .i64 0] 29) = W0 at *
 generalize hg : w.heap.size = g at *
 go_upto_region 4 with (fail)
 have G1 := G0.alloc (Obj.cells #[.slice (some ⟨sk, 0, none⟩) n cap, .int .i64 qu, .int .i64 le, .int .i64 mo, .int .i64 de, .int .i64 sl] 29)
 have C1 := Blk.new W0 29 #[.slice (some ⟨sk, 0, none⟩) n cap, .int .i64 qu, .int .i64 le, .int .i64 mo, .int .i64 de, .int .i64 sl]
 have c1 := c0.alloc (Obj.cells #[.slice (some ⟨sk, 0, none⟩) n cap, .int .i64 qu, .int .i64 le, .int .i64 mo, .int .i64 de, .int .i64 sl] 29)
 have lt1 := G0.lt
 generalize W0.alloc (Obj.cells #[.slice (some ⟨sk, 0, none⟩) n cap, .int .i64 qu, .int .i64 le, .int .i64 mo, .int .i64 de, .int .i64 sl] 29) = W1 at *
 generalize hg1 : W0.heap.size = g1 at *
 clear b0 b1 b2 b3 b4 b5 G0 c0
 have x0 := C1.cell 0
 have x1 := C1.cell 1
 have x2 := C1.cell 2
 have x3 := C1.cell 3
 have x4 := C1.cell 4
 have x5 := C1.cell 5
 simp at x0 x1 x2 x3 x4 x5
 go_wp2_with fail
 refine (HCL.out _ c1).mono ?_
 rintro e w2 ⟨a2, cap2, g2, rfl, O2, c2, hg2⟩
 rw [HL.out] at O2 ⊢
 have G2 := G1.chg c2 (fun h => h)
 have C2 := C1.chg c2 (fun h => h)
 have c3 := c1.trans c2
 clear x0 x1 x2 x3 x4 x5 G1 C1 c2
 have x0 := C2.cell 0
 have x1 := C2.cell 1
 have x2 := C2.cell 2
 have x3 := C2.cell 3
 have x4 := C2.cell 4
 have x5 := C2.cell 5
 simp at x0 x1 x2 x3 x4 x5
 have p0 := C2.frozen 0
 have HO2 := Lib.hid O2
 have hs1 := c1.size
 clear O2
 go_upto_region 5 with (fail)
 have C3 := C2.set_ 0 (.slice a2 n cap2)
 simp at C3
 have e3 : Chg (fun i => i = g1) w2 (w2.setCell ⟨g1, 0, none⟩ (.slice a2 n cap2)) := (Chg.refl (fun i => i = g1) w2).setCell (p := ⟨g1, 0, none⟩) (fun _ => rfl) _
 have G3 := G2.chg e3 (fun e => by have e' : g = g1 := e; omega)
 have hof : ∀ k, g2 = some k → ¬ k = g1 ∧ ¬ k = g := fun k hk => by
  obtain ⟨cs, hcs⟩ := HO2.out.blk hk
  exact ⟨fun e => by rw [e] at hcs; exact absurd (blk_typ hcs C2) (by decide), fun e => by rw [e] at hcs; exact absurd (blk_typ hcs G2) (by decide)⟩
 have O3 := HO2.out.chg e3 (fun k hk => (hof k hk).1)
 have c4 := c3.trans' e3 (S := fun _ => False) (fun i hi e => by have e' : i = g1 := e; omega)
 have HOF := Lib.hid hof
 clear x0 x1 x2 x3 x4 x5 p0 G2 C2 c3 e3 hof
 generalize w2.setCell ⟨g1, 0, none⟩ (.slice a2 n cap2) = W3 at *
 have x0 := C3.cell 0
 have x1 := C3.cell 1
 have x2 := C3.cell 2
 have x3 := C3.cell 3
 have x4 := C3.cell 4
 have x5 := C3.cell 5
 simp at x0 x1 x2 x3 x4 x5
 have y0 := G3.cell 0
 have y1 := G3.cell 1
 have y2 := G3.cell 2
 have y3 := G3.cell 3
 have y4 := G3.cell 4
 have y5 := G3.cell 5
 simp at y0 y1 y2 y3 y4 y5
 have f0 := G3.frozen 0
 have f1 := G3.frozen 1
 have f2 := G3.frozen 2
 have f3 := G3.frozen 3
 have f4 := G3.frozen 4
 have f5 := G3.frozen 5
 have HG3 := Lib.hid G3
 have HO3 := Lib.hid O3
 have HC4 := Lib.hid c4
 clear G3 O3 c4 C3
 go_wp2_with fail
 obtain ⟨E, e⟩ := set6 HG3.out (.slice a2 n cap2) (.int .i64 qu) (.int .i64 le) (.int .i64 mo) (.int .i64 de) (.int .i64 sl)
 have OE := HO3.out.chg e (fun k hk => (HOF.out k hk).2)
 have CE := HC4.out.trans' e (S := fun _ => False) (fun i hi e => by have e' : i = g := e; omega)
 have m0 := E.cell 0
 have m1 := E.cell 1
 have m2 := E.cell 2
 have m3 := E.cell 3
 have m4 := E.cell 4
 have m5 := E.cell 5
 simp at m0 m1 m2 m3 m4 m5
 refine bodyPost_ret (v := .agg #[.slice a2 n cap2, .int .i64 qu, .int .i64 le, .int .i64 mo, .int .i64 de, .int .i64 sl]) ?_ rfl ⟨a2, cap2, g2, rfl, OE, fun k hk => by have := hg2 k hk; omega, CE⟩
 simp [results, Tryz.results34, go_sem, m0, m1, m2, m3, m4, m5]
theorem keepL {W w' : World} {b : Nat} {th : Int} {v : Value} (hh : W.cell? ⟨b, 13, none⟩ = some (.int .i64 th) ∧ W.cell? ⟨b, 14, none⟩ = some v) (c : Chg (fun _ => False) W w') : (w'.cell? ⟨b, 13, none⟩ = some (.int .i64 th) ∧ w'.cell? ⟨b, 14, none⟩ = some v) ∧ Chg (fun _ => False) W w' := ⟨⟨c.keep hh.1 id, c.keep hh.2 id⟩, c⟩
theorem last113 (N : Nat) (b : Nat) (d : Dm) (B : DB) (w : World) (hd : DAt N w b d B) :
  Calls Tryz.prog 113 #[.pointer (some ⟨b, 0, none⟩)] w fun e w' => ∃ a c g, e = .returned (.tuple #[.int .i64 d.theta, .slice a d.votes.length c]) ∧ Owns w' 248 6 (.slice a d.votes.length c) g (d.votes.map votec) ∧ (∀ k, g = some k → w.heap.size ≤ k) ∧ Chg (fun _ => False) w w' := by
 obtain ⟨a, cap, hvv, hlc, hcm, hnil, ha⟩ := hd.vot.form
 have hl : (d.votes.map votec).length = d.votes.length := List.length_map _
 rw [hl] at hvv hlc
 have hvl := hd.ok.vl
 have hsl16 := hd.ok.cfg.n1
 have HCL := Lib.hid (fun W (hW : Chg (fun _ => False) w W) => clone145 a d.votes.length cap (d.votes.map votec) W hl.symm (fun h => by have := hnil h; omega) (votec_each d.votes)
  (by have := (hd.vot.chg hW (fun _ _ h => h)).reads; rw [← ha] at this; exact this) (by intro u hu; obtain ⟨x, hx, hxu⟩ := List.mem_flatten.1 hu; obtain ⟨z, _, rfl⟩ := List.mem_map.1 hx; exact votec_one z u hxu) (by rw [hl]; omega) (by rw [hl]; unfold maxLen; omega))
 have b13 := hd.box.cell 13
 have b14 := hd.box.cell 14
 simp [dmc, hvv] at b13 b14
 have HL := Lib.hid hl
 generalize hn : d.votes.length = n at *
 have HN := Lib.hid hn
 generalize d.theta = th at *
 clear hd hvv hnil ha hvl hl hn
 go_enter Tryz.func113, Tryz.ntmps113
 go_upto_region 3 with (fail)
 have HK := Lib.hid (And.intro b13 b14)
 go_region_held3 (fun w' => (w'.cell? ⟨b, 13, none⟩ = some (.int .i64 th) ∧ w'.cell? ⟨b, 14, none⟩ = some (.slice a n cap)) ∧ Chg (fun _ => False) w w')
  (refine keepL HK.out ?_ <;> (repeat (first | (with_reducible exact Chg.refl _ _) | assumption | (with_reducible apply Chg.drewN) | (with_reducible apply Chg.drew))))
  (first | (go_at_call 145; refine (HCL.out _ (by repeat (first | (with_reducible exact Chg.refl _ _) | (with_reducible apply Chg.drew)))).mono ?_; rintro e w2 ⟨a2, cap2, g2, rfl, O2, c2, hg2⟩; have cT := Chg.trans (S := fun _ => False) (w := w) (by repeat (first | (with_reducible exact Chg.refl _ _) | (with_reducible apply Chg.drew))) c2))
 all_goals (
  rw [HL.out] at O2
  rw [HN.out]
  have HO := Lib.hid O2
  clear O2 b13 b14
  go_wp2_with fail
  go_ret2
  exact ⟨a2, cap2, g2, rfl, HO.out, fun k hk => hg2 k hk, cT⟩)
end
section
open Go Go.RowKit Go.Chron
structure Ans where
 at_ : Int
 sent : Int
 srv : Nat
 data : List Int
structure Wm where
 d : Dm
 g : Gh
 ways : List Way
 under : List Ans
 log : List (Int × Int)
 sent : Int
def Wm.off (W : Wm) : Int := satSub W.g.t (W.d.clk.run W.g.h).c
def Wm.come (W : Wm) (a : Ans) : Wm :=
 let r := W.d.doData W.g.h (W.d.cfg.servers.getD a.srv 0) a.data
 let W1 : Wm := { W with d := r.1 }
 if W.d.chosen < r.1.chosen then { W1 with log := W1.log ++ [(r.1.theta, W1.off)] } else W1
def way0 : Way := ⟨0, 0, 0, 0, 0, 0⟩
def Wm.at_ (W : Wm) (addr : Int) : Nat := (Lib.idxOf W.d.cfg.servers addr).toNat
def Wm.send (c : Int) (W : Wm) (s : Int × List Int) : Wm :=
 let i := W.at_ s.1
 let y := W.ways.getD i way0
 let W1 : Wm := { W with sent := W.sent + 1 }
 if y.kind = 2 then W1 else { W1 with under := W1.under ++ [⟨satAdd W.g.t (y.there + y.stay + y.back), W.g.t, i, y.ans c (satAdd W.g.t y.there)⟩] }
def Wm.step (W : Wm) (us : List Ans) (dt dh draw : Int) : Wm :=
 let W1 := us.foldl Wm.come { W with g := W.g.step dt dh, under := [] }
 let r := W1.d.doTick W1.g.h draw
 r.2.foldl (Wm.send (W1.d.drawn draw)) { W1 with d := r.1 }
structure MA where
 a : Ans
 k : Nat
 cap : Nat
def mac (x : MA) : List Value := [.int .i64 x.a.at_, .int .i64 x.a.sent, .int .i64 x.a.srv, .slice (some ⟨x.k, 0, none⟩) x.a.data.length x.cap]
structure MA.Ok (n : Nat) (w : World) (x : MA) : Prop where
 o : Owns w 5 1 (.slice (some ⟨x.k, 0, none⟩) x.a.data.length x.cap) (some x.k) (x.a.data.map u8c)
 b : ∀ z ∈ x.a.data, 0 ≤ z ∧ z < 256
 s : x.a.srv < n
 at_ : In64 x.a.at_
 sn : In64 x.a.sent
theorem MA.Ok.chg {n : Nat} {w w' : World} {x : MA} {S : Nat → Prop} (h : x.Ok n w) (c : Chg S w w') (hS : ¬ S x.k) : x.Ok n w' :=
 ⟨h.o.chg c (fun k hk => by cases hk; exact hS), h.b, h.s, h.at_, h.sn⟩
theorem MA.Ok.blk {n : Nat} {w : World} {x : MA} (h : x.Ok n w) : ∃ cs, Blk w x.k 5 cs := h.o.blk rfl
structure LG where
 th : Int
 off : Int
 a : Option Addr
 cap : Nat
 g : Option Nat
 els : List (List Value)
def lgc (x : LG) : List Value := [.int .i64 x.th, .int .i64 x.off, .slice x.a x.els.length x.cap]
structure LG.Ok (w : World) (x : LG) : Prop where
 o : Owns w 126 5 (.slice x.a x.els.length x.cap) x.g x.els
 one : ∀ u ∈ x.els.flatten, u.oneCell' = true
 n : x.els.length ≤ 16
theorem LG.Ok.chg {w w' : World} {x : LG} {S : Nat → Prop} (h : x.Ok w) (c : Chg S w w') (hS : ∀ k, x.g = some k → ¬ S k) : x.Ok w' := ⟨h.o.chg c hS, h.one, h.n⟩
structure WB where
 db : Nat
 D : DB
 gb : Nat
 sv : Value
 sg : Option Nat
 wv : Value
 wg : Option Nat
 uv : Value
 ug : Option Nat
 M : List MA
 mb : Nat
 mn : Nat
 lv : Value
 lg : Option Nat
 ML : List LG
def WBk (b : Nat) (B : WB) (i : Nat) : Prop := i = b ∨ i = B.gb ∨ B.sg = some i ∨ B.wg = some i ∨ B.ug = some i ∨ (∃ x ∈ B.M, x.k = i) ∨ i = B.mb ∨ B.lg = some i ∨ ∃ x ∈ B.ML, x.g = some i
def WAll (b : Nat) (B : WB) (i : Nat) : Prop := WBk b B i ∨ DBk B.db B.D i
def wmc (W : Wm) (B : WB) : Array Value := #[.pointer (some ⟨B.db, 0, none⟩), .pointer (some ⟨B.gb, 0, none⟩), B.sv, B.wv, B.uv, .map (some B.mb), B.lv, .int .i64 W.sent]
structure WAt (N : Nat) (w : World) (b : Nat) (W : Wm) (B : WB) : Prop where
 box : Blk w b 113 (wmc W B)
 d : DAt N w B.db W.d B.D
 g : Blk w B.gb 174 (ghc W.g)
 gok : W.g.Ok
 srv : Owns w 3 1 B.sv B.sg (W.d.cfg.servers.map i64c)
 way : Owns w 97 6 B.wv B.wg (W.ways.map fun y => (wayc y).toList)
 wok : ∀ y ∈ W.ways, y.Ok
 wl : W.ways.length = W.d.cfg.servers.length
 und : OwnsF w 118 4 B.uv B.ug (B.M.map mac)
 mok : ∀ x ∈ B.M, x.Ok W.d.cfg.servers.length w
 mu : B.M.map (·.a) = W.under
 came : ∃ D, w.ownsMap Tryz.prog 184 oneR B.mb B.mn D
 mn : B.mn ≤ N
 log : Owns w 104 3 B.lv B.lg (B.ML.map lgc)
 lok : ∀ x ∈ B.ML, x.Ok w
 ll : B.ML.map (fun x => (x.th, x.off)) = W.log
 ln : W.log.length ≤ N
 sent : 0 ≤ W.sent ∧ W.sent ≤ 16 * (N : Int)
 h : W.d.h ≤ W.g.h
 dis : ∀ i, WBk b B i → ¬ DBk B.db B.D i
 apart : ∀ k, B.ug = some k → ∀ x ∈ B.M, x.k ≠ k
section
variable {N : Nat} {w w' : World} {b : Nat} {W : Wm} {B : WB} {S : Nat → Prop}
theorem WAt.chg (h : WAt N w b W B) (c : Chg S w w') (hS : ∀ i, WAll b B i → ¬ S i) : WAt N w' b W B := by
 obtain ⟨h1, h2, h3, h4, h5, h6, h7, h8, h9, h10, h11, ⟨D, h12⟩, h13, h14, h15, h16, h17, h18, h19, h20, h21⟩ := h
 have hW : ∀ i, WBk b B i → ¬ S i := fun i hi => hS i (.inl hi)
 unfold WBk at hW
 exact ⟨h1.chg c (hW _ (by simp)), h2.chg c (fun i hi => hS i (.inr hi)), h3.chg c (hW _ (by simp)), h4, h5.chg c (fun k hk => hW _ (by simp [hk])), h6.chg c (fun k hk => hW _ (by simp [hk])), h7, h8, h9.chg c (fun k hk => hW _ (by simp [hk])),
  fun x hx => (h10 x hx).chg c (hW _ (by right; right; right; right; right; left; exact ⟨x, hx, rfl⟩)), h11, ⟨D, ownsMap_chg h12 c (hW _ (by simp))⟩, h13, h14.chg c (fun k hk => hW _ (by simp [hk])),
  fun x hx => (h15 x hx).chg c (fun k hk => hW _ (by right; right; right; right; right; right; right; right; exact ⟨x, hx, hk⟩)), h16, h17, h18, h19, h20, h21⟩
theorem WAt.chg0 (h : WAt N w b W B) (c : Chg (fun _ => False) w w') : WAt N w' b W B := h.chg c (fun _ _ h => h)
theorem WAt.lt (h : WAt N w b W B) {i : Nat} (hi : WAll b B i) : i < w.heap.size := by
 rcases hi with (rfl | rfl | hi | hi | hi | ⟨x, hx, rfl⟩ | rfl | hi | ⟨x, hx, hi⟩) | hi
 ·exact h.box.lt
 ·exact h.g.lt
 ·exact h.srv.lt _ hi
 ·exact h.way.lt _ hi
 ·exact h.und.lt _ hi
 ·obtain ⟨_, hb⟩ := (h.mok x hx).blk; exact hb.lt
 ·obtain ⟨D, hD⟩ := h.came; exact hD.lt
 ·exact h.log.lt _ hi
 ·exact (h.lok x hx).o.lt _ hi
 ·exact h.d.lt hi
end
end
section
open Go Go.RowKit Go.Chron
section
variable {N : Nat} {b : Nat} {W : Wm} {B : WB} {w : World}
theorem true15 (h : WAt N w b W B) : Calls Tryz.prog 15 #[.pointer (some ⟨b, 0, none⟩)] w fun e w' => e = .returned (.int .i64 W.g.t) ∧ w' = w := by
 have k := h.box.cell 1
 simp [wmc] at k
 have HG := Lib.hid h.g
 have HK := Lib.hid (true37 B.gb W.g w h.g)
 clear h HG
 go_enter Tryz.func15, Tryz.ntmps15
 go_wp2_with fail
 refine HK.out.mono ?_
 rintro e w1 ⟨rfl, rfl⟩
 go_wp2_with fail
 go_ret
 exact ⟨rfl, rfl⟩
theorem sent27 (h : WAt N w b W B) : Calls Tryz.prog 27 #[.pointer (some ⟨b, 0, none⟩)] w fun e w' => e = .returned (.int .i64 W.sent) ∧ w' = w := by
 have k := h.box.cell 7
 simp [wmc] at k
 clear h
 go_enter Tryz.func27, Tryz.ntmps27
 go_wp2_with fail
 go_ret
 exact ⟨rfl, rfl⟩
theorem clock67 (h : WAt N w b W B) (hh : W.d.clk.h ≤ W.g.h) (h1 : W.g.h ≤ 4611686018427387903) : Calls Tryz.prog 67 #[.pointer (some ⟨b, 0, none⟩)] w fun e w' => e = .returned (.int .i64 (W.d.clk.run W.g.h).c) ∧ Chg (fun _ => False) w w' := by
 have k0 := h.box.cell 0
 have k1 := h.box.cell 1
 simp [wmc] at k0 k1
 have HG := Lib.hid h.g
 have HR := Lib.hid (fun W' (hW : Chg (fun _ => False) w W') => read107 N B.db W.d B.D W.g.h W' (h.d.chg0 hW) hh h1)
 have HS := Lib.hid (fun W' (hW : Chg (fun _ => False) w W') => (⟨hW.keep k0 (fun h => h), hW.keep k1 (fun h => h)⟩ : W'.cell? ⟨b, 0, none⟩ = some (.pointer (some ⟨B.db, 0, none⟩)) ∧ W'.cell? ⟨b, 1, none⟩ = some (.pointer (some ⟨B.gb, 0, none⟩))))
 generalize (W.d.clk.run W.g.h).c = cv at *
 generalize hgh : W.g.h = gh at *
 clear h hh
 go_enter Tryz.func67, Tryz.ntmps67
 go_upto_region 3 with (fail)
 refine wp_region_noPanic ?_
 refine wp_region_till (s := 13) (S := (fun w' => w'.cell? ⟨b, 0, none⟩ = some (.pointer (some ⟨B.db, 0, none⟩)) ∧ w'.cell? ⟨b, 1, none⟩ = some (.pointer (some ⟨B.gb, 0, none⟩)))) (by kernel_rfl) ?_
 have hHeld := HS.out w.drew (Chg.drew (Chg.refl _ _))
 refine wP 0 8 _ (fun _ => hHeld) ?_
 refine wP 1 9 _ (fun _ => hHeld) ?_
 refine wP 2 10 _ (fun _ => hHeld) ?_
 refine wL 3 11 _ (fun _ => hHeld) ?_
 refine wP 4 12 _ (fun _ => hHeld) ?_
 refine wP 5 13 _ (fun _ => hHeld) ?_
 refine wP 6 14 _ (fun _ => hHeld) ?_
 refine wL 7 15 _ (fun _ => hHeld) ?_
 refine wpTill_one (i := 8) (oi := ⟨some 16, _, _, _, _, _⟩) rfl (by kernel_rfl) (fun KK hKK => ?_)
 go_simp
 refine (hard43 _ _ _ (HG.out.chg (show Chg (fun _ => False) w _ from (by repeat (first | (with_reducible exact Chg.refl _ _) | assumption | (with_reducible apply Chg.drew)))) id)).mono ?_
 rintro e w1 ⟨rfl, rfl⟩
 rw [hgh]
 refine hKK _ _ (andS (HS.out _ kC) (fun hHeld' => ?_))
 clear hKK KK
 try simp only [Act.put, qA, qB, qC]
 refine wpTill_one (i := 9) (oi := ⟨some 17, _, _, _, _, _⟩) rfl (by kernel_rfl) (fun KK hKK => ?_)
 go_simp
 refine (HR.out _ (by repeat (first | (with_reducible exact Chg.refl _ _) | assumption | (with_reducible apply Chg.drew)))).mono ?_
 rintro e w2 ⟨rfl, c2⟩
 have cT : Chg (fun _ => False) w w2 := Chg.trans (by repeat (first | (with_reducible exact Chg.refl _ _) | assumption | (with_reducible apply Chg.drew))) c2
 refine hKK _ _ (andS (HS.out _ kC) (fun hHeld'' => ?_))
 clear hKK KK
 try simp only [Act.put, qA, qB, qC]
 refine wP 10 7 _ (fun _ => hHeld'') ?_
 refine wP 11 18 _ (fun _ => hHeld'') ?_
 refine wP 12 19 _ (fun _ => hHeld'') ?_
 refine wpTill_one (i := 13) (oi := ⟨some 3, _, _, _, _, _⟩) rfl (by kernel_rfl) (fun KK hKK => ?_)
 go_simp
 refine hKK _ _ ⟨(fun h => (by simp at h)), ?_⟩
 clear hKK KK
 try simp only [Act.put, qA, qB, qC]
 refine wP 14 4 _ (fun h => (by simp at h)) ?_
 refine wpTill_done (by kernel_rfl) ?_
 refine NoPanic.normal ?_
 go_wp2_with fail
 go_ret
 exact ⟨rfl, cT⟩
theorem off31 (h : WAt N w b W B) (hh : W.d.clk.h ≤ W.g.h) (h1 : W.g.h ≤ 4611686018427387903) : Calls Tryz.prog 31 #[.pointer (some ⟨b, 0, none⟩)] w fun e w' => e = .returned (.int .i64 W.off) ∧ Chg (fun _ => False) w w' := by
 have HT := Lib.hid (true15 h)
 have HC := Lib.hid (clock67 h hh h1)
 have i1 : In64 W.g.t := by have := h.gok.t; exact ⟨by omega, by omega⟩
 have i2 := (Clk.run_ok h.d.ok.clk hh h1).c
 have HS := Lib.hid (fun w => sub66 W.g.t (W.d.clk.run W.g.h).c i1 i2 w)
 unfold Wm.off
 clear h hh i1 i2
 generalize (W.d.clk.run W.g.h).c = cv at *
 generalize W.g.t = tv at *
 go_enter Tryz.func31, Tryz.ntmps31
 go_wp2_with fail
 refine HT.out.mono ?_
 rintro e w1 ⟨rfl, rfl⟩
 go_wp2_with fail
 refine HC.out.mono ?_
 rintro e w2 ⟨rfl, c2⟩
 go_wp2_with fail
 refine (HS.out _).mono ?_
 rintro e w3 ⟨rfl, rfl⟩
 go_wp2_with fail
 go_ret
 exact ⟨rfl, c2⟩
end
end
end Go.Proofs.YtamhicdhbjniiaaGreatDoor
