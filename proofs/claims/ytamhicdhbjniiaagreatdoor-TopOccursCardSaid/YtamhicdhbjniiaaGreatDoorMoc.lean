/- Something is chosen again and again: the law of TopOccurs in plain words. TopOccurs: contract. -/
import Derived.Test.YtamhicdhbjniiaaGreatDoorMp1
import Derived.Test.YtamhicdhbjniiaaGreatDoorM44
import Derived.Test.YtamhicdhbjniiaaGreatDoorMp2
import Derived.Test.YtamhicdhbjniiaaGreatDoorM48
import Derived.Test.YtamhicdhbjniiaaGreatDoorM42
set_option linter.unusedVariables false
set_option maxHeartbeats 6400000
set_option maxRecDepth 100000
namespace Go.Proofs.YtamhicdhbjniiaaGreatDoor
section
open Go Go.RowKit Go.Chron
structure OcJ (c : Cfg) (ys : List Way) (step rate t0 : Int) (k : Nat) (last seen : Int) (W : Wm) : Prop where
 ex : ∃ p Ta, Lk c ys Ta W p ∧ (p.st = 1 → W.g.t - last ≤ 4000400100 + step) ∧ (p.st = 0 → Ta ≤ last)
 t : W.g.t = t0 + (k : Int) * step
 rate : W.g.rate = rate
 steps : W.g.steps = (k : Int)
 h0 : 0 ≤ W.g.h
 h1 : W.g.h ≤ 2 * (W.g.t - t0)
 s : seen = (W.log.length : Int)
 l : last - t0 ≤ 7000000000 * seen
 lt : last ≤ W.g.t
variable {c : Cfg} {ys : List Way} {step rate t0 : Int}
theorem OcJ.far {k : Nat} {last seen : Int} {W : Wm} (h : OcJ c ys step rate t0 k last seen W) (hs : 100000000 ≤ step) : W.g.t - last ≤ 4000400100 + step := by
 obtain ⟨p, Ta, hl, h1, h2⟩ := h.ex
 have hg := hl.gap
 rcases hl.two with e | e
 ·exact h1 e
 ·have := h2 e; omega
theorem oc_new {n2 : Int} (C : Crew c ys) (hd : c.delay = 2000) (hl : c.least = 4) (hs : 100000000 ≤ step) : OcJ c ys step rate t0 0 t0 0 (wm0 c t0 0 n2 rate ys) := by
 refine ⟨⟨Pr.new c 0, t0, lk_new C hd hl, fun h => absurd h (show (0 : Int) ≠ 1 by decide), fun _ => Int.le_refl _⟩, ?_, rfl, rfl, Int.le_refl _, ?_, rfl, ?_, Int.le_refl _⟩
 ·show t0 = t0 + ((0 : Nat) : Int) * step
  simp
 ·show (0 : Int) ≤ 2 * (t0 - t0)
  omega
 ·omega
theorem oc_step (C : Crew c ys) (hs : 100000000 ≤ step ∧ step ≤ 1000000000) {k : Nat} {last seen : Int} {W : Wm} (h : OcJ c ys step rate t0 k last seen W) {dh dr : Int} (h1 : (dh - step) * 10000 ≤ step) (h2 : (step - dh) * 10000 ≤ step) (hd : 0 < dr ∧ dr < 18446744073709551616)
  {us : List Ans} (hu : us.Perm W.under) : (W.step us step dh dr).g.t - W.g.t = step ∧
  ((seen < ((W.step us step dh dr).log.length : Int) ∧ OcJ c ys step rate t0 (k + 1) (W.step us step dh dr).g.t ((W.step us step dh dr).log.length : Int) (W.step us step dh dr)) ∨
   (((W.step us step dh dr).log.length : Int) = seen ∧ OcJ c ys step rate t0 (k + 1) last seen (W.step us step dh dr))) := by
 have hfar := h.far hs.1
 obtain ⟨⟨p, Ta, hl, a1, a2⟩, b1, b2, b3, b4, b5, b6, b7, b8⟩ := h
 have ht : W.g.t + step = t0 + ((k + 1 : Nat) : Int) * step := by
  have : ((k + 1 : Nat) : Int) * step = (k : Int) * step + step := by rw [Int.natCast_add, Int.add_mul]; simp
  omega
 have hst : W.g.steps + 1 = ((k + 1 : Nat) : Int) := by omega
 have hgap := hl.gap
 rcases hl.two with e | e
 ·have A := lk_heard (dr := dr) C hl e hs h1 h2 (by omega) (G := fun _ => True) (fun _ _ => trivial) hu
  generalize W.step us step dh dr = W' at *
  have hlog := A.log
  have gt : W'.g.t = W.g.t + step := by rw [A.g]; rfl
  have gh : W'.g.h = W.g.h + dh := by rw [A.g]; rfl
  have hTa : Ta = W.g.t := by
   rcases hl.st with x | x
   ·exact x.2.2.1
   ·have := x.1; omega
  refine ⟨by omega, .inl ⟨by omega, ⟨⟨_, Ta, A.lk, fun h => absurd h (show (0 : Int) ≠ 1 by decide), fun _ => by omega⟩, by rw [gt]; exact ht, by rw [A.g]; exact b2, by rw [A.g]; exact hst, by omega, by omega, rfl, by omega, Int.le_refl _⟩⟩⟩
 ·have B := lk_idle C hl e hs h1 h2 hd hu
  generalize W.step us step dh dr = W' at *
  have gt : W'.g.t = W.g.t + step := by rw [B.g]; rfl
  have gh : W'.g.h = W.g.h + dh := by rw [B.g]; rfl
  have hTl := a2 e
  refine ⟨by omega, .inr ⟨by rw [B.log]; exact b6.symm, ⟨?_, by rw [gt]; exact ht, by rw [B.g]; exact b2, by rw [B.g]; exact hst, by omega, by omega, by rw [B.log]; exact b6, b7, by omega⟩⟩⟩
  rcases B.lk with L | L
  ·exact ⟨_, Ta, L, fun h => by omega, fun _ => hTl⟩
  ·exact ⟨_, _, L, fun _ => by omega, fun h => absurd h (show (1 : Int) ≠ 0 by decide)⟩
theorem OcJ.done {k : Nat} {last seen : Int} {W : Wm} (h : OcJ c ys step rate t0 k last seen W) (hs : 100000000 ≤ step ∧ step ≤ 1000000000) (hk : 40000000000 ≤ (k : Int) * step) : 4 ≤ seen := by
 have h1 := h.far hs.1
 have h2 := h.l
 have h3 := h.t
 omega
theorem OcJ.ready {k : Nat} {last seen : Int} {W : Wm} (h : OcJ c ys step rate t0 k last seen W) (hs : 100000000 ≤ step ∧ step ≤ 1000000000) (hk : (k : Int) * step ≤ 100000000000000) (hk2 : k < 100000) (ht0 : 0 ≤ t0 ∧ t0 ≤ 1000000000000000) {dh : Int} (h1 : (dh - step) * 1000000 ≤ rate * step) (h2 : (step - dh) * 1000000 ≤ rate * step) (hr : rate * step ≤ 100 * step)
  (hn : ys.length ≤ 5) (hy : ∀ y ∈ ys, 0 ≤ y.there + y.stay + y.back ∧ y.there + y.stay + y.back ≤ step) : StepOk W.g step dh ∧ W.under.length ≤ 5 ∧ ∀ a ∈ W.under, a.at_ ≤ W.g.t + step := by
 obtain ⟨⟨p, Ta, hl, a1, a2⟩, b1, b2, b3, b4, b5, b6, b7, b8⟩ := h
 refine ⟨⟨by omega, by omega, by rw [b2]; exact h2, by rw [b2]; exact h1, by omega, by omega, by omega⟩, hl.under_len hn, hl.under_at hy (by omega)⟩
end
section
open Go Go.RowKit Go.Chron
structure OcAt (w : World) (p : Pth) (b p3 s4 : Nat) (bv : Array Value) (sv : Value) (sg : Option Nat) (n i : Nat) (last seen : Int) (wr : World) : Prop where
 ex : ∃ N W B, N ≤ 28 * i ∧ WAt N wr b W B ∧ (∀ k, WAll b B k → s4 ≤ k) ∧ OcJ p.cfg (p.ways p.n.toNat) p.step p.rate 1000000000000 i last seen W
 b3 : Blk wr p3 32 bv
 st : Owns wr 56 3 sv sg ((psteps p.step (p.step * p.rate / 1000000) p.wa n).map stpc)
 c : Chg (fun _ => False) w wr
theorem occurs4 {n0 : Nat} {w : World} (hl : Laid n0 w) (hT : Told n0 w) (p : Pth) (o : p.Ok) (a : Option Addr) (cap : Nat) (hR : Reads w 2 a (p.wx.map fun x => [.int .u32 x.1, .int .u32 x.2])) (hcap : p.wx.length ≤ cap) (hcm : cap ≤ 9223372036854775807) :
  Calls Tryz.prog 4 #[.agg (pthc p a cap)] w fun e w' => e = .returned (.bool true) ∧ Chg (fun _ => False) w w' := by
 have HLA := Lib.hid hl
 have HTO := Lib.hid hT
 have HO := Lib.hid o
 have hb := Pth.bounds o
 obtain ⟨-, -, -, hb4, hb5, hb6⟩ := hb
 have HB8 := Lib.hid (fun W' (hW : Chg (fun _ => False) w W') => build8 p o a cap W' (hR.chg hW (fun _ _ h => h)) hcap hcm)
 have A1 := Blk.new w 26 (pthc p a cap)
 have c1 := chg0_alloc w (Obj.cells (pthc p a cap) 26)
 clear hl hT hR hcap hcm o
 unfold pthc at *
 obtain ⟨p1, hp1⟩ : ∃ p, p = w.heap.size := ⟨_, rfl⟩
 rw [← hp1] at A1
 have HP1 := Lib.hid hp1
 clear hp1
 go_enter Tryz.func4, Tryz.ntmps4
 go_upto_region 1 with (fail)
 rw [← HP1.out]
 generalize w.alloc (Obj.cells #[.int .u8 p.sv, .int .u8 p.li, .int .u8 p.qu, .int .u8 p.mo, .int .u8 p.ra, .int .u8 p.wa, .int .u32 p.st, .int .i32 p.off, .slice a p.wx.length cap, .int .u64 p.lie] 26) = wa at *
 have k0 := A1.cell 0
 have k1 := A1.cell 1
 have k2 := A1.cell 2
 have k3 := A1.cell 3
 have k4 := A1.cell 4
 have k5 := A1.cell 5
 have k6 := A1.cell 6
 have k7 := A1.cell 7
 have k8 := A1.cell 8
 have k9 := A1.cell 9
 simp at k0 k1 k2 k3 k4 k5 k6 k7 k8 k9
 have HA1 := Lib.hid (And.intro A1 c1)
 clear A1 c1
 go_wp2_with fail
 refine (HB8.out _ HA1.out.2).mono ?_
 rintro e w2 ⟨sa, sc, sg, va, vc, vg, rfl, O3, O97, c2⟩
 have HO2 := Lib.hid (And.intro O3 (And.intro O97 c2))
 clear O3 O97 c2 HB8
 go_upto_region 2 with (fail)
 have A3 := Blk.new w2 32 #[.slice sa p.n.toNat sc, .int .i64 p.quo, .int .i64 4, .int .i64 p.most, .int .i64 2000, .int .i64 500, .slice va p.n.toNat vc, .int .i64 p.step, .int .i64 p.rate, .int .i64 (50000000 + p.step)]
 have c3 := chg0_alloc w2 (Obj.cells #[.slice sa p.n.toNat sc, .int .i64 p.quo, .int .i64 4, .int .i64 p.most, .int .i64 2000, .int .i64 500, .slice va p.n.toNat vc, .int .i64 p.step, .int .i64 p.rate, .int .i64 (50000000 + p.step)] 32)
 obtain ⟨p3, hp3⟩ : ∃ p, p = w2.heap.size := ⟨_, rfl⟩
 rw [← hp3] at A3
 rw [← hp3]
 have s3 : (w2.alloc (Obj.cells #[.slice sa p.n.toNat sc, .int .i64 p.quo, .int .i64 4, .int .i64 p.most, .int .i64 2000, .int .i64 500, .slice va p.n.toNat vc, .int .i64 p.step, .int .i64 p.rate, .int .i64 (50000000 + p.step)] 32)).heap.size = p3 + 1 := by simp [hp3]
 generalize w2.alloc (Obj.cells #[.slice sa p.n.toNat sc, .int .i64 p.quo, .int .i64 4, .int .i64 p.most, .int .i64 2000, .int .i64 500, .slice va p.n.toNat vc, .int .i64 p.step, .int .i64 p.rate, .int .i64 (50000000 + p.step)] 32) = w3 at *
 have h3 : w.heap.size ≤ p3 := by rw [hp3]; have h1 := HA1.out.2.size; have h2 := HO2.out.2.2.size; omega
 have HA3 := Lib.hid (And.intro A3 (And.intro c3 (And.intro s3 h3)))
 have j0 := A3.cell 0
 have j1 := A3.cell 1
 have j2 := A3.cell 2
 have j3 := A3.cell 3
 have j4 := A3.cell 4
 have j5 := A3.cell 5
 have j6 := A3.cell 6
 have j7 := A3.cell 7
 have j8 := A3.cell 8
 have j9 := A3.cell 9
 simp at j0 j1 j2 j3 j4 j5 j6 j7 j8 j9
 have x0 := (HA1.out.1.chg HO2.out.2.2 (fun h => h)).chg c3 (fun h => h)
 have HX0 := Lib.hid x0
 clear hp3 A3 c3 s3 h3 k0 k1 k2 k3 k4 k5 k6 k7 k8 k9 x0
 have HPR := Lib.hid (fun W' (hW : Chg (fun _ => False) w2 W') => print9 p.cfg (path_small HO.out) sa sc W' ((owns_slice HO2.out.1).2.2.2.chg hW (fun _ _ h => h)) (by
  show (Pth.srv p.n.toNat).length ≤ sc
  rw [Pth.srv_len]
  exact (owns_slice HO2.out.1).2.1))
 have hcv : cfgv (.slice sa p.cfg.servers.length sc) p.cfg = .agg #[.slice sa p.n.toNat sc, .int .i64 p.quo, .int .i64 4, .int .i64 p.most, .int .i64 2000, .int .i64 500] := by
  rw [show p.cfg.servers.length = p.n.toNat from Pth.srv_len _]; rfl
 rw [hcv] at HPR
 obtain ⟨pt, hpt⟩ : ∃ pt, pt = (printI p.cfg).toArray := ⟨_, rfl⟩
 rw [← hpt] at HPR
 have HPT := Lib.hid hpt
 clear hpt hcv
 go_wp2_with fail
 refine (HPR.out _ (HA3.out.2.1.trans (by repeat (first | exact Chg.refl _ _ | exact (by assumption) | apply Chg.drewN | apply Chg.drew | apply Chg.alloc)))).mono ?_
 rintro e w4 ⟨rfl, c4⟩
 have HC4 := Lib.hid c4
 have cU : Chg (fun _ => False) w w4 := ((HA1.out.2.trans HO2.out.2.2).trans HA3.out.2.1).trans c4
 have HCU := Lib.hid cU
 have a3 := HA3.out.1.chg c4 (fun h => h)
 have a1 := HX0.out.chg c4 (fun h => h)
 have HA4 := Lib.hid (And.intro a3 a1)
 have j0 := a3.cell 0
 have j1 := a3.cell 1
 have j2 := a3.cell 2
 have j3 := a3.cell 3
 have j4 := a3.cell 4
 have j5 := a3.cell 5
 have j6 := a3.cell 6
 have j7 := a3.cell 7
 have j8 := a3.cell 8
 have j9 := a3.cell 9
 have k0 := a1.cell 0
 have k1 := a1.cell 1
 have k2 := a1.cell 2
 have k3 := a1.cell 3
 have k4 := a1.cell 4
 have k5 := a1.cell 5
 have k6 := a1.cell 6
 have k7 := a1.cell 7
 have k8 := a1.cell 8
 have k9 := a1.cell 9
 simp at j0 j1 j2 j3 j4 j5 j6 j7 j8 j9 k0 k1 k2 k3 k4 k5 k6 k7 k8 k9
 clear a3 a1 cU c4 HPR
 obtain ⟨nq, hnq⟩ : ∃ nq : Int, (40000000000 : Int).tdiv p.step = nq := ⟨_, rfl⟩
 obtain ⟨n, hn⟩ : ∃ n : Nat, (n : Int) = nq + 1 := by
  refine ⟨(nq + 1).toNat, ?_⟩
  have h0 : 0 ≤ nq := by rw [← hnq, Int.tdiv_eq_ediv_of_nonneg (by omega)]; exact Int.ediv_nonneg (by omega) (by omega)
  omega
 have hnb : 0 ≤ nq ∧ nq * p.step ≤ 40000000000 ∧ 40000000000 < nq * p.step + p.step ∧ nq ≤ 400 := by
  rw [Int.tdiv_eq_ediv_of_nonneg (by omega)] at hnq
  have h1 := Int.mul_ediv_add_emod 40000000000 p.step
  have h2 := Int.emod_nonneg 40000000000 (show p.step ≠ 0 by omega)
  have h3 := Int.emod_lt_of_pos 40000000000 (show 0 < p.step by omega)
  have h4 : 0 ≤ (40000000000 : Int) / p.step := Int.ediv_nonneg (by omega) (by omega)
  rw [hnq, Int.mul_comm] at h1
  rw [hnq] at h4
  have h5 : nq * 100000000 ≤ nq * p.step := Int.mul_le_mul_of_nonneg_left (by omega) h4
  exact ⟨h4, by omega, by omega, by omega⟩
 have hst0 : ¬ p.step = 0 := by omega
 have hw1 : IntKind.i64.wrap nq = nq := wrap_id (by omega)
 have hw2 : IntKind.i64.wrap (nq + 1) = (n : Int) := by rw [hn]; exact wrap_id (by omega)
 have HNB := Lib.hid (And.intro hnb hn)
 clear hnb hn
 obtain ⟨W0, hW0⟩ : ∃ W0, W0 = wm0 p.cfg 1000000000000 0 999000000000 p.rate (p.ways p.n.toNat) := ⟨_, rfl⟩
 have HNW := Lib.hid (fun W' (hW : Chg (fun _ => False) w4 W') => new14 (printI p.cfg) p.cfg (path_len HO.out) (path_parse HO.out) 1000000000000 0 999000000000 p.rate (by omega) (by omega) (by omega) (by omega) (p.ways p.n.toNat) va vc
  (fun y hy => (path_crew HO.out).ok y hy) (by rw [Pth.ways_len]; exact (Pth.srv_len _).symm) W' ((((owns_slice HO2.out.2.1).2.2.2.chg HA3.out.2.1 (fun _ _ h => h)).chg HC4.out (fun _ _ h => h)).chg hW (fun _ _ h => h))
  (by rw [Pth.ways_len]; exact (owns_slice HO2.out.2.1).2.2.1) (by rw [Pth.ways_len]; exact (owns_slice HO2.out.2.1).2.1) n0 ((HLA.out.chg0 HCU.out).chg0 hW))
 unfold strv at HNW
 rw [← hW0, Pth.ways_len] at HNW
 have HW0 := Lib.hid hW0
 clear hW0
 rw [← HPT.out] at HNW
 go_wp2_with fail
 refine (HNW.out _ (Chg.refl _ _)).mono ?_
 rintro e w5 ⟨⟨b, B, rfl, hWt, hWge⟩, c5⟩
 have HTR := Lib.hid (true15 hWt)
 have hT0 : W0.g.t = 1000000000000 := by rw [HW0.out]; rfl
 rw [hT0] at HTR
 have a3 := HA4.out.1.chg c5 (fun h => h)
 have a1 := HA4.out.2.chg c5 (fun h => h)
 have HW5 := Lib.hid (And.intro hWt (And.intro hWge (And.intro c5 (And.intro a3 a1))))
 have j0 := a3.cell 0
 have j1 := a3.cell 1
 have j2 := a3.cell 2
 have j3 := a3.cell 3
 have j4 := a3.cell 4
 have j5 := a3.cell 5
 have j6 := a3.cell 6
 have j7 := a3.cell 7
 have j8 := a3.cell 8
 have j9 := a3.cell 9
 have k0 := a1.cell 0
 have k1 := a1.cell 1
 have k2 := a1.cell 2
 have k3 := a1.cell 3
 have k4 := a1.cell 4
 have k5 := a1.cell 5
 have k6 := a1.cell 6
 have k7 := a1.cell 7
 have k8 := a1.cell 8
 have k9 := a1.cell 9
 simp at j0 j1 j2 j3 j4 j5 j6 j7 j8 j9 k0 k1 k2 k3 k4 k5 k6 k7 k8 k9
 clear hWt hWge c5 a3 a1 HNW hT0
 go_wp2_with fail
 refine HTR.out.mono ?_
 rintro e wt ⟨rfl, hwt⟩
 rw [hwt]
 clear hwt wt HTR
 have HSP := Lib.hid (fun W' => steps13 p.sv p.li p.qu p.mo p.ra p.wa p.st p.off p.lie p.quo 4 p.most 2000 500 p.step p.rate (50000000 + p.step) (p.step * p.rate / 1000000) a sa va p.wx.length cap p.n.toNat sc p.n.toNat vc n HO.out.wa hb5 hb6 rfl (by have h1 := HNB.out; omega) W')
 go_wp2_with fail
 refine (HSP.out _).mono ?_
 rintro e w6 ⟨v6, sg6, rfl, OS, hsg, c6⟩
 obtain ⟨ssa, ssc, hv6⟩ : ∃ ssa ssc, v6 = .slice ssa n ssc := by
  obtain ⟨a', cap', hv, _⟩ := OS.form
  rw [List.length_map, psteps_len] at hv
  exact ⟨_, _, hv⟩
 subst hv6
 have hba : OcAt w p b p3 w4.heap.size #[.slice sa p.n.toNat sc, .int .i64 p.quo, .int .i64 4, .int .i64 p.most, .int .i64 2000, .int .i64 500, .slice va p.n.toNat vc, .int .i64 p.step, .int .i64 p.rate, .int .i64 (50000000 + p.step)] (.slice ssa n ssc) sg6 n 0 1000000000000 0 w6 := by
  refine ⟨⟨0, W0, B, by omega, HW5.out.1.chg0 c6, HW5.out.2.1, ?_⟩, HW5.out.2.2.2.1.chg c6 (fun h => h), OS, (HCU.out.trans HW5.out.2.2.1).trans c6⟩
  rw [HW0.out]
  exact oc_new (path_crew HO.out) rfl rfl hb5.1
 have HBA := Lib.hid hba
 have HG4 := Lib.hid (And.intro HCU.out.size HA4.out.1.lt)
 have hssc : n ≤ ssc := (owns_slice OS).2.1
 clear hba OS hsg c6 HSP HW5 HA4 HX0 HA3 HA1 HO2 HC4 HW0 HPT j0 j1 j2 j3 j4 j5 j6 j7 j8 j9 k0 k1 k2 k3 k4 k5 k6 k7 k8 k9
 go_wp2_with fail
 go_loopw [47, 9, 10] (fun v47 v9 v10 wr => ∃ (i : Nat) (last seen : Int), i ≤ n ∧ v47 = .int .i64 i ∧ v9 = .int .i64 last ∧ v10 = .int .i64 seen ∧ OcAt w p b p3 w4.heap.size #[.slice sa p.n.toNat sc, .int .i64 p.quo, .int .i64 4, .int .i64 p.most, .int .i64 2000, .int .i64 500, .slice va p.n.toNat vc, .int .i64 p.step, .int .i64 p.rate, .int .i64 (50000000 + p.step)] (.slice ssa n ssc) sg6 n i last seen wr) (fun v47 _ _ _ => n - (intOf v47).toNat)
 case atStart => exact ⟨0, 1000000000000, 0, Nat.zero_le _, rfl, rfl, rfl, HBA.out⟩
 case round =>
  clear HBA
  obtain ⟨i, last, seen, hi, rfl, rfl, rfl, ⟨⟨N, W, B1, r1, r2, r3, r4⟩, r5, r6, r7⟩⟩ := hrel
  have hn401 : n ≤ 401 := by have := HNB.out; omega
  by_cases hin : i < n
  ·have hiI : (i : Int) < n := by omega
   have hi0 : (0 : Int) ≤ i := by omega
   have hic : i < ssc := by omega
   obtain ⟨dh, hdh⟩ : ∃ dh, pstep p.step (p.step * p.rate / 1000000) p.wa i = (p.step, dh, 2 * (i : Int) + 1) := ⟨_, rfl⟩
   have P := pstep_ok (wa := p.wa) hb5 hb6 rfl i
   rw [hdh] at P
   obtain ⟨-, -, P1, P2, P3, P4⟩ := P
   simp only at P1 P2
   obtain ⟨kb, of1, hsa, hcl⟩ := (owns_slice r6).2.2.2 (by rw [List.length_map, psteps_len]; omega)
   subst hsa
   have hsj : ((psteps p.step (p.step * p.rate / 1000000) p.wa n).map stpc)[i]? = some [.int .i64 p.step, .int .i64 dh, .int .u64 (2 * (i : Int) + 1)] := by
    unfold psteps
    rw [List.getElem?_map, List.getElem?_map, List.getElem?_range hin, Option.map_some, Option.map_some, hdh]
    rfl
   have f0 := hcl i _ hsj 0 _ rfl
   have f1 := hcl i _ hsj 1 _ rfl
   have f2 := hcl i _ hsj 2 _ rfl
   rw [← Nat.add_assoc] at f0 f1 f2
   rw [Nat.add_zero] at f0
   have hks : (i : Int) * p.step ≤ 401 * 1000000000 := Int.mul_le_mul (by omega) hb5.2 (by omega) (by omega)
   have hrd := r4.ready hb5 (by omega) (by omega) (by omega) P1 P2 P4 (by rw [Pth.ways_len]; have := (Pth.bounds HO.out).1; omega) (path_took HO.out)
   have HST := Lib.hid (fun us hu => oc_step (us := us) (dr := 2 * (i : Int) + 1) (path_crew HO.out) hb5 r4 (dh := dh) (by omega) (by omega) (by omega) hu)
   have HR := Lib.hid (And.intro r1 (And.intro r2 (And.intro r3 (And.intro r4 (And.intro r5 (And.intro r6 (And.intro r7 hrd)))))))
   clear r1 r2 r3 r4 r5 r6 r7 hrd hcl hsj hdh P1 P2 P3 P4 hks
   go_upto_region 11 with (fail)
   have A12 := Blk.new wr 56 #[.int .i64 p.step, .int .i64 dh, .int .u64 (2 * (i : Int) + 1)]
   have cA := chg0_alloc wr (Obj.cells #[.int .i64 p.step, .int .i64 dh, .int .u64 (2 * (i : Int) + 1)] 56)
   generalize wr.alloc (Obj.cells #[.int .i64 p.step, .int .i64 dh, .int .u64 (2 * (i : Int) + 1)] 56) = we at *
   obtain ⟨p12, hp12⟩ : ∃ p, p = wr.heap.size := ⟨_, rfl⟩
   rw [← hp12] at A12
   rw [← hp12]
   have q0 := A12.cell 0
   have q1 := A12.cell 1
   have q2 := A12.cell 2
   simp at q0 q1 q2
   have HCA := Lib.hid cA
   have HDO := Lib.hid (do16 (HR.out.2.1.chg0 cA) HR.out.2.2.2.2.2.2.2.1 (dr := 2 * (i : Int) + 1) ⟨by omega, by omega⟩ (by have := HR.out.2.2.2.2.2.2.2.2.1; omega) HR.out.2.2.2.2.2.2.2.2.2 (by have h1 := HR.out.2.2.2.2.2.2.2.2.1; have h2 := HR.out.1; omega))
   clear A12 cA hp12 f0 f1 f2
   go_wp2_with fail
   refine HDO.out.mono ?_
   rintro e w9 ⟨rfl, ⟨us, B2, u1, u2, u3⟩, c9⟩
   obtain ⟨g1, g2, g3, g4, g5, g6, g7, g8⟩ := HR.out
   have hsz : w4.heap.size ≤ wr.heap.size := by
    have h1 := g3 b (.inl (.inl rfl))
    have h2 := g2.box.lt
    omega
   have gWe := g2.chg0 HCA.out
   have b9 := (g5.chg HCA.out (fun h => h)).chg c9 (fun h => by have h1 := g3 _ h; have h2 := HG4.out.2; omega)
   have o56 := g6.chg HCA.out (fun _ _ h => h)
   have o9 := o56.chg c9 (fun k hk h => by
    obtain ⟨_, h'⟩ := o56.blk hk
    exact gWe.farT h h' (.inr (.inr (.inr (.inl rfl)))))
   have hN2 : N + 5 * W.under.length + 3 ≤ 28 * (i + 1) := by have := g8.2.1; omega
   have hW2 : ∀ k, WAll b B2 k → w4.heap.size ≤ k := fun k hk => by
    rcases u3 k hk with h | h
    ·exact g3 k h
    ·have := HCA.out.size; omega
   have cW9 : Chg (fun _ => False) w w9 := (g7.trans HCA.out).trans' c9 (fun k hk h => by have h1 := g3 k h; have h2 := HG4.out.1; omega)
   obtain ⟨hdt, hcase⟩ := HST.out us u1
   obtain ⟨W2, hW2e⟩ : ∃ W2, W2 = W.step us p.step dh (2 * (i : Int) + 1) := ⟨_, rfl⟩
   rw [← hW2e] at hdt hcase u2
   have HLG := Lib.hid (log17 u2 (by omega))
   have HB2 := Lib.hid (And.intro hN2 (And.intro u2 (And.intro hW2 (And.intro b9 (And.intro o9 cW9)))))
   clear g1 g2 g3 g4 g5 g6 g7 g8 hsz gWe b9 o56 o9 hN2 hW2 cW9 hdt hW2e u1 u2 u3 c9 HDO HST HR HCA q0 q1 q2
   obtain ⟨L2, hL2⟩ : ∃ L2, L2 = W2.log.length := ⟨_, rfl⟩
   rw [← hL2] at hcase
   have HL2 := Lib.hid hL2
   clear hL2
   go_wp2_with fail
   refine HLG.out.mono ?_
   rintro e w10 ⟨⟨la, lc, lg, LL, rfl, -, -, -⟩, c10⟩
   rw [← HL2.out]
   have HTR := Lib.hid (fun W' (hW : Chg (fun _ => False) w10 W') => true15 ((HB2.out.2.1.chg0 c10).chg0 hW))
   obtain ⟨T2, hT2⟩ : ∃ T2, T2 = W2.g.t := ⟨_, rfl⟩
   rw [← hT2] at HTR hcase
   have b10 := HB2.out.2.2.2.1.chg c10 (fun h => h)
   have m3 := b10.cell 3
   have m7 := b10.cell 7
   simp at m3 m7
   have HC10 := Lib.hid (And.intro c10 hT2)
   clear c10 hT2 b10 HLG
   have hm1 : IntKind.i64.wrap (p.most + 1) = p.most + 1 := wrap_id (by omega)
   have hm2 : IntKind.i64.wrap ((p.most + 1) * 1000000000) = (p.most + 1) * 1000000000 := wrap_id (by omega)
   have hm3 : IntKind.i64.wrap (4 * p.step) = 4 * p.step := wrap_id (by omega)
   obtain ⟨lim, hlim⟩ : ∃ lim, lim = (p.most + 1) * 1000000000 + 4 * p.step := ⟨_, rfl⟩
   have hm4 : IntKind.i64.wrap ((p.most + 1) * 1000000000 + 4 * p.step) = lim := by rw [hlim]; exact wrap_id (by omega)
   rcases hcase with ⟨hcmp, hj⟩ | ⟨hcmp, hj⟩
   ·have hc : ¬ lim < 0 := by omega
    have HFIN := Lib.hid (fun W' (hW : Chg (fun _ => False) w9 W') => (⟨⟨_, W2, B2, HB2.out.1, HB2.out.2.1.chg0 hW, HB2.out.2.2.1, hj⟩, HB2.out.2.2.2.1.chg hW (fun h => h), HB2.out.2.2.2.2.1.chg hW (fun _ _ h => h), HB2.out.2.2.2.2.2.trans hW⟩ : OcAt w p b p3 w4.heap.size #[.slice sa p.n.toNat sc, .int .i64 p.quo, .int .i64 4, .int .i64 p.most, .int .i64 2000, .int .i64 500, .slice va p.n.toNat vc, .int .i64 p.step, .int .i64 p.rate, .int .i64 (50000000 + p.step)] (.slice (some ⟨kb, of1, none⟩) n ssc) sg6 n (i + 1) T2 L2 W'))
    clear hj hlim
    go_wp2_with fail
    refine (HTR.out _ (Chg.refl _ _)).mono ?_
    rintro e wt ⟨rfl, hwt⟩
    rw [hwt]
    clear hwt wt
    go_upto_region 16 with (fail)
    go_quiet (first | (go_at_call 15; exact Calls.quiet_of_same (HTR.out _ ((Chg.refl _ _).drewN _))))
    go_wp2_with fail
    exact ⟨⟨i + 1, T2, L2, by omega, by simp, rfl, rfl, HFIN.out _ (HC10.out.1.drewN _)⟩, by simp [intOf]; omega⟩
   ·have hfar := hj.far hb5.1
    have hlt := hj.lt
    rw [← HC10.out.2] at hfar hlt
    have hsub : IntKind.i64.wrap (T2 - last) = T2 - last := wrap_id (by omega)
    have hc : ¬ lim < T2 - last := by omega
    have hno : ¬ seen < (L2 : Int) := by omega
    have HFIN := Lib.hid (fun W' (hW : Chg (fun _ => False) w9 W') => (⟨⟨_, W2, B2, HB2.out.1, HB2.out.2.1.chg0 hW, HB2.out.2.2.1, hj⟩, HB2.out.2.2.2.1.chg hW (fun h => h), HB2.out.2.2.2.2.1.chg hW (fun _ _ h => h), HB2.out.2.2.2.2.2.trans hW⟩ : OcAt w p b p3 w4.heap.size #[.slice sa p.n.toNat sc, .int .i64 p.quo, .int .i64 4, .int .i64 p.most, .int .i64 2000, .int .i64 500, .slice va p.n.toNat vc, .int .i64 p.step, .int .i64 p.rate, .int .i64 (50000000 + p.step)] (.slice (some ⟨kb, of1, none⟩) n ssc) sg6 n (i + 1) last seen W'))
    clear hj hlim hcmp hfar hlt
    go_upto_region 16 with (fail)
    go_quiet (first | (go_at_call 15; exact Calls.quiet_of_same (HTR.out _ ((Chg.refl _ _).drewN _))))
    go_wp2_with fail
    exact ⟨⟨i + 1, last, seen, by omega, by simp, rfl, rfl, HFIN.out _ (HC10.out.1.drewN _)⟩, by simp [intOf]; omega⟩
  ·obtain rfl : i = n := by omega
   have h4 : 4 ≤ seen := by
    refine r4.done hb5 ?_
    have h1 := HNB.out.1
    rw [HNB.out.2, Int.add_mul]
    omega
   have HAL := Lib.hid (alive11 (HLA.out.chg0 r7) (HTO.out.chg0 r7))
   have HR7 := Lib.hid r7
   clear r1 r2 r3 r4 r5 r6 r7
   go_wp2_with (go_at_call 11; refine HAL.out.mono ?_; rintro e w9 ⟨rfl, c9⟩)
   go_ret
   exact ⟨rfl, HR7.out.trans c9⟩
end
end Go.Proofs.YtamhicdhbjniiaaGreatDoor
