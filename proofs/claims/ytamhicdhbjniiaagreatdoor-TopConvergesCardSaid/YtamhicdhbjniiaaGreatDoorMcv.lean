/- What an honest server's answer tells of the clock, and what is chosen of honest votes: in plain words. A clock comes near, and stays so: the law of TopConverges in plain words. A clock comes near, and stays so: a step; in plain words. A path's world comes near: what a run of it asks, in plain words. TopConverges: contract. -/
import Derived.Test.YtamhicdhbjniiaaGreatDoorMp1
import Derived.Test.YtamhicdhbjniiaaGreatDoorM44
import Derived.Test.YtamhicdhbjniiaaGreatDoorMp2
import Derived.Test.YtamhicdhbjniiaaGreatDoorM48
set_option linter.unusedVariables false
set_option maxHeartbeats 6400000
set_option maxRecDepth 100000
namespace Go.Proofs.YtamhicdhbjniiaaGreatDoor
section
open Go Go.RowKit Go.Chron
theorem fromI_eq (n : Int) : fromI n = (n * 4294967296 / 1000000000) % 18446744073709551616 := by
 unfold fromI
 have : n * 4294967296 / 1000000000 = n / 1000000000 * 4294967296 + n % 1000000000 * 4294967296 / 1000000000 := by omega
 rw [this]
theorem diff_from {a b : Int} (h1 : -1000000000000000 ≤ a - b) (h2 : a - b ≤ 1000000000000000) : a - b - 2 ≤ diffI (fromI a) (fromI b) ∧ diffI (fromI a) (fromI b) ≤ a - b + 2 := by
 have hw : wrap64 (fromI a - fromI b) = a * 4294967296 / 1000000000 - b * 4294967296 / 1000000000 := by
  rw [fromI_eq, fromI_eq]
  unfold wrap64
  omega
 unfold diffI mulDivI
 rw [hw]
 omega
theorem honest_o {T cl came there err : Int} (h1 : 1000000000 ≤ T + there + err) (h2 : T + there + err ≤ 100000000000000) (b1 : -100000000000000 ≤ cl) (b2 : cl ≤ 100000000000000) (b3 : -100000000000000 ≤ came) (b4 : came ≤ 100000000000000)
  {r : Int} (hr : r = max 1 (fromI (T + there + err))) : 2 * (T + there + err) - cl - came - 6 ≤ 2 * makeO cl came r r ∧ 2 * makeO cl came r r ≤ 2 * (T + there + err) - cl - came + 4 := by
 have hm : r = fromI (T + there + err) := by
  rw [hr, fromI_eq]
  omega
 subst hm
 unfold makeO midI
 have d1 := diff_from (a := T + there + err) (b := cl) (by omega) (by omega)
 have d2 := diff_from (a := T + there + err) (b := came) (by omega) (by omega)
 generalize diffI (fromI (T + there + err)) (fromI cl) = x at *
 generalize diffI (fromI (T + there + err)) (fromI came) = y at *
 omega
def SamOk (C0 step T h : Int) (x : Sam) : Prop := ∃ Tx, ((T - Tx) - (h - x.t)) * 10000 ≤ T - Tx ∧ ((h - x.t) - (T - Tx)) * 10000 ≤ T - Tx ∧ 2 * (Tx - x.t - C0) - step - 2000000 ≤ 2 * (x.o + x.s) ∧ 2 * (x.o + x.s) ≤ 2 * (Tx - x.t - C0) - step + 52000000 ∧ (-2000000000 ≤ x.s ∧ x.s ≤ 2000000000)
theorem SamOk.go {C0 step T h : Int} {x : Sam} (o : SamOk C0 step T h x) {dt dh : Int} (h1 : (dh - dt) * 10000 ≤ dt) (h2 : (dt - dh) * 10000 ≤ dt) : SamOk C0 step (T + dt) (h + dh) x := by
 obtain ⟨Tx, a, b, c, d, e⟩ := o
 exact ⟨Tx, by omega, by omega, c, d, e⟩
theorem SamOk.vote {C0 step T h life A : Int} {x : Sam} (o : SamOk C0 step T h x) (hf : frOf x h life = true) (hl : life ≤ 16000000000) (hh : 0 ≤ h ∧ h ≤ 100000000000000) (hT : -2000000000 ≤ T - h - C0 ∧ T - h - C0 ≤ 2000000000) (hA : -2000000000 ≤ A ∧ A ≤ 2000000000) (hs : 0 ≤ step ∧ step ≤ 1000000000) :
  2 * (T - h - C0 - A) - step - 6000000 ≤ 2 * nowOf x A ∧ 2 * nowOf x A ≤ 2 * (T - h - C0 - A) - step + 56000000 := by
 obtain ⟨Tx, a, b, c, d, e1, e2⟩ := o
 unfold frOf at hf
 simp only [Bool.and_eq_true, decide_eq_true_eq] at hf
 obtain ⟨f1, f2⟩ := hf
 have hlt : h - x.t ≤ 16000000000 := by
  unfold satSub at f2
  split at f2
  ·omega
  ·split at f2 <;> omega
 have hTx : T - Tx ≤ 16002000000 := by omega
 unfold nowOf
 have s1 : satSub A x.s = A - x.s := by unfold satSub; rw [if_neg (by omega), if_neg (by omega)]
 have s2 : satSub x.o (A - x.s) = x.o - (A - x.s) := by unfold satSub; rw [if_neg (by omega), if_neg (by omega)]
 rw [s1, s2]
 omega
theorem pick_between {Ls : List (List Sam)} {h life sl : Int} {n lies : Nat} {q lo hi : Int} (hq : 2 * (lies : Int) + 1 ≤ q) (hln : lies ≤ n)
  (hh : ∀ i, lies ≤ i → i < n → ∀ x ∈ Ls.getD i [], frOf x h life = true → lo ≤ 2 * nowOf x sl ∧ 2 * nowOf x sl ≤ hi)
  (hz : (chOf q ((selOf Ls h life sl n).map (·.off))).2 = 0) : lo ≤ 2 * (chOf q ((selOf Ls h life sl n).map (·.off))).1 ∧ 2 * (chOf q ((selOf Ls h life sl n).map (·.off))).1 ≤ hi := by
 rcases chOf_cases q ((selOf Ls h life sl n).map (·.off)) with ⟨h1, h2⟩ | ⟨h1, h2, h3⟩ | ⟨h1, h2, h3⟩
 ·omega
 ·rw [h3] at hz; cases hz
 rw [h3]
 obtain ⟨m, rfl⟩ : ∃ m, n = lies + m := ⟨n - lies, by omega⟩
 obtain ⟨B, hB⟩ : ∃ B, B = (List.range m).flatMap (fun i => voteOf (Ls.getD (lies + i) []) ((lies + i : Nat)) h life sl) := ⟨_, rfl⟩
 have hsp : selOf Ls h life sl (lies + m) = selOf Ls h life sl lies ++ B := by
  rw [hB]
  unfold selOf
  rw [List.range_add, List.flatMap_append, List.flatMap_map]
 have hlen := selOf_len Ls h life sl lies
 rw [hsp, List.map_append] at h2 ⊢
 have hb : ∀ v ∈ B.map (·.off), lo ≤ 2 * v ∧ 2 * v ≤ hi := by
  intro v hv
  obtain ⟨u, hu, rfl⟩ := List.mem_map.1 hv
  rw [hB] at hu
  obtain ⟨i, hi', hu⟩ := List.mem_flatMap.1 hu
  unfold voteOf at hu
  split at hu
  ·cases hu
  ·rename_i x hx
   rw [List.mem_singleton] at hu
   subst hu
   have hm := bestOf_mem _ _ hx
   obtain ⟨m1, m2⟩ := List.mem_filter.1 hm
   exact hh (lies + i) (by omega) (by have := List.mem_range.1 hi'; omega) x m1 m2
 rw [List.length_append] at h2
 have hml : ((selOf Ls h life sl lies).map (·.off)).length < (B.map (·.off)).length := by
  rw [List.length_map, List.length_map] at *
  omega
 rw [med_perm (List.perm_append_comm)]
 generalize (selOf Ls h life sl lies).map (·.off) = L at *
 generalize B.map (·.off) = H at *
 have e := med_between hml (lo := (lo + 1) / 2) (hi := hi / 2) (fun x hx => by have := hb x hx; omega) (fun x hx => by have := hb x hx; omega)
 show lo ≤ 2 * medOf (H ++ L) ∧ 2 * medOf (H ++ L) ≤ hi
 omega
theorem room_le {k : Clk} (hr : k.rate = 500) {h : Int} (h0 : k.h ≤ h) : 0 ≤ k.room h ∧ k.room h * 1000000 ≤ (h - k.h) * 500 ∧ (h - k.h) * 500 < k.room h * 1000000 + 1000000 := by
 unfold Clk.room
 rw [hr]
 omega
theorem slews_le' {k : Clk} {h : Int} (hr : 0 ≤ k.room h) : -k.room h ≤ k.slews h ∧ k.slews h ≤ k.room h := by
 unfold Clk.slews clampI
 split
 ·omega
 ·split <;> omega
theorem slews_two {k : Clk} (hr : k.rate = 500) {h h' : Int} (h0 : k.h ≤ h) (h1 : h ≤ h') : -(k.room h' - k.room h) ≤ k.slews h' - k.slews h ∧ k.slews h' - k.slews h ≤ k.room h' - k.room h ∧ 0 ≤ k.room h' - k.room h ∧ (k.room h' - k.room h) * 1000000 ≤ (h' - h) * 500 + 1000000 := by
 have r1 := room_le hr h0
 have r2 := room_le hr (Int.le_trans h0 h1)
 have hm : k.room h ≤ k.room h' := by omega
 unfold Clk.slews
 generalize k.room h = a at *
 generalize k.room h' = b at *
 unfold clampI
 refine ⟨?_, ?_, by omega, by omega⟩
 ·split <;> split <;> (try split) <;> (try split) <;> omega
 ·split <;> split <;> (try split) <;> (try split) <;> omega
theorem round_le {offc th tau eta q room U L step : Int} (ht : 100000000 ≤ tau ∧ tau ≤ 6100000000) (d1 : (tau - eta) * 1000000 ≤ q) (d2 : (eta - tau) * 1000000 ≤ q) (hq : q ≤ 100 * tau)
  (r1 : 0 ≤ room) (r2 : room * 1000000 ≤ eta * 500) (r3 : eta * 500 < room * 1000000 + 1000000) (hs : 0 ≤ step ∧ step ≤ 1000000000)
  (g1 : 2 * offc - step - 6000000 ≤ 2 * th) (g2 : 2 * th ≤ 2 * offc - step + 56000000)
  (hU : 100000000 * offc ≤ U ∨ 2 * offc ≤ step + 8000000) (hL : L ≤ 100000000 * offc ∨ step - 58000000 ≤ 2 * offc) :
  (100000000 * (offc + (tau - eta) - clampI th (-room) room) ≤ U - 100 * (500 * tau - q) + 6 * tau ∨ 2 * (offc + (tau - eta) - clampI th (-room) room) ≤ step + 8000000) ∧
   (L + 100 * (500 * tau - q) - 6 * tau ≤ 100000000 * (offc + (tau - eta) - clampI th (-room) room) ∨ step - 58000000 ≤ 2 * (offc + (tau - eta) - clampI th (-room) room)) := by
 constructor
 ·by_cases h : room ≤ th
  ·have : clampI th (-room) room = room := by
    unfold clampI
    rw [if_neg (by omega)]
    split <;> omega
   rw [this]
   rcases hU with hU | hU
   ·left; omega
   ·right; omega
  ·right
   have : th ≤ clampI th (-room) room := by unfold clampI; split <;> (try split) <;> omega
   omega
 ·by_cases h : th ≤ -room
  ·have : clampI th (-room) room = -room := by
    unfold clampI
    split
    ·rfl
    ·split <;> omega
   rw [this]
   rcases hL with hL | hL
   ·left; omega
   ·right; omega
  ·right
   have : clampI th (-room) room ≤ th := by unfold clampI; split <;> (try split) <;> omega
   omega
end
section
open Go Go.RowKit Go.Chron
structure CvP (c : Cfg) (ys : List Way) (step rate o0 s0 : Int) (lies : Nat) : Prop where
 C : Crew c ys
 de : c.delay = 2000
 le : c.least = 4
 mo : 4 ≤ c.most ∧ c.most ≤ 8
 sl : c.slew = 500
 st : 100000000 ≤ step ∧ step ≤ 1000000000
 ra : 0 ≤ rate * step ∧ rate * step ≤ 100 * step
 o : -s0 ≤ o0 ∧ o0 ≤ s0 ∧ s0 ≤ 120000000
 li : 2 * (lies : Int) + 1 ≤ c.quorum
 ln : lies ≤ ys.length
 ho : ∀ i, lies ≤ i → i < ys.length → (ys.getD i way0).kind = 0 ∧ (0 ≤ (ys.getD i way0).there ∧ (ys.getD i way0).there ≤ 25000000) ∧ (ys.getD i way0).stay = 0 ∧ 0 ≤ (ys.getD i way0).err ∧ (ys.getD i way0).err ≤ 400
structure Cv1 (step rate o0 s0 T h Q Tc Qc : Int) (k : Clk) : Prop where
 tc : Tc = T ∨ Tc + 100000000 ≤ T
 q0 : 0 ≤ Q - Qc
 q1 : Q - Qc ≤ 100 * (T - Tc)
 d1 : ((T - Tc) - (h - k.h)) * 1000000 ≤ Q - Qc
 d2 : ((h - k.h) - (T - Tc)) * 1000000 ≤ Q - Qc
 g1 : 2 * (Tc - k.c) - step - 6000000 ≤ 2 * k.left
 g2 : 2 * k.left ≤ 2 * (Tc - k.c) - step + 56000000
 u : 100000000 * (Tc - k.c) ≤ 100000000 * (s0 + 1000000) - 100 * (500 * (Tc - (1000000000000 + 2 * step)) - (Qc - 2 * (rate * step))) + 6 * (Tc - (1000000000000 + 2 * step)) ∨ 2 * (Tc - k.c) ≤ step + 8000000
 l : -(100000000 * (s0 + 1000000)) + 100 * (500 * (Tc - (1000000000000 + 2 * step)) - (Qc - 2 * (rate * step))) - 6 * (Tc - (1000000000000 + 2 * step)) ≤ 100000000 * (Tc - k.c) ∨ step - 58000000 ≤ 2 * (Tc - k.c)
structure CvK (o0 h : Int) (k : Clk) : Prop where
 rate : k.rate = 500
 h0 : 0 ≤ k.h
 h1 : k.h ≤ h
 c : k.c = 1000000000000 - o0 + k.h + k.all
 al : -1200000000 ≤ k.all ∧ k.all ≤ 1200000000
structure CvJ (c : Cfg) (ys : List Way) (step rate o0 s0 : Int) (lies : Nat) (k : Nat) (W : Wm) : Prop where
 ex : ∃ p Ta, Lk c ys Ta W p ∧ (p.st = 1 → p.clock = (W.d.clk.run W.g.h).c) ∧
  ((k = 0 ∧ p.st = 0 ∧ p.due = 0 ∧ p.sent = 0 ∧ W.d.clk.left = 0 ∧ W.d.clk.all = 0 ∧ W.d.clk.h = 0 ∧ W.g.h = 0) ∨ (k = 1 ∧ p.st = 1 ∧ W.d.clk.left = 0 ∧ W.d.clk.all = 0 ∧ W.d.clk.h = 0) ∨
   (2 ≤ k ∧ ∃ Tc Qc, (p.st = 1 → W.g.t - Tc ≤ 4000400100 + step) ∧ (p.st = 0 → Ta ≤ Tc) ∧ Cv1 step rate o0 s0 W.g.t W.g.h ((k : Int) * (rate * step)) Tc Qc W.d.clk))
 t : W.g.t = 1000000000000 + (k : Int) * step
 ra : W.g.rate = rate
 steps : W.g.steps = (k : Int)
 h0 : 0 ≤ W.g.h
 d1 : (W.g.t - 1000000000000 - W.g.h) * 1000000 ≤ (k : Int) * (rate * step)
 d2 : (W.g.h - (W.g.t - 1000000000000)) * 1000000 ≤ (k : Int) * (rate * step)
 ck : CvK o0 W.g.h W.d.clk
 ss : ∀ i, lies ≤ i → i < ys.length → ∀ x ∈ W.d.ss.getD i [], SamOk (1000000000000 - o0) step W.g.t W.g.h x
theorem wrap64_id {x : Int} (h : -9000000000000000000 ≤ x ∧ x ≤ 9000000000000000000) : wrap64 x = x := by unfold wrap64; omega
theorem run_vals {k : Clk} {o0 h h' : Int} (K : CvK o0 h k) (hh : h ≤ h') (h1 : h' - k.h ≤ 1000000000000) (h2 : h' ≤ 100000000000000) (ho : -1000000000 ≤ o0 ∧ o0 ≤ 1000000000) :
  (k.run h').c = 1000000000000 - o0 + h' + (k.all + k.slews h') ∧ (k.run h').all = k.all + k.slews h' ∧ (k.run h').rate = 500 ∧ (k.run h').h = h' := by
 obtain ⟨k1, k2, k3, k4, k5⟩ := K
 have r := room_le k1 (Int.le_trans k3 hh)
 have s := slews_le' r.1
 unfold Clk.run
 simp only
 rw [wrap64_id (by omega), wrap64_id (by omega)]
 exact ⟨by omega, rfl, k1, trivial⟩
variable {c : Cfg} {ys : List Way} {step rate o0 s0 : Int} {lies : Nat}
theorem Cv1.off {T h Q Tc Qc : Int} {k : Clk} (h1 : Cv1 step rate o0 s0 T h Q Tc Qc k) (K : CvK o0 h k) (hs : 100000000 ≤ step ∧ step ≤ 1000000000) (ht : T - Tc ≤ 6100000000) (hh : h ≤ 100000000000000) (ho : -1000000000 ≤ o0 ∧ o0 ≤ 1000000000) :
  (100000000 * (T - (k.run h).c) ≤ 100000000 * (s0 + 1000000) - 100 * (500 * (T - (1000000000000 + 2 * step)) - (Q - 2 * (rate * step))) + 6 * (T - (1000000000000 + 2 * step)) ∨ 2 * (T - (k.run h).c) ≤ step + 8000000) ∧
   (-(100000000 * (s0 + 1000000)) + 100 * (500 * (T - (1000000000000 + 2 * step)) - (Q - 2 * (rate * step))) - 6 * (T - (1000000000000 + 2 * step)) ≤ 100000000 * (T - (k.run h).c) ∨ step - 58000000 ≤ 2 * (T - (k.run h).c)) := by
 obtain ⟨tc, q0, q1, d1, d2, g1, g2, u, l⟩ := h1
 obtain ⟨v1, v2, v3, v4⟩ := run_vals K (Int.le_refl h) (by omega) hh ho
 obtain ⟨k1, k2, k3, k4, k5⟩ := K
 have r := room_le k1 k3
 rw [v1]
 generalize rate * step = rs at *
 rcases tc with e | e
 ·have hq : Q = Qc := by omega
  have hhk : h = k.h := by omega
  have hs0 : k.slews h = 0 := by
   have s := slews_le' r.1
   omega
  rw [hs0]
  constructor
  ·rcases u with u | u
   ·left; omega
   ·right; omega
  ·rcases l with l | l
   ·left; omega
   ·right; omega
 ·have R := round_le (offc := Tc - k.c) (th := k.left) (tau := T - Tc) (eta := h - k.h) (q := Q - Qc) (room := k.room h) (step := step) ⟨by omega, ht⟩ d1 d2 q1 r.1 r.2.1 r.2.2 (by omega) g1 g2 u l
  have hsl : k.slews h = clampI k.left (-k.room h) (k.room h) := rfl
  rw [hsl]
  generalize clampI k.left (-k.room h) (k.room h) = z at *
  obtain ⟨R1, R2⟩ := R
  constructor
  ·rcases R1 with x | x
   ·left; omega
   ·right; omega
  ·rcases R2 with x | x
   ·left; omega
   ·right; omega
theorem cv_new (P : CvP c ys step rate o0 s0 lies) : CvJ c ys step rate o0 s0 lies 0 (wm0 c 1000000000000 0 (1000000000000 - o0) rate ys) := by
 refine ⟨⟨Pr.new c 0, _, lk_new P.C P.de P.le, fun h => absurd h (show (0 : Int) ≠ 1 by decide), .inl ⟨rfl, rfl, rfl, rfl, rfl, rfl, rfl, rfl⟩⟩, ?_, rfl, rfl, Int.le_refl _, ?_, ?_, ⟨P.sl, Int.le_refl _, Int.le_refl _, ?_, ?_, ?_⟩, ?_⟩
 ·show (1000000000000 : Int) = 1000000000000 + ((0 : Nat) : Int) * step
  simp
 ·show ((1000000000000 : Int) - 1000000000000 - 0) * 1000000 ≤ ((0 : Nat) : Int) * (rate * step)
  simp
 ·show ((0 : Int) - (1000000000000 - 1000000000000)) * 1000000 ≤ ((0 : Nat) : Int) * (rate * step)
  simp
 ·show 1000000000000 - o0 = 1000000000000 - o0 + 0 + 0
  omega
 ·show (-1200000000 : Int) ≤ 0
  omega
 ·show (0 : Int) ≤ 1200000000
  omega
 ·intro i _ hi x hx
  have : (List.replicate c.servers.length ([] : List Sam)).getD i [] = [] := by
   rw [List.getD_eq_getElem?_getD]
   cases h : (List.replicate c.servers.length ([] : List Sam))[i]? with
   | none => rfl
   | some y => exact List.eq_of_mem_replicate (List.mem_of_getElem? h)
  rw [show (wm0 c 1000000000000 0 (1000000000000 - o0) rate ys).d.ss = List.replicate c.servers.length [] from rfl, this] at hx
  cases hx
theorem mul_succ' (k : Nat) (x : Int) : ((k + 1 : Nat) : Int) * x = (k : Int) * x + x := by rw [Int.natCast_add, Int.add_mul]; simp
theorem satAdd_id {a b : Int} (h : -1000000000000000 ≤ a + b ∧ a + b ≤ 1000000000000000) : satAdd a b = a + b := by unfold satAdd; rw [if_neg (by omega), if_neg (by omega)]
theorem sam_ok (P : CvP c ys step rate o0 s0 lies) {p : Pr} {V : Wm} {T dh h A A' : Int} {i : Nat} (h1 : lies ≤ i) (h2 : i < ys.length) (hc : p.clock = 1000000000000 - o0 + h + A) (hV : V.g.h = h + dh) (hr : (V.d.clk.run (h + dh)).c = 1000000000000 - o0 + (h + dh) + A') (ha : (V.d.clk.run (h + dh)).all = A')
  (hT : 1000000000000 ≤ T ∧ T ≤ 10000000000000) (hh : 0 ≤ h ∧ h ≤ 10000000000000) (hA : -2000000000 ≤ A ∧ A ≤ 2000000000) (hA' : -2000000000 ≤ A' ∧ A' ≤ 2000000000) (hd : A' - A ≤ 600000 ∧ A - A' ≤ 600000) (h3 : (dh - step) * 10000 ≤ step) (h4 : (step - dh) * 10000 ≤ step) :
  SamOk (1000000000000 - o0) step (T + step) (h + dh) (Wm.sam ys p V T i) := by
 obtain ⟨y1, y2, y3, y4, y5⟩ := P.ho i h1 h2
 have hs := P.st
 have ho := P.o
 have e1 : satAdd T (ys.getD i way0).there = T + (ys.getD i way0).there := satAdd_id (by omega)
 have e2 : satAdd (T + (ys.getD i way0).there) (ys.getD i way0).err = T + (ys.getD i way0).there + (ys.getD i way0).err := satAdd_id (by omega)
 have e3 : satAdd (T + (ys.getD i way0).there) 0 = T + (ys.getD i way0).there := by rw [satAdd_id (by omega)]; omega
 unfold Wm.sam
 rw [hV, hr, ha, e1]
 have hrx : (ys.getD i way0).rx (T + (ys.getD i way0).there) = max 1 (fromI (T + (ys.getD i way0).there + (ys.getD i way0).err)) := by
  unfold Way.rx
  rw [if_pos y1, e2]
 have hxx : (ys.getD i way0).xx (T + (ys.getD i way0).there) = max 1 (fromI (T + (ys.getD i way0).there + (ys.getD i way0).err)) := by
  unfold Way.xx
  rw [if_pos y1, y3, e3, e2]
 unfold samOf
 rw [hrx, hxx, hc]
 have H := honest_o (T := T) (cl := 1000000000000 - o0 + h + A) (came := 1000000000000 - o0 + (h + dh) + A') (there := (ys.getD i way0).there) (err := (ys.getD i way0).err) (by omega) (by omega) (by omega) (by omega) (by omega) (by omega) rfl
 generalize makeO (1000000000000 - o0 + h + A) (1000000000000 - o0 + (h + dh) + A') (max 1 (fromI (T + (ys.getD i way0).there + (ys.getD i way0).err))) (max 1 (fromI (T + (ys.getD i way0).there + (ys.getD i way0).err))) = o at *
 refine ⟨T + step, ?_, ?_, ?_, ?_, hA'⟩
 ·show (T + step - (T + step) - (h + dh - (h + dh))) * 10000 ≤ T + step - (T + step)
  omega
 ·show (h + dh - (h + dh) - (T + step - (T + step))) * 10000 ≤ T + step - (T + step)
  omega
 ·show 2 * (T + step - (h + dh) - (1000000000000 - o0)) - step - 2000000 ≤ 2 * (o + A')
  omega
 ·show 2 * (o + A') ≤ 2 * (T + step - (h + dh) - (1000000000000 - o0)) - step + 52000000
  omega
theorem rpush_mem {α : Type} {m : Nat} {L : List α} {x y : α} (h : y ∈ rpush m L x) : y ∈ L ∨ y = x := by
 unfold rpush at h
 split at h
 ·rcases List.mem_append.1 h with h | h
  ·exact .inl h
  ·exact .inr (by simpa using h)
 ·rcases List.mem_append.1 h with h | h
  ·exact .inl (List.mem_of_mem_tail h)
  ·exact .inr (by simpa using h)
end
section
open Go Go.RowKit Go.Chron
variable {c : Cfg} {ys : List Way} {step rate o0 s0 : Int} {lies : Nat}
theorem Cv1.go {T h Q Tc Qc dh : Int} {k : Clk} (H : Cv1 step rate o0 s0 T h Q Tc Qc k) (hs : 100000000 ≤ step) (hr : 0 ≤ rate * step ∧ rate * step ≤ 100 * step) (h1 : (dh - step) * 1000000 ≤ rate * step) (h2 : (step - dh) * 1000000 ≤ rate * step) :
  Cv1 step rate o0 s0 (T + step) (h + dh) (Q + rate * step) Tc Qc k := by
 obtain ⟨tc, q0, q1, d1, d2, g1, g2, u, l⟩ := H
 refine ⟨.inr (by omega), by omega, by omega, by omega, by omega, g1, g2, u, l⟩
theorem stD_get {n : Nat} {S : List (List Sam)} {X : Nat → Sam} {D : List Nat} {i : Nat} (hi : i < n) : (stD n S X D).getD i [] = if i ∈ D then rpush 8 (S.getD i []) (X i) else S.getD i [] := by
 unfold stD
 rw [List.getD_eq_getElem?_getD, List.getElem?_map, List.getElem?_range hi]
 rfl
structure CvN (step rate o0 s0 T h dh Q : Int) (k : Clk) (A A' : Int) : Prop where
 c : (k.run h).c = 1000000000000 - o0 + h + A
 c' : (k.run (h + dh)).c = 1000000000000 - o0 + (h + dh) + A'
 all : (k.run (h + dh)).all = A'
 rr : (k.run (h + dh)).rate = 500
 hh : (k.run (h + dh)).h = h + dh
 a : -1500000000 ≤ A ∧ A ≤ 1500000000
 a' : -1150000000 ≤ A' ∧ A' ≤ 1150000000
 d : A' - A ≤ 600000 ∧ A - A' ≤ 600000
 u : 100000000 * (T + step - (k.run (h + dh)).c) ≤ 100000000 * (s0 + 1000000) - 100 * (500 * (T + step - (1000000000000 + 2 * step)) - (Q + rate * step - 2 * (rate * step))) + 6 * (T + step - (1000000000000 + 2 * step)) ∨ 2 * (T + step - (k.run (h + dh)).c) ≤ step + 8000000
 l : -(100000000 * (s0 + 1000000)) + 100 * (500 * (T + step - (1000000000000 + 2 * step)) - (Q + rate * step - 2 * (rate * step))) - 6 * (T + step - (1000000000000 + 2 * step)) ≤ 100000000 * (T + step - (k.run (h + dh)).c) ∨ step - 58000000 ≤ 2 * (T + step - (k.run (h + dh)).c)
theorem slews_zero {k : Clk} (hl : k.left = 0) {h : Int} (hr : 0 ≤ k.room h) : k.slews h = 0 := by
 unfold Clk.slews clampI
 rw [hl]
 split
 ·omega
 ·split <;> omega
theorem cv_nums (P : CvP c ys step rate o0 s0 lies) {k : Nat} {T h dh : Int} {ck : Clk} (K : CvK o0 h ck) (h1 : (dh - step) * 1000000 ≤ rate * step) (h2 : (step - dh) * 1000000 ≤ rate * step) (hk1 : 1 ≤ k) (hk : (k : Int) * step + step ≤ 4300000000000)
  (jt : T = 1000000000000 + (k : Int) * step) (j0 : 0 ≤ h) (jd1 : (T - 1000000000000 - h) * 1000000 ≤ (k : Int) * (rate * step)) (jd2 : (h - (T - 1000000000000)) * 1000000 ≤ (k : Int) * (rate * step))
  (ph : (k = 1 ∧ ck.left = 0 ∧ ck.all = 0 ∧ ck.h = 0) ∨ ∃ Tc Qc, T - Tc ≤ 4000400100 + step ∧ Cv1 step rate o0 s0 T h ((k : Int) * (rate * step)) Tc Qc ck) :
  ∃ A A', CvN step rate o0 s0 T h dh ((k : Int) * (rate * step)) ck A A' := by
 have hst := P.st
 have hra := P.ra
 have ho := P.o
 obtain ⟨m, rfl⟩ : ∃ m, k = m + 1 := ⟨k - 1, by omega⟩
 have m1 := mul_succ' m step
 have m2 := mul_succ' m (rate * step)
 have m3 : (m : Int) * (rate * step) ≤ 100 * ((m : Int) * step) := by
  have := Int.mul_le_mul_of_nonneg_left hra.2 (show (0 : Int) ≤ (m : Int) by omega)
  rw [Int.mul_left_comm (m : Int) 100] at this
  exact this
 have m4 : 0 ≤ (m : Int) * step := Int.mul_nonneg (by omega) (by omega)
 have m5 : 0 ≤ (m : Int) * (rate * step) := Int.mul_nonneg (by omega) (by omega)
 rw [m1] at hk jt
 rw [m2] at jd1 jd2 ph ⊢
 have hz : m = 0 → (m : Int) * step = 0 ∧ (m : Int) * (rate * step) = 0 := by rintro rfl; simp
 generalize (m : Int) * step = ms at *
 generalize (m : Int) * (rate * step) = mr at *
 have K0 := K
 obtain ⟨k1, k2, k3, k4, k5⟩ := K
 have hgap : h - ck.h ≤ 10000000000 := by
  rcases ph with ⟨p1, p2, p3, p4⟩ | ⟨Tc, Qc, p1, p2⟩
  ·obtain ⟨z1, z2⟩ := hz (by omega)
   omega
  ·have := p2.d2
   have := p2.q1
   have := p2.q0
   omega
 have hdh : 0 ≤ dh ∧ dh ≤ 1000100000 := by omega
 obtain ⟨v1, v2, v3, v4⟩ := run_vals K0 (Int.le_refl h) (by omega) (by omega) (by omega)
 obtain ⟨w1, w2, w3, w4⟩ := run_vals K0 (show h ≤ h + dh by omega) (by omega) (by omega) (by omega)
 have r1 := room_le k1 k3
 have s1 := slews_le' r1.1
 have s2 := slews_two k1 k3 (show h ≤ h + dh by omega)
 have K1 : CvK o0 (h + dh) ck := ⟨k1, k2, by omega, k4, k5⟩
 have hUL : (100000000 * (T + step - (ck.run (h + dh)).c) ≤ 100000000 * (s0 + 1000000) - 100 * (500 * (T + step - (1000000000000 + 2 * step)) - (mr + rate * step + rate * step - 2 * (rate * step))) + 6 * (T + step - (1000000000000 + 2 * step)) ∨ 2 * (T + step - (ck.run (h + dh)).c) ≤ step + 8000000) ∧
   (-(100000000 * (s0 + 1000000)) + 100 * (500 * (T + step - (1000000000000 + 2 * step)) - (mr + rate * step + rate * step - 2 * (rate * step))) - 6 * (T + step - (1000000000000 + 2 * step)) ≤ 100000000 * (T + step - (ck.run (h + dh)).c) ∨ step - 58000000 ≤ 2 * (T + step - (ck.run (h + dh)).c)) := by
  rcases ph with ⟨p1, p2, p3, p4⟩ | ⟨Tc, Qc, p1, p2⟩
  ·obtain ⟨z1, z2⟩ := hz (by omega)
   have r2 := room_le k1 (show ck.h ≤ h + dh by omega)
   rw [w1, slews_zero p2 r2.1, p3, z2]
   generalize rate * step = rs at *
   exact ⟨.inl (by omega), .inl (by omega)⟩
  ·exact (p2.go hst.1 hra h1 h2).off K1 hst (by omega) (by omega) (by omega)
 obtain ⟨u, l⟩ := hUL
 refine ⟨ck.all + ck.slews h, ck.all + ck.slews (h + dh), v1, w1, w2, w3, w4, by omega, ?_, by omega, u, l⟩
 generalize rate * step = rs at *
 rw [w1] at u l
 generalize ck.all + ck.slews (h + dh) = A' at *
 omega
theorem cv_step (P : CvP c ys step rate o0 s0 lies) {k : Nat} {W : Wm} (J : CvJ c ys step rate o0 s0 lies k W) {dh dr : Int} (h1 : (dh - step) * 1000000 ≤ rate * step) (h2 : (step - dh) * 1000000 ≤ rate * step) (hd : 0 < dr ∧ dr < 18446744073709551616) (hk : (k : Int) * step + step ≤ 4300000000000)
  {us : List Ans} (hu : us.Perm W.under) : CvJ c ys step rate o0 s0 lies (k + 1) (W.step us step dh dr) := by
 obtain ⟨⟨p, Ta, L, hclk, ph⟩, jt, jr, js, j0, jd1, jd2, K, S⟩ := J
 have hst := P.st
 have hra := P.ra
 have ho := P.o
 have e1 : (dh - step) * 10000 ≤ step := by omega
 have e2 : (step - dh) * 10000 ≤ step := by omega
 have hks := mul_succ' k step
 have hkr := mul_succ' k (rate * step)
 have m3 : (k : Int) * (rate * step) ≤ 100 * ((k : Int) * step) := by
  have := Int.mul_le_mul_of_nonneg_left hra.2 (show (0 : Int) ≤ (k : Int) by omega)
  rw [Int.mul_left_comm (k : Int) 100] at this
  exact this
 have m4 : 0 ≤ (k : Int) * step := Int.mul_nonneg (by omega) (by omega)
 have hgap := L.gap
 rcases L.two with hs1 | hs0
 ·-- all wait
  have hph : 1 ≤ k ∧ ((k = 1 ∧ W.d.clk.left = 0 ∧ W.d.clk.all = 0 ∧ W.d.clk.h = 0) ∨ ∃ Tc Qc, W.g.t - Tc ≤ 4000400100 + step ∧ Cv1 step rate o0 s0 W.g.t W.g.h ((k : Int) * (rate * step)) Tc Qc W.d.clk) := by
   rcases ph with ⟨_, x, _⟩ | ⟨x1, _, x2, x3, x4⟩ | ⟨x1, Tc, Qc, x2, _, x3⟩
   ·omega
   ·exact ⟨by omega, .inl ⟨x1, x2, x3, x4⟩⟩
   ·exact ⟨by omega, .inr ⟨Tc, Qc, x2 hs1, x3⟩⟩
  obtain ⟨A, A', N⟩ := cv_nums P K h1 h2 hph.1 hk jt j0 jd1 jd2 hph.2
  obtain ⟨n1, n2, n3, n4, n5, n6, n7, n8, n9, n10⟩ := N
  have hcl := hclk hs1
  rw [n1] at hcl
  have hX : ∀ i, lies ≤ i → i < ys.length → SamOk (1000000000000 - o0) step (W.g.t + step) (W.g.h + dh) (Wm.sam ys p (W.past step dh) W.g.t i) := fun i i1 i2 =>
   sam_ok P i1 i2 hcl rfl n2 n3 (by omega) (by omega) (by omega) (by omega) n8 e1 e2
  have hpk : Picks c ys p W.g.t (W.past step dh) (fun th => 2 * (W.g.t + step - (W.g.h + dh) - (1000000000000 - o0) - A') - step - 6000000 ≤ 2 * th ∧ 2 * th ≤ 2 * (W.g.t + step - (W.g.h + dh) - (1000000000000 - o0) - A') - step + 56000000) := by
   intro D hz
   refine pick_between P.li P.ln (fun i i1 i2 x hx hf => ?_) hz
   have hxo : SamOk (1000000000000 - o0) step (W.g.t + step) (W.g.h + dh) x := by
    rw [stD_get i2] at hx
    split at hx
    ·rcases rpush_mem hx with hx | rfl
     ·exact (S i i1 i2 x hx).go e1 e2
     ·exact hX i i1 i2
    ·exact (S i i1 i2 x hx).go e1 e2
   have hall : ((W.past step dh).d.clk.run (W.past step dh).g.h).all = A' := n3
   rw [hall]
   have hm := P.mo
   exact hxo.vote hf (by omega) (by omega) (by omega) (by omega) (by omega)
  have B := lk_heard (dr := dr) P.C L hs1 hst e1 e2 (by omega) hpk hu
  generalize W.step us step dh dr = W' at *
  have gt : W'.g.t = W.g.t + step := by rw [B.g]; rfl
  have gh : W'.g.h = W.g.h + dh := by rw [B.g]; rfl
  have hTa : Ta = W.g.t := by
   rcases L.st with x | x
   ·exact x.2.2.1
   ·have := x.1; omega
  obtain ⟨th, ⟨t1, t2⟩, hck⟩ := B.clk
  have hcp : clampI th (-2305843009213693952) 2305843009213693952 = th := by
   unfold clampI
   rw [if_neg (by omega), if_neg (by omega)]
  rw [hcp] at hck
  have c1 : W'.d.clk.c = 1000000000000 - o0 + (W.g.h + dh) + A' := by rw [hck]; exact n2
  have c2 : W'.d.clk.left = th := by rw [hck]
  have c3 : W'.d.clk.all = A' := by rw [hck]; exact n3
  have c4 : W'.d.clk.rate = 500 := by rw [hck]; exact n4
  have c5 : W'.d.clk.h = W.g.h + dh := by rw [hck]; exact n5
  refine ⟨⟨_, Ta, B.lk, fun h => absurd h (show (0 : Int) ≠ 1 by decide), .inr (.inr ⟨by omega, W.g.t + step, (k : Int) * (rate * step) + rate * step, fun h => absurd h (show (0 : Int) ≠ 1 by decide), fun _ => by omega, ?_⟩)⟩, by rw [gt, hks]; omega, by rw [B.g]; exact jr, by rw [B.g]; show W.g.steps + 1 = _; omega, by omega, by rw [gt, gh, hkr]; omega, by rw [gt, gh, hkr]; omega, ⟨c4, by omega, by omega, by omega, by omega⟩, ?_⟩
  ·rw [gt, gh, hkr]
   rw [n2] at n9 n10
   refine ⟨.inl rfl, by omega, by omega, ?_, ?_, ?_, ?_, ?_, ?_⟩
   ·rw [c5]; omega
   ·rw [c5]; omega
   ·rw [c1, c2]; omega
   ·rw [c1, c2]; omega
   ·rw [c1]; exact n9
   ·rw [c1]; exact n10
  ·intro i i1 i2 x hx
   rw [B.ss, List.getD_eq_getElem?_getD, List.getElem?_map, List.getElem?_range i2] at hx
   rw [gt, gh]
   rcases rpush_mem hx with hx | rfl
   ·exact (S i i1 i2 x hx).go e1 e2
   ·exact hX i i1 i2
 ·-- all are idle
  have B := lk_idle P.C L hs0 hst e1 e2 hd hu
  generalize W.step us step dh dr = W' at *
  have gt : W'.g.t = W.g.t + step := by rw [B.g]; rfl
  have gh : W'.g.h = W.g.h + dh := by rw [B.g]; rfl
  have bss := B.ss
  have bck := B.clk
  have blk := B.lk
  have base : (∃ p Ta, Lk c ys Ta W' p ∧ (p.st = 1 → p.clock = (W'.d.clk.run W'.g.h).c) ∧
    ((k + 1 = 0 ∧ p.st = 0 ∧ p.due = 0 ∧ p.sent = 0 ∧ W'.d.clk.left = 0 ∧ W'.d.clk.all = 0 ∧ W'.d.clk.h = 0 ∧ W'.g.h = 0) ∨ (k + 1 = 1 ∧ p.st = 1 ∧ W'.d.clk.left = 0 ∧ W'.d.clk.all = 0 ∧ W'.d.clk.h = 0) ∨
     (2 ≤ k + 1 ∧ ∃ Tc Qc, (p.st = 1 → W'.g.t - Tc ≤ 4000400100 + step) ∧ (p.st = 0 → Ta ≤ Tc) ∧ Cv1 step rate o0 s0 W'.g.t W'.g.h (((k + 1 : Nat) : Int) * (rate * step)) Tc Qc W'.d.clk))) := by
   rw [bck, gt, gh, hkr]
   rcases ph with ⟨x1, x2, x3, x4, x5, x6, x7, x8⟩ | ⟨_, x, _⟩ | ⟨x1, Tc, Qc, _, x3, x4⟩
   ·rcases blk with b | b
    ·exfalso
     rcases b.st with y | ⟨_, _, y, _⟩
     ·omega
     ·rw [gh] at y; omega
    ·exact ⟨_, _, b, fun _ => rfl, .inr (.inl ⟨by omega, rfl, x5, x6, x7⟩)⟩
   ·omega
   ·have g := x4.go hst.1 hra h1 h2
    have xT := x3 hs0
    rcases blk with b | b
    ·exact ⟨p, Ta, b, fun h => by omega, .inr (.inr ⟨by omega, Tc, Qc, fun h => by omega, fun _ => xT, g⟩)⟩
    ·exact ⟨_, _, b, fun _ => rfl, .inr (.inr ⟨by omega, Tc, Qc, fun _ => by omega, fun h => absurd h (show (1 : Int) ≠ 0 by decide), g⟩)⟩
  have K1 : CvK o0 (W.g.h + dh) W.d.clk := ⟨K.rate, K.h0, by have := K.h1; omega, K.c, K.al⟩
  refine ⟨base, by rw [gt, hks]; omega, by rw [B.g]; exact jr, by rw [B.g]; show W.g.steps + 1 = _; omega, by omega, by rw [gt, gh, hkr]; omega, by rw [gt, gh, hkr]; omega, by rw [bck, gh]; exact K1, ?_⟩
  intro i i1 i2 x hx
  rw [bss] at hx
  rw [gt, gh]
  exact (S i i1 i2 x hx).go e1 e2
theorem CvJ.near (P : CvP c ys step rate o0 s0 lies) {k : Nat} {W : Wm} (J : CvJ c ys step rate o0 s0 lies k W) (hk2 : 2 ≤ k) (hk : (k : Int) * step ≤ 4300000000000) (hw : s0 * 1000000 ≤ 500 * ((k : Int) * step - 2 * step) - ((k : Int) * (rate * step) - 2 * (rate * step))) :
  2 * W.off ≤ 50000000 + step ∧ -(50000000 + step) ≤ 2 * W.off := by
 obtain ⟨⟨p, Ta, L, hclk, ph⟩, jt, jr, js, j0, jd1, jd2, K, S⟩ := J
 have hst := P.st
 have hra := P.ra
 have ho := P.o
 have hgap := L.gap
 have m3 : (k : Int) * (rate * step) ≤ 100 * ((k : Int) * step) := by
  have := Int.mul_le_mul_of_nonneg_left hra.2 (show (0 : Int) ≤ (k : Int) by omega)
  rw [Int.mul_left_comm (k : Int) 100] at this
  exact this
 rcases ph with ⟨x, _⟩ | ⟨x, _⟩ | ⟨x1, Tc, Qc, x2, x3, x4⟩
 ·omega
 ·omega
 ·have hTT : W.g.t - Tc ≤ 4000400100 + step := by
   rcases L.two with e | e
   ·exact x2 e
   ·have := x3 e; omega
  have F := x4.off K hst (by omega) (by omega) (by omega)
  have hgh : W.g.h - W.d.clk.h ≤ 1000000000000 := by
   have := x4.d2
   have := x4.q1
   have := x4.q0
   omega
  obtain ⟨v1, _⟩ := run_vals K (Int.le_refl _) hgh (by omega) (by omega)
  have hb : -10000000000 ≤ W.g.t - (W.d.clk.run W.g.h).c ∧ W.g.t - (W.d.clk.run W.g.h).c ≤ 10000000000 := by
   rw [v1]
   have r := room_le K.rate K.h1
   have s := slews_le' r.1
   have := K.al
   omega
  have hoff : W.off = W.g.t - (W.d.clk.run W.g.h).c := by
   unfold Wm.off satSub
   rw [if_neg (by omega), if_neg (by omega)]
  rw [hoff]
  generalize W.g.t - (W.d.clk.run W.g.h).c = z at *
  generalize rate * step = rs at *
  obtain ⟨f1, f2⟩ := F
  constructor
  ·rcases f1 with f | f <;> omega
  ·rcases f2 with f | f <;> omega
end
section
open Go Go.RowKit Go.Chron
variable {p : Pth} {o0 s0 : Int}
def PJ (p : Pth) (o0 s0 : Int) : Nat → Wm → Prop := CvJ p.cfg (p.ways p.n.toNat) p.step p.rate o0 s0 p.lies.toNat
theorem path_cvp (o : p.Ok) (h : -s0 ≤ o0 ∧ o0 ≤ s0 ∧ s0 ≤ 120000000) : CvP p.cfg (p.ways p.n.toNat) p.step p.rate o0 s0 p.lies.toNat := by
 obtain ⟨b1, b2, b3, b4, b5, b6⟩ := Pth.bounds o
 refine ⟨path_crew o, rfl, rfl, b4, rfl, b5, ⟨Int.mul_nonneg b6.1 (by omega), Int.mul_le_mul_of_nonneg_right b6.2 (by omega)⟩, h, ?_, ?_, fun i h1 h2 => ?_⟩
 ·show 2 * ((p.lies.toNat : Nat) : Int) + 1 ≤ p.quo
  omega
 ·rw [Pth.ways_len]; omega
 ·rw [Pth.ways_len] at h2
  rw [path_get h2]
  obtain ⟨⟨x1, x2⟩, x3, x4⟩ := path_x o i
  unfold Pth.way
  simp only
  refine ⟨?_, ?_, trivial, ?_, ?_⟩
  ·rw [if_neg (by omega)]
  ·omega
  ·omega
  ·omega
theorem path_goes (o : p.Ok) (h : -s0 ≤ o0 ∧ o0 ≤ s0 ∧ s0 ≤ 120000000) {n : Nat} (hn : n ≤ 4200) : Goes (PJ p o0 s0) (psteps p.step (p.step * p.rate / 1000000) p.wa n) 5 := by
 have P := path_cvp o h
 obtain ⟨b1, b2, b3, b4, b5, b6⟩ := Pth.bounds o
 refine ⟨fun k W s hJ hs => ?_, by omega, by rw [psteps_len]; omega⟩
 unfold psteps at hs
 rw [List.getElem?_map] at hs
 have hk : k < n := by
  rcases Nat.lt_or_ge k n with h | h
  ·exact h
  ·rw [List.getElem?_eq_none (by rw [List.length_range]; exact h)] at hs; cases hs
 rw [List.getElem?_range hk] at hs
 cases hs
 obtain ⟨q1, q2, q3, q4, q5, q6⟩ := pstep_ok (wa := p.wa) b5 b6 rfl k
 have hJ' : CvJ p.cfg (p.ways p.n.toNat) p.step p.rate o0 s0 p.lies.toNat k W := hJ
 obtain ⟨⟨pr, Ta, L, _, _⟩, jt, jr, js, j0, jd1, jd2, _, _⟩ := hJ'
 have m3 : (k : Int) * (p.rate * p.step) ≤ (k : Int) * (100 * p.step) := Int.mul_le_mul_of_nonneg_left q6 (by omega)
 rw [Int.mul_left_comm (k : Int) 100] at m3
 have m1 : (k : Int) * p.step ≤ 4199 * 1000000000 := Int.mul_le_mul (by omega) b5.2 (by omega) (by omega)
 have m2 : 0 ≤ (k : Int) * p.step := Int.mul_nonneg (by omega) (by omega)
 rw [q1, q2]
 refine ⟨⟨by omega, by omega, ?_, ?_, by omega, by omega, by omega⟩, by omega, L.under_len (by rw [Pth.ways_len]; omega), L.under_at (path_took o) (by omega), fun us hu => cv_step P hJ q3 q4 (by omega) (by omega) hu⟩
 ·rw [jr]; exact q4
 ·rw [jr]; exact q3
theorem path_near (o : p.Ok) (h : -s0 ≤ o0 ∧ o0 ≤ s0 ∧ s0 ≤ 120000000) {k : Nat} {W : Wm} (hJ : PJ p o0 s0 k W) (hk : k ≤ 4200) {see q : Int} (hs : 2 * p.step ≤ see) (hq : s0 * 1000000 / (500 - p.rate) = q) (hw : see + q + 1 ≤ (k : Int) * p.step) :
  2 * W.off ≤ 50000000 + p.step ∧ -(50000000 + p.step) ≤ 2 * W.off := by
 have P := path_cvp o h
 obtain ⟨b1, b2, b3, b4, b5, b6⟩ := Pth.bounds o
 have hq1 : s0 * 1000000 < (500 - p.rate) * (q + 1) := by
  have h1 := Int.mul_ediv_add_emod (s0 * 1000000) (500 - p.rate)
  have h2 := Int.emod_lt_of_pos (s0 * 1000000) (show 0 < 500 - p.rate by omega)
  rw [hq] at h1
  rw [Int.mul_add, Int.mul_one]
  omega
 have hq0 : 0 ≤ q := by rw [← hq]; exact Int.ediv_nonneg (by omega) (by omega)
 have hk2 : 2 ≤ k := by
  rcases Nat.lt_or_ge k 2 with h | h
  ·have : (k : Int) * p.step ≤ 1 * p.step := Int.mul_le_mul_of_nonneg_right (by omega) (by omega)
   omega
  ·exact h
 have m1 : (k : Int) * p.step ≤ 4200 * 1000000000 := Int.mul_le_mul (by omega) b5.2 (by omega) (by omega)
 refine CvJ.near P hJ hk2 (by omega) ?_
 have e1 : 500 * ((k : Int) * p.step - 2 * p.step) - ((k : Int) * (p.rate * p.step) - 2 * (p.rate * p.step)) = (500 - p.rate) * ((k : Int) * p.step - 2 * p.step) := by
  rw [Int.sub_mul, Int.mul_sub p.rate, Int.mul_left_comm p.rate (k : Int), Int.mul_left_comm p.rate 2]
 rw [e1]
 have e2 : (500 - p.rate) * (q + 1) ≤ (500 - p.rate) * ((k : Int) * p.step - 2 * p.step) := Int.mul_le_mul_of_nonneg_left (by omega) (by omega)
 omega
structure CvAt (w : World) (p3 g : Nat) (bv : Array Value) (n : Nat) (J : Nat → Wm → Prop) (wx : World) : Prop where
 ex : ∃ (Ws : List Wm) (ea oa : Option Addr) (ec oc : Nat) (ge go : Option Nat) (u2 u3 u4 : Value), Blk wx g 41 #[.slice ea n ec, .slice oa n oc, u2, u3, u4] ∧ Ws.length = n ∧ (∀ (k : Nat) W, Ws[k]? = some W → J (k + 1) W) ∧ Owns wx 42 1 (.slice ea n ec) ge (List.replicate n okc) ∧ Owns wx 2 1 (.slice oa n oc) go (Ws.map offc)
 b3 : Blk wx p3 32 bv
 c : Chg (fun _ => False) w wx
section
variable {w v5 : World} {p3 g s4 n : Nat} {bv : Array Value} {J : Nat → Wm → Prop} {Ws : List Wm} {ea oa : Option Addr} {ec oc : Nat} {ge go : Option Nat} {u2 u3 u4 : Value}
theorem cvNew (h3 : p3 < s4) (b3 : Blk v5 p3 32 bv) (E : Owns v5 42 1 (.slice ea n ec) ge (List.replicate n okc)) (O : Owns v5 2 1 (.slice oa n oc) go (Ws.map offc)) (hl : Ws.length = n) (hJ : ∀ (k : Nat) W, Ws[k]? = some W → J (k + 1) W) (c : Chg (fun _ => False) w v5) :
  CvAt w p3 v5.heap.size bv n J (v5.alloc (Obj.cells #[.slice ea n ec, .slice oa n oc, u2, u3, u4] 41)) :=
 have ca := chg0_alloc v5 (Obj.cells #[.slice ea n ec, .slice oa n oc, u2, u3, u4] 41)
 ⟨⟨Ws, ea, oa, ec, oc, ge, go, u2, u3, u4, Blk.new _ _ _, hl, hJ, E.chg ca (fun _ _ h => h), O.chg ca (fun _ _ h => h)⟩, b3.chg ca (fun h => h), c.trans ca⟩
theorem cvMk {a0 a1 a2 a3 a4 : Value} (N : Blk v5 g 41 #[a0, a1, a2, a3, a4]) (hg : s4 ≤ g) (hw : w.heap.size ≤ s4) (h3 : p3 < s4) (b3 : Blk v5 p3 32 bv) (E : Owns v5 42 1 (.slice ea n ec) ge (List.replicate n okc)) (O : Owns v5 2 1 (.slice oa n oc) go (Ws.map offc)) (hl : Ws.length = n) (hJ : ∀ (k : Nat) W, Ws[k]? = some W → J (k + 1) W) (c : Chg (fun _ => False) w v5) :
  CvAt w p3 g bv n J (((((v5.setCell ⟨g, 0, none⟩ (.slice ea n ec)).setCell ⟨g, 1, none⟩ (.slice oa n oc)).setCell ⟨g, 2, none⟩ u2).setCell ⟨g, 3, none⟩ u3).setCell ⟨g, 4, none⟩ u4) := by
 have B := ((((N.set_ 0 (.slice ea n ec)).set_ 1 (.slice oa n oc)).set_ 2 u2).set_ 3 u3).set_ 4 u4
 have ca : Chg (fun i => i = g) v5 (((((v5.setCell ⟨g, 0, none⟩ (.slice ea n ec)).setCell ⟨g, 1, none⟩ (.slice oa n oc)).setCell ⟨g, 2, none⟩ u2).setCell ⟨g, 3, none⟩ u3).setCell ⟨g, 4, none⟩ u4) :=
  (((((Chg.refl (fun i => i = g) v5).setCell (p := ⟨g, 0, none⟩) (fun _ => rfl) _).setCell (p := ⟨g, 1, none⟩) (fun _ => rfl) _).setCell (p := ⟨g, 2, none⟩) (fun _ => rfl) _).setCell (p := ⟨g, 3, none⟩) (fun _ => rfl) _).setCell (p := ⟨g, 4, none⟩) (fun _ => rfl) _
 refine ⟨⟨Ws, ea, oa, ec, oc, ge, go, u2, u3, u4, by simpa using B, hl, hJ, E.chg ca (fun k hk e => ?_), O.chg ca (fun k hk e => ?_)⟩, b3.chg ca (fun e => by have h0 : p3 = g := e; omega), c.trans' ca (fun i hi e => by have h0 : i = g := e; omega)⟩
 ·obtain ⟨_, h'⟩ := E.blk hk
  rw [show k = g from e] at h'
  exact absurd (blk_typ h' N) (by decide)
 ·obtain ⟨_, h'⟩ := O.blk hk
  rw [show k = g from e] at h'
  exact absurd (blk_typ h' N) (by decide)
end
end
section
open Go Go.RowKit Go.Chron
theorem converges3 {n0 : Nat} {w : World} (hl : Laid n0 w) (hT : Told n0 w) (p : Pth) (o : p.Ok) (a : Option Addr) (cap : Nat) (hR : Reads w 2 a (p.wx.map fun x => [.int .u32 x.1, .int .u32 x.2])) (hcap : p.wx.length ≤ cap) (hcm : cap ≤ 9223372036854775807) :
  Calls Tryz.prog 3 #[.agg (pthc p a cap)] w fun e w' => e = .returned (.bool true) ∧ Chg (fun _ => False) w w' := by
 have HLA := Lib.hid hl
 have HTO := Lib.hid hT
 have HO := Lib.hid o
 have hb := Pth.bounds o
 obtain ⟨-, -, -, hb4, hb5, hb6⟩ := hb
 have HB8 := Lib.hid (fun W' (hW : Chg (fun _ => False) w W') => build8 p o a cap W' (hR.chg hW (fun _ _ h => h)) hcap hcm)
 have A1 := Blk.new w 26 (pthc p a cap)
 have c1 := chg0_alloc w (Obj.cells (pthc p a cap) 26)
 clear hl hT hR hcap hcm o
 unfold pthc at *
 obtain ⟨p1, hp1⟩ : ∃ p, p = w.heap.size := ⟨_, rfl⟩
 rw [← hp1] at A1
 have HP1 := Lib.hid hp1
 clear hp1
 go_enter Tryz.func3, Tryz.ntmps3
 go_upto_region 1 with (fail)
 rw [← HP1.out]
 generalize w.alloc (Obj.cells #[.int .u8 p.sv, .int .u8 p.li, .int .u8 p.qu, .int .u8 p.mo, .int .u8 p.ra, .int .u8 p.wa, .int .u32 p.st, .int .i32 p.off, .slice a p.wx.length cap, .int .u64 p.lie] 26) = wa at *
 have k0 := A1.cell 0
 have k1 := A1.cell 1
 have k2 := A1.cell 2
 have k3 := A1.cell 3
 have k4 := A1.cell 4
 have k5 := A1.cell 5
 have k6 := A1.cell 6
 have k7 := A1.cell 7
 have k8 := A1.cell 8
 have k9 := A1.cell 9
 simp at k0 k1 k2 k3 k4 k5 k6 k7 k8 k9
 have HA1 := Lib.hid (And.intro A1 c1)
 clear A1 c1
 go_wp2_with fail
 refine (HB8.out _ HA1.out.2).mono ?_
 rintro e w2 ⟨sa, sc, sg, va, vc, vg, rfl, O3, O97, c2⟩
 have HO2 := Lib.hid (And.intro O3 (And.intro O97 c2))
 clear O3 O97 c2 HB8
 go_upto_region 2 with (fail)
 have A3 := Blk.new w2 32 #[.slice sa p.n.toNat sc, .int .i64 p.quo, .int .i64 4, .int .i64 p.most, .int .i64 2000, .int .i64 500, .slice va p.n.toNat vc, .int .i64 p.step, .int .i64 p.rate, .int .i64 (50000000 + p.step)]
 have c3 := chg0_alloc w2 (Obj.cells #[.slice sa p.n.toNat sc, .int .i64 p.quo, .int .i64 4, .int .i64 p.most, .int .i64 2000, .int .i64 500, .slice va p.n.toNat vc, .int .i64 p.step, .int .i64 p.rate, .int .i64 (50000000 + p.step)] 32)
 obtain ⟨p3, hp3⟩ : ∃ p, p = w2.heap.size := ⟨_, rfl⟩
 rw [← hp3] at A3
 rw [← hp3]
 have s3 : (w2.alloc (Obj.cells #[.slice sa p.n.toNat sc, .int .i64 p.quo, .int .i64 4, .int .i64 p.most, .int .i64 2000, .int .i64 500, .slice va p.n.toNat vc, .int .i64 p.step, .int .i64 p.rate, .int .i64 (50000000 + p.step)] 32)).heap.size = p3 + 1 := by simp [hp3]
 generalize w2.alloc (Obj.cells #[.slice sa p.n.toNat sc, .int .i64 p.quo, .int .i64 4, .int .i64 p.most, .int .i64 2000, .int .i64 500, .slice va p.n.toNat vc, .int .i64 p.step, .int .i64 p.rate, .int .i64 (50000000 + p.step)] 32) = w3 at *
 have h3 : w.heap.size ≤ p3 := by rw [hp3]; have h1 := HA1.out.2.size; have h2 := HO2.out.2.2.size; omega
 have HA3 := Lib.hid (And.intro A3 (And.intro c3 (And.intro s3 h3)))
 have j0 := A3.cell 0
 have j1 := A3.cell 1
 have j2 := A3.cell 2
 have j3 := A3.cell 3
 have j4 := A3.cell 4
 have j5 := A3.cell 5
 have j6 := A3.cell 6
 have j7 := A3.cell 7
 have j8 := A3.cell 8
 have j9 := A3.cell 9
 simp at j0 j1 j2 j3 j4 j5 j6 j7 j8 j9
 have x0 := (HA1.out.1.chg HO2.out.2.2 (fun h => h)).chg c3 (fun h => h)
 have HX0 := Lib.hid x0
 clear hp3 A3 c3 s3 h3 k0 k1 k2 k3 k4 k5 k6 k7 k8 k9 x0
 have HPR := Lib.hid (fun W' (hW : Chg (fun _ => False) w2 W') => print9 p.cfg (path_small HO.out) sa sc W' ((owns_slice HO2.out.1).2.2.2.chg hW (fun _ _ h => h)) (by
  show (Pth.srv p.n.toNat).length ≤ sc
  rw [Pth.srv_len]
  exact (owns_slice HO2.out.1).2.1))
 have hcv : cfgv (.slice sa p.cfg.servers.length sc) p.cfg = .agg #[.slice sa p.n.toNat sc, .int .i64 p.quo, .int .i64 4, .int .i64 p.most, .int .i64 2000, .int .i64 500] := by
  rw [show p.cfg.servers.length = p.n.toNat from Pth.srv_len _]; rfl
 rw [hcv] at HPR
 obtain ⟨pt, hpt⟩ : ∃ pt, pt = (printI p.cfg).toArray := ⟨_, rfl⟩
 rw [← hpt] at HPR
 have HPT := Lib.hid hpt
 clear hpt hcv
 go_wp2_with fail
 refine (HPR.out _ (HA3.out.2.1.trans (by repeat (first | exact Chg.refl _ _ | exact (by assumption) | apply Chg.drewN | apply Chg.drew | apply Chg.alloc)))).mono ?_
 rintro e w4 ⟨rfl, c4⟩
 have HC4 := Lib.hid c4
 have cU : Chg (fun _ => False) w w4 := ((HA1.out.2.trans HO2.out.2.2).trans HA3.out.2.1).trans c4
 have HCU := Lib.hid cU
 have a3 := HA3.out.1.chg c4 (fun h => h)
 have a1 := HX0.out.chg c4 (fun h => h)
 have HA4 := Lib.hid (And.intro a3 a1)
 have j0 := a3.cell 0
 have j1 := a3.cell 1
 have j2 := a3.cell 2
 have j3 := a3.cell 3
 have j4 := a3.cell 4
 have j5 := a3.cell 5
 have j6 := a3.cell 6
 have j7 := a3.cell 7
 have j8 := a3.cell 8
 have j9 := a3.cell 9
 have k0 := a1.cell 0
 have k1 := a1.cell 1
 have k2 := a1.cell 2
 have k3 := a1.cell 3
 have k4 := a1.cell 4
 have k5 := a1.cell 5
 have k6 := a1.cell 6
 have k7 := a1.cell 7
 have k8 := a1.cell 8
 have k9 := a1.cell 9
 simp at j0 j1 j2 j3 j4 j5 j6 j7 j8 j9 k0 k1 k2 k3 k4 k5 k6 k7 k8 k9
 clear a3 a1 cU c4 HPR
 have HOF := Lib.hid HO.out.off
 obtain ⟨o0, ho0⟩ : ∃ o0, p.off.tmod 120000000 = o0 := ⟨_, rfl⟩
 have hob : -120000000 ≤ o0 ∧ o0 ≤ 120000000 := by
  have h1 := HO.out.off
  rw [← ho0]
  by_cases hs : 0 ≤ p.off
  ·rw [Int.tmod_eq_emod_of_nonneg hs]; omega
  ·have : p.off.tmod 120000000 = -((-p.off).tmod 120000000) := by rw [Int.neg_tmod, Int.neg_neg]
   rw [this, Int.tmod_eq_emod_of_nonneg (by omega)]
   omega
 have hwo : IntKind.i64.wrap p.off = p.off := wrap_id (by have := HO.out.off; omega)
 obtain ⟨tk, htk⟩ : ∃ tk, tk = 50000000 + p.step := ⟨_, rfl⟩
 rw [← htk] at j9
 have hw1 : IntKind.i64.wrap (2 * p.most) = 2 * p.most := wrap_id (by omega)
 have hw2 : IntKind.i64.wrap (2 * p.most * 1000000000) = 2 * p.most * 1000000000 := wrap_id (by omega)
 obtain ⟨see, hsee⟩ : ∃ see, see = 2 * p.most * 1000000000 + tk := ⟨_, rfl⟩
 have hw3 : IntKind.i64.wrap (2 * p.most * 1000000000 + tk) = see := by rw [hsee]; exact wrap_id (by omega)
 have HAB := Lib.hid (abs10 o0 ⟨by omega, by omega⟩)
 obtain ⟨s0, hs0⟩ : ∃ s0, s0 = satAbs o0 := ⟨_, rfl⟩
 rw [← hs0] at HAB
 have hsb : -s0 ≤ o0 ∧ o0 ≤ s0 ∧ s0 ≤ 120000000 := by
  have : satSub 0 o0 = -o0 := by unfold satSub; rw [if_neg (by omega), if_neg (by omega)]; omega
  rw [hs0]
  unfold satAbs
  rw [this]
  omega
 have hw4 : IntKind.i64.wrap (s0 * 1000000) = s0 * 1000000 := wrap_id (by omega)
 have hw5 : IntKind.i64.wrap (500 - p.rate) = 500 - p.rate := wrap_id (by omega)
 have hr0 : ¬ 500 - p.rate = 0 := by omega
 obtain ⟨qq, hqq⟩ : ∃ qq, (s0 * 1000000).tdiv (500 - p.rate) = qq := ⟨_, rfl⟩
 have hqe : s0 * 1000000 / (500 - p.rate) = qq := by rw [← hqq, Int.tdiv_eq_ediv_of_nonneg (by omega)]
 have hqb : 0 ≤ qq ∧ qq ≤ 120000000000000 := by
  rw [← hqe]
  exact ⟨Int.ediv_nonneg (by omega) (by omega), Int.le_trans (Int.ediv_le_self _ (by omega)) (by omega)⟩
 obtain ⟨wt0, hwt0⟩ : ∃ x, x = see + qq + 1 := ⟨_, rfl⟩
 have hw6 : IntKind.i64.wrap (see + qq) = see + qq := wrap_id (by omega)
 have hw7 : IntKind.i64.wrap (see + qq + 1) = wt0 := by rw [hwt0]; exact wrap_id (by omega)
 have hst0 : ¬ p.step = 0 := by omega
 obtain ⟨nq, hnq⟩ : ∃ nq : Int, wt0.tdiv p.step = nq := ⟨_, rfl⟩
 have hnb : 0 ≤ nq ∧ nq ≤ 200000000000000 := by
  rw [← hnq, Int.tdiv_eq_ediv_of_nonneg (by omega)]
  exact ⟨Int.ediv_nonneg (by omega) (by omega), Int.le_trans (Int.ediv_le_self _ (by omega)) (by omega)⟩
 have hw8 : IntKind.i64.wrap nq = nq := wrap_id (by omega)
 obtain ⟨n, hn⟩ : ∃ n : Nat, (n : Int) = nq + 60 := ⟨(nq + 60).toNat, by omega⟩
 have hw9 : IntKind.i64.wrap (nq + 60) = (n : Int) := by rw [hn]; exact wrap_id (by omega)
 have HSB := Lib.hid (And.intro hsb (And.intro hqe (And.intro hwt0 (And.intro hsee (And.intro htk hqb)))))
 have htb : 150000000 ≤ tk ∧ tk ≤ 1050000000 := by omega
 have hseb : 8000000000 ≤ see ∧ see ≤ 18000000000 := by omega
 have hwtb : 0 ≤ wt0 ∧ wt0 ≤ 200000000000000 := by omega
 have HN60 := Lib.hid hn
 clear hn hs0 hwt0 hsee hqe htk
 go_wp2_with fail
 refine HAB.out _ |>.mono ?_
 rintro e wt ⟨rfl, hwt⟩
 rw [← hwt]
 clear hwt wt
 go_upto_region 9 with (fail)
 by_cases h42 : (4200 : Int) < n
 ·have HAL := Lib.hid (alive11 (HLA.out.chg0 HCU.out) (HTO.out.chg0 HCU.out))
  go_wp2_with (go_at_call 11; refine HAL.out.mono ?_; rintro e w9 ⟨rfl, c9⟩)
  go_ret
  exact ⟨rfl, HCU.out.trans c9⟩
 ·have hn42 : n ≤ 4200 := by omega
  have b3 := HA4.out.1
  rw [← HSB.out.2.2.2.2.1] at b3
  have HA5 := Lib.hid b3
  clear b3
  have hwn2 : IntKind.i64.wrap (1000000000000 - o0) = 1000000000000 - o0 := wrap_id (by omega)
  have HSP := Lib.hid (fun W' => steps13 p.sv p.li p.qu p.mo p.ra p.wa p.st p.off p.lie p.quo 4 p.most 2000 500 p.step p.rate tk (p.step * p.rate / 1000000) a sa va p.wx.length cap p.n.toNat sc p.n.toNat vc n HO.out.wa hb5 hb6 rfl (by omega) W')
  have HRN := Lib.hid (fun (W' : World) (ssa : Option Addr) (ssc : Nat) (hW : Chg (fun _ => False) w4 W') (hr : Reads W' 3 ssa ((psteps p.step (p.step * p.rate / 1000000) p.wa n).map stpc)) (hc : n ≤ ssc) => run12 (PJ p o0 s0) (psteps p.step (p.step * p.rate / 1000000) p.wa n) 5 (path_goes HO.out HSB.out.1 hn42) (printI p.cfg) p.cfg (path_len HO.out) (path_parse HO.out) 1000000000000 0 (1000000000000 - o0) p.rate (by omega) (by omega) (by omega) (by omega) (p.ways p.n.toNat) va vc
   (fun y hy => (path_crew HO.out).ok y hy) (by rw [Pth.ways_len]; exact (Pth.srv_len _).symm) (cv_new (path_cvp HO.out HSB.out.1)) W' ((((owns_slice HO2.out.2.1).2.2.2.chg HA3.out.2.1 (fun _ _ h => h)).chg HC4.out (fun _ _ h => h)).chg hW (fun _ _ h => h))
   (by rw [Pth.ways_len]; exact (owns_slice HO2.out.2.1).2.2.1) (by rw [Pth.ways_len]; exact (owns_slice HO2.out.2.1).2.1) ssa ssc hr (by rw [psteps_len]; exact hc) n0 ((HLA.out.chg0 HCU.out).chg0 hW) ((HTO.out.chg0 HCU.out).chg0 hW))
  unfold strv at HRN
  rw [psteps_len, Pth.ways_len, ← HPT.out] at HRN
  have HS11 := Lib.hid (fun W' (hW : Chg (fun _ => False) w4 W') => (⟨hW.keep k0 (fun h => h), hW.keep k1 (fun h => h), hW.keep k2 (fun h => h), hW.keep k3 (fun h => h), hW.keep k4 (fun h => h), hW.keep k5 (fun h => h), hW.keep k6 (fun h => h), hW.keep k7 (fun h => h), hW.keep k8 (fun h => h), hW.keep k9 (fun h => h), hW.keep j0 (fun h => h), hW.keep j1 (fun h => h), hW.keep j2 (fun h => h), hW.keep j3 (fun h => h), hW.keep j4 (fun h => h), hW.keep j5 (fun h => h), hW.keep j6 (fun h => h), hW.keep j7 (fun h => h), hW.keep j8 (fun h => h), hW.keep j9 (fun h => h)⟩ : W'.cell? ⟨p1, 0, none⟩ = some (.int .u8 p.sv) ∧ W'.cell? ⟨p1, 1, none⟩ = some (.int .u8 p.li) ∧ W'.cell? ⟨p1, 2, none⟩ = some (.int .u8 p.qu) ∧ W'.cell? ⟨p1, 3, none⟩ = some (.int .u8 p.mo) ∧ W'.cell? ⟨p1, 4, none⟩ = some (.int .u8 p.ra) ∧ W'.cell? ⟨p1, 5, none⟩ = some (.int .u8 p.wa) ∧ W'.cell? ⟨p1, 6, none⟩ = some (.int .u32 p.st) ∧ W'.cell? ⟨p1, 7, none⟩ = some (.int .i32 p.off) ∧ W'.cell? ⟨p1, 8, none⟩ = some (.slice a p.wx.length cap) ∧ W'.cell? ⟨p1, 9, none⟩ = some (.int .u64 p.lie) ∧ W'.cell? ⟨p3, 0, none⟩ = some (.slice sa p.n.toNat sc) ∧ W'.cell? ⟨p3, 1, none⟩ = some (.int .i64 p.quo) ∧ W'.cell? ⟨p3, 2, none⟩ = some (.int .i64 4) ∧ W'.cell? ⟨p3, 3, none⟩ = some (.int .i64 p.most) ∧ W'.cell? ⟨p3, 4, none⟩ = some (.int .i64 2000) ∧ W'.cell? ⟨p3, 5, none⟩ = some (.int .i64 500) ∧ W'.cell? ⟨p3, 6, none⟩ = some (.slice va p.n.toNat vc) ∧ W'.cell? ⟨p3, 7, none⟩ = some (.int .i64 p.step) ∧ W'.cell? ⟨p3, 8, none⟩ = some (.int .i64 p.rate) ∧ W'.cell? ⟨p3, 9, none⟩ = some (.int .i64 tk)))
  go_upto_region 11 with (fail)
  go_cut [11, 12, 13] (fun s11 s12 s13 wx => ∃ p11, s11 = .pointer (some ⟨p11, 0, none⟩) ∧ s12 = .int .i64 0 ∧ s13 = .int .i64 0 ∧ CvAt w p3 p11 #[.slice sa p.n.toNat sc, .int .i64 p.quo, .int .i64 4, .int .i64 p.most, .int .i64 2000, .int .i64 500, .slice va p.n.toNat vc, .int .i64 p.step, .int .i64 p.rate, .int .i64 tk] n (PJ p o0 s0) wx)
  case first =>
   refine wp_region_noPanic ?_
   refine wp_region_till (s := 21) (S := fun w' => w'.cell? ⟨p1, 0, none⟩ = some (.int .u8 p.sv) ∧ w'.cell? ⟨p1, 1, none⟩ = some (.int .u8 p.li) ∧ w'.cell? ⟨p1, 2, none⟩ = some (.int .u8 p.qu) ∧ w'.cell? ⟨p1, 3, none⟩ = some (.int .u8 p.mo) ∧ w'.cell? ⟨p1, 4, none⟩ = some (.int .u8 p.ra) ∧ w'.cell? ⟨p1, 5, none⟩ = some (.int .u8 p.wa) ∧ w'.cell? ⟨p1, 6, none⟩ = some (.int .u32 p.st) ∧ w'.cell? ⟨p1, 7, none⟩ = some (.int .i32 p.off) ∧ w'.cell? ⟨p1, 8, none⟩ = some (.slice a p.wx.length cap) ∧ w'.cell? ⟨p1, 9, none⟩ = some (.int .u64 p.lie) ∧ w'.cell? ⟨p3, 0, none⟩ = some (.slice sa p.n.toNat sc) ∧ w'.cell? ⟨p3, 1, none⟩ = some (.int .i64 p.quo) ∧ w'.cell? ⟨p3, 2, none⟩ = some (.int .i64 4) ∧ w'.cell? ⟨p3, 3, none⟩ = some (.int .i64 p.most) ∧ w'.cell? ⟨p3, 4, none⟩ = some (.int .i64 2000) ∧ w'.cell? ⟨p3, 5, none⟩ = some (.int .i64 500) ∧ w'.cell? ⟨p3, 6, none⟩ = some (.slice va p.n.toNat vc) ∧ w'.cell? ⟨p3, 7, none⟩ = some (.int .i64 p.step) ∧ w'.cell? ⟨p3, 8, none⟩ = some (.int .i64 p.rate) ∧ w'.cell? ⟨p3, 9, none⟩ = some (.int .i64 tk)) (by kernel_rfl) ?_
   have hHeld := HS11.out w4.drew (Chg.drew (Chg.refl _ _))
   refine wP 0 54 _ (fun _ => hHeld) ?_
   refine wP 1 55 _ (fun _ => hHeld) ?_
   refine wP 2 56 _ (fun _ => hHeld) ?_
   refine wP 3 57 _ (fun _ => hHeld) ?_
   refine wP 4 58 _ (fun _ => hHeld) ?_
   refine wP 5 59 _ (fun _ => hHeld) ?_
   refine wP 6 60 _ (fun _ => hHeld) ?_
   refine wL 7 61 _ (fun _ => hHeld) ?_
   refine wP 8 62 _ (fun _ => hHeld) ?_
   refine wL 9 63 _ (fun _ => hHeld) ?_
   refine wL 10 64 _ (fun _ => hHeld) ?_
   refine wL 11 65 _ (fun _ => hHeld) ?_
   refine wP 12 66 _ (fun _ => hHeld) ?_
   refine wpTill_more [13, 20] (by kernel_rfl) (by simp) (TillAll.cons (i := 13) (oi := ⟨some 67, _, _, _, _, _⟩) rfl (fun KK hKK => ?_) (TillAll.cons (i := 20) (oi := ⟨some 11, _, _, _, _, _⟩) rfl (fun KK hKK => ?_) TillAll.nil))
   ·go_simp
    refine (HSP.out _).mono ?_
    rintro e v3 ⟨v6, sg6, rfl, OS, hsg, c6⟩
    have c6' : Chg (fun _ => False) w4 v3 := Chg.trans kC c6
    obtain ⟨ssa, ssc, hv6⟩ : ∃ ssa ssc, v6 = .slice ssa n ssc := by
     obtain ⟨a', cap', hv, _⟩ := OS.form
     rw [List.length_map, psteps_len] at hv
     exact ⟨_, _, hv⟩
    subst hv6
    have HRU := Lib.hid (fun W' (hW : Chg (fun _ => False) v3 W') => HRN.out W' ssa ssc (c6'.trans hW) ((owns_slice OS).2.2.2.chg hW (fun _ _ h => h)) (owns_slice OS).2.1)
    have HC6 := Lib.hid c6
    clear OS hsg c6
    refine hKK _ _ (andS (HS11.out _ kC) (fun hHeld' => ?_))
    clear hKK KK
    try simp only [Act.put, qA, qB, qC]
    refine wP 14 68 _ (fun _ => hHeld') ?_
    refine wpTill_more [15, 20] (by kernel_rfl) (by simp) (TillAll.cons (i := 15) (oi := ⟨some 69, _, _, _, _, _⟩) rfl (fun KK hKK => ?_) (TillAll.cons (i := 20) (oi := ⟨some 11, _, _, _, _, _⟩) rfl (fun KK hKK => ?_) TillAll.nil))
    ·go_simp
     refine (HRU.out _ kC).mono ?_
     rintro e v5 ⟨⟨Ws, Wl, ev, ov, ge, go, gl, la, lc, L, st, rfl, r1, r2, r3, r4, r5, -, -⟩, c7⟩
     rw [psteps_len] at r1 r4
     have c7' : Chg (fun _ => False) w4 v5 := Chg.trans kC c7
     obtain ⟨ea, ec, hev⟩ : ∃ ea ec, ev = .slice ea n ec := by
      obtain ⟨a', cap', hv, _⟩ := r4.form
      rw [List.length_replicate] at hv
      exact ⟨_, _, hv⟩
     obtain ⟨oa, oc, hov⟩ : ∃ oa oc, ov = .slice oa n oc := by
      obtain ⟨a', cap', hv, _⟩ := r5.form
      rw [List.length_map, r1] at hv
      exact ⟨_, _, hv⟩
     subst hev
     subst hov
     have HR5 := Lib.hid (And.intro r1 (And.intro r2 (And.intro r4 (And.intro r5 (And.intro c7' c7)))))
     clear r1 r2 r3 r4 r5 c7
     refine hKK _ _ (andS (HS11.out _ kC) (fun hHeld'' => ?_))
     clear hKK KK
     try simp only [Act.put, qA, qB, qC]
     refine wP 16 53 _ (fun _ => hHeld'') ?_
     refine wP 17 70 _ (fun _ => hHeld'') ?_
     refine wP 18 71 _ (fun _ => hHeld'') ?_
     refine wP 19 72 _ (fun _ => hHeld'') ?_
     refine wpTill_one (i := 20) (oi := ⟨some 11, _, _, _, _, _⟩) rfl (by kernel_rfl) (fun KK hKK => ?_)
     go_simp
     refine hKK _ _ (andS (HS11.out _ kC) (fun hHeld''' => ?_))
     clear hKK KK
     try simp only [Act.put, qA, qB, qC]
     refine wpTill_one (i := 21) (oi := ⟨none, _, _, _, _, _⟩) rfl (by kernel_rfl) (fun KK hKK => ?_)
     first | (have N11 := (((Blk.new w4 41 #[.slice none 0 0, .slice none 0 0, .slice none 0 0, .int .i64 0, .string ⟨#[]⟩]).drew.chg HC6.out (fun h => h)).chg HR5.out.2.2.2.2.2 (fun h => h))) | (have N11 := (Blk.new v3 41 #[.slice none 0 0, .slice none 0 0, .slice none 0 0, .int .i64 0, .string ⟨#[]⟩]).chg HR5.out.2.2.2.2.2 (fun h => h)) | (have N11 := Blk.new v5 41 #[.slice none 0 0, .slice none 0 0, .slice none 0 0, .int .i64 0, .string ⟨#[]⟩])
     have f0 := N11.frozen 0
     have f1 := N11.frozen 1
     have f2 := N11.frozen 2
     have f3 := N11.frozen 3
     have f4 := N11.frozen 4
     have y0 := N11.cell 0
     have y1 := N11.cell 1
     have y2 := N11.cell 2
     have y3 := N11.cell 3
     have y4 := N11.cell 4
     simp at y0 y1 y2 y3 y4
     have HN11 := Lib.hid N11
     clear N11
     go_simp
     refine hKK _ _ ⟨(fun h => (by simp at h)), ?_⟩
     clear hKK KK
     try simp only [Act.put, qA, qB, qC]
     refine wP 22 12 _ (fun h => (by simp at h)) ?_
     refine wP 23 13 _ (fun h => (by simp at h)) ?_
     refine wpTill_done (by kernel_rfl) ?_
     refine NoPanic.normal ?_
     clear f0 f1 f2 f3 f4 y0 y1 y2 y3 y4
     go_wp2_with fail
     go_meet
     first
      | exact ⟨_, rfl, rfl, rfl, cvNew HA5.out.lt (HA5.out.chg HR5.out.2.2.2.2.1 (fun h => h)) HR5.out.2.2.1 HR5.out.2.2.2.1 HR5.out.1 HR5.out.2.1 (HCU.out.trans HR5.out.2.2.2.2.1)⟩
      | exact ⟨_, rfl, rfl, rfl, cvMk HN11.out (Nat.le_refl _) HCU.out.size HA5.out.lt (HA5.out.chg HR5.out.2.2.2.2.1 (fun h => h)) HR5.out.2.2.1 HR5.out.2.2.2.1 HR5.out.1 HR5.out.2.1 (HCU.out.trans HR5.out.2.2.2.2.1)⟩
      | exact ⟨_, rfl, rfl, rfl, cvMk HN11.out c6'.size HCU.out.size HA5.out.lt (HA5.out.chg HR5.out.2.2.2.2.1 (fun h => h)) HR5.out.2.2.1 HR5.out.2.2.2.1 HR5.out.1 HR5.out.2.1 (HCU.out.trans HR5.out.2.2.2.2.1)⟩
    ·go_simp
     refine hKK _ _ (andS (HS11.out _ kC) (fun hHeld'' => ?_))
     clear hKK KK
     try simp only [Act.put, qA, qB, qC]
     refine wpTill_one (i := 15) (oi := ⟨some 69, _, _, _, _, _⟩) rfl (by kernel_rfl) (fun KK hKK => ?_)
     go_simp
     refine (HRU.out _ kC).mono ?_
     rintro e v5 ⟨⟨Ws, Wl, ev, ov, ge, go, gl, la, lc, L, st, rfl, r1, r2, r3, r4, r5, -, -⟩, c7⟩
     rw [psteps_len] at r1 r4
     have c7' : Chg (fun _ => False) w4 v5 := Chg.trans kC c7
     obtain ⟨ea, ec, hev⟩ : ∃ ea ec, ev = .slice ea n ec := by
      obtain ⟨a', cap', hv, _⟩ := r4.form
      rw [List.length_replicate] at hv
      exact ⟨_, _, hv⟩
     obtain ⟨oa, oc, hov⟩ : ∃ oa oc, ov = .slice oa n oc := by
      obtain ⟨a', cap', hv, _⟩ := r5.form
      rw [List.length_map, r1] at hv
      exact ⟨_, _, hv⟩
     subst hev
     subst hov
     have HR5 := Lib.hid (And.intro r1 (And.intro r2 (And.intro r4 (And.intro r5 (And.intro c7' c7)))))
     clear r1 r2 r3 r4 r5 c7
     refine hKK _ _ (andS (HS11.out _ kC) (fun hHeld''' => ?_))
     clear hKK KK
     try simp only [Act.put, qA, qB, qC]
     refine wP 16 53 _ (fun _ => hHeld''') ?_
     refine wP 17 70 _ (fun _ => hHeld''') ?_
     refine wP 18 71 _ (fun _ => hHeld''') ?_
     refine wP 19 72 _ (fun _ => hHeld''') ?_
     refine wpTill_one (i := 21) (oi := ⟨none, _, _, _, _, _⟩) rfl (by kernel_rfl) (fun KK hKK => ?_)
     first | (have N11 := (((Blk.new w4 41 #[.slice none 0 0, .slice none 0 0, .slice none 0 0, .int .i64 0, .string ⟨#[]⟩]).drew.chg HC6.out (fun h => h)).chg HR5.out.2.2.2.2.2 (fun h => h))) | (have N11 := (Blk.new v3 41 #[.slice none 0 0, .slice none 0 0, .slice none 0 0, .int .i64 0, .string ⟨#[]⟩]).chg HR5.out.2.2.2.2.2 (fun h => h)) | (have N11 := Blk.new v5 41 #[.slice none 0 0, .slice none 0 0, .slice none 0 0, .int .i64 0, .string ⟨#[]⟩])
     have f0 := N11.frozen 0
     have f1 := N11.frozen 1
     have f2 := N11.frozen 2
     have f3 := N11.frozen 3
     have f4 := N11.frozen 4
     have y0 := N11.cell 0
     have y1 := N11.cell 1
     have y2 := N11.cell 2
     have y3 := N11.cell 3
     have y4 := N11.cell 4
     simp at y0 y1 y2 y3 y4
     have HN11 := Lib.hid N11
     clear N11
     go_simp
     refine hKK _ _ ⟨(fun h => (by simp at h)), ?_⟩
     clear hKK KK
     try simp only [Act.put, qA, qB, qC]
     refine wP 22 12 _ (fun h => (by simp at h)) ?_
     refine wP 23 13 _ (fun h => (by simp at h)) ?_
     refine wpTill_done (by kernel_rfl) ?_
     refine NoPanic.normal ?_
     clear f0 f1 f2 f3 f4 y0 y1 y2 y3 y4
     go_wp2_with fail
     go_meet
     first
      | exact ⟨_, rfl, rfl, rfl, cvNew HA5.out.lt (HA5.out.chg HR5.out.2.2.2.2.1 (fun h => h)) HR5.out.2.2.1 HR5.out.2.2.2.1 HR5.out.1 HR5.out.2.1 (HCU.out.trans HR5.out.2.2.2.2.1)⟩
      | exact ⟨_, rfl, rfl, rfl, cvMk HN11.out (Nat.le_refl _) HCU.out.size HA5.out.lt (HA5.out.chg HR5.out.2.2.2.2.1 (fun h => h)) HR5.out.2.2.1 HR5.out.2.2.2.1 HR5.out.1 HR5.out.2.1 (HCU.out.trans HR5.out.2.2.2.2.1)⟩
      | exact ⟨_, rfl, rfl, rfl, cvMk HN11.out c6'.size HCU.out.size HA5.out.lt (HA5.out.chg HR5.out.2.2.2.2.1 (fun h => h)) HR5.out.2.2.1 HR5.out.2.2.2.1 HR5.out.1 HR5.out.2.1 (HCU.out.trans HR5.out.2.2.2.2.1)⟩
   ·go_simp
    refine hKK _ _ (andS (HS11.out _ kC) (fun hHeld' => ?_))
    clear hKK KK
    try simp only [Act.put, qA, qB, qC]
    refine wpTill_one (i := 13) (oi := ⟨some 67, _, _, _, _, _⟩) rfl (by kernel_rfl) (fun KK hKK => ?_)
    go_simp
    refine (HSP.out _).mono ?_
    rintro e v3 ⟨v6, sg6, rfl, OS, hsg, c6⟩
    have c6' : Chg (fun _ => False) w4 v3 := Chg.trans kC c6
    obtain ⟨ssa, ssc, hv6⟩ : ∃ ssa ssc, v6 = .slice ssa n ssc := by
     obtain ⟨a', cap', hv, _⟩ := OS.form
     rw [List.length_map, psteps_len] at hv
     exact ⟨_, _, hv⟩
    subst hv6
    have HRU := Lib.hid (fun W' (hW : Chg (fun _ => False) v3 W') => HRN.out W' ssa ssc (c6'.trans hW) ((owns_slice OS).2.2.2.chg hW (fun _ _ h => h)) (owns_slice OS).2.1)
    have HC6 := Lib.hid c6
    clear OS hsg c6
    refine hKK _ _ (andS (HS11.out _ kC) (fun hHeld'' => ?_))
    clear hKK KK
    try simp only [Act.put, qA, qB, qC]
    refine wP 14 68 _ (fun _ => hHeld'') ?_
    refine wpTill_one (i := 15) (oi := ⟨some 69, _, _, _, _, _⟩) rfl (by kernel_rfl) (fun KK hKK => ?_)
    go_simp
    refine (HRU.out _ kC).mono ?_
    rintro e v5 ⟨⟨Ws, Wl, ev, ov, ge, go, gl, la, lc, L, st, rfl, r1, r2, r3, r4, r5, -, -⟩, c7⟩
    rw [psteps_len] at r1 r4
    have c7' : Chg (fun _ => False) w4 v5 := Chg.trans kC c7
    obtain ⟨ea, ec, hev⟩ : ∃ ea ec, ev = .slice ea n ec := by
     obtain ⟨a', cap', hv, _⟩ := r4.form
     rw [List.length_replicate] at hv
     exact ⟨_, _, hv⟩
    obtain ⟨oa, oc, hov⟩ : ∃ oa oc, ov = .slice oa n oc := by
     obtain ⟨a', cap', hv, _⟩ := r5.form
     rw [List.length_map, r1] at hv
     exact ⟨_, _, hv⟩
    subst hev
    subst hov
    have HR5 := Lib.hid (And.intro r1 (And.intro r2 (And.intro r4 (And.intro r5 (And.intro c7' c7)))))
    clear r1 r2 r3 r4 r5 c7
    refine hKK _ _ (andS (HS11.out _ kC) (fun hHeld''' => ?_))
    clear hKK KK
    try simp only [Act.put, qA, qB, qC]
    refine wP 16 53 _ (fun _ => hHeld''') ?_
    refine wP 17 70 _ (fun _ => hHeld''') ?_
    refine wP 18 71 _ (fun _ => hHeld''') ?_
    refine wP 19 72 _ (fun _ => hHeld''') ?_
    refine wpTill_one (i := 21) (oi := ⟨none, _, _, _, _, _⟩) rfl (by kernel_rfl) (fun KK hKK => ?_)
    first | (have N11 := (((Blk.new w4 41 #[.slice none 0 0, .slice none 0 0, .slice none 0 0, .int .i64 0, .string ⟨#[]⟩]).drew.chg HC6.out (fun h => h)).chg HR5.out.2.2.2.2.2 (fun h => h))) | (have N11 := (Blk.new v3 41 #[.slice none 0 0, .slice none 0 0, .slice none 0 0, .int .i64 0, .string ⟨#[]⟩]).chg HR5.out.2.2.2.2.2 (fun h => h)) | (have N11 := Blk.new v5 41 #[.slice none 0 0, .slice none 0 0, .slice none 0 0, .int .i64 0, .string ⟨#[]⟩])
    have f0 := N11.frozen 0
    have f1 := N11.frozen 1
    have f2 := N11.frozen 2
    have f3 := N11.frozen 3
    have f4 := N11.frozen 4
    have y0 := N11.cell 0
    have y1 := N11.cell 1
    have y2 := N11.cell 2
    have y3 := N11.cell 3
    have y4 := N11.cell 4
    simp at y0 y1 y2 y3 y4
    have HN11 := Lib.hid N11
    clear N11
    go_simp
    refine hKK _ _ ⟨(fun h => (by simp at h)), ?_⟩
    clear hKK KK
    try simp only [Act.put, qA, qB, qC]
    refine wP 22 12 _ (fun h => (by simp at h)) ?_
    refine wP 23 13 _ (fun h => (by simp at h)) ?_
    refine wpTill_done (by kernel_rfl) ?_
    refine NoPanic.normal ?_
    clear f0 f1 f2 f3 f4 y0 y1 y2 y3 y4
    go_wp2_with fail
    go_meet
    first
     | exact ⟨_, rfl, rfl, rfl, cvNew HA5.out.lt (HA5.out.chg HR5.out.2.2.2.2.1 (fun h => h)) HR5.out.2.2.1 HR5.out.2.2.2.1 HR5.out.1 HR5.out.2.1 (HCU.out.trans HR5.out.2.2.2.2.1)⟩
     | exact ⟨_, rfl, rfl, rfl, cvMk HN11.out (Nat.le_refl _) HCU.out.size HA5.out.lt (HA5.out.chg HR5.out.2.2.2.2.1 (fun h => h)) HR5.out.2.2.1 HR5.out.2.2.2.1 HR5.out.1 HR5.out.2.1 (HCU.out.trans HR5.out.2.2.2.2.1)⟩
     | exact ⟨_, rfl, rfl, rfl, cvMk HN11.out c6'.size HCU.out.size HA5.out.lt (HA5.out.chg HR5.out.2.2.2.2.1 (fun h => h)) HR5.out.2.2.1 HR5.out.2.2.2.1 HR5.out.1 HR5.out.2.1 (HCU.out.trans HR5.out.2.2.2.2.1)⟩
  case rest =>
   obtain ⟨p11, rfl, rfl, rfl, ⟨Ws, ea, oa, ec, oc, ge, go, u2, u3, u4, N11, r1, r2, E, O⟩, b3, cw⟩ := hcut
   have y0 := N11.cell 0
   have y1 := N11.cell 1
   have m7 := b3.cell 7
   have m8 := b3.cell 8
   have m9 := b3.cell 9
   simp at y0 y1 m7 m8 m9
   have hE := owns_slice E
   have hO := owns_slice O
   have HEO := Lib.hid (And.intro E (And.intro O (And.intro r1 (And.intro r2 (And.intro cw (And.intro hE hO))))))
   have hec : n ≤ ec := hE.2.1
   have hoc : n ≤ oc := hO.2.1
   clear N11 r1 r2 E O b3 cw hE hO HSP HRN HS11 HA5 HA4 HX0 HA3 HA1 HO2 HC4 HPT k0 k1 k2 k3 k4 k5 k6 k7 k8 k9 j0 j1 j2 j3 j4 j5 j6 j7 j8 j9
   obtain ⟨K1, hK1⟩ : ∃ K1, tk.tdiv 2 = K1 := ⟨_, rfl⟩
   have hK1b : K1 * 2 ≤ tk ∧ tk ≤ K1 * 2 + 1 := by rw [← hK1, Int.tdiv_eq_ediv_of_nonneg (by omega)]; omega
   have hK1w : IntKind.i64.wrap K1 = K1 := wrap_id (by omega)
   obtain ⟨A1, hA1⟩ : ∃ x, IntKind.i64.wrap (K1 + 1) = x := ⟨_, rfl⟩
   have a1 := hA1
   rw [wrap_id (by omega)] at a1
   obtain ⟨A2, hA2⟩ : ∃ x, IntKind.i64.wrap (A1 + 400) = x := ⟨_, rfl⟩
   have a2 := hA2
   rw [wrap_id (by omega)] at a2
   obtain ⟨B1, hB1⟩ : ∃ x, IntKind.i64.wrap (p.rate + 500) = x := ⟨_, rfl⟩
   have b1 := hB1
   rw [wrap_id (by omega)] at b1
   obtain ⟨B2, hB2⟩ : ∃ x, IntKind.i64.wrap (2 * B1) = x := ⟨_, rfl⟩
   have b2 := hB2
   rw [wrap_id (by omega)] at b2
   have hX1b : 0 ≤ B2 * tk ∧ B2 * tk ≤ 1200 * 1050000000 := ⟨Int.mul_nonneg (by omega) (by omega), Int.mul_le_mul (by omega) (by omega) (by omega) (by omega)⟩
   obtain ⟨X1, hX1⟩ : ∃ x, IntKind.i64.wrap (B2 * tk) = x := ⟨_, rfl⟩
   have x1 := hX1
   rw [wrap_id (by omega)] at x1
   obtain ⟨Y1, hY1⟩ : ∃ x, X1.tdiv 1000000 = x := ⟨_, rfl⟩
   have y1b : 0 ≤ Y1 ∧ Y1 ≤ 1260000 := by rw [← hY1, Int.tdiv_eq_ediv_of_nonneg (by omega)]; omega
   have hY1w : IntKind.i64.wrap Y1 = Y1 := wrap_id (by omega)
   obtain ⟨A3, hA3⟩ : ∃ x, IntKind.i64.wrap (A2 + Y1) = x := ⟨_, rfl⟩
   have a3 := hA3
   rw [wrap_id (by omega)] at a3
   obtain ⟨A4, hA4⟩ : ∃ x, IntKind.i64.wrap (A3 + 1) = x := ⟨_, rfl⟩
   have a4 := hA4
   rw [wrap_id (by omega)] at a4
   obtain ⟨C1, hC1⟩ : ∃ x, IntKind.i64.wrap (3 * p.rate) = x := ⟨_, rfl⟩
   have c1 := hC1
   rw [wrap_id (by omega)] at c1
   have hX2b : 0 ≤ C1 * see ∧ C1 * see ≤ 300 * 18000000000 := ⟨Int.mul_nonneg (by omega) (by omega), Int.mul_le_mul (by omega) (by omega) (by omega) (by omega)⟩
   obtain ⟨X2, hX2⟩ : ∃ x, IntKind.i64.wrap (C1 * see) = x := ⟨_, rfl⟩
   have x2 := hX2
   rw [wrap_id (by omega)] at x2
   obtain ⟨Y2, hY2⟩ : ∃ x, X2.tdiv 1000000 = x := ⟨_, rfl⟩
   have y2b : 0 ≤ Y2 ∧ Y2 ≤ 5400000 := by rw [← hY2, Int.tdiv_eq_ediv_of_nonneg (by omega)]; omega
   have hY2w : IntKind.i64.wrap Y2 = Y2 := wrap_id (by omega)
   obtain ⟨A5, hA5⟩ : ∃ x, IntKind.i64.wrap (A4 + Y2) = x := ⟨_, rfl⟩
   have a5 := hA5
   rw [wrap_id (by omega)] at a5
   obtain ⟨A6, hA6⟩ : ∃ x, IntKind.i64.wrap (A5 + 1) = x := ⟨_, rfl⟩
   have a6 := hA6
   rw [wrap_id (by omega)] at a6
   obtain ⟨M, hM⟩ : ∃ x, IntKind.i64.wrap (A6 + 32) = x := ⟨_, rfl⟩
   have a7 := hM
   rw [wrap_id (by omega)] at a7
   have hMb : tk ≤ 2 * M ∧ M ≤ 1000000000000 := by omega
   have hMn : IntKind.i64.wrap (-M) = -M := wrap_id (by omega)
   clear a1 a2 a3 a4 a5 a6 a7 b1 b2 c1 x1 x2 y1b y2b hX1b hX2b hK1b
   go_wp2_with fail
   go_loopw [116] (fun v116 wr => ∃ i : Nat, i ≤ n ∧ v116 = .int .i64 i ∧ Chg (fun _ => False) wc wr) (fun v116 _ => n - (intOf v116).toNat)
   case atStart => exact ⟨0, Nat.zero_le _, rfl, Chg.refl _ _⟩
   case round =>
    obtain ⟨i, hi, rfl, cr⟩ := hrel
    by_cases hin : i < n
    ·have hiI : (i : Int) < n := by omega
     have hi0 : (0 : Int) ≤ i := by omega
     have hiE : i < ec := by omega
     have hiO : i < oc := by omega
     obtain ⟨W, hW⟩ : ∃ W, Ws[i]? = some W := ⟨_, List.getElem?_eq_getElem (by rw [HEO.out.2.2.1]; exact hin)⟩
     obtain ⟨kb, of1, hsa, hcl⟩ := HEO.out.2.2.2.2.2.2.2.2.2 (by rw [List.length_map, HEO.out.2.2.1]; omega)
     subst hsa
     obtain ⟨kb2, of2, hsa2, hcl2⟩ := HEO.out.2.2.2.2.2.1.2.2.2 (by rw [List.length_replicate]; omega)
     subst hsa2
     have f0 := cr.keep (hcl i (offc W) (by rw [List.getElem?_map, hW]; rfl) 0 _ rfl) (fun h => h)
     have f1 := cr.keep (hcl2 i okc (by rw [List.getElem?_replicate, if_pos hin]) 0 _ rfl) (fun h => h)
     simp only [Nat.mul_one, Nat.add_zero] at f0 f1
     have HN := Lib.hid (fun hw => path_near HO.out HSB.out.1 (HEO.out.2.2.2.1 i W hW) (by omega) (see := see) (q := qq) (by omega) HSB.out.2.1 hw)
     have q0 := cr.keep y0 (fun h => h)
     have q1 := cr.keep m7 (fun h => h)
     obtain ⟨x, hx⟩ : ∃ x, x = W.off := ⟨_, rfl⟩
     rw [← hx] at f0 HN
     have hi1 : IntKind.i64.wrap ((i : Int) + 1) = (i : Int) + 1 := wrap_id (by omega)
     have hpsb : 0 ≤ ((i : Int) + 1) * p.step ∧ ((i : Int) + 1) * p.step ≤ 4200 * 1000000000 := ⟨Int.mul_nonneg (by omega) (by omega), Int.mul_le_mul (by omega) (by omega) (by omega) (by omega)⟩
     obtain ⟨ps, hps⟩ : ∃ ps, IntKind.i64.wrap (((i : Int) + 1) * p.step) = ps := ⟨_, rfl⟩
     have hpe := hps
     rw [wrap_id (by omega)] at hpe
     have HCR := Lib.hid cr
     clear hW hcl hcl2 hx cr
     by_cases hge : wt0 ≤ ps
     ·have hnr := HN.out (by
       rw [← HSB.out.2.2.1, show ((i + 1 : Nat) : Int) = (i : Int) + 1 by omega, hpe]
       exact hge)
      rw [← HSB.out.2.2.2.2.1] at hnr
      have hn1 : ¬ M < x := by omega
      have hn2 : ¬ x < -M := by omega
      clear hnr hpe hpsb
      go_wp2_with fail
      exact ⟨⟨i + 1, by omega, by simp, HCR.out⟩, by simp [intOf]; omega⟩
     ·have hlt : ¬ ps ≥ wt0 := hge
      clear hpe hpsb
      go_wp2_with fail
      exact ⟨⟨i + 1, by omega, by simp, HCR.out⟩, by simp [intOf]; omega⟩
    ·obtain rfl : i = n := by omega
     have cF := HEO.out.2.2.2.2.1.trans cr
     have HAL := Lib.hid (alive11 (HLA.out.chg0 cF) (HTO.out.chg0 cF))
     have HCF := Lib.hid cF
     clear cr cF
     go_wp2_with (go_at_call 11; refine HAL.out.mono ?_; rintro e w9 ⟨rfl, c9⟩)
     go_ret
     exact ⟨rfl, HCF.out.trans c9⟩
end
end Go.Proofs.YtamhicdhbjniiaaGreatDoor
