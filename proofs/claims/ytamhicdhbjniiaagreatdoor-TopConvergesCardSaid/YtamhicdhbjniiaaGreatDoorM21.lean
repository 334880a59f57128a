/- peer.Answer: contract. -/
import Derived.Test.YtamhicdhbjniiaaGreatDoorM16
import Derived.Test.YtamhicdhbjniiaaGreatDoorM19
import Derived.Deep.RegionWith
import Derived.BigRegion
set_option linter.unusedVariables false
set_option maxHeartbeats 1600000
set_option maxRecDepth 100000
namespace Go.Proofs.YtamhicdhbjniiaaGreatDoor
section
open Go Go.RowKit Go.Chron
theorem set4 {W : World} {g : Nat} {t : TypeId} {a0 a1 a2 a3 : Value} (D : Blk W g t #[a0, a1, a2, a3]) (u0 u1 u2 u3 : Value) :
  Blk ((((W.setCell ⟨g, 0, none⟩ u0).setCell ⟨g, 1, none⟩ u1).setCell ⟨g, 2, none⟩ u2).setCell ⟨g, 3, none⟩ u3) g t #[u0, u1, u2, u3] ∧ Chg (fun i => i = g) W ((((W.setCell ⟨g, 0, none⟩ u0).setCell ⟨g, 1, none⟩ u1).setCell ⟨g, 2, none⟩ u2).setCell ⟨g, 3, none⟩ u3) := by
 refine ⟨?_, ((((Chg.refl (fun i => i = g) W).setCell (p := ⟨g, 0, none⟩) (fun _ => rfl) u0).setCell (p := ⟨g, 1, none⟩) (fun _ => rfl) u1).setCell (p := ⟨g, 2, none⟩) (fun _ => rfl) u2).setCell (p := ⟨g, 3, none⟩) (fun _ => rfl) u3⟩
 have := (((D.set_ 0 u0).set_ 1 u1).set_ 2 u2).set_ 3 u3
 simpa using this
theorem beN_in8 (L : List Int) (p : Nat) (hL : ∀ x ∈ L, 0 ≤ x ∧ x < 256) : 0 ≤ beN ((L.drop p).take 8) ∧ beN ((L.drop p).take 8) < 18446744073709551616 := by
 have h := beN_lt ((L.drop p).take 8).length _ rfl (fun x hx => hL x (List.mem_of_mem_drop (List.mem_of_mem_take hx)))
 have h2 : (256 : Int) ^ ((L.drop p).take 8).length ≤ 256 ^ 8 := by
  have := Nat.pow_le_pow_right (n := 256) (by omega) (show ((L.drop p).take 8).length ≤ 8 by rw [List.length_take]; omega)
  exact_mod_cast this
 omega
theorem look_in (L : List Int) (c : Int) (hL : ∀ x ∈ L, 0 ≤ x ∧ x < 256) : (0 ≤ (lookOf L c).1.recv ∧ (lookOf L c).1.recv < 18446744073709551616) ∧ (0 ≤ (lookOf L c).1.xmit ∧ (lookOf L c).1.xmit < 18446744073709551616) := by
 unfold lookOf
 split
 ·exact ⟨⟨by decide, by decide⟩, by decide, by decide⟩
 ·simp only
  split
  ·exact ⟨beN_in8 L 32 hL, beN_in8 L 40 hL⟩
  ·exact ⟨⟨by decide, by decide⟩, by decide, by decide⟩
def AnsPost (w : World) (b k : Nat) (r : Pr × Sam × Int) (e : Ending) (w' : World) : Prop :=
 e = .returned (.tuple #[.agg (samCells r.2.1), .int .i64 r.2.2]) ∧ PeerAt w' b k r.1 ∧ Chg (fun i => i = b ∨ i = k) w w'
theorem ansNo133 (b k : Nat) (p : Pr) (h clock sl : Int) (v : Value) (w : World) (hp : PeerAt w b k p) (y : Int) (hy : (p.st = 2 ∧ y = 3) ∨ (p.st = 0 ∧ y = 4)) :
  Calls Tryz.prog 133 #[.pointer (some ⟨b, 0, none⟩), .int .i64 h, .int .i64 clock, .int .i64 sl, v] w (AnsPost w b k (p, ⟨0, 0, 0, 0⟩, y)) := by
 have P0 := hp.chg0 (chg0_alloc w (Obj.cells #[.int .i64 0, .int .i64 0, .int .i64 0, .int .i64 0] 223))
 have N0 := Blk.new w 223 #[.int .i64 0, .int .i64 0, .int .i64 0, .int .i64 0]
 have c0 := chg0_alloc w (Obj.cells #[.int .i64 0, .int .i64 0, .int .i64 0, .int .i64 0] 223)
 have x1 := P0.b.cell 1
 simp [prc] at x1
 have HP := Lib.hid P0
 clear P0 hp
 unfold AnsPost samCells
 simp only
 generalize hst : p.st = s at *
 rcases hy with ⟨rfl, rfl⟩ | ⟨rfl, rfl⟩
 ·go_enter Tryz.func133, Tryz.ntmps133
  go_upto_region 1 with (fail)
  generalize w.alloc (Obj.cells #[.int .i64 0, .int .i64 0, .int .i64 0, .int .i64 0] 223) = W0 at *
  generalize hg : w.heap.size = g at *
  have n0 := N0.cell 0
  have n1 := N0.cell 1
  have n2 := N0.cell 2
  have n3 := N0.cell 3
  simp at n0 n1 n2 n3
  have f0 := N0.frozen 0
  have f1 := N0.frozen 1
  have f2 := N0.frozen 2
  have f3 := N0.frozen 3
  go_wp2_with fail
  obtain ⟨E, e⟩ := set4 N0 (.int .i64 0) (.int .i64 0) (.int .i64 0) (.int .i64 0)
  have c2 := c0.trans' (S := fun _ => False) e (fun i hi e => by have h' : i = g := e; omega)
  have c3 := HP.out.chg e (fun h => by have := HP.out.b.lt; have h' : b = g := h; subst h'; exact absurd (blk_typ HP.out.b N0) (by decide)) (fun h => by have h' : k = g := h; subst h'; exact absurd (blk_typ HP.out.k N0) (by decide))
  have m0 := E.cell 0
  have m1 := E.cell 1
  have m2 := E.cell 2
  have m3 := E.cell 3
  simp at m0 m1 m2 m3
  refine bodyPost_ret (v := .tuple #[.agg #[.int .i64 0, .int .i64 0, .int .i64 0, .int .i64 0], .int .i64 3]) ?_ rfl ⟨rfl, c3, c2.mono (fun _ _ h => h.elim)⟩
  simp [results, Tryz.results133, go_sem, m0, m1, m2, m3]
 ·go_enter Tryz.func133, Tryz.ntmps133
  go_upto_region 1 with (fail)
  generalize w.alloc (Obj.cells #[.int .i64 0, .int .i64 0, .int .i64 0, .int .i64 0] 223) = W0 at *
  generalize hg : w.heap.size = g at *
  have n0 := N0.cell 0
  have n1 := N0.cell 1
  have n2 := N0.cell 2
  have n3 := N0.cell 3
  simp at n0 n1 n2 n3
  have f0 := N0.frozen 0
  have f1 := N0.frozen 1
  have f2 := N0.frozen 2
  have f3 := N0.frozen 3
  go_wp2_with fail
  obtain ⟨E, e⟩ := set4 N0 (.int .i64 0) (.int .i64 0) (.int .i64 0) (.int .i64 0)
  have c2 := c0.trans' (S := fun _ => False) e (fun i hi e => by have h' : i = g := e; omega)
  have c3 := HP.out.chg e (fun h => by have := HP.out.b.lt; have h' : b = g := h; subst h'; exact absurd (blk_typ HP.out.b N0) (by decide)) (fun h => by have h' : k = g := h; subst h'; exact absurd (blk_typ HP.out.k N0) (by decide))
  have m0 := E.cell 0
  have m1 := E.cell 1
  have m2 := E.cell 2
  have m3 := E.cell 3
  simp at m0 m1 m2 m3
  refine bodyPost_ret (v := .tuple #[.agg #[.int .i64 0, .int .i64 0, .int .i64 0, .int .i64 0], .int .i64 4]) ?_ rfl ⟨rfl, c3, c2.mono (fun _ _ h => h.elim)⟩
  simp [results, Tryz.results133, go_sem, m0, m1, m2, m3]
theorem AnsPost.of {w : World} {b k : Nat} {r r' : Pr × Sam × Int} (h : r = r') {e : Ending} {w' : World} (hh : AnsPost w b k r' e w') : AnsPost w b k r e w' := by rw [h]; exact hh
theorem answer133 (b k : Nat) (p : Pr) (h clock sl : Int) (a : Addr) (n cap : Nat) (L : List Int) (w : World) (hp : PeerAt w b k p) (hst : p.st = 1) (hh : 0 ≤ h ∧ h ≤ 4611686018427387903) (hcl : In64 clock) (hsl : In64 sl)
  (hn : n = L.length) (hc : n ≤ cap) (hcm : cap ≤ 9223372036854775807) (h48 : 48 ≤ n) (hL : ∀ x ∈ L, 0 ≤ x ∧ x < 256) (hR : Reads w 1 (some a) (L.map u8c)) :
  Calls Tryz.prog 133 #[.pointer (some ⟨b, 0, none⟩), .int .i64 h, .int .i64 clock, .int .i64 sl, .slice (some a) n cap] w (AnsPost w b k (p.answer h clock sl L)) := by
 have c0 := chg0_alloc w (Obj.cells #[.int .i64 0, .int .i64 0, .int .i64 0, .int .i64 0] 223)
 have P0 := hp.chg0 c0
 have N0 := Blk.new w 223 #[.int .i64 0, .int .i64 0, .int .i64 0, .int .i64 0]
 have HLK := Lib.hid (look24 a n cap L p.cookie hn hc hcm h48 hL (w.alloc (Obj.cells #[.int .i64 0, .int .i64 0, .int .i64 0, .int .i64 0] 223)) (hR.chg c0 (fun _ _ h => h)))
 have hq := look_in L p.cookie hL
 have hr : ∀ q z, lookOf L p.cookie = (q, z) → p.answer h clock sl L = if z = 8 then ({ p with st := 2 }, ⟨0, 0, 0, 0⟩, 8) else if z ≠ 0 then (p, ⟨0, 0, 0, 0⟩, z) else if p.isLate h then (p, ⟨0, 0, 0, 0⟩, 12)
   else (({ p with k := p.k.good } : Pr).rest p.k.good.now, ⟨makeO p.clock clock q.recv q.xmit, makeD p.clock clock q.recv q.xmit, h, sl⟩, 0) := by
  intro q z hz
  unfold Pr.answer
  rw [if_neg (by omega), if_neg (by omega), hz]
 generalize p.answer h clock sl L = r at *
 obtain ⟨q, z, hqz⟩ : ∃ q z, lookOf L p.cookie = (q, z) := ⟨_, _, rfl⟩
 have hr' := hr q z hqz
 rw [hqz] at HLK hq
 simp only at HLK hq
 obtain ⟨a0, a1, a2, a3, a4, a5, a6, a7, a8, a9, a10, a11, a12⟩ := q
 unfold pktv at HLK
 simp only at hq hr' HLK
 have HR := Lib.hid hr'
 have HP := Lib.hid P0
 have HLt := Lib.hid (late127 b k p h)
 have x1 := P0.b.cell 1
 have x6 := P0.b.cell 6
 simp [prc, hst] at x1 x6
 have hne1 : ∀ (W : World), Blk W b 218 (prc k p) → Blk W w.heap.size 223 #[.int .i64 0, .int .i64 0, .int .i64 0, .int .i64 0] → ¬ b = w.heap.size := fun W h1 h2 e => by rw [e] at h1; exact absurd (blk_typ h1 h2) (by decide)
 have hne2 : ∀ (W : World), Blk W k 275 (bkoc p.k) → Blk W w.heap.size 223 #[.int .i64 0, .int .i64 0, .int .i64 0, .int .i64 0] → ¬ k = w.heap.size := fun W h1 h2 e => by rw [e] at h1; exact absurd (blk_typ h1 h2) (by decide)
 have nb := hne1 _ P0.b N0
 have nk := hne2 _ P0.k N0
 clear hr hr' hqz hR hL hn hc hcm h48 hp P0 hne1 hne2
 go_enter Tryz.func133, Tryz.ntmps133
 go_upto_region 1 with (fail)
 generalize w.alloc (Obj.cells #[.int .i64 0, .int .i64 0, .int .i64 0, .int .i64 0] 223) = W0 at *
 generalize hg : w.heap.size = g at *
 go_wp2_with fail
 refine HLK.out.mono ?_
 rintro e w1 ⟨rfl, c1⟩
 have P2 := (HP.out.chg0 c1).chg0 (chg0_alloc w1 (Obj.cells #[Value.int .u8 a0, Value.int .u8 a1, Value.int .u8 a2, Value.int .u8 a3, Value.int .i8 a4, Value.int .i8 a5, Value.int .u32 a6, Value.int .u32 a7, Value.int .u32 a8, Value.int .u64 a9, Value.int .u64 a10, Value.int .u64 a11, Value.int .u64 a12] 83))
 have N2 := (N0.chg c1 (fun h => h)).alloc (Obj.cells #[Value.int .u8 a0, Value.int .u8 a1, Value.int .u8 a2, Value.int .u8 a3, Value.int .i8 a4, Value.int .i8 a5, Value.int .u32 a6, Value.int .u32 a7, Value.int .u32 a8, Value.int .u64 a9, Value.int .u64 a10, Value.int .u64 a11, Value.int .u64 a12] 83)
 have D2 := Blk.new w1 83 #[Value.int .u8 a0, Value.int .u8 a1, Value.int .u8 a2, Value.int .u8 a3, Value.int .i8 a4, Value.int .i8 a5, Value.int .u32 a6, Value.int .u32 a7, Value.int .u32 a8, Value.int .u64 a9, Value.int .u64 a10, Value.int .u64 a11, Value.int .u64 a12]
 have c2 := (c0.trans c1).alloc (Obj.cells #[Value.int .u8 a0, Value.int .u8 a1, Value.int .u8 a2, Value.int .u8 a3, Value.int .i8 a4, Value.int .i8 a5, Value.int .u32 a6, Value.int .u32 a7, Value.int .u32 a8, Value.int .u64 a9, Value.int .u64 a10, Value.int .u64 a11, Value.int .u64 a12] 83)
 clear c0 c1 x1 x6 N0 HLK
 go_upto_region 8 with (fail)
 generalize w1.alloc (Obj.cells #[Value.int .u8 a0, Value.int .u8 a1, Value.int .u8 a2, Value.int .u8 a3, Value.int .i8 a4, Value.int .i8 a5, Value.int .u32 a6, Value.int .u32 a7, Value.int .u32 a8, Value.int .u64 a9, Value.int .u64 a10, Value.int .u64 a11, Value.int .u64 a12] 83) = W2 at *
 generalize hgd : w1.heap.size = gd at *
 have n0 := N2.cell 0
 have n1 := N2.cell 1
 have n2 := N2.cell 2
 have n3 := N2.cell 3
 simp at n0 n1 n2 n3
 have f0 := N2.frozen 0
 have f1 := N2.frozen 1
 have f2 := N2.frozen 2
 have f3 := N2.frozen 3
 have HP2 := Lib.hid P2
 by_cases h8 : z = 8
 ·subst h8
  have hre := HR.out
  rw [if_pos rfl] at hre
  have HRE := Lib.hid hre
  clear hre HR
  have x1 := P2.b.cell 1
  simp [prc, hst] at x1
  have f9 := P2.b.frozen 1
  have K := P2.b.set_ 1 (.int .i64 2)
  simp [prc] at K
  have cs : Chg (fun i => i = b) W2 _ := (Chg.refl (fun i => i = b) W2).setCell (p := ⟨b, 1, none⟩) (fun _ => rfl) (.int .i64 2)
  have N3 := N2.chg cs (fun h => nb h.symm)
  have k3 := P2.k.chg cs (fun h => HP2.out.ne h.symm)
  have nb' : ¬ g = b := fun h => nb h.symm
  clear P2
  go_wp2_with fail
  obtain ⟨E, e⟩ := set4 N3 (.int .i64 0) (.int .i64 0) (.int .i64 0) (.int .i64 0)
  have B4 := Blk.chg (g := b) K e (fun h => nb h)
  have K4 := Blk.chg k3 e (fun h => nk h)
  have cc := ((c2.mono (S' := fun i => i = b ∨ i = k) (fun _ _ h => h.elim)).trans (cs.mono (fun _ _ h => .inl h))).trans' (S := fun i => i = b ∨ i = k) e (fun i hi e => by have h' : i = g := e; omega)
  have m0 := E.cell 0
  have m1 := E.cell 1
  have m2 := E.cell 2
  have m3 := E.cell 3
  simp at m0 m1 m2 m3
  refine bodyPost_ret (v := .tuple #[.agg #[.int .i64 0, .int .i64 0, .int .i64 0, .int .i64 0], .int .i64 8]) ?_ rfl (AnsPost.of HRE.out ⟨rfl, ⟨?_, K4, ⟨HP.out.o.k, .inr (.inr rfl), HP.out.o.due, HP.out.o.pat, HP.out.o.sent, HP.out.o.clock, HP.out.o.cookie⟩⟩, cc⟩)
  ·simp [results, Tryz.results133, go_sem, m0, m1, m2, m3]
  ·exact B4
 ·by_cases h0 : z = 0
  ·subst h0
   have hre := HR.out
   rw [if_neg h8, if_neg (by simp)] at hre
   by_cases hl : p.isLate h = true
   ·rw [if_pos hl] at hre
    have HRE := Lib.hid hre
    have HL2 := HLt.out W2 P2.o P2.b
    rw [hl] at HL2
    have HL3 := Lib.hid HL2
    clear hre HR HL2 hl P2
    go_wp2_with fail
    refine HL3.out.mono ?_
    rintro e w3 ⟨rfl, c3⟩
    have N3 := N2.chg c3 (fun h => h)
    have P3 := HP2.out.chg0 c3
    clear n0 n1 n2 n3 f0 f1 f2 f3
    have n0 := N3.cell 0
    have n1 := N3.cell 1
    have n2 := N3.cell 2
    have n3 := N3.cell 3
    simp at n0 n1 n2 n3
    have f0 := N3.frozen 0
    have f1 := N3.frozen 1
    have f2 := N3.frozen 2
    have f3 := N3.frozen 3
    have HP3 := Lib.hid P3
    clear P3
    go_wp2_with fail
    obtain ⟨E, e⟩ := set4 N3 (.int .i64 0) (.int .i64 0) (.int .i64 0) (.int .i64 0)
    have P4 := HP3.out.chg e (fun h => nb h) (fun h => nk h)
    have cc := ((c2.trans c3).mono (S' := fun i => i = b ∨ i = k) (fun _ _ h => h.elim)).trans' (S := fun i => i = b ∨ i = k) e (fun i hi e => by have h' : i = g := e; omega)
    have m0 := E.cell 0
    have m1 := E.cell 1
    have m2 := E.cell 2
    have m3 := E.cell 3
    simp at m0 m1 m2 m3
    refine bodyPost_ret (v := .tuple #[.agg #[.int .i64 0, .int .i64 0, .int .i64 0, .int .i64 0], .int .i64 12]) ?_ rfl (AnsPost.of HRE.out ⟨rfl, P4, cc⟩)
    simp [results, Tryz.results133, go_sem, m0, m1, m2, m3]
   ·rw [if_neg hl] at hre
    have HRE := Lib.hid hre
    have HL2 := HLt.out W2 P2.o P2.b
    rw [show p.isLate h = false by simpa using hl] at HL2
    have HL3 := Lib.hid HL2
    clear hre HR HL2 hl P2
    go_wp2_with fail
    refine HL3.out.mono ?_
    rintro e w3 ⟨rfl, c3⟩
    have N3 := (N2.chg c3 (fun h => h)).alloc (Obj.cells #[.int .i64 0, .int .i64 0, .int .i64 h, .int .i64 sl] 223)
    have P3 := (HP2.out.chg0 c3).chg0 (chg0_alloc w3 (Obj.cells #[.int .i64 0, .int .i64 0, .int .i64 h, .int .i64 sl] 223))
    have D3 := (D2.chg c3 (fun h => h)).alloc (Obj.cells #[.int .i64 0, .int .i64 0, .int .i64 h, .int .i64 sl] 223)
    have S3 := Blk.new w3 223 #[.int .i64 0, .int .i64 0, .int .i64 h, .int .i64 sl]
    have c4 := (c2.trans c3).alloc (Obj.cells #[.int .i64 0, .int .i64 0, .int .i64 h, .int .i64 sl] 223)
    have ltg := (N2.chg c3 (fun h => h)).lt
    have ltb := (HP2.out.chg0 c3).b.lt
    have ltk := (HP2.out.chg0 c3).k.lt
    clear n0 n1 n2 n3 f0 f1 f2 f3 c2 c3 N2 D2
    go_upto_region 15 with (fail)
    generalize w3.alloc (Obj.cells #[.int .i64 0, .int .i64 0, .int .i64 h, .int .i64 sl] 223) = W4 at *
    generalize hgs : w3.heap.size = gs at *
    have HP3 := Lib.hid P3
    have x5 := P3.b.cell 5
    simp [prc] at x5
    have d11 := D3.cell 11
    have d12 := D3.cell 12
    simp at d11 d12
    have HM := Lib.hid (make157 p.clock clock a11 a12 HP3.out.o.clock hcl hq.1 hq.2)
    have HS3 := Lib.hid S3
    clear P3 S3
    obtain ⟨O, hO⟩ : ∃ O, O = makeO p.clock clock a11 a12 := ⟨_, rfl⟩
    obtain ⟨D, hD⟩ : ∃ D, D = makeD p.clock clock a11 a12 := ⟨_, rfl⟩
    rw [← hO, ← hD] at HM HRE
    clear hO hD
    go_region_with (first | (go_at_call 157; refine (HM.out _).mono ?_; rintro e w5 ⟨rfl, c5⟩; have S5 := (HS3.out.drew).chg c5 (fun h => h); have y0 := S5.cell 0; have y1 := S5.cell 1; have q0 := S5.frozen 0; have q1 := S5.frozen 1; simp at y0 y1))
    all_goals (first
     | (have S6 := (S5.set_ 0 (.int .i64 O)).set_ 1 (.int .i64 D)
        simp at S6
        have e6 : Chg (fun i => i = gs) w5 ((w5.setCell ⟨gs, 0, none⟩ (.int .i64 O)).setCell ⟨gs, 1, none⟩ (.int .i64 D)) := ((Chg.refl (fun i => i = gs) w5).setCell (p := ⟨gs, 0, none⟩) (fun _ => rfl) (.int .i64 O)).setCell (p := ⟨gs, 1, none⟩) (fun _ => rfl) (.int .i64 D)
        refine id (α := Exit.then _ _ _ _ ((w5.setCell ⟨gs, 0, none⟩ (.int .i64 O)).setCell ⟨gs, 1, none⟩ (.int .i64 D))) ?_
        have P6 := ((HP3.out.chg0 (chg0_drew W4)).chg0 c5).chg e6 (fun h => by have h' : b = gs := h; omega) (fun h => by have h' : k = gs := h; omega)
        have N6 := ((N3.drew).chg c5 (fun h => h)).chg e6 (fun h => by have h' : g = gs := h; omega)
        have c6 := ((c4.drew).trans c5).trans' (S := fun _ => False) e6 (fun i hi e => by have h' : i = gs := e; have := c4.size; omega)
        clear S5 y0 y1 q0 q1 e6 c5 x5 d11 d12 D3 N3
        generalize ((w5.setCell ⟨gs, 0, none⟩ (.int .i64 O)).setCell ⟨gs, 1, none⟩ (.int .i64 D)) = W6 at *
        have HP6 := Lib.hid P6
        have HS6 := Lib.hid S6
        have HN6 := Lib.hid N6
        have HC6 := Lib.hid c6
        have x0 := P6.b.cell 0
        simp [prc] at x0
        clear P6 S6 N6 c6
        go_wp2_with fail
        refine (good158 k p.k W6 HP6.out.o.k HP6.out.k).mono ?_
        rintro e w7 ⟨rfl, K7, c7⟩
        have B7 := HP6.out.b.chg c7 (fun h => HP6.out.ne h)
        have S7 := HS6.out.chg c7 (fun h => by have h' : gs = k := h; omega)
        have N7 := HN6.out.chg c7 (fun h => nk h.symm)
        have f := Bko.good_ok HP6.out.o.k
        have g0 : 0 ≤ p.k.good.now := by have := f.l0; have := f.n0; omega
        have g1 : p.k.good.now ≤ 1024 := by have := f.n1; have := f.m1; omega
        have o' : ({ p with k := p.k.good } : Pr).Ok := ⟨f, HP6.out.o.st, HP6.out.o.due, HP6.out.o.pat, HP6.out.o.sent, HP6.out.o.clock, HP6.out.o.cookie⟩
        have o3 := Pr.rest_ok o' g0 g1
        have HO' := Lib.hid o'
        have HO3 := Lib.hid o3
        have HB7 := Lib.hid B7
        have HK7 := Lib.hid K7
        have HS7 := Lib.hid S7
        have HN7 := Lib.hid N7
        clear f o' o3 B7 K7 S7 N7 x0
        generalize hnn : p.k.good.now = nn at *
        go_wp2_with fail
        refine (rest128 b k ({ p with k := p.k.good } : Pr) nn w7 HO'.out g0 g1 HB7.out).mono ?_
        rintro e w8 ⟨rfl, B8, c8⟩
        have K8 := HK7.out.chg c8 (fun h => HP6.out.ne h.symm)
        have S8 := HS7.out.chg c8 (fun h => by have h' : gs = b := h; omega)
        have N8 := HN7.out.chg c8 (fun h => nb h.symm)
        have HB8 := Lib.hid B8
        have HK8 := Lib.hid K8
        have cw := ((HC6.out.mono (S' := fun i => i = b ∨ i = k) (fun _ _ h => h.elim)).trans (c7.mono (fun _ _ h => .inr h))).trans (c8.mono (fun _ _ h => .inl h))
        have HCW := Lib.hid cw
        clear cw B8 K8 HK7 HB7 HN7 HS7 c7 c8
        have s0 := S8.cell 0
        have s1 := S8.cell 1
        have s2 := S8.cell 2
        have s3 := S8.cell 3
        have n0 := N8.cell 0
        have n1 := N8.cell 1
        have n2 := N8.cell 2
        have n3 := N8.cell 3
        simp at s0 s1 s2 s3 n0 n1 n2 n3
        have f0 := N8.frozen 0
        have f1 := N8.frozen 1
        have f2 := N8.frozen 2
        have f3 := N8.frozen 3
        go_wp2_with fail
        obtain ⟨E, e⟩ := set4 N8 (.int .i64 O) (.int .i64 D) (.int .i64 h) (.int .i64 sl)
        have P9 : PeerAt _ b k _ := ⟨HB8.out.chg e (fun h => nb h), HK8.out.chg e (fun h => nk h), HO3.out⟩
        have cc := HCW.out.trans' (S := fun i => i = b ∨ i = k) e (fun i hi e => by have h' : i = g := e; omega)
        have m0 := E.cell 0
        have m1 := E.cell 1
        have m2 := E.cell 2
        have m3 := E.cell 3
        simp at m0 m1 m2 m3
        refine bodyPost_ret (v := .tuple #[.agg #[.int .i64 O, .int .i64 D, .int .i64 h, .int .i64 sl], .int .i64 0]) ?_ rfl (AnsPost.of HRE.out ⟨rfl, P9, cc⟩)
        simp [results, Tryz.results133, go_sem, m0, m1, m2, m3])
     | (have S6 := (S5.set_ 1 (.int .i64 D)).set_ 0 (.int .i64 O)
        simp at S6
        have e6 : Chg (fun i => i = gs) w5 ((w5.setCell ⟨gs, 1, none⟩ (.int .i64 D)).setCell ⟨gs, 0, none⟩ (.int .i64 O)) := ((Chg.refl (fun i => i = gs) w5).setCell (p := ⟨gs, 1, none⟩) (fun _ => rfl) (.int .i64 D)).setCell (p := ⟨gs, 0, none⟩) (fun _ => rfl) (.int .i64 O)
        refine id (α := Exit.then _ _ _ _ ((w5.setCell ⟨gs, 1, none⟩ (.int .i64 D)).setCell ⟨gs, 0, none⟩ (.int .i64 O))) ?_
        have P6 := ((HP3.out.chg0 (chg0_drew W4)).chg0 c5).chg e6 (fun h => by have h' : b = gs := h; omega) (fun h => by have h' : k = gs := h; omega)
        have N6 := ((N3.drew).chg c5 (fun h => h)).chg e6 (fun h => by have h' : g = gs := h; omega)
        have c6 := ((c4.drew).trans c5).trans' (S := fun _ => False) e6 (fun i hi e => by have h' : i = gs := e; have := c4.size; omega)
        clear S5 y0 y1 q0 q1 e6 c5 x5 d11 d12 D3 N3
        generalize ((w5.setCell ⟨gs, 1, none⟩ (.int .i64 D)).setCell ⟨gs, 0, none⟩ (.int .i64 O)) = W6 at *
        have HP6 := Lib.hid P6
        have HS6 := Lib.hid S6
        have HN6 := Lib.hid N6
        have HC6 := Lib.hid c6
        have x0 := P6.b.cell 0
        simp [prc] at x0
        clear P6 S6 N6 c6
        go_wp2_with fail
        refine (good158 k p.k W6 HP6.out.o.k HP6.out.k).mono ?_
        rintro e w7 ⟨rfl, K7, c7⟩
        have B7 := HP6.out.b.chg c7 (fun h => HP6.out.ne h)
        have S7 := HS6.out.chg c7 (fun h => by have h' : gs = k := h; omega)
        have N7 := HN6.out.chg c7 (fun h => nk h.symm)
        have f := Bko.good_ok HP6.out.o.k
        have g0 : 0 ≤ p.k.good.now := by have := f.l0; have := f.n0; omega
        have g1 : p.k.good.now ≤ 1024 := by have := f.n1; have := f.m1; omega
        have o' : ({ p with k := p.k.good } : Pr).Ok := ⟨f, HP6.out.o.st, HP6.out.o.due, HP6.out.o.pat, HP6.out.o.sent, HP6.out.o.clock, HP6.out.o.cookie⟩
        have o3 := Pr.rest_ok o' g0 g1
        have HO' := Lib.hid o'
        have HO3 := Lib.hid o3
        have HB7 := Lib.hid B7
        have HK7 := Lib.hid K7
        have HS7 := Lib.hid S7
        have HN7 := Lib.hid N7
        clear f o' o3 B7 K7 S7 N7 x0
        generalize hnn : p.k.good.now = nn at *
        go_wp2_with fail
        refine (rest128 b k ({ p with k := p.k.good } : Pr) nn w7 HO'.out g0 g1 HB7.out).mono ?_
        rintro e w8 ⟨rfl, B8, c8⟩
        have K8 := HK7.out.chg c8 (fun h => HP6.out.ne h.symm)
        have S8 := HS7.out.chg c8 (fun h => by have h' : gs = b := h; omega)
        have N8 := HN7.out.chg c8 (fun h => nb h.symm)
        have HB8 := Lib.hid B8
        have HK8 := Lib.hid K8
        have cw := ((HC6.out.mono (S' := fun i => i = b ∨ i = k) (fun _ _ h => h.elim)).trans (c7.mono (fun _ _ h => .inr h))).trans (c8.mono (fun _ _ h => .inl h))
        have HCW := Lib.hid cw
        clear cw B8 K8 HK7 HB7 HN7 HS7 c7 c8
        have s0 := S8.cell 0
        have s1 := S8.cell 1
        have s2 := S8.cell 2
        have s3 := S8.cell 3
        have n0 := N8.cell 0
        have n1 := N8.cell 1
        have n2 := N8.cell 2
        have n3 := N8.cell 3
        simp at s0 s1 s2 s3 n0 n1 n2 n3
        have f0 := N8.frozen 0
        have f1 := N8.frozen 1
        have f2 := N8.frozen 2
        have f3 := N8.frozen 3
        go_wp2_with fail
        obtain ⟨E, e⟩ := set4 N8 (.int .i64 O) (.int .i64 D) (.int .i64 h) (.int .i64 sl)
        have P9 : PeerAt _ b k _ := ⟨HB8.out.chg e (fun h => nb h), HK8.out.chg e (fun h => nk h), HO3.out⟩
        have cc := HCW.out.trans' (S := fun i => i = b ∨ i = k) e (fun i hi e => by have h' : i = g := e; omega)
        have m0 := E.cell 0
        have m1 := E.cell 1
        have m2 := E.cell 2
        have m3 := E.cell 3
        simp at m0 m1 m2 m3
        refine bodyPost_ret (v := .tuple #[.agg #[.int .i64 O, .int .i64 D, .int .i64 h, .int .i64 sl], .int .i64 0]) ?_ rfl (AnsPost.of HRE.out ⟨rfl, P9, cc⟩)
        simp [results, Tryz.results133, go_sem, m0, m1, m2, m3]))
  ·go_wp2_with fail
   obtain ⟨E, e⟩ := set4 N2 (.int .i64 0) (.int .i64 0) (.int .i64 0) (.int .i64 0)
   have P4 := P2.chg e (fun h => nb h) (fun h => nk h)
   have cc := (c2.mono (S' := fun i => i = b ∨ i = k) (fun _ _ h => h.elim)).trans' (S := fun i => i = b ∨ i = k) e (fun i hi e => by have h' : i = g := e; omega)
   have m0 := E.cell 0
   have m1 := E.cell 1
   have m2 := E.cell 2
   have m3 := E.cell 3
   simp at m0 m1 m2 m3
   refine bodyPost_ret (v := .tuple #[.agg #[.int .i64 0, .int .i64 0, .int .i64 0, .int .i64 0], .int .i64 z]) ?_ rfl (AnsPost.of (by rw [HR.out, if_neg h8, if_pos h0]) ⟨rfl, P4, cc⟩)
   simp [results, Tryz.results133, go_sem, m0, m1, m2, m3]
end
end Go.Proofs.YtamhicdhbjniiaaGreatDoor
