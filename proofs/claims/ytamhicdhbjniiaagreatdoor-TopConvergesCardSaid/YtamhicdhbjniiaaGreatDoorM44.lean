/- daemon.New: contract. The example of the whole, in plain words: a clock that is 3 seconds behind. -/
import Derived.Test.YtamhicdhbjniiaaGreatDoorM43
import Derived.Test.YtamhicdhbjniiaaGreatDoorM35
import Derived.Test.YtamhicdhbjniiaaGreatDoorM38
import Derived.Test.YtamhicdhbjniiaaGreatDoorM26
set_option linter.unusedVariables false
set_option maxHeartbeats 4000000
set_option maxRecDepth 100000
namespace Go.Proofs.YtamhicdhbjniiaaGreatDoor
section
open Go Go.RowKit Go.Chron
structure NewPost (w : World) (y : Cfg × Int × Int) (h z : Int) (e : Ending) (w' : World) : Prop where
 ok : y.2.2 = 0 → ∃ b B, e = .returned (.tuple #[.pointer (some ⟨b, 0, none⟩), .int .i64 0, .int .i64 0]) ∧ DAt 0 w' b (dm0 y.1 (clk0 y.1 h z) h y.1.servers.length) B ∧ (∀ i, DBk b B i → w.heap.size ≤ i)
 no : y.2.2 ≠ 0 → e = .returned (.tuple #[.pointer none, .int .i64 y.2.1, .int .i64 y.2.2])
 c : Chg (fun _ => False) w w'
theorem info141 : (Tryz.prog.info? 141).map (fun i => (i.zero, i.size, i.bytes)) = some (some (.pointer none), 1, 8) := by kernel_rfl
theorem info144 : (Tryz.prog.info? 144).map (fun i => (i.zero, i.size, i.bytes)) = some (some (.pointer none), 1, 8) := by kernel_rfl
theorem keepT {W w' : World} {b : Nat} {v0 v1 v2 v3 v4 v5 : Value} (hh : W.cell? ⟨b, 0, none⟩ = some v0 ∧ W.cell? ⟨b, 1, none⟩ = some v1 ∧ W.cell? ⟨b, 2, none⟩ = some v2 ∧ W.cell? ⟨b, 3, none⟩ = some v3 ∧ W.cell? ⟨b, 4, none⟩ = some v4 ∧ W.cell? ⟨b, 5, none⟩ = some v5) (c : Chg (fun _ => False) W w') :
  (w'.cell? ⟨b, 0, none⟩ = some v0 ∧ w'.cell? ⟨b, 1, none⟩ = some v1 ∧ w'.cell? ⟨b, 2, none⟩ = some v2 ∧ w'.cell? ⟨b, 3, none⟩ = some v3 ∧ w'.cell? ⟨b, 4, none⟩ = some v4 ∧ w'.cell? ⟨b, 5, none⟩ = some v5) ∧ Chg (fun _ => False) W w' :=
 ⟨⟨c.keep hh.1 (fun h => h), c.keep hh.2.1 (fun h => h), c.keep hh.2.2.1 (fun h => h), c.keep hh.2.2.2.1 (fun h => h), c.keep hh.2.2.2.2.1 (fun h => h), c.keep hh.2.2.2.2.2 (fun h => h)⟩, c⟩
theorem new19 (t : List UInt8) (ht : t.length < 4294967281) (h z : Int) (h0 : 0 ≤ h) (h1 : h ≤ 4611686018427387903) (z0 : -2305843009213693952 ≤ z) (z1 : z ≤ 2305843009213693952) (w : World) (gt : Nat) (hgt : Tryz.prog.globalNamed "strings.asciiSpace" = some gt) (hgl : gt < w.heap.size) (htab : Lib.TabIs Tryz.prog w "strings.asciiSpace" .u8 Lib.asciiSpaceTab) (he : ErrAt w) :
  Calls Tryz.prog 19 #[strv t, .int .i64 h, .int .i64 z] w (NewPost w (parseI t) h z) := by
 have HP := Lib.hid (parse47 t ht w gt hgt hgl htab he)
 have HOK := Lib.hid (parseI_ok (t := t))
 unfold strv at *
 clear ht hgt hgl htab he
 generalize parseI t = y at *
 obtain ⟨c, ey, er⟩ := y
 simp only at HOK
 go_enter Tryz.func19, Tryz.ntmps19
 go_wp2_with fail
 refine (HP.out).mono ?_
 rintro e W1 ⟨⟨a, cap, g, rfl, ho, hg⟩, c1⟩
 simp only at ho
 obtain ⟨n, hn⟩ : ∃ n, n = c.servers.length := ⟨_, rfl⟩
 simp only [← hn] at ho ⊢
 unfold cfgv
 have D2 := Blk.new W1 29 #[.slice a n cap, .int .i64 c.quorum, .int .i64 c.least, .int .i64 c.most, .int .i64 c.delay, .int .i64 c.slew]
 have cz := chg0_alloc W1 (Obj.cells #[.slice a n cap, .int .i64 c.quorum, .int .i64 c.least, .int .i64 c.most, .int .i64 c.delay, .int .i64 c.slew] 29)
 obtain ⟨T, hT⟩ : ∃ T, T = W1.heap.size := ⟨_, rfl⟩
 have HT := Lib.hid hT
 have HD := Lib.hid D2
 have HC := Lib.hid cz
 have HC1 := Lib.hid c1
 have HO := Lib.hid ho
 have HG := Lib.hid hg
 have HN := Lib.hid hn
 clear D2 cz hT ho hg hn HP c1
 by_cases hz : er = 0
 ·subst hz
  have hok := HOK.out rfl
  have hsl := hok.sl
  have hn1 := hok.n1
  have hn0 := hok.n0
  have hnn := HN.out
  rw [← HN.out] at hn1 hn0
  have HOK2 := Lib.hid hok
  clear hok HOK hnn
  go_upto_region 4 with (fail)
  generalize W1.alloc (Obj.cells #[.slice a n cap, .int .i64 c.quorum, .int .i64 c.least, .int .i64 c.most, .int .i64 c.delay, .int .i64 c.slew] 29) = W2 at *
  rw [← HT.out]
  rw [← HT.out] at HD
  have t5 := HD.out.cell 5
  simp at t5
  have HK := Lib.hid (fun W => newClock48 h z c.slew W h0 h1 z0 z1 hsl.1 hsl.2)
  go_upto_region 4 with (fail)
  go_wp2_with (go_at_call 48; refine (HK.out _).mono ?_; rintro e W3 ⟨rfl, k3, c3⟩)
  obtain ⟨kb, hkb⟩ : ∃ kb, kb = W2.heap.size := ⟨_, rfl⟩
  rw [← hkb] at k3 ⊢
  have HKB := Lib.hid hkb
  have HK3 := Lib.hid k3
  have c23 := HC.out.trans c3
  have HC3 := Lib.hid (HC1.out.trans c23)
  have HO3 := Lib.hid (HO.out.chg c23 (fun _ _ h => h))
  have HD3 := Lib.hid (HD.out.chg c3 id)
  have hkw : w.heap.size ≤ kb := by have h1 := HC1.out.size; have h2 := HC.out.size; omega
  have HKW := Lib.hid hkw
  obtain ⟨⟨x0, x1, x2, x3, x4, x5⟩, -⟩ := cells6 HD3.out
  have HKT := Lib.hid (And.intro x0 (And.intro x1 (And.intro x2 (And.intro x3 (And.intro x4 x5)))))
  clear t5 HK hkb k3 c3 c23 hkw x0 x1 x2 x3 x4 x5
  go_region_held3 (fun w' => (w'.cell? ⟨T, 0, none⟩ = some (.slice a n cap) ∧ w'.cell? ⟨T, 1, none⟩ = some (.int .i64 c.quorum) ∧ w'.cell? ⟨T, 2, none⟩ = some (.int .i64 c.least) ∧ w'.cell? ⟨T, 3, none⟩ = some (.int .i64 c.most) ∧ w'.cell? ⟨T, 4, none⟩ = some (.int .i64 c.delay) ∧ w'.cell? ⟨T, 5, none⟩ = some (.int .i64 c.slew)) ∧ Chg (fun _ => False) W3 w')
   (refine keepT HKT.out ?_ <;> (repeat (first | (with_reducible exact Chg.refl _ _) | assumption | (with_reducible apply Chg.drewN) | (with_reducible apply Chg.drew) | (with_reducible apply Chg.alloc))))
   (first | (go_at_call 49; refine (newI _).mono ?_; rintro e w4 ⟨qb, qm, rfl, q4, hq1, hq2, hq3, c4⟩; have cT := Chg.trans (S := fun _ => False) (w := W3) (by repeat (first | (with_reducible exact Chg.refl _ _) | (with_reducible apply Chg.drew))) c4) | (go_at_call 50; refine (newCount50 _).mono ?_; rintro e w5 ⟨rfl, n5, c5⟩; have cU := cT.trans c5))
  have hq1' : W3.heap.size ≤ qb := hq1
  have hq2' : W3.heap.size ≤ qm := hq2
  have hs3 := HC3.out.size
  have hs4 := cT.size
  have hs5 := cU.size
  have B5 := Blk.new w5 140 #[.slice a n cap, .int .i64 c.quorum, .int .i64 c.least, .int .i64 c.most, .int .i64 c.delay, .int .i64 c.slew, .pointer (some ⟨kb, 0, none⟩), .slice none 0 0, .slice none 0 0, .pointer (some ⟨qb, 0, none⟩), .pointer (some ⟨w4.heap.size, 0, none⟩), .int .u64 0, .int .i64 h, .int .i64 0, .slice none 0 0, .int .i64 0]
  have c6 := chg0_alloc w5 (Obj.cells #[.slice a n cap, .int .i64 c.quorum, .int .i64 c.least, .int .i64 c.most, .int .i64 c.delay, .int .i64 c.slew, .pointer (some ⟨kb, 0, none⟩), .slice none 0 0, .slice none 0 0, .pointer (some ⟨qb, 0, none⟩), .pointer (some ⟨w4.heap.size, 0, none⟩), .int .u64 0, .int .i64 h, .int .i64 0, .slice none 0 0, .int .i64 0] 140)
  have c36 := cU.trans c6
  have P0 : DPart _ w5.heap.size c (clk0 c h z) h 0 ⟨kb, qb, qm, 0, w4.heap.size, .slice a n cap, .slice none 0 0, .slice none 0 0, .slice none 0 0, g, none, none, none, [], [], []⟩ :=
   { box := B5
     srv := HO3.out.chg c36 (fun _ _ h => h)
     clk := HK3.out.chg c36 id
     psl := Owns.nil _ _ _
     ps := PsAt.nil _
     ssl := Owns.nil _ _ _
     ss := SsAt.nil _ _
     q := (q4.chg0 c5).chg0 c6
     qn := rfl
     qk := fun e he => by cases he
     cnt := n5.chg c6 id
     vv := ⟨rfl, rfl⟩ }
  have hF0 : ∀ i, DBk w5.heap.size (⟨kb, qb, qm, 0, w4.heap.size, .slice a n cap, .slice none 0 0, .slice none 0 0, .slice none 0 0, g, none, none, none, [], [], []⟩ : DB) i → w.heap.size ≤ i := by
   have hkw := HKW.out
   rintro i (rfl | rfl | rfl | rfl | rfl | hi | hi | hi | hi | hi | hi)
   ·omega
   ·exact hkw
   ·omega
   ·omega
   ·show w.heap.size ≤ w4.heap.size; omega
   ·exact HG.out i hi
   ·cases hi
   ·cases hi
   ·cases hi
   ·obtain ⟨x, hx, _⟩ := hi; cases hx
   ·obtain ⟨x, hx, _⟩ := hi; cases hx
  have T5 := HD3.out.chg c36 id
  have t0 := T5.cell 0
  simp at t0
  have HT5 := Lib.hid T5
  have HP0 := Lib.hid P0
  have HF0 := Lib.hid hF0
  have HC5 := Lib.hid (HC3.out.trans c36)
  have hav : Value.slice a n cap = .slice a n cap := rfl
  obtain ⟨cb, hcb⟩ : ∃ cb, cb = w4.heap.size := ⟨_, rfl⟩
  obtain ⟨D, hD⟩ : ∃ D, D = w5.heap.size := ⟨_, rfl⟩
  rw [← hcb, ← hD] at HP0 HF0
  rw [← hcb] at HT5 HC5 t0
  rw [← hcb, ← hD]
  clear hq1 hq2 hq1' hq2' hs3 hs4 hs5 B5 c6 c36 P0 hF0 T5 hav q4 hq3 c4 cT n5 c5 cU hcb hD HD3 HK3 HO3 HKT HC3 HKB HO HG HD HC HC1 HT
  generalize w5.alloc (Obj.cells #[.slice a n cap, .int .i64 c.quorum, .int .i64 c.least, .int .i64 c.most, .int .i64 c.delay, .int .i64 c.slew, .pointer (some ⟨kb, 0, none⟩), .slice none 0 0, .slice none 0 0, .pointer (some ⟨qb, 0, none⟩), .pointer (some ⟨cb, 0, none⟩), .int .u64 0, .int .i64 h, .int .i64 0, .slice none 0 0, .int .i64 0] 140) = W5 at *
  go_upto_region 9 with (fail)
  go_loopw [48] (fun i wr => ∃ (j : Nat) (B : DB), j ≤ n ∧ i = .int .i64 j ∧ DPart wr D c (clk0 c h z) h j B ∧ (∀ i, DBk D B i → w.heap.size ≤ i) ∧ B.av = .slice a n cap ∧ Chg (fun i => w.heap.size ≤ i ∧ i ≠ T) W5 wr) (fun i _ => n - (intOf i).toNat)
  case atStart => exact ⟨0, _, by omega, rfl, HP0.out, HF0.out, rfl, Chg.refl _ _⟩
  case round =>
   obtain ⟨j, B, hj, rfl, hp, hf, hav, hch⟩ := hrel
   have HPB := Lib.hid hp
   have HFB := Lib.hid hf
   have HCH := Lib.hid hch
   have HAV := Lib.hid hav
   have T6 := HT5.out.chg hch (fun e => e.2 rfl)
   have HT6 := Lib.hid T6
   by_cases hjn : j < n
   ·have hjI : (j : Int) < n := by omega
    obtain ⟨⟨x0, x1, x2, x3, x4, x5⟩, -⟩ := cells6 T6
    have hsv := hp.srv
    rw [hav] at hsv
    obtain ⟨a', cap', hv, hc1, hc2, hc3, hc4⟩ := hsv.form
    rw [List.length_map, ← HN.out] at hv hc1
    have hac : a = a' ∧ cap = cap' := by injection hv with q1 q2 q3; exact ⟨q1, q3⟩
    obtain ⟨rfl, rfl⟩ := hac
    have hR := hsv.reads
    rw [← hc4] at hR
    have HN51 := Lib.hid (fun W (hW : Chg (fun _ => False) wr W) => new51 a n cap c h HN.out hc1 (by unfold maxLen at hc2; omega) W (hR.chg hW (fun _ _ h => h)) HOK2.out h0 h1)
    unfold cfgv at HN51
    clear hp hf hav hch T6 hsv hv hc1 hc2 hc3 hc4 hR t0
    go_upto_region 14 with (go_at_call 51; refine (HN51.out _ (Chg.refl _ _)).mono ?_; rintro e w1 ⟨pb, pk, rfl, p1, hb1, hk1, cc1⟩)
    have hlp : (B.pb.map fun x => [Value.pointer (some ⟨x.1, 0, none⟩)]).length = j := by rw [List.length_map, HPB.out.ps.len, List.length_replicate]
    have hls : (B.sb.map fun x => [Value.pointer (some ⟨x.s, 0, none⟩)]).length = j := by rw [List.length_map, HPB.out.ss.len, List.length_replicate]
    have hP1 := HPB.out.chg0 cc1
    have b7 := hP1.box.cell 7
    have b8 := hP1.box.cell 8
    simp [dmc] at b7 b8
    obtain ⟨i1, hi1, hi2, hi3, hi4⟩ := info_parts info141
    obtain ⟨i2, hj1, hj2, hj3, hj4⟩ := info_parts info144
    obtain ⟨E1, hE1⟩ : ∃ E1, E1 = B.pb.map fun x => [Value.pointer (some ⟨x.1, 0, none⟩)] := ⟨_, rfl⟩
    obtain ⟨E2, hE2⟩ : ∃ E2, E2 = B.sb.map fun x => [Value.pointer (some ⟨x.s, 0, none⟩)] := ⟨_, rfl⟩
    rw [← hE1] at hlp
    rw [← hE2] at hls
    have hO1 := hP1.psl
    have hO2 := hP1.ssl
    rw [← hE1] at hO1
    rw [← hE2] at hO2
    have hDl := hP1.box.lt
    have n1 : ¬ B.pg = some D := fun e => by obtain ⟨_, h'⟩ := hP1.psl.blk e; exact absurd (blk_typ h' hP1.box) (by decide)
    have n2 : ¬ B.sg = some D := fun e => by obtain ⟨_, h'⟩ := hP1.ssl.blk e; exact absurd (blk_typ h' hP1.box) (by decide)
    have n3 : ∀ k, B.sg = some k → ¬ B.pg = some k := fun k e e' => by
     obtain ⟨_, h'⟩ := hP1.ssl.blk e
     obtain ⟨_, h''⟩ := hP1.psl.blk e'
     exact absurd (blk_typ h' h'') (by decide)
    have HE := Lib.hid (And.intro hE1 hE2)
    have HO1 := Lib.hid hO1
    have HO2 := Lib.hid hO2
    have HBX := Lib.hid hP1.box
    have HP1 := Lib.hid hP1
    have HPE := Lib.hid p1
    have HNN := Lib.hid (And.intro n1 (And.intro n2 n3))
    have HSZ := Lib.hid (And.intro hb1 (And.intro hk1 cc1))
    have HLL := Lib.hid (And.intro hlp hls)
    have g8' : ∀ o, (w1.drew.alloc o).cell? ⟨D, 8, none⟩ = some B.sv := fun o => by have := (hP1.box.drew.alloc o).cell 8; simpa [dmc] using this
    have g7' : ∀ o, (w1.drew.alloc o).cell? ⟨D, 7, none⟩ = some B.pv := fun o => by have := (hP1.box.drew.alloc o).cell 7; simpa [dmc] using this
    clear hE1 hE2 hO1 hO2 hP1 p1 n1 n2 n3 hb1 hk1 cc1 x0 x1 x2 x3 x4 x5 HN51 hDl
    generalize hpv : B.pv = pv at *
    generalize hsv : B.sv = sv at *
    generalize hpg : B.pg = pg at *
    generalize hsg : B.sg = sg at *
    refine wp_region_noPanic ?_
    refine wp_region_till (s := 18) (S := (fun w' => w'.cell? ⟨D, 7, none⟩ = some pv ∧ w'.cell? ⟨D, 8, none⟩ = some sv)) (by kernel_rfl) ?_
    have hHeld : w1.drew.cell? ⟨D, 7, none⟩ = some pv ∧ w1.drew.cell? ⟨D, 8, none⟩ = some sv := ⟨b7, b8⟩
    refine wpTill_pure (i := 0) (oi := ⟨some 60, _, _, _, _, _⟩) (v := .pointer (some ⟨D, 0, none⟩)) rfl rfl (by kernel_rfl) (by kernel_rfl) (by kernel_rfl) (by kernel_rfl) (fun _ _ _ h => h) (Or.inl ⟨by rfl, fun w hSw => by go_simp⟩) (fun _ => hHeld) ?_
    try simp only [Act.put, qA, qB, qC]
    refine wpTill_pure (i := 1) (oi := ⟨some 61, _, _, _, _, _⟩) (v := .pointer (some ⟨D, 0, none⟩)) rfl rfl (by kernel_rfl) (by kernel_rfl) (by kernel_rfl) (by kernel_rfl) (fun _ _ _ h => h) (Or.inl ⟨by rfl, fun w hSw => by go_simp⟩) (fun _ => hHeld) ?_
    try simp only [Act.put, qA, qB, qC]
    refine wpTill_pure (i := 2) (oi := ⟨some 62, _, _, _, _, _⟩) (v := .pointer (some ⟨D, 0, none⟩)) rfl rfl (by kernel_rfl) (by kernel_rfl) (by kernel_rfl) (by kernel_rfl) (fun _ _ _ h => h) (Or.inl ⟨by rfl, fun w hSw => by go_simp⟩) (fun _ => hHeld) ?_
    try simp only [Act.put, qA, qB, qC]
    refine wpTill_pure (i := 3) (oi := ⟨some 63, _, _, _, _, _⟩) (v := .pointer (some ⟨D, 0, none⟩)) rfl rfl (by kernel_rfl) (by kernel_rfl) (by kernel_rfl) (by kernel_rfl) (fun _ _ _ h => h) (Or.inl ⟨by rfl, fun w hSw => by go_simp⟩) (fun _ => hHeld) ?_
    try simp only [Act.put, qA, qB, qC]
    refine wpTill_pure (i := 4) (oi := ⟨some 64, _, _, _, _, _⟩) (v := .pointer (some ⟨D, 7, none⟩)) rfl rfl (by kernel_rfl) (by kernel_rfl) (by kernel_rfl) (by kernel_rfl) (fun _ _ _ h => h) (Or.inl ⟨by rfl, fun w hSw => by go_simp⟩) (fun _ => hHeld) ?_
    try simp only [Act.put, qA, qB, qC]
    refine wpTill_load (i := 5) (oi := ⟨some 65, _, _, _, _, _⟩) (v := pv) rfl rfl (by kernel_rfl) (by kernel_rfl) (by kernel_rfl) (by kernel_rfl) (by kernel_rfl) (fun _ _ _ h => h) (Or.inl ⟨by rfl, fun w hSw => by (try dsimp only at hSw); obtain ⟨hS1, hS2⟩ := hSw; go_simp⟩) (fun _ => hHeld) ?_
    try simp only [Act.put, qA, qB, qC]
    refine wpTill_pure (i := 6) (oi := ⟨some 66, _, _, _, _, _⟩) (v := .pointer (some ⟨pb, 0, none⟩)) rfl rfl (by kernel_rfl) (by kernel_rfl) (by kernel_rfl) (by kernel_rfl) (fun _ _ _ h => h) (Or.inl ⟨by rfl, fun w hSw => by go_simp⟩) (fun _ => hHeld) ?_
    try simp only [Act.put, qA, qB, qC]
    refine wpTill_pure (i := 9) (oi := ⟨some 69, _, _, _, _, _⟩) (v := .pointer (some ⟨D, 0, none⟩)) rfl rfl (by kernel_rfl) (by kernel_rfl) (by kernel_rfl) (by kernel_rfl) (fun _ _ _ h => h) (Or.inl ⟨by rfl, fun w hSw => by go_simp⟩) (fun _ => hHeld) ?_
    try simp only [Act.put, qA, qB, qC]
    refine wpTill_pure (i := 10) (oi := ⟨some 70, _, _, _, _, _⟩) (v := .pointer (some ⟨D, 0, none⟩)) rfl rfl (by kernel_rfl) (by kernel_rfl) (by kernel_rfl) (by kernel_rfl) (fun _ _ _ h => h) (Or.inl ⟨by rfl, fun w hSw => by go_simp⟩) (fun _ => hHeld) ?_
    try simp only [Act.put, qA, qB, qC]
    refine wpTill_pure (i := 11) (oi := ⟨some 71, _, _, _, _, _⟩) (v := .pointer (some ⟨D, 8, none⟩)) rfl rfl (by kernel_rfl) (by kernel_rfl) (by kernel_rfl) (by kernel_rfl) (fun _ _ _ h => h) (Or.inl ⟨by rfl, fun w hSw => by go_simp⟩) (fun _ => hHeld) ?_
    try simp only [Act.put, qA, qB, qC]
    refine wpTill_load (i := 12) (oi := ⟨some 72, _, _, _, _, _⟩) (v := sv) rfl rfl (by kernel_rfl) (by kernel_rfl) (by kernel_rfl) (by kernel_rfl) (by kernel_rfl) (fun _ _ _ h => h) (Or.inl ⟨by rfl, fun w hSw => by (try dsimp only at hSw); obtain ⟨hS1, hS2⟩ := hSw; go_simp⟩) (fun _ => hHeld) ?_
    try simp only [Act.put, qA, qB, qC]
    refine wpTill_one (i := 7) (oi := ⟨some 67, _, _, _, _, _⟩) rfl (by kernel_rfl) (fun KK hKK => ?_)
    go_simp
    refine hKK _ _ ⟨fun _ => ⟨g7' _, g8' _⟩, ?_⟩
    clear hKK KK
    try simp only [Act.put, qA, qB, qC]
    refine wpTill_one (i := 8) (oi := ⟨some 68, _, _, _, _, _⟩) rfl (by kernel_rfl) (fun KK hKK => ?_)
    refine step_app (by rfl) (.tmp 65) (.tmp 67) 136 (by rfl) 141 i1 _ 1 8 Tryz.underlying136 hi1 hi2 hi3 hi4 rfl (by omega) pv pg E1 (by rfl) (HO1.out.drew.alloc _) _ _ [[.pointer (some ⟨pb, 0, none⟩)]] 1 1 (by rfl) rfl (Blk.new _ _ _) (by simp) (by simp [Value.oneCell']) (by simp) (by rw [HLL.out.1]; simp; omega) (by rw [HLL.out.1]; simp [maxLen]; omega) ?_
    intro k1 cap1 v1 ho1 hch1 hk1
    have d1 := (HBX.out.drew.alloc (Obj.cells #[.pointer (some ⟨pb, 0, none⟩)] 141)).chg hch1 HNN.out.1
    have e7 := d1.cell 7
    have e8 := d1.cell 8
    simp [dmc] at e7 e8
    rw [hpv] at e7
    rw [hsv] at e8
    refine hKK _ _ ⟨fun _ => ⟨e7, e8⟩, ?_⟩
    clear hKK KK
    try simp only [Act.put, qA, qB, qC]
    refine wpTill_one (i := 13) (oi := ⟨some 73, _, _, _, _, _⟩) rfl (by kernel_rfl) (fun KK hKK => ?_)
    go_simp
    refine (storeNew _).mono ?_
    rintro e v2 ⟨s, s2, rfl, st2, hs1, hs2, c2⟩
    have d2 := d1.chg c2 id
    have y7 := c2.keep e7 (fun h => h)
    have y8 := c2.keep e8 (fun h => h)
    have x7 : ∀ o, (v2.alloc o).cell? ⟨D, 7, none⟩ = some pv := fun o => (Chg.alloc (Chg.refl (fun _ => False) v2) o).keep y7 (fun h => h)
    have x8 : ∀ o, (v2.alloc o).cell? ⟨D, 8, none⟩ = some sv := fun o => (Chg.alloc (Chg.refl (fun _ => False) v2) o).keep y8 (fun h => h)
    refine hKK _ _ ⟨fun _ => ⟨y7, y8⟩, ?_⟩
    clear hKK KK
    try simp only [Act.put, qA, qB, qC]
    refine wpTill_one (i := 14) (oi := ⟨some 74, _, _, _, _, _⟩) rfl (by kernel_rfl) (fun KK hKK => ?_)
    go_simp
    refine hKK _ _ ⟨fun _ => ⟨x7 _, x8 _⟩, ?_⟩
    clear hKK KK
    try simp only [Act.put, qA, qB, qC]
    refine wpTill_one (i := 15) (oi := ⟨some 75, _, _, _, _, _⟩) rfl (by kernel_rfl) (fun KK hKK => ?_)
    refine step_app (by rfl) (.tmp 72) (.tmp 74) 137 (by rfl) 144 i2 _ 1 8 Tryz.underlying137 hj1 hj2 hj3 hj4 rfl (by omega) sv sg E2 (by rfl) (((((HO2.out.drew.alloc _).chg hch1 HNN.out.2.2).chg c2 (fun _ _ h => h))).alloc _) _ _ [[.pointer (some ⟨s, 0, none⟩)]] 1 1 (by rfl) rfl (Blk.new _ _ _) (by simp) (by simp [Value.oneCell']) (by simp) (by rw [HLL.out.2]; simp; omega) (by rw [HLL.out.2]; simp [maxLen]; omega) ?_
    intro k2 cap2 v3 ho3 hch3 hk3
    have d3 := (d2.alloc (Obj.cells #[.pointer (some ⟨s, 0, none⟩)] 144)).chg hch3 HNN.out.2.1
    have r7 := d3.cell 7
    have r8 := d3.cell 8
    simp [dmc] at r7 r8
    rw [hpv] at r7
    rw [hsv] at r8
    have f7 := d3.frozen 7
    have f8 := d3.frozen 8
    refine hKK _ _ ⟨fun _ => ⟨r7, r8⟩, ?_⟩
    clear hKK KK d1 d2 d3 e7 e8 x7 x8 y7 y8 g7' g8' hHeld b7 b8
    try simp only [Act.put, qA, qB, qC]
    refine wpTill_one (i := 16) (oi := ⟨some 76, _, _, _, _, _⟩) rfl (by kernel_rfl) (fun KK hKK => ?_)
    go_simp
    refine hKK _ _ ⟨fun _ => ⟨r7, r8⟩, ?_⟩
    clear hKK KK
    try simp only [Act.put, qA, qB, qC]
    refine wpTill_one (i := 17) (oi := ⟨some 77, _, _, _, _, _⟩) rfl (by kernel_rfl) (fun KK hKK => ?_)
    go_simp
    refine hKK _ _ ⟨fun _ => ⟨r7, r8⟩, ?_⟩
    clear hKK KK
    try simp only [Act.put, qA, qB, qC]
    refine wpTill_one (i := 18) (oi := ⟨none, _, _, _, _, _⟩) rfl (by kernel_rfl) (fun KK hKK => ?_)
    go_simp
    refine hKK _ _ ⟨fun h => (by simp at h), ?_⟩
    clear hKK KK
    try simp only [Act.put, qA, qB, qC]
    refine wpTill_one (i := 19) (oi := ⟨some 78, _, _, _, _, _⟩) rfl (by kernel_rfl) (fun KK hKK => ?_)
    go_simp
    refine hKK _ _ ⟨fun h => (by simp at h), ?_⟩
    clear hKK KK
    try simp only [Act.put, qA, qB, qC]
    refine wpTill_one (i := 20) (oi := ⟨some 79, _, _, _, _, _⟩) rfl (by kernel_rfl) (fun KK hKK => ?_)
    go_simp
    refine hKK _ _ ⟨fun h => (by simp at h), ?_⟩
    clear hKK KK
    try simp only [Act.put, qA, qB, qC]
    refine wpTill_one (i := 21) (oi := ⟨none, _, _, _, _, _⟩) rfl (by kernel_rfl) (fun KK hKK => ?_)
    go_simp
    refine hKK _ _ ⟨fun h => (by simp at h), ?_⟩
    clear hKK KK
    try simp only [Act.put, qA, qB, qC]
    refine wpTill_done (by kernel_rfl) ?_
    refine NoPanic.normal ?_
    have ho1' : Owns v1 141 1 (.slice (some ⟨k1, 0, none⟩) (j + 1) cap1) (some k1) (E1 ++ [[.pointer (some ⟨pb, 0, none⟩)]]) := by
     rw [HLL.out.1] at ho1; exact ho1
    have ho3' : Owns v3 144 1 (.slice (some ⟨k2, 0, none⟩) (j + 1) cap2) (some k2) (E2 ++ [[.pointer (some ⟨s, 0, none⟩)]]) := by
     rw [HLL.out.2] at ho3; exact ho3
    have hk1' : pg = some k1 ∨ w1.heap.size ≤ k1 := hk1.imp id (fun h => Nat.le_trans (by simp) h)
    have hk3' : sg = some k2 ∨ v2.heap.size ≤ k2 := hk3.imp id (fun h => Nat.le_trans (by simp) h)
    have hch1' : Chg (fun b => pg = some b) (w1.alloc (Obj.cells #[.pointer (some ⟨pb, 0, none⟩)] 141)) v1 := ⟨hch1.os, hch1.tape, hch1.output, hch1.size, hch1.block⟩
    have K := appRound HBX.out HO1.out HO2.out ho1' hch1' hk1' st2 hs1 hs2 c2 ho3' hch3 hk3'
    clear r7 r8 f7 f8 ho1 ho3 hk1 hk3 hch1 ho1' ho3' hk3' hch1' st2 hs1 hs2 c2 hch3
    go_upto_region 15 with (fail)
    generalize (v3.setCell ⟨D, 7, none⟩ (.slice (some ⟨k1, 0, none⟩) (j + 1) cap1)).setCell ⟨D, 8, none⟩ (.slice (some ⟨k2, 0, none⟩) (j + 1) cap2) = X at *
    obtain ⟨a1, a2, a3, a4, a5, a6, a7, a8⟩ := K
    have a1' : Blk X D 140 (dmc (dm0 c (clk0 c h z) h j) { B with pv := .slice (some ⟨k1, 0, none⟩) (j + 1) cap1, sv := .slice (some ⟨k2, 0, none⟩) (j + 1) cap2 }) := by simpa [dmc] using a1
    subst hpv hsv hpg hsg
    have b9 := a1'.cell 9
    simp [dmc] at b9
    have hwb := HPB.out.lt (i := D) (.inl rfl)
    have hlp := HPB.out.psl.lt
    have hls := HPB.out.ssl.lt
    have nM : ∀ {i : Nat}, wr.heap.size ≤ i → ¬ (i = D ∨ B.pg = some i ∨ B.sg = some i) := by
     rintro i hi (e | e | e)
     ·omega
     ·have := hlp _ e; omega
     ·have := hls _ e; omega
    have hP6 := HPE.out.chg a8 (nM HSZ.out.1) (nM HSZ.out.2.1)
    have hq6 : QI X B.qb B.qm B.qn B.Q := by
     refine HP1.out.q.chg a8 ?_ ?_
     ·rintro (e | e | e)
      ·have := HP1.out.q.box; rw [e] at this; exact absurd (blk_typ this HBX.out) (by decide)
      ·obtain ⟨_, h'⟩ := HP1.out.psl.blk e; exact absurd (blk_typ h' HP1.out.q.box) (by decide)
      ·obtain ⟨_, h'⟩ := HP1.out.ssl.blk e; exact absurd (blk_typ h' HP1.out.q.box) (by decide)
     ·have qmap : ∀ {t cs}, ¬ Blk w1 B.qm t cs := fun hb => by
       obtain ⟨D, ⟨es, clock, hm, _⟩, _⟩ := HP1.out.q.own
       unfold Blk at hb
       rw [hm] at hb; cases hb
      rintro (e | e | e)
      ·have := HBX.out; rw [← e] at this; exact qmap this
      ·obtain ⟨_, h'⟩ := HP1.out.psl.blk e; exact qmap h'
      ·obtain ⟨_, h'⟩ := HP1.out.ssl.blk e; exact qmap h'
    have hnD : ¬ (D = B.qb ∨ D = B.qm) := by
     rintro (e | e)
     ·have := hq6.box; rw [← e] at this; exact absurd (blk_typ this a1') (by decide)
     ·obtain ⟨D', ⟨es, clock, hm, _⟩, _⟩ := hq6.own
      have hb := a1'
      unfold Blk at hb
      rw [e, hm] at hb; cases hb
    have hqn : B.qn = j := HPB.out.qn
    have HNX := Lib.hid (fun W (hW : Chg (fun _ => False) X W) => next54 pb pk (Pr.new c h) W hP6.o (hP6.chg0 hW).b)
    have HST := Lib.hid (fun W (hW : Chg (fun _ => False) X W) => setI B.qb B.qm B.qn B.Q (j : Int) (Pr.new c h).next W (hq6.chg0 hW) (by omega) ⟨by omega, by omega⟩ (Pr.next_in hP6.o))
    have HB9 := Lib.hid b9
    have HND := Lib.hid hnD
    have HA := Lib.hid (And.intro a1' (And.intro a2 (And.intro a3 (And.intro a4 (And.intro a5 (And.intro a6 (And.intro a7 a8)))))))
    have HK1 := Lib.hid hk1'
    have HW := Lib.hid (And.intro hwb (And.intro hlp hls))
    clear a1 a1' a2 a3 a4 a5 a6 a7 a8 b9 hwb hlp hls nM hP6 hq6 hnD hqn hk1'
    generalize (Pr.new c h).next = nx at *
    go_region_held3 (fun w' => (w'.cell? ⟨D, 9, none⟩ = some (.pointer (some ⟨B.qb, 0, none⟩))) ∧ Chg (fun i => i = B.qb ∨ i = B.qm) X w')
     (refine keepQ HB9.out HND.out ?_ <;> (repeat (first | (with_reducible exact Chg.refl _ _) | assumption | (with_reducible apply Chg.drewN) | (with_reducible apply Chg.drew) | (with_reducible apply Chg.alloc))))
     (first | (go_at_call 54; refine (HNX.out _ (by repeat (first | (with_reducible exact Chg.refl _ _) | assumption | (with_reducible apply Chg.drew)))).mono ?_; rintro e w7 ⟨rfl, c7⟩; have cT := Chg.trans (S := fun _ => False) (w := X) (by repeat (first | (with_reducible exact Chg.refl _ _) | (with_reducible apply Chg.drew))) c7; have cU := cT.mono (S' := fun i => i = B.qb ∨ i = B.qm) (fun _ _ h => h.elim)) | (go_at_call 53; refine (HST.out _ (by repeat (first | (with_reducible exact Chg.refl _ _) | assumption | (with_reducible apply Chg.drew)))).mono ?_; rintro e w8 ⟨rfl, q8, c8⟩; have cV := cU.trans c8))
    all_goals (
     obtain ⟨a1, a2, a3, a4, a5, a6, a7, a8⟩ := HA.out
     rw [HE.out.1] at a2
     rw [HE.out.2] at a3
     have hq : ∀ e ∈ setL B.Q (j : Int) nx ((B.qn : Int) + 1), ∃ i : Nat, i < j + 1 ∧ e.k = (i : Int) := fun e he => by
      rcases mem_setL.1 he with ⟨he, _⟩ | rfl
      ·obtain ⟨i, hi, h'⟩ := HPB.out.qk e he
       exact ⟨i, by omega, h'⟩
      ·exact ⟨j, by omega, rfl⟩
     have D8 := HPB.out.round HSZ.out.2.2 HPE.out HSZ.out.1 HSZ.out.2.1 a1 a2 a3 a4 a5 a6 a8 q8 cV hq
     have zc := HSZ.out.2.2.size
     have zh := HCH.out.size
     have z5 := HC5.out.size
     have hk1 := HK1.out
     have F8 : ∀ i, DBk D ({ B with pv := .slice (some ⟨k1, 0, none⟩) (j + 1) cap1, pg := some k1, sv := .slice (some ⟨k2, 0, none⟩) (j + 1) cap2, sg := some k2, pb := B.pb ++ [(pb, pk)], sb := B.sb ++ [⟨s, s2, none, 0⟩], qn := j + 1, Q := setL B.Q (j : Int) nx ((B.qn : Int) + 1) } : DB) i → w.heap.size ≤ i := by
      have F := HFB.out
      unfold DBk at F ⊢
      simp only
      rintro i (hi | hi | hi | hi | hi | hi | hi | hi | hi | hi | hi)
      ·exact F i (.inl hi)
      ·exact F i (.inr (.inl hi))
      ·exact F i (.inr (.inr (.inl hi)))
      ·exact F i (.inr (.inr (.inr (.inl hi))))
      ·exact F i (.inr (.inr (.inr (.inr (.inl hi)))))
      ·exact F i (.inr (.inr (.inr (.inr (.inr (.inl hi))))))
      ·cases hi
       rcases hk1 with h' | h'
       ·exact F _ (.inr (.inr (.inr (.inr (.inr (.inr (.inl h')))))))
       ·omega
      ·cases hi
       rcases a7 with h' | h'
       ·exact F _ (.inr (.inr (.inr (.inr (.inr (.inr (.inr (.inl h'))))))))
       ·omega
      ·exact F i (.inr (.inr (.inr (.inr (.inr (.inr (.inr (.inr (.inl hi)))))))))
      ·obtain ⟨x, hx, hxi⟩ := hi
       rcases List.mem_append.1 hx with hx | hx
       ·exact F i (.inr (.inr (.inr (.inr (.inr (.inr (.inr (.inr (.inr (.inl ⟨x, hx, hxi⟩))))))))))
       ·rw [List.mem_singleton.1 hx] at hxi
        have e1 := HSZ.out.1
        have e2 := HSZ.out.2.1
        simp only at hxi
        omega
      ·obtain ⟨x, hx, hxi⟩ := hi
       rcases List.mem_append.1 hx with hx | hx
       ·exact F i (.inr (.inr (.inr (.inr (.inr (.inr (.inr (.inr (.inr (.inr ⟨x, hx, hxi⟩))))))))))
       ·rw [List.mem_singleton.1 hx] at hxi
        simp only at hxi
        rcases hxi with h' | h' | h'
        ·omega
        ·omega
        ·cases h'
     have C8 : Chg (fun i => w.heap.size ≤ i ∧ i ≠ T) W5 w8 := by
      have F := HFB.out
      unfold DBk at F
      have tT := HT6.out
      refine HCH.out.trans ((HSZ.out.2.2.mono (fun _ _ h => h.elim)).trans' (((a8.mono (S' := fun i => (i = D ∨ B.pg = some i ∨ B.sg = some i) ∨ (i = B.qb ∨ i = B.qm)) (fun _ _ h => .inl h)).trans (cV.mono (fun _ _ h => .inr h)))) ?_)
      rintro i hi ((e | e | e) | (e | e))
      ·refine ⟨F i (.inl e), fun h' => ?_⟩
       rw [← h', e] at tT; exact absurd (blk_typ tT HPB.out.box) (by decide)
      ·refine ⟨F i (.inr (.inr (.inr (.inr (.inr (.inr (.inl e))))))), fun h' => ?_⟩
       obtain ⟨_, h''⟩ := HPB.out.psl.blk e
       rw [← h'] at tT; exact absurd (blk_typ tT h'') (by decide)
      ·refine ⟨F i (.inr (.inr (.inr (.inr (.inr (.inr (.inr (.inl e)))))))), fun h' => ?_⟩
       obtain ⟨_, h''⟩ := HPB.out.ssl.blk e
       rw [← h'] at tT; exact absurd (blk_typ tT h'') (by decide)
      ·refine ⟨F i (.inr (.inr (.inl e))), fun h' => ?_⟩
       rw [← h', e] at tT; exact absurd (blk_typ tT HPB.out.q.box) (by decide)
      ·refine ⟨F i (.inr (.inr (.inr (.inl e)))), fun h' => ?_⟩
       obtain ⟨D', ⟨es, clock, hm, _⟩, _⟩ := HPB.out.q.own
       unfold Blk at tT
       rw [← h', e, hm] at tT; cases tT
     have HD8 := Lib.hid D8
     have HF8 := Lib.hid F8
     have HC8 := Lib.hid C8
     clear a1 a2 a3 a4 a5 a6 a7 a8 hq D8 F8 C8 zc zh z5 hk1 q8 cV cU cT c7 c8
     go_wp2_with fail
     go_roundw
     case rel => exact ⟨j + 1, _, by omega, by go_num, HD8.out, HF8.out, HAV.out, HC8.out⟩
     case measure => simp [intOf]; omega)
   ·obtain rfl : j = n := by omega
    clear hp hf hav hch T6 t0
    go_wp2_with fail
    refine bodyPost_ret (v := .tuple #[.pointer (some ⟨D, 0, none⟩), .int .i64 0, .int .i64 0]) ?_ rfl ?_
    ·simp [results, Tryz.results19, go_sem]
    ·have p := HPB.out
     have hok := HOK2.out
     have hse := hok.sl
     refine ⟨fun _ => ⟨D, B, rfl, ?_, HFB.out⟩, fun h => absurd rfl h, (HC5.out.trans' HCH.out (fun i hi e => by omega))⟩
     have hn := HN.out
     have hq : B.qn = j := p.qn
     subst hn
     exact {
      box := p.box
      srv := p.srv
      clk := p.clk
      psl := p.psl
      ps := p.ps
      ssl := p.ssl
      ss := p.ss
      q := p.q
      qn := by omega
      qk := fun e he => by
       obtain ⟨i, hi, h'⟩ := p.qk e he
       exact ⟨i, by simpa [dm0] using hi, h'⟩
      cnt := p.cnt
      vot := by
       have h1 := p.vv.1
       have h2 := p.vv.2
       rw [h1, h2]
       exact Owns.nil _ _ _
      ok := {
       cfg := hok
       clk := ⟨h0, h1, ⟨by show _ ≤ z; omega, by show z ≤ _; omega⟩, ⟨by show _ ≤ (0 : Int); omega, by show (0 : Int) ≤ _; omega⟩, ⟨by show _ ≤ (0 : Int); omega, by show (0 : Int) ≤ _; omega⟩, hse⟩
       lp := by simp [dm0]
       ls := by simp [dm0]
       lc := by simp [dm0, cnt0]
       ct := fun z hz => by
        have : z = 0 := by simpa [dm0, cnt0] using hz
        subst this
        exact ⟨by omega, by omega⟩
       hk := by show h ≤ h; omega
       h0 := ⟨h0, h1⟩
       draw := ⟨by show (0 : Int) ≤ 0; omega, by show (0 : Int) < _; omega⟩
       theta := ⟨by show _ ≤ (0 : Int); omega, by show (0 : Int) ≤ _; omega⟩
       ch := ⟨by show (0 : Int) ≤ 0; omega, by show (0 : Int) ≤ _; omega⟩
       vt := fun v hv => by cases hv
       vl := Nat.zero_le _ } }
 ·clear HOK
  go_upto_region 2 with (fail)
  generalize W1.alloc (Obj.cells #[.slice a n cap, .int .i64 c.quorum, .int .i64 c.least, .int .i64 c.most, .int .i64 c.delay, .int .i64 c.slew] 29) = W2 at *
  go_wp2_with fail
  refine bodyPost_ret (v := .tuple #[.pointer none, .int .i64 ey, .int .i64 er]) ?_ rfl ?_
  ·simp [results, Tryz.results19, go_sem]
  exact ⟨fun h => absurd h hz, fun _ => rfl, HC1.out.trans HC.out⟩
end
section
open Go Go.RowKit Go.Chron
def wm0 (c : Cfg) (n0 n1 n2 rate : Int) (ways : List Way) : Wm := ⟨dm0 c (clk0 c n1 n2) n1 c.servers.length, ⟨n0, n1, n0, n1, rate, 0⟩, ways, [], [], 0⟩
def exT : List UInt8 := [115, 101, 114, 118, 101, 114, 32, 55, 10, 113, 117, 111, 114, 117, 109, 32, 49, 10, 112, 111, 108, 108, 32, 52, 32, 49, 54, 10, 100, 101, 108, 97, 121, 32, 49, 48, 48, 48, 10, 115, 108, 101, 119, 32, 53, 48, 48, 10]
def exC : Cfg := ⟨[7], 1, 4, 16, 1000, 500⟩
theorem ex_parse : parseI exT = (exC, 0, 0) := by decide +kernel
def exStep (W : Wm) (i : Nat) : Wm := W.step W.under 500000000 500000000 ((i : Int) + 1)
def exW (k : Nat) : Wm := (List.range k).foldl exStep (wm0 exC 3000000000 0 0 0 [way0])
theorem exW_succ (k : Nat) : exW (k + 1) = exStep (exW k) k := by
 unfold exW
 rw [List.range_succ, List.foldl_append]; rfl
theorem ex_under : ∀ k, k < 10 → (exW k).under.length ≤ 1 ∧ (∀ a ∈ (exW k).under, a.at_ ≤ (exW k).g.t + 500000000) ∧ (exW k).g.t + 500000000 ≤ 9000000000 ∧ (exW k).g.h + 500000000 ≤ 9000000000 ∧ (exW k).g.rate = 0 ∧ (exW k).g.steps = (k : Int) := by decide +kernel
theorem ex_end : (exW 10).sent = 2 ∧ (exW 10).log.length = 2 ∧ ((exW 10).log.map (·.2))[0]? = some 3000000000 ∧ (exW 10).off < 3000000000 := by decide +kernel
end
end Go.Proofs.YtamhicdhbjniiaaGreatDoor
