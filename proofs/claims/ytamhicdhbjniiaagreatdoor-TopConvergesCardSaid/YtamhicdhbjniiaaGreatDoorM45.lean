/- world.New: contract, where all may be. count.Text, and world.Counts: a text is told. count.Text, and world.Counts: a text is told. ref05.Text: a number's text. -/
import Derived.Test.YtamhicdhbjniiaaGreatDoorM44
import Derived.Test.YtamhicdhbjniiaaGreatDoorM36
import Derived.Test.YtamhicdhbjniiaaGreatDoorM17
import Derived.Test.YtamhicdhbjniiaaGreatDoorM06
import Derived.Lib.ItoaLen
set_option linter.unusedVariables false
set_option maxHeartbeats 4000000
set_option maxRecDepth 100000
namespace Go.Proofs.YtamhicdhbjniiaaGreatDoor
section
open Go Go.RowKit Go.Chron
structure Laid (n : Nat) (w : World) : Prop where
 sp : ∃ gt, Tryz.prog.globalNamed "strings.asciiSpace" = some gt ∧ gt < n ∧ Lib.TabIs Tryz.prog w "strings.asciiSpace" .u8 Lib.asciiSpaceTab
 err : ErrAt w
 lt : 9 < n ∧ n ≤ w.heap.size
theorem Laid.chg {n : Nat} {w w' : World} {S : Nat → Prop} (h : Laid n w) (c : Chg S w w') (hS : ∀ i, S i → n ≤ i) : Laid n w' := by
 obtain ⟨⟨gt, h1, h2, h3⟩, h4, h5, h6⟩ := h
 exact ⟨⟨gt, h1, h2, tab_chg h3 h1 (by omega) c (fun hi => by have := hS _ hi; omega)⟩, h4.chg c (fun hi => by have := hS _ hi; omega), h5, Nat.le_trans h6 c.size⟩
theorem Laid.chg0 {n : Nat} {w w' : World} (h : Laid n w) (c : Chg (fun _ => False) w w') : Laid n w' := h.chg c (fun _ h => h.elim)
structure WnewPost (w : World) (W : Wm) (e : Ending) (w' : World) : Prop where
 ex : ∃ b B, e = .returned (.tuple #[.pointer (some ⟨b, 0, none⟩), .int .i64 0, .int .i64 0]) ∧ WAt 0 w' b W B ∧ ∀ i, WAll b B i → w.heap.size ≤ i
 c : Chg (fun _ => False) w w'
theorem field29 (v0 v1 v2 v3 v4 v5 : Value) (w : World) : (Instr.field 29 (.agg #[v0, v1, v2, v3, v4, v5]) 0).run Tryz.prog w = .ok v0 w := by kernel_rfl
theorem new14 (t : List UInt8) (c : Cfg) (ht : t.length < 4294967281) (hp : parseI t = (c, 0, 0)) (n0 n1 n2 rate : Int) (h0 : -1152921504606846976 ≤ n0 ∧ n0 ≤ 1152921504606846976) (h1 : 0 ≤ n1 ∧ n1 ≤ 1152921504606846976) (h2 : -2305843009213693952 ≤ n2 ∧ n2 ≤ 2305843009213693952) (hr : 0 ≤ rate ∧ rate ≤ 1000)
  (ys : List Way) (ya : Option Addr) (ycap : Nat) (hy : ∀ y ∈ ys, y.Ok) (hyl : ys.length = c.servers.length) (w : World) (hR : Reads w 6 ya (ys.map fun y => (wayc y).toList)) (hnil : ya = none → ys.length = 0 ∧ ycap = 0) (hcap : ys.length ≤ ycap) (m : Nat) (hl : Laid m w) :
  Calls Tryz.prog 14 #[strv t, .agg #[.int .i64 n0, .int .i64 n1, .int .i64 n2], .int .i64 rate, .slice ya ys.length ycap] w (WnewPost w (wm0 c n0 n1 n2 rate ys)) := by
 have hok := parseI_ok (t := t) (by rw [hp])
 rw [hp] at hok
 have c0 := chg0_alloc w (Obj.cells #[.int .i64 n0, .int .i64 n1, .int .i64 n2] 45)
 have B5 := Blk.new w 45 #[.int .i64 n0, .int .i64 n1, .int .i64 n2]
 have hL0 := hl.chg0 c0
 have hsz : (w.alloc (Obj.cells #[.int .i64 n0, .int .i64 n1, .int .i64 n2] 45)).heap.size = w.heap.size + 1 := by simp
 have cMM := @run_makeMap Tryz.prog
 have cFD := field29
 obtain ⟨p5, hp5⟩ : ∃ p, p = w.heap.size := ⟨_, rfl⟩
 rw [← hp5] at B5
 go_enter Tryz.func14, Tryz.ntmps14
 go_upto_region 1 with (fail)
 rw [← hp5]
 generalize w.alloc (Obj.cells #[.int .i64 n0, .int .i64 n1, .int .i64 n2] 45) = w0 at *
 obtain ⟨gt, g1, g2, g3⟩ := hL0.sp
 have HNEW := Lib.hid (new19 t ht n1 n2 h1.1 (by omega) h2.1 h2.2 w0 gt g1 (by have := hL0.lt; omega) g3 hL0.err)
 rw [hp] at HNEW
 have k0 := B5.cell 0
 have k1 := B5.cell 1
 have k2 := B5.cell 2
 simp at k0 k1 k2
 have HB5 := Lib.hid B5
 have HC0 := Lib.hid c0
 have HOK := Lib.hid hok
 have HY := Lib.hid (And.intro hy hyl)
 have HR0 := Lib.hid (hR.chg c0 (fun _ _ h => h))
 have HSZ := Lib.hid hsz
 have HP5 := Lib.hid hp5
 have HN := Lib.hid (And.intro h0 (And.intro h1 (And.intro h2 hr)))
 have HNIL := Lib.hid (And.intro hnil hcap)
 clear hok c0 B5 hL0 hsz hp5 g1 g2 g3 hy hyl hR hl hp ht h0 h1 h2 hr hnil hcap
 unfold strv at *
 go_wp2_with fail
 refine HNEW.out.mono ?_
 rintro e w1 hq
 obtain ⟨d, D, rfl, hd, hdl⟩ := hq.ok rfl
 have c1 := hq.c
 clear hq HNEW
 have j0 := c1.keep k0 (fun h => h)
 have j1 := c1.keep k1 (fun h => h)
 have hGH := newGhost33 n0 n1 rate w1 HN.out.1 HN.out.2.1 (by have := HN.out.2.2.2; omega)
 have HD := Lib.hid (And.intro hd hdl)
 have HC1 := Lib.hid c1
 clear k0 k1 k2 hd hdl c1
 go_wp2_with fail
 refine hGH.mono ?_
 rintro e w2 ⟨rfl, G2, c2⟩
 have hd2 := HD.out.1.chg0 c2
 obtain ⟨gb, hgb⟩ : ∃ gb, gb = w1.heap.size := ⟨_, rfl⟩
 rw [← hgb] at G2
 rw [← hgb]
 have HCF := Lib.hid (config34 0 d _ D w2 hd2)
 have HG2 := Lib.hid G2
 have HC2 := Lib.hid c2
 have HGB := Lib.hid hgb
 have HD2 := Lib.hid hd2
 clear hGH hd2 G2 c2 hgb j0 j1
 go_wp2_with fail
 refine HCF.out.mono ?_
 rintro e w3 ⟨a3, cap3, g3, rfl, o3, hg3, c3⟩
 have HCL := Lib.hid (clone35 ya ys.length ycap (ys.map fun y => (wayc y).toList) w3 (by rw [List.length_map]) (fun h => HNIL.out.1 h) (by intro x hx; obtain ⟨y, _, rfl⟩ := List.mem_map.1 hx; rfl)
  (((HR0.out.chg HC1.out (fun _ _ h => h)).chg HC2.out (fun _ _ h => h)).chg c3 (fun _ _ h => h)) (by intro u hu; obtain ⟨x, hx, hxu⟩ := List.mem_flatten.1 hu; obtain ⟨y, _, rfl⟩ := List.mem_map.1 hx; simp [wayc] at hxu; rcases hxu with rfl | rfl | rfl | rfl | rfl | rfl <;> rfl)
  (by rw [List.length_map]; have h1 : c.servers.length ≤ 16 := HOK.out.n1; have h2 := HY.out.2; omega) (by rw [List.length_map]; have h1 : c.servers.length ≤ 16 := HOK.out.n1; have h2 := HY.out.2; unfold maxLen; omega))
 have HO3 := Lib.hid (And.intro o3 hg3)
 have HC3 := Lib.hid c3
 obtain ⟨sn, hsn⟩ : ∃ sn, sn = (dm0 (c, 0, 0).fst (clk0 (c, 0, 0).fst n1 n2) n1 (c, 0, 0).fst.servers.length).cfg.servers.length := ⟨_, rfl⟩
 rw [← hsn]
 rw [← hsn] at HO3
 have hsn' : sn = ys.length := by rw [hsn]; exact HY.out.2.symm
 obtain ⟨yn, hyn⟩ : ∃ yn, yn = ys.length := ⟨_, rfl⟩
 rw [← hyn] at HCL hsn'
 rw [← hyn]
 have HYN := Lib.hid hyn
 have HCLM : (ys.map fun y => (wayc y).toList).length = yn := by rw [List.length_map, hyn]
 subst hsn'
 have HCM := Lib.hid HCLM
 clear o3 hg3 c3 hsn hyn HCLM
 unfold cfgv
 go_wp2_with fail
 refine HCL.out.mono ?_
 rintro e w4 ⟨a4, cap4, g4, rfl, o4, c4, hg4⟩
 rw [HCM.out]
 rw [HCM.out] at o4
 have A6 := Blk.new (w4.alloc (Obj.map #[] 0)) 113 #[.pointer (some ⟨d, 0, none⟩), .pointer (some ⟨gb, 0, none⟩), .slice a3 sn cap3, .slice a4 sn cap4, .slice none 0 0, .map (some w4.heap.size), .slice none 0 0, .int .i64 0]
 have M6 := World.ownsMap_made w4 Tryz.prog 184 oneR
 have cM := chg0_alloc w4 (Obj.map #[] 0)
 have cX := chg0_alloc (w4.alloc (Obj.map #[] 0)) (Obj.cells #[.pointer (some ⟨d, 0, none⟩), .pointer (some ⟨gb, 0, none⟩), .slice a3 sn cap3, .slice a4 sn cap4, .slice none 0 0, .map (some w4.heap.size), .slice none 0 0, .int .i64 0] 113)
 have hbx0 : (w4.alloc (Obj.map #[] 0)).heap.size = w4.heap.size + 1 := by simp
 have hWAt : WAt 0 ((w4.alloc (Obj.map #[] 0)).alloc (Obj.cells #[.pointer (some ⟨d, 0, none⟩), .pointer (some ⟨gb, 0, none⟩), .slice a3 sn cap3, .slice a4 sn cap4, .slice none 0 0, .map (some w4.heap.size), .slice none 0 0, .int .i64 0] 113)) (w4.alloc (Obj.map #[] 0)).heap.size (wm0 c n0 n1 n2 rate ys) ⟨d, D, gb, .slice a3 sn cap3, g3, .slice a4 sn cap4, g4, .slice none 0 0, none, [], w4.heap.size, 0, .slice none 0 0, none, []⟩ := by
  have cT : Chg (fun _ => False) w4 ((w4.alloc (Obj.map #[] 0)).alloc (Obj.cells #[.pointer (some ⟨d, 0, none⟩), .pointer (some ⟨gb, 0, none⟩), .slice a3 sn cap3, .slice a4 sn cap4, .slice none 0 0, .map (some w4.heap.size), .slice none 0 0, .int .i64 0] 113)) := cM.trans cX
  have c24 : Chg (fun _ => False) w2 ((w4.alloc (Obj.map #[] 0)).alloc (Obj.cells #[.pointer (some ⟨d, 0, none⟩), .pointer (some ⟨gb, 0, none⟩), .slice a3 sn cap3, .slice a4 sn cap4, .slice none 0 0, .map (some w4.heap.size), .slice none 0 0, .int .i64 0] 113)) := (HC3.out.trans c4).trans cT
  have s1 := HC2.out.size
  have s2 := HC3.out.size
  have s3 := c4.size
  exact {
   box := A6
   d := HD2.out.chg0 c24
   g := HG2.out.chg c24 (fun h => h)
   gok := ⟨by have := HN.out.1; show _ ≤ n0 ∧ n0 ≤ _; omega, by have := HN.out.2.1; show 0 ≤ n1 ∧ n1 ≤ _; omega, HN.out.2.2.2, by show (0 : Int) ≤ 0 ∧ (0 : Int) ≤ 1000000; omega⟩
   srv := (HO3.out.1.chg (c4.trans cT) (fun _ _ h => h))
   way := o4.chg cT (fun _ _ h => h)
   wok := HY.out.1
   wl := HY.out.2
   und := OwnsF.nil _ _ _
   mok := by simp
   mu := rfl
   came := ⟨_, ownsMap_chg M6 cX (fun h => h)⟩
   mn := Nat.le_refl _
   log := Owns.nil _ _ _
   lok := by simp
   ll := rfl
   ln := Nat.le_refl _
   sent := by show (0 : Int) ≤ 0 ∧ (0 : Int) ≤ 16 * ((0 : Nat) : Int); omega
   h := Int.le_refl n1
   dis := by
    intro i hi hd
    have hlt := HD.out.1.lt hd
    have hgb := HGB.out
    unfold WBk at hi
    simp only at hi
    rcases hi with hi | hi | hi | hi | hi | ⟨x, hx, hi⟩ | hi | hi | ⟨x, hx, hi⟩
    ·omega
    ·omega
    ·have := HO3.out.2 i hi; omega
    ·have := hg4 i hi; omega
    ·cases hi
    ·cases hx
    ·omega
    ·cases hi
    ·cases hx
   apart := by intro k hk; cases hk }
 have hWge : ∀ i, WAll (w4.alloc (Obj.map #[] 0)).heap.size ⟨d, D, gb, .slice a3 sn cap3, g3, .slice a4 sn cap4, g4, .slice none 0 0, none, [], w4.heap.size, 0, .slice none 0 0, none, []⟩ i → w0.heap.size ≤ i := by
  have s0 := HC1.out.size
  have s1 := HC2.out.size
  have s2 := HC3.out.size
  have s3 := c4.size
  have hgb := HGB.out
  rintro i (hi | hi)
  ·unfold WBk at hi
   simp only at hi
   rcases hi with hi | hi | hi | hi | hi | ⟨x, hx, hi⟩ | hi | hi | ⟨x, hx, hi⟩
   ·omega
   ·omega
   ·have := HO3.out.2 i hi; omega
   ·have := hg4 i hi; omega
   ·cases hi
   ·cases hx
   ·omega
   ·cases hi
   ·cases hx
  ·exact HD.out.2 i hi
 have hc6 : Chg (fun _ => False) w0 ((w4.alloc (Obj.map #[] 0)).alloc (Obj.cells #[.pointer (some ⟨d, 0, none⟩), .pointer (some ⟨gb, 0, none⟩), .slice a3 sn cap3, .slice a4 sn cap4, .slice none 0 0, .map (some w4.heap.size), .slice none 0 0, .int .i64 0] 113)) := ((((HC1.out.trans HC2.out).trans HC3.out).trans c4).trans cM).trans cX
 clear A6 M6 cM cX hbx0 o4 c4 hg4
 go_upto_region 8 with (fail)
 generalize (w4.alloc (Obj.map #[] 0)).alloc (Obj.cells #[.pointer (some ⟨d, 0, none⟩), .pointer (some ⟨gb, 0, none⟩), .slice a3 sn cap3, .slice a4 sn cap4, .slice none 0 0, .map (some w4.heap.size), .slice none 0 0, .int .i64 0] 113) = w6 at *
 obtain ⟨bx, hbx⟩ : ∃ bx, bx = w4.heap.size + 1 := ⟨_, rfl⟩
 have hbx' : (w4.alloc (Obj.map #[] 0)).heap.size = bx := by rw [hbx]; simp
 rw [hbx'] at hWAt hWge
 rw [← hbx]
 clear hbx'
 have k2 := hWAt.box.cell 2
 simp [wmc] at k2
 have HWAT := Lib.hid hWAt
 have HWGE := Lib.hid hWge
 have HC6 := Lib.hid hc6
 have HCK := Lib.hid check36
 have hsnI : sn ≤ 16 := by have h1 : c.servers.length ≤ 16 := HOK.out.n1; have h2 := HY.out.2; have h3 := HYN.out; omega
 have HRS := Lib.hid (HR0.out.chg hc6 (fun _ _ h => h))
 have hscap : sn ≤ ycap := by have := HNIL.out.2; have h3 := HYN.out; omega
 clear hWAt hWge hc6 hbx cMM cFD
 go_wp2_with fail
 go_loopw [65] (fun i wr => ∃ j : Nat, j ≤ sn ∧ i = .int .i64 j ∧ Chg (fun _ => False) w6 wr) (fun i _ => sn - (intOf i).toNat)
 case atStart => exact ⟨0, Nat.zero_le _, rfl, Chg.refl _ _⟩
 case round =>
  obtain ⟨j, hj, rfl, hc⟩ := hrel
  by_cases hjs : j < sn
  ·have hjI : (j : Int) < sn := by omega
   have hj0 : (0 : Int) ≤ j := by omega
   have hjc : j < ycap := by omega
   obtain ⟨y, hy⟩ : ∃ y, ys[j]? = some y := ⟨_, List.getElem?_eq_getElem (by rw [← HYN.out]; exact hjs)⟩
   obtain ⟨kb, off, hya, hcl⟩ := HRS.out (by rw [HCM.out]; omega)
   subst hya
   have hyj : (ys.map fun y => (wayc y).toList)[j]? = some (wayc y).toList := by rw [List.getElem?_map, hy]; rfl
   have f0 := hc.keep (hcl j _ hyj 0 _ rfl) (fun h => h)
   have f1 := hc.keep (hcl j _ hyj 1 _ rfl) (fun h => h)
   have f2 := hc.keep (hcl j _ hyj 2 _ rfl) (fun h => h)
   have f3 := hc.keep (hcl j _ hyj 3 _ rfl) (fun h => h)
   have f4 := hc.keep (hcl j _ hyj 4 _ rfl) (fun h => h)
   have f5 := hc.keep (hcl j _ hyj 5 _ rfl) (fun h => h)
   rw [← Nat.add_assoc] at f0 f1 f2 f3 f4 f5
   rw [Nat.add_zero] at f0
   have hyo := HY.out.1 y (List.mem_of_getElem? hy)
   have HCY := Lib.hid (fun W => check36 y W hyo)
   have HC := Lib.hid hc
   obtain ⟨u0, u1, u2, u3, u4, u5⟩ := y
   unfold wayc at HCY
   simp only at HCY f0 f1 f2 f3 f4 f5
   clear hc hy hcl hyj hyo
   go_upto_region 13 with (fail)
   have A9 := Blk.new wr 97 #[.int .i64 u0, .int .i64 u1, .int .i64 u2, .int .i64 u3, .int .i64 u4, .int .u64 u5]
   have cA := chg0_alloc wr (Obj.cells #[.int .i64 u0, .int .i64 u1, .int .i64 u2, .int .i64 u3, .int .i64 u4, .int .u64 u5] 97)
   obtain ⟨p10, hp10⟩ : ∃ p, p = wr.heap.size := ⟨_, rfl⟩
   rw [← hp10] at A9
   rw [← hp10]
   have HP10 := Lib.hid hp10
   clear hp10
   generalize wr.alloc (Obj.cells #[.int .i64 u0, .int .i64 u1, .int .i64 u2, .int .i64 u3, .int .i64 u4, .int .u64 u5] 97) = we at *
   have g0 := A9.cell 0
   have g1 := A9.cell 1
   have g2 := A9.cell 2
   have g3 := A9.cell 3
   have g4 := A9.cell 4
   have g5 := A9.cell 5
   simp at g0 g1 g2 g3 g4 g5
   have HCA := Lib.hid cA
   clear A9 cA f0 f1 f2 f3 f4 f5
   go_wp2_with fail
   refine (HCY.out _).mono ?_
   rintro e w9 ⟨rfl, c9⟩
   have HC9 := Lib.hid c9
   clear c9
   go_wp2_with fail
   exact ⟨⟨j + 1, by omega, by simp, (HC.out.trans HCA.out).trans HC9.out⟩, by simp [intOf]; omega⟩
  ·have HC := Lib.hid hc
   clear hc
   go_wp2_with fail
   refine bodyPost_ret (v := .tuple #[.pointer (some ⟨bx, 0, none⟩), .int .i64 0, .int .i64 0]) ?_ ?_ ?_
   ·simp [results, Tryz.results14, go_sem]
   ·rfl
   ·exact ⟨⟨bx, _, rfl, HWAT.out.chg0 HC.out, fun i hi => by have h1 := HWGE.out i hi; have h2 := HSZ.out; omega⟩, (HC0.out.trans HC6.out).trans HC.out⟩
end
section
open Go Go.RowKit Go.Chron
structure Told (n : Nat) (w : World) : Prop where
 nm : ∃ zs : List ByteArray, zs.length = 13 ∧ (∀ s ∈ zs, s.size ≤ 100) ∧ ∀ (i : Nat) s, zs[i]? = some s → w.cell? ⟨1, i, none⟩ = some (.string s)
 pw : ∃ gp, Tryz.prog.globalNamed "internal/strconv.uint64pow10" = some gp ∧ gp < n ∧ Lib.TabIs Tryz.prog w "internal/strconv.uint64pow10" .u64 Lib.pow10Tab
 lt : 1 < n ∧ n ≤ w.heap.size
theorem Told.chg {n : Nat} {w w' : World} {S : Nat → Prop} (h : Told n w) (c : Chg S w w') (hS : ∀ i, S i → n ≤ i) : Told n w' := by
 obtain ⟨⟨zs, z1, z2, z3⟩, ⟨gp, h1, h2, h3⟩, h5, h6⟩ := h
 exact ⟨⟨zs, z1, z2, fun i s hs => c.keep (z3 i s hs) (fun hi => by have := hS 1 hi; omega)⟩, ⟨gp, h1, h2, tab_chg h3 h1 (by omega) c (fun hi => by have := hS _ hi; omega)⟩, h5, Nat.le_trans h6 c.size⟩
theorem Told.chg0 {n : Nat} {w w' : World} (h : Told n w) (c : Chg (fun _ => False) w w') : Told n w' := h.chg c (fun _ h => h.elim)
theorem chg_grow (w : World) (k : Nat) (os : Array Obj) : Chg (fun _ => False) w (Go.Sort.grow (w.drewN k) os) :=
 (Chg.refl (fun _ => False) w).drewN k |>.trans ⟨rfl, rfl, rfl, by simp [Go.Sort.grow], fun i hi _ => Go.Sort.heap_grow_old _ _ hi⟩
theorem info9 : (Tryz.prog.info? 9).map (fun i => (i.zero, i.size, i.bytes)) = some (some (.string ⟨#[]⟩), 1, 16) := by kernel_rfl
def strc (s : ByteArray) : List Value := [.string s]
theorem clone164 (a : Option Addr) (n cap : Nat) (els : List (List Value)) (w : World) (hn : n = els.length) (hnil : a = none → n = 0 ∧ cap = 0) (he : ∀ x ∈ els, x.length = 1) (hr : Reads w 1 a els) (h1 : ∀ u ∈ els.flatten, u.oneCell' = true)
  (hb : els.length * 16 ≤ 140737488355328) (h63 : els.length ≤ maxLen) :
  Calls Tryz.prog 164 #[.slice a n cap] w (Cloned 9 1 w els) := by
 subst hn
 obtain ⟨i0, hi, hz0, hz1, hz2⟩ := info_parts info9
 cases a with
 | none =>
  obtain ⟨h0, rfl⟩ := hnil rfl
  have h0' : els = [] := List.eq_nil_of_length_eq_zero h0
  subst h0'
  have hq := fun w => Lib.run_eql_slice_nil (P := Tryz.prog) w 166 9 none 0 0 0 0 Tryz.underlying166
  go_enter Tryz.func164, Tryz.ntmps164
  go_wp2_with fail
  all_goals (go_ret; exact cloned_nil _ _ _)
 | some ad =>
  have hq := fun w => Lib.run_eql_slice_nil (P := Tryz.prog) w 166 9 (some ad) els.length cap 0 0 Tryz.underlying166
  have hfl := hr.flat he
  have Hr := Lib.hid hr
  clear hr
  go_enter Tryz.func164, Tryz.ntmps164
  go_wp2_with (at_builtin; refine wpList_app_any (by rfl) (.tmp 5) (.tmp 6) 166 (by rfl) 9 i0 _ 1 16 Tryz.underlying166 hi hz0 hz1 hz2 rfl (by omega) _ w.heap.size [] (by rfl) (owns_empty _ _ _) ad els els.length cap (by rfl) rfl ?_ he h1 (by simpa using hb) (by simpa using h63) ?_)
  ·intro j u hu
   have := hfl j u hu
   rw [World.cell?_alloc_lt _ _ _ (World.block_lt_of_cell? _ _ this)]
   exact this
  ·intro k cap' w' ho' hchg hk
   have K := cloned_mk ho' hchg (by simpa using hk)
   clear ho' hchg hk
   go_wp2_with fail
   go_ret
   simpa using K
theorem names141 {n : Nat} {w : World} (h : Told n w) : Calls Tryz.prog 141 #[] w fun e w' => ∃ (k cap : Nat) (zs : List ByteArray), e = .returned (.slice (some ⟨k, 0, none⟩) 13 cap) ∧ 13 ≤ cap ∧ (∀ (i : Nat), i < 13 → ∃ s, zs[i]? = some s ∧ s.size ≤ 100 ∧ w'.cell? ⟨k, i, none⟩ = some (.string s)) ∧ Chg (fun _ => False) w w' := by
 obtain ⟨zs, z1, z2, z3⟩ := h.nm
 have HC := Lib.hid (clone164 (some ⟨1, 0, none⟩) 13 13 (zs.map strc) w (by rw [List.length_map, z1]) (by intro h; cases h) (by intro x hx; obtain ⟨y, _, rfl⟩ := List.mem_map.1 hx; rfl)
  (fun _ => ⟨1, 0, rfl, fun i x hx j u hu => by
   rw [List.getElem?_map] at hx
   cases hz : zs[i]? with
   | none => rw [hz] at hx; cases hx
   | some s =>
    rw [hz] at hx
    cases hx
    cases j with
    | zero => cases hu; simpa using z3 i s hz
    | succ j => cases hu⟩)
  (by intro u hu; obtain ⟨x, hx, hxu⟩ := List.mem_flatten.1 hu; obtain ⟨y, _, rfl⟩ := List.mem_map.1 hx; simp [strc] at hxu; subst hxu; rfl) (by rw [List.length_map, z1]; omega) (by rw [List.length_map, z1]; unfold maxLen; omega))
 have HZ := Lib.hid (And.intro z1 z2)
 clear h z3 z1 z2
 go_enter Tryz.func141, Tryz.ntmps141
 go_wp2_with fail
 refine HC.out.mono ?_
 rintro e w1 ⟨a, cap, g, rfl, o, c, hg⟩
 have hl : (zs.map strc).length = 13 := by rw [List.length_map, HZ.out.1]
 obtain ⟨k, hk⟩ := o.pos (by rw [hl]; omega)
 rw [hk] at o
 obtain ⟨cap', hv, hv1, _⟩ := o.some_form
 rw [hl] at hv hv1
 rw [hl]
 have ha : a = some ⟨k, 0, none⟩ := by injection hv
 have hc : cap = cap' := by injection hv
 subst ha
 have HH := Lib.hid (show (∀ (i : Nat), i < 13 → ∃ s, zs[i]? = some s ∧ s.size ≤ 100 ∧ w1.cell? ⟨k, i, none⟩ = some (.string s)) from fun i hi => by
  have hz : zs[i]? = some (zs[i]'(by rw [HZ.out.1]; exact hi)) := List.getElem?_eq_getElem _
  refine ⟨_, hz, HZ.out.2 _ (List.mem_of_getElem? hz), ?_⟩
  have := o.cell rfl (i := i) (by rw [List.getElem?_map, hz]; rfl) (j := 0) rfl
  simpa using this)
 have HC' := Lib.hid (And.intro hv1 hc)
 have HCH := Lib.hid c
 clear o c hg hv hv1 hc hk hl
 go_wp2_with fail
 go_ret
 exact ⟨k, cap, zs, rfl, by have := HC'.out; omega, HH.out, HCH.out⟩
theorem len13 {cs : List Int} (h : cs.length = 13) : ∃ c0 c1 c2 c3 c4 c5 c6 c7 c8 c9 c10 c11 c12, cs = [c0, c1, c2, c3, c4, c5, c6, c7, c8, c9, c10, c11, c12] := by
 match cs, h with
 | [c0, c1, c2, c3, c4, c5, c6, c7, c8, c9, c10, c11, c12], _ => exact ⟨c0, c1, c2, c3, c4, c5, c6, c7, c8, c9, c10, c11, c12, rfl⟩
theorem all140 (b : Nat) (c0 c1 c2 c3 c4 c5 c6 c7 c8 c9 c10 c11 c12 : Int) (w : World) (h : Blk w b 211 #[.int .i64 c0, .int .i64 c1, .int .i64 c2, .int .i64 c3, .int .i64 c4, .int .i64 c5, .int .i64 c6, .int .i64 c7, .int .i64 c8, .int .i64 c9, .int .i64 c10, .int .i64 c11, .int .i64 c12]) : Calls Tryz.prog 140 #[.pointer (some ⟨b, 0, none⟩)] w fun e w' => e = .returned (.agg #[.int .i64 c0, .int .i64 c1, .int .i64 c2, .int .i64 c3, .int .i64 c4, .int .i64 c5, .int .i64 c6, .int .i64 c7, .int .i64 c8, .int .i64 c9, .int .i64 c10, .int .i64 c11, .int .i64 c12]) ∧ Chg (fun _ => False) w w' := by
 have A := Blk.new w 209 #[.int .i64 0, .int .i64 0, .int .i64 0, .int .i64 0, .int .i64 0, .int .i64 0, .int .i64 0, .int .i64 0, .int .i64 0, .int .i64 0, .int .i64 0, .int .i64 0, .int .i64 0]
 have cA := chg0_alloc w (Obj.cells #[.int .i64 0, .int .i64 0, .int .i64 0, .int .i64 0, .int .i64 0, .int .i64 0, .int .i64 0, .int .i64 0, .int .i64 0, .int .i64 0, .int .i64 0, .int .i64 0, .int .i64 0] 209)
 have H := h.chg cA (fun h => h)
 obtain ⟨p, hp⟩ : ∃ p, p = w.heap.size := ⟨_, rfl⟩
 rw [← hp] at A
 have hbp : b < p := by rw [hp]; exact h.lt
 have HP := Lib.hid hp
 clear h hp
 go_enter Tryz.func140, Tryz.ntmps140
 go_upto_region 1 with (fail)
 rw [← HP.out]
 generalize w.alloc (Obj.cells #[.int .i64 0, .int .i64 0, .int .i64 0, .int .i64 0, .int .i64 0, .int .i64 0, .int .i64 0, .int .i64 0, .int .i64 0, .int .i64 0, .int .i64 0, .int .i64 0, .int .i64 0] 209) = w1 at *
 have k0 := H.cell 0
 have k1 := H.cell 1
 have k2 := H.cell 2
 have k3 := H.cell 3
 have k4 := H.cell 4
 have k5 := H.cell 5
 have k6 := H.cell 6
 have k7 := H.cell 7
 have k8 := H.cell 8
 have k9 := H.cell 9
 have k10 := H.cell 10
 have k11 := H.cell 11
 have k12 := H.cell 12
 simp at k0 k1 k2 k3 k4 k5 k6 k7 k8 k9 k10 k11 k12
 have z0 := A.frozen 0
 have y0 := A.cell 0
 have z1 := A.frozen 1
 have y1 := A.cell 1
 have z2 := A.frozen 2
 have y2 := A.cell 2
 have z3 := A.frozen 3
 have y3 := A.cell 3
 have z4 := A.frozen 4
 have y4 := A.cell 4
 have z5 := A.frozen 5
 have y5 := A.cell 5
 have z6 := A.frozen 6
 have y6 := A.cell 6
 have z7 := A.frozen 7
 have y7 := A.cell 7
 have z8 := A.frozen 8
 have y8 := A.cell 8
 have z9 := A.frozen 9
 have y9 := A.cell 9
 have z10 := A.frozen 10
 have y10 := A.cell 10
 have z11 := A.frozen 11
 have y11 := A.cell 11
 have z12 := A.frozen 12
 have y12 := A.cell 12
 simp at y0 y1 y2 y3 y4 y5 y6 y7 y8 y9 y10 y11 y12
 have HA := Lib.hid A
 have HCA := Lib.hid cA
 clear A cA H
 go_wp2_with fail
 have B := (((((((((((((HA.out.set_ 0 (.int .i64 c0)).set_ 1 (.int .i64 c1)).set_ 2 (.int .i64 c2)).set_ 3 (.int .i64 c3)).set_ 4 (.int .i64 c4)).set_ 5 (.int .i64 c5)).set_ 6 (.int .i64 c6)).set_ 7 (.int .i64 c7)).set_ 8 (.int .i64 c8)).set_ 9 (.int .i64 c9)).set_ 10 (.int .i64 c10)).set_ 11 (.int .i64 c11)).set_ 12 (.int .i64 c12))
 have m0 := B.cell 0
 have m1 := B.cell 1
 have m2 := B.cell 2
 have m3 := B.cell 3
 have m4 := B.cell 4
 have m5 := B.cell 5
 have m6 := B.cell 6
 have m7 := B.cell 7
 have m8 := B.cell 8
 have m9 := B.cell 9
 have m10 := B.cell 10
 have m11 := B.cell 11
 have m12 := B.cell 12
 simp at m0 m1 m2 m3 m4 m5 m6 m7 m8 m9 m10 m11 m12
 have hnp : ∀ {k : Nat}, (⟨p, k, none⟩ : Addr).block < w.heap.size → False := fun h => by have h' : p < w.heap.size := h; have := HP.out; omega
 refine bodyPost_ret (v := .agg #[.int .i64 c0, .int .i64 c1, .int .i64 c2, .int .i64 c3, .int .i64 c4, .int .i64 c5, .int .i64 c6, .int .i64 c7, .int .i64 c8, .int .i64 c9, .int .i64 c10, .int .i64 c11, .int .i64 c12]) ?_ ?_ ?_
 ·simp [results, Tryz.results140, go_sem, m0, m1, m2, m3, m4, m5, m6, m7, m8, m9, m10, m11, m12]
 ·rfl
 ·exact ⟨rfl, (((((((((((((HCA.out.setCell (p := ⟨p, 0, none⟩) hnp (.int .i64 c0)).setCell (p := ⟨p, 1, none⟩) hnp (.int .i64 c1)).setCell (p := ⟨p, 2, none⟩) hnp (.int .i64 c2)).setCell (p := ⟨p, 3, none⟩) hnp (.int .i64 c3)).setCell (p := ⟨p, 4, none⟩) hnp (.int .i64 c4)).setCell (p := ⟨p, 5, none⟩) hnp (.int .i64 c5)).setCell (p := ⟨p, 6, none⟩) hnp (.int .i64 c6)).setCell (p := ⟨p, 7, none⟩) hnp (.int .i64 c7)).setCell (p := ⟨p, 8, none⟩) hnp (.int .i64 c8)).setCell (p := ⟨p, 9, none⟩) hnp (.int .i64 c9)).setCell (p := ⟨p, 10, none⟩) hnp (.int .i64 c10)).setCell (p := ⟨p, 11, none⟩) hnp (.int .i64 c11)).setCell (p := ⟨p, 12, none⟩) hnp (.int .i64 c12))⟩
theorem idx209 (c0 c1 c2 c3 c4 c5 c6 c7 c8 c9 c10 c11 c12 : Int) (j : Nat) (hj : j < 13) : ∃ z ∈ [c0, c1, c2, c3, c4, c5, c6, c7, c8, c9, c10, c11, c12], ∀ w, (Instr.index 209 (.agg #[.int .i64 c0, .int .i64 c1, .int .i64 c2, .int .i64 c3, .int .i64 c4, .int .i64 c5, .int .i64 c6, .int .i64 c7, .int .i64 c8, .int .i64 c9, .int .i64 c10, .int .i64 c11, .int .i64 c12]) (.int .i64 j)).run Tryz.prog w = .ok (.int .i64 z) w := by
 match j, hj with
 | 0, _ => exact ⟨c0, by simp, fun w => by kernel_rfl⟩
 | 1, _ => exact ⟨c1, by simp, fun w => by kernel_rfl⟩
 | 2, _ => exact ⟨c2, by simp, fun w => by kernel_rfl⟩
 | 3, _ => exact ⟨c3, by simp, fun w => by kernel_rfl⟩
 | 4, _ => exact ⟨c4, by simp, fun w => by kernel_rfl⟩
 | 5, _ => exact ⟨c5, by simp, fun w => by kernel_rfl⟩
 | 6, _ => exact ⟨c6, by simp, fun w => by kernel_rfl⟩
 | 7, _ => exact ⟨c7, by simp, fun w => by kernel_rfl⟩
 | 8, _ => exact ⟨c8, by simp, fun w => by kernel_rfl⟩
 | 9, _ => exact ⟨c9, by simp, fun w => by kernel_rfl⟩
 | 10, _ => exact ⟨c10, by simp, fun w => by kernel_rfl⟩
 | 11, _ => exact ⟨c11, by simp, fun w => by kernel_rfl⟩
 | 12, _ => exact ⟨c12, by simp, fun w => by kernel_rfl⟩
end
section
open Go Go.RowKit Go.Chron
structure TxtAt (w0 : World) (v : Value) (j : Nat) (w : World) : Prop where
 ex : ∃ (g : Option Nat) (L : List ByteArray), L.length ≤ j ∧ (∀ s ∈ L, s.size ≤ 200) ∧ Owns w 9 1 v g (L.map strc) ∧ ∀ k, g = some k → w0.heap.size ≤ k
 c : Chg (fun _ => False) w0 w
theorem join_len (sep : List UInt8) (L : List (List UInt8)) (h : ∀ s ∈ L, s.length ≤ 200) : (Lib.join L sep).length ≤ L.length * (200 + sep.length) := by
 cases L with
 | nil => simp [Lib.join_nil]
 | cons x r =>
  rw [Lib.join_cons, List.length_append, Lib.joinTail_length]
  have hx := h x (by simp)
  have hr : ∀ r : List (List UInt8), (∀ s ∈ r, s.length ≤ 200) → Lib.lens r ≤ r.length * 200 := by
   intro r hr
   induction r with
   | nil => simp [Lib.lens]
   | cons y r ih =>
    have h1 := hr y (by simp)
    have h2 := ih (fun s hs => hr s (List.mem_cons_of_mem _ hs))
    simp only [Lib.lens, List.map_cons, List.sum_cons, List.length_cons] at h2 ⊢
    rw [Nat.succ_mul]; omega
  have h1 := hr r (fun s hs => h s (List.mem_cons_of_mem _ hs))
  rw [List.length_cons, Nat.succ_mul, Nat.mul_add, Nat.mul_comm sep.length]
  omega
theorem join143 (a : Option Addr) (cap : Nat) (g : Option Nat) (L : List ByteArray) (w : World) (ho : Owns w 9 1 (.slice a L.length cap) g (L.map strc)) (hl : L.length ≤ 13) (hs : ∀ s ∈ L, s.size ≤ 200) (hc : L.length ≤ cap) :
  Calls Tryz.prog 143 #[.slice a L.length cap, .string ⟨#[44, 32]⟩] w fun e w' => (∃ s, e = .returned (.string s)) ∧ Chg (fun _ => False) w w' := by
 cases hL : L with
 | nil =>
  refine (Tryz.strings_Join_none a cap ⟨#[44, 32]⟩ w).mono ?_
  rintro e w9 ⟨rfl, rfl⟩
  exact ⟨⟨_, rfl⟩, Chg.refl _ _⟩
 | cons s0 L0 =>
  obtain ⟨k, hk⟩ := ho.pos (by rw [List.length_map, hL]; simp)
  rw [hk] at ho
  have hb := ho.lt k rfl
  obtain ⟨cap', hv, _⟩ := ho.some_form
  have hva : a = some ⟨k, 0, none⟩ := by injection hv
  rw [hva]
  refine (Tryz.strings_Join k 0 cap (s0 :: L0) ⟨#[44, 32]⟩ w ?_ hb ?_ ?_ ?_).mono ?_
  ·intro i x hx
   have := ho.cell rfl (i := i) (by rw [List.getElem?_map, hL, hx]; rfl) (j := 0) rfl
   simpa using this
  ·rw [← hL]; omega
  ·rw [← hL]; exact hc
  ·rw [← hL]
   have h1 := join_len [44, 32] (L.map (·.data.toList)) (fun s hs' => by
    obtain ⟨t, ht, rfl⟩ := List.mem_map.1 hs'
    exact hs t ht)
   rw [List.length_map] at h1
   have h2 : L.length * (200 + ([44, 32] : List UInt8).length) ≤ 13 * 202 := Nat.mul_le_mul_right _ hl
   exact Nat.le_trans h1 (by omega)
  ·rintro e w9 ⟨rfl, hb⟩
   exact ⟨⟨_, rfl⟩, Chg.of_bel hb⟩
theorem text108 {n b : Nat} {cs : List Int} {w : World} (h : Blk w b 211 (cntc cs)) (hl : cs.length = 13) (hz : ∀ z ∈ cs, 0 ≤ z ∧ z ≤ 1000000) (ht : Told n w) :
  Calls Tryz.prog 108 #[.pointer (some ⟨b, 0, none⟩)] w fun e w' => (∃ s, e = .returned (.string s)) ∧ Chg (fun _ => False) w w' := by
 obtain ⟨c0, c1, c2, c3, c4, c5, c6, c7, c8, c9, c10, c11, c12, rfl⟩ := len13 hl
 obtain ⟨i0, hi, hz0, hz1, hz2⟩ := info_parts info9
 have HAL := Lib.hid (all140 b c0 c1 c2 c3 c4 c5 c6 c7 c8 c9 c10 c11 c12 w h)
 have HIX := Lib.hid (fun j hj => idx209 c0 c1 c2 c3 c4 c5 c6 c7 c8 c9 c10 c11 c12 j hj)
 have HT := Lib.hid ht
 have HZ := Lib.hid hz
 clear h hl hz ht
 go_enter Tryz.func108, Tryz.ntmps108
 go_wp2_with fail
 refine HAL.out.mono ?_
 rintro e w1 ⟨rfl, c1⟩
 have HC1 := Lib.hid c1
 clear c1 HAL
 obtain ⟨arr, harr⟩ : ∃ arr : Value, arr = .agg #[.int .i64 c0, .int .i64 c1, .int .i64 c2, .int .i64 c3, .int .i64 c4, .int .i64 c5, .int .i64 c6, .int .i64 c7, .int .i64 c8, .int .i64 c9, .int .i64 c10, .int .i64 c11, .int .i64 c12] := ⟨_, rfl⟩
 rw [← harr]
 rw [← harr] at HIX
 have HARR := Lib.hid harr
 clear harr
 go_wp2_with fail
 go_loopw [8, 3] (fun i v wr => ∃ j : Nat, j ≤ 13 ∧ i = .int .i64 j ∧ TxtAt w v j wr) (fun i _ _ => 13 - (intOf i).toNat)
 case atStart => exact ⟨0, by omega, rfl, ⟨none, [], by simp, by simp, Owns.nil _ _ _, by simp⟩, HC1.out⟩
 case round =>
  obtain ⟨j, hj, rfl, ⟨g, L, l1, l2, l3, l4⟩, c2⟩ := hrel
  by_cases hjm : j < 13
  ·have hjI : (j : Int) < 13 := by omega
   obtain ⟨z, hzm, hix⟩ := HIX.out j hjm
   have hz0' := HZ.out z hzm
   have HW := Lib.hid (And.intro l1 (And.intro l2 (And.intro l3 (And.intro l4 c2))))
   clear l1 l2 l3 l4 c2 hzm
   by_cases hzp : 0 < z
   ·have hil := Lib.itoa_length_le z (by omega) (by omega)
    have HNM := Lib.hid (fun W' (hW : Chg (fun _ => False) wr W') => names141 ((HT.out.chg0 HW.out.2.2.2.2).chg0 hW))
    have HIT := Lib.hid (fun W' (hW : Chg (fun _ => False) wr W') => (show Calls Tryz.prog 142 #[.int .i64 z] W' fun e w' => e = .returned (.string ⟨(Lib.itoa z).toArray⟩) ∧ Chg (fun _ => False) W' w' from by
     obtain ⟨gp, g1, g2, g3⟩ := ((HT.out.chg0 HW.out.2.2.2.2).chg0 hW).pw
     refine (Tryz.strconv_Itoa z (by omega) (by omega) W' g3).mono ?_
     rintro e w9 ⟨rfl, k, os, rfl⟩
     exact ⟨rfl, chg_grow _ _ _⟩))
    go_upto_region 6 with (fail)
    refine wp_region_noPanic ?_
    refine wp_region_till (s := 10) (S := fun w' => Chg (fun _ => False) wr w') (by kernel_rfl) ?_
    have hHeld : Chg (fun _ => False) wr wr.drew := Chg.drew (Chg.refl _ _)
    refine wP 0 14 _ (fun _ => hHeld) ?_
    refine wP 2 16 _ (fun _ => hHeld) ?_
    refine wP 6 20 _ (fun _ => hHeld) ?_
    refine wpTill_one (i := 1) (oi := ⟨some 15, _, _, _, _, _⟩) rfl (by kernel_rfl) (fun KK hKK => ?_)
    go_simp
    refine (HNM.out _ kC).mono ?_
    rintro e w5 ⟨kn, capn, zs, rfl, hcn, hzs, c5⟩
    have cT5 : Chg (fun _ => False) wr w5 := Chg.trans kC c5
    obtain ⟨s0, hs0, hs1, f0⟩ := hzs j hjm
    have hjc : j < capn := by omega
    have hcat1 : ¬ 9223372036854775807 < s0.size + 1 := by omega
    have hcat2 : ¬ 9223372036854775807 < s0.size + 1 + (Lib.itoa z).length := by omega
    have HZZ := Lib.hid (And.intro hs0 hs1)
    clear hzs hcn hs0 hs1 c5
    refine hKK _ _ (andS kC (fun hHeld' => ?_))
    clear hKK KK
    try simp only [Act.put, qA, qB, qC]
    refine wP 3 17 _ (fun _ => hHeld') ?_
    refine wpTill_more [4, 7] (by kernel_rfl) (by simp) (TillAll.cons (i := 4) (oi := ⟨some 18, _, _, _, _, _⟩) rfl (fun KK hKK => ?_) (TillAll.cons (i := 7) (oi := ⟨some 21, _, _, _, _, _⟩) rfl (fun KK hKK => ?_) TillAll.nil))
    ·go_simp
     refine hKK _ _ (andS kC (fun hHeld'' => ?_))
     clear hKK KK
     try simp only [Act.put, qA, qB, qC]
     refine wP 5 19 _ (fun _ => hHeld'') ?_
     refine wpTill_one (i := 7) (oi := ⟨some 21, _, _, _, _, _⟩) rfl (by kernel_rfl) (fun KK hKK => ?_)
     go_simp
     refine (HIT.out _ kC).mono ?_
     rintro e w6 ⟨rfl, c6⟩
     have cT6 : Chg (fun _ => False) wr w6 := Chg.trans kC c6
     have f1 := c6.keep f0 (fun h => h)
     clear c6
     refine hKK _ _ (andS kC (fun hHeld''' => ?_))
     clear hKK KK
     try simp only [Act.put, qA, qB, qC]
     refine wP 8 22 _ (fun _ => hHeld''') ?_
     refine wpTill_one (i := 9) (oi := ⟨some 23, _, _, _, _, _⟩) rfl (by kernel_rfl) (fun KK hKK => ?_)
     go_simp
     refine hKK _ _ (andS kC (fun hHeld'''' => ?_))
     clear hKK KK
     try simp only [Act.put, qA, qB, qC]
     refine wpTill_one (i := 10) (oi := ⟨some 24, _, _, _, _, _⟩) rfl (by kernel_rfl) (fun KK hKK => ?_)
     refine step_app (by rfl) (.tmp 14) (.tmp 23) 166 (by rfl) 9 i0 _ 1 16 Tryz.underlying166 hi hz0 hz1 hz2 rfl (by omega) _ g (L.map strc) (by rfl) (HW.out.2.2.1.chg (show Chg (fun _ => False) wr _ from kC) (fun _ _ h => h)) _ _ [[.string (s0 ++ ⟨#[32]⟩ ++ ⟨(Lib.itoa z).toArray⟩)]] 1 1 (by rfl) rfl (Blk.new _ _ _) (by simp) (by simp [Value.oneCell']) (by simp) (by have := HW.out.1; simp; omega) (by have := HW.out.1; simp [maxLen]; omega) ?_
     intro k1 cap1 v1 ho1 hch1 hk1
     have cT8 : Chg (fun i => g = some i) wr v1 := Chg.trans (Chg.mono (S := fun _ => False) kC (fun _ _ h => h.elim)) hch1
     have hsz9 : wr.heap.size ≤ k1 ∨ g = some k1 := hk1.symm.imp (fun h => Nat.le_trans (Chg.size (S := fun _ => False) kC) h) id
     refine hKK _ _ ⟨(fun h => (by simp at h)), ?_⟩
     clear hKK KK
     try simp only [Act.put, qA, qB, qC]
     refine wP 11 3 _ (fun h => (by simp at h)) ?_
     refine wpTill_done (by kernel_rfl) ?_
     refine NoPanic.normal ?_
     have HO := Lib.hid (And.intro ho1 (And.intro cT8 hsz9))
     clear ho1 cT8 hk1 hch1 hsz9
     go_wp2_with fail
     refine ⟨⟨j + 1, by omega, by simp, ⟨some k1, L ++ [s0 ++ ⟨#[32]⟩ ++ ⟨(Lib.itoa z).toArray⟩], ?_, ?_, ?_, ?_⟩, ?_⟩, by simp [intOf]; omega⟩
     ·have := HW.out.1; simp; omega
     ·intro t ht
      rcases List.mem_append.1 ht with ht | ht
      ·exact HW.out.2.1 t ht
      ·rw [List.mem_singleton.1 ht]
       have h1 := HZZ.out.2
       rw [ByteArray.size_append, ByteArray.size_append]
       show s0.size + 1 + (Lib.itoa z).toArray.size ≤ 200
       rw [List.size_toArray]; omega
     ·have := HO.out.1
      rw [List.map_append]
      simpa [strc] using this
     ·intro k hk
      cases hk
      rcases HO.out.2.2 with h | h
      ·have := HW.out.2.2.2.2.size; omega
      ·exact HW.out.2.2.2.1 _ h
     ·refine HW.out.2.2.2.2.trans' HO.out.2.1 (fun i hi e => ?_)
      have := HW.out.2.2.2.1 i e
      omega
    ·go_simp
     refine (HIT.out _ kC).mono ?_
     rintro e w6 ⟨rfl, c6⟩
     have cT6 : Chg (fun _ => False) wr w6 := Chg.trans kC c6
     have f1 := c6.keep f0 (fun h => h)
     clear c6
     refine hKK _ _ (andS kC (fun hHeld'' => ?_))
     clear hKK KK
     try simp only [Act.put, qA, qB, qC]
     refine wpTill_one (i := 4) (oi := ⟨some 18, _, _, _, _, _⟩) rfl (by kernel_rfl) (fun KK hKK => ?_)
     go_simp
     refine hKK _ _ (andS kC (fun hHeld''' => ?_))
     clear hKK KK
     try simp only [Act.put, qA, qB, qC]
     refine wP 5 19 _ (fun _ => hHeld''') ?_
     refine wP 8 22 _ (fun _ => hHeld''') ?_
     refine wpTill_one (i := 9) (oi := ⟨some 23, _, _, _, _, _⟩) rfl (by kernel_rfl) (fun KK hKK => ?_)
     go_simp
     refine hKK _ _ (andS kC (fun hHeld'''' => ?_))
     clear hKK KK
     try simp only [Act.put, qA, qB, qC]
     refine wpTill_one (i := 10) (oi := ⟨some 24, _, _, _, _, _⟩) rfl (by kernel_rfl) (fun KK hKK => ?_)
     refine step_app (by rfl) (.tmp 14) (.tmp 23) 166 (by rfl) 9 i0 _ 1 16 Tryz.underlying166 hi hz0 hz1 hz2 rfl (by omega) _ g (L.map strc) (by rfl) (HW.out.2.2.1.chg (show Chg (fun _ => False) wr _ from kC) (fun _ _ h => h)) _ _ [[.string (s0 ++ ⟨#[32]⟩ ++ ⟨(Lib.itoa z).toArray⟩)]] 1 1 (by rfl) rfl (Blk.new _ _ _) (by simp) (by simp [Value.oneCell']) (by simp) (by have := HW.out.1; simp; omega) (by have := HW.out.1; simp [maxLen]; omega) ?_
     intro k1 cap1 v1 ho1 hch1 hk1
     have cT8 : Chg (fun i => g = some i) wr v1 := Chg.trans (Chg.mono (S := fun _ => False) kC (fun _ _ h => h.elim)) hch1
     have hsz9 : wr.heap.size ≤ k1 ∨ g = some k1 := hk1.symm.imp (fun h => Nat.le_trans (Chg.size (S := fun _ => False) kC) h) id
     refine hKK _ _ ⟨(fun h => (by simp at h)), ?_⟩
     clear hKK KK
     try simp only [Act.put, qA, qB, qC]
     refine wP 11 3 _ (fun h => (by simp at h)) ?_
     refine wpTill_done (by kernel_rfl) ?_
     refine NoPanic.normal ?_
     have HO := Lib.hid (And.intro ho1 (And.intro cT8 hsz9))
     clear ho1 cT8 hk1 hch1 hsz9
     go_wp2_with fail
     refine ⟨⟨j + 1, by omega, by simp, ⟨some k1, L ++ [s0 ++ ⟨#[32]⟩ ++ ⟨(Lib.itoa z).toArray⟩], ?_, ?_, ?_, ?_⟩, ?_⟩, by simp [intOf]; omega⟩
     ·have := HW.out.1; simp; omega
     ·intro t ht
      rcases List.mem_append.1 ht with ht | ht
      ·exact HW.out.2.1 t ht
      ·rw [List.mem_singleton.1 ht]
       have h1 := HZZ.out.2
       rw [ByteArray.size_append, ByteArray.size_append]
       show s0.size + 1 + (Lib.itoa z).toArray.size ≤ 200
       rw [List.size_toArray]; omega
     ·have := HO.out.1
      rw [List.map_append]
      simpa [strc] using this
     ·intro k hk
      cases hk
      rcases HO.out.2.2 with h | h
      ·have := HW.out.2.2.2.2.size; omega
      ·exact HW.out.2.2.2.1 _ h
     ·refine HW.out.2.2.2.2.trans' HO.out.2.1 (fun i hi e => ?_)
      have := HW.out.2.2.2.1 i e
      omega
   ·go_wp2_with fail
    obtain ⟨h1, h2, h3, h4, h5⟩ := HW.out
    exact ⟨⟨j + 1, by omega, by simp, ⟨g, L, by omega, h2, h3, h4⟩, h5⟩, by simp [intOf]; omega⟩
  ·have HW := Lib.hid (And.intro l1 (And.intro l2 (And.intro l3 (And.intro l4 c2))))
   clear l1 l2 l3 l4 c2
   have hl13 : L.length ≤ 13 := by have := HW.out.1; omega
   obtain ⟨a, cap, hv, hv1, hv2, hvn, hva⟩ := HW.out.2.2.1.form
   rw [List.length_map] at hv hv1
   subst hv
   clear hva hvn hv2
   have HJ := Lib.hid (join143 a cap g L wr HW.out.2.2.1 hl13 HW.out.2.1 hv1)
   go_wp2_with fail
   refine HJ.out.mono ?_
   rintro e w9 ⟨⟨s, rfl⟩, c9⟩
   have HC9 := Lib.hid (And.intro c9 HW.out.2.2.2.2)
   clear c9
   go_wp2_with fail
   go_ret
   exact ⟨⟨s, rfl⟩, HC9.out.2.trans HC9.out.1⟩
theorem counts68 {N n b : Nat} {d : Dm} {B : DB} {w : World} (h : DAt N w b d B) (hN : N ≤ 1000000) (ht : Told n w) : Calls Tryz.prog 68 #[.pointer (some ⟨b, 0, none⟩)] w fun e w' => (∃ s, e = .returned (.string s)) ∧ Chg (fun _ => False) w w' := by
 have k5 := h.box.cell 10
 simp [dmc] at k5
 have HT := Lib.hid (text108 h.cnt h.ok.lc (fun z hz => by have := h.ok.ct z hz; omega) ht)
 clear h ht
 go_enter Tryz.func68, Tryz.ntmps68
 go_wp2_with fail
 refine HT.out.mono ?_
 rintro e w9 ⟨⟨s, rfl⟩, c9⟩
 have HC9 := Lib.hid c9
 clear c9
 go_wp2_with fail
 go_ret
 exact ⟨⟨s, rfl⟩, HC9.out⟩
theorem counts32 {N n b : Nat} {W : Wm} {B : WB} {w : World} (h : WAt N w b W B) (hN : N ≤ 1000000) (ht : Told n w) : Calls Tryz.prog 32 #[.pointer (some ⟨b, 0, none⟩)] w fun e w' => (∃ s, e = .returned (.string s)) ∧ Chg (fun _ => False) w w' := by
 have k0 := h.box.cell 0
 simp [wmc] at k0
 have HT := Lib.hid (counts68 h.d hN ht)
 clear h ht
 go_enter Tryz.func32, Tryz.ntmps32
 go_wp2_with fail
 refine HT.out.mono ?_
 rintro e w9 ⟨⟨s, rfl⟩, c9⟩
 have HC9 := Lib.hid c9
 clear c9
 go_wp2_with fail
 go_ret
 exact ⟨⟨s, rfl⟩, HC9.out⟩
end
section
open Go Go.RowKit Go.Chron
def dgt (m : Nat) : UInt8 := UInt8.ofNat (48 + m % 10)
theorem dgt_nat (m : Nat) : (dgt m).toNat = 48 + m % 10 := by unfold dgt; rw [UInt8.toNat_ofNat']; omega
def txt : Nat → Nat → List UInt8 → List UInt8
 | 0, _, s => s
 | f + 1, m, s => if m = 0 ∧ s ≠ [] then s else txt f (m / 10) (dgt m :: s)
def textI (n : Nat) : List UInt8 := txt 11 n []
def strLen (v : Value) : Nat := match v with | .string b => b.size | _ => 0
theorem text28 (n : Nat) (hn : n ≤ 1000000000) (w : World) : Calls Tryz.prog 28 #[.int .i64 n] w fun e w' => e = .returned (.string ⟨(textI n).toArray⟩) ∧ Chg (fun _ => False) w w' := by
 have h0 : ¬ (n : Int) < 0 := by omega
 have h1 : ¬ (1000000000 : Int) < n := by omega
 go_enter Tryz.func28, Tryz.ntmps28
 go_wp2_with fail
 go_loopw [0, 3] (fun v0 v3 wr => ∃ (f m : Nat) (s : List UInt8), v0 = .int .i64 m ∧ v3 = .string ⟨s.toArray⟩ ∧ txt f m s = textI n ∧ m < 10 ^ f ∧ m ≤ 1000000000 ∧ s.length + f = 11 ∧ Chg (fun _ => False) w wr) (fun _ v3 _ => 11 - strLen v3)
 case atStart => exact ⟨11, n, [], rfl, rfl, rfl, by omega, hn, rfl, Chg.refl _ _⟩
 case round =>
  obtain ⟨f, m, s, rfl, rfl, ht, hm, hm9, hl, hc⟩ := hrel
  by_cases hx : m = 0 ∧ s ≠ []
  ·obtain ⟨rfl, hs⟩ := hx
   cases s with
   | nil => exact absurd rfl hs
   | cons a s =>
    have hts : txt f 0 (a :: s) = a :: s := by cases f with | zero => rfl | succ f => simp [txt]
    rw [hts] at ht
    have HT := Lib.hid ht
    have HC := Lib.hid hc
    clear ht hc hts hm hl hs
    go_wp2_with fail
    go_ret
    exact ⟨by rw [← HT.out]; rfl, HC.out⟩
  ·have hcv : ∀ W : World, (convert 66 9 (.slice (some ⟨W.heap.size, 0, none⟩) 1 1)).run Tryz.prog (W.alloc (Obj.cells #[.int .u8 (48 + (m : Int) % 10)] 5)) = .ok (.string ⟨#[dgt m]⟩) (W.alloc (Obj.cells #[.int .u8 (48 + (m : Int) % 10)] 5)) := fun W => by
    have := run_convert_bytes_back (P := Tryz.prog) (W.alloc (Obj.cells #[.int .u8 (48 + (m : Int) % 10)] 5)) 66 9 5 ⟨W.heap.size, 0, none⟩ 1 [dgt m] Tryz.underlying66 Tryz.underlying5 Tryz.underlying9 (fun j hj => by
     have hj0 : j = 0 := by simpa using hj
     subst hj0
     have q := (Blk.new W 5 #[.int .u8 (48 + (m : Int) % 10)]).cell 0
     rw [Addr.add_lit, q]
     have hz := dgt_nat m
     simp [hz])
    exact this
   have hsl : ¬ 9223372036854775807 < 1 + s.length := by omega
   have hnext : txt (f - 1) (m / 10) (dgt m :: s) = textI n ∧ 1 ≤ f := by
    cases f with
    | zero =>
     exfalso
     apply hx
     refine ⟨by simpa using hm, fun h => ?_⟩
     rw [h] at hl; simp at hl
    | succ f =>
     rw [txt, if_neg hx] at ht
     exact ⟨ht, by omega⟩
   have hm10 : m / 10 < 10 ^ (f - 1) := by
    obtain ⟨g, rfl⟩ : ∃ g, f = g + 1 := ⟨f - 1, by omega⟩
    rw [Nat.pow_succ] at hm
    show m / 10 < 10 ^ g
    omega
   have happ : (⟨#[dgt m]⟩ ++ ⟨s.toArray⟩ : ByteArray) = ⟨(dgt m :: s).toArray⟩ := by
    apply ByteArray.ext
    simp
   have HH := Lib.hid (And.intro hnext (And.intro hm10 (And.intro happ (And.intro hl hc))))
   have hmd : ((m / 10 : Nat) : Int) = (m : Int) / 10 := by omega
   have HMD := Lib.hid hmd
   clear hnext hm10 happ hl hc ht hm hmd
   by_cases hm0 : m = 0
   ·subst hm0
    have hs0 : s = [] := by
     cases s with
     | nil => rfl
     | cons a s => exact absurd ⟨rfl, by simp⟩ hx
    subst hs0
    clear hx
    have hcv0 : ∀ W : World, (convert 66 9 (.slice (some ⟨W.heap.size, 0, none⟩) 1 1)).run Tryz.prog (W.alloc (Obj.cells #[.int .u8 48] 5)) = .ok (.string ⟨#[dgt 0]⟩) (W.alloc (Obj.cells #[.int .u8 48] 5)) := by simpa using hcv
    clear hcv
    go_wp2_with fail
    have e0 : (⟨#[dgt 0]⟩ ++ ⟨#[]⟩ : ByteArray) = ⟨[dgt 0].toArray⟩ := HH.out.2.2.1
    refine ⟨⟨f - 1, 0, [dgt 0], rfl, by rw [e0], HH.out.1.1, by have := HH.out.2.1; simpa using this, by omega, by have h1 := HH.out.2.2.2.1; have h2 := HH.out.1.2; simp at h1 ⊢; omega, HH.out.2.2.2.2.alloc _⟩, ?_⟩
    rw [e0]
    show 11 - [dgt 0].toArray.size < 11 - 0
    simp
   ·have hmp : (0 : Int) < m := by omega
    clear hx
    go_wp2_with fail
    refine ⟨⟨f - 1, m / 10, dgt m :: s, by rw [HMD.out], by rw [HH.out.2.2.1], HH.out.1.1, HH.out.2.1, by omega, by have h1 := HH.out.2.2.2.1; have h2 := HH.out.1.2; simp; omega, HH.out.2.2.2.2.alloc _⟩, ?_⟩
    rw [HH.out.2.2.1]
    have h1 := HH.out.2.2.2.1
    have h2 := HH.out.1.2
    show 11 - (dgt m :: s).toArray.size < 11 - s.toArray.size
    simp
    omega
end
end Go.Proofs.YtamhicdhbjniiaaGreatDoor
