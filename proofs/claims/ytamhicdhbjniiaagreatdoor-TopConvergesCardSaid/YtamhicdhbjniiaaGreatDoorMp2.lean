/- A path's config and ways: contract. A path's steps: contract. A path's config: its text is read again as it is; its servers, and their ways. A path that comes in as an argument. -/
import Derived.Test.YtamhicdhbjniiaaGreatDoorM36
import Derived.Test.YtamhicdhbjniiaaGreatDoorM06
import Derived.Test.YtamhicdhbjniiaaGreatDoorM48
import Derived.Test.YtamhicdhbjniiaaGreatDoorM46
import Derived.Test.YtamhicdhbjniiaaGreatDoorM44
import Derived.Test.YtamhicdhbjniiaaGreatDoorMp1
import Derived.Test.YtamhicdhbjniiaaGreatDoorM11
set_option linter.unusedVariables false
set_option maxHeartbeats 6400000
set_option maxRecDepth 100000
namespace Go.Proofs.YtamhicdhbjniiaaGreatDoor
section
open Go Go.RowKit Go.Chron
structure Pth where
 sv : Int
 li : Int
 qu : Int
 mo : Int
 ra : Int
 wa : Int
 st : Int
 off : Int
 wx : List (Int × Int)
 lie : Int
structure Pth.Ok (p : Pth) : Prop where
 sv : 0 ≤ p.sv ∧ p.sv < 256
 li : 0 ≤ p.li ∧ p.li < 256
 qu : 0 ≤ p.qu ∧ p.qu < 256
 mo : 0 ≤ p.mo ∧ p.mo < 256
 ra : 0 ≤ p.ra ∧ p.ra < 256
 wa : 0 ≤ p.wa ∧ p.wa < 256
 st : 0 ≤ p.st ∧ p.st < 4294967296
 off : -2147483648 ≤ p.off ∧ p.off < 2147483648
 wx : ∀ x ∈ p.wx, (0 ≤ x.1 ∧ x.1 < 4294967296) ∧ 0 ≤ x.2 ∧ x.2 < 4294967296
 lie : 0 ≤ p.lie ∧ p.lie < 18446744073709551616
def Pth.n (p : Pth) : Int := 1 + p.sv % 5
def Pth.lies (p : Pth) : Int := p.li % ((p.n + 2) / 3)
def Pth.quo (p : Pth) : Int := 2 * p.lies + 1 + p.qu % (p.n - 3 * p.lies)
def Pth.most (p : Pth) : Int := 4 + p.mo % 5
def Pth.step (p : Pth) : Int := 100000000 + p.st % 900000001
def Pth.rate (p : Pth) : Int := p.ra % 101
def Pth.x (p : Pth) (i : Nat) : Int × Int := p.wx.getD (i % p.wx.length) (0, 0)
def Pth.way (p : Pth) (i : Nat) : Way :=
 ⟨if (i : Int) < p.lies then 1 else 0, (p.x i).1 % 25000000, 0, (p.x i).2 % 25000000, (i : Int) * 100, if (i : Int) < p.lies then (p.lie + (i : Int)) % 18446744073709551616 else 0⟩
def Pth.ways (p : Pth) (j : Nat) : List Way := (List.range j).map p.way
def Pth.srv (j : Nat) : List Int := (List.range j).map fun i : Nat => 1 + (i : Int)
def Pth.cfg (p : Pth) : Cfg := ⟨Pth.srv p.n.toNat, p.quo, 4, p.most, 2000, 500⟩
def pthc (p : Pth) (a : Option Addr) (cap : Nat) : Array Value := #[.int .u8 p.sv, .int .u8 p.li, .int .u8 p.qu, .int .u8 p.mo, .int .u8 p.ra, .int .u8 p.wa, .int .u32 p.st, .int .i32 p.off, .slice a p.wx.length cap, .int .u64 p.lie]
theorem Pth.bounds {p : Pth} (o : p.Ok) : (1 ≤ p.n ∧ p.n ≤ 5) ∧ (0 ≤ p.lies ∧ 3 * p.lies ≤ p.n - 1) ∧ (2 * p.lies + 1 ≤ p.quo ∧ p.quo ≤ p.n - p.lies) ∧ (4 ≤ p.most ∧ p.most ≤ 8) ∧ (100000000 ≤ p.step ∧ p.step ≤ 1000000000) ∧ 0 ≤ p.rate ∧ p.rate ≤ 100 := by
 obtain ⟨h0, h1, h2, h3, h4, h5, h6, h7, h8, h9⟩ := o
 have hn : 1 ≤ p.n ∧ p.n ≤ 5 := by unfold Pth.n; omega
 have hl : 0 ≤ p.lies ∧ 3 * p.lies ≤ p.n - 1 := by
  unfold Pth.lies
  have hd : 0 < (p.n + 2) / 3 := by omega
  have a := Int.emod_nonneg p.li (show (p.n + 2) / 3 ≠ 0 by omega)
  have b := Int.emod_lt_of_pos p.li hd
  omega
 refine ⟨hn, hl, ?_, by unfold Pth.most; omega, by unfold Pth.step; omega, by unfold Pth.rate; omega, by unfold Pth.rate; omega⟩
 unfold Pth.quo
 have hd : 0 < p.n - 3 * p.lies := by omega
 have a := Int.emod_nonneg p.qu (show p.n - 3 * p.lies ≠ 0 by omega)
 have b := Int.emod_lt_of_pos p.qu hd
 omega
theorem Pth.ways_len (p : Pth) (j : Nat) : (p.ways j).length = j := by unfold Pth.ways; rw [List.length_map, List.length_range]
theorem Pth.ways_succ (p : Pth) (j : Nat) : p.ways (j + 1) = p.ways j ++ [p.way j] := by unfold Pth.ways; rw [List.range_succ, List.map_append]; rfl
theorem Pth.srv_len (j : Nat) : (Pth.srv j).length = j := by unfold Pth.srv; rw [List.length_map, List.length_range]
theorem Pth.srv_succ (j : Nat) : Pth.srv (j + 1) = Pth.srv j ++ [1 + (j : Int)] := by unfold Pth.srv; rw [List.range_succ, List.map_append]; rfl
theorem infoB3 : (Tryz.prog.info? 3).map (fun i => (i.zero, i.size, i.bytes)) = some (some (.int .i64 0), 1, 8) := by kernel_rfl
theorem infoB97 : (Tryz.prog.info? 97).map (fun i => (i.zero, i.size, i.bytes)) = some (some (.agg #[.int .i64 0, .int .i64 0, .int .i64 0, .int .i64 0, .int .i64 0, .int .u64 0]), 6, 48) := by kernel_rfl
structure BdAt (w : World) (p : Pth) (a : Option Addr) (cap p1 p5 p2 : Nat) (QU MO ST RA : Int) (j : Nat) (wr : World) : Prop where
 ex : ∃ (sv wv : Value) (sg wg : Option Nat), Blk wr p5 32 #[sv, .int .i64 QU, .int .i64 4, .int .i64 MO, .int .i64 2000, .int .i64 500, wv, .int .i64 ST, .int .i64 RA, .int .i64 0] ∧ Owns wr 3 1 sv sg ((Pth.srv j).map i64c) ∧
  Owns wr 97 6 wv wg ((p.ways j).map fun y => (wayc y).toList) ∧ (∀ k, sg = some k → w.heap.size ≤ k) ∧ ∀ k, wg = some k → w.heap.size ≤ k
 b1 : Blk wr p1 26 (pthc p a cap)
 b2 : Blk wr p2 32 #[.slice none 0 0, .int .i64 0, .int .i64 0, .int .i64 0, .int .i64 0, .int .i64 0, .slice none 0 0, .int .i64 0, .int .i64 0, .int .i64 0]
 c : Chg (fun _ => False) w wr
theorem wrap_id {x : Int} (h : -9223372036854775808 ≤ x ∧ x ≤ 9223372036854775807) : IntKind.i64.wrap x = x := by unfold IntKind.wrap; simp [IntKind.bits, IntKind.signed]; omega
theorem build8 (p : Pth) (o : p.Ok) (a : Option Addr) (cap : Nat) (w : World) (hR : Reads w 2 a (p.wx.map fun x => [.int .u32 x.1, .int .u32 x.2])) (hcap : p.wx.length ≤ cap) (hcm : cap ≤ 9223372036854775807) :
  Calls Tryz.prog 8 #[.agg (pthc p a cap)] w fun e w' => ∃ sa sc sg va vc vg, e = .returned (.agg #[.slice sa p.n.toNat sc, .int .i64 p.quo, .int .i64 4, .int .i64 p.most, .int .i64 2000, .int .i64 500, .slice va p.n.toNat vc, .int .i64 p.step, .int .i64 p.rate, .int .i64 (50000000 + p.step)]) ∧
   Owns w' 3 1 (.slice sa p.n.toNat sc) sg (p.cfg.servers.map i64c) ∧ Owns w' 97 6 (.slice va p.n.toNat vc) vg ((p.ways p.n.toNat).map fun y => (wayc y).toList) ∧ Chg (fun _ => False) w w' := by
 have hb := Pth.bounds o
 obtain ⟨N, hN⟩ : ∃ N, N = p.n := ⟨_, rfl⟩
 obtain ⟨LI, hLI⟩ : ∃ LI, LI = p.lies := ⟨_, rfl⟩
 obtain ⟨QU, hQU⟩ : ∃ QU, QU = p.quo := ⟨_, rfl⟩
 obtain ⟨MO, hMO⟩ : ∃ MO, MO = p.most := ⟨_, rfl⟩
 obtain ⟨ST, hST⟩ : ∃ ST, ST = p.step := ⟨_, rfl⟩
 obtain ⟨RA, hRA⟩ : ∃ RA, RA = p.rate := ⟨_, rfl⟩
 have HN := Lib.hid (And.intro hN (And.intro hLI (And.intro hQU (And.intro hMO (And.intro hST hRA)))))
 rw [← hN, ← hLI, ← hQU, ← hMO, ← hST, ← hRA] at hb
 rw [← hN, ← hQU, ← hMO, ← hST, ← hRA]
 rw [show p.cfg.servers = Pth.srv N.toNat from by rw [hN]; rfl]
 have hn' : 1 + p.sv % 5 = N := hN.symm
 have hl' : p.li % ((N + 2) / 3) = LI := by rw [hLI, hN]; rfl
 have hq' : 2 * LI + 1 + p.qu % (N - 3 * LI) = QU := by rw [hQU, hLI, hN]; rfl
 have hm' : 4 + p.mo % 5 = MO := hMO.symm
 have hs' : 100000000 + p.st % 900000001 = ST := hST.symm
 have hr' : p.ra % 101 = RA := hRA.symm
 have o1 := o.sv
 have o2 := o.li
 have o3 := o.qu
 have o4 := o.mo
 have o5 := o.ra
 have o6 := o.st
 have HO := Lib.hid o
 have HR := Lib.hid hR
 have hqe : 0 ≤ p.qu % (N - 3 * LI) ∧ p.qu % (N - 3 * LI) ≤ 5 := ⟨Int.emod_nonneg _ (by omega), by have := Int.emod_lt_of_pos p.qu (show 0 < N - 3 * LI by omega); omega⟩
 have w1 : IntKind.i64.wrap N = N := wrap_id (by omega)
 have w2 : IntKind.i64.wrap (N + 2) = N + 2 := wrap_id (by omega)
 have w3 : IntKind.i64.wrap (2 * LI) = 2 * LI := wrap_id (by omega)
 have w4 : IntKind.i64.wrap (2 * LI + 1) = 2 * LI + 1 := wrap_id (by omega)
 have w5 : IntKind.i64.wrap (3 * LI) = 3 * LI := wrap_id (by omega)
 have w6 : IntKind.i64.wrap (N - 3 * LI) = N - 3 * LI := wrap_id (by omega)
 have w7 : IntKind.i64.wrap QU = QU := wrap_id (by omega)
 have w8 : IntKind.i64.wrap MO = MO := wrap_id (by omega)
 have w9 : IntKind.i64.wrap ST = ST := wrap_id (by omega)
 clear hN hLI hQU hMO hST hRA o hR
 unfold pthc
 obtain ⟨sv, li, qu, mo, ra, wa, st, off, wx, lie⟩ := p
 simp only at *
 go_enter Tryz.func8, Tryz.ntmps8
 go_upto_region 1 with (fail)
 obtain ⟨p1, hp1⟩ : ∃ p, p = w.heap.size := ⟨_, rfl⟩
 obtain ⟨p2, hp2⟩ : ∃ p, p = p1 + 1 := ⟨_, rfl⟩
 have A1 := Blk.new w 26 #[.int .u8 sv, .int .u8 li, .int .u8 qu, .int .u8 mo, .int .u8 ra, .int .u8 wa, .int .u32 st, .int .i32 off, .slice a wx.length cap, .int .u64 lie]
 have c1 := chg0_alloc w (Obj.cells #[.int .u8 sv, .int .u8 li, .int .u8 qu, .int .u8 mo, .int .u8 ra, .int .u8 wa, .int .u32 st, .int .i32 off, .slice a wx.length cap, .int .u64 lie] 26)
 have hsz1 : (w.alloc (Obj.cells #[.int .u8 sv, .int .u8 li, .int .u8 qu, .int .u8 mo, .int .u8 ra, .int .u8 wa, .int .u32 st, .int .i32 off, .slice a wx.length cap, .int .u64 lie] 26)).heap.size = p1 + 1 := by simp [hp1]
 rw [← hp1] at A1
 rw [← hp1]
 rw [← hp2]
 rw [← hp2] at hsz1
 generalize w.alloc (Obj.cells #[.int .u8 sv, .int .u8 li, .int .u8 qu, .int .u8 mo, .int .u8 ra, .int .u8 wa, .int .u32 st, .int .i32 off, .slice a wx.length cap, .int .u64 lie] 26) = wa1 at *
 have A2 := Blk.new wa1 32 #[.slice none 0 0, .int .i64 0, .int .i64 0, .int .i64 0, .int .i64 0, .int .i64 0, .slice none 0 0, .int .i64 0, .int .i64 0, .int .i64 0]
 have c2 := chg0_alloc wa1 (Obj.cells #[.slice none 0 0, .int .i64 0, .int .i64 0, .int .i64 0, .int .i64 0, .int .i64 0, .slice none 0 0, .int .i64 0, .int .i64 0, .int .i64 0] 32)
 have hsz2 : (wa1.alloc (Obj.cells #[.slice none 0 0, .int .i64 0, .int .i64 0, .int .i64 0, .int .i64 0, .int .i64 0, .slice none 0 0, .int .i64 0, .int .i64 0, .int .i64 0] 32)).heap.size = p2 + 1 := by simp [hsz1]
 rw [hsz1] at A2
 have A1' := A1.chg c2 (fun h => h)
 generalize wa1.alloc (Obj.cells #[.slice none 0 0, .int .i64 0, .int .i64 0, .int .i64 0, .int .i64 0, .int .i64 0, .slice none 0 0, .int .i64 0, .int .i64 0, .int .i64 0] 32) = wb at *
 have k0 := A1'.cell 0
 have k1 := A1'.cell 1
 have k2 := A1'.cell 2
 have k3 := A1'.cell 3
 have k4 := A1'.cell 4
 have k6 := A1'.cell 6
 simp at k0 k1 k2 k3 k4 k6
 have HPG := Lib.hid (And.intro hp1 hp2)
 have HC0 := Lib.hid (c1.trans c2)
 have HAA := Lib.hid (And.intro A1' A2)
 have HSZ := Lib.hid hsz2
 clear hp1 hp2 c1 c2 A1 A1' A2 hsz1 hsz2
 go_upto_region 3 with (fail)
 rw [hl']
 clear hl'
 go_upto_region 4 with (fail)
 have A5 := Blk.new wb 32 #[.slice none 0 0, .int .i64 0, .int .i64 4, .int .i64 MO, .int .i64 2000, .int .i64 500, .slice none 0 0, .int .i64 ST, .int .i64 RA, .int .i64 0]
 have c5 := chg0_alloc wb (Obj.cells #[.slice none 0 0, .int .i64 0, .int .i64 4, .int .i64 MO, .int .i64 2000, .int .i64 500, .slice none 0 0, .int .i64 ST, .int .i64 RA, .int .i64 0] 32)
 obtain ⟨p5, hp5⟩ : ∃ p, p = wb.heap.size := ⟨_, rfl⟩
 rw [← hp5] at A5
 rw [← hp5]
 generalize wb.alloc (Obj.cells #[.slice none 0 0, .int .i64 0, .int .i64 4, .int .i64 MO, .int .i64 2000, .int .i64 500, .slice none 0 0, .int .i64 ST, .int .i64 RA, .int .i64 0] 32) = wc at *
 have z1 := A5.frozen 1
 have y1 := A5.cell 1
 simp at y1
 have k2' := (HAA.out.1.chg c5 (fun h => h)).cell 2
 simp at k2'
 have hd0 : ¬ (N - 3 * LI = 0) := by omega
 have HA5 := Lib.hid (And.intro A5 (And.intro c5 hp5))
 clear A5 c5 hp5 k0 k1 k2 k3 k4 k6
 go_upto_region 5 with (fail)
 have A6 : Blk (wc.setCell ⟨p5, 1, none⟩ (.int .i64 QU)) p5 32 #[.slice none 0 0, .int .i64 QU, .int .i64 4, .int .i64 MO, .int .i64 2000, .int .i64 500, .slice none 0 0, .int .i64 ST, .int .i64 RA, .int .i64 0] := by simpa using HA5.out.1.set_ 1 (.int .i64 QU)
 have c6 : Chg (fun i => i = p5) wc (wc.setCell ⟨p5, 1, none⟩ (.int .i64 QU)) := (Chg.refl (fun i => i = p5) wc).setCell (p := ⟨p5, 1, none⟩) (fun _ => rfl) _
 generalize wc.setCell ⟨p5, 1, none⟩ (.int .i64 QU) = wd at *
 clear z1 y1 k2' hd0 hq' hqe w1 w2 w3 w4 w5 w6 w7 w8 hn' hm' hs' hr'
 have hge : w.heap.size ≤ p5 := by have h1 := HC0.out.size; have h2 := HA5.out.2.2; omega
 have hba : BdAt w ⟨sv, li, qu, mo, ra, wa, st, off, wx, lie⟩ a cap p1 p5 p2 QU MO ST RA 0 wd := by
  refine ⟨⟨.slice none 0 0, .slice none 0 0, none, none, A6, Owns.nil _ _ _, Owns.nil _ _ _, by simp, by simp⟩, (HAA.out.1.chg HA5.out.2.1 (fun h => h)).chg c6 (fun e => ?_), (HAA.out.2.chg HA5.out.2.1 (fun h => h)).chg c6 (fun e => ?_), (HC0.out.trans HA5.out.2.1).trans' c6 (fun i hi e => ?_)⟩
  ·have h0 : p1 = p5 := e
   have h1 := HAA.out.1.lt
   have h2 := HA5.out.2.2
   omega
  ·have h0 : p2 = p5 := e
   have h1 := HAA.out.2.lt
   have h2 := HA5.out.2.2
   omega
  ·have h0 : i = p5 := e
   omega
 have HBA := Lib.hid hba
 have HGE := Lib.hid (And.intro hge (And.intro (show p2 < p5 by have h1 := HAA.out.2.lt; have h2 := HA5.out.2.2; omega) (show w.heap.size ≤ p2 by have h1 := HPG.out; omega)))
 clear A6 c6 hge hba HA5 HAA HC0 HSZ
 obtain ⟨i0, hi1, hi2, hi3, hi4⟩ := info_parts infoB3
 obtain ⟨j0, hj1, hj2, hj3, hj4⟩ := info_parts infoB97
 go_wp2_with fail
 go_loopw [52] (fun v52 wr => ∃ j : Nat, j ≤ N.toNat ∧ v52 = .int .i64 j ∧ BdAt w ⟨sv, li, qu, mo, ra, wa, st, off, wx, lie⟩ a cap p1 p5 p2 QU MO ST RA j wr) (fun v52 _ => N.toNat - (intOf v52).toNat)
 case atStart => exact ⟨0, Nat.zero_le _, rfl, HBA.out⟩
 case round =>
  clear HBA
  obtain ⟨j, hj, rfl, ⟨sv', wv, sg, wg, x1, x2, x3, x4, x5⟩, x6, x7, x8⟩ := hrel
  by_cases hjs : (j : Int) < N
  ·have hjle : (j : Int) ≤ 4 := by omega
   have hu1 : IntKind.i64.wrap ((j : Int) * 100) = (j : Int) * 100 := wrap_id (by omega)
   have HX := Lib.hid (And.intro x1 (And.intro x2 (And.intro x3 (And.intro x4 (And.intro x5 (And.intro x6 (And.intro x7 x8)))))))
   clear x1 x2 x3 x4 x5 x6 x7 x8
   go_upto_region 9 with (fail)
   have A7 := Blk.new wr 97 #[.int .i64 0, .int .i64 0, .int .i64 0, .int .i64 0, .int .i64 ((j : Int) * 100), .int .u64 0]
   have c7 := chg0_alloc wr (Obj.cells #[.int .i64 0, .int .i64 0, .int .i64 0, .int .i64 0, .int .i64 ((j : Int) * 100), .int .u64 0] 97)
   obtain ⟨p7, hp7⟩ : ∃ p, p = wr.heap.size := ⟨_, rfl⟩
   rw [← hp7] at A7
   rw [← hp7]
   generalize wr.alloc (Obj.cells #[.int .i64 0, .int .i64 0, .int .i64 0, .int .i64 0, .int .i64 ((j : Int) * 100), .int .u64 0] 97) = we at *
   have k8 := (HX.out.2.2.2.2.2.1.chg c7 (fun h => h)).cell 8
   simp [pthc] at k8
   have cWE := HX.out.2.2.2.2.2.2.2.trans c7
   have H7 := Lib.hid (And.intro A7 (And.intro c7 (And.intro hp7 cWE)))
   clear A7 c7 hp7 cWE
   obtain ⟨wl, hwl⟩ : ∃ wl, wl = wx.length := ⟨_, rfl⟩
   rw [← hwl] at k8
   have HWL := Lib.hid hwl
   obtain ⟨xx, hxx⟩ : ∃ xx, xx = Pth.x ⟨sv, li, qu, mo, ra, wa, st, off, wx, lie⟩ j := ⟨_, rfl⟩
   have HXX := Lib.hid hxx
   clear hwl hxx
   go_upto_if 61 with (fail)
   go_cut [] (fun wz => Blk wz p7 97 #[.int .i64 0, .int .i64 (xx.1 % 25000000), .int .i64 0, .int .i64 (xx.2 % 25000000), .int .i64 ((j : Int) * 100), .int .u64 0] ∧ Chg (fun i => i = p7) we wz)
   case first =>
    by_cases hw0 : wl = 0
    ·have hx0 : xx = (0, 0) := by
      rw [HXX.out]
      unfold Pth.x
      have h0 : wx = [] := List.length_eq_zero_iff.1 (by rw [← HWL.out]; exact hw0)
      rw [h0]; rfl
     have H0 : Hid (Blk we p7 97 #[.int .i64 0, .int .i64 (xx.1 % 25000000), .int .i64 0, .int .i64 (xx.2 % 25000000), .int .i64 ((j : Int) * 100), .int .u64 0]) := Lib.hid (by rw [hx0]; exact H7.out.1)
     have hwn : ¬ (0 : Int) < wl := by omega
     clear hx0 hw0
     go_wp2_with fail
     go_meet
     exact ⟨H0.out, Chg.refl _ _⟩
    ·obtain ⟨kb, of1, hsa, hcl⟩ := HR.out (by rw [List.length_map, ← HWL.out]; omega)
     subst hsa
     obtain ⟨r, hr⟩ : ∃ r : Nat, (j : Int) % (wl : Int) = (r : Int) := ⟨j % wl, by simp⟩
     have hrw : j % wl = r := by omega
     have hrl : r < wl := by rw [← hrw]; exact Nat.mod_lt _ (by omega)
     obtain ⟨x, y, hxy⟩ : ∃ x y, xx = (x, y) := ⟨xx.1, xx.2, rfl⟩
     have hget : wx[r]? = some (x, y) := by
      rw [← hxy, HXX.out]
      unfold Pth.x
      simp only
      rw [← HWL.out, hrw, List.getD_eq_getElem?_getD, List.getElem?_eq_getElem (by rw [← HWL.out]; exact hrl)]
      rfl
     have hxb := HO.out.wx _ (List.mem_of_getElem? hget)
     have hsj : (wx.map fun x : Int × Int => [Value.int .u32 x.1, .int .u32 x.2])[r]? = some [.int .u32 x, .int .u32 y] := by rw [List.getElem?_map, hget]; rfl
     have f0 := H7.out.2.2.2.keep (hcl r _ hsj 0 _ rfl) (fun h => h)
     have f1 := H7.out.2.2.2.keep (hcl r _ hsj 1 _ rfl) (fun h => h)
     rw [← Nat.add_assoc] at f0 f1
     rw [Nat.add_zero] at f0
     have hrI : (r : Int) < wl := by omega
     have hrc : r < cap := by have := HWL.out; omega
     have hwp : (0 : Int) < wl := by omega
     have hxb1 := hxb.1
     have hxb2 := hxb.2
     have HXY := Lib.hid (And.intro hxy hrw)
     have hrt : (j : Int).tmod (wl : Int) = (r : Int) := by rw [Int.tmod_eq_emod_of_nonneg (by omega)]; exact hr
     clear hget hxb hsj hcl hrw hxy hr
     go_upto_region 10 with (fail)
     have HS10 := Lib.hid (fun W' (hW : Chg (fun _ => False) we W') => (⟨hW.keep k8 (fun h => h), hW.keep f0 (fun h => h), hW.keep f1 (fun h => h)⟩ : W'.cell? ⟨p1, 8, none⟩ = some (.slice (some ⟨kb, of1, none⟩) wl cap) ∧ W'.cell? ⟨kb, of1 + r * 2, none⟩ = some (.int .u32 x) ∧ W'.cell? ⟨kb, of1 + r * 2 + 1, none⟩ = some (.int .u32 y)))
     refine wp_region_noPanic ?_
     refine wp_region_till (s := 10) (S := fun w' => w'.cell? ⟨p1, 8, none⟩ = some (.slice (some ⟨kb, of1, none⟩) wl cap) ∧ w'.cell? ⟨kb, of1 + r * 2, none⟩ = some (.int .u32 x) ∧ w'.cell? ⟨kb, of1 + r * 2 + 1, none⟩ = some (.int .u32 y)) (by kernel_rfl) ?_
     have hHeld := HS10.out we.drew (Chg.drew (Chg.refl _ _))
     refine wP 0 62 _ (fun _ => hHeld) ?_
     refine wL 1 63 _ (fun _ => hHeld) ?_
     refine wP 2 64 _ (fun _ => hHeld) ?_
     refine wP 3 65 _ (fun _ => hHeld) ?_
     refine wL 4 66 _ (fun _ => hHeld) ?_
     refine wP 5 67 _ (fun _ => hHeld) ?_
     refine wP 6 68 _ (fun _ => hHeld) ?_
     refine wP 7 69 _ (fun _ => hHeld) ?_
     refine wL 8 70 _ (fun _ => hHeld) ?_
     refine wpTill_one (i := 9) (oi := ⟨some 8, _, _, _, _, _⟩) rfl (by kernel_rfl) (fun KK hKK => ?_)
     go_simp
     refine hKK _ _ (andS (HS10.out _ kC) (fun hHeld' => ?_))
     clear hKK KK
     try simp only [Act.put, qA, qB, qC]
     refine wpTill_one (i := 10) (oi := ⟨none, _, _, _, _, _⟩) rfl (by kernel_rfl) (fun KK hKK => ?_)
     have N8 := (Blk.new we 99 #[.int .u32 0, .int .u32 0]).drew
     have z80 := N8.frozen 0
     have z81 := N8.frozen 1
     have n80 := N8.cell 0
     have n81 := N8.cell 1
     simp at n80 n81
     go_simp
     refine hKK _ _ ⟨(fun h => (by simp at h)), ?_⟩
     clear hKK KK
     try simp only [Act.put, qA, qB, qC]
     refine wpTill_done (by kernel_rfl) ?_
     refine NoPanic.normal ?_
     have N9 := (Blk.new we 99 #[.int .u32 x, .int .u32 y]).drew
     have c8 := Chg.drew (chg0_alloc we (Obj.cells #[.int .u32 x, .int .u32 y] 99))
     obtain ⟨p8, hp8⟩ : ∃ p, p = we.heap.size := ⟨_, rfl⟩
     rw [← hp8] at N9
     rw [← hp8]
     generalize (we.alloc (Obj.cells #[.int .u32 x, .int .u32 y] 99)).drew = wf at *
     have A7f := H7.out.1.chg c8 (fun h => h)
     have hne : p8 ≠ p7 := by have := H7.out.1.lt; omega
     have n90 := N9.cell 0
     have n91 := N9.cell 1
     simp at n90 n91
     have hwx : IntKind.i64.wrap x = x := wrap_id (by omega)
     have hwy : IntKind.i64.wrap y = y := wrap_id (by omega)
     obtain ⟨tx, htx⟩ : ∃ tx, x.tmod 25000000 = tx := ⟨_, rfl⟩
     obtain ⟨ty, hty⟩ : ∃ ty, y.tmod 25000000 = ty := ⟨_, rfl⟩
     have HS11 := Lib.hid (fun W' (hW : Chg (fun i => i = p7) wf W') => (⟨hW.keep n90 hne, hW.keep n91 hne⟩ : W'.cell? ⟨p8, 0, none⟩ = some (.int .u32 x) ∧ W'.cell? ⟨p8, 1, none⟩ = some (.int .u32 y)))
     have H8 := Lib.hid (And.intro A7f (And.intro c8 (And.intro hp8 N9)))
     have z71 := A7f.drew.frozen 1
     have y71 := A7f.drew.cell 1
     have A71 := (A7f.set_ 1 (.int .i64 tx)).drew
     have z73 := A71.frozen 3
     have y73 := A71.cell 3
     simp at y71 y73
     clear N9 c8 hp8 A7f A71 hne n90 n91 k8 f0 f1 hHeld' hHeld hrt hrI hrc hwp hrl
     clear n80 n81 z80 z81 N8
     go_upto_region 11 with (fail)
     refine wp_region_noPanic ?_
     refine wp_region_till (s := 11) (S := fun w' => w'.cell? ⟨p8, 0, none⟩ = some (.int .u32 x) ∧ w'.cell? ⟨p8, 1, none⟩ = some (.int .u32 y)) (by kernel_rfl) ?_
     have hHeld := HS11.out wf.drew (Chg.drew (Chg.refl _ _))
     refine wP 0 71 _ (fun _ => hHeld) ?_
     refine wL 1 72 _ (fun _ => hHeld) ?_
     refine wP 2 73 _ (fun _ => hHeld) ?_
     refine wP 3 74 _ (fun _ => hHeld) ?_
     refine wP 4 75 _ (fun _ => hHeld) ?_
     refine wL 5 76 _ (fun _ => hHeld) ?_
     refine wP 6 77 _ (fun _ => hHeld) ?_
     refine wP 7 78 _ (fun _ => hHeld) ?_
     refine wP 8 79 _ (fun _ => hHeld) ?_
     refine wpTill_one (i := 9) (oi := ⟨none, _, _, _, _, _⟩) rfl (by kernel_rfl) (fun KK hKK => ?_)
     go_simp
     refine hKK _ _ (andS (HS11.out _ (by repeat (first | (with_reducible exact Chg.refl _ _) | assumption | (with_reducible apply Chg.drewN) | (with_reducible apply Chg.drew) | (with_reducible apply Chg.alloc) | refine Chg.setCell ?_ (fun _ => by rfl) _))) (fun hHeld' => ?_))
     clear hKK KK
     try simp only [Act.put, qA, qB, qC]
     refine wP 10 80 _ (fun _ => hHeld') ?_
     refine wpTill_one (i := 11) (oi := ⟨none, _, _, _, _, _⟩) rfl (by kernel_rfl) (fun KK hKK => ?_)
     go_simp
     refine hKK _ _ ⟨(fun h => (by simp at h)), ?_⟩
     clear hKK KK
     try simp only [Act.put, qA, qB, qC]
     refine wpTill_done (by kernel_rfl) ?_
     refine NoPanic.normal ?_
     have hB : Blk ((wf.setCell ⟨p7, 1, none⟩ (.int .i64 tx)).setCell ⟨p7, 3, none⟩ (.int .i64 ty)).drew p7 97 #[.int .i64 0, .int .i64 tx, .int .i64 0, .int .i64 ty, .int .i64 ((j : Int) * 100), .int .u64 0] := by simpa using ((H8.out.1.set_ 1 (.int .i64 tx)).set_ 3 (.int .i64 ty)).drew
     have hC : Chg (fun i => i = p7) wf ((wf.setCell ⟨p7, 1, none⟩ (.int .i64 tx)).setCell ⟨p7, 3, none⟩ (.int .i64 ty)).drew := (((Chg.refl (fun i => i = p7) wf).setCell (p := ⟨p7, 1, none⟩) (fun _ => rfl) _).setCell (p := ⟨p7, 3, none⟩) (fun _ => rfl) _).drew
     have HBC := Lib.hid (And.intro hB hC)
     clear hB hC z71 y71 z73 y73 hHeld hHeld'
     have HTT : Hid (tx = xx.1 % 25000000 ∧ ty = xx.2 % 25000000) := Lib.hid (by
      rw [HXY.out.1, ← htx, ← hty, Int.tmod_eq_emod_of_nonneg (by omega), Int.tmod_eq_emod_of_nonneg (by omega)]
      exact ⟨rfl, rfl⟩)
     clear htx hty
     go_wp2_with fail
     go_meet
     rw [← HTT.out.1, ← HTT.out.2]
     exact ⟨HBC.out.1, (H8.out.2.1.mono (fun _ _ h => h.elim)).trans HBC.out.2⟩
   case rest =>
    obtain ⟨B7, cB7⟩ := hcut
    obtain ⟨X1, hX1⟩ : ∃ z, z = xx.1 % 25000000 := ⟨_, rfl⟩
    obtain ⟨X2, hX2⟩ : ∃ z, z = xx.2 % 25000000 := ⟨_, rfl⟩
    rw [← hX1, ← hX2] at B7
    have HWY : Hid (wayc (Pth.way ⟨sv, li, qu, mo, ra, wa, st, off, wx, lie⟩ j) = #[.int .i64 (if (j : Int) < LI then 1 else 0), .int .i64 X1, .int .i64 0, .int .i64 X2, .int .i64 ((j : Int) * 100), .int .u64 (if (j : Int) < LI then (lie + (j : Int)) % 18446744073709551616 else 0)]) := Lib.hid (by
     rw [hX1, hX2, HXX.out]
     unfold Pth.way wayc
     simp only
     rw [← HN.out.2.1])
    have hne1 : p1 ≠ p7 := by have h1 := HX.out.2.2.2.2.2.1.lt; have h2 := H7.out.2.2.1; omega
    have k9 := ((HX.out.2.2.2.2.2.1.chg H7.out.2.1 (fun h => h)).chg cB7 hne1).cell 9
    simp [pthc] at k9
    have H9 := Lib.hid (And.intro B7 (And.intro cB7 hne1))
    clear hX1 hX2 B7 cB7 hne1 k8
    go_upto_if 83 with (fail)
    go_cut [] (fun wz => Blk wz p7 97 (wayc (Pth.way ⟨sv, li, qu, mo, ra, wa, st, off, wx, lie⟩ j)) ∧ Chg (fun i => i = p7) wc wz)
    case first =>
     by_cases hlj : (j : Int) < LI
     ·have hju : IntKind.u64.wrap (j : Int) = (j : Int) := by unfold IntKind.wrap; simp [IntKind.bits, IntKind.signed]; omega
      obtain ⟨lv, hlv⟩ : ∃ lv, lv = (lie + (j : Int)) % 18446744073709551616 := ⟨_, rfl⟩
      have hlw : IntKind.u64.wrap (lie + (j : Int)) = lv := by rw [hlv]; unfold IntKind.wrap; simp [IntKind.bits, IntKind.signed]
      have HLV := Lib.hid hlv
      clear hlv
      have HS13 := Lib.hid (fun W' (hW : Chg (fun i => i = p7) wc W') => (hW.keep k9 H9.out.2.2 : W'.cell? ⟨p1, 9, none⟩ = some (.int .u64 lie)))
      have A70 := (H9.out.1.set_ 0 (.int .i64 1)).drew
      have z70 := H9.out.1.drew.frozen 0
      have y70 := H9.out.1.drew.cell 0
      have z75 := A70.frozen 5
      have y75 := A70.cell 5
      simp at y70 y75
      clear A70
      go_upto_region 13 with (fail)
      refine wp_region_noPanic ?_
      refine wp_region_till (s := 8) (S := fun w' => w'.cell? ⟨p1, 9, none⟩ = some (.int .u64 lie)) (by kernel_rfl) ?_
      have hHeld := HS13.out wc.drew (Chg.drew (Chg.refl _ _))
      refine wP 0 84 _ (fun _ => hHeld) ?_
      refine wL 1 85 _ (fun _ => hHeld) ?_
      refine wP 2 86 _ (fun _ => hHeld) ?_
      refine wP 3 87 _ (fun _ => hHeld) ?_
      refine wP 4 88 _ (fun _ => hHeld) ?_
      refine wP 5 89 _ (fun _ => hHeld) ?_
      refine wpTill_one (i := 6) (oi := ⟨none, _, _, _, _, _⟩) rfl (by kernel_rfl) (fun KK hKK => ?_)
      go_simp
      refine hKK _ _ (andS (HS13.out _ (by repeat (first | (with_reducible exact Chg.refl _ _) | assumption | (with_reducible apply Chg.drewN) | (with_reducible apply Chg.drew) | (with_reducible apply Chg.alloc) | refine Chg.setCell ?_ (fun _ => by rfl) _))) (fun hHeld' => ?_))
      clear hKK KK
      try simp only [Act.put, qA, qB, qC]
      refine wP 7 90 _ (fun _ => hHeld') ?_
      refine wpTill_one (i := 8) (oi := ⟨none, _, _, _, _, _⟩) rfl (by kernel_rfl) (fun KK hKK => ?_)
      go_simp
      refine hKK _ _ ⟨(fun h => (by simp at h)), ?_⟩
      clear hKK KK
      try simp only [Act.put, qA, qB, qC]
      refine wpTill_done (by kernel_rfl) ?_
      refine NoPanic.normal ?_
      have hB : Blk ((wc.setCell ⟨p7, 0, none⟩ (.int .i64 1)).setCell ⟨p7, 5, none⟩ (.int .u64 lv)).drew p7 97 #[.int .i64 1, .int .i64 X1, .int .i64 0, .int .i64 X2, .int .i64 ((j : Int) * 100), .int .u64 lv] := by simpa using ((H9.out.1.set_ 0 (.int .i64 1)).set_ 5 (.int .u64 lv)).drew
      have hC : Chg (fun i => i = p7) wc ((wc.setCell ⟨p7, 0, none⟩ (.int .i64 1)).setCell ⟨p7, 5, none⟩ (.int .u64 lv)).drew := (((Chg.refl (fun i => i = p7) wc).setCell (p := ⟨p7, 0, none⟩) (fun _ => rfl) _).setCell (p := ⟨p7, 5, none⟩) (fun _ => rfl) _).drew
      have HBC := Lib.hid (And.intro hB hC)
      clear hB hC z70 y70 z75 y75
      go_wp2_with fail
      go_meet
      rw [HWY.out, if_pos hlj, if_pos hlj, ← HLV.out]
      exact HBC.out
     ·go_wp2_with fail
      go_meet
      rw [HWY.out, if_neg (by omega), if_neg (by omega)]
      exact ⟨H9.out.1, Chg.refl _ _⟩
    case rest =>
     obtain ⟨BB, cBB⟩ := hcut
     have far7 : ∀ {i : Nat}, i < wr.heap.size → ¬ i = p7 := fun hi e => by have := H7.out.2.2.1; omega
     have cA : Chg (fun i => i = p7) wr _ := ((H7.out.2.1.mono (fun _ _ h => h.elim)).trans H9.out.2.1).trans cBB
     have b5 := HX.out.1.chg cA (far7 HX.out.1.lt)
     have o3 := HX.out.2.1.chg cA (fun k hk => far7 (HX.out.2.1.lt k hk))
     have o97 := HX.out.2.2.1.chg cA (fun k hk => far7 (HX.out.2.2.1.lt k hk))
     have b1 := HX.out.2.2.2.2.2.1.chg cA (far7 HX.out.2.2.2.2.2.1.lt)
     have b2 := HX.out.2.2.2.2.2.2.1.chg cA (far7 HX.out.2.2.2.2.2.2.1.lt)
     have cw : Chg (fun _ => False) w _ := HX.out.2.2.2.2.2.2.2.trans' cA (fun i hi e => by have h1 := HX.out.2.2.2.2.2.2.2.size; have h2 := H7.out.2.2.1; have h3 : i = p7 := e; omega)
     have h75 : p7 ≠ p5 := by have h1 := HX.out.1.lt; have h2 := H7.out.2.2.1; omega
     have l3 : ((Pth.srv j).map i64c).length = j := by rw [List.length_map, Pth.srv_len]
     have l97 : ((Pth.ways ⟨sv, li, qu, mo, ra, wa, st, off, wx, lie⟩ j).map fun y => (wayc y).toList).length = j := by rw [List.length_map, Pth.ways_len]
     have g0 := b5.cell 0
     simp at g0
     obtain ⟨d0, d1, d3, d5, hwy⟩ : ∃ d0 d1 d3 d5, wayc (Pth.way ⟨sv, li, qu, mo, ra, wa, st, off, wx, lie⟩ j) = #[.int .i64 d0, .int .i64 d1, .int .i64 0, .int .i64 d3, .int .i64 ((j : Int) * 100), .int .u64 d5] := ⟨_, _, _, _, rfl⟩
     rw [hwy] at BB
     have hu2 : IntKind.i64.wrap (1 + (j : Int)) = 1 + (j : Int) := wrap_id (by omega)
     have HB := Lib.hid (And.intro b5 (And.intro o3 (And.intro o97 (And.intro b1 (And.intro b2 (And.intro cw (And.intro BB (And.intro h75 (And.intro l3 (And.intro l97 hwy))))))))))
     clear b5 o3 o97 b1 b2 cw BB cBB cA far7 h75 l3 l97 hwy k9
     go_wp2_with (at_builtin; refine wpList_app (by rfl) (.tmp 93) (.tmp 96) 27 (by rfl) 3 i0 _ 1 8 Tryz.underlying27 hi1 hi2 hi3 hi4 rfl (by omega) sv' sg ((Pth.srv j).map i64c) (by rfl) (HB.out.2.1.chg (by repeat (first | exact Chg.refl _ _ | exact (by assumption) | apply Chg.drewN | apply Chg.drew | apply Chg.alloc)) (fun _ _ h => h)) _ _ [[.int .i64 (1 + (j : Int))]] 1 1 (by rfl) rfl (Blk.new _ _ _) (by simp) (by simp [Value.oneCell']) (by simp) (by rw [HB.out.2.2.2.2.2.2.2.2.1]; simp; omega) (by rw [HB.out.2.2.2.2.2.2.2.2.1]; simp [maxLen]; omega) ?_)
     rw [Pth.srv_len]
     intro k3 cap3 v3 ho3 hch3 hk3
     have c3 : Chg (fun i => sg = some i) wc v3 := ((Chg.refl (fun i => sg = some i) wc).alloc _).trans hch3
     obtain ⟨nv3, hnv3⟩ : ∃ nv, nv = Value.slice (some ⟨k3, 0, none⟩) (j + 1) cap3 := ⟨_, rfl⟩
     have far3 : ∀ {i : Nat} {t : TypeId} {cs : Array Value}, Blk wc i t cs → t ≠ 3 → ¬ sg = some i := fun hb ht e => by
      obtain ⟨_, h'⟩ := HB.out.2.1.blk e
      exact ht (blk_typ hb h')
     have b5 := HB.out.1.chg c3 (far3 HB.out.1 (by decide))
     have z0 := b5.frozen 0
     have y0 := b5.cell 0
     simp at y0
     have b5' : Blk (v3.setCell ⟨p5, 0, none⟩ nv3) p5 32 #[nv3, .int .i64 QU, .int .i64 4, .int .i64 MO, .int .i64 2000, .int .i64 500, wv, .int .i64 ST, .int .i64 RA, .int .i64 0] := by simpa using b5.set_ 0 nv3
     have c4 : Chg (fun i => i = p5) v3 (v3.setCell ⟨p5, 0, none⟩ nv3) := (Chg.refl (fun i => i = p5) v3).setCell (p := ⟨p5, 0, none⟩) (fun _ => rfl) _
     have hk3g : w.heap.size ≤ k3 := by
      rcases hk3 with h | h
      ·exact HX.out.2.2.2.1 _ h
      ·have := HB.out.2.2.2.2.2.1.size; omega
     have ho3' : Owns v3 3 1 nv3 (some k3) ((Pth.srv (j + 1)).map i64c) := by
      rw [hnv3, Pth.srv_succ, List.map_append]
      exact ho3
     have far5 : ∀ {i : Nat} {t : TypeId} {cs : Array Value}, Blk v3 i t cs → t ≠ 32 → ¬ i = p5 := fun hb ht e => by
      rw [e] at hb
      exact ht (blk_typ hb b5)
     have O3 := ho3'.chg c4 (fun k hk => by
      obtain ⟨_, h'⟩ := ho3'.blk hk
      exact far5 h' (by decide))
     have o97 := HB.out.2.2.1.chg c3 (fun k hk => by
      obtain ⟨_, h'⟩ := HB.out.2.2.1.blk hk
      exact far3 h' (by decide))
     have O97 := o97.chg c4 (fun k hk => by
      obtain ⟨_, h'⟩ := o97.blk hk
      exact far5 h' (by decide))
     have b1 := HB.out.2.2.2.1.chg c3 (far3 HB.out.2.2.2.1 (by decide))
     have B1 := b1.chg c4 (far5 b1 (by decide))
     have b2 := HB.out.2.2.2.2.1.chg c3 (far3 HB.out.2.2.2.2.1 (by decide))
     have B2 := b2.chg c4 (fun e => by have h0 : p2 = p5 := e; have h1 := HGE.out.2.1; omega)
     have b7 := HB.out.2.2.2.2.2.2.1.chg c3 (far3 HB.out.2.2.2.2.2.2.1 (by decide))
     have B7 := b7.chg c4 (far5 b7 (by decide))
     have CW := (HB.out.2.2.2.2.2.1.trans' c3 (fun i hi e => by have := HX.out.2.2.2.1 _ e; omega)).trans' c4 (fun i hi e => by have h0 : i = p5 := e; have h1 := HGE.out.1; omega)
     subst hnv3
     have HV := Lib.hid (And.intro O3 (And.intro O97 (And.intro B1 (And.intro B2 (And.intro B7 (And.intro CW (And.intro b5' hk3g)))))))
     clear c3 far3 b5 b5' c4 hk3g ho3' far5 O3 o97 O97 b1 B1 b2 B2 b7 B7 CW ho3 hch3 hk3 g0
     go_upto_region 15 with (fail)
     generalize v3.setCell ⟨p5, 0, none⟩ (Value.slice (some ⟨k3, 0, none⟩) (j + 1) cap3) = v4 at *
     have g6 := HV.out.2.2.2.2.2.2.1.cell 6
     have e0 := HV.out.2.2.2.2.1.cell 0
     have e1 := HV.out.2.2.2.2.1.cell 1
     have e2 := HV.out.2.2.2.2.1.cell 2
     have e3 := HV.out.2.2.2.2.1.cell 3
     have e4 := HV.out.2.2.2.2.1.cell 4
     have e5 := HV.out.2.2.2.2.1.cell 5
     simp at g6 e0 e1 e2 e3 e4 e5
     clear z0 y0
     go_wp2_with (at_builtin; refine wpList_app (by rfl) (.tmp 101) (.tmp 103) 30 (by rfl) 97 j0 _ 6 48 Tryz.underlying30 hj1 hj2 hj3 hj4 rfl (by omega) wv wg ((Pth.ways ⟨sv, li, qu, mo, ra, wa, st, off, wx, lie⟩ j).map fun y => (wayc y).toList) (by rfl) (HV.out.2.1.chg (by repeat (first | exact Chg.refl _ _ | exact (by assumption) | apply Chg.drewN | apply Chg.drew | apply Chg.alloc)) (fun _ _ h => h)) _ _ [[.int .i64 d0, .int .i64 d1, .int .i64 0, .int .i64 d3, .int .i64 ((j : Int) * 100), .int .u64 d5]] 1 1 (by rfl) rfl (Blk.new _ _ _) (by simp) (by simp [Value.oneCell']) (by simp) (by rw [HB.out.2.2.2.2.2.2.2.2.2.1]; simp; omega) (by rw [HB.out.2.2.2.2.2.2.2.2.2.1]; simp [maxLen]; omega) ?_)
     rw [Pth.ways_len]
     intro k9 cap9 v9 ho9 hch9 hk9
     have c9 : Chg (fun i => wg = some i) v4 v9 := ((Chg.refl (fun i => wg = some i) v4).alloc _).trans hch9
     obtain ⟨nv9, hnv9⟩ : ∃ nv, nv = Value.slice (some ⟨k9, 0, none⟩) (j + 1) cap9 := ⟨_, rfl⟩
     have far9 : ∀ {i : Nat} {t : TypeId} {cs : Array Value}, Blk v4 i t cs → t ≠ 97 → ¬ wg = some i := fun hb ht e => by
      obtain ⟨_, h'⟩ := HV.out.2.1.blk e
      exact ht (blk_typ hb h')
     have b5 := HV.out.2.2.2.2.2.2.1.chg c9 (far9 HV.out.2.2.2.2.2.2.1 (by decide))
     have z6 := b5.frozen 6
     have y6 := b5.cell 6
     simp at y6
     have b5' := b5.set_ 6 nv9
     have c10 : Chg (fun i => i = p5) v9 (v9.setCell ⟨p5, 6, none⟩ nv9) := (Chg.refl (fun i => i = p5) v9).setCell (p := ⟨p5, 6, none⟩) (fun _ => rfl) _
     have hk9g : w.heap.size ≤ k9 := by
      rcases hk9 with h | h
      ·exact HX.out.2.2.2.2.1 _ h
      ·have := HV.out.2.2.2.2.2.1.size; omega
     have ho9' : Owns v9 97 6 nv9 (some k9) ((Pth.ways ⟨sv, li, qu, mo, ra, wa, st, off, wx, lie⟩ (j + 1)).map fun y => (wayc y).toList) := by
      rw [hnv9, Pth.ways_succ, List.map_append, List.map_cons, List.map_nil, HB.out.2.2.2.2.2.2.2.2.2.2]
      exact ho9
     have far5 : ∀ {i : Nat} {t : TypeId} {cs : Array Value}, Blk v9 i t cs → t ≠ 32 → ¬ i = p5 := fun hb ht e => by
      rw [e] at hb
      exact ht (blk_typ hb b5)
     have O97 := ho9'.chg c10 (fun k hk => by
      obtain ⟨_, h'⟩ := ho9'.blk hk
      exact far5 h' (by decide))
     have o3 := HV.out.1.chg c9 (fun k hk => by
      obtain ⟨_, h'⟩ := HV.out.1.blk hk
      exact far9 h' (by decide))
     have O3 := o3.chg c10 (fun k hk => by
      obtain ⟨_, h'⟩ := o3.blk hk
      exact far5 h' (by decide))
     have b1 := HV.out.2.2.1.chg c9 (far9 HV.out.2.2.1 (by decide))
     have B1 := b1.chg c10 (far5 b1 (by decide))
     have b2 := HV.out.2.2.2.1.chg c9 (far9 HV.out.2.2.2.1 (by decide))
     have B2 := b2.chg c10 (fun e => by have h0 : p2 = p5 := e; have h1 := HGE.out.2.1; omega)
     have CW := (HV.out.2.2.2.2.2.1.trans' c9 (fun i hi e => by have := HX.out.2.2.2.2.1 _ e; omega)).trans' c10 (fun i hi e => by have h0 : i = p5 := e; have h1 := HGE.out.1; omega)
     have hfin : BdAt w ⟨sv, li, qu, mo, ra, wa, st, off, wx, lie⟩ (a) cap p1 p5 p2 QU MO ST RA (j + 1) (v9.setCell ⟨p5, 6, none⟩ nv9) :=
      ⟨⟨_, nv9, some k3, some k9, by simpa using b5', O3, O97, fun k hk => by cases hk; exact HV.out.2.2.2.2.2.2.2, fun k hk => by cases hk; exact hk9g⟩, B1, B2, CW⟩
     subst hnv9
     have HFIN := Lib.hid hfin
     clear hfin c9 far9 b5 b5' c10 hk9g ho9' far5 O97 o3 O3 b1 B1 b2 B2 CW ho9 hch9 hk9 g6 e0 e1 e2 e3 e4 e5
     go_wp2_with fail
     exact ⟨⟨j + 1, by omega, by simp, HFIN.out⟩, by simp [intOf]; omega⟩
  ·have hje : (j : Int) = N := by omega
   have y7 := x1.cell 7
   simp at y7
   have z9 := x1.frozen 9
   have y9 := x1.cell 9
   simp at y9
   have hjn : j = N.toNat := by omega
   subst hjn
   have HX := Lib.hid (And.intro x1 (And.intro x2 (And.intro x3 (And.intro x7 x8))))
   have w10 : IntKind.i64.wrap (50000000 + ST) = 50000000 + ST := wrap_id (by omega)
   obtain ⟨sa, sc, hsv, -⟩ := x2.form
   obtain ⟨va, vc, hwv, -⟩ := x3.form
   rw [List.length_map, Pth.srv_len] at hsv
   rw [List.length_map, Pth.ways_len] at hwv
   subst hsv
   subst hwv
   clear x1 x2 x3 x4 x5 x6 x7 x8
   go_upto_region 18 with (fail)
   have b5 : Blk (wr.setCell ⟨p5, 9, none⟩ (.int .i64 (50000000 + ST))) p5 32 #[.slice sa N.toNat sc, .int .i64 QU, .int .i64 4, .int .i64 MO, .int .i64 2000, .int .i64 500, .slice va N.toNat vc, .int .i64 ST, .int .i64 RA, .int .i64 (50000000 + ST)] := by simpa using HX.out.1.set_ 9 (.int .i64 (50000000 + ST))
   have c11 : Chg (fun i => i = p5) wr (wr.setCell ⟨p5, 9, none⟩ (.int .i64 (50000000 + ST))) := (Chg.refl (fun i => i = p5) wr).setCell (p := ⟨p5, 9, none⟩) (fun _ => rfl) _
   have b2 := HX.out.2.2.2.1.chg c11 (fun e => by have h0 : p2 = p5 := e; have h1 := HGE.out.2.1; omega)
   have HC11 := Lib.hid c11
   generalize wr.setCell ⟨p5, 9, none⟩ (.int .i64 (50000000 + ST)) = wq at *
   have q0 := b5.cell 0
   have q1 := b5.cell 1
   have q2 := b5.cell 2
   have q3 := b5.cell 3
   have q4 := b5.cell 4
   have q5 := b5.cell 5
   have q6 := b5.cell 6
   have q7 := b5.cell 7
   have q8 := b5.cell 8
   have q9 := b5.cell 9
   have f0 := b2.frozen 0
   have f1 := b2.frozen 1
   have f2 := b2.frozen 2
   have f3 := b2.frozen 3
   have f4 := b2.frozen 4
   have f5 := b2.frozen 5
   have f6 := b2.frozen 6
   have f7 := b2.frozen 7
   have f8 := b2.frozen 8
   have f9 := b2.frozen 9
   have g0 := b2.cell 0
   have g1 := b2.cell 1
   have g2 := b2.cell 2
   have g3 := b2.cell 3
   have g4 := b2.cell 4
   have g5 := b2.cell 5
   have g6 := b2.cell 6
   have g7 := b2.cell 7
   have g8 := b2.cell 8
   have g9 := b2.cell 9
   simp at q0 q1 q2 q3 q4 q5 q6 q7 q8 q9 g0 g1 g2 g3 g4 g5 g6 g7 g8 g9
   have M : Blk ((((((((((wq.setCell ⟨p2, 0, none⟩ (.slice sa N.toNat sc)).setCell ⟨p2, 1, none⟩ (.int .i64 QU)).setCell ⟨p2, 2, none⟩ (.int .i64 4)).setCell ⟨p2, 3, none⟩ (.int .i64 MO)).setCell ⟨p2, 4, none⟩ (.int .i64 2000)).setCell ⟨p2, 5, none⟩ (.int .i64 500)).setCell ⟨p2, 6, none⟩ (.slice va N.toNat vc)).setCell ⟨p2, 7, none⟩ (.int .i64 ST)).setCell ⟨p2, 8, none⟩ (.int .i64 RA)).setCell ⟨p2, 9, none⟩ (.int .i64 (50000000 + ST))) p2 32 #[.slice sa N.toNat sc, .int .i64 QU, .int .i64 4, .int .i64 MO, .int .i64 2000, .int .i64 500, .slice va N.toNat vc, .int .i64 ST, .int .i64 RA, .int .i64 (50000000 + ST)] := by
    have := ((((((((((b2.set_ 0 (.slice sa N.toNat sc)).set_ 1 (.int .i64 QU)).set_ 2 (.int .i64 4)).set_ 3 (.int .i64 MO)).set_ 4 (.int .i64 2000)).set_ 5 (.int .i64 500)).set_ 6 (.slice va N.toNat vc)).set_ 7 (.int .i64 ST)).set_ 8 (.int .i64 RA)).set_ 9 (.int .i64 (50000000 + ST)))
    simpa using this
   have cM : Chg (fun i => i = p2) wq ((((((((((wq.setCell ⟨p2, 0, none⟩ (.slice sa N.toNat sc)).setCell ⟨p2, 1, none⟩ (.int .i64 QU)).setCell ⟨p2, 2, none⟩ (.int .i64 4)).setCell ⟨p2, 3, none⟩ (.int .i64 MO)).setCell ⟨p2, 4, none⟩ (.int .i64 2000)).setCell ⟨p2, 5, none⟩ (.int .i64 500)).setCell ⟨p2, 6, none⟩ (.slice va N.toNat vc)).setCell ⟨p2, 7, none⟩ (.int .i64 ST)).setCell ⟨p2, 8, none⟩ (.int .i64 RA)).setCell ⟨p2, 9, none⟩ (.int .i64 (50000000 + ST))) := (((((((((((Chg.refl (fun i => i = p2) wq).setCell (p := ⟨p2, 0, none⟩) (fun _ => rfl) (.slice sa N.toNat sc)).setCell (p := ⟨p2, 1, none⟩) (fun _ => rfl) (.int .i64 QU)).setCell (p := ⟨p2, 2, none⟩) (fun _ => rfl) (.int .i64 4)).setCell (p := ⟨p2, 3, none⟩) (fun _ => rfl) (.int .i64 MO)).setCell (p := ⟨p2, 4, none⟩) (fun _ => rfl) (.int .i64 2000)).setCell (p := ⟨p2, 5, none⟩) (fun _ => rfl) (.int .i64 500)).setCell (p := ⟨p2, 6, none⟩) (fun _ => rfl) (.slice va N.toNat vc)).setCell (p := ⟨p2, 7, none⟩) (fun _ => rfl) (.int .i64 ST)).setCell (p := ⟨p2, 8, none⟩) (fun _ => rfl) (.int .i64 RA)).setCell (p := ⟨p2, 9, none⟩) (fun _ => rfl) (.int .i64 (50000000 + ST)))
   have O3 := (HX.out.2.1.chg HC11.out (fun k hk e => by
    obtain ⟨_, h'⟩ := HX.out.2.1.blk hk
    rw [show k = p5 from e] at h'
    exact absurd (blk_typ h' HX.out.1) (by decide))).chg cM (fun k hk e => by
    obtain ⟨_, h'⟩ := HX.out.2.1.blk hk
    rw [show k = p2 from e] at h'
    exact absurd (blk_typ h' HX.out.2.2.2.1) (by decide))
   have O97 := (HX.out.2.2.1.chg HC11.out (fun k hk e => by
    obtain ⟨_, h'⟩ := HX.out.2.2.1.blk hk
    rw [show k = p5 from e] at h'
    exact absurd (blk_typ h' HX.out.1) (by decide))).chg cM (fun k hk e => by
    obtain ⟨_, h'⟩ := HX.out.2.2.1.blk hk
    rw [show k = p2 from e] at h'
    exact absurd (blk_typ h' HX.out.2.2.2.1) (by decide))
   have CW := (HX.out.2.2.2.2.trans' HC11.out (fun i hi e => by have h0 : i = p5 := e; have h1 := HGE.out.1; omega)).trans' cM (fun i hi e => by have h0 : i = p2 := e; have h1 := HGE.out.2.2; omega)
   have HM := Lib.hid (And.intro M (And.intro O3 (And.intro O97 CW)))
   clear M cM O3 O97 CW b5 b2 c11 HC11
   go_wp2_with fail
   generalize ((((((((((wq.setCell ⟨p2, 0, none⟩ (.slice sa N.toNat sc)).setCell ⟨p2, 1, none⟩ (.int .i64 QU)).setCell ⟨p2, 2, none⟩ (.int .i64 4)).setCell ⟨p2, 3, none⟩ (.int .i64 MO)).setCell ⟨p2, 4, none⟩ (.int .i64 2000)).setCell ⟨p2, 5, none⟩ (.int .i64 500)).setCell ⟨p2, 6, none⟩ (.slice va N.toNat vc)).setCell ⟨p2, 7, none⟩ (.int .i64 ST)).setCell ⟨p2, 8, none⟩ (.int .i64 RA)).setCell ⟨p2, 9, none⟩ (.int .i64 (50000000 + ST))) = wF at *
   have m0 := HM.out.1.cell 0
   have m1 := HM.out.1.cell 1
   have m2 := HM.out.1.cell 2
   have m3 := HM.out.1.cell 3
   have m4 := HM.out.1.cell 4
   have m5 := HM.out.1.cell 5
   have m6 := HM.out.1.cell 6
   have m7 := HM.out.1.cell 7
   have m8 := HM.out.1.cell 8
   have m9 := HM.out.1.cell 9
   simp at m0 m1 m2 m3 m4 m5 m6 m7 m8 m9
   refine bodyPost_ret (v := .agg #[.slice sa N.toNat sc, .int .i64 QU, .int .i64 4, .int .i64 MO, .int .i64 2000, .int .i64 500, .slice va N.toNat vc, .int .i64 ST, .int .i64 RA, .int .i64 (50000000 + ST)]) ?_ rfl ⟨sa, sc, sg, va, vc, rfl, HM.out.2.1, ⟨wg, HM.out.2.2.1⟩, HM.out.2.2.2⟩
   simp [results, Tryz.results8, go_sem, m0, m1, m2, m3, m4, m5, m6, m7, m8, m9]
end
section
open Go Go.RowKit Go.Chron
def pstep (step most wa : Int) (i : Nat) : Int × Int × Int :=
 (step, if wa % 4 = 1 then step + most else if wa % 4 = 2 then step - most else if wa % 4 = 3 then (if (i : Int) / 7 % 2 = 0 then step + most else step - most) else step, 2 * (i : Int) + 1)
def psteps (step most wa : Int) (n : Nat) : List (Int × Int × Int) := (List.range n).map (pstep step most wa)
theorem psteps_len (step most wa : Int) (n : Nat) : (psteps step most wa n).length = n := by unfold psteps; rw [List.length_map, List.length_range]
theorem psteps_succ (step most wa : Int) (n : Nat) : psteps step most wa (n + 1) = psteps step most wa n ++ [pstep step most wa n] := by unfold psteps; rw [List.range_succ, List.map_append]; rfl
structure SpAt (w : World) (step most wa : Int) (p1 p2 : Nat) (c1 c2 : Array Value) (j : Nat) (sv : Value) (wr : World) : Prop where
 ex : ∃ g : Option Nat, Owns wr 56 3 sv g ((psteps step most wa j).map stpc) ∧ ∀ k, g = some k → w.heap.size ≤ k
 b1 : Blk wr p1 26 c1
 b2 : Blk wr p2 32 c2
 c : Chg (fun _ => False) w wr
theorem steps13 (x0 x1 x2 x3 x4 wa x6 x7 x9 b1 b2 b3 b4 b5 step rate b9 most : Int) (xa xsa xsb : Option Addr) (xn xc san sac sbn sbc : Nat) (n : Nat) (hwa : 0 ≤ wa ∧ wa < 256) (hst : 100000000 ≤ step ∧ step ≤ 1000000000) (hra : 0 ≤ rate ∧ rate ≤ 100) (hmo : most = step * rate / 1000000) (hn : n ≤ 1000000) (w : World) :
  Calls Tryz.prog 13 #[.agg #[.int .u8 x0, .int .u8 x1, .int .u8 x2, .int .u8 x3, .int .u8 x4, .int .u8 wa, .int .u32 x6, .int .i32 x7, .slice xa xn xc, .int .u64 x9], .agg #[.slice xsa san sac, .int .i64 b1, .int .i64 b2, .int .i64 b3, .int .i64 b4, .int .i64 b5, .slice xsb sbn sbc, .int .i64 step, .int .i64 rate, .int .i64 b9], .int .i64 n] w fun e w' =>
   ∃ v g, e = .returned v ∧ Owns w' 56 3 v g ((psteps step most wa n).map stpc) ∧ (∀ k, g = some k → w.heap.size ≤ k) ∧ Chg (fun _ => False) w w' := by
 obtain ⟨pr, hpr⟩ : ∃ pr, pr = step * rate := ⟨_, rfl⟩
 have hpb : 0 ≤ pr ∧ pr ≤ 100000000000 := by
  rw [hpr]
  have h1 := Int.mul_le_mul hst.2 hra.2 hra.1 (by omega)
  exact ⟨Int.mul_nonneg (by omega) hra.1, by omega⟩
 rw [← hpr] at hmo
 have hwm : IntKind.i64.wrap (step * rate) = pr := by rw [← hpr]; unfold IntKind.wrap; simp [IntKind.bits, IntKind.signed]; omega
 have hmb : 0 ≤ most ∧ most ≤ 100000 := by omega
 have A1 := Blk.new w 26 #[.int .u8 x0, .int .u8 x1, .int .u8 x2, .int .u8 x3, .int .u8 x4, .int .u8 wa, .int .u32 x6, .int .i32 x7, .slice xa xn xc, .int .u64 x9]
 have c1 := chg0_alloc w (Obj.cells #[.int .u8 x0, .int .u8 x1, .int .u8 x2, .int .u8 x3, .int .u8 x4, .int .u8 wa, .int .u32 x6, .int .i32 x7, .slice xa xn xc, .int .u64 x9] 26)
 have hs1 : (w.alloc (Obj.cells #[.int .u8 x0, .int .u8 x1, .int .u8 x2, .int .u8 x3, .int .u8 x4, .int .u8 wa, .int .u32 x6, .int .i32 x7, .slice xa xn xc, .int .u64 x9] 26)).heap.size = w.heap.size + 1 := by simp
 have HPR := Lib.hid hpr
 clear hpr
 go_enter Tryz.func13, Tryz.ntmps13
 go_upto_region 1 with (fail)
 have A2 := Blk.new (w.alloc (Obj.cells #[.int .u8 x0, .int .u8 x1, .int .u8 x2, .int .u8 x3, .int .u8 x4, .int .u8 wa, .int .u32 x6, .int .i32 x7, .slice xa xn xc, .int .u64 x9] 26)) 32 #[.slice xsa san sac, .int .i64 b1, .int .i64 b2, .int .i64 b3, .int .i64 b4, .int .i64 b5, .slice xsb sbn sbc, .int .i64 step, .int .i64 rate, .int .i64 b9]
 have c2 := chg0_alloc (w.alloc (Obj.cells #[.int .u8 x0, .int .u8 x1, .int .u8 x2, .int .u8 x3, .int .u8 x4, .int .u8 wa, .int .u32 x6, .int .i32 x7, .slice xa xn xc, .int .u64 x9] 26)) (Obj.cells #[.slice xsa san sac, .int .i64 b1, .int .i64 b2, .int .i64 b3, .int .i64 b4, .int .i64 b5, .slice xsb sbn sbc, .int .i64 step, .int .i64 rate, .int .i64 b9] 32)
 have A1' := A1.chg c2 (fun h => h)
 rw [hs1] at A2
 obtain ⟨p1, hp1⟩ : ∃ p, p = w.heap.size := ⟨_, rfl⟩
 obtain ⟨p2, hp2⟩ : ∃ p, p = p1 + 1 := ⟨_, rfl⟩
 rw [← hp1] at A1' A2
 rw [← hp2] at A2
 rw [← hp1]
 rw [← hp2]
 have cc := c1.trans c2
 generalize (w.alloc (Obj.cells #[.int .u8 x0, .int .u8 x1, .int .u8 x2, .int .u8 x3, .int .u8 x4, .int .u8 wa, .int .u32 x6, .int .i32 x7, .slice xa xn xc, .int .u64 x9] 26)).alloc (Obj.cells #[.slice xsa san sac, .int .i64 b1, .int .i64 b2, .int .i64 b3, .int .i64 b4, .int .i64 b5, .slice xsb sbn sbc, .int .i64 step, .int .i64 rate, .int .i64 b9] 32) = wb at *
 have k7 := A2.cell 7
 have k8 := A2.cell 8
 simp at k7 k8
 have hea : SpAt w step most wa p1 p2 #[.int .u8 x0, .int .u8 x1, .int .u8 x2, .int .u8 x3, .int .u8 x4, .int .u8 wa, .int .u32 x6, .int .i32 x7, .slice xa xn xc, .int .u64 x9] #[.slice xsa san sac, .int .i64 b1, .int .i64 b2, .int .i64 b3, .int .i64 b4, .int .i64 b5, .slice xsb sbn sbc, .int .i64 step, .int .i64 rate, .int .i64 b9] 0 (.slice none 0 0) wb := ⟨⟨none, Owns.nil _ _ _, by simp⟩, A1', A2, cc⟩
 have HEA := Lib.hid hea
 have HPG : Hid (p1 = w.heap.size ∧ p2 = p1 + 1) := Lib.hid ⟨hp1, hp2⟩
 clear A1 A1' A2 c1 c2 cc hs1 hp1 hp2 hea
 obtain ⟨i0, hi1, hi2, hi3, hi4⟩ := info_parts info56
 go_wp2_with fail
 rw [← hmo]
 clear hmo
 go_loopw [18, 8] (fun v18 v8 wr => ∃ j : Nat, j ≤ n ∧ v18 = .int .i64 j ∧ SpAt w step most wa p1 p2 #[.int .u8 x0, .int .u8 x1, .int .u8 x2, .int .u8 x3, .int .u8 x4, .int .u8 wa, .int .u32 x6, .int .i32 x7, .slice xa xn xc, .int .u64 x9] #[.slice xsa san sac, .int .i64 b1, .int .i64 b2, .int .i64 b3, .int .i64 b4, .int .i64 b5, .slice xsb sbn sbc, .int .i64 step, .int .i64 rate, .int .i64 b9] j v8 wr) (fun v18 _ _ => n - (intOf v18).toNat)
 case atStart => exact ⟨0, Nat.zero_le _, rfl, HEA.out⟩
 case round =>
  clear HEA k7 k8
  obtain ⟨j, hj, rfl, ⟨g, x1, x2⟩, x3, x4, x5⟩ := hrel
  by_cases hjs : j < n
  ·have hjI : (j : Int) < n := by omega
   have k5 := x3.cell 5
   have k7 := x4.cell 7
   simp at k5 k7
   have hlen : ((psteps step most wa j).map stpc).length = j := by rw [List.length_map, psteps_len]
   have HX := Lib.hid (And.intro x1 (And.intro x2 (And.intro x3 (And.intro x4 (And.intro x5 hlen)))))
   clear x1 x2 x3 x4 x5 hlen
   have hu1 : IntKind.i64.wrap (2 * (j : Int)) = 2 * (j : Int) := by unfold IntKind.wrap; simp [IntKind.bits, IntKind.signed]; omega
   have hu2 : IntKind.i64.wrap (2 * (j : Int) + 1) = 2 * (j : Int) + 1 := by unfold IntKind.wrap; simp [IntKind.bits, IntKind.signed]; omega
   have hu3 : IntKind.u64.wrap (2 * (j : Int) + 1) = 2 * (j : Int) + 1 := by unfold IntKind.wrap; simp [IntKind.bits, IntKind.signed]; omega
   go_upto_region 7 with (fail)
   have A := Blk.new wr 56 #[.int .i64 step, .int .i64 step, .int .u64 (2 * (j : Int) + 1)]
   have cA := chg0_alloc wr (Obj.cells #[.int .i64 step, .int .i64 step, .int .u64 (2 * (j : Int) + 1)] 56)
   obtain ⟨p, hp⟩ : ∃ p, p = wr.heap.size := ⟨_, rfl⟩
   rw [← hp] at A
   rw [← hp]
   generalize wr.alloc (Obj.cells #[.int .i64 step, .int .i64 step, .int .u64 (2 * (j : Int) + 1)] 56) = we at *
   have q5 := (HX.out.2.2.1.chg cA (fun h => h)).cell 5
   have q1 := A.cell 1
   have z1 := A.frozen 1
   simp at q5 q1
   have HA := Lib.hid (And.intro A (And.intro cA hp))
   clear A cA hp k5 k7
   go_upto_block 2 with (fail)
   go_cut [] (fun wz => Blk wz p 56 (stpc (pstep step most wa j)).toArray ∧ Chg (fun i => i = p) we wz)
   case first =>
    have hw1 : IntKind.i64.wrap (step + most) = step + most := by unfold IntKind.wrap; simp [IntKind.bits, IntKind.signed]; omega
    have hw2 : IntKind.i64.wrap (step - most) = step - most := by unfold IntKind.wrap; simp [IntKind.bits, IntKind.signed]; omega
    have hB : ∀ x, Blk (we.setCell ⟨p, 1, none⟩ (.int .i64 x)) p 56 #[.int .i64 step, .int .i64 x, .int .u64 (2 * (j : Int) + 1)] ∧ Chg (fun i => i = p) we (we.setCell ⟨p, 1, none⟩ (.int .i64 x)) := fun x => ⟨by simpa using HA.out.1.set_ 1 (.int .i64 x), (Chg.refl (fun i => i = p) we).setCell (p := ⟨p, 1, none⟩) (fun _ => rfl) _⟩
    have HB := Lib.hid hB
    clear hB
    have h4 : wa % 4 = 0 ∨ wa % 4 = 1 ∨ wa % 4 = 2 ∨ wa % 4 = 3 := by omega
    rcases h4 with h | h | h | h
    ·have HS : Hid ((stpc (pstep step most wa j)).toArray = #[.int .i64 step, .int .i64 step, .int .u64 (2 * (j : Int) + 1)]) := Lib.hid (by simp [stpc, pstep, h])
     go_wp2_with fail
     go_meet
     rw [HS.out]
     exact ⟨HA.out.1, Chg.refl _ _⟩
    ·have HS : Hid ((stpc (pstep step most wa j)).toArray = #[.int .i64 step, .int .i64 (step + most), .int .u64 (2 * (j : Int) + 1)]) := Lib.hid (by simp [stpc, pstep, h])
     go_wp2_with fail
     go_meet
     rw [HS.out]
     exact HB.out _
    ·have HS : Hid ((stpc (pstep step most wa j)).toArray = #[.int .i64 step, .int .i64 (step - most), .int .u64 (2 * (j : Int) + 1)]) := Lib.hid (by simp [stpc, pstep, h])
     go_wp2_with fail
     go_meet
     rw [HS.out]
     exact HB.out _
    ·by_cases h7 : (j : Int) / 7 % 2 = 0
     ·have HS : Hid ((stpc (pstep step most wa j)).toArray = #[.int .i64 step, .int .i64 (step + most), .int .u64 (2 * (j : Int) + 1)]) := Lib.hid (by simp [stpc, pstep, h, h7])
      go_wp2_with fail
      go_meet
      rw [HS.out]
      exact HB.out _
     ·have HS : Hid ((stpc (pstep step most wa j)).toArray = #[.int .i64 step, .int .i64 (step - most), .int .u64 (2 * (j : Int) + 1)]) := Lib.hid (by simp [stpc, pstep, h, h7])
      have h71 : (j : Int) / 7 % 2 = 1 := by omega
      clear h7
      go_wp2_with fail
      go_meet
      rw [HS.out]
      exact HB.out _
   case rest =>
    obtain ⟨B, cB⟩ := hcut
    obtain ⟨d2, hd2⟩ : ∃ d2, stpc (pstep step most wa j) = [.int .i64 step, .int .i64 d2, .int .u64 (2 * (j : Int) + 1)] := ⟨_, rfl⟩
    rw [hd2] at B
    have r0 := B.cell 0
    have r1 := B.cell 1
    have r2 := B.cell 2
    simp at r0 r1 r2
    have hlt : ∀ k, g = some k → k ≠ p := fun k hk e => by
     have h1 := HX.out.1.lt k hk
     have h2 := HA.out.2.2
     omega
    have HO := Lib.hid ((HX.out.1.chg HA.out.2.1 (fun _ _ h => h)).chg cB hlt)
    have HC := Lib.hid (HX.out.2.2.2.2.1.trans' (HA.out.2.1.trans' cB (fun i hi e => by have h0 : i = p := e; have h1 := HA.out.2.2; omega)) (fun i hi h => h))
    have HL : Hid (((psteps step most wa j).map stpc).length = j) := Lib.hid HX.out.2.2.2.2.2
    have HD2 := Lib.hid hd2
    have HB := Lib.hid (And.intro ((HX.out.2.2.1.chg HA.out.2.1 (fun h => h)).chg cB (fun e => by have h0 : p1 = p := e; have h1 := HA.out.2.2; have h2 := HX.out.2.2.1.lt; omega)) ((HX.out.2.2.2.1.chg HA.out.2.1 (fun h => h)).chg cB (fun e => by have h0 : p2 = p := e; have h1 := HA.out.2.2; have h2 := HX.out.2.2.2.1.lt; omega)))
    clear hd2 B cB hlt q1 q5 z1
    go_wp2_with (at_builtin; refine wpList_app (by rfl) (.tmp 63) (.tmp 65) 46 (by rfl) 56 i0 _ 3 24 Tryz.underlying46 hi1 hi2 hi3 hi4 rfl (by omega) u8 g ((psteps step most wa j).map stpc) (by rfl) (HO.out.chg (by repeat (first | exact Chg.refl _ _ | exact (by assumption) | apply Chg.drewN | apply Chg.drew | apply Chg.alloc)) (fun _ _ h => h)) _ _ [[.int .i64 step, .int .i64 d2, .int .u64 (2 * (j : Int) + 1)]] 1 1 (by rfl) rfl (Blk.new _ _ _) (by simp) (by simp [Value.oneCell']) (by simp) (by rw [HL.out]; simp; omega) (by rw [HL.out]; simp [maxLen]; omega) ?_)
    rw [psteps_len]
    intro k1 cap1 v1 ho hch hk
    have cV : Chg (fun i => g = some i) _ v1 := ((Chg.refl (fun i => g = some i) _).alloc _).trans hch
    obtain ⟨nv, hnv⟩ : ∃ nv, nv = Value.slice (some ⟨k1, 0, none⟩) (j + 1) cap1 := ⟨_, rfl⟩
    have hfin : SpAt w step most wa p1 p2 #[.int .u8 x0, .int .u8 x1, .int .u8 x2, .int .u8 x3, .int .u8 x4, .int .u8 wa, .int .u32 x6, .int .i32 x7, .slice xa xn xc, .int .u64 x9] #[.slice xsa san sac, .int .i64 b1, .int .i64 b2, .int .i64 b3, .int .i64 b4, .int .i64 b5, .slice xsb sbn sbc, .int .i64 step, .int .i64 rate, .int .i64 b9] (j + 1) nv v1 := by
     rw [← hnv] at ho
     have hl := HX.out.1
     refine ⟨⟨some k1, ?_, fun k hk' => ?_⟩, HB.out.1.chg cV (fun e => ?_), HB.out.2.chg cV (fun e => ?_), HC.out.trans' cV (fun i hi e => ?_)⟩
     ·rw [psteps_succ, List.map_append, List.map_cons, List.map_nil, HD2.out]
      exact ho
     ·cases hk'
      rcases hk with h | h
      ·exact HX.out.2.1 _ h
      ·have := HC.out.size; omega
     ·obtain ⟨_, h'⟩ := HO.out.blk e
      exact absurd (blk_typ h' HB.out.1) (by decide)
     ·obtain ⟨_, h'⟩ := HO.out.blk e
      exact absurd (blk_typ h' HB.out.2) (by decide)
     ·have := HX.out.2.1 _ e; omega
    rw [hnv] at hfin
    have HFIN := Lib.hid hfin
    clear hnv hfin cV ho hch hk
    go_wp2_with fail
    exact ⟨⟨j + 1, by omega, by simp, HFIN.out⟩, by simp [intOf]; omega⟩
  ·obtain rfl : j = n := by omega
   have HX := Lib.hid (And.intro x1 (And.intro x2 x5))
   clear x1 x2 x3 x4 x5
   go_wp2_with fail
   go_ret
   exact ⟨_, g, rfl, HX.out.1, HX.out.2.1, HX.out.2.2⟩
end
section
open Go Go.RowKit Go.Chron
theorem path_text : ∀ n : Nat, n < 5 → ∀ q : Nat, q < n + 1 → ∀ m : Nat, m < 5 → parseI (printI ⟨Pth.srv (n + 1), (q : Int) + 1, 4, 4 + (m : Int), 2000, 500⟩) = (⟨Pth.srv (n + 1), (q : Int) + 1, 4, 4 + (m : Int), 2000, 500⟩, 0, 0) := by decide +kernel
theorem path_ix : ∀ n : Nat, n < 5 → ∀ i : Nat, i < n + 1 → Lib.idxOf (Pth.srv (n + 1)) ((Pth.srv (n + 1)).getD i 0) = (i : Int) := by decide +kernel
theorem owns_slice {w : World} {e : TypeId} {sz n cap : Nat} {a : Option Addr} {g : Option Nat} {els : List (List Value)} (h : Owns w e sz (.slice a n cap) g els) : n = els.length ∧ n ≤ cap ∧ (a = none → n = 0 ∧ cap = 0) ∧ Reads w sz a els := by
 obtain ⟨a', cap', hv, h1, h2, h3, h4⟩ := h.form
 injection hv with e1 e2 e3
 subst e1 e3
 have hr := h.reads
 rw [← h4] at hr
 exact ⟨e2, by omega, fun hh => by have := h3 hh; omega, hr⟩
variable {p : Pth}
theorem path_parse (o : p.Ok) : parseI (printI p.cfg) = (p.cfg, 0, 0) := by
 obtain ⟨b1, b2, b3, b4, b5, b6⟩ := Pth.bounds o
 have e1 : p.n.toNat = (p.n.toNat - 1) + 1 := by omega
 have e2 : p.quo = ((p.quo.toNat - 1 : Nat) : Int) + 1 := by omega
 have e3 : p.most = 4 + ((p.most.toNat - 4 : Nat) : Int) := by omega
 have h := path_text (p.n.toNat - 1) (by omega) (p.quo.toNat - 1) (by omega) (p.most.toNat - 4) (by omega)
 have hc : p.cfg = ⟨Pth.srv (p.n.toNat - 1 + 1), ((p.quo.toNat - 1 : Nat) : Int) + 1, 4, 4 + ((p.most.toNat - 4 : Nat) : Int), 2000, 500⟩ := by
  unfold Pth.cfg
  rw [← e1, ← e2, ← e3]
 rw [hc]
 exact h
theorem path_small (o : p.Ok) : p.cfg.Small := by
 obtain ⟨b1, b2, b3, b4, b5, b6⟩ := Pth.bounds o
 refine ⟨fun z hz => ?_, ?_, ?_, ?_, ?_, ?_, ?_⟩
 ·obtain ⟨i, hi, rfl⟩ := List.mem_map.1 hz
  have := List.mem_range.1 hi
  omega
 ·show (Pth.srv p.n.toNat).length ≤ 16
  rw [Pth.srv_len]; omega
 ·show 0 ≤ p.quo ∧ p.quo ≤ _; omega
 ·show (0 : Int) ≤ 4 ∧ (4 : Int) ≤ _; omega
 ·show 0 ≤ p.most ∧ p.most ≤ _; omega
 ·show (0 : Int) ≤ 2000 ∧ (2000 : Int) ≤ _; omega
 ·show (0 : Int) ≤ 500 ∧ (500 : Int) ≤ _; omega
theorem path_len (o : p.Ok) : (printI p.cfg).length < 4294967281 := by
 obtain ⟨b1, b2, b3, b4, b5, b6⟩ := Pth.bounds o
 have h1 := servs_len p.cfg.servers
 have h2 : p.cfg.servers.length = p.n.toNat := Pth.srv_len _
 have h3 := textI_len p.cfg.quorum.toNat
 have h4 := textI_len p.cfg.least.toNat
 have h5 := textI_len p.cfg.most.toNat
 have h6 := textI_len p.cfg.delay.toNat
 have h7 := textI_len p.cfg.slew.toNat
 unfold printI
 rw [h2] at h1
 generalize p.cfg.servers.flatMap servI = L at *
 simp
 omega
theorem path_x (o : p.Ok) (i : Nat) : (0 ≤ (p.x i).1 ∧ (p.x i).1 < 4294967296) ∧ 0 ≤ (p.x i).2 ∧ (p.x i).2 < 4294967296 := by
 unfold Pth.x
 rw [List.getD_eq_getElem?_getD]
 cases h : p.wx[i % p.wx.length]? with
 | none => simp
 | some x => exact o.wx x (List.mem_of_getElem? h)
theorem path_way (o : p.Ok) {y : Way} {n : Nat} (hy : y ∈ p.ways n) : ∃ i, i < n ∧ y = p.way i := by
 obtain ⟨i, hi, rfl⟩ := List.mem_map.1 hy
 exact ⟨i, List.mem_range.1 hi, rfl⟩
theorem path_get {n i : Nat} (hi : i < n) : (p.ways n).getD i way0 = p.way i := by
 unfold Pth.ways
 rw [List.getD_eq_getElem?_getD, List.getElem?_map, List.getElem?_range hi]
 rfl
theorem path_wok (o : p.Ok) {i : Nat} (hi : i < 5) : (p.way i).Ok ∧ (p.way i).kind ≠ 2 ∧ 0 ≤ (p.way i).there + (p.way i).stay + (p.way i).back ∧ (p.way i).there + (p.way i).stay + (p.way i).back ≤ 50000000 := by
 obtain ⟨⟨x1, x2⟩, x3, x4⟩ := path_x o i
 have ol := o.lie
 unfold Pth.way
 refine ⟨⟨?_, ?_, ?_, ?_, ?_, ?_⟩, ?_, ?_, ?_⟩ <;> simp only
 ·split <;> omega
 ·omega
 ·omega
 ·omega
 ·omega
 ·split <;> omega
 ·split <;> omega
 ·omega
 ·omega
theorem path_crew (o : p.Ok) : Crew p.cfg (p.ways p.n.toNat) := by
 obtain ⟨b1, b2, b3, b4, b5, b6⟩ := Pth.bounds o
 refine ⟨?_, fun i hi => ?_, fun y hy => ?_, fun y hy => ?_, ?_, ?_, ?_⟩
 ·show (Pth.srv p.n.toNat).length = _
  rw [Pth.srv_len, Pth.ways_len]
 ·rw [Pth.ways_len] at hi
  have e1 : p.n.toNat = (p.n.toNat - 1) + 1 := by omega
  show Lib.idxOf (Pth.srv p.n.toNat) ((Pth.srv p.n.toNat).getD i 0) = (i : Int)
  rw [e1]
  exact path_ix (p.n.toNat - 1) (by omega) i (by omega)
 ·obtain ⟨i, hi, rfl⟩ := path_way o hy
  exact (path_wok o (by omega)).1
 ·obtain ⟨i, hi, rfl⟩ := path_way o hy
  exact (path_wok o (by omega)).2.1
 ·rw [Pth.ways_len]
  show p.quo ≤ _
  omega
 ·show 1 ≤ p.quo
  omega
 ·show 0 ≤ p.most
  omega
theorem path_took (o : p.Ok) : ∀ y ∈ p.ways p.n.toNat, 0 ≤ y.there + y.stay + y.back ∧ y.there + y.stay + y.back ≤ p.step := by
 obtain ⟨b1, b2, b3, b4, b5, b6⟩ := Pth.bounds o
 intro y hy
 obtain ⟨i, hi, rfl⟩ := path_way o hy
 have := path_wok o (show i < 5 by omega)
 omega
theorem pstep_ok {step rate most wa : Int} (hs : 100000000 ≤ step ∧ step ≤ 1000000000) (hr : 0 ≤ rate ∧ rate ≤ 100) (hm : most = step * rate / 1000000) (i : Nat) :
  (pstep step most wa i).1 = step ∧ (pstep step most wa i).2.2 = 2 * (i : Int) + 1 ∧ ((pstep step most wa i).2.1 - step) * 1000000 ≤ rate * step ∧ (step - (pstep step most wa i).2.1) * 1000000 ≤ rate * step ∧ 0 ≤ rate * step ∧ rate * step ≤ 100 * step := by
 have h1 : rate * step ≤ 100 * step := Int.mul_le_mul_of_nonneg_right hr.2 (by omega)
 have h2 : 0 ≤ rate * step := Int.mul_nonneg hr.1 (by omega)
 rw [Int.mul_comm step rate] at hm
 generalize rate * step = rs at *
 refine ⟨rfl, rfl, ?_, ?_, h2, h1⟩
 ·unfold pstep
  simp only
  split
  ·omega
  ·split
   ·omega
   ·split
    ·split <;> omega
    ·omega
 ·unfold pstep
  simp only
  split
  ·omega
  ·split
   ·omega
   ·split
    ·split <;> omega
    ·omega
end
section
open Go Go.ChangeShapes Go.WideShapes Go.ChangeAt Go.RowKit Go.Deep
open Go.Chron
theorem int_rng {k : IntKind} {x : Int} (h : (Lit.int k x).wf = true) : k.min ≤ x ∧ x ≤ k.max := by
 unfold Lit.wf at h
 simpa using h
theorem pairs_of : ∀ els : List (List Value), (∀ x ∈ els, okAll [.int .u32, .int .u32] x) → ∃ wx : List (Int × Int), els = wx.map (fun x => [.int .u32 x.1, .int .u32 x.2]) ∧ ∀ x ∈ wx, (0 ≤ x.1 ∧ x.1 < 4294967296) ∧ 0 ≤ x.2 ∧ x.2 < 4294967296
 | [], _ => ⟨[], rfl, fun x hx => by cases hx⟩
 | e :: els, h => by
  obtain ⟨wx, rfl, hw⟩ := pairs_of els (fun x hx => h x (List.mem_cons_of_mem _ hx))
  obtain ⟨u, r, rfl, ⟨n, rfl, hn⟩, h1⟩ := okAll_cons (h e (by simp))
  obtain ⟨m, rfl, hm⟩ := ok_one_int h1
  have a := int_rng hn
  have b := int_rng hm
  simp [IntKind.min, IntKind.max, IntKind.signed, IntKind.bits] at a b
  refine ⟨(n, m) :: wx, rfl, fun x hx => ?_⟩
  rcases List.mem_cons.1 hx with rfl | hx
  ·exact ⟨by omega, by omega⟩
  ·exact hw x hx
theorem path_open {H : Type} {enc : TypeId × Value → H} {W : World} {base : Nat} {sp : Nat → Bool} {held : Bool} {v : Value} {d : DataW H} {pl : List MemPlace} (hv : ∃ cs, v = .agg cs ∧ cs.size = Tryz.prog.cellsOf 26) (h0 : DataW.Trod enc Tryz.prog W base sp held 26 v d pl) :
  ∃ (p : Pth) (a : Option Addr) (cap : Nat), p.Ok ∧ v = .agg (pthc p a cap) ∧ Reads W 2 a (p.wx.map fun x => [.int .u32 x.1, .int .u32 x.2]) ∧ p.wx.length ≤ cap ∧ cap ≤ 9223372036854775807 := by
 obtain ⟨cs, rfl, hc⟩ := hv
 rw [show Tryz.prog.cellsOf 26 = 10 by kernel_rfl] at hc
 obtain ⟨fuel, hfu⟩ := h0
 have hfu' : DataW.trod enc Tryz.prog W base sp held fuel 26 cs.toList = some (d, pl) := by simpa [Value.cells] using hfu
 obtain ⟨c0, c1, c2, c3, c4, c5, c6, c7, c8, c9, hcs⟩ : ∃ c0 c1 c2 c3 c4 c5 c6 c7 c8 c9, cs.toList = [c0, c1, c2, c3, c4, c5, c6, c7, c8, c9] := by
  have hl : cs.toList.length = 10 := by simpa using hc
  match cs.toList, hl with
  | [a0, a1, a2, a3, a4, a5, a6, a7, a8, a9], _ => exact ⟨_, _, _, _, _, _, _, _, _, _, rfl⟩
 rw [hcs] at hfu'
 have fa := fun i sh hs => trod_flatAt 5 fuel 26 [c0, c1, c2, c3, c4, c5, c6, c7, c8, c9] _ hfu' i sh hs
 obtain ⟨u, e, x0, rfl, y0⟩ := fa 0 (.int .u8) (by kernel_rfl)
 obtain rfl : c0 = _ := Option.some.inj e
 obtain ⟨u, e, x1, rfl, y1⟩ := fa 1 (.int .u8) (by kernel_rfl)
 obtain rfl : c1 = _ := Option.some.inj e
 obtain ⟨u, e, x2, rfl, y2⟩ := fa 2 (.int .u8) (by kernel_rfl)
 obtain rfl : c2 = _ := Option.some.inj e
 obtain ⟨u, e, x3, rfl, y3⟩ := fa 3 (.int .u8) (by kernel_rfl)
 obtain rfl : c3 = _ := Option.some.inj e
 obtain ⟨u, e, x4, rfl, y4⟩ := fa 4 (.int .u8) (by kernel_rfl)
 obtain rfl : c4 = _ := Option.some.inj e
 obtain ⟨u, e, x5, rfl, y5⟩ := fa 5 (.int .u8) (by kernel_rfl)
 obtain rfl : c5 = _ := Option.some.inj e
 obtain ⟨u, e, x6, rfl, y6⟩ := fa 6 (.int .u32) (by kernel_rfl)
 obtain rfl : c6 = _ := Option.some.inj e
 obtain ⟨u, e, x7, rfl, y7⟩ := fa 7 (.int .i32) (by kernel_rfl)
 obtain rfl : c7 = _ := Option.some.inj e
 obtain ⟨u, e, x9, rfl, y9⟩ := fa 9 (.int .u64) (by kernel_rfl)
 obtain rfl : c9 = _ := Option.some.inj e
 obtain ⟨fs, hu, hf8, hfl⟩ : ∃ fs : Array Field, Tryz.prog.underlying 26 = some (.struct fs) ∧ (fs[8]?).map (fun f => (f.type, f.offset)) = some (23, 8) ∧ fs.size = 10 := ⟨_, Tryz.underlying26, by rfl, by rfl⟩
 obtain ⟨xs, m, _, _, _, hxl, hx⟩ := DataW.trod_struct hu hfu'
 obtain ⟨f8, g8, g9⟩ := Option.map_eq_some_iff.1 hf8
 have h8 := hx 8 f8 g8
 obtain ⟨t8, o8⟩ : f8.type = 23 ∧ f8.offset = 8 := ⟨congrArg Prod.fst g9, congrArg Prod.snd g9⟩
 rw [t8, o8, show Tryz.prog.cellsOf 23 = 1 by kernel_rfl, List.getElem?_eq_getElem (by rw [hxl, hfl]; omega)] at h8
 have h8' : DataW.trod enc Tryz.prog W base sp held m 23 [c8] = some xs[8] := h8
 obtain ⟨a, n, cap, rfl⟩ : ∃ a n cap, c8 = .slice a n cap := by
  rcases open_slice Tryz.underlying23 h8' with ⟨q, _⟩ | ⟨ad, n, cap, _, _, _, _, q, _⟩
  ·exact ⟨_, _, _, by simpa using q⟩
  ·exact ⟨_, _, _, by simpa using q⟩
 obtain ⟨els, F⟩ := Go.Chron.flat_in (shs := [.int .u32, .int .u32]) Tryz.underlying23 (by kernel_rfl) (by decide +kernel) h8'
 obtain ⟨wx, rfl, hw⟩ := pairs_of els F.ok
 have hn := F.lenE
 rw [List.length_map] at hn
 subst hn
 have r0 := int_rng y0
 have r1 := int_rng y1
 have r2 := int_rng y2
 have r3 := int_rng y3
 have r4 := int_rng y4
 have r5 := int_rng y5
 have r6 := int_rng y6
 have r7 := int_rng y7
 have r9 := int_rng y9
 simp [IntKind.min, IntKind.max, IntKind.signed, IntKind.bits] at r0 r1 r2 r3 r4 r5 r6 r7 r9
 refine ⟨⟨x0, x1, x2, x3, x4, x5, x6, x7, wx, x9⟩, a, cap, ⟨by simp only; omega, by simp only; omega, by simp only; omega, by simp only; omega, by simp only; omega, by simp only; omega, by simp only; omega, by simp only; omega, hw, by simp only; omega⟩, ?_, F.reads, F.leE, F.capE⟩
 rw [← Array.toArray_toList (xs := cs), hcs]
 rfl
end
end Go.Proofs.YtamhicdhbjniiaaGreatDoor
