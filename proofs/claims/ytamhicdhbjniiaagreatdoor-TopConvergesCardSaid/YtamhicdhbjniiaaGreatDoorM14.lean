/- Package packet: contracts. packet.word and Get: contracts. packet.Get: contract. Package sane: contracts. -/
import Derived.Test.YtamhicdhbjniiaaGreatDoorM11
import Derived.Test.YtamhicdhbjniiaaGreatDoorM07
import Derived.Deep.RegionWith
import Derived.StillTailTactics
import Derived.BigQuiet
set_option linter.unusedVariables false
set_option maxHeartbeats 3200000
set_option maxRecDepth 100000
section
namespace Go.Chron
open Go Go.RowKit
def u8c (z : Int) : List Value := [.int .u8 z]
def beI (sz : Nat) (x : Int) : List Int := (List.range sz).map fun i => x / 2 ^ (8 * (sz - 1 - i)) % 256
structure By (w w' : World) (v : Value) (g : Option Nat) (L : List Int) : Prop where
 o : Owns w' 5 1 v g (L.map u8c)
 n : ∀ k, g = some k → w.heap.size ≤ k
 c : Chg (fun _ => False) w w'
theorem By.chg0 {w w' w'' : World} {v : Value} {g : Option Nat} {L : List Int} (h : By w w' v g L) (k : Chg (fun _ => False) w' w'') : By w w'' v g L := ⟨h.o.chg k (fun _ _ h => h), h.n, h.c.trans k⟩
theorem By.add {w w1 w2 : World} {v v' : Value} {g : Option Nat} {L : List Int} {x : List Int} {k : Nat} (h : By w w1 v g L) (ho : Owns w2 5 1 v' (some k) ((L ++ x).map u8c)) (hc : Chg (fun b => g = some b) w1 w2) (hk : g = some k ∨ w1.heap.size ≤ k) : By w w2 v' (some k) (L ++ x) := by
 refine ⟨ho, fun j hj => ?_, h.c.trans' hc (fun i hi e => by have := h.n i e; omega)⟩
 cases hj
 rcases hk with hk | hk
 ·exact h.n _ hk
 ·exact Nat.le_trans h.c.size hk
theorem By.base {w w' w'' : World} {v : Value} {g : Option Nat} {L : List Int} (h : By w' w'' v g L) (c : Chg (fun _ => False) w w') : By w w'' v g L := ⟨h.o, fun k hk => Nat.le_trans c.size (h.n k hk), c.trans h.c⟩
theorem beI_len (sz : Nat) (x : Int) : (beI sz x).length = sz := by simp [beI]
theorem beI_take {sz k : Nat} {x : Int} (h : k < sz) : (beI sz x).take (k + 1) = (beI sz x).take k ++ [x / 2 ^ (8 * (sz - 1 - k)) % 256] := by
 rw [List.take_add_one]
 simp [beI, h]
theorem flat_be_len (sz : Nat) (xs : List Int) : (xs.flatMap (beI sz)).length = xs.length * sz := by
 induction xs with
 | nil => simp
 | cons x r ih => rw [List.flatMap_cons, List.length_append, ih, beI_len, List.length_cons, Nat.succ_mul, Nat.add_comm]
end Go.Chron
namespace Go.Proofs.YtamhicdhbjniiaaGreatDoor
open Go.RowKit Go.Chron
theorem info_u8 : (Tryz.prog.info? 5).map (fun i => (i.zero, i.size, i.bytes)) = some (some (.int .u8 0), 1, 1) := by kernel_rfl
theorem words126 (sz : Nat) (hsz : 1 ≤ sz ∧ sz ≤ 8) (L xs : List Int) (w0 w : World) (v : Value) (g : Option Nat) (hB : By w0 w v g L) (b : Nat) (hX : Blk w b 24 (xs.map fun x => Value.int .u64 x).toArray) (hx : ∀ x ∈ xs, 0 ≤ x ∧ x < 18446744073709551616) (hl : xs.length ≤ 100) (hL : L.length ≤ 1000) :
  Calls Tryz.prog 126 #[v, .int .i64 sz, .slice (some ⟨b, 0, none⟩) xs.length xs.length] w fun e w' => ∃ v' g', e = .returned v' ∧ By w0 w' v' g' (L ++ xs.flatMap (beI sz)) := by
 obtain ⟨i0, hi, hz0, hz1, hz2⟩ := info_parts info_u8
 have HX := Lib.hid hX
 have HXX := Lib.hid hx
 have HB := Lib.hid hB
 obtain ⟨N, hN⟩ : ∃ N, N = xs.length := ⟨_, rfl⟩
 rw [← hN] at hl ⊢
 have HN := Lib.hid hN
 have hbl := hX.lt
 clear hX hx hB hN
 go_enter Tryz.func126, Tryz.ntmps126
 go_wp2_with fail
 go_loopw [12, 0] (fun i v wr => ∃ (j : Nat) (g : Option Nat), j ≤ N ∧ i = .int .i64 j ∧ By w0 wr v g (L ++ (xs.take j).flatMap (beI sz)) ∧ Blk wr b 24 (xs.map fun x => Value.int .u64 x).toArray) (fun i _ _ => N - (intOf i).toNat)
 case atStart => exact ⟨0, g, by omega, rfl, by simpa using HB.out, HX.out⟩
 case round =>
  obtain ⟨j, g1, hj, rfl, B1, X1⟩ := hrel
  by_cases hjN : j < N
  ·have hjl : j < xs.length := by have := HN.out; omega
   obtain ⟨x, hxj⟩ : ∃ x, xs[j]? = some x := ⟨_, List.getElem?_eq_getElem hjl⟩
   have hxr := HXX.out x (List.mem_of_getElem? hxj)
   obtain ⟨x0, x1⟩ := hxr
   have e0 : wr.cell? ⟨b, j, none⟩ = some (.int .u64 x) := by
    rw [X1.cell j]
    simp [hxj]
   have htk : xs.take (j + 1) = xs.take j ++ [x] := by rw [List.take_add_one, hxj]; rfl
   have hfl : L ++ (xs.take (j + 1)).flatMap (beI sz) = L ++ (xs.take j).flatMap (beI sz) ++ beI sz x := by rw [htk, List.flatMap_append]; simp
   have HFL := Lib.hid hfl
   have hML : (L ++ (xs.take j).flatMap (beI sz)).length ≤ 2000 := by rw [List.length_append, flat_be_len, List.length_take]; have h1 : min j xs.length * sz ≤ 100 * 8 := Nat.mul_le_mul (by omega) hsz.2; omega
   generalize L ++ (xs.take j).flatMap (beI sz) = M at *
   have HB1 := Lib.hid B1
   have HX1 := Lib.hid X1
   have hbl1 := X1.lt
   clear B1 htk hxj hjl hfl X1
   obtain ⟨wo, rfl⟩ : ∃ wo, wo = wr := ⟨wr, rfl⟩
   go_wp2_with fail
   go_loopw [17, 0] (fun i v wr => ∃ (k : Nat) (g : Option Nat), k ≤ sz ∧ i = .int .i64 k ∧ By w0 wr v g (M ++ (beI sz x).take k) ∧ Blk wr b 24 (xs.map fun x => Value.int .u64 x).toArray) (fun i _ _ => sz - (intOf i).toNat)
   case atStart => exact ⟨0, g1, by omega, rfl, by simpa using HB1.out, HX1.out⟩
   case round =>
    obtain ⟨k, g2, hk, rfl, B2, X2⟩ := hrel
    by_cases hks : k < sz
    ·have V3 := B2.chg0 (chg0_alloc wr (Obj.cells #[Value.int .u8 (x / 2 ^ (8 * (sz - 1 - k)) % 256)] 5))
     have hbX := Blk.new wr 5 #[Value.int .u8 (x / 2 ^ (8 * (sz - 1 - k)) % 256)]
     have X3 := X2.alloc (Obj.cells #[Value.int .u8 (x / 2 ^ (8 * (sz - 1 - k)) % 256)] 5)
     have hlen : (M ++ (beI sz x).take k).length ≤ 2010 := by rw [List.length_append, List.length_take]; omega
     have hT : M ++ (beI sz x).take (k + 1) = M ++ (beI sz x).take k ++ [x / 2 ^ (8 * (sz - 1 - k)) % 256] := by rw [beI_take hks, List.append_assoc]
     obtain ⟨A, hA⟩ : ∃ A, A = M ++ (beI sz x).take k := ⟨_, rfl⟩
     rw [← hA] at hT V3 hlen
     have HT := Lib.hid hT
     have HX3 := Lib.hid X3
     clear B2 X2 X3 hT hA
     go_wp2_with (at_builtin; refine wpList_app (by rfl) (.tmp 20) (.tmp 29) 66 (by rfl) 5 i0 _ 1 1 Tryz.underlying66 hi hz0 hz1 hz2 rfl (by omega) _ _ _ (by rfl) V3.o _ 5 [u8c (x / 2 ^ (8 * (sz - 1 - k)) % 256)] 1 1 (by rfl) (by rfl) hbX (by simp [u8c]) (by intro u hu; simp [u8c] at hu; subst hu; rfl) (by simp) (by simp; omega) (by simp [maxLen]; omega) ?_)
     intro k1 cap1 w' ho hc hk1
     have hV4 : By w0 w' (.slice (some ⟨k1, 0, none⟩) (A.length + 1) cap1) (some k1) (A ++ [x / 2 ^ (8 * (sz - 1 - k)) % 256]) := V3.add (by rw [List.map_append]; exact ho) hc (by simpa using hk1)
     have hne : ∀ i, g2 = some i → i ≠ b := by
      intro i hi e
      subst e
      obtain ⟨c', hc'⟩ := V3.o.blk hi
      exact absurd (blk_typ hc' HX3.out) (by decide)
     have hX4 := HX3.out.chg hc (fun h => hne b h rfl)
     have HV4 := Lib.hid hV4
     have HX4 := Lib.hid hX4
     clear V3 hbX ho hc hk1 hne hX4 hV4
     go_wp2_with fail
     go_roundw
     case rel => exact ⟨k + 1, some k1, by omega, by go_num, by rw [HT.out]; exact HV4.out, HX4.out⟩
     case measure => simp [intOf]; omega
    ·obtain rfl : k = sz := by omega
     have B2' : By w0 wr u0 g2 (M ++ beI k x) := by rw [List.take_of_length_le (by rw [beI_len]; omega)] at B2; exact B2
     have HB2 := Lib.hid B2'
     have HX2 := Lib.hid X2
     clear B2 X2 B2'
     go_wp2_with fail
     go_roundw
     case rel => exact ⟨j + 1, g2, by omega, by go_num, by rw [HFL.out]; exact HB2.out, HX2.out⟩
     case measure => simp [intOf]; omega
  ·obtain rfl : j = N := by omega
   have hB1 : By w0 wr u0 g1 (L ++ xs.flatMap (beI sz)) := by rw [List.take_of_length_le (by have := HN.out; omega)] at B1; exact B1
   have HB1 := Lib.hid hB1
   clear B1 X1 hB1
   go_wp2_with fail
   go_ret
   exact ⟨_, g1, rfl, HB1.out⟩
structure Pkt where
 leap : Int
 ver : Int
 mode : Int
 strat : Int
 poll : Int
 prec : Int
 delay : Int
 disp : Int
 refs : Int
 ref : Int
 orig : Int
 recv : Int
 xmit : Int
deriving DecidableEq
def pktv (p : Pkt) : Value := .agg #[.int .u8 p.leap, .int .u8 p.ver, .int .u8 p.mode, .int .u8 p.strat, .int .i8 p.poll, .int .i8 p.prec, .int .u32 p.delay, .int .u32 p.disp, .int .u32 p.refs, .int .u64 p.ref, .int .u64 p.orig, .int .u64 p.recv, .int .u64 p.xmit]
def pkt4 (mode strat orig recv xmit : Int) : Pkt := ⟨0, 4, mode, strat, 0, 0, 0, 0, 0, 0, orig, recv, xmit⟩
def bytes4 (mode strat orig recv xmit : Int) : List Int := [32 + mode, strat, 0, 0].flatMap (beI 1) ++ [0, 0, 0].flatMap (beI 4) ++ [0, orig, recv, xmit].flatMap (beI 8)
theorem check125 (mode strat orig recv xmit : Int) (hm : mode = 3 ∨ mode = 4) (w : World) : Calls Tryz.prog 125 #[pktv (pkt4 mode strat orig recv xmit)] w fun e w' => e = .returned (.int .i64 0) ∧ Chg (fun _ => False) w w' := by
 unfold pktv pkt4
 rcases hm with rfl | rfl
 ·go_enter Tryz.func125, Tryz.ntmps125
  go_wp2_with fail
  go_ret
  exact ⟨rfl, by repeat (first | exact Chg.refl _ _ | exact (by assumption) | apply Chg.drewN | apply Chg.drew | apply Chg.alloc)⟩
 ·go_enter Tryz.func125, Tryz.ntmps125
  go_wp2_with fail
  go_ret
  exact ⟨rfl, by repeat (first | exact Chg.refl _ _ | exact (by assumption) | apply Chg.drewN | apply Chg.drew | apply Chg.alloc)⟩
theorem put88 (mode strat orig recv xmit : Int) (hm : mode = 3 ∨ mode = 4) (hs : 0 ≤ strat ∧ strat < 256) (ho : 0 ≤ orig ∧ orig < 18446744073709551616) (hr : 0 ≤ recv ∧ recv < 18446744073709551616) (hx : 0 ≤ xmit ∧ xmit < 18446744073709551616) (w : World) :
  Calls Tryz.prog 88 #[pktv (pkt4 mode strat orig recv xmit)] w fun e w' => ∃ v g, e = .returned (.tuple #[v, .int .i64 0]) ∧ By w w' v g (bytes4 mode strat orig recv xmit) := by
 have HC := Lib.hid (check125 mode strat orig recv xmit hm)
 have hP := Blk.new w 83 #[Value.int .u8 0, Value.int .u8 4, Value.int .u8 mode, Value.int .u8 strat, Value.int .i8 0, Value.int .i8 0, Value.int .u32 0, Value.int .u32 0, Value.int .u32 0, Value.int .u64 0, Value.int .u64 orig, Value.int .u64 recv, Value.int .u64 xmit]
 have c0 := chg0_alloc w (Obj.cells #[Value.int .u8 0, Value.int .u8 4, Value.int .u8 mode, Value.int .u8 strat, Value.int .i8 0, Value.int .i8 0, Value.int .u32 0, Value.int .u32 0, Value.int .u32 0, Value.int .u64 0, Value.int .u64 orig, Value.int .u64 recv, Value.int .u64 xmit] 83)
 unfold pktv pkt4 at *
 go_enter Tryz.func88, Tryz.ntmps88
 go_upto_region 1 with (fail)
 generalize w.alloc (Obj.cells #[Value.int .u8 0, Value.int .u8 4, Value.int .u8 mode, Value.int .u8 strat, Value.int .i8 0, Value.int .i8 0, Value.int .u32 0, Value.int .u32 0, Value.int .u32 0, Value.int .u64 0, Value.int .u64 orig, Value.int .u64 recv, Value.int .u64 xmit] 83) = W0 at *
 generalize w.heap.size = P at *
 have p0 := hP.cell 0
 have p1 := hP.cell 1
 have p2 := hP.cell 2
 have p3 := hP.cell 3
 have p4 := hP.cell 4
 have p5 := hP.cell 5
 have p6 := hP.cell 6
 have p7 := hP.cell 7
 have p8 := hP.cell 8
 have p9 := hP.cell 9
 have p10 := hP.cell 10
 have p11 := hP.cell 11
 have p12 := hP.cell 12
 simp at p0 p1 p2 p3 p4 p5 p6 p7 p8 p9 p10 p11 p12
 go_wp2_with fail
 refine (HC.out _).mono ?_
 rintro e w1 ⟨rfl, c1⟩
 have hP1 := hP.chg c1 (fun h => h)
 have c2 := c0.trans c1
 clear p0 p1 p2 p3 p4 p5 p6 p7 p8 p9 p10 p11 p12 hP c0 c1
 have p0 := hP1.cell 0
 have p1 := hP1.cell 1
 have p2 := hP1.cell 2
 have p3 := hP1.cell 3
 have p4 := hP1.cell 4
 have p5 := hP1.cell 5
 have p6 := hP1.cell 6
 have p7 := hP1.cell 7
 have p8 := hP1.cell 8
 have p9 := hP1.cell 9
 have p10 := hP1.cell 10
 have p11 := hP1.cell 11
 have p12 := hP1.cell 12
 simp at p0 p1 p2 p3 p4 p5 p6 p7 p8 p9 p10 p11 p12
 go_wp2_with fail
 have hb : IntKind.u64.wrap (bits BinOp.or IntKind.u8 (bits BinOp.or IntKind.u8 0 32) mode) = 32 + mode := by rcases hm with rfl | rfl <;> decide
 rw [hb]
 have hm1 : 0 ≤ 32 + mode ∧ 32 + mode < 18446744073709551616 := by omega
 have X1 := Blk.new w1 24 #[Value.int .u64 (32 + mode), Value.int .u64 strat, Value.int .u64 0, Value.int .u64 0]
 have c3 := c2.alloc (Obj.cells #[Value.int .u64 (32 + mode), Value.int .u64 strat, Value.int .u64 0, Value.int .u64 0] 24)
 have hP2 := hP1.alloc (Obj.cells #[Value.int .u64 (32 + mode), Value.int .u64 strat, Value.int .u64 0, Value.int .u64 0] 24)
 clear p0 p1 p2 p3 p4 p5 p6 p7 p8 p9 p10 p11 p12 hP1 c2 hb
 generalize w1.alloc (Obj.cells #[Value.int .u64 (32 + mode), Value.int .u64 strat, Value.int .u64 0, Value.int .u64 0] 24) = w2 at *
 refine (words126 1 (by omega) [] [32 + mode, strat, 0, 0] w2 w2 (.slice none 0 0) none ⟨by simpa using Owns.nil _ _ _, by simp, Chg.refl _ _⟩ w1.heap.size (by simpa using X1) (by simp; omega) (by simp) (by simp)).mono ?_
 rintro e w3 ⟨v3, g3, rfl, B3⟩
 rw [List.nil_append] at B3
 have hP3 := hP2.chg B3.c (fun h => h)
 have X2 := Blk.new w3 24 #[Value.int .u64 0, Value.int .u64 0, Value.int .u64 0]
 have B4 := B3.chg0 (chg0_alloc w3 (Obj.cells #[Value.int .u64 0, Value.int .u64 0, Value.int .u64 0] 24))
 have p0 := hP3.cell 0
 have p1 := hP3.cell 1
 have p2 := hP3.cell 2
 have p3 := hP3.cell 3
 have p4 := hP3.cell 4
 have p5 := hP3.cell 5
 have p6 := hP3.cell 6
 have p7 := hP3.cell 7
 have p8 := hP3.cell 8
 have p9 := hP3.cell 9
 have p10 := hP3.cell 10
 have p11 := hP3.cell 11
 have p12 := hP3.cell 12
 simp at p0 p1 p2 p3 p4 p5 p6 p7 p8 p9 p10 p11 p12
 have BB4 := Lib.hid B4
 have L4 : ([32 + mode, strat, 0, 0].flatMap (beI 1)).length ≤ 1000 := by rw [flat_be_len]; simp
 have HC3 := Lib.hid c3
 have HP2 := Lib.hid hP2
 clear hP3 B3 B4 X1 c3 hP2
 go_wp2_with fail
 clear p0 p1 p2 p3 p4 p5 p6 p7 p8 p9 p10 p11 p12
 refine (words126 4 (by omega) ([32 + mode, strat, 0, 0].flatMap (beI 1)) [0, 0, 0] w2 _ v3 g3 BB4.out w3.heap.size (by simpa using X2) (by simp) (by simp) L4).mono ?_
 rintro e w5 ⟨v5, g5, rfl, B5⟩
 have hP5 := HP2.out.chg B5.c (fun h => h)
 have X3 := Blk.new w5 24 #[Value.int .u64 0, Value.int .u64 orig, Value.int .u64 recv, Value.int .u64 xmit]
 have B6 := B5.chg0 (chg0_alloc w5 (Obj.cells #[Value.int .u64 0, Value.int .u64 orig, Value.int .u64 recv, Value.int .u64 xmit] 24))
 have p0 := hP5.cell 0
 have p1 := hP5.cell 1
 have p2 := hP5.cell 2
 have p3 := hP5.cell 3
 have p4 := hP5.cell 4
 have p5 := hP5.cell 5
 have p6 := hP5.cell 6
 have p7 := hP5.cell 7
 have p8 := hP5.cell 8
 have p9 := hP5.cell 9
 have p10 := hP5.cell 10
 have p11 := hP5.cell 11
 have p12 := hP5.cell 12
 simp at p0 p1 p2 p3 p4 p5 p6 p7 p8 p9 p10 p11 p12
 have BB6 := Lib.hid B6
 have L6 : ([32 + mode, strat, 0, 0].flatMap (beI 1) ++ [0, 0, 0].flatMap (beI 4)).length ≤ 1000 := by rw [List.length_append, flat_be_len, flat_be_len]; simp
 clear hP5 B5 B6 X2
 go_wp2_with fail
 refine (words126 8 (by omega) ([32 + mode, strat, 0, 0].flatMap (beI 1) ++ [0, 0, 0].flatMap (beI 4)) [0, orig, recv, xmit] w2 _ v5 g5 BB6.out w5.heap.size (by simpa using X3) (by simp; omega) (by simp) L6).mono ?_
 rintro e w7 ⟨v7, g7, rfl, B7⟩
 have B8 := Lib.hid (B7.base HC3.out)
 clear B7 X3 p0 p1 p2 p3 p4 p5 p6 p7 p8 p9 p10 p11 p12
 go_wp2_with fail
 go_ret2
 exact ⟨_, _, rfl, B8.out⟩
theorem query131 (x : Int) (hx : 0 ≤ x ∧ x < 18446744073709551616) (w : World) :
  Calls Tryz.prog 131 #[.int .u64 x] w fun e w' => ∃ v g, e = .returned v ∧ By w w' v g (bytes4 3 0 0 0 x) := by
 have HP := Lib.hid (put88 3 0 0 0 x (.inl rfl) (by omega) (by omega) (by omega) hx)
 unfold pktv pkt4 at HP
 clear hx
 go_enter Tryz.func131, Tryz.ntmps131
 go_wp2_with fail
 refine (HP.out _).mono ?_
 rintro e w1 ⟨v, g, rfl, B1⟩
 have HB := Lib.hid B1
 clear B1
 go_wp2_with fail
 go_ret
 exact ⟨v, g, rfl, HB.out⟩
end Go.Proofs.YtamhicdhbjniiaaGreatDoor
end
section
namespace Go.Chron
open Go Go.RowKit
def beN (l : List Int) : Int := l.foldl (fun x c => x * 256 + c) 0
theorem beN_snoc (l : List Int) (c : Int) : beN (l ++ [c]) = beN l * 256 + c := by simp [beN]
theorem beN_lt : ∀ (n : Nat) (l : List Int), l.length = n → (∀ x ∈ l, 0 ≤ x ∧ x < 256) → 0 ≤ beN l ∧ beN l < 256 ^ n
 | 0, l, h, _ => by rw [List.eq_nil_of_length_eq_zero h]; simp [beN]
 | n + 1, l, h, hx => by
  have hne : l ≠ [] := by intro e; rw [e] at h; simp at h
  have hl := List.dropLast_concat_getLast hne
  have h1 := beN_lt n l.dropLast (by rw [List.length_dropLast]; omega) (fun x hx' => hx x (List.dropLast_subset _ hx'))
  have h2 := hx (l.getLast hne) (List.getLast_mem hne)
  rw [← hl, beN_snoc, Int.pow_succ]
  omega
theorem or_byte {X x : Int} (h0 : 0 ≤ X) (h1 : X < 72057594037927936) (x0 : 0 ≤ x) (x1 : x < 256) : bits .or .u64 (IntKind.u64.wrap (X * 256)) x = X * 256 + x := by
 obtain ⟨m, rfl⟩ := Int.eq_ofNat_of_zero_le h0
 obtain ⟨c, rfl⟩ := Int.eq_ofNat_of_zero_le x0
 have e : IntKind.u64.wrap ((m : Int) * 256) = ((m * 256 : Nat) : Int) := by simp only [IntKind.wrap_u64]; omega
 rw [e]
 show IntKind.u64.wrap ((BitVec.ofInt 64 ((m * 256 : Nat) : Int) ||| BitVec.ofInt 64 (c : Int)).toNat : Int) = _
 rw [BitVec.toNat_or, BitVec.toNat_ofInt, BitVec.toNat_ofInt]
 have a1 : (((m * 256 : Nat) : Int) % ((2 ^ 64 : Nat) : Int)).toNat = m <<< 8 := by rw [Nat.shiftLeft_eq]; omega
 have a2 : ((c : Int) % ((2 ^ 64 : Nat) : Int)).toNat = c := by omega
 rw [a1, a2, ← Nat.shiftLeft_add_eq_or_of_lt (by omega), Nat.shiftLeft_eq]
 simp only [IntKind.wrap_u64]
 omega
end Go.Chron
namespace Go.Proofs.YtamhicdhbjniiaaGreatDoor
open Go.RowKit Go.Chron
theorem word64 (a : Addr) (n cap : Nat) (L : List Int) (p sz : Nat) (hn : n = L.length) (hc : n ≤ cap) (hcm : cap ≤ 9223372036854775807) (hs : sz ≤ 8) (hs1 : 1 ≤ sz) (hp : p + sz ≤ n) (hL : ∀ x ∈ L, 0 ≤ x ∧ x < 256) (w : World) (hR : Reads w 1 (some a) (L.map u8c)) :
  Calls Tryz.prog 64 #[.slice (some a) n cap, .int .i64 p, .int .i64 sz] w fun e w' => e = .returned (.int .u64 (beN ((L.drop p).take sz))) ∧ w = w' := by
 obtain ⟨M, hM⟩ : ∃ M, M = (L.drop p).take sz := ⟨_, rfl⟩
 rw [← hM]
 have hMl : M.length = sz := by rw [hM, List.length_take, List.length_drop]; omega
 have hM8 : ∀ x ∈ M, 0 ≤ x ∧ x < 256 := fun x hx => hL x (by rw [hM] at hx; exact List.mem_of_mem_drop (List.mem_of_mem_take hx))
 obtain ⟨b, off, ha, hcell⟩ := hR (by simp; omega)
 cases ha
 have hP : ∀ k x, M[k]? = some x → w.cell? ⟨b, off + p + k, none⟩ = some (.int .u8 x) := by
  intro k x hx
  have hlt := (List.getElem?_eq_some_iff.1 hx).1
  rw [hM, List.getElem?_take, if_pos (by omega), List.getElem?_drop] at hx
  have := hcell (p + k) (u8c x) (by simp [hx]) 0 (.int .u8 x) rfl
  rw [Nat.add_assoc]
  simpa using this
 have HP := Lib.hid hP
 have HM8 := Lib.hid hM8
 have HML := Lib.hid hMl
 have hpc : (p : Int) < (cap : Int) := by omega
 have hpc2 : ¬ (p = cap) := by omega
 have hpc3 : p < cap := by omega
 clear hM hM8 hMl hP hR hL hcell
 go_enter Tryz.func64, Tryz.ntmps64
 go_wp2_with fail
 go_loopw [17, 7] (fun i v wr => ∃ (k : Nat), k ≤ sz ∧ i = .int .i64 k ∧ v = .int .u64 (beN (M.take k)) ∧ wr = w) (fun i _ _ => sz - (intOf i).toNat)
 case atStart => exact ⟨0, by omega, rfl, rfl, rfl⟩
 case round =>
  obtain ⟨k, hk, rfl, rfl, rfl⟩ := hrel
  by_cases hks : k < sz
  ·obtain ⟨x, hx⟩ : ∃ x, M[k]? = some x := ⟨_, List.getElem?_eq_getElem (by rw [HML.out]; omega)⟩
   have e0 := HP.out k x hx
   have hxb := HM8.out x (List.mem_of_getElem? hx)
   go_wp2_with fail
   have hlk := beN_lt k (M.take k) (by rw [List.length_take, HML.out]; omega) (fun y hy => HM8.out y (List.mem_of_mem_take hy))
   have hpw : (256 : Int) ^ k ≤ 256 ^ 7 := by
    have := Nat.pow_le_pow_right (n := 256) (by omega) (show k ≤ 7 by omega)
    exact_mod_cast this
   have hor := or_byte hlk.1 (by omega) hxb.1 hxb.2
   go_roundw
   case rel => exact ⟨k + 1, by omega, by go_num, by rw [hor, List.take_add_one, hx]; simp only [Option.toList]; rw [beN_snoc], trivial⟩
   case measure => simp [intOf]; omega
  ·obtain rfl : k = sz := by omega
   have ht : M.take k = M := List.take_of_length_le (by rw [HML.out]; omega)
   rw [ht]
   go_wp2_with fail
   go_ret
   exact ⟨rfl, rfl⟩
end Go.Proofs.YtamhicdhbjniiaaGreatDoor
end
namespace Go.Proofs.YtamhicdhbjniiaaGreatDoor
section
open Go Go.RowKit Go.Chron
theorem u32_of {x : Int} (h : 0 ≤ x ∧ x < 256 ^ 4) : IntKind.u32.wrap x = x := by simp only [IntKind.wrap_u32]; omega
def at_ (L : List Int) (i : Nat) : Int := L.getD i 0
theorem at_in {L : List Int} (hL : ∀ x ∈ L, 0 ≤ x ∧ x < 256) (i : Nat) : 0 ≤ at_ L i ∧ at_ L i < 256 := by
 unfold at_
 rw [List.getD_eq_getElem?_getD]
 cases h : L[i]? with
 | none => simp
 | some x => exact hL x (List.mem_of_getElem? h)
def pktOf (L : List Int) : Pkt := ⟨at_ L 0 / 64, at_ L 0 / 8 % 8, at_ L 0 % 8, at_ L 1, IntKind.i8.wrap (at_ L 2), IntKind.i8.wrap (at_ L 3), beN ((L.drop 4).take 4), beN ((L.drop 8).take 4), beN ((L.drop 12).take 4), beN ((L.drop 16).take 8), beN ((L.drop 24).take 8), beN ((L.drop 32).take 8), beN ((L.drop 40).take 8)⟩
theorem set13 {W : World} {g : Nat} {t : TypeId} {a0 a1 a2 a3 a4 a5 a6 a7 a8 a9 a10 a11 a12 : Value} (D : Blk W g t #[a0, a1, a2, a3, a4, a5, a6, a7, a8, a9, a10, a11, a12]) (u0 u1 u2 u3 u4 u5 u6 u7 u8 u9 u10 u11 u12 : Value) :
  Blk (((((((((((((W.setCell ⟨g, 0, none⟩ u0).setCell ⟨g, 1, none⟩ u1).setCell ⟨g, 2, none⟩ u2).setCell ⟨g, 3, none⟩ u3).setCell ⟨g, 4, none⟩ u4).setCell ⟨g, 5, none⟩ u5).setCell ⟨g, 6, none⟩ u6).setCell ⟨g, 7, none⟩ u7).setCell ⟨g, 8, none⟩ u8).setCell ⟨g, 9, none⟩ u9).setCell ⟨g, 10, none⟩ u10).setCell ⟨g, 11, none⟩ u11).setCell ⟨g, 12, none⟩ u12) g t #[u0, u1, u2, u3, u4, u5, u6, u7, u8, u9, u10, u11, u12] ∧ Chg (fun i => i = g) W (((((((((((((W.setCell ⟨g, 0, none⟩ u0).setCell ⟨g, 1, none⟩ u1).setCell ⟨g, 2, none⟩ u2).setCell ⟨g, 3, none⟩ u3).setCell ⟨g, 4, none⟩ u4).setCell ⟨g, 5, none⟩ u5).setCell ⟨g, 6, none⟩ u6).setCell ⟨g, 7, none⟩ u7).setCell ⟨g, 8, none⟩ u8).setCell ⟨g, 9, none⟩ u9).setCell ⟨g, 10, none⟩ u10).setCell ⟨g, 11, none⟩ u11).setCell ⟨g, 12, none⟩ u12) := by
 refine ⟨?_, (Chg.setCell (Chg.setCell (Chg.setCell (Chg.setCell (Chg.setCell (Chg.setCell (Chg.setCell (Chg.setCell (Chg.setCell (Chg.setCell (Chg.setCell (Chg.setCell (Chg.setCell (Chg.refl (fun i => i = g) W) (p := ⟨g, 0, none⟩) (fun _ => rfl) u0) (p := ⟨g, 1, none⟩) (fun _ => rfl) u1) (p := ⟨g, 2, none⟩) (fun _ => rfl) u2) (p := ⟨g, 3, none⟩) (fun _ => rfl) u3) (p := ⟨g, 4, none⟩) (fun _ => rfl) u4) (p := ⟨g, 5, none⟩) (fun _ => rfl) u5) (p := ⟨g, 6, none⟩) (fun _ => rfl) u6) (p := ⟨g, 7, none⟩) (fun _ => rfl) u7) (p := ⟨g, 8, none⟩) (fun _ => rfl) u8) (p := ⟨g, 9, none⟩) (fun _ => rfl) u9) (p := ⟨g, 10, none⟩) (fun _ => rfl) u10) (p := ⟨g, 11, none⟩) (fun _ => rfl) u11) (p := ⟨g, 12, none⟩) (fun _ => rfl) u12)⟩
 have := (((((((((((((D.set_ 0 u0).set_ 1 u1).set_ 2 u2).set_ 3 u3).set_ 4 u4).set_ 5 u5).set_ 6 u6).set_ 7 u7).set_ 8 u8).set_ 9 u9).set_ 10 u10).set_ 11 u11).set_ 12 u12)
 simpa using this
theorem and7_fin : ∀ m : Fin 256, bits .and .u8 (m.val : Int) 7 = (m.val : Int) % 8 := by decide
theorem and7 {x : Int} (h : 0 ≤ x ∧ x < 256) : bits .and .u8 x 7 = x % 8 := by
 obtain ⟨m, rfl⟩ := Int.eq_ofNat_of_zero_le h.1
 exact and7_fin ⟨m, by omega⟩
theorem get26 (a : Addr) (n cap : Nat) (L : List Int) (hn : n = L.length) (hc : n ≤ cap) (hcm : cap ≤ 9223372036854775807) (h48 : 48 ≤ n) (hL : ∀ x ∈ L, 0 ≤ x ∧ x < 256) (w : World) (hR : Reads w 1 (some a) (L.map u8c)) :
  Calls Tryz.prog 26 #[.slice (some a) n cap] w fun e w' => e = .returned (.tuple #[pktv (pktOf L), .int .i64 0]) ∧ Chg (fun _ => False) w w' := by
 go_enter Tryz.func26, Tryz.ntmps26
 go_upto_region 3 with (fail)
 have hR0 := hR.chg (chg0_alloc w (Obj.cells #[Value.int .u8 0, Value.int .u8 0, Value.int .u8 0, Value.int .u8 0, Value.int .i8 0, Value.int .i8 0, Value.int .u32 0, Value.int .u32 0, Value.int .u32 0, Value.int .u64 0, Value.int .u64 0, Value.int .u64 0, Value.int .u64 0] 83)) (fun _ _ h => h)
 have N0 := Blk.new w 83 #[Value.int .u8 0, Value.int .u8 0, Value.int .u8 0, Value.int .u8 0, Value.int .i8 0, Value.int .i8 0, Value.int .u32 0, Value.int .u32 0, Value.int .u32 0, Value.int .u64 0, Value.int .u64 0, Value.int .u64 0, Value.int .u64 0]
 have c0 := chg0_alloc w (Obj.cells #[Value.int .u8 0, Value.int .u8 0, Value.int .u8 0, Value.int .u8 0, Value.int .i8 0, Value.int .i8 0, Value.int .u32 0, Value.int .u32 0, Value.int .u32 0, Value.int .u64 0, Value.int .u64 0, Value.int .u64 0, Value.int .u64 0] 83)
 obtain ⟨b, off, ha, hcell⟩ := hR0 (by simp; omega)
 cases ha
 have hw := word64 ⟨b, off, none⟩ n cap L
 generalize w.alloc (Obj.cells #[Value.int .u8 0, Value.int .u8 0, Value.int .u8 0, Value.int .u8 0, Value.int .i8 0, Value.int .i8 0, Value.int .u32 0, Value.int .u32 0, Value.int .u32 0, Value.int .u64 0, Value.int .u64 0, Value.int .u64 0, Value.int .u64 0] 83) = W0 at *
 generalize hgw : w.heap.size = g at *
 have hg : ∀ i, i < n → W0.cell? ⟨b, off + i, none⟩ = some (.int .u8 (at_ L i)) := by
  intro i hi
  have hil : i < L.length := by omega
  have := hcell i (u8c L[i]) (by simp [List.getElem?_eq_getElem hil]) 0 (.int .u8 L[i]) rfl
  rw [show at_ L i = L[i] by simp [at_, List.getD_eq_getElem?_getD, List.getElem?_eq_getElem hil]]
  simpa using this
 have g0 := hg 0 (by omega)
 have g1 := hg 1 (by omega)
 have g2 := hg 2 (by omega)
 have g3 := hg 3 (by omega)
 rw [Nat.add_zero] at g0
 have hnI : (48 : Int) ≤ (n : Int) := by omega
 have W : ∀ p sz : Nat, sz ≤ 8 → 1 ≤ sz → p + sz ≤ n → Calls Tryz.prog 64 #[.slice (some ⟨b, off, none⟩) n cap, .int .i64 p, .int .i64 sz] W0.drew fun e w' => e = .returned (.int .u64 (beN ((L.drop p).take sz))) ∧ w' = W0.drew :=
  fun p sz h1 h2 h3 => (hw p sz hn hc hcm h1 h2 h3 hL W0.drew (hR0.chg (chg0_drew W0) (fun _ _ h => h))).mono (fun e w' h => ⟨h.1, h.2.symm⟩)
 have i0 : (0 : Int) < n := by omega
 have i1 : (1 : Int) < n := by omega
 have i2 : (2 : Int) < n := by omega
 have i3 : (3 : Int) < n := by omega
 have j0 : 0 < n := by omega
 have j1 : 1 < n := by omega
 have j2 : 2 < n := by omega
 have j3 : 3 < n := by omega
 have h4 : ∀ p, p + 4 ≤ n → 0 ≤ beN ((L.drop p).take 4) ∧ beN ((L.drop p).take 4) < 256 ^ 4 := fun p hp => beN_lt 4 _ (by rw [List.length_take, List.length_drop]; omega) (fun x hx => hL x (List.mem_of_mem_drop (List.mem_of_mem_take hx)))
 have h1 : ∀ i, 0 ≤ at_ L i ∧ at_ L i < 256 := fun i => at_in hL i
 clear hw hR hR0 hn hL hg hcell
 go_still_tail 42, (by kernel_rfl)
 still_call (W 4 4 (by omega) (by omega) (by omega))
 repeat still_step
 still_call (W 8 4 (by omega) (by omega) (by omega))
 repeat still_step
 still_call (W 12 4 (by omega) (by omega) (by omega))
 repeat still_step
 still_call (W 16 8 (by omega) (by omega) (by omega))
 repeat still_step
 still_call (W 24 8 (by omega) (by omega) (by omega))
 repeat still_step
 still_call (W 32 8 (by omega) (by omega) (by omega))
 repeat still_step
 still_call (W 40 8 (by omega) (by omega) (by omega))
 repeat still_step
 refine wpStill_nil ?_
 change wpList _ _ _ _ _ W0.drew
 have D := N0.drew
 have C := c0.drew
 generalize W0.drew = W1 at *
 clear g0 g1 g2 g3 N0 c0
 have f0 := D.frozen 0
 have f1 := D.frozen 1
 have f2 := D.frozen 2
 have f3 := D.frozen 3
 have f4 := D.frozen 4
 have f5 := D.frozen 5
 have f6 := D.frozen 6
 have f7 := D.frozen 7
 have f8 := D.frozen 8
 have f9 := D.frozen 9
 have f10 := D.frozen 10
 have f11 := D.frozen 11
 have f12 := D.frozen 12
 have n0 := D.cell 0
 have n1 := D.cell 1
 have n2 := D.cell 2
 have n3 := D.cell 3
 have n4 := D.cell 4
 have n5 := D.cell 5
 have n6 := D.cell 6
 have n7 := D.cell 7
 have n8 := D.cell 8
 have n9 := D.cell 9
 have n10 := D.cell 10
 have n11 := D.cell 11
 have n12 := D.cell 12
 simp at n0 n1 n2 n3 n4 n5 n6 n7 n8 n9 n10 n11 n12
 rw [u32_of (h4 4 (by omega)), u32_of (h4 8 (by omega)), u32_of (h4 12 (by omega))]
 go_wp2_with fail
 rw [and7 (h1 0), and7 (show 0 ≤ at_ L 0 / 8 ∧ at_ L 0 / 8 < 256 by have := h1 0; omega)]
 obtain ⟨E, e⟩ := set13 D (.int .u8 (at_ L 0 / 64)) (.int .u8 (at_ L 0 / 8 % 8)) (.int .u8 (at_ L 0 % 8)) (.int .u8 (at_ L 1)) (.int .i8 (IntKind.i8.wrap (at_ L 2))) (.int .i8 (IntKind.i8.wrap (at_ L 3))) (.int .u32 (beN ((L.drop 4).take 4))) (.int .u32 (beN ((L.drop 8).take 4))) (.int .u32 (beN ((L.drop 12).take 4))) (.int .u64 (beN ((L.drop 16).take 8))) (.int .u64 (beN ((L.drop 24).take 8))) (.int .u64 (beN ((L.drop 32).take 8))) (.int .u64 (beN ((L.drop 40).take 8)))
 have C2 := C.trans' (S := fun _ => False) e (fun i hi e => by omega)
 clear D C e f0 f1 f2 f3 f4 f5 f6 f7 f8 f9 f10 f11 f12 n0 n1 n2 n3 n4 n5 n6 n7 n8 n9 n10 n11 n12
 have m0 := E.cell 0
 have m1 := E.cell 1
 have m2 := E.cell 2
 have m3 := E.cell 3
 have m4 := E.cell 4
 have m5 := E.cell 5
 have m6 := E.cell 6
 have m7 := E.cell 7
 have m8 := E.cell 8
 have m9 := E.cell 9
 have m10 := E.cell 10
 have m11 := E.cell 11
 have m12 := E.cell 12
 simp at m0 m1 m2 m3 m4 m5 m6 m7 m8 m9 m10 m11 m12
 refine bodyPost_ret (v := .tuple #[pktv (pktOf L), .int .i64 0]) ?_ rfl ⟨rfl, C2⟩
 simp [results, Tryz.results26, go_sem, pktv, pktOf, m0, m1, m2, m3, m4, m5, m6, m7, m8, m9, m10, m11, m12]
def pkt0 : Pkt := ⟨0, 0, 0, 0, 0, 0, 0, 0, 0, 0, 0, 0, 0⟩
end
section
open Go Go.RowKit Go.Chron
def badOf (p : Pkt) (c : Int) : Nat → Bool
 | 0 => decide (p.ver ≠ 4)
 | 1 => decide (p.mode ≠ 4)
 | 2 => decide (c = 0) || decide (p.orig ≠ c)
 | 3 => decide (p.strat = 0)
 | 4 => decide (p.leap = 3)
 | 5 => decide (15 < p.strat)
 | _ => decide (min p.recv p.xmit = 0)
def saneOf (p : Pkt) (cookie : Int) : Int :=
 if p.ver ≠ 4 then 5 else if p.mode ≠ 4 then 6 else if cookie = 0 ∨ p.orig ≠ cookie then 7 else if p.strat = 0 then 8
 else if p.leap = 3 then 9 else if 15 < p.strat then 10 else if min p.recv p.xmit = 0 then 11 else 0
def lookOf (L : List Int) (cookie : Int) : Pkt × Int :=
 if L.length < 48 then (pkt0, 1)
 else let y := saneOf (pktOf L) cookie; (if y = 0 ∨ y = 8 then pktOf L else pkt0, y)
def testc : Array Value := #[.int .i64 5, .func (.func 96) #[] #[], .int .i64 6, .func (.func 97) #[] #[], .int .i64 7, .func (.func 98) #[] #[], .int .i64 8, .func (.func 99) #[] #[], .int .i64 9, .func (.func 100) #[] #[], .int .i64 10, .func (.func 101) #[] #[], .int .i64 11, .func (.func 102) #[] #[]]
theorem good55 (c r x : Int) (hc : 0 ≤ c ∧ c < 18446744073709551616) (hr : 0 ≤ r ∧ r < 18446744073709551616) (hx : 0 ≤ x ∧ x < 18446744073709551616) (w : World) :
  Calls Tryz.prog 55 #[.int .u64 c, .int .u64 r, .int .u64 x] w fun e w' => ∃ v g, e = .returned v ∧ By w w' v g (bytes4 4 1 c r x) := by
 have HP := Lib.hid (put88 4 1 c r x (.inr rfl) (by omega) hc hr hx)
 unfold pktv pkt4 at HP
 clear hc hr hx
 go_enter Tryz.func55, Tryz.ntmps55
 go_wp2_with fail
 refine (HP.out _).mono ?_
 rintro e w1 ⟨v, g, rfl, B1⟩
 have HB := Lib.hid B1
 clear B1
 go_wp2_with fail
 go_ret
 exact ⟨v, g, rfl, HB.out⟩
theorem tests60 (w : World) : Calls Tryz.prog 60 #[] w fun e w' => e = .returned (.slice (some ⟨w.heap.size, 0, none⟩) 7 7) ∧ Blk w' w.heap.size 158 testc ∧ Chg (fun _ => False) w w' := by
 go_enter Tryz.func60, Tryz.ntmps60
 go_wp2_with fail
 go_ret
 exact ⟨rfl, Blk.new _ _ _, by repeat (first | exact Chg.refl _ _ | exact (by assumption) | apply Chg.drewN | apply Chg.drew | apply Chg.alloc)⟩
theorem ret_boolS {a b : Bool} (h : a = b) : Ending.returned (.bool a) = Ending.returned (.bool b) := by rw [h]
theorem bad96 (p : Pkt) (c : Int) (w : World) : Calls Tryz.prog 96 #[pktv p, .int .u64 c] w fun e w' => e = .returned (.bool (badOf p c 0)) ∧ Chg (fun _ => False) w w' := by
 obtain ⟨a0, a1, a2, a3, a4, a5, a6, a7, a8, a9, a10, a11, a12⟩ := p
 unfold pktv badOf
 go_enter Tryz.func96, Tryz.ntmps96
 go_wp2_with fail
 all_goals (go_ret; exact ⟨ret_boolS (by rw [Bool.eq_iff_iff]; simp; try omega), by repeat (first | exact Chg.refl _ _ | exact (by assumption) | apply Chg.drewN | apply Chg.drew | apply Chg.alloc)⟩)
theorem bad97 (p : Pkt) (c : Int) (w : World) : Calls Tryz.prog 97 #[pktv p, .int .u64 c] w fun e w' => e = .returned (.bool (badOf p c 1)) ∧ Chg (fun _ => False) w w' := by
 obtain ⟨a0, a1, a2, a3, a4, a5, a6, a7, a8, a9, a10, a11, a12⟩ := p
 unfold pktv badOf
 go_enter Tryz.func97, Tryz.ntmps97
 go_wp2_with fail
 all_goals (go_ret; exact ⟨ret_boolS (by rw [Bool.eq_iff_iff]; simp; try omega), by repeat (first | exact Chg.refl _ _ | exact (by assumption) | apply Chg.drewN | apply Chg.drew | apply Chg.alloc)⟩)
theorem bad98 (p : Pkt) (c : Int) (w : World) : Calls Tryz.prog 98 #[pktv p, .int .u64 c] w fun e w' => e = .returned (.bool (badOf p c 2)) ∧ Chg (fun _ => False) w w' := by
 obtain ⟨a0, a1, a2, a3, a4, a5, a6, a7, a8, a9, a10, a11, a12⟩ := p
 unfold pktv badOf
 go_enter Tryz.func98, Tryz.ntmps98
 go_wp2_with fail
 all_goals (go_ret; exact ⟨ret_boolS (by rw [Bool.eq_iff_iff]; simp; try omega), by repeat (first | exact Chg.refl _ _ | exact (by assumption) | apply Chg.drewN | apply Chg.drew | apply Chg.alloc)⟩)
theorem bad99 (p : Pkt) (c : Int) (w : World) : Calls Tryz.prog 99 #[pktv p, .int .u64 c] w fun e w' => e = .returned (.bool (badOf p c 3)) ∧ Chg (fun _ => False) w w' := by
 obtain ⟨a0, a1, a2, a3, a4, a5, a6, a7, a8, a9, a10, a11, a12⟩ := p
 unfold pktv badOf
 go_enter Tryz.func99, Tryz.ntmps99
 go_wp2_with fail
 go_ret
 exact ⟨rfl, by repeat (first | exact Chg.refl _ _ | exact (by assumption) | apply Chg.drewN | apply Chg.drew | apply Chg.alloc)⟩
theorem bad100 (p : Pkt) (c : Int) (w : World) : Calls Tryz.prog 100 #[pktv p, .int .u64 c] w fun e w' => e = .returned (.bool (badOf p c 4)) ∧ Chg (fun _ => False) w w' := by
 obtain ⟨a0, a1, a2, a3, a4, a5, a6, a7, a8, a9, a10, a11, a12⟩ := p
 unfold pktv badOf
 go_enter Tryz.func100, Tryz.ntmps100
 go_wp2_with fail
 go_ret
 exact ⟨rfl, by repeat (first | exact Chg.refl _ _ | exact (by assumption) | apply Chg.drewN | apply Chg.drew | apply Chg.alloc)⟩
theorem bad101 (p : Pkt) (c : Int) (w : World) : Calls Tryz.prog 101 #[pktv p, .int .u64 c] w fun e w' => e = .returned (.bool (badOf p c 5)) ∧ Chg (fun _ => False) w w' := by
 obtain ⟨a0, a1, a2, a3, a4, a5, a6, a7, a8, a9, a10, a11, a12⟩ := p
 unfold pktv badOf
 go_enter Tryz.func101, Tryz.ntmps101
 go_wp2_with fail
 go_ret
 exact ⟨rfl, by repeat (first | exact Chg.refl _ _ | exact (by assumption) | apply Chg.drewN | apply Chg.drew | apply Chg.alloc)⟩
theorem bad102 (p : Pkt) (c : Int) (w : World) : Calls Tryz.prog 102 #[pktv p, .int .u64 c] w fun e w' => e = .returned (.bool (badOf p c 6)) ∧ Chg (fun _ => False) w w' := by
 obtain ⟨a0, a1, a2, a3, a4, a5, a6, a7, a8, a9, a10, a11, a12⟩ := p
 unfold pktv badOf
 go_enter Tryz.func102, Tryz.ntmps102
 go_wp2_with fail
 all_goals (go_ret; exact ⟨ret_boolS (by rw [Bool.eq_iff_iff]; simp; try omega), by repeat (first | exact Chg.refl _ _ | exact (by assumption) | apply Chg.drewN | apply Chg.drew | apply Chg.alloc)⟩)
theorem sane_first (p : Pkt) (c : Int) (j : Nat) (hj : j < 7) (h0 : ∀ m, m < j → badOf p c m = false) (h1 : badOf p c j = true) : saneOf p c = 5 + j := by
 unfold saneOf
 have g : ∀ m, m < j → ¬ badOf p c m = true := fun m hm => by rw [h0 m hm]; simp
 obtain rfl | rfl | rfl | rfl | rfl | rfl | rfl : j = 0 ∨ j = 1 ∨ j = 2 ∨ j = 3 ∨ j = 4 ∨ j = 5 ∨ j = 6 := by omega
 ·simp only [badOf, decide_eq_true_eq] at h1
  rw [if_pos h1]; rfl
 ·have e0 := g 0 (by omega)
  simp only [badOf, decide_eq_true_eq] at h1 e0
  rw [if_neg e0, if_pos h1]; rfl
 ·have e0 := g 0 (by omega)
  have e1 := g 1 (by omega)
  simp only [badOf, decide_eq_true_eq, Bool.or_eq_true] at h1 e0 e1
  rw [if_neg e0, if_neg e1, if_pos h1]; rfl
 ·have e0 := g 0 (by omega)
  have e1 := g 1 (by omega)
  have e2 := g 2 (by omega)
  simp only [badOf, decide_eq_true_eq, Bool.or_eq_true] at h1 e0 e1 e2
  rw [if_neg e0, if_neg e1, if_neg e2, if_pos h1]; rfl
 ·have e0 := g 0 (by omega)
  have e1 := g 1 (by omega)
  have e2 := g 2 (by omega)
  have e3 := g 3 (by omega)
  simp only [badOf, decide_eq_true_eq, Bool.or_eq_true] at h1 e0 e1 e2 e3
  rw [if_neg e0, if_neg e1, if_neg e2, if_neg e3, if_pos h1]; rfl
 ·have e0 := g 0 (by omega)
  have e1 := g 1 (by omega)
  have e2 := g 2 (by omega)
  have e3 := g 3 (by omega)
  have e4 := g 4 (by omega)
  simp only [badOf, decide_eq_true_eq, Bool.or_eq_true] at h1 e0 e1 e2 e3 e4
  rw [if_neg e0, if_neg e1, if_neg e2, if_neg e3, if_neg e4, if_pos h1]; rfl
 ·have e0 := g 0 (by omega)
  have e1 := g 1 (by omega)
  have e2 := g 2 (by omega)
  have e3 := g 3 (by omega)
  have e4 := g 4 (by omega)
  have e5 := g 5 (by omega)
  simp only [badOf, decide_eq_true_eq, Bool.or_eq_true] at h1 e0 e1 e2 e3 e4 e5
  rw [if_neg e0, if_neg e1, if_neg e2, if_neg e3, if_neg e4, if_neg e5, if_pos h1]; rfl
theorem sane_none (p : Pkt) (c : Int) (h0 : ∀ m, m < 7 → badOf p c m = false) : saneOf p c = 0 := by
 unfold saneOf
 have g : ∀ m, m < 7 → ¬ badOf p c m = true := fun m hm => by rw [h0 m hm]; simp
 have e0 := g 0 (by omega)
 have e1 := g 1 (by omega)
 have e2 := g 2 (by omega)
 have e3 := g 3 (by omega)
 have e4 := g 4 (by omega)
 have e5 := g 5 (by omega)
 have e6 := g 6 (by omega)
 simp only [badOf, decide_eq_true_eq, Bool.or_eq_true] at e0 e1 e2 e3 e4 e5 e6
 rw [if_neg e0, if_neg e1, if_neg e2, if_neg e3, if_neg e4, if_neg e5, if_neg e6]
theorem bad_all (p : Pkt) (c : Int) (j : Nat) (hj : j < 7) (w : World) : Calls Tryz.prog (96 + j) #[pktv p, .int .u64 c] w fun e w' => e = .returned (.bool (badOf p c j)) ∧ Chg (fun _ => False) w w' := by
 obtain rfl | rfl | rfl | rfl | rfl | rfl | rfl : j = 0 ∨ j = 1 ∨ j = 2 ∨ j = 3 ∨ j = 4 ∨ j = 5 ∨ j = 6 := by omega
 ·exact bad96 p c w
 ·exact bad97 p c w
 ·exact bad98 p c w
 ·exact bad99 p c w
 ·exact bad100 p c w
 ·exact bad101 p c w
 ·exact bad102 p c w
theorem test_cell {w : World} {k : Nat} (h : Blk w k 158 testc) {j : Nat} (hj : j < 7) : w.cell? ⟨k, j * 2, none⟩ = some (.int .i64 (5 + j)) ∧ w.cell? ⟨k, j * 2 + 1, none⟩ = some (.func (.func (96 + j)) #[] #[]) := by
 rw [h.cell, h.cell]
 obtain rfl | rfl | rfl | rfl | rfl | rfl | rfl : j = 0 ∨ j = 1 ∨ j = 2 ∨ j = 3 ∨ j = 4 ∨ j = 5 ∨ j = 6 := by omega
 all_goals exact ⟨rfl, rfl⟩
end
end Go.Proofs.YtamhicdhbjniiaaGreatDoor
