/- The packet that Put's bytes are. server.Answer: contract. peer.New: contract. -/
import Derived.Test.YtamhicdhbjniiaaGreatDoorM21
import Derived.Test.YtamhicdhbjniiaaGreatDoorM50
import Derived.Test.YtamhicdhbjniiaaGreatDoorM06
import Derived.Deep.RegionHeld3
import Derived.Test.YtamhicdhbjniiaaGreatDoorM12
set_option linter.unusedVariables false
set_option maxHeartbeats 3200000
set_option maxRecDepth 100000
namespace Go.Proofs.YtamhicdhbjniiaaGreatDoor
section
open Go Go.RowKit Go.Chron
theorem beI_succ (n : Nat) (x : Int) : beI (n + 1) x = beI n (x / 256) ++ [x % 256] := by
 unfold beI
 rw [List.range_succ, List.map_append]
 congr 1
 ·apply List.map_congr_left
  intro i hi
  have hi' := List.mem_range.1 hi
  have e : 8 * (n + 1 - 1 - i) = 8 + 8 * (n - 1 - i) := by omega
  have h : (2 : Int) ^ (8 + 8 * (n - 1 - i)) = 256 * 2 ^ (8 * (n - 1 - i)) := by rw [Int.pow_add]; rfl
  rw [e, h, ← Int.ediv_ediv_of_nonneg (by omega)]
 ·simp
theorem beN_beI (n : Nat) : ∀ x : Int, beN (beI n x) = x % 256 ^ n := by
 induction n with
 | zero => intro x; simp [beI, beN]
 | succ n ih =>
  intro x
  rw [beI_succ, beN_snoc, ih]
  have h : (256 : Int) ^ (n + 1) = 256 * 256 ^ n := by rw [Int.pow_succ]; omega
  rw [h]
  have hp : (0 : Int) < 256 ^ n := Int.pow_pos (by omega)
  generalize (256 : Int) ^ n = P at *
  have e1 := Int.emod_add_mul_ediv x 256
  have e2 := Int.emod_add_mul_ediv (x / 256) P
  have e3 : x = 256 * P * (x / 256 / P) + ((x / 256) % P * 256 + x % 256) := by
   have : 256 * P * (x / 256 / P) = 256 * (P * (x / 256 / P)) := by rw [Int.mul_assoc]
   omega
  have b1 := Int.emod_nonneg (x / 256) (by omega : P ≠ 0)
  have b2 := Int.emod_lt_of_pos (x / 256) hp
  have b3 := Int.emod_nonneg x (by omega : (256 : Int) ≠ 0)
  have b4 := Int.emod_lt_of_pos x (by omega : (0 : Int) < 256)
  have e5 : ((x / 256) % P * 256 + x % 256) % (256 * P) = (x / 256) % P * 256 + x % 256 := Int.emod_eq_of_lt (by omega) (by omega)
  conv => rhs; rw [e3]
  rw [Int.mul_add_emod_self_left, e5]
theorem beI_in (n : Nat) (x : Int) : ∀ z ∈ beI n x, 0 ≤ z ∧ z < 256 := by
 intro z hz
 unfold beI at hz
 obtain ⟨i, _, rfl⟩ := List.mem_map.1 hz
 omega
theorem flat_in (n : Nat) (l : List Int) : ∀ z ∈ l.flatMap (beI n), 0 ≤ z ∧ z < 256 := by
 intro z hz
 obtain ⟨x, _, hx⟩ := List.mem_flatMap.1 hz
 exact beI_in n x z hx
theorem bytes4_in (m s o r x : Int) : ∀ z ∈ bytes4 m s o r x, 0 ≤ z ∧ z < 256 := by
 intro z hz
 unfold bytes4 at hz
 rcases List.mem_append.1 hz with hz | hz
 ·rcases List.mem_append.1 hz with hz | hz
  ·exact flat_in _ _ z hz
  ·exact flat_in _ _ z hz
 ·exact flat_in _ _ z hz
theorem bytes4_len (m s o r x : Int) : (bytes4 m s o r x).length = 48 := by
 unfold bytes4
 rw [List.length_append, List.length_append, flat_be_len, flat_be_len, flat_be_len]
 rfl
theorem bytes4_head (m s o r x : Int) : ∃ T, bytes4 m s o r x = (32 + m) % 256 :: s % 256 :: 0 :: 0 :: T := by
 refine ⟨[0, 0, 0].flatMap (beI 4) ++ [0, o, r, x].flatMap (beI 8), ?_⟩
 have b1 : ∀ y : Int, beI 1 y = [y % 256] := fun y => by simp [beI]
 unfold bytes4
 rw [List.append_assoc]
 simp only [List.flatMap_cons, List.flatMap_nil, b1, List.append_nil, List.append_assoc, List.cons_append, List.nil_append]
 rfl
theorem bytes4_parts (m s o r x : Int) : bytes4 m s o r x = [32 + m, s, 0, 0].flatMap (beI 1) ++ (beI 4 0 ++ (beI 4 0 ++ (beI 4 0 ++ (beI 8 0 ++ (beI 8 o ++ (beI 8 r ++ beI 8 x)))))) := by
 unfold bytes4
 simp only [List.flatMap_cons, List.flatMap_nil, List.append_nil, List.append_assoc]
theorem drop_app {α : Type} (a b : List α) {n k : Nat} (h : a.length = k) (hk : k ≤ n) : (a ++ b).drop n = b.drop (n - k) := by
 rw [List.drop_append, List.drop_of_length_le (by omega), h, List.nil_append]
theorem take_app {α : Type} (a b : List α) {n : Nat} (h : a.length = n) : (a ++ b).take n = a := by
 rw [← h]; exact List.take_left
theorem pkt_bytes (m s o r x : Int) (hm : m = 3 ∨ m = 4) (hs : 0 ≤ s ∧ s < 256) (ho : 0 ≤ o ∧ o < 18446744073709551616) (hr : 0 ≤ r ∧ r < 18446744073709551616) (hx : 0 ≤ x ∧ x < 18446744073709551616) : pktOf (bytes4 m s o r x) = pkt4 m s o r x := by
 obtain ⟨T, hT⟩ := bytes4_head m s o r x
 have a0 : at_ (bytes4 m s o r x) 0 = 32 + m := by rw [hT]; show (32 + m) % 256 = _; omega
 have a1 : at_ (bytes4 m s o r x) 1 = s := by rw [hT]; show s % 256 = _; omega
 have a2 : at_ (bytes4 m s o r x) 2 = 0 := by rw [hT]; rfl
 have a3 : at_ (bytes4 m s o r x) 3 = 0 := by rw [hT]; rfl
 have l1 : ([32 + m, s, 0, 0].flatMap (beI 1)).length = 4 := by rw [flat_be_len]; rfl
 have p4 : (256 : Int) ^ 4 = 4294967296 := by decide
 have p8 : (256 : Int) ^ 8 = 18446744073709551616 := by decide
 have z4 : beN (beI 4 0) = 0 := by rw [beN_beI]; rfl
 have z8 : beN (beI 8 0) = 0 := by rw [beN_beI]; rfl
 have v : ∀ y : Int, 0 ≤ y ∧ y < 18446744073709551616 → beN (beI 8 y) = y := fun y hy => by rw [beN_beI, p8]; omega
 have b4 : beN (((bytes4 m s o r x).drop 4).take 4) = 0 := by
  rw [bytes4_parts, drop_app _ _ l1 (by omega), List.drop_zero, take_app _ _ (beI_len _ _), z4]
 have b8 : beN (((bytes4 m s o r x).drop 8).take 4) = 0 := by
  rw [bytes4_parts, drop_app _ _ l1 (by omega), drop_app _ _ (beI_len _ _) (by omega), List.drop_zero, take_app _ _ (beI_len _ _), z4]
 have b12 : beN (((bytes4 m s o r x).drop 12).take 4) = 0 := by
  rw [bytes4_parts, drop_app _ _ l1 (by omega), drop_app _ _ (beI_len _ _) (by omega), drop_app _ _ (beI_len _ _) (by omega), List.drop_zero, take_app _ _ (beI_len _ _), z4]
 have b16 : beN (((bytes4 m s o r x).drop 16).take 8) = 0 := by
  rw [bytes4_parts, drop_app _ _ l1 (by omega), drop_app _ _ (beI_len _ _) (by omega), drop_app _ _ (beI_len _ _) (by omega), drop_app _ _ (beI_len _ _) (by omega), List.drop_zero, take_app _ _ (beI_len _ _), z8]
 have b24 : beN (((bytes4 m s o r x).drop 24).take 8) = o := by
  rw [bytes4_parts, drop_app _ _ l1 (by omega), drop_app _ _ (beI_len _ _) (by omega), drop_app _ _ (beI_len _ _) (by omega), drop_app _ _ (beI_len _ _) (by omega), drop_app _ _ (beI_len _ _) (by omega), List.drop_zero, take_app _ _ (beI_len _ _), v o ho]
 have b32 : beN (((bytes4 m s o r x).drop 32).take 8) = r := by
  rw [bytes4_parts, drop_app _ _ l1 (by omega), drop_app _ _ (beI_len _ _) (by omega), drop_app _ _ (beI_len _ _) (by omega), drop_app _ _ (beI_len _ _) (by omega), drop_app _ _ (beI_len _ _) (by omega), drop_app _ _ (beI_len _ _) (by omega), List.drop_zero, take_app _ _ (beI_len _ _), v r hr]
 have b40 : beN (((bytes4 m s o r x).drop 40).take 8) = x := by
  rw [bytes4_parts, drop_app _ _ l1 (by omega), drop_app _ _ (beI_len _ _) (by omega), drop_app _ _ (beI_len _ _) (by omega), drop_app _ _ (beI_len _ _) (by omega), drop_app _ _ (beI_len _ _) (by omega), drop_app _ _ (beI_len _ _) (by omega), drop_app _ _ (beI_len _ _) (by omega), List.drop_zero, List.take_of_length_le (by rw [beI_len]; omega), v x hx]
 unfold pktOf pkt4
 rw [a0, a1, a2, a3, b4, b8, b12, b16, b24, b32, b40]
 rcases hm with rfl | rfl <;> rfl
end
section
open Go Go.RowKit Go.Chron
theorem meth252 (W : World) : (method 549 252 (.agg #[]) "chronobate/server.answer").run Tryz.prog W = .ok (291, .agg #[]) W := by kernel_rfl
theorem meth253 (W : World) : (method 549 253 (.agg #[]) "chronobate/server.answer").run Tryz.prog W = .ok (293, .agg #[]) W := by kernel_rfl
theorem meth254 (W : World) : (method 549 254 (.agg #[]) "chronobate/server.answer").run Tryz.prog W = .ok (294, .agg #[]) W := by kernel_rfl
theorem answer79 (y : Way) (a : Addr) (cap : Nat) (c t : Int) (w : World) (o : y.Ok) (hc : 0 ≤ c ∧ c < 18446744073709551616) (ht : In64 t) (hcap : 48 ≤ cap) (hcm : cap ≤ 9223372036854775807) (hR : Reads w 1 (some a) ((bytes4 3 0 0 0 c).map u8c)) :
  Calls Tryz.prog 79 #[.agg (wayc y), .slice (some a) 48 cap, .int .i64 t] w fun e w' => if y.kind = 2 then e = .returned (.tuple #[.slice none 0 0, .bool false]) ∧ Chg (fun _ => False) w w' else ∃ v g, e = .returned (.tuple #[v, .bool true]) ∧ By w w' v g (y.ans c t) := by
 have HC := Lib.hid (fun W => check36 y W o)
 have HG0 := get26 a 48 cap (bytes4 3 0 0 0 c) (by rw [bytes4_len]) hcap hcm (by omega) (bytes4_in _ _ _ _ _)
 rw [pkt_bytes 3 0 0 0 c (.inl rfl) (by omega) (by omega) (by omega) hc] at HG0
 have c0 := chg0_alloc w (Obj.cells (wayc y) 97)
 have HG := Lib.hid (HG0 (w.alloc (Obj.cells (wayc y) 97)) (hR.chg c0 (fun _ _ h => h)))
 have B0 := Blk.new w 97 (wayc y)
 have H0 := Lib.hid (fun (hk : y.kind = 0) W => honest291 y c t W o hc ht hk)
 have H1 := Lib.hid (fun (hk : y.kind = 1) W => lying293 y c t W o hc hk)
 have H2 := Lib.hid (fun W => silent294 y c t W)
 have hk := o.kind
 unfold pktv pkt4 at HG
 clear HG0 hR o
 generalize y.ans c t = ANS at *
 obtain ⟨k, th, st, ba, er, li⟩ := y
 unfold wayc at *
 simp only at *
 go_enter Tryz.func79, Tryz.ntmps79
 go_upto_region 1 with (fail)
 generalize w.alloc (Obj.cells #[.int .i64 k, .int .i64 th, .int .i64 st, .int .i64 ba, .int .i64 er, .int .u64 li] 97) = W at *
 generalize hg : w.heap.size = g at *
 go_wp2_with fail
 refine HG.out.mono ?_
 rintro e w1 ⟨rfl, c1⟩
 have P1 := Blk.new w1 83 #[Value.int .u8 0, Value.int .u8 4, Value.int .u8 3, Value.int .u8 0, Value.int .i8 0, Value.int .i8 0, Value.int .u32 0, Value.int .u32 0, Value.int .u32 0, Value.int .u64 0, Value.int .u64 0, Value.int .u64 0, Value.int .u64 c]
 have B1 := (B0.chg c1 (fun h => h)).alloc (Obj.cells #[Value.int .u8 0, Value.int .u8 4, Value.int .u8 3, Value.int .u8 0, Value.int .i8 0, Value.int .i8 0, Value.int .u32 0, Value.int .u32 0, Value.int .u32 0, Value.int .u64 0, Value.int .u64 0, Value.int .u64 0, Value.int .u64 c] 83)
 have c2 := (c0.trans c1).alloc (Obj.cells #[Value.int .u8 0, Value.int .u8 4, Value.int .u8 3, Value.int .u8 0, Value.int .i8 0, Value.int .i8 0, Value.int .u32 0, Value.int .u32 0, Value.int .u32 0, Value.int .u64 0, Value.int .u64 0, Value.int .u64 0, Value.int .u64 c] 83)
 go_upto_region 2 with (fail)
 generalize w1.alloc (Obj.cells #[Value.int .u8 0, Value.int .u8 4, Value.int .u8 3, Value.int .u8 0, Value.int .i8 0, Value.int .i8 0, Value.int .u32 0, Value.int .u32 0, Value.int .u32 0, Value.int .u64 0, Value.int .u64 0, Value.int .u64 0, Value.int .u64 c] 83) = W2 at *
 generalize hg1 : w1.heap.size = g1 at *
 have b0 := B1.cell 0
 have b1 := B1.cell 1
 have b2 := B1.cell 2
 have b3 := B1.cell 3
 have b4 := B1.cell 4
 have b5 := B1.cell 5
 simp at b0 b1 b2 b3 b4 b5
 go_wp2_with fail
 refine (HC.out _).mono ?_
 rintro e w3 ⟨rfl, c3⟩
 have B3 := B1.chg c3 (fun h => h)
 have P3 := P1.chg c3 (fun h => h)
 have c4 := c2.trans c3
 clear b0 b1 b2 b3 b4 b5 B0 B1 P1 c0 c1 c2 c3 HG
 have b0 := B3.cell 0
 have b1 := B3.cell 1
 have b2 := B3.cell 2
 have b3 := B3.cell 3
 have b4 := B3.cell 4
 have b5 := B3.cell 5
 have p1 := P3.cell 1
 have p2 := P3.cell 2
 have p12 := P3.cell 12
 simp at b0 b1 b2 b3 b4 b5 p1 p2 p12
 go_upto_region 4 with (fail)
 rcases hk with rfl | rfl | rfl
 ·have HH := Lib.hid (H0.out rfl)
  have hm := meth252
  have HC4 := Lib.hid c4
  have HK := Lib.hid (And.intro b0 (And.intro b1 (And.intro b2 (And.intro b3 (And.intro b4 (And.intro b5 p12))))))
  clear H0 H1 H2 HC p1 p2 B3 P3 c4 ht hc hcm hcap
  have HS4 := Lib.hid (fun W' (hW : Chg (fun _ => False) w3 W') => (⟨hW.keep HK.out.1 (fun h => h), hW.keep HK.out.2.1 (fun h => h), hW.keep HK.out.2.2.1 (fun h => h), hW.keep HK.out.2.2.2.1 (fun h => h), hW.keep HK.out.2.2.2.2.1 (fun h => h), hW.keep HK.out.2.2.2.2.2.1 (fun h => h), hW.keep HK.out.2.2.2.2.2.2 (fun h => h)⟩ : W'.cell? ⟨g, 0, none⟩ = some (.int .i64 0) ∧ W'.cell? ⟨g, 1, none⟩ = some (.int .i64 th) ∧ W'.cell? ⟨g, 2, none⟩ = some (.int .i64 st) ∧ W'.cell? ⟨g, 3, none⟩ = some (.int .i64 ba) ∧ W'.cell? ⟨g, 4, none⟩ = some (.int .i64 er) ∧ W'.cell? ⟨g, 5, none⟩ = some (.int .u64 li) ∧ W'.cell? ⟨g1, 12, none⟩ = some (.int .u64 c)))
  refine wp_region_noPanic ?_
  refine wp_region_till (s := 20) (S := fun w' => w'.cell? ⟨g, 0, none⟩ = some (.int .i64 0) ∧ w'.cell? ⟨g, 1, none⟩ = some (.int .i64 th) ∧ w'.cell? ⟨g, 2, none⟩ = some (.int .i64 st) ∧ w'.cell? ⟨g, 3, none⟩ = some (.int .i64 ba) ∧ w'.cell? ⟨g, 4, none⟩ = some (.int .i64 er) ∧ w'.cell? ⟨g, 5, none⟩ = some (.int .u64 li) ∧ w'.cell? ⟨g1, 12, none⟩ = some (.int .u64 c)) (by kernel_rfl) ?_
  have hHeld := HS4.out w3.drew (Chg.drew (Chg.refl _ _))
  refine wP 0 37 _ (fun _ => hHeld) ?_
  refine wP 1 38 _ (fun _ => hHeld) ?_
  refine wP 2 39 _ (fun _ => hHeld) ?_
  refine wP 3 40 _ (fun _ => hHeld) ?_
  refine wP 4 41 _ (fun _ => hHeld) ?_
  refine wP 5 42 _ (fun _ => hHeld) ?_
  refine wP 6 43 _ (fun _ => hHeld) ?_
  refine wP 7 44 _ (fun _ => hHeld) ?_
  refine wP 9 46 _ (fun _ => hHeld) ?_
  refine wL 10 47 _ (fun _ => hHeld) ?_
  refine wL 13 50 _ (fun _ => hHeld) ?_
  refine wP 14 51 _ (fun _ => hHeld) ?_
  refine wL 15 52 _ (fun _ => hHeld) ?_
  refine wP 16 53 _ (fun _ => hHeld) ?_
  refine wpTill_one (i := 8) (oi := ⟨some 45, _, _, _, _, _⟩) rfl (by kernel_rfl) (fun KK hKK => ?_)
  go_simp
  refine hKK _ _ (andS (HS4.out _ kC) (fun hHeld' => ?_))
  clear hKK KK
  try simp only [Act.put, qA, qB, qC]
  refine wP 11 48 _ (fun _ => hHeld') ?_
  refine wpTill_one (i := 12) (oi := ⟨some 49, _, _, _, _, _⟩) rfl (by kernel_rfl) (fun KK hKK => ?_)
  go_simp
  refine hKK _ _ (andS (HS4.out _ kC) (fun hHeld'' => ?_))
  clear hKK KK
  try simp only [Act.put, qA, qB, qC]
  refine wpTill_one (i := 17) (oi := ⟨some 54, _, _, _, _, _⟩) rfl (by kernel_rfl) (fun KK hKK => ?_)
  go_simp
  refine (HH.out _).mono ?_
  rintro e w5 ⟨v, g5, rfl, B5⟩
  have cT : Chg (fun _ => False) w3 w5 := Chg.trans kC B5.c
  refine hKK _ _ (andS (HS4.out _ kC) (fun hHeld''' => ?_))
  clear hKK KK
  try simp only [Act.put, qA, qB, qC]
  refine wP 18 55 _ (fun _ => hHeld''') ?_
  refine wP 19 56 _ (fun _ => hHeld''') ?_
  refine wpTill_one (i := 20) (oi := ⟨some 6, _, _, _, _, _⟩) rfl (by kernel_rfl) (fun KK hKK => ?_)
  go_simp
  refine hKK _ _ ⟨(fun h => (by simp at h)), ?_⟩
  clear hKK KK
  try simp only [Act.put, qA, qB, qC]
  refine wP 21 7 _ (fun h => (by simp at h)) ?_
  refine wpTill_done (by kernel_rfl) ?_
  refine NoPanic.normal ?_
  go_wp2_with fail
  go_ret2
  exact ⟨v, rfl, g5, B5.o, fun k hk => Nat.le_trans ((HC4.out.trans ((chg0_drew w3).alloc _)).size) (B5.n k hk), HC4.out.trans cT⟩
 ·have HH := Lib.hid (H1.out rfl)
  have hm := meth253
  have HC4 := Lib.hid c4
  have HK := Lib.hid (And.intro b0 (And.intro b1 (And.intro b2 (And.intro b3 (And.intro b4 (And.intro b5 p12))))))
  clear H0 H1 H2 HC p1 p2 B3 P3 c4 ht hc hcm hcap
  have HS4 := Lib.hid (fun W' (hW : Chg (fun _ => False) w3 W') => (⟨hW.keep HK.out.1 (fun h => h), hW.keep HK.out.2.1 (fun h => h), hW.keep HK.out.2.2.1 (fun h => h), hW.keep HK.out.2.2.2.1 (fun h => h), hW.keep HK.out.2.2.2.2.1 (fun h => h), hW.keep HK.out.2.2.2.2.2.1 (fun h => h), hW.keep HK.out.2.2.2.2.2.2 (fun h => h)⟩ : W'.cell? ⟨g, 0, none⟩ = some (.int .i64 1) ∧ W'.cell? ⟨g, 1, none⟩ = some (.int .i64 th) ∧ W'.cell? ⟨g, 2, none⟩ = some (.int .i64 st) ∧ W'.cell? ⟨g, 3, none⟩ = some (.int .i64 ba) ∧ W'.cell? ⟨g, 4, none⟩ = some (.int .i64 er) ∧ W'.cell? ⟨g, 5, none⟩ = some (.int .u64 li) ∧ W'.cell? ⟨g1, 12, none⟩ = some (.int .u64 c)))
  refine wp_region_noPanic ?_
  refine wp_region_till (s := 20) (S := fun w' => w'.cell? ⟨g, 0, none⟩ = some (.int .i64 1) ∧ w'.cell? ⟨g, 1, none⟩ = some (.int .i64 th) ∧ w'.cell? ⟨g, 2, none⟩ = some (.int .i64 st) ∧ w'.cell? ⟨g, 3, none⟩ = some (.int .i64 ba) ∧ w'.cell? ⟨g, 4, none⟩ = some (.int .i64 er) ∧ w'.cell? ⟨g, 5, none⟩ = some (.int .u64 li) ∧ w'.cell? ⟨g1, 12, none⟩ = some (.int .u64 c)) (by kernel_rfl) ?_
  have hHeld := HS4.out w3.drew (Chg.drew (Chg.refl _ _))
  refine wP 0 37 _ (fun _ => hHeld) ?_
  refine wP 1 38 _ (fun _ => hHeld) ?_
  refine wP 2 39 _ (fun _ => hHeld) ?_
  refine wP 3 40 _ (fun _ => hHeld) ?_
  refine wP 4 41 _ (fun _ => hHeld) ?_
  refine wP 5 42 _ (fun _ => hHeld) ?_
  refine wP 6 43 _ (fun _ => hHeld) ?_
  refine wP 7 44 _ (fun _ => hHeld) ?_
  refine wP 9 46 _ (fun _ => hHeld) ?_
  refine wL 10 47 _ (fun _ => hHeld) ?_
  refine wL 13 50 _ (fun _ => hHeld) ?_
  refine wP 14 51 _ (fun _ => hHeld) ?_
  refine wL 15 52 _ (fun _ => hHeld) ?_
  refine wP 16 53 _ (fun _ => hHeld) ?_
  refine wpTill_one (i := 8) (oi := ⟨some 45, _, _, _, _, _⟩) rfl (by kernel_rfl) (fun KK hKK => ?_)
  go_simp
  refine hKK _ _ (andS (HS4.out _ kC) (fun hHeld' => ?_))
  clear hKK KK
  try simp only [Act.put, qA, qB, qC]
  refine wP 11 48 _ (fun _ => hHeld') ?_
  refine wpTill_one (i := 12) (oi := ⟨some 49, _, _, _, _, _⟩) rfl (by kernel_rfl) (fun KK hKK => ?_)
  go_simp
  refine hKK _ _ (andS (HS4.out _ kC) (fun hHeld'' => ?_))
  clear hKK KK
  try simp only [Act.put, qA, qB, qC]
  refine wpTill_one (i := 17) (oi := ⟨some 54, _, _, _, _, _⟩) rfl (by kernel_rfl) (fun KK hKK => ?_)
  go_simp
  refine (HH.out _).mono ?_
  rintro e w5 ⟨v, g5, rfl, B5⟩
  have cT : Chg (fun _ => False) w3 w5 := Chg.trans kC B5.c
  refine hKK _ _ (andS (HS4.out _ kC) (fun hHeld''' => ?_))
  clear hKK KK
  try simp only [Act.put, qA, qB, qC]
  refine wP 18 55 _ (fun _ => hHeld''') ?_
  refine wP 19 56 _ (fun _ => hHeld''') ?_
  refine wpTill_one (i := 20) (oi := ⟨some 6, _, _, _, _, _⟩) rfl (by kernel_rfl) (fun KK hKK => ?_)
  go_simp
  refine hKK _ _ ⟨(fun h => (by simp at h)), ?_⟩
  clear hKK KK
  try simp only [Act.put, qA, qB, qC]
  refine wP 21 7 _ (fun h => (by simp at h)) ?_
  refine wpTill_done (by kernel_rfl) ?_
  refine NoPanic.normal ?_
  go_wp2_with fail
  go_ret2
  exact ⟨v, rfl, g5, B5.o, fun k hk => Nat.le_trans ((HC4.out.trans ((chg0_drew w3).alloc _)).size) (B5.n k hk), HC4.out.trans cT⟩
 ·have HH := Lib.hid (H2.out)
  have hm := meth254
  have HC4 := Lib.hid c4
  have HK := Lib.hid (And.intro b0 (And.intro b1 (And.intro b2 (And.intro b3 (And.intro b4 (And.intro b5 p12))))))
  clear H0 H1 H2 HC p1 p2 B3 P3 c4 ht hc hcm hcap
  have HS4 := Lib.hid (fun W' (hW : Chg (fun _ => False) w3 W') => (⟨hW.keep HK.out.1 (fun h => h), hW.keep HK.out.2.1 (fun h => h), hW.keep HK.out.2.2.1 (fun h => h), hW.keep HK.out.2.2.2.1 (fun h => h), hW.keep HK.out.2.2.2.2.1 (fun h => h), hW.keep HK.out.2.2.2.2.2.1 (fun h => h), hW.keep HK.out.2.2.2.2.2.2 (fun h => h)⟩ : W'.cell? ⟨g, 0, none⟩ = some (.int .i64 2) ∧ W'.cell? ⟨g, 1, none⟩ = some (.int .i64 th) ∧ W'.cell? ⟨g, 2, none⟩ = some (.int .i64 st) ∧ W'.cell? ⟨g, 3, none⟩ = some (.int .i64 ba) ∧ W'.cell? ⟨g, 4, none⟩ = some (.int .i64 er) ∧ W'.cell? ⟨g, 5, none⟩ = some (.int .u64 li) ∧ W'.cell? ⟨g1, 12, none⟩ = some (.int .u64 c)))
  refine wp_region_noPanic ?_
  refine wp_region_till (s := 20) (S := fun w' => w'.cell? ⟨g, 0, none⟩ = some (.int .i64 2) ∧ w'.cell? ⟨g, 1, none⟩ = some (.int .i64 th) ∧ w'.cell? ⟨g, 2, none⟩ = some (.int .i64 st) ∧ w'.cell? ⟨g, 3, none⟩ = some (.int .i64 ba) ∧ w'.cell? ⟨g, 4, none⟩ = some (.int .i64 er) ∧ w'.cell? ⟨g, 5, none⟩ = some (.int .u64 li) ∧ w'.cell? ⟨g1, 12, none⟩ = some (.int .u64 c)) (by kernel_rfl) ?_
  have hHeld := HS4.out w3.drew (Chg.drew (Chg.refl _ _))
  refine wP 0 37 _ (fun _ => hHeld) ?_
  refine wP 1 38 _ (fun _ => hHeld) ?_
  refine wP 2 39 _ (fun _ => hHeld) ?_
  refine wP 3 40 _ (fun _ => hHeld) ?_
  refine wP 4 41 _ (fun _ => hHeld) ?_
  refine wP 5 42 _ (fun _ => hHeld) ?_
  refine wP 6 43 _ (fun _ => hHeld) ?_
  refine wP 7 44 _ (fun _ => hHeld) ?_
  refine wP 9 46 _ (fun _ => hHeld) ?_
  refine wL 10 47 _ (fun _ => hHeld) ?_
  refine wL 13 50 _ (fun _ => hHeld) ?_
  refine wP 14 51 _ (fun _ => hHeld) ?_
  refine wL 15 52 _ (fun _ => hHeld) ?_
  refine wP 16 53 _ (fun _ => hHeld) ?_
  refine wpTill_one (i := 8) (oi := ⟨some 45, _, _, _, _, _⟩) rfl (by kernel_rfl) (fun KK hKK => ?_)
  go_simp
  refine hKK _ _ (andS (HS4.out _ kC) (fun hHeld' => ?_))
  clear hKK KK
  try simp only [Act.put, qA, qB, qC]
  refine wP 11 48 _ (fun _ => hHeld') ?_
  refine wpTill_one (i := 12) (oi := ⟨some 49, _, _, _, _, _⟩) rfl (by kernel_rfl) (fun KK hKK => ?_)
  go_simp
  refine hKK _ _ (andS (HS4.out _ kC) (fun hHeld'' => ?_))
  clear hKK KK
  try simp only [Act.put, qA, qB, qC]
  refine wpTill_one (i := 17) (oi := ⟨some 54, _, _, _, _, _⟩) rfl (by kernel_rfl) (fun KK hKK => ?_)
  go_simp
  refine (HH.out _).mono ?_
  rintro e w5 ⟨rfl, c5⟩
  have cT : Chg (fun _ => False) w3 w5 := Chg.trans kC c5
  refine hKK _ _ (andS (HS4.out _ kC) (fun hHeld''' => ?_))
  clear hKK KK
  try simp only [Act.put, qA, qB, qC]
  refine wP 18 55 _ (fun _ => hHeld''') ?_
  refine wP 19 56 _ (fun _ => hHeld''') ?_
  refine wpTill_one (i := 20) (oi := ⟨some 6, _, _, _, _, _⟩) rfl (by kernel_rfl) (fun KK hKK => ?_)
  go_simp
  refine hKK _ _ ⟨(fun h => (by simp at h)), ?_⟩
  clear hKK KK
  try simp only [Act.put, qA, qB, qC]
  refine wP 21 7 _ (fun h => (by simp at h)) ?_
  refine wpTill_done (by kernel_rfl) ?_
  refine NoPanic.normal ?_
  go_wp2_with fail
  go_ret2
  first | exact ⟨rfl, HC4.out.trans cT⟩ | (rw [if_pos rfl]; exact ⟨rfl, HC4.out.trans cT⟩)
end
section
open Go Go.RowKit Go.Chron
structure Cfg.Ok (c : Cfg) : Prop where
 n0 : 0 < c.servers.length
 n1 : c.servers.length ≤ 16
 se : servErr [] c.servers = 0
 le : 4 ≤ c.least ∧ c.least ≤ 1024
 mo : c.least ≤ c.most ∧ c.most ≤ 1024
 qu : 1 ≤ c.quorum ∧ c.quorum ≤ (c.servers.length : Int)
 de : 1 ≤ c.delay ∧ c.delay ≤ 1000 * c.least - 2000
 sl : 1 ≤ c.slew ∧ c.slew ≤ 500
theorem Cfg.ok_of {c : Cfg} (h : c.check = 0) : c.Ok := by
 unfold Cfg.check at h
 by_cases h0 : c.servers.length = 0
 ·rw [if_pos h0] at h; cases h
 rw [if_neg h0] at h
 by_cases h1 : 16 < c.servers.length
 ·rw [if_pos h1] at h; cases h
 rw [if_neg h1] at h
 by_cases h2 : servErr [] c.servers ≠ 0
 ·rw [if_pos h2] at h; exact absurd h h2
 rw [if_neg h2] at h
 by_cases h3 : (4 ≤ c.least ∧ c.least ≤ 1024) ∧ (c.least ≤ c.most ∧ c.most ≤ 1024) ∧ (1 ≤ c.quorum ∧ c.quorum ≤ (c.servers.length : Int)) ∧ (1 ≤ c.delay ∧ c.delay ≤ 1000 * c.least - 2000) ∧ (1 ≤ c.slew ∧ c.slew ≤ 500)
 ·obtain ⟨g0, g1, g2, g3, g4⟩ := h3
  exact ⟨by omega, by omega, by simpa using h2, g0, g1, g2, g3, g4⟩
 ·rw [if_neg h3] at h; cases h
theorem Cfg.check_of {c : Cfg} (o : c.Ok) : c.check = 0 := by
 obtain ⟨h0, h1, h2, g0, g1, g2, g3, g4⟩ := o
 unfold Cfg.check
 rw [if_neg (by omega), if_neg (by omega), if_neg (by rw [h2]; simp), if_pos ⟨g0, g1, g2, g3, g4⟩]
def Pr.new (c : Cfg) (h : Int) : Pr := ⟨⟨c.least, c.most, c.least, 0⟩, 0, h, c.delay * 1000000, 0, 0, 0⟩
theorem new51 (a : Option Addr) (n cap : Nat) (c : Cfg) (h : Int) (hn : n = c.servers.length) (hc : n ≤ cap) (hcm : cap ≤ 9223372036854775807) (w : World) (hR : Reads w 1 a (c.servers.map i64c)) (o : c.Ok) (h0 : 0 ≤ h) (h1 : h ≤ 4611686018427387903) :
  Calls Tryz.prog 51 #[cfgv (.slice a n cap) c, .int .i64 h] w fun e w' => ∃ b k, e = .returned (.tuple #[.pointer (some ⟨b, 0, none⟩), .int .i64 0]) ∧ PeerAt w' b k (Pr.new c h) ∧ w.heap.size ≤ b ∧ w.heap.size ≤ k ∧ Chg (fun _ => False) w w' := by
 have c0 := chg0_alloc w (Obj.cells #[.slice a n cap, .int .i64 c.quorum, .int .i64 c.least, .int .i64 c.most, .int .i64 c.delay, .int .i64 c.slew] 29)
 have B0 := Blk.new w 29 #[.slice a n cap, .int .i64 c.quorum, .int .i64 c.least, .int .i64 c.most, .int .i64 c.delay, .int .i64 c.slew]
 have HC := Lib.hid (check85 a n cap c hn hc hcm _ (hR.chg c0 (fun _ _ h => h)))
 rw [Cfg.check_of o] at HC
 have HO := Lib.hid o
 have ode := o.de
 have ole := o.le
 clear hR o hn
 obtain ⟨L, qu, le, mo, de, sl⟩ := c
 unfold cfgv at *
 simp only at *
 go_enter Tryz.func51, Tryz.ntmps51
 go_upto_region 1 with (fail)
 generalize w.alloc (Obj.cells #[.slice a n cap, .int .i64 qu, .int .i64 le, .int .i64 mo, .int .i64 de, .int .i64 sl] 29) = W at *
 generalize hgg : w.heap.size = g at *
 have b0 := B0.cell 0
 have b1 := B0.cell 1
 have b2 := B0.cell 2
 have b3 := B0.cell 3
 have b4 := B0.cell 4
 have b5 := B0.cell 5
 simp at b0 b1 b2 b3 b4 b5
 go_wp2_with fail
 refine HC.out.mono ?_
 rintro e w1 ⟨rfl, c1⟩
 have B1 := B0.chg c1 (fun h => h)
 clear b0 b1 b2 b3 b4 b5 B0
 have b2 := B1.cell 2
 have b3 := B1.cell 3
 simp at b2 b3
 go_wp2_with fail
 have ho := HO.out
 refine (newBack86 le mo w1 ho.le.1 ho.mo.1 ho.mo.2).mono ?_
 rintro e w2 ⟨rfl, K2, c2⟩
 have B2 := B1.chg c2 (fun h => h)
 clear b2 b3 B1
 have b4 := B2.cell 4
 simp at b4
 have HK := Lib.hid K2
 have hs : g ≤ w1.heap.size := by have := (c0.trans c1).size; omega
 have hs2 := c2.size
 clear K2 ho
 generalize hgk : w1.heap.size = k at *
 go_wp2_with fail
 go_ret2
 have ho := HO.out
 have o2 : (Pr.new ⟨L, qu, le, mo, de, sl⟩ h).Ok := ⟨⟨ho.le.1, ho.mo.1, ho.mo.2, Int.le_refl _, ho.mo.1⟩, .inl rfl, by simp only [Pr.new]; omega, by have := ho.de; have := ho.le; simp only [Pr.new]; simp only at *; omega, by simp only [Pr.new]; omega, by simp only [Pr.new, In64]; omega, by simp only [Pr.new]; omega⟩
 exact ⟨_, k, rfl, ⟨Blk.new w2 218 _, HK.out.alloc _, o2⟩, by omega, by omega, ((c0.trans c1).trans c2).alloc _⟩
end
end Go.Proofs.YtamhicdhbjniiaaGreatDoor
