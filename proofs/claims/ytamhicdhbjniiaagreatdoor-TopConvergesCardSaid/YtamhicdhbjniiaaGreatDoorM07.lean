/- How many a ring may keep, of any number; the end of a list. Sums that stop at the ends: what sat.Sub and the document's Sub answer. Long division by parts of 32 bits: plain arithmetic. The contracts of package ring's functions at one type (sam). Package backoff: contracts. -/
import Derived.Test.YtamhicdhbjniiaaGreatDoorRows
import Derived.Test.YtamhicdhbjniiaaGreatDoorM05
import Derived.Deep.RegionWith
import Derived.BigRegion
set_option linter.unusedVariables false
set_option maxHeartbeats 1600000
set_option maxRecDepth 100000
section
namespace Go.Chron
open Go Go.RowKit
theorem ret_int {k : IntKind} {a b : Int} (h : a = b) : Ending.returned (.int k a) = .returned (.int k b) := by rw [h]
theorem bel0 {B : Nat} {w0 w w' : World} (h : Below B w0 w) (hc : Chg (fun _ => False) w w') (hB : B ≤ w0.heap.size) : Below B w0 w' := below_chg h hc hB (fun _ _ h => h)
theorem RingAt.chg0 {T e : TypeId} {sz : Nat} {w w' : World} {b : Nat} {g : Option Nat} {most cnt : Nat} {els : List (List Value)} (h : RingAt T e sz w b g most cnt els) (hc : Chg (fun _ => False) w w') : RingAt T e sz w' b g most cnt els :=
 h.chg hc (fun h => h) (fun _ _ h => h)
theorem chg0_alloc (w : World) (o : Obj) : Chg (fun _ => False) w (w.alloc o) := (Chg.refl _ w).alloc o
theorem chg0_drewN (w : World) (n : Nat) : Chg (fun _ => False) w (w.drewN n) := (Chg.refl _ w).drewN n
theorem chg0_drew (w : World) : Chg (fun _ => False) w w.drew := (Chg.refl _ w).drew
theorem Owns.whole {α : Type} {w : World} {e : TypeId} {k n cap : Nat} {L : List α} {f : α → Value} (h : Owns w e 1 (.slice (some ⟨k, 0, none⟩) n cap) (some k) (L.map fun z => [f z])) :
  ∃ cur, Blk w k e cur ∧ L.length ≤ cur.size ∧ ∀ (t : Nat) z, L[t]? = some z → cur[t]? = some (f z) := by
 rcases h.row with ⟨_, h0, _⟩ | ⟨k', cap', cur, hk', _, hb, h1, _, h3, h4⟩
 ·cases h0
 ·cases hk'
  refine ⟨cur, hb, by rw [h3]; simpa using h1, fun t z hz => ?_⟩
  have := h.cell rfl (i := t) (x := [f z]) (by simp [hz]) (j := 0) rfl
  rw [hb.cell] at this
  simpa using this
end Go.Chron
end
section
namespace Go.Chron
open Go Go.RowKit
def satSub (a b : Int) : Int := if 9223372036854775807 < a - b then 9223372036854775807 else if a - b < -9223372036854775808 then -9223372036854775808 else a - b
def In64 (a : Int) : Prop := -9223372036854775808 ≤ a ∧ a ≤ 9223372036854775807
theorem satSub_in (a b : Int) : In64 (satSub a b) := by unfold satSub In64; repeat' split <;> omega
theorem in64_wf {a : Int} (h : In64 a) : (Lit.int .i64 a).wf = true := by
 simp only [Lit.wf, IntKind.min, IntKind.max, IntKind.signed, IntKind.bits, Bool.and_eq_true, decide_eq_true_eq, if_true]
 exact ⟨by have := h.1; simpa using this, by have := h.2; simp; omega⟩
theorem wf_in64 {a : Int} (h : (Lit.int .i64 a).wf = true) : In64 a := by
 simp only [Lit.wf, IntKind.min, IntKind.max, IntKind.signed, IntKind.bits, Bool.and_eq_true, decide_eq_true_eq, if_true] at h
 obtain ⟨h1, h2⟩ := h
 simp at h1 h2
 exact ⟨by omega, by omega⟩
theorem toNat_msb (x : BitVec 64) : x.msb = decide (9223372036854775808 ≤ x.toNat) := by
 rw [BitVec.msb_eq_decide]
theorem wrap_neg (x : BitVec 64) : IntKind.i64.wrap (x.toNat : Int) < 0 ↔ x.msb = true := by
 rw [toNat_msb, decide_eq_true_eq, IntKind.wrap_i64]
 have := x.isLt
 omega
theorem ofInt_msb {a : Int} (h : In64 a) : (BitVec.ofInt 64 a).msb = decide (a < 0) := by
 obtain ⟨h1, h2⟩ := h
 rw [toNat_msb, BitVec.toNat_ofInt]
 apply decide_eq_decide.2
 omega
theorem xor_neg {a b : Int} (ha : In64 a) (hb : In64 b) : bits .xor .i64 a b < 0 ↔ ¬ ((a < 0) ↔ (b < 0)) := by
 show IntKind.i64.wrap ((BitVec.ofInt 64 a ^^^ BitVec.ofInt 64 b).toNat : Int) < 0 ↔ _
 rw [wrap_neg, BitVec.msb_xor, ofInt_msb ha, ofInt_msb hb]
 by_cases h1 : a < 0 <;> by_cases h2 : b < 0 <;> simp [h1, h2]
theorem and_neg {a b : Int} (ha : In64 a) (hb : In64 b) : bits .and .i64 a b < 0 ↔ (a < 0 ∧ b < 0) := by
 show IntKind.i64.wrap ((BitVec.ofInt 64 a &&& BitVec.ofInt 64 b).toNat : Int) < 0 ↔ _
 rw [wrap_neg, BitVec.msb_and, ofInt_msb ha, ofInt_msb hb]
 by_cases h1 : a < 0 <;> by_cases h2 : b < 0 <;> simp [h1, h2]
theorem bits_in (op : BinOp) (a b : Int) : In64 (bits op .i64 a b) := by
 unfold bits In64
 rw [IntKind.wrap_i64]
 omega
theorem wrap64_in64 (n : Int) : In64 (wrap64 n) := by unfold wrap64 In64; omega
theorem sat_test {a b : Int} (ha : In64 a) (hb : In64 b) : bits .and .i64 (bits .xor .i64 a b) (bits .xor .i64 a (wrap64 (a - b))) < 0 ↔ (9223372036854775807 < a - b ∨ a - b < -9223372036854775808) := by
 rw [and_neg (bits_in _ _ _) (bits_in _ _ _), xor_neg ha hb, xor_neg ha (wrap64_in64 _)]
 obtain ⟨a1, a2⟩ := ha
 obtain ⟨b1, b2⟩ := hb
 have hw : wrap64 (a - b) = (a - b + 9223372036854775808) % 18446744073709551616 - 9223372036854775808 := by unfold wrap64; rfl
 rw [hw]
 omega
def satAdd (a b : Int) : Int := if 9223372036854775807 < a + b then 9223372036854775807 else if a + b < -9223372036854775808 then -9223372036854775808 else a + b
theorem satAdd_in (a b : Int) : In64 (satAdd a b) := by unfold satAdd In64; repeat' split <;> omega
theorem add_test {a b : Int} (ha : In64 a) (hb : In64 b) : bits .and .i64 (bits .xor .i64 a (wrap64 (a + b))) (bits .xor .i64 b (wrap64 (a + b))) < 0 ↔ (9223372036854775807 < a + b ∨ a + b < -9223372036854775808) := by
 rw [and_neg (bits_in _ _ _) (bits_in _ _ _), xor_neg ha (wrap64_in64 _), xor_neg hb (wrap64_in64 _)]
 obtain ⟨a1, a2⟩ := ha
 obtain ⟨b1, b2⟩ := hb
 have hw : wrap64 (a + b) = (a + b + 9223372036854775808) % 18446744073709551616 - 9223372036854775808 := by unfold wrap64; rfl
 rw [hw]
 omega
def satAbs (a : Int) : Int := max a (satSub 0 a)
def midI (a b : Int) : Int := (a + b) / 2
theorem nat_and_xor : ∀ (x y : Nat), x + y = 2 * (x &&& y) + (x ^^^ y) := by
 intro x
 induction x using Nat.strongRecOn with
 | _ x ih =>
  intro y
  by_cases h0 : x = 0
  ·subst h0; simp
  ·have hx := ih (x / 2) (by omega) (y / 2)
   have e1 : (x &&& y) / 2 = (x / 2) &&& (y / 2) := Nat.and_div_two
   have e2 : (x ^^^ y) / 2 = (x / 2) ^^^ (y / 2) := Nat.xor_div_two
   have tb : ∀ z : Nat, z % 2 = (z.testBit 0).toNat := fun z => by rw [Nat.toNat_testBit]; simp
   have bt : ∀ p q : Bool, (p && q).toNat = p.toNat * q.toNat := by decide
   have bx : ∀ p q : Bool, (p ^^ q).toNat = (p.toNat + q.toNat) % 2 := by decide
   have e3 : (x &&& y) % 2 = (x % 2) * (y % 2) := by rw [tb (x &&& y), Nat.testBit_and, bt, ← tb, ← tb]
   have e4 : (x ^^^ y) % 2 = (x % 2 + y % 2) % 2 := by rw [tb (x ^^^ y), Nat.testBit_xor, bx, ← tb, ← tb]
   rcases Nat.mod_two_eq_zero_or_one x with h1 | h1 <;> rcases Nat.mod_two_eq_zero_or_one y with h2 | h2 <;> rw [h1, h2] at e3 e4 <;> omega
theorem ofInt_nat {a : Int} (h : In64 a) : ((BitVec.ofInt 64 a).toNat : Int) = if a < 0 then a + 18446744073709551616 else a := by
 obtain ⟨h1, h2⟩ := h
 rw [BitVec.toNat_ofInt]
 split <;> omega
theorem and_xor_sum {a b : Int} (ha : In64 a) (hb : In64 b) : 2 * bits .and .i64 a b + bits .xor .i64 a b = a + b := by
 have h := nat_and_xor (BitVec.ofInt 64 a).toNat (BitVec.ofInt 64 b).toNat
 have n1 := and_neg ha hb
 have n2 := xor_neg ha hb
 have t1 : bits .and .i64 a b = IntKind.i64.wrap (((BitVec.ofInt 64 a).toNat &&& (BitVec.ofInt 64 b).toNat : Nat) : Int) := by
  show IntKind.i64.wrap ((BitVec.ofInt 64 a &&& BitVec.ofInt 64 b).toNat : Int) = _
  rw [BitVec.toNat_and]
 have t2 : bits .xor .i64 a b = IntKind.i64.wrap (((BitVec.ofInt 64 a).toNat ^^^ (BitVec.ofInt 64 b).toNat : Nat) : Int) := by
  show IntKind.i64.wrap ((BitVec.ofInt 64 a ^^^ BitVec.ofInt 64 b).toNat : Int) = _
  rw [BitVec.toNat_xor]
 have l1 : (BitVec.ofInt 64 a).toNat &&& (BitVec.ofInt 64 b).toNat < 18446744073709551616 := Nat.and_lt_two_pow (n := 64) _ (BitVec.isLt _)
 have l2 : (BitVec.ofInt 64 a).toNat ^^^ (BitVec.ofInt 64 b).toNat < 18446744073709551616 := Nat.xor_lt_two_pow (n := 64) (BitVec.isLt _) (BitVec.isLt _)
 have a1 := ofInt_nat ha
 have b1 := ofInt_nat hb
 rw [t1] at n1 ⊢
 rw [t2] at n2 ⊢
 generalize (BitVec.ofInt 64 a).toNat &&& (BitVec.ofInt 64 b).toNat = P at *
 generalize (BitVec.ofInt 64 a).toNat ^^^ (BitVec.ofInt 64 b).toNat = Q at *
 generalize (BitVec.ofInt 64 a).toNat = X at *
 generalize (BitVec.ofInt 64 b).toNat = Y at *
 rw [IntKind.wrap_i64] at n1 n2 ⊢
 rw [IntKind.wrap_i64]
 clear t1 t2
 obtain ⟨a2, a3⟩ := ha
 obtain ⟨b2, b3⟩ := hb
 split at a1 <;> split at b1 <;> omega
theorem mid_eq {a b : Int} (ha : In64 a) (hb : In64 b) : bits .and .i64 a b + bits .xor .i64 a b / 2 = midI a b := by
 have h := and_xor_sum ha hb
 unfold midI
 omega
theorem midI_in {a b : Int} (ha : In64 a) (hb : In64 b) : In64 (midI a b) := by unfold midI In64 at *; omega
def clampI (a lo hi : Int) : Int := if a < lo then lo else if hi < a then hi else a
end Go.Chron
namespace Go.Proofs.YtamhicdhbjniiaaGreatDoor
open Go.RowKit Go.Chron
theorem sub65 (a b : Int) (ha : In64 a) (hb : In64 b) (w : World) : Calls Tryz.prog 65 #[.int .i64 a, .int .i64 b] w fun e w' => e = .returned (.int .i64 (satSub a b)) ∧ w = w' := by
 obtain ⟨a1, a2⟩ := ha
 obtain ⟨b1, b2⟩ := hb
 obtain ⟨r, hr⟩ : ∃ r, r = satSub a b := ⟨_, rfl⟩
 have HR := Lib.hid hr
 rw [← hr]
 clear hr
 by_cases h1 : b < 0
 ·by_cases h2 : 9223372036854775807 + b < a
  ·go_enter Tryz.func65, Tryz.ntmps65
   go_wp2
   go_ret
   rw [HR.out, show satSub a b = 9223372036854775807 by unfold satSub; rw [if_pos (by omega)]]
   exact ⟨rfl, rfl⟩
  ·go_enter Tryz.func65, Tryz.ntmps65
   go_wp2
   go_ret
   rw [HR.out, show satSub a b = a - b by unfold satSub; rw [if_neg (by omega), if_neg (by omega)]]
   exact ⟨rfl, rfl⟩
 ·by_cases h3 : 0 < b
  ·by_cases h2 : a < -9223372036854775808 + b
   ·go_enter Tryz.func65, Tryz.ntmps65
    go_wp2
    go_ret
    rw [HR.out, show satSub a b = -9223372036854775808 by unfold satSub; rw [if_neg (by omega), if_pos (by omega)]]
    exact ⟨rfl, rfl⟩
   ·go_enter Tryz.func65, Tryz.ntmps65
    go_wp2
    go_ret
    rw [HR.out, show satSub a b = a - b by unfold satSub; rw [if_neg (by omega), if_neg (by omega)]]
    exact ⟨rfl, rfl⟩
  ·go_enter Tryz.func65, Tryz.ntmps65
   go_wp2
   go_ret
   rw [HR.out, show satSub a b = a - b by unfold satSub; rw [if_neg (by omega), if_neg (by omega)]]
   exact ⟨rfl, rfl⟩
def endOf (a : Int) : Int := if a < 0 then -9223372036854775808 else 9223372036854775807
theorem end106 (a : Int) (ha : In64 a) (w : World) : Calls Tryz.prog 106 #[.int .i64 a] w fun e w' => e = .returned (.int .i64 (endOf a)) ∧ w = w' := by
 obtain ⟨a1, a2⟩ := ha
 obtain ⟨r, hr⟩ : ∃ r, r = endOf a := ⟨_, rfl⟩
 have HR := Lib.hid hr
 rw [← hr]
 clear hr
 go_enter Tryz.func106, Tryz.ntmps106
 go_wp2
 go_ret
 refine ⟨ret_int ?_, rfl⟩
 rw [HR.out]
 unfold endOf
 by_cases h : a < 0
 ·rw [if_pos h, show a / 9223372036854775808 = -1 by omega]; decide
 ·rw [if_neg h, show a / 9223372036854775808 = 0 by omega]; decide
theorem sub66 (a b : Int) (ha : In64 a) (hb : In64 b) (w : World) : Calls Tryz.prog 66 #[.int .i64 a, .int .i64 b] w fun e w' => e = .returned (.int .i64 (satSub a b)) ∧ w = w' := by
 have T := sat_test ha hb
 have HA := Lib.hid ha
 by_cases h : 9223372036854775807 < a - b ∨ a - b < -9223372036854775808
 ·have T1 := T.2 h
  have hs : satSub a b = endOf a := by
   obtain ⟨a1, a2⟩ := ha
   obtain ⟨b1, b2⟩ := hb
   unfold satSub endOf
   repeat' split <;> omega
  rw [hs]
  clear hs h T hb ha
  go_enter Tryz.func66, Tryz.ntmps66
  go_wp2_with fail
  refine (end106 a HA.out w).mono ?_
  rintro e w' ⟨rfl, rfl⟩
  go_wp2_with fail
  go_ret
  exact ⟨rfl, rfl⟩
 ·have T1 : ¬ _ := fun x => h (T.1 x)
  have hs : satSub a b = wrap64 (a - b) := by
   unfold satSub wrap64
   rw [if_neg (by omega), if_neg (by omega)]
   omega
  rw [hs]
  clear hs h T hb ha
  go_enter Tryz.func66, Tryz.ntmps66
  go_wp2_with fail
  go_ret
  exact ⟨rfl, rfl⟩
theorem add80 (a b : Int) (ha : In64 a) (hb : In64 b) (w : World) : Calls Tryz.prog 80 #[.int .i64 a, .int .i64 b] w fun e w' => e = .returned (.int .i64 (satAdd a b)) ∧ w = w' := by
 have T := add_test ha hb
 have HA := Lib.hid ha
 by_cases h : 9223372036854775807 < a + b ∨ a + b < -9223372036854775808
 ·have T1 := T.2 h
  have hs : satAdd a b = endOf a := by
   obtain ⟨a1, a2⟩ := ha
   obtain ⟨b1, b2⟩ := hb
   unfold satAdd endOf
   repeat' split <;> omega
  rw [hs]
  clear hs h T hb ha
  go_enter Tryz.func80, Tryz.ntmps80
  go_wp2_with fail
  refine (end106 a HA.out w).mono ?_
  rintro e w' ⟨rfl, rfl⟩
  go_wp2_with fail
  go_ret
  exact ⟨rfl, rfl⟩
 ·have T1 : ¬ _ := fun x => h (T.1 x)
  have hs : satAdd a b = wrap64 (a + b) := by
   unfold satAdd wrap64
   rw [if_neg (by omega), if_neg (by omega)]
   omega
  rw [hs]
  clear hs h T hb ha
  go_enter Tryz.func80, Tryz.ntmps80
  go_wp2_with fail
  go_ret
  exact ⟨rfl, rfl⟩
theorem neg109 (a : Int) (ha : In64 a) (w : World) : Calls Tryz.prog 109 #[.int .i64 a] w fun e w' => e = .returned (.int .i64 (satSub 0 a)) ∧ w = w' := by
 have h := sub66 0 a ⟨by omega, by omega⟩ ha w
 have H := Lib.hid h
 clear h
 go_enter Tryz.func109, Tryz.ntmps109
 go_wp2_with fail
 refine H.out.mono ?_
 rintro e w' ⟨rfl, rfl⟩
 go_wp2_with fail
 go_ret
 exact ⟨rfl, rfl⟩
theorem abs69 (a : Int) (ha : In64 a) (w : World) : Calls Tryz.prog 69 #[.int .i64 a] w fun e w' => e = .returned (.int .i64 (satAbs a)) ∧ w = w' := by
 have h := neg109 a ha w
 have H := Lib.hid h
 obtain ⟨n, hn⟩ : ∃ n, n = satSub 0 a := ⟨_, rfl⟩
 have HN := Lib.hid hn
 clear h
 go_enter Tryz.func69, Tryz.ntmps69
 go_wp2_with fail
 refine H.out.mono ?_
 rintro e w' ⟨rfl, rfl⟩
 rw [← HN.out]
 clear hn
 go_wp2_with fail
 all_goals (go_ret; refine ⟨ret_int ?_, rfl⟩; unfold satAbs; rw [← HN.out]; try omega)
theorem neg29 (a : Int) (ha : In64 a) (w : World) : Calls Tryz.prog 29 #[.int .i64 a] w fun e w' => e = .returned (.int .i64 (satSub 0 a)) ∧ w = w' := by
 have h := sub65 0 a ⟨by omega, by omega⟩ ha w
 have H := Lib.hid h
 clear h
 go_enter Tryz.func29, Tryz.ntmps29
 go_wp2_with fail
 refine H.out.mono ?_
 rintro e w' ⟨rfl, rfl⟩
 go_wp2_with fail
 go_ret
 exact ⟨rfl, rfl⟩
theorem abs10 (a : Int) (ha : In64 a) (w : World) : Calls Tryz.prog 10 #[.int .i64 a] w fun e w' => e = .returned (.int .i64 (satAbs a)) ∧ w = w' := by
 have h := neg29 a ha w
 have H := Lib.hid h
 have hs : satAbs a = if a < 0 then satSub 0 a else a := by
  obtain ⟨a1, a2⟩ := ha
  unfold satAbs satSub
  split <;> split <;> (try split) <;> omega
 rw [hs]
 clear h hs
 by_cases h0 : a < 0
 ·rw [if_pos h0]
  go_enter Tryz.func10, Tryz.ntmps10
  go_wp2_with fail
  refine H.out.mono ?_
  rintro e w' ⟨rfl, rfl⟩
  go_wp2_with fail
  go_ret
  exact ⟨rfl, rfl⟩
 ·rw [if_neg h0]
  go_enter Tryz.func10, Tryz.ntmps10
  go_wp2_with fail
  go_ret
  exact ⟨rfl, rfl⟩
theorem mid186 (a b : Int) (ha : In64 a) (hb : In64 b) (w : World) : Calls Tryz.prog 186 #[.int .i64 a, .int .i64 b] w fun e w' => e = .returned (.int .i64 (midI a b)) ∧ w = w' := by
 have hm := mid_eq ha hb
 have hi := midI_in ha hb
 obtain ⟨m, hmm⟩ : ∃ m, m = midI a b := ⟨_, rfl⟩
 rw [← hmm] at hm hi ⊢
 have hw : wrap64 (bits .and .i64 a b + bits .xor .i64 a b / 2) = m := by rw [hm]; unfold wrap64; obtain ⟨h1, h2⟩ := hi; omega
 have HW := Lib.hid hw
 clear hm hi hmm ha hb hw
 go_enter Tryz.func186, Tryz.ntmps186
 go_wp2_with fail
 go_ret
 exact ⟨ret_int HW.out, rfl⟩
theorem between190 (a lo hi : Int) (w : World) : Calls Tryz.prog 190 #[.int .i64 a, .int .i64 lo, .int .i64 hi] w fun e w' => e = .returned (.int .i64 (clampI a lo hi)) ∧ w = w' := by
 unfold clampI
 by_cases h1 : a < lo
 ·rw [if_pos h1]
  go_enter Tryz.func190, Tryz.ntmps190
  go_wp2_with fail
  go_ret
  exact ⟨rfl, rfl⟩
 ·rw [if_neg h1]
  by_cases h2 : hi < a
  ·rw [if_pos h2]
   go_enter Tryz.func190, Tryz.ntmps190
   go_wp2_with fail
   go_ret
   exact ⟨rfl, rfl⟩
  ·rw [if_neg h2]
   go_enter Tryz.func190, Tryz.ntmps190
   go_wp2_with fail
   go_ret
   exact ⟨rfl, rfl⟩
theorem clamp162 (a lo hi : Int) (w : World) : Calls Tryz.prog 162 #[.int .i64 a, .int .i64 lo, .int .i64 hi] w fun e w' => e = .returned (.int .i64 (clampI a lo hi)) ∧ w = w' := by
 have h := between190 a lo hi w
 have H := Lib.hid h
 clear h
 go_enter Tryz.func162, Tryz.ntmps162
 go_wp2_with fail
 refine H.out.mono ?_
 rintro e w' ⟨rfl, rfl⟩
 go_wp2_with fail
 go_ret
 exact ⟨rfl, rfl⟩
end Go.Proofs.YtamhicdhbjniiaaGreatDoor
end
section
namespace Go.Chron
structure Digit (U Y d a b Q : Nat) : Prop where
 hY : Y = a * 4294967296 + b
 ha : 2147483648 ≤ a
 ha2 : a < 4294967296
 hb : b < 4294967296
 hU : U < Y
 hd : d < 4294967296
 hQ : Q = (U * 4294967296 + d) / Y
variable {U Y d a b Q q r : Nat}
theorem Digit.pos (D : Digit U Y d a b Q) : 0 < Y := by have := D.hU; omega
theorem Digit.lo (D : Digit U Y d a b Q) : Q * Y ≤ U * 4294967296 + d := by rw [D.hQ]; exact Nat.div_mul_le_self _ _
theorem Digit.hi (D : Digit U Y d a b Q) : U * 4294967296 + d < (Q + 1) * Y := by
 have h1 := Nat.div_add_mod (U * 4294967296 + d) Y
 have h2 := Nat.mod_lt (U * 4294967296 + d) D.pos
 rw [← D.hQ] at h1
 rw [Nat.add_mul, Nat.one_mul, Nat.mul_comm Q Y]
 omega
theorem Digit.small (D : Digit U Y d a b Q) : Q < 4294967296 := by
 rw [D.hQ]
 refine (Nat.div_lt_iff_lt_mul D.pos).2 ?_
 have h1 := D.hU
 have h2 := D.hd
 have : (U + 1) * 4294967296 ≤ Y * 4294967296 := Nat.mul_le_mul_right _ h1
 omega
theorem Digit.guess (D : Digit U Y d a b Q) : Q ≤ U / a ∧ U / a ≤ 4294967297 := by
 have h1 := D.hY
 have h2 := D.ha
 have h3 := D.hU
 have h4 := D.hb
 have ha : 0 < a := by omega
 constructor
 ·refine (Nat.le_div_iff_mul_le ha).2 ?_
  have h5 := D.lo
  rw [h1] at h5
  have h6 := D.hd
  have h7 : Q * (a * 4294967296 + b) = Q * a * 4294967296 + Q * b := by rw [Nat.mul_add, Nat.mul_assoc]
  rw [h7] at h5
  omega
 ·refine Nat.le_of_lt_succ ((Nat.div_lt_iff_lt_mul ha).2 ?_)
  have h5 : Nat.succ 4294967297 * a = a * 4294967296 + 2 * a := by omega
  rw [h5]
  omega
theorem Digit.test (D : Digit U Y d a b Q) (hq : Q ≤ q) (he : q * a + r = U) : (Q < q ↔ 4294967296 * r + d < q * b) := by
 have h1 := D.lo
 have h2 := D.hi
 have hY := D.hY
 have e1 : q * Y = q * a * 4294967296 + q * b := by rw [hY, Nat.mul_add, Nat.mul_assoc]
 constructor
 ·intro h
  have h3 : (Q + 1) * Y ≤ q * Y := Nat.mul_le_mul_right _ h
  omega
 ·intro h
  rcases Nat.lt_or_ge Q q with h3 | h3
  ·exact h3
  ·have : q = Q := by omega
   subst this
   omega
theorem Digit.stop (D : Digit U Y d a b Q) (hq : Q ≤ q) (he : q * a + r = U) (h1 : q ≤ 4294967296) (h2 : 4294967296 ≤ r) : q = Q := by
 rcases Nat.lt_or_ge Q q with h3 | h3
 ·have h4 := (D.test hq he).1 h3
  have h5 : q * b ≤ 4294967296 * b := Nat.mul_le_mul_right _ h1
  have h6 := D.hb
  omega
 ·omega
theorem two_digits {B U Y d1 d0 Q1 R1 Q0 : Nat} (hY : 0 < Y) (h1 : Q1 = (U * B + d1) / Y) (hr : R1 = (U * B + d1) % Y) (h0 : Q0 = (R1 * B + d0) / Y) :
  (U * (B * B) + (d1 * B + d0)) / Y = Q1 * B + Q0 ∧ (U * (B * B) + (d1 * B + d0)) % Y = (R1 * B + d0) % Y := by
 have e1 : U * B + d1 = Y * Q1 + R1 := by rw [h1, hr]; exact (Nat.div_add_mod _ _).symm
 have e2 : U * (B * B) + (d1 * B + d0) = Y * (Q1 * B) + (R1 * B + d0) := by
  have h : (U * B + d1) * B = (Y * Q1 + R1) * B := by rw [e1]
  rw [Nat.add_mul, Nat.add_mul, Nat.mul_assoc, Nat.mul_assoc] at h
  omega
 rw [e2, Nat.mul_add_div hY, Nat.mul_add_mod, ← h0]
 exact ⟨rfl, rfl⟩
theorem shifted {N y s U V : Nat} (hy : 0 < y) (h : N * 2 ^ s = U * 18446744073709551616 + V) : N / y = (U * 18446744073709551616 + V) / (y * 2 ^ s) ∧ N % y = ((U * 18446744073709551616 + V) % (y * 2 ^ s)) / 2 ^ s := by
 rw [← h]
 have hp : 0 < 2 ^ s := Nat.two_pow_pos s
 refine ⟨(Nat.mul_div_mul_right _ _ hp).symm, ?_⟩
 rw [Nat.mul_mod_mul_right, Nat.mul_div_cancel _ hp]
end Go.Chron
end
namespace Go.Proofs.YtamhicdhbjniiaaGreatDoor
section
open Go.RowKit Go.Chron
theorem info_sam : (Tryz.prog.info? 223).map (fun i => (i.zero, i.size, i.bytes)) = some (some (.agg #[.int .i64 0, .int .i64 0, .int .i64 0, .int .i64 0]), 4, 32) := by kernel_rfl
theorem clone_sam (a : Option Addr) (n cap : Nat) (els : List (List Value)) (w : World) (hn : n = els.length) (hnil : a = none → n = 0 ∧ cap = 0) (he : ∀ x ∈ els, x.length = 4) (hr : Reads w 4 a els) (h1 : ∀ u ∈ els.flatten, u.oneCell' = true)
  (hb : els.length * 32 ≤ 140737488355328) (h63 : els.length ≤ maxLen) :
  Calls Tryz.prog 251 #[.slice a n cap] w (Cloned 223 4 w els) := by
 subst hn
 obtain ⟨i0, hi, hz0, hz1, hz2⟩ := info_parts info_sam
 cases a with
 | none =>
  obtain ⟨h0, rfl⟩ := hnil rfl
  have h0' : els = [] := List.eq_nil_of_length_eq_zero h0
  subst h0'
  have hq := fun w => Lib.run_eql_slice_nil (P := Tryz.prog) w 276 223 none 0 0 0 0 Tryz.underlying276
  go_enter Tryz.func251, Tryz.ntmps251
  go_wp2_with fail
  all_goals (go_ret; exact cloned_nil _ _ _)
 | some ad =>
  have hq := fun w => Lib.run_eql_slice_nil (P := Tryz.prog) w 276 223 (some ad) els.length cap 0 0 Tryz.underlying276
  have hfl := hr.flat he
  have Hr := Lib.hid hr
  clear hr
  go_enter Tryz.func251, Tryz.ntmps251
  go_wp2_with (at_builtin; refine wpList_app_any (by rfl) (.tmp 5) (.tmp 6) 276 (by rfl) 223 i0 _ 4 32 Tryz.underlying276 hi hz0 hz1 hz2 rfl (by omega) _ w.heap.size [] (by rfl) (owns_empty _ _ _) ad els els.length cap (by rfl) rfl ?_ he h1 (by simpa using hb) (by simpa using h63) ?_)
  ·intro j u hu
   have := hfl j u hu
   rw [World.cell?_alloc_lt _ _ _ (World.block_lt_of_cell? _ _ this)]
   exact this
  ·intro k cap' w' ho' hchg hk
   have K := cloned_mk ho' hchg (by simpa using hk)
   clear ho' hchg hk
   go_wp2_with fail
   go_ret
   simpa using K
theorem new_sam (m : Nat) (h1 : 1 ≤ m) (h2 : m ≤ 64) (w : World) :
  Calls Tryz.prog 87 #[.int .i64 m] w fun e w' => e = .returned (.tuple #[.pointer (some ⟨w.heap.size, 0, none⟩), .int .i64 0]) ∧ RingAt 278 223 4 w' w.heap.size none m 0 [] ∧ Chg (fun _ => False) w w' := by
 go_enter Tryz.func87, Tryz.ntmps87
 go_wp2
 go_ret2
 exact ⟨rfl, ringAt_new _ _ _ _ _, (Chg.refl _ w).alloc _⟩
theorem addRoom_sam (b : Nat) (g : Option Nat) (most cnt : Nat) (els : List (List Value)) (s0 s1 s2 s3 : Int) (w : World) (hr : RingAt 278 223 4 w b g most cnt els) (hlt : els.length < most) (hm : most ≤ 64) (hc : cnt < 1000000) :
  Calls Tryz.prog 159 #[.pointer (some ⟨b, 0, none⟩), .agg #[.int .i64 s0, .int .i64 s1, .int .i64 s2, .int .i64 s3]] w fun e w' => e = .returned (.int .i64 0) ∧ Added 278 223 4 w b g most cnt els [.int .i64 s0, .int .i64 s1, .int .i64 s2, .int .i64 s3] w' := by
 obtain ⟨⟨v, hb, ho⟩, hne, hfew, hone⟩ := id hr
 obtain ⟨i0, hi, hz0, hz1, hz2⟩ := info_parts info_sam
 obtain ⟨a, cap, rfl, hlc, hcm, hnil, ha⟩ := ho.form
 have c0 := hb.cell 0
 have c1 := hb.cell 1
 have c2 := hb.cell 2
 have f0 := hb.frozen 0
 have f1 := hb.frozen 1
 have f2 := hb.frozen 2
 have hbl := hb.lt
 simp at c0 c1 c2
 have hlt' : decide ((els.length : Int) < (most : Int)) = true := by simp; omega
 clear ha
 have Hr := Lib.hid hr
 clear hr
 go_enter Tryz.func159, Tryz.ntmps159
 go_wp2
 go_quiet (fail)
 go_upto_region 5 with (fail)
 obtain ⟨W, hW⟩ : ∃ W, W = ((w.setCell { block := b, off := 2 } (Value.int IntKind.i64 (cnt + 1))).alloc (Obj.cells #[.int .i64 s0, .int .i64 s1, .int .i64 s2, .int .i64 s3] 223)).drewN nq := ⟨_, rfl⟩
 rw [← hW]
 have B0 : Blk W b 278 #[.slice a els.length cap, .int .i64 most, .int .i64 (cnt + 1)] := by subst hW; exact ((hb.set_ 2 _).alloc _).drewN _
 have B1 : Blk W w.heap.size 223 #[.int .i64 s0, .int .i64 s1, .int .i64 s2, .int .i64 s3] := by subst hW; exact Blk.drewN (by have := Blk.new (w.setCell { block := b, off := 2 } (Value.int IntKind.i64 (cnt + 1))) 223 #[.int .i64 s0, .int .i64 s1, .int .i64 s2, .int .i64 s3]; simpa [World.setCell] using this) _
 have C : Chg (fun k => k = b) w W := by subst hW; exact (((Chg.refl (fun k => k = b) w).setCell (p := ⟨b, 2, none⟩) (fun _ => rfl) _).alloc _).drewN _
 have O : Owns W 223 4 (.slice a els.length cap) g els := ho.chg C (fun k hk e => hne (by rw [hk, e]))
 clear hW c0 c1 c2 f0 f1 f2
 have d0 := B0.cell 0
 have d1 := B1.cell 0
 have d2 := B1.cell 1
 have d3 := B1.cell 2
 have d4 := B1.cell 3
 simp at d0 d1 d2 d3 d4
 have n0 : ∀ o, (W.alloc o).cell? ⟨b, 0, none⟩ = some (.slice a els.length cap) := fun o => (B0.alloc o).cell 0
 go_region_law ((refine step_app (by rfl) (.tmp 28) (.tmp 30) 276 (by rfl) 223 i0 _ 4 32 Tryz.underlying276 hi hz0 hz1 hz2 rfl (by omega) (.slice a els.length cap) g els (by rfl) (O.drew.alloc _) _ 223 [[.int .i64 s0, .int .i64 s1, .int .i64 s2, .int .i64 s3]] 1 1 (by rfl) rfl (Blk.new _ _ _) (by simp) (by simp [Value.oneCell']) (by simp) (by simp; omega) (by simp [maxLen]; omega) ?_
                 intro k cap' w' ho' hchg hk
                 have q0 := hchg.keep (p := ⟨b, 0, none⟩) ((B0.drew.alloc _).cell 0) hne
                 have f0 : w'.frozen? ⟨b, 0, none⟩ = false := (hchg.frozen (p := ⟨b, 0, none⟩) (B0.drew.alloc _).lt hne).trans ((B0.drew.alloc _).frozen 0)
                 simp at q0))
 all_goals (
  have A := added_room Hr.out hlt (x := [.int .i64 s0, .int .i64 s1, .int .i64 s2, .int .i64 s3]) (by simp [Value.oneCell']) (C.drew.alloc _) (B0.drew.alloc _) hchg ho' hk
  clear ho' hchg hk
  go_wp2
  go_ret
  exact ⟨rfl, A⟩)
theorem addFull_sam (b : Nat) (g : Option Nat) (most cnt : Nat) (els : List (List Value)) (s0 s1 s2 s3 : Int) (w : World) (hr : RingAt 278 223 4 w b g most cnt els) (hlt : ¬ els.length < most) (hpos : 0 < els.length) (hm : most ≤ 64) (hc : cnt < 1000000) :
  Calls Tryz.prog 159 #[.pointer (some ⟨b, 0, none⟩), .agg #[.int .i64 s0, .int .i64 s1, .int .i64 s2, .int .i64 s3]] w fun e w' => e = .returned (.int .i64 0) ∧ Added 278 223 4 w b g most cnt els [.int .i64 s0, .int .i64 s1, .int .i64 s2, .int .i64 s3] w' := by
 obtain ⟨⟨v, hb, ho⟩, hne, hfew, hone⟩ := id hr
 obtain ⟨i0, hi, hz0, hz1, hz2⟩ := info_parts info_sam
 obtain ⟨k, hk⟩ := ho.pos hpos
 obtain ⟨cap, rfl, hlc, hcm⟩ := (hk ▸ ho).some_form
 have c0 := hb.cell 0
 have c1 := hb.cell 1
 have c2 := hb.cell 2
 have f0 := hb.frozen 0
 have f1 := hb.frozen 1
 have f2 := hb.frozen 2
 have hbl := hb.lt
 simp at c0 c1 c2
 have hlt' : decide ((els.length : Int) < (most : Int)) = false := by simp; omega
 have Hr := Lib.hid hr
 have Hk := Lib.hid hk
 clear hr hk
 go_enter Tryz.func159, Tryz.ntmps159
 go_wp2
 go_quiet (fail)
 go_upto_region 7 with (fail)
 obtain ⟨W, hW⟩ : ∃ W, W = ((w.setCell { block := b, off := 2 } (Value.int IntKind.i64 (cnt + 1))).alloc (Obj.cells #[.int .i64 s0, .int .i64 s1, .int .i64 s2, .int .i64 s3] 223)).drewN nq := ⟨_, rfl⟩
 rw [← hW]
 have B0 : Blk W b 278 #[.slice (some ⟨k, 0, none⟩) els.length cap, .int .i64 most, .int .i64 (cnt + 1)] := by subst hW; exact ((hb.set_ 2 _).alloc _).drewN _
 have B1 : Blk W w.heap.size 223 #[.int .i64 s0, .int .i64 s1, .int .i64 s2, .int .i64 s3] := by subst hW; exact Blk.drewN (by have := Blk.new (w.setCell { block := b, off := 2 } (Value.int IntKind.i64 (cnt + 1))) 223 #[.int .i64 s0, .int .i64 s1, .int .i64 s2, .int .i64 s3]; simpa [World.setCell] using this) _
 have C : Chg (fun k => k = b) w W := by subst hW; exact (((Chg.refl (fun k => k = b) w).setCell (p := ⟨b, 2, none⟩) (fun _ => rfl) _).alloc _).drewN _
 have O : Owns W 223 4 (.slice (some ⟨k, 0, none⟩) els.length cap) (some k) els := by rw [← Hk.out]; exact ho.chg C (fun k hk e => hne (by rw [hk, e]))
 clear hW c0 c1 c2 f0 f1 f2
 have d0 := B0.cell 0
 simp at d0
 have hcap1 : (1 : Int) ≤ (cap : Int) := by omega
 have hlen1 : (1 : Int) ≤ (els.length : Int) := by omega
 go_still_tail 9, (by kernel_rfl)
 change wpList _ _ _ _ _ W.drew
 refine wpList_shift rfl (.tmp 37) (.tmp 42) 276 276 rfl 223 i0 4 Tryz.underlying276 hi hz1 k els.length cap els O.drew rfl hpos hone _ _ _ rfl rfl rfl (fun h => if_neg (by omega)) ?_
 intro w' ho' hchg
 have hkb : ¬ b = k := fun h => hne (by rw [Hk.out, h])
 have hkn : ¬ w.heap.size = k := fun h => by have := ho.lt k Hk.out; omega
 have B2 := B0.drew.chg hchg hkb
 have B3 := B1.drew.chg hchg hkn
 have q0 := B2.cell 0
 have q1 := B3.cell 0
 have q2 := B3.cell 1
 have q3 := B3.cell 2
 have q4 := B3.cell 3
 simp at q0 q1 q2 q3 q4
 clear d0
 generalize hsp : (if cap = 1 then some ({ block := k, off := 0 } : Addr) else some { block := k, off := 4 }) = sp
 clear hsp
 go_wp2_with fail
 have hlen' : (els.tail ++ els.drop (els.length - 1)).length = els.length := by simp
 obtain ⟨u0, t0⟩ := ho'.there rfl (i := els.length - 1) (j := 0) (by rw [hlen']; omega) (by omega)
 have g0 := ho'.frozen rfl ((els.length - 1) * 4)
 obtain ⟨u1, t1⟩ := ho'.there rfl (i := els.length - 1) (j := 1) (by rw [hlen']; omega) (by omega)
 have g1 := ho'.frozen rfl ((els.length - 1) * 4 + 1)
 obtain ⟨u2, t2⟩ := ho'.there rfl (i := els.length - 1) (j := 2) (by rw [hlen']; omega) (by omega)
 have g2 := ho'.frozen rfl ((els.length - 1) * 4 + 2)
 obtain ⟨u3, t3⟩ := ho'.there rfl (i := els.length - 1) (j := 3) (by rw [hlen']; omega) (by omega)
 have g3 := ho'.frozen rfl ((els.length - 1) * 4 + 3)
 simp only [Nat.add_zero] at t0
 clear hlen'
 go_still_tail 11, (by kernel_rfl)
 change wpList _ _ _ _ _ w'.drew
 have A := added_full Hr.out hlt hpos (x := [.int .i64 s0, .int .i64 s1, .int .i64 s2, .int .i64 s3]) (by simp [Value.oneCell']) rfl (C.drew) B0.drew Hk.out hchg.drew ho'.drew rfl
 simp only [World.setCells] at A
 go_wp2_with fail
 go_ret
 exact ⟨rfl, A⟩
theorem add_sam (b : Nat) (g : Option Nat) (most cnt : Nat) (els : List (List Value)) (s0 s1 s2 s3 : Int) (w : World) (hr : RingAt 278 223 4 w b g most cnt els) (h1 : 1 ≤ most) (hm : most ≤ 64) (hc : cnt < 1000000) :
  Calls Tryz.prog 159 #[.pointer (some ⟨b, 0, none⟩), .agg #[.int .i64 s0, .int .i64 s1, .int .i64 s2, .int .i64 s3]] w fun e w' => e = .returned (.int .i64 0) ∧ Added 278 223 4 w b g most cnt els [.int .i64 s0, .int .i64 s1, .int .i64 s2, .int .i64 s3] w' := by
 by_cases h : els.length < most
 ·exact addRoom_sam b g most cnt els s0 s1 s2 s3 w hr h hm hc
 ·exact addFull_sam b g most cnt els s0 s1 s2 s3 w hr h (by omega) hm hc
theorem all_sam (b : Nat) (g : Option Nat) (most cnt : Nat) (els : List (List Value)) (w : World) (hr : RingAt 278 223 4 w b g most cnt els) (hm : most ≤ 64) :
  Calls Tryz.prog 245 #[.pointer (some ⟨b, 0, none⟩)] w (Cloned 223 4 w els) := by
 obtain ⟨⟨v, hb, ho⟩, hne, hfew, hone⟩ := id hr
 obtain ⟨a, cap, rfl, hlc, hcm, hnil, ha⟩ := ho.form
 have c0 := hb.cell 0
 simp at c0
 have hR := ho.reads
 rw [← ha] at hR
 have hE := ho.each
 clear ha
 go_enter Tryz.func245, Tryz.ntmps245
 go_wp2_with (go_at_call 251; refine (clone_sam a els.length cap els _ rfl (fun h => ⟨by have := hnil h; omega, hnil h⟩) hE hR hone (by omega) (by simp only [maxLen]; omega)).mono ?_)
 rintro e w' ⟨a', cap', g', rfl, K⟩
 go_wp2_with fail
 go_ret
 exact ⟨a', cap', g', rfl, K⟩
end
end Go.Proofs.YtamhicdhbjniiaaGreatDoor
section
namespace Go.Chron
open Go Go.RowKit
structure Bko where
 least : Int
 most : Int
 now : Int
 times : Int
deriving DecidableEq
def bkoc (k : Bko) : Array Value := #[.int .i64 k.least, .int .i64 k.most, .int .i64 k.now, .int .i64 k.times]
structure Bko.Ok (k : Bko) : Prop where
 l0 : 4 ≤ k.least
 lm : k.least ≤ k.most
 m1 : k.most ≤ 1024
 n0 : k.least ≤ k.now
 n1 : k.now ≤ k.most
def Bko.fail (k : Bko) : Bko := { k with now := min (2 * k.now) k.most, times := wrap64 (k.times + 1) }
def Bko.good (k : Bko) : Bko := { k with now := k.least, times := 0 }
theorem Bko.fail_ok {k : Bko} (o : k.Ok) : k.fail.Ok := by
 obtain ⟨h1, h2, h3, h4, h5⟩ := o
 exact ⟨h1, h2, h3, by show k.least ≤ min (2 * k.now) k.most; omega, by show min (2 * k.now) k.most ≤ k.most; omega⟩
theorem Bko.good_ok {k : Bko} (o : k.Ok) : k.good.Ok := by
 obtain ⟨h1, h2, h3, h4, h5⟩ := o
 exact ⟨h1, h2, h3, Int.le_refl _, h2⟩
end Go.Chron
namespace Go.Proofs.YtamhicdhbjniiaaGreatDoor
open Go.RowKit Go.Chron
theorem within124 (n : Int) (w : World) : Calls Tryz.prog 124 #[.int .i64 n] w fun e w' => e = .returned (.bool (decide (4 ≤ n) && decide (n ≤ 1024))) ∧ w = w' := by
 by_cases h : 4 ≤ n
 ·go_enter Tryz.func124, Tryz.ntmps124
  go_wp2_with fail
  go_ret
  exact ⟨by simp [h], rfl⟩
 ·go_enter Tryz.func124, Tryz.ntmps124
  go_wp2_with fail
  go_ret
  exact ⟨by rw [show (decide (4 ≤ n)) = false from decide_eq_false (by omega)]; rfl, rfl⟩
theorem newBack86 (l m : Int) (w : World) (h0 : 4 ≤ l) (h1 : l ≤ m) (h2 : m ≤ 1024) : Calls Tryz.prog 86 #[.int .i64 l, .int .i64 m] w fun e w' =>
  e = .returned (.tuple #[.pointer (some ⟨w.heap.size, 0, none⟩), .int .i64 0]) ∧ Blk w' w.heap.size 275 (bkoc ⟨l, m, l, 0⟩) ∧ Chg (fun _ => False) w w' := by
 have hl := within124 l
 have hm := within124 m
 rw [show (decide (4 ≤ l) && decide (l ≤ 1024)) = true by simp; omega] at hl
 rw [show (decide (4 ≤ m) && decide (m ≤ 1024)) = true by simp; omega] at hm
 have HL := Lib.hid hl
 have HM := Lib.hid hm
 clear hl hm
 go_enter Tryz.func86, Tryz.ntmps86
 go_wp2_with fail
 refine (HL.out _).mono ?_
 rintro e w' ⟨rfl, rfl⟩
 go_wp2_with fail
 refine (HM.out _).mono ?_
 rintro e w' ⟨rfl, rfl⟩
 go_wp2_with fail
 go_ret2
 exact ⟨rfl, Blk.new _ _ _, (Chg.refl _ w).alloc _⟩
theorem next155 (n m : Int) (w : World) (h0 : 0 ≤ n) (h1 : n ≤ m) (h2 : m ≤ 1024) : Calls Tryz.prog 155 #[.int .i64 n, .int .i64 m] w fun e w' => e = .returned (.int .i64 (min (2 * n) m)) ∧ w = w' := by
 obtain ⟨r, hr⟩ : ∃ r, r = min (2 * n) m := ⟨_, rfl⟩
 have HR := Lib.hid hr
 rw [← hr]
 clear hr
 go_enter Tryz.func155, Tryz.ntmps155
 go_wp2_with fail
 all_goals (go_ret; exact ⟨ret_int (by rw [HR.out]; omega), rfl⟩)
theorem fail154 (b p : Nat) (k : Bko) (w : World) (o : k.Ok) (hk : Blk w b 275 (bkoc k)) (hp : Blk w p 212 #[.pointer (some ⟨b, 0, none⟩)]) :
  Calls Tryz.prog 154 #[.int .i64 k.now, .int .i64 k.times, .pointer (some ⟨p, 0, none⟩)] w fun e w' => e = .returned (.tuple #[.int .i64 k.fail.now, .int .i64 k.fail.times]) ∧ w = w' := by
 obtain ⟨l, m, n, t⟩ := k
 have o0 := o.l0
 have o1 := o.n0
 have o2 := o.n1
 have o3 := o.m1
 simp only at o0 o1 o2 o3
 have HN := Lib.hid (next155 n m w (by omega) o2 o3)
 have k1 := hk.cell 1
 have p0 := hp.cell 0
 simp [bkoc] at k1 p0
 show Calls Tryz.prog 154 #[.int .i64 n, .int .i64 t, .pointer (some ⟨p, 0, none⟩)] w fun e w' => e = .returned (.tuple #[.int .i64 (min (2 * n) m), .int .i64 (wrap64 (t + 1))]) ∧ w = w'
 clear hk hp o
 go_enter Tryz.func154, Tryz.ntmps154
 go_wp2_with fail
 refine HN.out.mono ?_
 rintro e w' ⟨rfl, rfl⟩
 go_wp2_with fail
 go_ret2
 exact ⟨rfl, rfl⟩
theorem good187 (b p : Nat) (k : Bko) (w : World) (hk : Blk w b 275 (bkoc k)) (hp : Blk w p 212 #[.pointer (some ⟨b, 0, none⟩)]) :
  Calls Tryz.prog 187 #[.int .i64 k.now, .int .i64 k.times, .pointer (some ⟨p, 0, none⟩)] w fun e w' => e = .returned (.tuple #[.int .i64 k.good.now, .int .i64 k.good.times]) ∧ w = w' := by
 obtain ⟨l, m, n, t⟩ := k
 have k1 := hk.cell 0
 have p0 := hp.cell 0
 simp [bkoc] at k1 p0
 show Calls Tryz.prog 187 #[.int .i64 n, .int .i64 t, .pointer (some ⟨p, 0, none⟩)] w fun e w' => e = .returned (.tuple #[.int .i64 l, .int .i64 0]) ∧ w = w'
 clear hk hp
 go_enter Tryz.func187, Tryz.ntmps187
 go_wp2_with fail
 go_ret2
 exact ⟨rfl, rfl⟩
theorem set153Fail (b p : Nat) (l m n t n' t' : Int) (w : World) (hk : Blk w b 275 #[.int .i64 l, .int .i64 m, .int .i64 n, .int .i64 t])
  (hf : ∀ W : World, Blk W b 275 #[.int .i64 l, .int .i64 m, .int .i64 n, .int .i64 t] → Chg (fun _ => False) w W → Calls Tryz.prog 154 #[.int .i64 n, .int .i64 t, .pointer (some ⟨p, 0, none⟩)] W fun e w' => e = .returned (.tuple #[.int .i64 n', .int .i64 t']) ∧ W = w') :
  Calls Tryz.prog 153 #[.pointer (some ⟨b, 0, none⟩), .func (.func 154) #[] #[.pointer (some ⟨p, 0, none⟩)]] w fun e w' => e = .returned (.int .i64 n') ∧ Blk w' b 275 #[.int .i64 l, .int .i64 m, .int .i64 n', .int .i64 t'] ∧ Chg (fun i => i = b) w w' := by
 have HF := Lib.hid hf
 have HK := Lib.hid hk
 have k2 := hk.cell 2
 have k3 := hk.cell 3
 have f2 := hk.frozen 2
 have f3 := hk.frozen 3
 simp at k2 k3
 clear hf hk
 go_enter Tryz.func153, Tryz.ntmps153
 go_upto_region 3 with (fail)
 go_region_with (first | (go_at_call 154; refine (HF.out _ HK.out.drew (chg0_drew _)).mono ?_; rintro e w2 ⟨rfl, rfl⟩))
 all_goals (first
  | (have K := (HK.out.drew.set_ 2 (.int .i64 n')).set_ 3 (.int .i64 t')
     simp at K
     have x2 := K.cell 2
     simp at x2
     go_wp2_with fail
     go_ret
     exact ⟨rfl, K, by repeat (first | (with_reducible exact Chg.refl _ _) | (with_reducible refine Chg.setCell ?_ (fun _ => by rfl) _) | (with_reducible apply Chg.drew))⟩)
  | (have K := (HK.out.drew.set_ 3 (.int .i64 t')).set_ 2 (.int .i64 n')
     simp at K
     have x2 := K.cell 2
     simp at x2
     go_wp2_with fail
     go_ret
     exact ⟨rfl, K, by repeat (first | (with_reducible exact Chg.refl _ _) | (with_reducible refine Chg.setCell ?_ (fun _ => by rfl) _) | (with_reducible apply Chg.drew))⟩))
theorem set153Good (b p : Nat) (l m n t n' t' : Int) (w : World) (hk : Blk w b 275 #[.int .i64 l, .int .i64 m, .int .i64 n, .int .i64 t])
  (hf : ∀ W : World, Blk W b 275 #[.int .i64 l, .int .i64 m, .int .i64 n, .int .i64 t] → Chg (fun _ => False) w W → Calls Tryz.prog 187 #[.int .i64 n, .int .i64 t, .pointer (some ⟨p, 0, none⟩)] W fun e w' => e = .returned (.tuple #[.int .i64 n', .int .i64 t']) ∧ W = w') :
  Calls Tryz.prog 153 #[.pointer (some ⟨b, 0, none⟩), .func (.func 187) #[] #[.pointer (some ⟨p, 0, none⟩)]] w fun e w' => e = .returned (.int .i64 n') ∧ Blk w' b 275 #[.int .i64 l, .int .i64 m, .int .i64 n', .int .i64 t'] ∧ Chg (fun i => i = b) w w' := by
 have HF := Lib.hid hf
 have HK := Lib.hid hk
 have k2 := hk.cell 2
 have k3 := hk.cell 3
 have f2 := hk.frozen 2
 have f3 := hk.frozen 3
 simp at k2 k3
 clear hf hk
 go_enter Tryz.func153, Tryz.ntmps153
 go_upto_region 3 with (fail)
 go_region_with (first | (go_at_call 187; refine (HF.out _ HK.out.drew (chg0_drew _)).mono ?_; rintro e w2 ⟨rfl, rfl⟩))
 all_goals (first
  | (have K := (HK.out.drew.set_ 2 (.int .i64 n')).set_ 3 (.int .i64 t')
     simp at K
     have x2 := K.cell 2
     simp at x2
     go_wp2_with fail
     go_ret
     exact ⟨rfl, K, by repeat (first | (with_reducible exact Chg.refl _ _) | (with_reducible refine Chg.setCell ?_ (fun _ => by rfl) _) | (with_reducible apply Chg.drew))⟩)
  | (have K := (HK.out.drew.set_ 3 (.int .i64 t')).set_ 2 (.int .i64 n')
     simp at K
     have x2 := K.cell 2
     simp at x2
     go_wp2_with fail
     go_ret
     exact ⟨rfl, K, by repeat (first | (with_reducible exact Chg.refl _ _) | (with_reducible refine Chg.setCell ?_ (fun _ => by rfl) _) | (with_reducible apply Chg.drew))⟩))
theorem fail129 (b : Nat) (k : Bko) (w : World) (o : k.Ok) (hk : Blk w b 275 (bkoc k)) :
  Calls Tryz.prog 129 #[.pointer (some ⟨b, 0, none⟩)] w fun e w' => e = .returned (.int .i64 k.fail.now) ∧ Blk w' b 275 (bkoc k.fail) ∧ Chg (fun i => i = b) w w' := by
 have HK := Lib.hid hk
 have HO := Lib.hid o
 have hlt := hk.lt
 have hP := Blk.new w 212 #[.pointer (some ⟨b, 0, none⟩)]
 have c0 := chg0_alloc w (Obj.cells #[.pointer (some ⟨b, 0, none⟩)] 212)
 have K1 := hk.alloc (Obj.cells #[.pointer (some ⟨b, 0, none⟩)] 212)
 have HS := Lib.hid (set153Fail b w.heap.size k.least k.most k.now k.times k.fail.now k.fail.times (w.alloc (Obj.cells #[.pointer (some ⟨b, 0, none⟩)] 212)) K1 (fun W hW hc => fail154 b w.heap.size k W HO.out hW (hP.chg hc (fun h => h))))
 have HC := Lib.hid c0
 have p0 := hP.cell 0
 simp at p0
 clear hk o hP c0 K1
 obtain ⟨l, m, n, t⟩ := k
 rw [show Bko.fail ⟨l, m, n, t⟩ = ⟨l, m, (Bko.fail ⟨l, m, n, t⟩).now, (Bko.fail ⟨l, m, n, t⟩).times⟩ from rfl]
 generalize (Bko.fail ⟨l, m, n, t⟩).now = n' at *
 generalize (Bko.fail ⟨l, m, n, t⟩).times = t' at *
 go_enter Tryz.func129, Tryz.ntmps129
 go_wp2_with fail
 refine HS.out.mono ?_
 rintro e w2 ⟨rfl, K2, c2⟩
 go_wp2_with fail
 go_ret
 exact ⟨rfl, K2, (HC.out.mono (fun _ _ h => h.elim)).trans c2⟩
theorem good158 (b : Nat) (k : Bko) (w : World) (o : k.Ok) (hk : Blk w b 275 (bkoc k)) :
  Calls Tryz.prog 158 #[.pointer (some ⟨b, 0, none⟩)] w fun e w' => e = .returned (.int .i64 k.good.now) ∧ Blk w' b 275 (bkoc k.good) ∧ Chg (fun i => i = b) w w' := by
 have HK := Lib.hid hk
 have HO := Lib.hid o
 have hlt := hk.lt
 have hP := Blk.new w 212 #[.pointer (some ⟨b, 0, none⟩)]
 have c0 := chg0_alloc w (Obj.cells #[.pointer (some ⟨b, 0, none⟩)] 212)
 have K1 := hk.alloc (Obj.cells #[.pointer (some ⟨b, 0, none⟩)] 212)
 have HS := Lib.hid (set153Good b w.heap.size k.least k.most k.now k.times k.good.now k.good.times (w.alloc (Obj.cells #[.pointer (some ⟨b, 0, none⟩)] 212)) K1 (fun W hW hc => good187 b w.heap.size k W hW (hP.chg hc (fun h => h))))
 have HC := Lib.hid c0
 have p0 := hP.cell 0
 simp at p0
 clear hk o hP c0 K1
 obtain ⟨l, m, n, t⟩ := k
 rw [show Bko.good ⟨l, m, n, t⟩ = ⟨l, m, (Bko.good ⟨l, m, n, t⟩).now, (Bko.good ⟨l, m, n, t⟩).times⟩ from rfl]
 generalize (Bko.good ⟨l, m, n, t⟩).now = n' at *
 generalize (Bko.good ⟨l, m, n, t⟩).times = t' at *
 go_enter Tryz.func158, Tryz.ntmps158
 go_wp2_with fail
 refine HS.out.mono ?_
 rintro e w2 ⟨rfl, K2, c2⟩
 go_wp2_with fail
 go_ret
 exact ⟨rfl, K2, (HC.out.mono (fun _ _ h => h.elim)).trans c2⟩
end Go.Proofs.YtamhicdhbjniiaaGreatDoor
end
