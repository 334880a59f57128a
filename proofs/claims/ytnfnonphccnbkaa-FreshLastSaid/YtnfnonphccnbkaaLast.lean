/- FreshLast: of samples that took just as long, the last one that came is the best: the walk. -/
import Derived.Test.YtnfnonphccnbkaaStoreW
import Derived.Test.YtnfnonphccnbkaaArgs
set_option linter.unusedVariables false
namespace Go.Chron
open Go Go.RowKit
theorem bestOf_last {l : List Sam} {x : Sam} (h : ∀ y ∈ l, btOf y x = false) : bestOf (l ++ [x]) = some x := by
  rw [bestOf_snoc]
  cases hb : bestOf l with
  | none => rfl
  | some y =>
    have := h y (bestOf_mem l y hb)
    show (if btOf y x then some y else some x) = some x
    rw [this]
    rfl
def lastS (delay at_ : Int) (i : Nat) : Sam := ⟨i, delay, at_ + i, 0⟩
def lastL (delay at_ : Int) (k : Nat) : List Sam := (List.range k).map (lastS delay at_)
theorem lastL_succ (delay at_ : Int) (k : Nat) : lastL delay at_ (k + 1) = lastL delay at_ k ++ [lastS delay at_ k] := by simp [lastL, List.range_succ]
theorem lastL_mem {delay at_ : Int} {k : Nat} {x : Sam} (h : x ∈ lastL delay at_ k) : ∃ i, i < k ∧ x = lastS delay at_ i := by
  obtain ⟨i, hi, rfl⟩ := List.mem_map.1 h
  exact ⟨i, by simpa using hi, rfl⟩
theorem lastN_mem {α : Type} {m : Nat} {l : List α} {x : α} (h : x ∈ lastN m l) : x ∈ l := List.mem_of_mem_drop h
theorem lastS_fresh {delay at_ : Int} {i : Nat} (hi : i < 20) : frOf (lastS delay at_ i) (at_ + 100) 1000 = true := by
  have e : satSub (at_ + 100) (at_ + i) = 100 - (i : Int) := by unfold satSub; rw [if_neg (by omega), if_neg (by omega)]; omega
  show (decide (at_ + (i : Int) ≤ at_ + 100) && decide (satSub (at_ + 100) (at_ + i) ≤ 1000)) = true
  rw [e, decide_eq_true (by omega), decide_eq_true (by omega)]
  rfl
theorem lastS_best (delay at_ : Int) (k : Nat) (hk : k ≤ 20) : bestOf ((lastN 8 (lastL delay at_ k)).filter (frOf · (at_ + 100) 1000)) = if k = 0 then none else some (lastS delay at_ (k - 1)) := by
  have hf : (lastN 8 (lastL delay at_ k)).filter (frOf · (at_ + 100) 1000) = lastN 8 (lastL delay at_ k) := by
    apply List.filter_eq_self.2
    intro x hx
    obtain ⟨i, hi, rfl⟩ := lastL_mem (lastN_mem hx)
    exact lastS_fresh (by omega)
  rw [hf]
  cases k with
  | zero => rfl
  | succ k =>
    rw [if_neg (by omega), lastL_succ, ← lastN_push (by omega)]
    unfold rpush
    have key : ∀ y ∈ lastL delay at_ k, btOf y (lastS delay at_ k) = false := by
      intro y hy
      obtain ⟨i, hi, rfl⟩ := lastL_mem hy
      show (decide (delay < delay) || (decide (delay = delay) && decide (at_ + (k : Int) < at_ + (i : Int)))) = false
      rw [decide_eq_false (by omega), decide_eq_true rfl, decide_eq_false (by omega)]
      rfl
    split
    · exact bestOf_last (fun y hy => key y (lastN_mem hy))
    · exact bestOf_last (fun y hy => key y (lastN_mem (List.mem_of_mem_tail hy)))
theorem lastS_res {delay at_ : Int} {k : Nat} (hk : k ≠ 0) (hk2 : k ≤ 20) : bestRes (some (lastS delay at_ (k - 1))) 0 =
    .tuple #[.agg #[.int .i64 ((k : Int) - 1), .int .i64 delay, .int .i64 (at_ + (k : Int) - 1), .int .i64 0], .int .i64 ((k : Int) - 1), .bool true] := by
  have e : ((k - 1 : Nat) : Int) = (k : Int) - 1 := by omega
  have hn : nowOf (lastS delay at_ (k - 1)) 0 = (k : Int) - 1 := by
    show satSub ((k - 1 : Nat) : Int) (satSub 0 0) = _
    rw [show satSub 0 0 = 0 from rfl, e]
    unfold satSub
    rw [if_neg (by omega), if_neg (by omega)]
    omega
  simp only [bestRes, hn]
  simp only [lastS, e]
  rw [show at_ + ((k : Int) - 1) = at_ + (k : Int) - 1 by omega]
end Go.Chron
namespace Go.Proofs.Ytnfnonphccnbkaa
open Go.RowKit Go.Chron

def LastInv (w : World) (s b : Nat) (delay at_ : Int) (n : Nat) (i : Value) (wr : World) : Prop :=
  ∃ (k : Nat) (g : Option Nat), k ≤ n ∧ i = .int .i64 k ∧ StoreW w wr s b g k (lastN 8 (lastL delay at_ k))

set_option maxRecDepth 100000 in
set_option maxHeartbeats 3200000 in
theorem freshLast_walk (n delay at_ : Int) (w : World) (hn : (Lit.int .u8 n).wf = true) (hd : (Lit.int .i64 delay).wf = true) (ha : (Lit.int .u16 at_).wf = true) :
    Calls Try.prog 6 #[.int .u8 n, .int .i64 delay, .int .u16 at_] w fun e w' => e = .returned (.bool true) ∧ Below w.heap.size w w' := by
  have hn1 : 0 ≤ n ∧ n ≤ 255 := by
    simp only [Lit.wf, IntKind.min, IntKind.max, IntKind.signed, IntKind.bits, Bool.and_eq_true] at hn
    simp at hn
    omega
  have ha1 : 0 ≤ at_ ∧ at_ ≤ 65535 := by
    simp only [Lit.wf, IntKind.min, IntKind.max, IntKind.signed, IntKind.bits, Bool.and_eq_true] at ha
    simp at ha
    omega
  have hd1 := wf_in64 hd
  obtain ⟨n0, n1⟩ := hn1
  obtain ⟨a0, a1⟩ := ha1
  clear hn ha hd
  obtain ⟨m, hm⟩ : ∃ m : Nat, n % 20 = (m : Int) := ⟨(n % 20).toNat, by omega⟩
  have hm20 : m < 20 := by omega
  have hmt : n.tmod 20 = (m : Int) := by rw [Int.tmod_eq_emod_of_nonneg n0]; exact hm
  go_enter Try.func6, Try.ntmps6
  go_wp2_with fail
  refine (storeNew w).mono ?_
  rintro e w1 ⟨s, b, rfl, st, hs, hb, c1⟩
  have S0 : StoreW w w1 s b none 0 [] := ⟨st, hb, by simp, bel0 (Below.refl _ _) c1 (Nat.le_refl _)⟩
  clear st hb c1
  go_wp2_with fail
  refine (alive _).mono ?_
  rintro e w2 ⟨rfl, c2⟩
  have S1 := S0.chg0 c2
  clear S0 c2
  go_wp2_with fail
  have hbest := lastS_best delay at_ m (by omega)
  have HBest := Lib.hid hbest
  clear hbest
  go_loopw [25] (fun i wr => LastInv w s b delay at_ m i wr) (fun i _ => m - (intOf i).toNat)
  case atStart => exact ⟨0, none, by omega, rfl, S1⟩
  case round =>
    clear S1
    obtain ⟨k, g, hk, rfl, S1⟩ := hrel
    by_cases hlt : k < m
    · have hlt' : (k : Int) < (m : Int) := by omega
      go_wp2_with fail
      refine (storeAdd s b g k _ k delay (at_ + k) 0 _ S1.st (by omega)).mono ?_
      rintro e wB ⟨rfl, A⟩
      obtain ⟨k2, S2, -⟩ := S1.add A
      have hL : rpush 8 (lastN 8 (lastL delay at_ k)) ⟨k, delay, at_ + k, 0⟩ = lastN 8 (lastL delay at_ (k + 1)) := by rw [lastL_succ, ← lastN_push (by omega)]; rfl
      rw [hL] at S2
      clear S1 A hL
      go_wp2_with fail
      go_roundw
      case rel => exact ⟨k + 1, some k2, by omega, by go_num, S2⟩
      case measure => simp [intOf]; omega
    · obtain rfl : k = m := by omega
      go_wp2_with fail
      refine (storeBest s b g k _ (fun x hx => ?_) (at_ + 100) 1000 0 ⟨by omega, by omega⟩ ⟨by decide, by decide⟩ _ S1.st).mono ?_
      · obtain ⟨i, hi, rfl⟩ := lastL_mem (lastN_mem hx)
        exact ⟨⟨by show -9223372036854775808 ≤ (i : Int); omega, by show (i : Int) ≤ _; omega⟩, hd1, ⟨by show -9223372036854775808 ≤ at_ + (i : Int); omega, by show at_ + (i : Int) ≤ _; omega⟩, ⟨by show (-9223372036854775808 : Int) ≤ 0; decide, by show (0 : Int) ≤ 9223372036854775807; decide⟩⟩
      rintro e wB ⟨rfl, cB⟩
      rw [HBest.out]
      have S2 := S1.chg0 cB
      clear S1 cB
      by_cases hk0 : k = 0
      · subst hk0
        rw [if_pos rfl]
        simp only [bestRes]
        have HB := Lib.hid S2.bel
        clear S2
        go_wp2_with fail
        go_ret
        exact ⟨rfl, HB.out.alloc HB.out.size _⟩
      · rw [if_neg hk0, lastS_res hk0 (by omega)]
        have HB := Lib.hid S2.bel
        have hk1 : 0 < k := by omega
        clear S2
        go_wp2_with fail
        go_ret
        exact ⟨rfl, HB.out.alloc HB.out.size _⟩
end Go.Proofs.Ytnfnonphccnbkaa
