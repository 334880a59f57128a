/- MedianTexts: texts are told as numbers are: the walk. -/
import Derived.Test.YtnfnonphccnbkaaRank
set_option linter.unusedVariables false
namespace Go.Chron
open Go Go.RowKit Go.Proofs
/-- What came in as a list of texts. -/
theorem texts_in {els : List (List Value)} (h : ∀ x ∈ els, okAll [.str] x) : ∃ zs : List (List UInt8), els = zs.map (fun z => [encStr z]) := by
  induction els with
  | nil => exact ⟨[], rfl⟩
  | cons y els ih =>
    obtain ⟨zs, rfl⟩ := ih (fun x hx => h x (List.mem_cons_of_mem _ hx))
    obtain ⟨v, r, rfl, ⟨s, rfl, hs⟩, h1⟩ := okAll_cons (h y (by simp))
    rw [okAll_nil h1]
    exact ⟨s.data.toList :: zs, by obtain ⟨d⟩ := s; simp [encStr]⟩
theorem medS_mem {l : List (List UInt8)} (hl : l ≠ []) : medS l ∈ l := msort_mem.1 (List.mem_of_getElem? (medS_get hl))
theorem any_snoc (l : List (List UInt8)) (y m : List UInt8) : (l ++ [y]).any (· == m) = (l.any (· == m) || y == m) := by simp
end Go.Chron
namespace Go.Proofs.Ytnfnonphccnbkaa
open Go.RowKit Go.Chron

def TextsInv (zs : List (List UInt8)) (md : List UInt8) (n : Nat) (w : World) (i th : Value) (wr : World) : Prop :=
  ∃ t : Nat, t ≤ n ∧ i = .int .i64 t ∧ th = .bool ((zs.take t).any (· == md)) ∧ wr = w

set_option maxRecDepth 100000 in
set_option maxHeartbeats 3200000 in
theorem medianTexts_all (a : Option Addr) (n cap : Nat) (els : List (List Value)) (w : World) (hI : FlatIn [.str] w a n cap els) :
    Calls Try.prog 16 #[.slice a n cap] w fun e w' => e = .returned (.bool true) ∧ Below w.heap.size w w' := by
  obtain ⟨zs, rfl⟩ := texts_in hI.ok
  have hcm := hI.capE
  have hle := hI.leE
  have hlenE := hI.lenE
  rw [List.length_map] at hlenE
  have HRD := Lib.hid (show Reads w 1 a (zs.map fun z => [encStr z]) from hI.reads)
  have HN := Lib.hid hlenE
  have HNIL := Lib.hid hI.nilE
  clear hI hlenE
  go_enter Try.func16, Try.ntmps16
  go_wp2_with fail
  refine (alive30 _).mono ?_
  rintro e w1 ⟨rfl, c1⟩
  by_cases h200 : 200 < n
  · go_wp2_with fail
    refine (alive30 _).mono ?_
    rintro e w2 ⟨rfl, c2⟩
    have c3 := Lib.hid (bel0 (Below.refl _ _) (c1.trans c2) (Nat.le_refl _))
    clear c1 c2
    go_wp2_with fail
    go_ret
    exact ⟨rfl, c3.out⟩
  · have hn6 : zs.length ≤ 1000000 := by have := HN.out; omega
    go_wp2_with fail
    refine (of_str a n cap zs _ HN.out HNIL.out (HRD.out.chg c1 (fun _ _ h => h)) hn6).mono ?_
    rintro e w2 ⟨rfl, c2⟩
    have c3 := c1.trans c2
    clear c1 c2
    by_cases h0 : n = 0
    · have hz : zs = [] := List.eq_nil_of_length_eq_zero (by rw [← HN.out]; exact h0)
      have c4 := Lib.hid (bel0 (Below.refl _ _) c3 (Nat.le_refl _))
      subst hz
      rw [medS_nil]
      subst h0
      clear c3
      go_wp2_with fail
      go_ret
      exact ⟨rfl, c4.out⟩
    · have hne : zs ≠ [] := by intro e; have := HN.out; rw [e] at this; exact h0 this
      have hn0 : ((n : Int) == 0) = false := by rw [beq_eq_false_iff_ne]; omega
      rw [if_neg (by rw [← HN.out]; exact h0)]
      obtain ⟨md, hmd⟩ : ∃ md, md = medS zs := ⟨_, rfl⟩
      have hcnt := (medS_iff hne md).1 hmd.symm
      have hmem := medS_mem hne
      rw [← hmd] at hmem ⊢
      have HMEM := Lib.hid hmem
      rw [← HN.out] at hcnt
      obtain ⟨d1, d2⟩ := hcnt
      clear hmd hmem hne
      go_wp2_with fail
      refine (rank_str md a n cap zs _ HN.out hle hcm (HRD.out.chg c3 (fun _ _ h => h)) (by omega)).mono ?_
      rintro e w4 ⟨rfl, rfl⟩
      have u2 := up_le (le := sle) zs md
      have u1 := lo_le (le := sle) zs md
      rw [← HN.out] at u1 u2
      obtain ⟨lo, hlo⟩ : ∃ lo, lo = loOf sle zs md := ⟨_, rfl⟩
      obtain ⟨up, hup⟩ : ∃ up, up = upOf sle zs md := ⟨_, rfl⟩
      rw [← hlo] at d1 u1 ⊢
      rw [← hup] at d2 u2 ⊢
      clear hlo hup
      obtain ⟨k, hk⟩ : ∃ k, k = (n - 1) / 2 := ⟨_, rfl⟩
      have hk1 : ((n : Int) - 1).tdiv 2 = (k : Int) := by rw [Int.tdiv_eq_ediv_of_nonneg (by omega), hk]; omega
      rw [← hk] at d1 d2
      have hk4 : (k : Int) ≤ 1000000 := by omega
      have d1' : (lo : Int) ≤ (k : Int) := by omega
      have d2' : (k : Int) < (up : Int) := by omega
      clear hk d1 d2 u1 u2
      go_wp2_with fail
      go_loopw [41, 7] (fun i th wr => TextsInv zs md n w2 i th wr) (fun i _ _ => n - (intOf i).toNat)
      case atStart => exact ⟨0, by omega, rfl, rfl, rfl⟩
      case round =>
        obtain ⟨t, ht, rfl, rfl, rfl⟩ := hrel
        by_cases hlt : t < n
        · obtain ⟨y, hy⟩ : ∃ y, zs[t]? = some y := ⟨_, List.getElem?_eq_getElem (by rw [← HN.out]; exact hlt)⟩
          obtain ⟨bl, off, rfl, hcell⟩ := HRD.out (by rw [List.length_map, ← HN.out]; omega)
          have e0 := c3.keep (hcell t [encStr y] (by rw [List.getElem?_map, hy]; rfl) 0 _ rfl) (fun h => h)
          simp only [Nat.mul_one, Nat.add_zero] at e0
          have htn : (t : Int) < (n : Int) := by omega
          have hyt : (zs.take (t + 1)).any (· == md) = ((zs.take t).any (· == md) || y == md) := by rw [List.take_add_one, hy]; exact any_snoc _ _ _
          obtain ⟨th, hth⟩ : ∃ th, th = (zs.take t).any (· == md) := ⟨_, rfl⟩
          rw [← hth] at hyt ⊢
          have HY := Lib.hid hyt
          clear hth hyt hy hcell
          cases th with
          | true =>
            go_wp2_with fail
            go_roundw
            case rel => exact ⟨t + 1, by omega, by go_num, by rw [HY.out]; simp, rfl⟩
            case measure => simp [intOf]; omega
          | false =>
            cases hyb : y == md with
            | true =>
              obtain rfl : y = md := by simpa using hyb
              go_wp2_with fail
              go_roundw
              case rel => exact ⟨t + 1, by omega, by go_num, by rw [HY.out]; simp, rfl⟩
              case measure => simp [intOf]; omega
            | false =>
              go_wp2_with fail
              go_roundw
              case rel => exact ⟨t + 1, by omega, by go_num, by rw [HY.out, hyb]; rfl, rfl⟩
              case measure => simp [intOf]; omega
        · obtain rfl : t = n := by omega
          have hzt : zs.take t = zs := List.take_of_length_le (by have := HN.out; omega)
          have hany : zs.any (· == md) = true := by rw [List.any_eq_true]; exact ⟨md, HMEM.out, by simp⟩
          rw [hzt, hany]
          have c4 := Lib.hid (bel0 (Below.refl _ _) c3 (Nat.le_refl _))
          clear hzt hany c3
          go_wp2_with fail
          go_ret
          exact ⟨rfl, c4.out⟩
end Go.Proofs.Ytnfnonphccnbkaa
