/- MedianTells: of any numbers the one in the middle, they in order, the ends, and how many are below any one: the walk. -/
import Derived.Test.YtnfnonphccnbkaaRefS
import Derived.Test.YtnfnonphccnbkaaRank
import Derived.Test.YtnfnonphccnbkaaEnds
import Derived.BigQuiet
set_option linter.unusedVariables false
namespace Go.Chron
open Go Go.RowKit
theorem msort_first {zs : List Int} {lo x : Int} (h : IsMin zs lo) (hx : (msort ile zs)[0]? = some x) : lo = x := by
  have hm := msort_mem.1 (List.mem_of_getElem? hx)
  obtain ⟨k, hk⟩ := List.mem_iff_getElem?.1 (msort_mem (le := ile) |>.2 h.1)
  have h1 := sorted_get ord_int (msort_sorted ord_int zs) (Nat.zero_le k) hx hk
  unfold ile at h1
  simp at h1
  have := h.2 x hm
  omega
theorem msort_last {zs : List Int} {hi x : Int} (h : IsMax zs hi) (hx : (msort ile zs)[zs.length - 1]? = some x) : hi = x := by
  have hm := msort_mem.1 (List.mem_of_getElem? hx)
  obtain ⟨k, hk⟩ := List.mem_iff_getElem?.1 (msort_mem (le := ile) |>.2 h.1)
  have hkl := (List.getElem?_eq_some_iff.1 hk).1
  rw [msort_len] at hkl
  have h1 := sorted_get ord_int (msort_sorted ord_int zs) (show k ≤ zs.length - 1 by omega) hk hx
  unfold ile at h1
  simp at h1
  have := h.2 x hm
  omega
theorem lo_snoc_int (l : List Int) (y v : Int) : loOf ile (l ++ [y]) v = loOf ile l v + (if y < v then 1 else 0) := by
  rw [lo_snoc]; unfold ile; by_cases h : y < v
  · rw [decide_eq_false (by omega), if_pos h]; rfl
  · rw [decide_eq_true (by omega), if_neg h]; rfl
theorem up_snoc_int (l : List Int) (y v : Int) : upOf ile (l ++ [y]) v = upOf ile l v + (if y ≤ v then 1 else 0) := by
  rw [up_snoc]; unfold ile; by_cases h : y ≤ v
  · rw [decide_eq_true h, if_pos h]; rfl
  · rw [decide_eq_false h, if_neg h]; rfl
end Go.Chron
namespace Go.Proofs.Ytnfnonphccnbkaa
open Go.RowKit Go.Chron

def RRInv (zs : List Int) (v : Int) (n : Nat) (w : World) (i b u : Value) (wr : World) : Prop :=
  ∃ t : Nat, t ≤ n ∧ i = .int .i64 t ∧ b = .int .i64 (loOf ile (zs.take t) v) ∧ u = .int .i64 (upOf ile (zs.take t) v) ∧ wr = w
set_option maxRecDepth 100000 in
set_option maxHeartbeats 1600000 in
theorem refRank (v : Int) (a : Option Addr) (n cap : Nat) (zs : List Int) (w : World) (hn : n = zs.length) (hcap : n ≤ cap) (hcm : cap ≤ 9223372036854775807) (hr : Reads w 1 a (zs.map fun z => [Value.int .i64 z])) (hb : n ≤ 1000000) :
    Calls Try.prog 43 #[.int .i64 v, .slice a n cap] w fun e w' => e = .returned (.tuple #[.int .i64 (loOf ile zs v), .int .i64 (upOf ile zs v)]) ∧ w = w' := by
  have HR := Lib.hid hr
  have HN := Lib.hid hn
  clear hr hn
  go_enter Try.func43, Try.ntmps43
  go_wp2_with fail
  go_loopw [8, 6, 7] (fun i b u wr => RRInv zs v n w i b u wr) (fun i _ _ _ => n - (intOf i).toNat)
  case atStart => exact ⟨0, by omega, rfl, rfl, rfl, rfl⟩
  case round =>
    obtain ⟨t, ht, rfl, rfl, rfl, rfl⟩ := hrel
    by_cases hlt : t < n
    · obtain ⟨y, hy⟩ : ∃ y, zs[t]? = some y := ⟨_, List.getElem?_eq_getElem (by rw [← HN.out]; exact hlt)⟩
      obtain ⟨bl, off, rfl, hcell⟩ := HR.out (by rw [List.length_map, ← HN.out]; omega)
      have e0 := hcell t [Value.int .i64 y] (by rw [List.getElem?_map, hy]; rfl) 0 _ rfl
      simp only [Nat.mul_one, Nat.add_zero] at e0
      have htn : (t : Int) < (n : Int) := by omega
      have hyt : zs.take (t + 1) = zs.take t ++ [y] := by rw [List.take_add_one, hy]; rfl
      have hl1 := lo_snoc_int (zs.take t) y v
      have hu1 := up_snoc_int (zs.take t) y v
      have hl2 := lo_le (le := ile) (zs.take t) v
      have hu2 := up_le (le := ile) (zs.take t) v
      have htl : (zs.take t).length = t := by rw [List.length_take, ← HN.out]; omega
      rw [← hyt] at hl1 hu1
      rw [htl] at hl2 hu2
      obtain ⟨lo, hlo⟩ : ∃ lo, lo = loOf ile (zs.take t) v := ⟨_, rfl⟩
      obtain ⟨up, hup⟩ : ∃ up, up = upOf ile (zs.take t) v := ⟨_, rfl⟩
      rw [← hlo] at hl1 hl2 ⊢
      rw [← hup] at hu1 hu2 ⊢
      have hl3 : (lo : Int) ≤ 1000000 := by omega
      have hu3 : (up : Int) ≤ 1000000 := by omega
      clear hlo hup hcell hy htl hyt
      by_cases h1 : y < v
      · rw [if_pos h1] at hl1
        rw [if_pos (by omega)] at hu1
        have h2 : y ≤ v := by omega
        have HL1 := Lib.hid hl1
        have HU1 := Lib.hid hu1
        clear hl1 hu1
        go_wp2_with fail
        go_roundw
        case rel => exact ⟨t + 1, by omega, by go_num, by rw [HL1.out]; simp, by rw [HU1.out]; simp, rfl⟩
        case measure => simp [intOf]; omega
      · rw [if_neg h1] at hl1
        by_cases h2 : y ≤ v
        · rw [if_pos h2] at hu1
          have HL1 := Lib.hid hl1
          have HU1 := Lib.hid hu1
          clear hl1 hu1
          go_wp2_with fail
          go_roundw
          case rel => exact ⟨t + 1, by omega, by go_num, by rw [HL1.out]; simp, by rw [HU1.out]; simp, rfl⟩
          case measure => simp [intOf]; omega
        · rw [if_neg h2] at hu1
          have HL1 := Lib.hid hl1
          have HU1 := Lib.hid hu1
          clear hl1 hu1
          go_wp2_with fail
          go_roundw
          case rel => exact ⟨t + 1, by omega, by go_num, by rw [HL1.out]; simp, by rw [HU1.out]; simp, rfl⟩
          case measure => simp [intOf]; omega
    · obtain rfl : t = n := by omega
      have hzt : zs.take t = zs := List.take_of_length_le (by have := HN.out; omega)
      rw [hzt]
      clear hzt
      go_wp2_with fail
      go_ret2
      exact ⟨rfl, rfl⟩

def TellsInv (w : World) (zs : List Int) (n kO kS kT capO capS capT : Nat) (i : Value) (wr : World) : Prop :=
  ∃ t : Nat, t ≤ n ∧ i = .int .i64 t ∧ Owns wr 2 1 (.slice (some ⟨kO, 0, none⟩) n capO) (some kO) (zs.map fun z => [Value.int .i64 z]) ∧ Owns wr 2 1 (.slice (some ⟨kS, 0, none⟩) n capS) (some kS) ((msort ile zs).map fun z => [Value.int .i64 z]) ∧ Owns wr 2 1 (.slice (some ⟨kT, 0, none⟩) n capT) (some kT) ((msort ile zs).map fun z => [Value.int .i64 z]) ∧ Chg (fun _ => False) w wr

set_option maxRecDepth 100000 in
set_option maxHeartbeats 6400000 in
theorem medianTells_walk (a : Option Addr) (n cap : Nat) (zs : List Int) (v : Int) (w : World) (hI : IntsIn .i64 w a n cap zs) :
    Calls Try.prog 17 #[.slice a n cap, .int .i64 v] w fun e w' => e = .returned (.bool true) ∧ Below w.heap.size w w' := by
  obtain ⟨i0, hi, hz0, hz1, hz2⟩ := info_parts infom_i64
  have hcm := hI.capE
  have hle := hI.leE
  have HI := Lib.hid hI
  have HN := Lib.hid hI.lenE
  have HNIL := Lib.hid hI.nilE
  clear hI
  go_enter Try.func17, Try.ntmps17
  go_wp2_with fail
  refine (alive30 _).mono ?_
  rintro e w1 ⟨rfl, c1⟩
  by_cases h300 : 300 < n
  · go_wp2_with fail
    refine (alive30 _).mono ?_
    rintro e w2 ⟨rfl, c2⟩
    have c3 := Lib.hid (bel0 (Below.refl _ _) (c1.trans c2) (Nat.le_refl _))
    clear c1 c2
    go_wp2_with fail
    go_ret
    exact ⟨rfl, c3.out⟩
  · have hzl : zs.length ≤ 300 := by have := HN.out; omega
    have s1 := c1.size
    by_cases h0 : n = 0
    · have hz : zs = [] := List.eq_nil_of_length_eq_zero (by rw [← HN.out]; exact h0)
      subst hz
      subst h0
      have HC1 := Lib.hid c1
      clear c1
      cases a with
      | none =>
        obtain ⟨-, rfl⟩ := HNIL.out rfl
        go_wp2_with fail
        refine (of_i64 none 0 0 [] _ rfl (by simp) (fun h => by simp at h) (by simp)).mono ?_
        rintro e w3 ⟨rfl, k3⟩
        rw [medOf_nil, if_pos (show ([] : List Int).length = 0 from rfl)]
        have c3 := (HC1.out.alloc (Obj.cells #[] 2)).trans k3
        clear k3
        go_wp2_with fail
        refine (refOf none 0 0 [] _ rfl (by omega) (by omega) (fun h => by simp at h) (by omega)).mono ?_
        rintro e w4 ⟨rfl, k4⟩
        rw [medOf_nil, if_pos (show ([] : List Int).length = 0 from rfl)]
        have c4 := c3.trans k4
        clear k4 c3
        go_wp2_with fail
        refine (sorted_i64 none 0 0 [] _ rfl (by simp) (fun h => by simp at h) (by simp)).mono ?_
        rintro e w5 ⟨aS, capS, gS, rfl, oS, k5, hgS⟩
        rw [List.length_map, msort_len]
        have c5 := c4.trans k5
        clear k5 c4 oS hgS
        go_wp2_with fail
        refine (refSorted none 0 0 [] _ rfl (by omega) (by omega) (fun h => by simp at h) (by omega)).mono ?_
        rintro e w6 ⟨aT, capT, gT, rfl, oT, k6, hgT⟩
        rw [List.length_map, msort_len]
        have c6 := Lib.hid (bel0 (Below.refl _ _) (c5.trans k6) (Nat.le_refl _))
        clear k6 c5 oT hgT
        go_wp2_with fail
        refine (rank_i64 v none 0 0 [] _ rfl (by omega) (by omega) (fun h => by simp at h) (by omega)).mono ?_
        rintro e w' ⟨rfl, rfl⟩
        go_wp2_with fail
        refine (refRank v none 0 0 [] _ rfl (by omega) (by omega) (fun h => by simp at h) (by omega)).mono ?_
        rintro e w' ⟨rfl, rfl⟩
        rw [show loOf ile ([] : List Int) v = 0 from rfl, show upOf ile ([] : List Int) v = 0 from rfl]
        go_wp2_with fail
        refine (spread37_none none 0 _).mono ?_
        rintro e w' ⟨rfl, rfl⟩
        go_wp2_with fail
        go_loopw [95] (fun i wr => i = .int .i64 ((0 : Nat) : Int) ∧ Below w.heap.size w wr) (fun i _ => 0)
        case atStart => exact ⟨rfl, c6.out⟩
        case round =>
          obtain ⟨rfl, hb⟩ := hrel
          have HB := Lib.hid hb
          clear hb
          go_wp2_with fail
          go_ret
          exact ⟨rfl, HB.out⟩
      | some ad =>
        go_wp2_with fail
        refine (of_i64 (some ad) 0 cap [] _ rfl (by simp) (fun h => by simp at h) (by simp)).mono ?_
        rintro e w3 ⟨rfl, k3⟩
        rw [medOf_nil, if_pos (show ([] : List Int).length = 0 from rfl)]
        have c3 := (HC1.out.alloc (Obj.cells #[] 2)).trans k3
        clear k3
        go_wp2_with fail
        refine (refOf (some ad) 0 cap [] _ rfl (by omega) (by omega) (fun h => by simp at h) (by omega)).mono ?_
        rintro e w4 ⟨rfl, k4⟩
        rw [medOf_nil, if_pos (show ([] : List Int).length = 0 from rfl)]
        have c4 := c3.trans k4
        clear k4 c3
        go_wp2_with fail
        refine (sorted_i64 (some ad) 0 cap [] _ rfl (by simp) (fun h => by simp at h) (by simp)).mono ?_
        rintro e w5 ⟨aS, capS, gS, rfl, oS, k5, hgS⟩
        rw [List.length_map, msort_len]
        have c5 := c4.trans k5
        clear k5 c4 oS hgS
        go_wp2_with fail
        refine (refSorted (some ad) 0 cap [] _ rfl (by omega) (by omega) (fun h => by simp at h) (by omega)).mono ?_
        rintro e w6 ⟨aT, capT, gT, rfl, oT, k6, hgT⟩
        rw [List.length_map, msort_len]
        have c6 := Lib.hid (bel0 (Below.refl _ _) (c5.trans k6) (Nat.le_refl _))
        clear k6 c5 oT hgT
        go_wp2_with fail
        refine (rank_i64 v (some ad) 0 cap [] _ rfl (by omega) (by omega) (fun h => by simp at h) (by omega)).mono ?_
        rintro e w' ⟨rfl, rfl⟩
        go_wp2_with fail
        refine (refRank v (some ad) 0 cap [] _ rfl (by omega) (by omega) (fun h => by simp at h) (by omega)).mono ?_
        rintro e w' ⟨rfl, rfl⟩
        rw [show loOf ile ([] : List Int) v = 0 from rfl, show upOf ile ([] : List Int) v = 0 from rfl]
        go_wp2_with fail
        refine (spread37_none (some ad) cap _).mono ?_
        rintro e w' ⟨rfl, rfl⟩
        go_wp2_with fail
        go_loopw [95] (fun i wr => i = .int .i64 ((0 : Nat) : Int) ∧ Below w.heap.size w wr) (fun i _ => 0)
        case atStart => exact ⟨rfl, c6.out⟩
        case round =>
          obtain ⟨rfl, hb⟩ := hrel
          have HB := Lib.hid hb
          clear hb
          go_wp2_with fail
          go_ret
          exact ⟨rfl, HB.out⟩
    · obtain ⟨bl, off, rfl, hbl, hcell⟩ := HI.out.cell (by omega)
      have HCELL := Lib.hid hcell
      have hne : zs ≠ [] := by intro e; have := HN.out; rw [e] at this; exact h0 this
      have hn0 : ((n : Int) == 0) = false := by rw [beq_eq_false_iff_ne]; omega
      have hz0' : ¬ zs.length = 0 := by have := HN.out; omega
      clear hcell
      have HNE := Lib.hid hne
      clear hne
      go_wp2_with (at_builtin; refine wpList_app_any (by rfl) (.tmp 28) (.tmp 29) 49 (by rfl) 2 i0 _ 1 8 Try.underlying49 hi hz0 hz1 hz2 rfl (by omega) _ w1.heap.size [] (by rfl) (owns_empty _ _ _) ⟨bl, off, none⟩ (zs.map fun z => [Value.int .i64 z]) n cap (by rfl) (by rw [List.length_map]; exact HN.out) ?_ (enc_each _ _) (enc_one _ _) (by simp; omega) (by simp [maxLen]; omega) ?_)
      · exact (HI.out.reads.chg (c1.alloc _) (fun _ _ h => h)).flat (enc_each _ _)
      · intro kO capO w2 oO hcO hkO
        rw [← HN.out] at oO ⊢
        have c2 := (c1.alloc (Obj.cells #[] 2)).trans' hcO (fun i hi e => by omega)
        clear c1 hcO hkO
        go_wp2_with fail
        refine (of_i64 (some ⟨bl, off, none⟩) n cap zs _ HN.out (by simp) (HI.out.reads.chg c2 (fun _ _ h => h)) (by omega)).mono ?_
        rintro e w3 ⟨rfl, k3⟩
        rw [if_neg hz0']
        have c3 := c2.trans k3
        have o3 := oO.chg k3 (fun _ _ h => h)
        clear c2 k3 oO
        go_wp2_with fail
        refine (refOf (some ⟨bl, off, none⟩) n cap zs _ HN.out hle hcm (HI.out.reads.chg c3 (fun _ _ h => h)) (by omega)).mono ?_
        rintro e w4 ⟨rfl, k4⟩
        rw [if_neg hz0']
        have c4 := c3.trans k4
        have o4 := o3.chg k4 (fun _ _ h => h)
        clear c3 k4 o3
        generalize medOf zs = md
        go_wp2_with fail
        refine (sorted_i64 (some ⟨bl, off, none⟩) n cap zs _ HN.out (by simp) (HI.out.reads.chg c4 (fun _ _ h => h)) (by omega)).mono ?_
        rintro e w5 ⟨aS, capS, gS, rfl, oS, k5, hgS⟩
        rw [List.length_map, msort_len, ← HN.out] at oS ⊢
        obtain ⟨kS, rfl⟩ := oS.pos (by rw [List.length_map, msort_len, ← HN.out]; omega)
        obtain ⟨capS', hv, -, -⟩ := oS.some_form
        simp only [Value.slice.injEq] at hv
        obtain ⟨rfl, -, -⟩ := hv
        have c5 := c4.trans k5
        have o5 := o4.chg k5 (fun _ _ h => h)
        clear c4 k5 o4 hgS
        go_wp2_with fail
        refine (refSorted (some ⟨bl, off, none⟩) n cap zs _ HN.out hle hcm (HI.out.reads.chg c5 (fun _ _ h => h)) (by omega)).mono ?_
        rintro e w6 ⟨aT, capT, gT, rfl, oT, k6, hgT⟩
        rw [List.length_map, msort_len, ← HN.out] at oT ⊢
        obtain ⟨kT, rfl⟩ := oT.pos (by rw [List.length_map, msort_len, ← HN.out]; omega)
        obtain ⟨capT', hv, -, -⟩ := oT.some_form
        simp only [Value.slice.injEq] at hv
        obtain ⟨rfl, -, -⟩ := hv
        have c6 := c5.trans k6
        have o6 := o5.chg k6 (fun _ _ h => h)
        have p6 := oS.chg k6 (fun _ _ h => h)
        clear c5 k6 o5 oS hgT
        have HC6 := Lib.hid c6
        have HO6 := Lib.hid o6
        have HP6 := Lib.hid p6
        have HT6 := Lib.hid oT
        clear c6 o6 p6 oT
        go_wp2_with fail
        refine (rank_i64 v (some ⟨bl, off, none⟩) n cap zs _ HN.out hle hcm (HI.out.reads.chg HC6.out (fun _ _ h => h)) (by omega)).mono ?_
        rintro e w' ⟨rfl, rfl⟩
        have u1 := lo_le (le := ile) zs v
        have u2 := up_le (le := ile) zs v
        go_wp2_with fail
        refine (refRank v (some ⟨bl, off, none⟩) n cap zs _ HN.out hle hcm (HI.out.reads.chg HC6.out (fun _ _ h => h)) (by omega)).mono ?_
        rintro e w' ⟨rfl, rfl⟩
        generalize loOf ile zs v = lo at u1 ⊢
        generalize upOf ile zs v = up at u2 ⊢
        clear u1 u2
        go_wp2_with fail
        refine (spread37 (some ⟨bl, off, none⟩) n cap zs _ HN.out (by omega) hle hcm (HI.out.reads.chg HC6.out (fun _ _ h => h)) (by omega)).mono ?_
        rintro e w' ⟨l1, h1, rfl, hl1, hh1, rfl⟩
        have HL1 := Lib.hid hl1
        have HH1 := Lib.hid hh1
        clear hl1 hh1
        go_wp2_with fail
        go_loopw [95] (fun i wr => TellsInv w zs n kO kS kT capO capS capT i wr) (fun i _ => n - (intOf i).toNat)
        case atStart => exact ⟨0, by omega, rfl, HO6.out, HP6.out, HT6.out, HC6.out⟩
        case round =>
          clear HO6 HP6 HT6 HC6
          obtain ⟨t, ht, rfl, qO, qS, qT, qc⟩ := hrel
          by_cases hlt : t < n
          · obtain ⟨y, hy⟩ : ∃ y, (msort ile zs)[t]? = some y := ⟨_, List.getElem?_eq_getElem (by rw [msort_len, ← HN.out]; exact hlt)⟩
            obtain ⟨x, hx⟩ : ∃ x, zs[t]? = some x := ⟨_, List.getElem?_eq_getElem (by rw [← HN.out]; exact hlt)⟩
            have a0 := qO.cell rfl (i := t) (x := [Value.int .i64 x]) (by rw [List.getElem?_map, hx]; rfl) (j := 0) rfl
            have b0 := qS.cell rfl (i := t) (x := [Value.int .i64 y]) (by rw [List.getElem?_map, hy]; rfl) (j := 0) rfl
            have d0 := qT.cell rfl (i := t) (x := [Value.int .i64 y]) (by rw [List.getElem?_map, hy]; rfl) (j := 0) rfl
            simp only [Nat.mul_one, Nat.add_zero] at a0 b0 d0
            have e0 := qc.keep (HCELL.out t x hx) (fun h => h)
            have htn : (t : Int) < (n : Int) := by omega
            have QO := Lib.hid qO
            have QS := Lib.hid qS
            have QT := Lib.hid qT
            have QC := Lib.hid qc
            clear qO qS qT qc hx hy
            go_wp2_with fail
            go_quiet (fail)
            have k9 := chg0_drewN wr nq
            have R1 := Lib.hid (QO.out.chg k9 (fun _ _ h => h))
            have R2 := Lib.hid (QS.out.chg k9 (fun _ _ h => h))
            have R3 := Lib.hid (QT.out.chg k9 (fun _ _ h => h))
            have R4 := Lib.hid (QC.out.trans k9)
            clear k9 a0 b0 d0 e0
            go_wp2_with fail
            go_roundw
            case rel => exact ⟨t + 1, by omega, by go_num, R1.out, R2.out, R3.out, R4.out⟩
            case measure => simp [intOf]; omega
          · obtain rfl : t = n := by omega
            obtain ⟨y0, hy0⟩ : ∃ y, (msort ile zs)[0]? = some y := ⟨_, List.getElem?_eq_getElem (by rw [msort_len, ← HN.out]; omega)⟩
            obtain ⟨y9, hy9⟩ : ∃ y, (msort ile zs)[zs.length - 1]? = some y := ⟨_, List.getElem?_eq_getElem (by rw [msort_len, ← HN.out]; omega)⟩
            obtain rfl := msort_first HL1.out hy0
            obtain rfl := msort_last HH1.out hy9
            have d0 := qT.cell rfl (i := 0) (x := [Value.int .i64 l1]) (by rw [List.getElem?_map, hy0]; rfl) (j := 0) rfl
            have d9 := qT.cell rfl (i := t - 1) (x := [Value.int .i64 h1]) (by rw [HN.out, List.getElem?_map, hy9]; rfl) (j := 0) rfl
            simp only [Nat.mul_one, Nat.add_zero] at d0 d9
            have t1 : ((t : Int) - 1).toNat = t - 1 := by omega
            have t0 : (0 : Int) ≤ (t : Int) - 1 := by omega
            have t2 : (t : Int) - 1 < (t : Int) := by omega
            have t3 : 0 < t := by omega
            have HB := Lib.hid (bel0 (Below.refl _ _) qc (Nat.le_refl _))
            clear qO qS qT qc hy0 hy9 HL1 HH1
            go_wp2_with fail
            go_ret
            exact ⟨rfl, HB.out⟩
theorem medianTells_all (a : Option Addr) (n cap : Nat) (els : List (List Value)) (v : Int) (w : World) (hI : FlatIn [.int .i64] w a n cap els) (hv : (Lit.int .i64 v).wf = true) :
    Calls Try.prog 17 #[.slice a n cap, .int .i64 v] w fun e w' => e = .returned (.bool true) ∧ Below w.heap.size w w' := by
  obtain ⟨zs, h⟩ := ints_in hI
  exact medianTells_walk a n cap zs v w h
end Go.Proofs.Ytnfnonphccnbkaa
