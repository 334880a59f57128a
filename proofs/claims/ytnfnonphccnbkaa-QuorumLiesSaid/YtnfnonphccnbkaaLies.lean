/- QuorumLies: if fewer than half of a quorum lie, what is chosen is between the others' offsets: the walk. -/
import Derived.Test.YtnfnonphccnbkaaEnds
import Derived.Test.YtnfnonphccnbkaaVote
import Derived.BigQuiet
set_option linter.unusedVariables false
namespace Go.Proofs.Ytnfnonphccnbkaa
open Go.RowKit Go.Chron Go.Lib

def QLInv (zs : List Int) (x0 : Int) (n : Nat) (w : World) (i lo hi : Value) (wr : World) : Prop :=
  ∃ (t : Nat) (l h : Int), t ≤ n ∧ i = .int .i64 t ∧ lo = .int .i64 l ∧ hi = .int .i64 h ∧ IsMin (x0 :: zs.take t) l ∧ IsMax (x0 :: zs.take t) h ∧ wr = w

set_option maxRecDepth 100000 in
set_option maxHeartbeats 3200000 in
theorem quorumLies_walk (a a2 : Option Addr) (n cap m cap2 : Nat) (zs ls : List Int) (q : Int) (w : World) (hI : IntsIn .i64 w a n cap zs) (hL : IntsIn .i64 w a2 m cap2 ls) (hq : (Lit.int .u8 q).wf = true) :
    Calls Try.prog 12 #[.slice a n cap, .slice a2 m cap2, .int .u8 q] w fun e w' => e = .returned (.bool true) ∧ Below w.heap.size w w' := by
  have b8 : ∀ x : Int, (Lit.int .u8 x).wf = true → 0 ≤ x ∧ x ≤ 255 := fun x hx => by
    simp only [Lit.wf, IntKind.min, IntKind.max, IntKind.signed, IntKind.bits, Bool.and_eq_true] at hx
    simp at hx
    omega
  obtain ⟨q1, q2⟩ := b8 q hq
  obtain ⟨i0, hi, hz0, hz1, hz2⟩ := info_parts infom_i64
  have hcm := hI.capE
  have hle := hI.leE
  have hcm2 := hL.capE
  have hle2 := hL.leE
  have HI := Lib.hid hI
  have HN := Lib.hid hI.lenE
  have HLI := Lib.hid hL
  have HM := Lib.hid hL.lenE
  have HNIL := Lib.hid hL.nilE
  have hmax : n ≤ 9223372036854775807 := by omega
  clear hI hL b8 hq
  by_cases hbig : 100 < n + m
  · rcases Classical.em ((n : Int) + (m : Int) ≤ 9223372036854775807) with hs | hs
    · have hs1 : (100 : Int) < (n : Int) + (m : Int) := by omega
      go_enter Try.func12, Try.ntmps12
      go_wp2_with fail
      refine (alive33 _).mono ?_
      rintro e w1 ⟨rfl, c1⟩
      have HC1 := Lib.hid c1
      clear c1
      go_wp2_with fail
      refine (alive33 _).mono ?_
      rintro e w2 ⟨rfl, c2⟩
      have c3 := Lib.hid (bel0 (Below.refl _ _) (HC1.out.trans c2) (Nat.le_refl _))
      clear c2
      go_wp2_with fail
      go_ret
      exact ⟨rfl, c3.out⟩
    · obtain ⟨z, hz⟩ : ∃ z, wrap64 ((n : Int) + (m : Int)) = z := ⟨_, rfl⟩
      have hz1' : z < 0 := by rw [← hz]; unfold wrap64; omega
      clear hbig hmax hs
      rcases Classical.em (q < 1) with h1 | h1
      · go_enter Try.func12, Try.ntmps12
        go_wp2_with fail
        refine (alive33 _).mono ?_
        rintro e w1 ⟨rfl, c1⟩
        have HC1 := Lib.hid c1
        clear c1
        go_wp2_with fail
        refine (alive33 _).mono ?_
        rintro e w2 ⟨rfl, c2⟩
        have c3 := Lib.hid (bel0 (Below.refl _ _) (HC1.out.trans c2) (Nat.le_refl _))
        clear c2
        go_wp2_with fail
        go_ret
        exact ⟨rfl, c3.out⟩
      · have h2 : z < q := by omega
        go_enter Try.func12, Try.ntmps12
        go_wp2_with fail
        refine (alive33 _).mono ?_
        rintro e w1 ⟨rfl, c1⟩
        have HC1 := Lib.hid c1
        clear c1
        go_wp2_with fail
        refine (alive33 _).mono ?_
        rintro e w2 ⟨rfl, c2⟩
        have c3 := Lib.hid (bel0 (Below.refl _ _) (HC1.out.trans c2) (Nat.le_refl _))
        clear c2
        go_wp2_with fail
        go_ret
        exact ⟨rfl, c3.out⟩
  · have hnm : (n : Int) + (m : Int) ≤ 100 := by omega
    have hn100 : n ≤ 100 := by omega
    have hm100 : m ≤ 100 := by omega
    clear hmax
    go_enter Try.func12, Try.ntmps12
    go_wp2_with fail
    refine (alive33 _).mono ?_
    rintro e w1 ⟨rfl, c1⟩
    by_cases hg : q < 1 ∨ (n : Int) + (m : Int) < q ∨ q ≤ 2 * (m : Int)
    · have HC1 := Lib.hid c1
      clear c1
      rcases Classical.em (q < 1) with h1 | h1
      · clear hg
        go_wp2_with fail
        refine (alive33 _).mono ?_
        rintro e w2 ⟨rfl, c2⟩
        have c3 := Lib.hid (bel0 (Below.refl _ _) (HC1.out.trans c2) (Nat.le_refl _))
        clear c2
        go_wp2_with fail
        go_ret
        exact ⟨rfl, c3.out⟩
      · rcases Classical.em ((n : Int) + (m : Int) < q) with h2 | h2
        · clear hg
          go_wp2_with fail
          refine (alive33 _).mono ?_
          rintro e w2 ⟨rfl, c2⟩
          have c3 := Lib.hid (bel0 (Below.refl _ _) (HC1.out.trans c2) (Nat.le_refl _))
          clear c2
          go_wp2_with fail
          go_ret
          exact ⟨rfl, c3.out⟩
        · have h3 : q ≤ 2 * (m : Int) := by omega
          clear hg
          go_wp2_with fail
          refine (alive33 _).mono ?_
          rintro e w2 ⟨rfl, c2⟩
          have c3 := Lib.hid (bel0 (Below.refl _ _) (HC1.out.trans c2) (Nat.le_refl _))
          clear c2
          go_wp2_with fail
          go_ret
          exact ⟨rfl, c3.out⟩
    · have h1 : ¬ q < 1 := by omega
      have h2 : ¬ (n : Int) + (m : Int) < q := by omega
      have h3 : ¬ q ≤ 2 * (m : Int) := by omega
      have hnp : 0 < n := by omega
      clear hg
      obtain ⟨bl, off, rfl, hbl, hcell⟩ := HI.out.cell hnp
      obtain ⟨x0, hx0⟩ : ∃ x, zs[0]? = some x := ⟨_, List.getElem?_eq_getElem (by rw [← HN.out]; exact hnp)⟩
      have e0 := c1.keep (hcell 0 x0 hx0) (fun h => h)
      simp only [Nat.add_zero] at e0
      have HC := Lib.hid hcell
      clear hcell hx0
      go_wp2_with fail
      go_quiet (fail)
      go_wp2_with fail
      obtain ⟨wD, hwD⟩ : ∃ wD, wD = w1.drewN nq := ⟨_, rfl⟩
      rw [← hwD]
      have c2 : Chg (fun _ => False) w wD := by rw [hwD]; exact c1.drewN nq
      clear c1 hwD e0
      go_loopw [53, 9, 10] (fun i lo hi wr => QLInv zs x0 n wD i lo hi wr) (fun i _ _ _ => n - (intOf i).toNat)
      case atStart => exact ⟨0, x0, x0, by omega, rfl, rfl, rfl, min_one x0, max_one x0, rfl⟩
      case round =>
        obtain ⟨t, l, h, ht, rfl, rfl, rfl, hlo, hhi, rfl⟩ := hrel
        by_cases hlt : t < n
        · obtain ⟨y, hy⟩ : ∃ y, zs[t]? = some y := ⟨_, List.getElem?_eq_getElem (by rw [← HN.out]; exact hlt)⟩
          have e1 := c2.keep (HC.out t y hy) (fun h => h)
          have hyt : x0 :: zs.take (t + 1) = (x0 :: zs.take t) ++ [y] := by rw [List.take_add_one, hy]; rfl
          have htn : (t : Int) < (n : Int) := by omega
          have HY := Lib.hid hyt
          have HLO := Lib.hid hlo
          have HHI := Lib.hid hhi
          clear hy hyt hlo hhi
          go_wp2_with fail
          go_roundw
          case rel => exact ⟨t + 1, _, _, by omega, by go_num, rfl, rfl, by rw [HY.out]; exact min_step HLO.out _, by rw [HY.out]; exact max_step HHI.out _, rfl⟩
          case measure => simp [intOf]; omega
        · obtain rfl : t = n := by omega
          have hzt : zs.take t = zs := List.take_of_length_le (by have := HN.out; omega)
          rw [hzt] at hlo hhi
          have HLO := Lib.hid hlo
          have HHI := Lib.hid hhi
          clear hlo hhi hzt
          have hk1a := c2.size
          have hzl : zs.length ≤ 100 := by have := HN.out; omega
          have hll : ls.length ≤ 100 := by have := HM.out; omega
          cases a2 with
          | none =>
            obtain ⟨rfl, rfl⟩ := HNIL.out rfl
            have hls : ls = [] := List.eq_nil_of_length_eq_zero HM.out.symm
            have HLS := Lib.hid hls
            clear hls
            go_wp2_with (at_builtin; refine wpList_app_any (by rfl) (.tmp 68) (.tmp 69) 49 (by rfl) 2 i0 _ 1 8 Try.underlying49 hi hz0 hz1 hz2 rfl (by omega) _ wr.heap.size [] (by rfl) (owns_empty _ _ _) ⟨bl, off, none⟩ (zs.map fun z => [Value.int .i64 z]) t cap (by rfl) (by rw [List.length_map]; exact HN.out) ?_ (enc_each _ _) (enc_one _ _) (by simp; omega) (by simp [maxLen]; omega) ?_)
            · intro j u hu; rw [← Addr.add_lit]; exact (HI.out.reads.chg (c2.alloc _) (fun _ _ h => h)).flat (enc_each _ _) j u hu
            · intro kZ capZ wZ hoZ hcZ hkZ
              rw [← HN.out] at hoZ ⊢
              have c7 := (c2.alloc (Obj.cells #[] 2)).trans' hcZ (fun i hi e => by omega)
              obtain ⟨capq, hvq, hl5, hc5⟩ := hoZ.some_form
              rw [List.length_map, ← HN.out] at hl5 hvq
              simp only [Value.slice.injEq] at hvq
              obtain ⟨-, -, rfl⟩ := hvq
              have hc5 : capZ ≤ 9223372036854775807 := by simpa [maxLen] using hc5
              have HO : Hid (Reads wZ 1 (some ⟨kZ, 0, none⟩) ((ls ++ zs).map fun z => [Value.int .i64 z])) := Lib.hid (by rw [HLS.out, List.nil_append]; exact hoZ.reads)
              clear hcZ c2 hkZ hoZ
              go_wp2_with fail
              refine (votes35' (some ⟨kZ, 0, none⟩) (t) capZ (ls ++ zs) _ (by rw [List.length_append, ← HN.out, ← HM.out]; try omega) hl5 hc5 HO.out (by omega)).mono ?_
              rintro e w6 ⟨a6, cap6, rfl, k1, k2, hv, c8⟩
              have HV := Lib.hid hv
              have c9 := c7.trans c8
              clear hv c7 c8 HO hl5 hc5
              go_wp2_with fail
              refine (choose34' q a6 (t) cap6 (ls ++ zs) _ k1 k2 HV.out (by omega)).mono ?_
              rintro e w7 ⟨rfl, c10⟩
              rw [show chOf q (ls ++ zs) = (medOf (ls ++ zs), 0) by
                unfold chOf
                rw [if_neg (by omega), if_neg (by rw [List.length_append, ← HN.out, ← HM.out]; omega)]]
              rw [med_perm (List.perm_append_comm (l₁ := ls) (l₂ := zs))]
              obtain ⟨d1, d2⟩ := med_between (honest := zs) (lies := ls) (by rw [← HN.out, ← HM.out]; omega) (fun x hx => HLO.out.2 x (List.mem_cons_of_mem _ hx)) (fun x hx => HHI.out.2 x (List.mem_cons_of_mem _ hx))
              have c11 := Lib.hid (bel0 (Below.refl _ _) (c9.trans c10) (Nat.le_refl _))
              clear c9 c10 HV k1 k2
              generalize medOf (zs ++ ls) = md at d1 d2 ⊢
              go_wp2_with fail
              go_ret
              exact ⟨rfl, c11.out⟩
          | some ad2 =>
            go_wp2_with (at_builtin; refine wpList_app_any (by rfl) (.tmp 66) (.tmp 67) 49 (by rfl) 2 i0 _ 1 8 Try.underlying49 hi hz0 hz1 hz2 rfl (by omega) _ wr.heap.size [] (by rfl) (owns_empty _ _ _) ad2 (ls.map fun z => [Value.int .i64 z]) m cap2 (by rfl) (by rw [List.length_map]; exact HM.out) ?_ (enc_each _ _) (enc_one _ _) (by simp; omega) (by simp [maxLen]; omega) ?_)
            · exact (HLI.out.reads.chg (c2.alloc _) (fun _ _ h => h)).flat (enc_each _ _)
            · intro kY capY wY hoY hcY hkY
              rw [← HM.out] at hoY ⊢
              have hkYw : w.heap.size ≤ kY := by
                rcases hkY with h | h
                · rw [← h]; exact hk1a
                · omega
              have c4 := (c2.alloc (Obj.cells #[] 2)).trans' hcY (fun i hi e => by omega)
              clear hcY hkY c2
              go_wp2_with (at_builtin; refine wpList_app_any (by rfl) (.tmp 68) (.tmp 69) 49 (by rfl) 2 i0 _ 1 8 Try.underlying49 hi hz0 hz1 hz2 rfl (by omega) _ kY (ls.map fun z => [Value.int .i64 z]) (by rfl) hoY ⟨bl, off, none⟩ (zs.map fun z => [Value.int .i64 z]) t cap (by rfl) (by rw [List.length_map]; exact HN.out) ?_ (enc_each _ _) (enc_one _ _) (by simp; omega) (by simp [maxLen]; omega) ?_)
              · exact (HI.out.reads.chg c4 (fun _ _ h => h)).flat (enc_each _ _)
              · intro kZ capZ wZ hoZ hcZ hkZ
                rw [← HN.out, ← HM.out, ← List.map_append] at hoZ
                rw [← HN.out, ← HM.out]
                have c7 := c4.trans' hcZ (fun i hi e => by omega)
                obtain ⟨capq, hvq, hl5, hc5⟩ := hoZ.some_form
                rw [List.length_map, List.length_append, ← HN.out, ← HM.out] at hl5 hvq
                simp only [Value.slice.injEq] at hvq
                obtain ⟨-, -, rfl⟩ := hvq
                have hc5 : capZ ≤ 9223372036854775807 := by simpa [maxLen] using hc5
                have HO := Lib.hid hoZ.reads
                clear hcZ c4 hkZ hoZ hoY
                go_wp2_with fail
                refine (votes35' (some ⟨kZ, 0, none⟩) (m + t) capZ (ls ++ zs) _ (by rw [List.length_append, ← HN.out, ← HM.out]; try omega) hl5 hc5 HO.out (by omega)).mono ?_
                rintro e w6 ⟨a6, cap6, rfl, k1, k2, hv, c8⟩
                have HV := Lib.hid hv
                have c9 := c7.trans c8
                clear hv c7 c8 HO hl5 hc5
                go_wp2_with fail
                refine (choose34' q a6 (m + t) cap6 (ls ++ zs) _ k1 k2 HV.out (by omega)).mono ?_
                rintro e w7 ⟨rfl, c10⟩
                rw [show chOf q (ls ++ zs) = (medOf (ls ++ zs), 0) by
                  unfold chOf
                  rw [if_neg (by omega), if_neg (by rw [List.length_append, ← HN.out, ← HM.out]; omega)]]
                rw [med_perm (List.perm_append_comm (l₁ := ls) (l₂ := zs))]
                obtain ⟨d1, d2⟩ := med_between (honest := zs) (lies := ls) (by rw [← HN.out, ← HM.out]; omega) (fun x hx => HLO.out.2 x (List.mem_cons_of_mem _ hx)) (fun x hx => HHI.out.2 x (List.mem_cons_of_mem _ hx))
                have c11 := Lib.hid (bel0 (Below.refl _ _) (c9.trans c10) (Nat.le_refl _))
                clear c9 c10 HV k1 k2
                generalize medOf (zs ++ ls) = md at d1 d2 ⊢
                go_wp2_with fail
                go_ret
                exact ⟨rfl, c11.out⟩

theorem quorumLies_all (a a2 : Option Addr) (n cap m cap2 : Nat) (els els2 : List (List Value)) (q : Int) (w : World) (hI : FlatIn [.int .i64] w a n cap els) (hS : FlatIn [.int .i64] w a2 m cap2 els2) (hq : (Lit.int .u8 q).wf = true) :
    Calls Try.prog 12 #[.slice a n cap, .slice a2 m cap2, .int .u8 q] w fun e w' => e = .returned (.bool true) ∧ Below w.heap.size w w' := by
  obtain ⟨zs, h⟩ := ints_in hI
  obtain ⟨ls, h2⟩ := ints_in hS
  exact quorumLies_walk a a2 n cap m cap2 zs ls q w h h2 hq
end Go.Proofs.Ytnfnonphccnbkaa
