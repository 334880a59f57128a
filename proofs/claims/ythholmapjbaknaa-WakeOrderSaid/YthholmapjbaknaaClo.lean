/- What Due hands to slices.SortFunc, at two types of keys: contracts. -/
import Derived.Test.YthholmapjbaknaaQue
import Derived.Test.YthholmapjbaknaaShelf
set_option linter.unusedVariables false
set_option linter.unusedSectionVars false
namespace Go.Chron
open Go Go.RowKit
/-- New blocks alone; some draws. -/
def Laid (w w' : World) : Prop := ∃ q os, w' = Sort.grow (w.drewN q) os
theorem Laid.refl (w : World) : Laid w w := ⟨0, #[], by rw [Sort.grow_empty]; rfl⟩
theorem Laid.drew {w w' : World} (h : Laid w w') : Laid w w'.drew := by
  obtain ⟨q, os, rfl⟩ := h
  exact ⟨q + 1, os, rfl⟩
theorem Laid.alloc {w w' : World} (h : Laid w w') (o : Obj) : Laid w (w'.alloc o) := by
  obtain ⟨q, os, rfl⟩ := h
  exact ⟨q, _, by rw [Sort.alloc_eq_grow, Sort.grow_grow]⟩
theorem Laid.setCell {w w' : World} (h : Laid w w') {i j : Nat} (hi : w.heap.size ≤ i) (v : Value) : Laid w (w'.setCell ⟨i, j, none⟩ v) := by
  obtain ⟨q, os, rfl⟩ := h
  exact ⟨q, _, by rw [Sort.setCell_eq, Sort.mapBlock_grow_new (w.drewN q) os i _ hi]⟩
theorem Laid.size {w w' : World} (h : Laid w w') : w.heap.size ≤ w'.heap.size := by
  obtain ⟨q, os, rfl⟩ := h
  rw [Sort.size_grow]; exact Nat.le_add_right _ _
theorem Laid.chg {w w' : World} (h : Laid w w') : Chg (fun _ => False) w w' := by
  have hs := h.size
  obtain ⟨q, os, rfl⟩ := h
  exact ⟨rfl, rfl, rfl, hs, fun k hk _ => by rw [Sort.heap_grow_old _ _ (by exact hk)]; rfl⟩
theorem Laid.trans {w w' w'' : World} (h : Laid w w') (k : Laid w' w'') : Laid w w'' := by
  obtain ⟨q, os, rfl⟩ := h
  obtain ⟨q', os', rfl⟩ := k
  refine ⟨q + q', os ++ os', ?_⟩
  unfold Sort.grow World.drewN
  simp [Array.append_assoc, Nat.add_assoc]
/-- The comparison: by when it is due, else by when it was set. -/
def dueC {κ : Type} (x y : Ent κ) : Int := if Lib.compareInt x.d y.d ≠ 0 then Lib.compareInt x.d y.d else Lib.compareInt x.s y.s
end Go.Chron
namespace Go.Proofs.Ythholmapjbaknaa
open Go.RowKit Go.Chron

set_option maxRecDepth 100000 in
set_option maxHeartbeats 1600000 in
theorem or30 (i : Nat) (x y : Int) (w : World) (h : Blk w i 3 #[.int .i64 x, .int .i64 y]) :
    Calls Try.prog 30 #[.slice (some ⟨i, 0, none⟩) 2 2] w fun e w' => e = .returned (.int .i64 (if x ≠ 0 then x else y)) ∧ w = w' := by
  have c0 := h.cell 0
  have c1 := h.cell 1
  simp at c0 c1
  clear h
  obtain ⟨r, hr⟩ : ∃ r, r = if x ≠ 0 then x else y := ⟨_, rfl⟩
  rw [← hr]
  have HR := Lib.hid hr
  clear hr
  go_enter Try.func30, Try.ntmps30
  go_wp2_with fail
  go_loopw [5, 8] (fun v5 v8 wr => w = wr ∧ ∃ j : Nat, v8 = .int .i64 j ∧ j ≤ 2 ∧ (1 ≤ j → x = 0) ∧ (2 ≤ j → y = 0)) (fun _ v8 _ => 2 - (match v8 with | .int _ k => k.toNat | _ => 0))
  case atStart => exact ⟨rfl, 0, rfl, by omega, by omega, by omega⟩
  case round =>
    obtain ⟨rfl, j, rfl, hj, h1, h2⟩ := hrel
    rcases (by omega : j = 0 ∨ j = 1 ∨ j = 2) with rfl | rfl | rfl
    · clear h1 h2
      by_cases hx : x = 0
      · subst hx
        go_wp2_with fail
        go_roundw
        case rel => exact ⟨by trivial, 1, by go_num, by omega, by simp, by omega⟩
        case measure => simp
      · go_wp2_with fail
        go_ret
        exact ⟨by rw [HR.out, if_pos hx]; rfl, rfl⟩
    · have hx := Lib.hid (h1 (by omega))
      clear h1 h2
      by_cases hy : y = 0
      · subst hy
        go_wp2_with fail
        go_roundw
        case rel => exact ⟨by trivial, 2, by go_num, by omega, fun _ => hx.out, by simp⟩
        case measure => simp
      · go_wp2_with fail
        go_ret
        exact ⟨by rw [HR.out, if_neg (by simpa using hx.out)]; rfl, rfl⟩
    · have hx := Lib.hid (h1 (by omega))
      have hy := Lib.hid (h2 (by omega))
      clear h1 h2
      go_wp2_with fail
      go_ret
      exact ⟨by rw [HR.out, if_neg (by simpa using hx.out), hy.out]; rfl, rfl⟩

theorem lookI {b m n : Nat} {L : List (Ent (Int))} {w : World} (h : QI w b m n L) {e : Ent (Int)} (he : e ∈ L) : (Instr.lookup 56 (.map (some m)) ((Value.int .i64) e.k) false).run Try.prog w = .ok (.agg #[.int .i64 e.d, .int .i64 e.s]) w := by
  obtain ⟨D, hD, hQ⟩ := h.own
  obtain ⟨v, ps, hrun, hv⟩ := hD.lookup lawI Try.underlying56 (zero60 w) (oneR_mk 0 0) (keyI (h.ok e he).2)
  rw [hQ.at_ e he] at hv
  obtain ⟨c, rfl, hc⟩ := oneR_inv hv
  have := oneD_inj (congrArg Prod.fst hc)
  rw [this.1, this.2]
  exact hrun

set_option maxRecDepth 100000 in
set_option maxHeartbeats 6400000 in
theorem cloI (qb b m n : Nat) (L : List (Ent (Int))) (ex ey : Ent (Int)) (hx : ex ∈ L) (hy : ey ∈ L) (w : World) (h : QI w b m n L) (hq : w.cell? ⟨qb, 0, none⟩ = some (.pointer (some ⟨b, 0, none⟩))) :
    Calls Try.prog 29 #[Value.int .i64 ex.k, Value.int .i64 ey.k, .pointer (some ⟨qb, 0, none⟩)] w fun e w' => e = .returned (.int .i64 (dueC ex ey)) ∧ Laid w w' := by
  have KP : ∀ w', Laid w w' → (fun w' => w'.cell? ⟨qb, 0, none⟩ = some (.pointer (some ⟨b, 0, none⟩)) ∧ w'.cell? ⟨b, 0, none⟩ = some (.map (some m)) ∧ (Instr.lookup 56 (.map (some m)) (Value.int .i64 ex.k) false).run Try.prog w' = .ok (.agg #[.int .i64 ex.d, .int .i64 ex.s]) w' ∧ (Instr.lookup 56 (.map (some m)) (Value.int .i64 ey.k) false).run Try.prog w' = .ok (.agg #[.int .i64 ey.d, .int .i64 ey.s]) w') w' := fun w' hl => by
    have h' := h.chg0 hl.chg
    exact ⟨hl.chg.keep hq (fun h => h), by simpa using h'.box.cell 0, lookI h' hx, lookI h' hy⟩
  have KP := Lib.hid KP
  clear h hq hx hy
  obtain ⟨u, hu⟩ : ∃ u, u = Lib.compareInt ex.d ey.d := ⟨_, rfl⟩
  obtain ⟨v, hv⟩ : ∃ v, v = Lib.compareInt ex.s ey.s := ⟨_, rfl⟩
  have HU := Lib.hid (And.intro hu hv)
  have F31 : ∀ W : World, Calls Try.prog 31 #[.int .i64 ex.d, .int .i64 ey.d] W fun e w' => e = .returned (.int .i64 u) ∧ w' = W := fun W => by rw [hu]; exact Try.cmp_Compare_int_f31 _ _ _
  have F32 : ∀ W : World, Calls Try.prog 32 #[.int .i64 ex.s, .int .i64 ey.s] W fun e w' => e = .returned (.int .i64 v) ∧ w' = W := fun W => by rw [hv]; exact Try.cmp_Compare_int_f32 _ _ _
  have HF31 := Lib.hid F31
  have HF32 := Lib.hid F32
  obtain ⟨z, hz⟩ : ∃ z, z = dueC ex ey := ⟨_, rfl⟩
  rw [← hz]
  have F30 : ∀ (i : Nat) (W : World), Blk W i 3 #[.int .i64 u, .int .i64 v] → Calls Try.prog 30 #[.slice (some ⟨i, 0, none⟩) 2 2] W fun e w' => e = .returned (.int .i64 z) ∧ W = w' := fun i W hb => by rw [hu, hv] at hb; rw [hz]; exact or30 i _ _ W hb
  have HF30 := Lib.hid F30
  clear F30 F31 F32 hu hv hz HU
  go_enter Try.func29, Try.ntmps29
  go_wp2_with fail
  refine wp_region_noPanic ?_
  refine wp_region_held_drew (S := (fun w' => w'.cell? ⟨qb, 0, none⟩ = some (.pointer (some ⟨b, 0, none⟩)) ∧ w'.cell? ⟨b, 0, none⟩ = some (.map (some m)) ∧ (Instr.lookup 56 (.map (some m)) (Value.int .i64 ex.k) false).run Try.prog w' = .ok (.agg #[.int .i64 ex.d, .int .i64 ex.s]) w' ∧ (Instr.lookup 56 (.map (some m)) (Value.int .i64 ey.k) false).run Try.prog w' = .ok (.agg #[.int .i64 ey.d, .int .i64 ey.s]) w')) (by kernel_rfl) (KP.out _ (Laid.drew (Laid.refl _))) (fun hHeld => ?_)
  refine wpAnyH_take (i := 0) (oi := ⟨some 8, _, _, _, _, _⟩) (v := .pointer (some ⟨b, 0, none⟩)) rfl (by kernel_rfl) (by kernel_rfl) (by kernel_rfl) (fun _ _ _ h => h) (Or.inl ⟨by rfl, fun w hSw => by (try dsimp only at hSw); go_simp⟩) hHeld ?_
  try simp only [Act.put, List.setIfInBounds_toArray, List.set_cons_zero, List.set_cons_succ]
  refine wpAnyH_take (i := 1) (oi := ⟨some 9, _, _, _, _, _⟩) (v := .pointer (some ⟨b, 0, none⟩)) rfl (by kernel_rfl) (by kernel_rfl) (by kernel_rfl) (fun _ _ _ h => h) (Or.inl ⟨by rfl, fun w hSw => by (try dsimp only at hSw); go_simp⟩) hHeld ?_
  try simp only [Act.put, List.setIfInBounds_toArray, List.set_cons_zero, List.set_cons_succ]
  refine wpAnyH_take (i := 2) (oi := ⟨some 10, _, _, _, _, _⟩) (v := .pointer (some ⟨b, 0, none⟩)) rfl (by kernel_rfl) (by kernel_rfl) (by kernel_rfl) (fun _ _ _ h => h) (Or.inl ⟨by rfl, fun w hSw => by (try dsimp only at hSw); go_simp⟩) hHeld ?_
  try simp only [Act.put, List.setIfInBounds_toArray, List.set_cons_zero, List.set_cons_succ]
  refine wpAnyH_take (i := 3) (oi := ⟨some 11, _, _, _, _, _⟩) (v := .map (some m)) rfl (by kernel_rfl) (by kernel_rfl) (by kernel_rfl) (fun _ _ _ h => h) (Or.inl ⟨by rfl, fun w hSw => by (try dsimp only at hSw); go_simp⟩) hHeld ?_
  try simp only [Act.put, List.setIfInBounds_toArray, List.set_cons_zero, List.set_cons_succ]
  refine wpAnyH_take (i := 4) (oi := ⟨some 12, _, _, _, _, _⟩) (v := Value.int .i64 ex.k) rfl (by kernel_rfl) (by kernel_rfl) (by kernel_rfl) (fun _ _ _ h => h) (Or.inl ⟨by rfl, fun w hSw => by (try dsimp only at hSw); go_simp⟩) hHeld ?_
  try simp only [Act.put, List.setIfInBounds_toArray, List.set_cons_zero, List.set_cons_succ]
  refine wpAnyH_take (i := 5) (oi := ⟨some 13, _, _, _, _, _⟩) (v := .agg #[.int .i64 ex.d, .int .i64 ex.s]) rfl (by kernel_rfl) (by kernel_rfl) (by kernel_rfl) (fun _ _ _ h => h) (Or.inl ⟨by rfl, fun w hSw => by (try dsimp only at hSw); go_simp⟩) hHeld ?_
  try simp only [Act.put, List.setIfInBounds_toArray, List.set_cons_zero, List.set_cons_succ]
  refine wpAnyH_take (i := 6) (oi := ⟨some 14, _, _, _, _, _⟩) (v := .pointer (some ⟨b, 0, none⟩)) rfl (by kernel_rfl) (by kernel_rfl) (by kernel_rfl) (fun _ _ _ h => h) (Or.inl ⟨by rfl, fun w hSw => by (try dsimp only at hSw); go_simp⟩) hHeld ?_
  try simp only [Act.put, List.setIfInBounds_toArray, List.set_cons_zero, List.set_cons_succ]
  refine wpAnyH_take (i := 7) (oi := ⟨some 15, _, _, _, _, _⟩) (v := .pointer (some ⟨b, 0, none⟩)) rfl (by kernel_rfl) (by kernel_rfl) (by kernel_rfl) (fun _ _ _ h => h) (Or.inl ⟨by rfl, fun w hSw => by (try dsimp only at hSw); go_simp⟩) hHeld ?_
  try simp only [Act.put, List.setIfInBounds_toArray, List.set_cons_zero, List.set_cons_succ]
  refine wpAnyH_take (i := 8) (oi := ⟨some 16, _, _, _, _, _⟩) (v := .pointer (some ⟨b, 0, none⟩)) rfl (by kernel_rfl) (by kernel_rfl) (by kernel_rfl) (fun _ _ _ h => h) (Or.inl ⟨by rfl, fun w hSw => by (try dsimp only at hSw); go_simp⟩) hHeld ?_
  try simp only [Act.put, List.setIfInBounds_toArray, List.set_cons_zero, List.set_cons_succ]
  refine wpAnyH_take (i := 9) (oi := ⟨some 17, _, _, _, _, _⟩) (v := .map (some m)) rfl (by kernel_rfl) (by kernel_rfl) (by kernel_rfl) (fun _ _ _ h => h) (Or.inl ⟨by rfl, fun w hSw => by (try dsimp only at hSw); go_simp⟩) hHeld ?_
  try simp only [Act.put, List.setIfInBounds_toArray, List.set_cons_zero, List.set_cons_succ]
  refine wpAnyH_take (i := 10) (oi := ⟨some 18, _, _, _, _, _⟩) (v := Value.int .i64 ey.k) rfl (by kernel_rfl) (by kernel_rfl) (by kernel_rfl) (fun _ _ _ h => h) (Or.inl ⟨by rfl, fun w hSw => by (try dsimp only at hSw); go_simp⟩) hHeld ?_
  try simp only [Act.put, List.setIfInBounds_toArray, List.set_cons_zero, List.set_cons_succ]
  refine wpAnyH_take (i := 11) (oi := ⟨some 19, _, _, _, _, _⟩) (v := .agg #[.int .i64 ey.d, .int .i64 ey.s]) rfl (by kernel_rfl) (by kernel_rfl) (by kernel_rfl) (fun _ _ _ h => h) (Or.inl ⟨by rfl, fun w hSw => by (try dsimp only at hSw); go_simp⟩) hHeld ?_
  try simp only [Act.put, List.setIfInBounds_toArray, List.set_cons_zero, List.set_cons_succ]
  refine wpAnyH_ready (rs := [12, 13]) (by kernel_rfl) (by simp) ?_
  refine AllReadyH.cons rfl (fun KK hKK => ?_) (AllReadyH.cons rfl (fun KK hKK => ?_) (AllReadyH.nil))
  · go_simp
    refine hKK.out _ _ (KP.out _ (by repeat (first | exact Laid.refl _ | apply Laid.alloc | apply Laid.drew | refine Laid.setCell ?_ (by simp <;> omega) _))) (fun hHeld => ?_)
    clear hKK KK
    try simp only [Act.put, List.setIfInBounds_toArray, List.set_cons_zero, List.set_cons_succ]
    refine wpAnyH_ready (rs := [13]) (by kernel_rfl) (by simp) ?_
    refine AllReadyH.cons rfl (fun KK hKK => ?_) (AllReadyH.nil)
    · go_simp
      refine hKK.out _ _ (KP.out _ (by repeat (first | exact Laid.refl _ | apply Laid.alloc | apply Laid.drew | refine Laid.setCell ?_ (by simp <;> omega) _))) (fun hHeld => ?_)
      clear hKK KK
      try simp only [Act.put, List.setIfInBounds_toArray, List.set_cons_zero, List.set_cons_succ]
      refine wpAnyH_ready (rs := [14]) (by kernel_rfl) (by simp) ?_
      refine AllReadyH.cons rfl (fun KK hKK => ?_) (AllReadyH.nil)
      · go_simp
        refine hKK.out _ _ (KP.out _ (by repeat (first | exact Laid.refl _ | apply Laid.alloc | apply Laid.drew | refine Laid.setCell ?_ (by simp <;> omega) _))) (fun hHeld => ?_)
        clear hKK KK
        try simp only [Act.put, List.setIfInBounds_toArray, List.set_cons_zero, List.set_cons_succ]
        refine wpAnyH_ready (rs := [15]) (by kernel_rfl) (by simp) ?_
        refine AllReadyH.cons rfl (fun KK hKK => ?_) (AllReadyH.nil)
        · go_simp
          refine hKK.out _ _ (KP.out _ (by repeat (first | exact Laid.refl _ | apply Laid.alloc | apply Laid.drew | refine Laid.setCell ?_ (by simp <;> omega) _))) (fun hHeld => ?_)
          clear hKK KK
          try simp only [Act.put, List.setIfInBounds_toArray, List.set_cons_zero, List.set_cons_succ]
          refine wpAnyH_done (by kernel_rfl) ?_ _
          refine NoPanic.normal ?_
          clear hHeld
          have b1 := (Blk.new w 60 #[Value.int .i64 ex.d, Value.int .i64 ex.s]).alloc (Obj.cells #[Value.int IntKind.i64 ey.d, Value.int IntKind.i64 ey.s] 60) |>.drew
          have b2 := (Blk.new (w.alloc (Obj.cells #[Value.int .i64 ex.d, Value.int .i64 ex.s] 60)) 60 #[Value.int .i64 ey.d, Value.int .i64 ey.s]).drew
          rw [World.size_alloc] at b2
          have HL := Lib.hid ((((Laid.refl w).alloc (Obj.cells #[Value.int IntKind.i64 ex.d, Value.int IntKind.i64 ex.s] 60)).alloc (Obj.cells #[Value.int IntKind.i64 ey.d, Value.int IntKind.i64 ey.s] 60)).drew)
          generalize ((w.alloc (Obj.cells #[Value.int IntKind.i64 ex.d, Value.int IntKind.i64 ex.s] 60)).alloc (Obj.cells #[Value.int IntKind.i64 ey.d, Value.int IntKind.i64 ey.s] 60)).drew = W2 at *
          generalize w.heap.size = i1 at *
          generalize i1 + 1 = i2 at *
          have KQ : ∀ w', Laid W2 w' → (fun w' => w'.cell? ⟨i1, 0, none⟩ = some (.int .i64 ex.d) ∧ w'.cell? ⟨i1, 1, none⟩ = some (.int .i64 ex.s) ∧ w'.cell? ⟨i2, 0, none⟩ = some (.int .i64 ey.d) ∧ w'.cell? ⟨i2, 1, none⟩ = some (.int .i64 ey.s)) w' := fun w' hl => by
            have h1 := b1.chg hl.chg (fun h => h)
            have h2 := b2.chg hl.chg (fun h => h)
            exact ⟨by simpa using h1.cell 0, by simpa using h1.cell 1, by simpa using h2.cell 0, by simpa using h2.cell 1⟩
          have HQ := Lib.hid KQ
          clear KQ b1 b2 KP
          go_wp2_with fail
          go_region_held3 (fun w' => w'.cell? ⟨i1, 0, none⟩ = some (.int .i64 ex.d) ∧ w'.cell? ⟨i1, 1, none⟩ = some (.int .i64 ex.s) ∧ w'.cell? ⟨i2, 0, none⟩ = some (.int .i64 ey.d) ∧ w'.cell? ⟨i2, 1, none⟩ = some (.int .i64 ey.s)) (refine HQ.out _ ?_ <;> (repeat (first | exact Laid.refl _ | apply Laid.alloc | apply Laid.drew))) (first | (go_at_call 31; refine (HF31.out _).mono ?_; rintro e w' ⟨rfl, rfl⟩) | (go_at_call 32; refine (HF32.out _).mono ?_; rintro e w' ⟨rfl, rfl⟩) | (go_at_call 30; refine (HF30.out _ _ (Blk.new W2 3 #[.int .i64 u, .int .i64 v]).drew).mono ?_; rintro e w' ⟨rfl, rfl⟩))
          all_goals (go_wp2_with fail; go_ret; exact ⟨rfl, HL.out.trans (((Laid.refl _).alloc _).drew)⟩)
  · go_simp
    refine hKK.out _ _ (KP.out _ (by repeat (first | exact Laid.refl _ | apply Laid.alloc | apply Laid.drew | refine Laid.setCell ?_ (by simp <;> omega) _))) (fun hHeld => ?_)
    clear hKK KK
    try simp only [Act.put, List.setIfInBounds_toArray, List.set_cons_zero, List.set_cons_succ]
    refine wpAnyH_ready (rs := [12]) (by kernel_rfl) (by simp) ?_
    refine AllReadyH.cons rfl (fun KK hKK => ?_) (AllReadyH.nil)
    · go_simp
      refine hKK.out _ _ (KP.out _ (by repeat (first | exact Laid.refl _ | apply Laid.alloc | apply Laid.drew | refine Laid.setCell ?_ (by simp <;> omega) _))) (fun hHeld => ?_)
      clear hKK KK
      try simp only [Act.put, List.setIfInBounds_toArray, List.set_cons_zero, List.set_cons_succ]
      refine wpAnyH_ready (rs := [14]) (by kernel_rfl) (by simp) ?_
      refine AllReadyH.cons rfl (fun KK hKK => ?_) (AllReadyH.nil)
      · go_simp
        refine hKK.out _ _ (KP.out _ (by repeat (first | exact Laid.refl _ | apply Laid.alloc | apply Laid.drew | refine Laid.setCell ?_ (by simp <;> omega) _))) (fun hHeld => ?_)
        clear hKK KK
        try simp only [Act.put, List.setIfInBounds_toArray, List.set_cons_zero, List.set_cons_succ]
        refine wpAnyH_ready (rs := [15]) (by kernel_rfl) (by simp) ?_
        refine AllReadyH.cons rfl (fun KK hKK => ?_) (AllReadyH.nil)
        · go_simp
          refine hKK.out _ _ (KP.out _ (by repeat (first | exact Laid.refl _ | apply Laid.alloc | apply Laid.drew | refine Laid.setCell ?_ (by simp <;> omega) _))) (fun hHeld => ?_)
          clear hKK KK
          try simp only [Act.put, List.setIfInBounds_toArray, List.set_cons_zero, List.set_cons_succ]
          refine wpAnyH_done (by kernel_rfl) ?_ _
          refine NoPanic.normal ?_
          clear hHeld
          have b1 := (Blk.new w 60 #[Value.int .i64 ey.d, Value.int .i64 ey.s]).alloc (Obj.cells #[Value.int IntKind.i64 ex.d, Value.int IntKind.i64 ex.s] 60) |>.drew
          have b2 := (Blk.new (w.alloc (Obj.cells #[Value.int .i64 ey.d, Value.int .i64 ey.s] 60)) 60 #[Value.int .i64 ex.d, Value.int .i64 ex.s]).drew
          rw [World.size_alloc] at b2
          have HL := Lib.hid ((((Laid.refl w).alloc (Obj.cells #[Value.int IntKind.i64 ey.d, Value.int IntKind.i64 ey.s] 60)).alloc (Obj.cells #[Value.int IntKind.i64 ex.d, Value.int IntKind.i64 ex.s] 60)).drew)
          generalize ((w.alloc (Obj.cells #[Value.int IntKind.i64 ey.d, Value.int IntKind.i64 ey.s] 60)).alloc (Obj.cells #[Value.int IntKind.i64 ex.d, Value.int IntKind.i64 ex.s] 60)).drew = W2 at *
          generalize w.heap.size = i1 at *
          generalize i1 + 1 = i2 at *
          have KQ : ∀ w', Laid W2 w' → (fun w' => w'.cell? ⟨i1, 0, none⟩ = some (.int .i64 ey.d) ∧ w'.cell? ⟨i1, 1, none⟩ = some (.int .i64 ey.s) ∧ w'.cell? ⟨i2, 0, none⟩ = some (.int .i64 ex.d) ∧ w'.cell? ⟨i2, 1, none⟩ = some (.int .i64 ex.s)) w' := fun w' hl => by
            have h1 := b1.chg hl.chg (fun h => h)
            have h2 := b2.chg hl.chg (fun h => h)
            exact ⟨by simpa using h1.cell 0, by simpa using h1.cell 1, by simpa using h2.cell 0, by simpa using h2.cell 1⟩
          have HQ := Lib.hid KQ
          clear KQ b1 b2 KP
          go_wp2_with fail
          go_region_held3 (fun w' => w'.cell? ⟨i1, 0, none⟩ = some (.int .i64 ey.d) ∧ w'.cell? ⟨i1, 1, none⟩ = some (.int .i64 ey.s) ∧ w'.cell? ⟨i2, 0, none⟩ = some (.int .i64 ex.d) ∧ w'.cell? ⟨i2, 1, none⟩ = some (.int .i64 ex.s)) (refine HQ.out _ ?_ <;> (repeat (first | exact Laid.refl _ | apply Laid.alloc | apply Laid.drew))) (first | (go_at_call 31; refine (HF31.out _).mono ?_; rintro e w' ⟨rfl, rfl⟩) | (go_at_call 32; refine (HF32.out _).mono ?_; rintro e w' ⟨rfl, rfl⟩) | (go_at_call 30; refine (HF30.out _ _ (Blk.new W2 3 #[.int .i64 u, .int .i64 v]).drew).mono ?_; rintro e w' ⟨rfl, rfl⟩))
          all_goals (go_wp2_with fail; go_ret; exact ⟨rfl, HL.out.trans (((Laid.refl _).alloc _).drew)⟩)

theorem lookS {b m n : Nat} {L : List (Ent (List UInt8))} {w : World} (h : QS w b m n L) {e : Ent (List UInt8)} (he : e ∈ L) : (Instr.lookup 65 (.map (some m)) (encStr e.k) false).run Try.prog w = .ok (.agg #[.int .i64 e.d, .int .i64 e.s]) w := by
  obtain ⟨D, hD, hQ⟩ := h.own
  obtain ⟨v, ps, hrun, hv⟩ := hD.lookup lawS Try.underlying65 (zero60 w) (oneR_mk 0 0) (keyS (h.ok e he).2)
  rw [hQ.at_ e he] at hv
  obtain ⟨c, rfl, hc⟩ := oneR_inv hv
  have := oneD_inj (congrArg Prod.fst hc)
  rw [this.1, this.2]
  exact hrun

set_option maxRecDepth 100000 in
set_option maxHeartbeats 6400000 in
theorem cloS (qb b m n : Nat) (L : List (Ent (List UInt8))) (ex ey : Ent (List UInt8)) (hx : ex ∈ L) (hy : ey ∈ L) (w : World) (h : QS w b m n L) (hq : w.cell? ⟨qb, 0, none⟩ = some (.pointer (some ⟨b, 0, none⟩))) :
    Calls Try.prog 34 #[encStr ex.k, encStr ey.k, .pointer (some ⟨qb, 0, none⟩)] w fun e w' => e = .returned (.int .i64 (dueC ex ey)) ∧ Laid w w' := by
  have KP : ∀ w', Laid w w' → (fun w' => w'.cell? ⟨qb, 0, none⟩ = some (.pointer (some ⟨b, 0, none⟩)) ∧ w'.cell? ⟨b, 0, none⟩ = some (.map (some m)) ∧ (Instr.lookup 65 (.map (some m)) (encStr ex.k) false).run Try.prog w' = .ok (.agg #[.int .i64 ex.d, .int .i64 ex.s]) w' ∧ (Instr.lookup 65 (.map (some m)) (encStr ey.k) false).run Try.prog w' = .ok (.agg #[.int .i64 ey.d, .int .i64 ey.s]) w') w' := fun w' hl => by
    have h' := h.chg0 hl.chg
    exact ⟨hl.chg.keep hq (fun h => h), by simpa using h'.box.cell 0, lookS h' hx, lookS h' hy⟩
  have KP := Lib.hid KP
  clear h hq hx hy
  obtain ⟨u, hu⟩ : ∃ u, u = Lib.compareInt ex.d ey.d := ⟨_, rfl⟩
  obtain ⟨v, hv⟩ : ∃ v, v = Lib.compareInt ex.s ey.s := ⟨_, rfl⟩
  have HU := Lib.hid (And.intro hu hv)
  have F31 : ∀ W : World, Calls Try.prog 31 #[.int .i64 ex.d, .int .i64 ey.d] W fun e w' => e = .returned (.int .i64 u) ∧ w' = W := fun W => by rw [hu]; exact Try.cmp_Compare_int_f31 _ _ _
  have F32 : ∀ W : World, Calls Try.prog 32 #[.int .i64 ex.s, .int .i64 ey.s] W fun e w' => e = .returned (.int .i64 v) ∧ w' = W := fun W => by rw [hv]; exact Try.cmp_Compare_int_f32 _ _ _
  have HF31 := Lib.hid F31
  have HF32 := Lib.hid F32
  obtain ⟨z, hz⟩ : ∃ z, z = dueC ex ey := ⟨_, rfl⟩
  rw [← hz]
  have F30 : ∀ (i : Nat) (W : World), Blk W i 3 #[.int .i64 u, .int .i64 v] → Calls Try.prog 30 #[.slice (some ⟨i, 0, none⟩) 2 2] W fun e w' => e = .returned (.int .i64 z) ∧ W = w' := fun i W hb => by rw [hu, hv] at hb; rw [hz]; exact or30 i _ _ W hb
  have HF30 := Lib.hid F30
  clear F30 F31 F32 hu hv hz HU
  go_enter Try.func34, Try.ntmps34
  go_wp2_with fail
  refine wp_region_noPanic ?_
  refine wp_region_held_drew (S := (fun w' => w'.cell? ⟨qb, 0, none⟩ = some (.pointer (some ⟨b, 0, none⟩)) ∧ w'.cell? ⟨b, 0, none⟩ = some (.map (some m)) ∧ (Instr.lookup 65 (.map (some m)) (encStr ex.k) false).run Try.prog w' = .ok (.agg #[.int .i64 ex.d, .int .i64 ex.s]) w' ∧ (Instr.lookup 65 (.map (some m)) (encStr ey.k) false).run Try.prog w' = .ok (.agg #[.int .i64 ey.d, .int .i64 ey.s]) w')) (by kernel_rfl) (KP.out _ (Laid.drew (Laid.refl _))) (fun hHeld => ?_)
  refine wpAnyH_take (i := 0) (oi := ⟨some 8, _, _, _, _, _⟩) (v := .pointer (some ⟨b, 0, none⟩)) rfl (by kernel_rfl) (by kernel_rfl) (by kernel_rfl) (fun _ _ _ h => h) (Or.inl ⟨by rfl, fun w hSw => by (try dsimp only at hSw); go_simp⟩) hHeld ?_
  try simp only [Act.put, List.setIfInBounds_toArray, List.set_cons_zero, List.set_cons_succ]
  refine wpAnyH_take (i := 1) (oi := ⟨some 9, _, _, _, _, _⟩) (v := .pointer (some ⟨b, 0, none⟩)) rfl (by kernel_rfl) (by kernel_rfl) (by kernel_rfl) (fun _ _ _ h => h) (Or.inl ⟨by rfl, fun w hSw => by (try dsimp only at hSw); go_simp⟩) hHeld ?_
  try simp only [Act.put, List.setIfInBounds_toArray, List.set_cons_zero, List.set_cons_succ]
  refine wpAnyH_take (i := 2) (oi := ⟨some 10, _, _, _, _, _⟩) (v := .pointer (some ⟨b, 0, none⟩)) rfl (by kernel_rfl) (by kernel_rfl) (by kernel_rfl) (fun _ _ _ h => h) (Or.inl ⟨by rfl, fun w hSw => by (try dsimp only at hSw); go_simp⟩) hHeld ?_
  try simp only [Act.put, List.setIfInBounds_toArray, List.set_cons_zero, List.set_cons_succ]
  refine wpAnyH_take (i := 3) (oi := ⟨some 11, _, _, _, _, _⟩) (v := .map (some m)) rfl (by kernel_rfl) (by kernel_rfl) (by kernel_rfl) (fun _ _ _ h => h) (Or.inl ⟨by rfl, fun w hSw => by (try dsimp only at hSw); go_simp⟩) hHeld ?_
  try simp only [Act.put, List.setIfInBounds_toArray, List.set_cons_zero, List.set_cons_succ]
  refine wpAnyH_take (i := 4) (oi := ⟨some 12, _, _, _, _, _⟩) (v := encStr ex.k) rfl (by kernel_rfl) (by kernel_rfl) (by kernel_rfl) (fun _ _ _ h => h) (Or.inl ⟨by rfl, fun w hSw => by (try dsimp only at hSw); go_simp⟩) hHeld ?_
  try simp only [Act.put, List.setIfInBounds_toArray, List.set_cons_zero, List.set_cons_succ]
  refine wpAnyH_take (i := 5) (oi := ⟨some 13, _, _, _, _, _⟩) (v := .agg #[.int .i64 ex.d, .int .i64 ex.s]) rfl (by kernel_rfl) (by kernel_rfl) (by kernel_rfl) (fun _ _ _ h => h) (Or.inl ⟨by rfl, fun w hSw => by (try dsimp only at hSw); go_simp⟩) hHeld ?_
  try simp only [Act.put, List.setIfInBounds_toArray, List.set_cons_zero, List.set_cons_succ]
  refine wpAnyH_take (i := 6) (oi := ⟨some 14, _, _, _, _, _⟩) (v := .pointer (some ⟨b, 0, none⟩)) rfl (by kernel_rfl) (by kernel_rfl) (by kernel_rfl) (fun _ _ _ h => h) (Or.inl ⟨by rfl, fun w hSw => by (try dsimp only at hSw); go_simp⟩) hHeld ?_
  try simp only [Act.put, List.setIfInBounds_toArray, List.set_cons_zero, List.set_cons_succ]
  refine wpAnyH_take (i := 7) (oi := ⟨some 15, _, _, _, _, _⟩) (v := .pointer (some ⟨b, 0, none⟩)) rfl (by kernel_rfl) (by kernel_rfl) (by kernel_rfl) (fun _ _ _ h => h) (Or.inl ⟨by rfl, fun w hSw => by (try dsimp only at hSw); go_simp⟩) hHeld ?_
  try simp only [Act.put, List.setIfInBounds_toArray, List.set_cons_zero, List.set_cons_succ]
  refine wpAnyH_take (i := 8) (oi := ⟨some 16, _, _, _, _, _⟩) (v := .pointer (some ⟨b, 0, none⟩)) rfl (by kernel_rfl) (by kernel_rfl) (by kernel_rfl) (fun _ _ _ h => h) (Or.inl ⟨by rfl, fun w hSw => by (try dsimp only at hSw); go_simp⟩) hHeld ?_
  try simp only [Act.put, List.setIfInBounds_toArray, List.set_cons_zero, List.set_cons_succ]
  refine wpAnyH_take (i := 9) (oi := ⟨some 17, _, _, _, _, _⟩) (v := .map (some m)) rfl (by kernel_rfl) (by kernel_rfl) (by kernel_rfl) (fun _ _ _ h => h) (Or.inl ⟨by rfl, fun w hSw => by (try dsimp only at hSw); go_simp⟩) hHeld ?_
  try simp only [Act.put, List.setIfInBounds_toArray, List.set_cons_zero, List.set_cons_succ]
  refine wpAnyH_take (i := 10) (oi := ⟨some 18, _, _, _, _, _⟩) (v := encStr ey.k) rfl (by kernel_rfl) (by kernel_rfl) (by kernel_rfl) (fun _ _ _ h => h) (Or.inl ⟨by rfl, fun w hSw => by (try dsimp only at hSw); go_simp⟩) hHeld ?_
  try simp only [Act.put, List.setIfInBounds_toArray, List.set_cons_zero, List.set_cons_succ]
  refine wpAnyH_take (i := 11) (oi := ⟨some 19, _, _, _, _, _⟩) (v := .agg #[.int .i64 ey.d, .int .i64 ey.s]) rfl (by kernel_rfl) (by kernel_rfl) (by kernel_rfl) (fun _ _ _ h => h) (Or.inl ⟨by rfl, fun w hSw => by (try dsimp only at hSw); go_simp⟩) hHeld ?_
  try simp only [Act.put, List.setIfInBounds_toArray, List.set_cons_zero, List.set_cons_succ]
  refine wpAnyH_ready (rs := [12, 13]) (by kernel_rfl) (by simp) ?_
  refine AllReadyH.cons rfl (fun KK hKK => ?_) (AllReadyH.cons rfl (fun KK hKK => ?_) (AllReadyH.nil))
  · go_simp
    refine hKK.out _ _ (KP.out _ (by repeat (first | exact Laid.refl _ | apply Laid.alloc | apply Laid.drew | refine Laid.setCell ?_ (by simp <;> omega) _))) (fun hHeld => ?_)
    clear hKK KK
    try simp only [Act.put, List.setIfInBounds_toArray, List.set_cons_zero, List.set_cons_succ]
    refine wpAnyH_ready (rs := [13]) (by kernel_rfl) (by simp) ?_
    refine AllReadyH.cons rfl (fun KK hKK => ?_) (AllReadyH.nil)
    · go_simp
      refine hKK.out _ _ (KP.out _ (by repeat (first | exact Laid.refl _ | apply Laid.alloc | apply Laid.drew | refine Laid.setCell ?_ (by simp <;> omega) _))) (fun hHeld => ?_)
      clear hKK KK
      try simp only [Act.put, List.setIfInBounds_toArray, List.set_cons_zero, List.set_cons_succ]
      refine wpAnyH_ready (rs := [14]) (by kernel_rfl) (by simp) ?_
      refine AllReadyH.cons rfl (fun KK hKK => ?_) (AllReadyH.nil)
      · go_simp
        refine hKK.out _ _ (KP.out _ (by repeat (first | exact Laid.refl _ | apply Laid.alloc | apply Laid.drew | refine Laid.setCell ?_ (by simp <;> omega) _))) (fun hHeld => ?_)
        clear hKK KK
        try simp only [Act.put, List.setIfInBounds_toArray, List.set_cons_zero, List.set_cons_succ]
        refine wpAnyH_ready (rs := [15]) (by kernel_rfl) (by simp) ?_
        refine AllReadyH.cons rfl (fun KK hKK => ?_) (AllReadyH.nil)
        · go_simp
          refine hKK.out _ _ (KP.out _ (by repeat (first | exact Laid.refl _ | apply Laid.alloc | apply Laid.drew | refine Laid.setCell ?_ (by simp <;> omega) _))) (fun hHeld => ?_)
          clear hKK KK
          try simp only [Act.put, List.setIfInBounds_toArray, List.set_cons_zero, List.set_cons_succ]
          refine wpAnyH_done (by kernel_rfl) ?_ _
          refine NoPanic.normal ?_
          clear hHeld
          have b1 := (Blk.new w 60 #[Value.int .i64 ex.d, Value.int .i64 ex.s]).alloc (Obj.cells #[Value.int IntKind.i64 ey.d, Value.int IntKind.i64 ey.s] 60) |>.drew
          have b2 := (Blk.new (w.alloc (Obj.cells #[Value.int .i64 ex.d, Value.int .i64 ex.s] 60)) 60 #[Value.int .i64 ey.d, Value.int .i64 ey.s]).drew
          rw [World.size_alloc] at b2
          have HL := Lib.hid ((((Laid.refl w).alloc (Obj.cells #[Value.int IntKind.i64 ex.d, Value.int IntKind.i64 ex.s] 60)).alloc (Obj.cells #[Value.int IntKind.i64 ey.d, Value.int IntKind.i64 ey.s] 60)).drew)
          generalize ((w.alloc (Obj.cells #[Value.int IntKind.i64 ex.d, Value.int IntKind.i64 ex.s] 60)).alloc (Obj.cells #[Value.int IntKind.i64 ey.d, Value.int IntKind.i64 ey.s] 60)).drew = W2 at *
          generalize w.heap.size = i1 at *
          generalize i1 + 1 = i2 at *
          have KQ : ∀ w', Laid W2 w' → (fun w' => w'.cell? ⟨i1, 0, none⟩ = some (.int .i64 ex.d) ∧ w'.cell? ⟨i1, 1, none⟩ = some (.int .i64 ex.s) ∧ w'.cell? ⟨i2, 0, none⟩ = some (.int .i64 ey.d) ∧ w'.cell? ⟨i2, 1, none⟩ = some (.int .i64 ey.s)) w' := fun w' hl => by
            have h1 := b1.chg hl.chg (fun h => h)
            have h2 := b2.chg hl.chg (fun h => h)
            exact ⟨by simpa using h1.cell 0, by simpa using h1.cell 1, by simpa using h2.cell 0, by simpa using h2.cell 1⟩
          have HQ := Lib.hid KQ
          clear KQ b1 b2 KP
          go_wp2_with fail
          go_region_held3 (fun w' => w'.cell? ⟨i1, 0, none⟩ = some (.int .i64 ex.d) ∧ w'.cell? ⟨i1, 1, none⟩ = some (.int .i64 ex.s) ∧ w'.cell? ⟨i2, 0, none⟩ = some (.int .i64 ey.d) ∧ w'.cell? ⟨i2, 1, none⟩ = some (.int .i64 ey.s)) (refine HQ.out _ ?_ <;> (repeat (first | exact Laid.refl _ | apply Laid.alloc | apply Laid.drew))) (first | (go_at_call 31; refine (HF31.out _).mono ?_; rintro e w' ⟨rfl, rfl⟩) | (go_at_call 32; refine (HF32.out _).mono ?_; rintro e w' ⟨rfl, rfl⟩) | (go_at_call 30; refine (HF30.out _ _ (Blk.new W2 3 #[.int .i64 u, .int .i64 v]).drew).mono ?_; rintro e w' ⟨rfl, rfl⟩))
          all_goals (go_wp2_with fail; go_ret; exact ⟨rfl, HL.out.trans (((Laid.refl _).alloc _).drew)⟩)
  · go_simp
    refine hKK.out _ _ (KP.out _ (by repeat (first | exact Laid.refl _ | apply Laid.alloc | apply Laid.drew | refine Laid.setCell ?_ (by simp <;> omega) _))) (fun hHeld => ?_)
    clear hKK KK
    try simp only [Act.put, List.setIfInBounds_toArray, List.set_cons_zero, List.set_cons_succ]
    refine wpAnyH_ready (rs := [12]) (by kernel_rfl) (by simp) ?_
    refine AllReadyH.cons rfl (fun KK hKK => ?_) (AllReadyH.nil)
    · go_simp
      refine hKK.out _ _ (KP.out _ (by repeat (first | exact Laid.refl _ | apply Laid.alloc | apply Laid.drew | refine Laid.setCell ?_ (by simp <;> omega) _))) (fun hHeld => ?_)
      clear hKK KK
      try simp only [Act.put, List.setIfInBounds_toArray, List.set_cons_zero, List.set_cons_succ]
      refine wpAnyH_ready (rs := [14]) (by kernel_rfl) (by simp) ?_
      refine AllReadyH.cons rfl (fun KK hKK => ?_) (AllReadyH.nil)
      · go_simp
        refine hKK.out _ _ (KP.out _ (by repeat (first | exact Laid.refl _ | apply Laid.alloc | apply Laid.drew | refine Laid.setCell ?_ (by simp <;> omega) _))) (fun hHeld => ?_)
        clear hKK KK
        try simp only [Act.put, List.setIfInBounds_toArray, List.set_cons_zero, List.set_cons_succ]
        refine wpAnyH_ready (rs := [15]) (by kernel_rfl) (by simp) ?_
        refine AllReadyH.cons rfl (fun KK hKK => ?_) (AllReadyH.nil)
        · go_simp
          refine hKK.out _ _ (KP.out _ (by repeat (first | exact Laid.refl _ | apply Laid.alloc | apply Laid.drew | refine Laid.setCell ?_ (by simp <;> omega) _))) (fun hHeld => ?_)
          clear hKK KK
          try simp only [Act.put, List.setIfInBounds_toArray, List.set_cons_zero, List.set_cons_succ]
          refine wpAnyH_done (by kernel_rfl) ?_ _
          refine NoPanic.normal ?_
          clear hHeld
          have b1 := (Blk.new w 60 #[Value.int .i64 ey.d, Value.int .i64 ey.s]).alloc (Obj.cells #[Value.int IntKind.i64 ex.d, Value.int IntKind.i64 ex.s] 60) |>.drew
          have b2 := (Blk.new (w.alloc (Obj.cells #[Value.int .i64 ey.d, Value.int .i64 ey.s] 60)) 60 #[Value.int .i64 ex.d, Value.int .i64 ex.s]).drew
          rw [World.size_alloc] at b2
          have HL := Lib.hid ((((Laid.refl w).alloc (Obj.cells #[Value.int IntKind.i64 ey.d, Value.int IntKind.i64 ey.s] 60)).alloc (Obj.cells #[Value.int IntKind.i64 ex.d, Value.int IntKind.i64 ex.s] 60)).drew)
          generalize ((w.alloc (Obj.cells #[Value.int IntKind.i64 ey.d, Value.int IntKind.i64 ey.s] 60)).alloc (Obj.cells #[Value.int IntKind.i64 ex.d, Value.int IntKind.i64 ex.s] 60)).drew = W2 at *
          generalize w.heap.size = i1 at *
          generalize i1 + 1 = i2 at *
          have KQ : ∀ w', Laid W2 w' → (fun w' => w'.cell? ⟨i1, 0, none⟩ = some (.int .i64 ey.d) ∧ w'.cell? ⟨i1, 1, none⟩ = some (.int .i64 ey.s) ∧ w'.cell? ⟨i2, 0, none⟩ = some (.int .i64 ex.d) ∧ w'.cell? ⟨i2, 1, none⟩ = some (.int .i64 ex.s)) w' := fun w' hl => by
            have h1 := b1.chg hl.chg (fun h => h)
            have h2 := b2.chg hl.chg (fun h => h)
            exact ⟨by simpa using h1.cell 0, by simpa using h1.cell 1, by simpa using h2.cell 0, by simpa using h2.cell 1⟩
          have HQ := Lib.hid KQ
          clear KQ b1 b2 KP
          go_wp2_with fail
          go_region_held3 (fun w' => w'.cell? ⟨i1, 0, none⟩ = some (.int .i64 ey.d) ∧ w'.cell? ⟨i1, 1, none⟩ = some (.int .i64 ey.s) ∧ w'.cell? ⟨i2, 0, none⟩ = some (.int .i64 ex.d) ∧ w'.cell? ⟨i2, 1, none⟩ = some (.int .i64 ex.s)) (refine HQ.out _ ?_ <;> (repeat (first | exact Laid.refl _ | apply Laid.alloc | apply Laid.drew))) (first | (go_at_call 31; refine (HF31.out _).mono ?_; rintro e w' ⟨rfl, rfl⟩) | (go_at_call 32; refine (HF32.out _).mono ?_; rintro e w' ⟨rfl, rfl⟩) | (go_at_call 30; refine (HF30.out _ _ (Blk.new W2 3 #[.int .i64 u, .int .i64 v]).drew).mono ?_; rintro e w' ⟨rfl, rfl⟩))
          all_goals (go_wp2_with fail; go_ret; exact ⟨rfl, HL.out.trans (((Laid.refl _).alloc _).drew)⟩)
end Go.Proofs.Ythholmapjbaknaa
