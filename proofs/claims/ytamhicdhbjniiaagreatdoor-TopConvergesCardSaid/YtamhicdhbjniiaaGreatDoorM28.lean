/- conf.words: contract. -/
import Derived.Test.YtamhicdhbjniiaaGreatDoorM27
set_option linter.unusedVariables false
set_option maxHeartbeats 4000000
set_option maxRecDepth 100000
namespace Go.Proofs.YtamhicdhbjniiaaGreatDoor
section
open Go Go.RowKit Go.Chron
def wact (cb pc : Nat) (x : Nat → Value) : Act := ⟨#[.pointer (some ⟨cb, 0, none⟩), .pointer (some ⟨pc, 0, none⟩), x 2, .func (.func 118) #[] #[], .func (.func 120) #[] #[.pointer (some ⟨pc, 0, none⟩)], .func (.func 120) #[] #[.pointer (some ⟨pc, 0, none⟩)], x 6, .func (.func 120) #[] #[.pointer (some ⟨pc, 0, none⟩)], .agg #[.int .i64 1, .bool true, .bool false, .func (.func 120) #[] #[.pointer (some ⟨pc, 0, none⟩)]], x 9, .func (.func 118) #[] #[], .pointer (some ⟨cb, 0, none⟩), .pointer (some ⟨cb, 0, none⟩), .pointer (some ⟨cb, 1, none⟩), x 14, x 15, .func (.func 118) #[] #[], .pointer (some ⟨cb, 0, none⟩), .pointer (some ⟨cb, 0, none⟩), .pointer (some ⟨cb, 2, none⟩), .pointer (some ⟨cb, 0, none⟩), .pointer (some ⟨cb, 0, none⟩), .pointer (some ⟨cb, 3, none⟩), x 23, x 24, .func (.func 118) #[] #[], .pointer (some ⟨cb, 0, none⟩), .pointer (some ⟨cb, 0, none⟩), .pointer (some ⟨cb, 4, none⟩), x 29, x 30, .func (.func 118) #[] #[], .pointer (some ⟨cb, 0, none⟩), .pointer (some ⟨cb, 0, none⟩), .pointer (some ⟨cb, 5, none⟩), x 35, x 36, x 37], []⟩
theorem getD_upd {l : Array Bool} {i : Nat} (hi : i < l.size) : (fun j => (l.setIfInBounds i true).getD j false) = updL (fun j => l.getD j false) i := by
 funext j
 unfold updL
 by_cases h : j = i
 ·subst h
  rw [if_pos rfl]
  simp [hi]
 ·rw [if_neg h]
  exact getD_set_ne false (fun e => h e.symm)
def wx0 (j : Nat) : Value := if j = 2 then .map none else undef
theorem words83 (cb : Nat) (w : World) (hb : Blk w cb 29 #[.slice none 0 0, .int .i64 0, .int .i64 0, .int .i64 0, .int .i64 0, .int .i64 0]) :
  Calls Tryz.prog 83 #[.pointer (some ⟨cb, 0, none⟩)] w fun e w' => ∃ m n C, e = .returned (.map (some m)) ∧ CAt w' C ps0 ∧ MAt w' m n C ∧ C.cb = cb ∧ Chg (fun _ => False) w w' ∧ (∀ i, CBk C i → i = cb ∨ w.heap.size ≤ i) ∧ w.heap.size ≤ m ∧ ¬ CBk C m := by
 have HB := Lib.hid hb
 clear hb
 go_enter Tryz.func83, Tryz.ntmps83
 go_upto_region 3 with (fail)
 have hpc := (Blk.new w 164 #[.pointer (some ⟨cb, 0, none⟩)])
 have c1 := chg0_alloc w (Obj.cells #[.pointer (some ⟨cb, 0, none⟩)] 164)
 have hs1 : (w.alloc (Obj.cells #[.pointer (some ⟨cb, 0, none⟩)] 164)).heap.size = w.heap.size + 1 := by simp
 generalize w.alloc (Obj.cells #[.pointer (some ⟨cb, 0, none⟩)] 164) = W1 at *
 obtain ⟨pc, hpe⟩ : ∃ pc, pc = w.heap.size := ⟨_, rfl⟩
 rw [← hpe] at hpc hs1 ⊢
 have HPC := Lib.hid hpc
 have HP := Lib.hid (And.intro hpe (And.intro c1 hs1))
 have hcell : ∀ W, Chg (fun _ => False) W1 W → W.cell? ⟨pc, 0, none⟩ = some (.pointer (some ⟨cb, 0, none⟩)) := fun W c => by simpa using (HPC.out.chg c id).cell 0
 have HCL := Lib.hid hcell
 clear hpc c1 hpe hs1 hcell
 refine wp_region_noPanic ?_
 refine wp_region_held_drew (S := (fun w' => w'.cell? ⟨pc, 0, none⟩ = some (.pointer (some ⟨cb, 0, none⟩)))) (by kernel_rfl) (HCL.out _ (Chg.drew (Chg.refl _ _))) (fun hHeld => ?_)
 refine wpAnyH_take (i := 1) (oi := ⟨some 7, _, _, _, _, _⟩) (v := .func (.func 120) #[] #[.pointer (some ⟨pc, 0, none⟩)]) rfl (by kernel_rfl) (by kernel_rfl) (by kernel_rfl) (fun _ _ _ h => h) (Or.inl ⟨by rfl, fun w hSw => by (try dsimp only at hSw); go_simp⟩) hHeld ?_
 try simp only [Act.put, qA, qB, qC]
 refine wpAnyH_take (i := 2) (oi := ⟨some 8, _, _, _, _, _⟩) (v := .agg #[.int .i64 1, .bool true, .bool false, .func (.func 120) #[] #[.pointer (some ⟨pc, 0, none⟩)]]) rfl (by kernel_rfl) (by kernel_rfl) (by kernel_rfl) (fun _ _ _ h => h) (Or.inl ⟨by rfl, fun w hSw => by (try dsimp only at hSw); go_simp⟩) hHeld ?_
 try simp only [Act.put, qA, qB, qC]
 refine wpAnyH_take (i := 5) (oi := ⟨some 10, _, _, _, _, _⟩) (v := .func (.func 118) #[] #[]) rfl (by kernel_rfl) (by kernel_rfl) (by kernel_rfl) (fun _ _ _ h => h) (Or.inl ⟨by rfl, fun w hSw => by (try dsimp only at hSw); go_simp⟩) hHeld ?_
 try simp only [Act.put, qA, qB, qC]
 refine wpAnyH_take (i := 6) (oi := ⟨some 11, _, _, _, _, _⟩) (v := .pointer (some ⟨cb, 0, none⟩)) rfl (by kernel_rfl) (by kernel_rfl) (by kernel_rfl) (fun _ _ _ h => h) (Or.inl ⟨by rfl, fun w hSw => by (try dsimp only at hSw); go_simp⟩) hHeld ?_
 try simp only [Act.put, qA, qB, qC]
 refine wpAnyH_take (i := 7) (oi := ⟨some 12, _, _, _, _, _⟩) (v := .pointer (some ⟨cb, 0, none⟩)) rfl (by kernel_rfl) (by kernel_rfl) (by kernel_rfl) (fun _ _ _ h => h) (Or.inl ⟨by rfl, fun w hSw => by (try dsimp only at hSw); go_simp⟩) hHeld ?_
 try simp only [Act.put, qA, qB, qC]
 refine wpAnyH_take (i := 8) (oi := ⟨some 13, _, _, _, _, _⟩) (v := .pointer (some ⟨cb, 1, none⟩)) rfl (by kernel_rfl) (by kernel_rfl) (by kernel_rfl) (fun _ _ _ h => h) (Or.inl ⟨by rfl, fun w hSw => by (try dsimp only at hSw); go_simp⟩) hHeld ?_
 try simp only [Act.put, qA, qB, qC]
 refine wpAnyH_take (i := 12) (oi := ⟨some 16, _, _, _, _, _⟩) (v := .func (.func 118) #[] #[]) rfl (by kernel_rfl) (by kernel_rfl) (by kernel_rfl) (fun _ _ _ h => h) (Or.inl ⟨by rfl, fun w hSw => by (try dsimp only at hSw); go_simp⟩) hHeld ?_
 try simp only [Act.put, qA, qB, qC]
 refine wpAnyH_take (i := 13) (oi := ⟨some 17, _, _, _, _, _⟩) (v := .pointer (some ⟨cb, 0, none⟩)) rfl (by kernel_rfl) (by kernel_rfl) (by kernel_rfl) (fun _ _ _ h => h) (Or.inl ⟨by rfl, fun w hSw => by (try dsimp only at hSw); go_simp⟩) hHeld ?_
 try simp only [Act.put, qA, qB, qC]
 refine wpAnyH_take (i := 14) (oi := ⟨some 18, _, _, _, _, _⟩) (v := .pointer (some ⟨cb, 0, none⟩)) rfl (by kernel_rfl) (by kernel_rfl) (by kernel_rfl) (fun _ _ _ h => h) (Or.inl ⟨by rfl, fun w hSw => by (try dsimp only at hSw); go_simp⟩) hHeld ?_
 try simp only [Act.put, qA, qB, qC]
 refine wpAnyH_take (i := 15) (oi := ⟨some 19, _, _, _, _, _⟩) (v := .pointer (some ⟨cb, 2, none⟩)) rfl (by kernel_rfl) (by kernel_rfl) (by kernel_rfl) (fun _ _ _ h => h) (Or.inl ⟨by rfl, fun w hSw => by (try dsimp only at hSw); go_simp⟩) hHeld ?_
 try simp only [Act.put, qA, qB, qC]
 refine wpAnyH_take (i := 16) (oi := ⟨some 20, _, _, _, _, _⟩) (v := .pointer (some ⟨cb, 0, none⟩)) rfl (by kernel_rfl) (by kernel_rfl) (by kernel_rfl) (fun _ _ _ h => h) (Or.inl ⟨by rfl, fun w hSw => by (try dsimp only at hSw); go_simp⟩) hHeld ?_
 try simp only [Act.put, qA, qB, qC]
 refine wpAnyH_take (i := 17) (oi := ⟨some 21, _, _, _, _, _⟩) (v := .pointer (some ⟨cb, 0, none⟩)) rfl (by kernel_rfl) (by kernel_rfl) (by kernel_rfl) (fun _ _ _ h => h) (Or.inl ⟨by rfl, fun w hSw => by (try dsimp only at hSw); go_simp⟩) hHeld ?_
 try simp only [Act.put, qA, qB, qC]
 refine wpAnyH_take (i := 18) (oi := ⟨some 22, _, _, _, _, _⟩) (v := .pointer (some ⟨cb, 3, none⟩)) rfl (by kernel_rfl) (by kernel_rfl) (by kernel_rfl) (fun _ _ _ h => h) (Or.inl ⟨by rfl, fun w hSw => by (try dsimp only at hSw); go_simp⟩) hHeld ?_
 try simp only [Act.put, qA, qB, qC]
 refine wpAnyH_take (i := 22) (oi := ⟨some 25, _, _, _, _, _⟩) (v := .func (.func 118) #[] #[]) rfl (by kernel_rfl) (by kernel_rfl) (by kernel_rfl) (fun _ _ _ h => h) (Or.inl ⟨by rfl, fun w hSw => by (try dsimp only at hSw); go_simp⟩) hHeld ?_
 try simp only [Act.put, qA, qB, qC]
 refine wpAnyH_take (i := 23) (oi := ⟨some 26, _, _, _, _, _⟩) (v := .pointer (some ⟨cb, 0, none⟩)) rfl (by kernel_rfl) (by kernel_rfl) (by kernel_rfl) (fun _ _ _ h => h) (Or.inl ⟨by rfl, fun w hSw => by (try dsimp only at hSw); go_simp⟩) hHeld ?_
 try simp only [Act.put, qA, qB, qC]
 refine wpAnyH_take (i := 24) (oi := ⟨some 27, _, _, _, _, _⟩) (v := .pointer (some ⟨cb, 0, none⟩)) rfl (by kernel_rfl) (by kernel_rfl) (by kernel_rfl) (fun _ _ _ h => h) (Or.inl ⟨by rfl, fun w hSw => by (try dsimp only at hSw); go_simp⟩) hHeld ?_
 try simp only [Act.put, qA, qB, qC]
 refine wpAnyH_take (i := 25) (oi := ⟨some 28, _, _, _, _, _⟩) (v := .pointer (some ⟨cb, 4, none⟩)) rfl (by kernel_rfl) (by kernel_rfl) (by kernel_rfl) (fun _ _ _ h => h) (Or.inl ⟨by rfl, fun w hSw => by (try dsimp only at hSw); go_simp⟩) hHeld ?_
 try simp only [Act.put, qA, qB, qC]
 refine wpAnyH_take (i := 29) (oi := ⟨some 31, _, _, _, _, _⟩) (v := .func (.func 118) #[] #[]) rfl (by kernel_rfl) (by kernel_rfl) (by kernel_rfl) (fun _ _ _ h => h) (Or.inl ⟨by rfl, fun w hSw => by (try dsimp only at hSw); go_simp⟩) hHeld ?_
 try simp only [Act.put, qA, qB, qC]
 refine wpAnyH_take (i := 30) (oi := ⟨some 32, _, _, _, _, _⟩) (v := .pointer (some ⟨cb, 0, none⟩)) rfl (by kernel_rfl) (by kernel_rfl) (by kernel_rfl) (fun _ _ _ h => h) (Or.inl ⟨by rfl, fun w hSw => by (try dsimp only at hSw); go_simp⟩) hHeld ?_
 try simp only [Act.put, qA, qB, qC]
 refine wpAnyH_take (i := 31) (oi := ⟨some 33, _, _, _, _, _⟩) (v := .pointer (some ⟨cb, 0, none⟩)) rfl (by kernel_rfl) (by kernel_rfl) (by kernel_rfl) (fun _ _ _ h => h) (Or.inl ⟨by rfl, fun w hSw => by (try dsimp only at hSw); go_simp⟩) hHeld ?_
 try simp only [Act.put, qA, qB, qC]
 refine wpAnyH_take (i := 32) (oi := ⟨some 34, _, _, _, _, _⟩) (v := .pointer (some ⟨cb, 5, none⟩)) rfl (by kernel_rfl) (by kernel_rfl) (by kernel_rfl) (fun _ _ _ h => h) (Or.inl ⟨by rfl, fun w hSw => by (try dsimp only at hSw); go_simp⟩) hHeld ?_
 try simp only [Act.put, qA, qB, qC]
 have HI0 : ∀ L : Nat → Bool, (∀ i, i < 38 → L i = !(mvs.contains i)) → WdInv (pc + 1) W1.drew cb pc L 17 wx0 W1.drew ⟨cb, pc, fun _ => 0, fun _ => 0, fun _ => 0, none, 0, none⟩ 0 0 (.map []) := by
  intro L hL
  have nb : ∀ k, k < 5 → 1 ≤ k → L (bsO k) = false := fun k hk h1 => by
   rw [hL _ (by revert k; decide)]; revert k; decide
  have nc : ∀ k, k < 5 → L (clO k) = false := fun k hk => by
   rw [hL _ (by revert k; decide)]; revert k; decide
  have ni : ∀ k, k < 5 → L (inO k) = false := fun k hk => by
   rw [hL _ (by revert k; decide)]; revert k; decide
  have n0 : L 0 = false := hL 0 (by omega)
  have n36 : L 36 = false := hL 36 (by omega)
  have n37 : L 37 = false := hL 37 (by omega)
  exact {
   tk := fun i hi hn => by rw [hL i hi]; simp [hn]
   ch := Chg.refl _ _
   c0 := ⟨rfl, rfl, rfl, rfl, rfl⟩
   s0 := fun h => by rw [n0] at h; cases h
   s36 := fun h => by rw [n36] at h; cases h
   s37 := fun h => by rw [n37] at h; cases h
   d36 := fun h => by rw [n36] at h; cases h
   d37 := fun h => by rw [n37] at h; cases h
   sb := fun k hk h1 h => by rw [nb k hk h1] at h; cases h
   sc := fun k hk h => by rw [nc k hk] at h; cases h
   ws := fun k hk h => by rw [nc k hk] at h; cases h
   ls := fun k hk h1 h => by rw [nc k hk] at h; cases h
   rs := fun k hk h1 h => by rw [nb k hk h1] at h; cases h
   mp := fun h => by rw [n0] at h; cases h
   at_ := fun h => by rw [n0] at h; cases h
   no := fun h => by rw [n0] at h; cases h
   nf := by omega
   dis := fun i j hi hj h => by rw [nc i hi] at h; cases h
   cbk := fun k hk h1 h => by rw [nc k hk] at h; cases h
   ibk := fun k hk h => by rw [ni k hk] at h; cases h }
 refine wpAnyH_steps (I := fun f l a w => ∃ x C m n D, a = wact cb pc x ∧ WdInv (pc + 1) W1.drew cb pc (fun j => l.getD j false) f x w C m n D) (depOk_spec (by kernel_rfl)) ?_ ?_ _ _ _ _ (by kernel_rfl) (by decide +kernel) ⟨wx0, ⟨cb, pc, fun _ => 0, fun _ => 0, fun _ => 0, none, 0, none⟩, 0, 0, .map [], rfl, HI0 _ (by decide +kernel)⟩
 ·intro f l a w' i hI hls hi hun hdep
  obtain ⟨x, C, m, n, D, rfl, h⟩ := hI
  have hi38 : i < l.size := by rw [hls]; exact hi
  have hmv : i ∈ mvs := Classical.byContradiction fun hn => by
   have := h.tk i hi hn
   rw [this] at hun
   cases hun
  have hB : pc + 1 ≤ w'.heap.size := by have h1 := h.ch.size; have h2 : W1.drew.heap.size = W1.heap.size := rfl; have h3 := HP.out.2.2; omega
  have hB0 : ∀ i, i < W1.drew.heap.size → i < pc + 1 := fun i hi => by have h2 : W1.drew.heap.size = W1.heap.size := rfl; have h3 := HP.out.2.2; omega
  have HH := Lib.hid h
  have HUN := Lib.hid hun
  have HUP := Lib.hid (getD_upd hi38)
  have HUB := Lib.hid hB
  have hfin : ∀ (W : World) (L' : Nat → Bool) (x' : Nat → Value) (C' : CB) (m' n' : Nat) (D' : DataW Unit), WdInv (pc + 1) W1.drew cb pc L' f x' W C' m' n' D' → (fun j => (l.setIfInBounds i true).getD j false) = L' → W.cell? ⟨pc, 0, none⟩ = some (.pointer (some ⟨cb, 0, none⟩)) ∧ ∃ x C m n D, wact cb pc x' = wact cb pc x ∧ WdInv (pc + 1) W1.drew cb pc (fun j => (l.setIfInBounds i true).getD j false) f x W C m n D := fun W L' x' C' m' n' D' hW e => ⟨HCL.out _ ((Chg.drew (Chg.refl _ _)).trans hW.ch), _, _, _, _, _, rfl, by rw [e]; exact hW⟩
  have HFIN := Lib.hid hfin
  clear h hun hfin hB
  simp only [mvs, List.mem_cons, List.not_mem_nil, or_false] at hmv
  rcases hmv with rfl | rfl | rfl | rfl | rfl | rfl | rfl | rfl | rfl | rfl | rfl | rfl | rfl | rfl | rfl | rfl | rfl
  ·refine wpOp_step rfl (fun KK hKK => ?_)
   unfold wact
   go_simp
   exact hKK _ _ (HFIN.out _ _ _ _ _ _ _ (HH.out.make HUN.out HUB.out) HUP.out)
  ·refine wpOp_step rfl (fun KK hKK => ?_)
   unfold wact
   go_simp
   exact hKK _ _ (HFIN.out _ _ _ _ _ _ _ (HH.out.word (k := 0) (by omega) HUN.out HUB.out (chg0_alloc _ _) w'.heap.size 0 (fun h => by omega) (Nat.le_refl _) (by
    have := Blk.new w' 199 #[.int .i64 1, .bool true, .bool false, .func (.func 120) #[] #[.pointer (some ⟨pc, 0, none⟩)]]
    have e := HH.out.c0.2.1
    simpa [wordc, takeF, many, CB.setW, CB.setL, e] using this) (fun h => by omega)) HUP.out)
  ·have hm := hdep 0 (by kernel_rfl)
   have hw := hdep 3 (by kernel_rfl)
   have q6 : x 6 = .map (some m) := HH.out.s0 hm
   have qk : x 9 = .pointer (some ⟨C.w 0, 0, none⟩) := HH.out.sc 0 (by omega) hw
   obtain ⟨X1, r1, h1, g1⟩ := (HH.out.mp hm).1.update lawS Tryz.underlying192 (by have := HH.out.nf; unfold maxLen; omega) (key := strv (kw 0)) (keyS (kw 0) (kw_len 0)) (val := .pointer (some ⟨C.w 0, 0, none⟩)) (d := oneD (C.w 0) 0) (ps := []) rfl
   have hr : (Instr.mapUpdate 192 (.map (some m)) (.string ⟨#[115, 101, 114, 118, 101, 114]⟩) (.pointer (some ⟨C.w 0, 0, none⟩))).run Tryz.prog w' = .ok () X1 := r1
   have HX := Lib.hid (And.intro h1 ((Chg.refl (fun i => i = m) w').grown g1 (fun k _ hk => by cases hk; rfl)))
   have HM := Lib.hid (And.intro hm hw)
   clear hm hw r1 h1 g1 hdep
   refine wpOp_step rfl (fun KK hKK => ?_)
   unfold wact
   rw [q6, qk]
   go_simp
   have := hKK _ _ (HFIN.out _ _ _ _ _ _ _ (HH.out.put (k := 0) (by omega) HUN.out HM.out.1 HM.out.2 hB0 HX.out.2 HX.out.1) HUP.out)
   unfold wact at this
   rw [q6, qk] at this
   exact this
  ·refine wpOp_step rfl (fun KK hKK => ?_)
   unfold wact
   go_simp
   exact hKK _ _ (HFIN.out _ _ _ _ _ _ _ (HH.out.row (k := 1) (by omega) (by omega) HUN.out HUB.out) HUP.out)
  ·have hw := hdep 9 (by kernel_rfl)
   have qb : x 14 = .slice (some ⟨C.r 1, 0, none⟩) 1 1 := HH.out.sb 1 (by omega) (by omega) hw
   have HM := Lib.hid hw
   clear hw hdep
   refine wpOp_step rfl (fun KK hKK => ?_)
   unfold wact
   rw [qb]
   go_simp
   refine (into118 (C.r 1) 1 1 w').mono ?_
   rintro e w4 ⟨rfl, b1, b2, c4, s4⟩
   have := hKK _ _ (HFIN.out _ _ _ _ _ _ _ (HH.out.word (k := 1) (by omega) HUN.out HUB.out c4 (w'.heap.size + 1) w'.heap.size (fun _ => HM.out) (by omega) (by
    simpa [wordc, takeF, many, CB.setW, CB.setL] using b2) (fun _ => ⟨by simpa [many] using b1, Nat.le_refl _⟩)) HUP.out)
   have e : updV x (tcS 1) (.pointer (some ⟨w'.heap.size + 1, 0, none⟩)) 14 = .slice (some ⟨C.r 1, 0, none⟩) 1 1 := (updV_ne (by decide)).trans qb
   unfold wact at this
   rw [e] at this
   exact this
  ·have hm := hdep 0 (by kernel_rfl)
   have hw := hdep 10 (by kernel_rfl)
   have q6 : x 6 = .map (some m) := HH.out.s0 hm
   have qk : x 15 = .pointer (some ⟨C.w 1, 0, none⟩) := HH.out.sc 1 (by omega) hw
   obtain ⟨X1, r1, h1, g1⟩ := (HH.out.mp hm).1.update lawS Tryz.underlying192 (by have := HH.out.nf; unfold maxLen; omega) (key := strv (kw 1)) (keyS (kw 1) (kw_len 1)) (val := .pointer (some ⟨C.w 1, 0, none⟩)) (d := oneD (C.w 1) 0) (ps := []) rfl
   have hr : (Instr.mapUpdate 192 (.map (some m)) (.string ⟨#[113, 117, 111, 114, 117, 109]⟩) (.pointer (some ⟨C.w 1, 0, none⟩))).run Tryz.prog w' = .ok () X1 := r1
   have HX := Lib.hid (And.intro h1 ((Chg.refl (fun i => i = m) w').grown g1 (fun k _ hk => by cases hk; rfl)))
   have HM := Lib.hid (And.intro hm hw)
   clear hm hw r1 h1 g1 hdep
   refine wpOp_step rfl (fun KK hKK => ?_)
   unfold wact
   rw [q6, qk]
   go_simp
   have := hKK _ _ (HFIN.out _ _ _ _ _ _ _ (HH.out.put (k := 1) (by omega) HUN.out HM.out.1 HM.out.2 hB0 HX.out.2 HX.out.1) HUP.out)
   unfold wact at this
   rw [q6, qk] at this
   exact this
  ·refine wpOp_step rfl (fun KK hKK => ?_)
   unfold wact
   go_simp
   exact hKK _ _ (HFIN.out _ _ _ _ _ _ _ (HH.out.row (k := 2) (by omega) (by omega) HUN.out HUB.out) HUP.out)
  ·have hw := hdep 19 (by kernel_rfl)
   have qb : x 23 = .slice (some ⟨C.r 2, 0, none⟩) 2 2 := HH.out.sb 2 (by omega) (by omega) hw
   have HM := Lib.hid hw
   clear hw hdep
   refine wpOp_step rfl (fun KK hKK => ?_)
   unfold wact
   rw [qb]
   go_simp
   refine (into118 (C.r 2) 2 2 w').mono ?_
   rintro e w4 ⟨rfl, b1, b2, c4, s4⟩
   have := hKK _ _ (HFIN.out _ _ _ _ _ _ _ (HH.out.word (k := 2) (by omega) HUN.out HUB.out c4 (w'.heap.size + 1) w'.heap.size (fun _ => HM.out) (by omega) (by
    simpa [wordc, takeF, many, CB.setW, CB.setL] using b2) (fun _ => ⟨by simpa [many] using b1, Nat.le_refl _⟩)) HUP.out)
   have e : updV x (tcS 2) (.pointer (some ⟨w'.heap.size + 1, 0, none⟩)) 23 = .slice (some ⟨C.r 2, 0, none⟩) 2 2 := (updV_ne (by decide)).trans qb
   unfold wact at this
   rw [e] at this
   exact this
  ·have hm := hdep 0 (by kernel_rfl)
   have hw := hdep 20 (by kernel_rfl)
   have q6 : x 6 = .map (some m) := HH.out.s0 hm
   have qk : x 24 = .pointer (some ⟨C.w 2, 0, none⟩) := HH.out.sc 2 (by omega) hw
   obtain ⟨X1, r1, h1, g1⟩ := (HH.out.mp hm).1.update lawS Tryz.underlying192 (by have := HH.out.nf; unfold maxLen; omega) (key := strv (kw 2)) (keyS (kw 2) (kw_len 2)) (val := .pointer (some ⟨C.w 2, 0, none⟩)) (d := oneD (C.w 2) 0) (ps := []) rfl
   have hr : (Instr.mapUpdate 192 (.map (some m)) (.string ⟨#[112, 111, 108, 108]⟩) (.pointer (some ⟨C.w 2, 0, none⟩))).run Tryz.prog w' = .ok () X1 := r1
   have HX := Lib.hid (And.intro h1 ((Chg.refl (fun i => i = m) w').grown g1 (fun k _ hk => by cases hk; rfl)))
   have HM := Lib.hid (And.intro hm hw)
   clear hm hw r1 h1 g1 hdep
   refine wpOp_step rfl (fun KK hKK => ?_)
   unfold wact
   rw [q6, qk]
   go_simp
   have := hKK _ _ (HFIN.out _ _ _ _ _ _ _ (HH.out.put (k := 2) (by omega) HUN.out HM.out.1 HM.out.2 hB0 HX.out.2 HX.out.1) HUP.out)
   unfold wact at this
   rw [q6, qk] at this
   exact this
  ·refine wpOp_step rfl (fun KK hKK => ?_)
   unfold wact
   go_simp
   exact hKK _ _ (HFIN.out _ _ _ _ _ _ _ (HH.out.row (k := 3) (by omega) (by omega) HUN.out HUB.out) HUP.out)
  ·have hw := hdep 26 (by kernel_rfl)
   have qb : x 29 = .slice (some ⟨C.r 3, 0, none⟩) 1 1 := HH.out.sb 3 (by omega) (by omega) hw
   have HM := Lib.hid hw
   clear hw hdep
   refine wpOp_step rfl (fun KK hKK => ?_)
   unfold wact
   rw [qb]
   go_simp
   refine (into118 (C.r 3) 1 1 w').mono ?_
   rintro e w4 ⟨rfl, b1, b2, c4, s4⟩
   have := hKK _ _ (HFIN.out _ _ _ _ _ _ _ (HH.out.word (k := 3) (by omega) HUN.out HUB.out c4 (w'.heap.size + 1) w'.heap.size (fun _ => HM.out) (by omega) (by
    simpa [wordc, takeF, many, CB.setW, CB.setL] using b2) (fun _ => ⟨by simpa [many] using b1, Nat.le_refl _⟩)) HUP.out)
   have e : updV x (tcS 3) (.pointer (some ⟨w'.heap.size + 1, 0, none⟩)) 29 = .slice (some ⟨C.r 3, 0, none⟩) 1 1 := (updV_ne (by decide)).trans qb
   unfold wact at this
   rw [e] at this
   exact this
  ·have hm := hdep 0 (by kernel_rfl)
   have hw := hdep 27 (by kernel_rfl)
   have q6 : x 6 = .map (some m) := HH.out.s0 hm
   have qk : x 30 = .pointer (some ⟨C.w 3, 0, none⟩) := HH.out.sc 3 (by omega) hw
   obtain ⟨X1, r1, h1, g1⟩ := (HH.out.mp hm).1.update lawS Tryz.underlying192 (by have := HH.out.nf; unfold maxLen; omega) (key := strv (kw 3)) (keyS (kw 3) (kw_len 3)) (val := .pointer (some ⟨C.w 3, 0, none⟩)) (d := oneD (C.w 3) 0) (ps := []) rfl
   have hr : (Instr.mapUpdate 192 (.map (some m)) (.string ⟨#[100, 101, 108, 97, 121]⟩) (.pointer (some ⟨C.w 3, 0, none⟩))).run Tryz.prog w' = .ok () X1 := r1
   have HX := Lib.hid (And.intro h1 ((Chg.refl (fun i => i = m) w').grown g1 (fun k _ hk => by cases hk; rfl)))
   have HM := Lib.hid (And.intro hm hw)
   clear hm hw r1 h1 g1 hdep
   refine wpOp_step rfl (fun KK hKK => ?_)
   unfold wact
   rw [q6, qk]
   go_simp
   have := hKK _ _ (HFIN.out _ _ _ _ _ _ _ (HH.out.put (k := 3) (by omega) HUN.out HM.out.1 HM.out.2 hB0 HX.out.2 HX.out.1) HUP.out)
   unfold wact at this
   rw [q6, qk] at this
   exact this
  ·refine wpOp_step rfl (fun KK hKK => ?_)
   unfold wact
   go_simp
   exact hKK _ _ (HFIN.out _ _ _ _ _ _ _ (HH.out.row (k := 4) (by omega) (by omega) HUN.out HUB.out) HUP.out)
  ·have hw := hdep 33 (by kernel_rfl)
   have qb : x 35 = .slice (some ⟨C.r 4, 0, none⟩) 1 1 := HH.out.sb 4 (by omega) (by omega) hw
   have HM := Lib.hid hw
   clear hw hdep
   refine wpOp_step rfl (fun KK hKK => ?_)
   unfold wact
   rw [qb]
   go_simp
   refine (into118 (C.r 4) 1 1 w').mono ?_
   rintro e w4 ⟨rfl, b1, b2, c4, s4⟩
   have := hKK _ _ (HFIN.out _ _ _ _ _ _ _ (HH.out.word (k := 4) (by omega) HUN.out HUB.out c4 (w'.heap.size + 1) w'.heap.size (fun _ => HM.out) (by omega) (by
    simpa [wordc, takeF, many, CB.setW, CB.setL] using b2) (fun _ => ⟨by simpa [many] using b1, Nat.le_refl _⟩)) HUP.out)
   have e : updV x (tcS 4) (.pointer (some ⟨w'.heap.size + 1, 0, none⟩)) 35 = .slice (some ⟨C.r 4, 0, none⟩) 1 1 := (updV_ne (by decide)).trans qb
   unfold wact at this
   rw [e] at this
   exact this
  ·have hm := hdep 0 (by kernel_rfl)
   have hw := hdep 34 (by kernel_rfl)
   have q6 : x 6 = .map (some m) := HH.out.s0 hm
   have qk : x 36 = .pointer (some ⟨C.w 4, 0, none⟩) := HH.out.sc 4 (by omega) hw
   obtain ⟨X1, r1, h1, g1⟩ := (HH.out.mp hm).1.update lawS Tryz.underlying192 (by have := HH.out.nf; unfold maxLen; omega) (key := strv (kw 4)) (keyS (kw 4) (kw_len 4)) (val := .pointer (some ⟨C.w 4, 0, none⟩)) (d := oneD (C.w 4) 0) (ps := []) rfl
   have hr : (Instr.mapUpdate 192 (.map (some m)) (.string ⟨#[115, 108, 101, 119]⟩) (.pointer (some ⟨C.w 4, 0, none⟩))).run Tryz.prog w' = .ok () X1 := r1
   have HX := Lib.hid (And.intro h1 ((Chg.refl (fun i => i = m) w').grown g1 (fun k _ hk => by cases hk; rfl)))
   have HM := Lib.hid (And.intro hm hw)
   clear hm hw r1 h1 g1 hdep
   refine wpOp_step rfl (fun KK hKK => ?_)
   unfold wact
   rw [q6, qk]
   go_simp
   have := hKK _ _ (HFIN.out _ _ _ _ _ _ _ (HH.out.put (k := 4) (by omega) HUN.out HM.out.1 HM.out.2 hB0 HX.out.2 HX.out.1) HUP.out)
   unfold wact at this
   rw [q6, qk] at this
   exact this
  ·have hm := hdep 0 (by kernel_rfl)
   have q6 : x 6 = .map (some m) := HH.out.s0 hm
   have HM := Lib.hid hm
   clear hm hdep
   refine wpOp_step rfl (fun KK hKK => ?_)
   unfold wact
   rw [q6]
   go_simp
   have := hKK _ _ (HFIN.out _ _ _ _ _ _ _ (HH.out.out HM.out) HUP.out)
   unfold wact updV at this
   simp only [if_pos, q6] at this
   simpa using this
  ·have hm := hdep 36 (by kernel_rfl)
   have q6 : x 37 = .map (some m) := HH.out.s36 hm
   have HM := Lib.hid hm
   clear hm hdep
   refine wpOp_step rfl (fun KK hKK => ?_)
   unfold wact
   rw [q6]
   go_simp
   have := hKK _ _ (HFIN.out _ _ _ _ _ _ _ (HH.out.last HM.out) HUP.out)
   unfold wact updV at this
   simp only [if_pos, q6] at this
   simpa using this
 ·intro f l a w' hI hall
  obtain ⟨x, C, m, n, D, rfl, h⟩ := hI
  have q2 : x 2 = .map (some m) := h.s37 (hall 37 (by decide))
  have HH := Lib.hid h
  have HA := Lib.hid hall
  clear h hall
  have hL : ∀ i, i < 38 → (fun j => l.getD j false) i = true := fun i hi => HA.out i hi
  have hbs : ∀ k, k < 5 → bsO k < 38 := by decide
  have hcl : ∀ k, k < 5 → clO k < 38 := by decide
  have hin : ∀ k, k < 5 → inO k < 38 := by decide
  obtain ⟨hc1, hc2, hc3, hc4, hc5⟩ := HH.out.c0
  have cA : Chg (fun _ => False) W1 w' := (Chg.drew (Chg.refl _ _)).trans HH.out.ch
  have cw := HP.out.2.1.trans cA
  have hpe := HP.out.1
  have hcfg : Blk w' C.cb 29 (cfgc C ps0.c) := by
   have := HB.out.chg cw id
   rw [hc1]
   unfold cfgc
   rw [hc3, hc4]
   exact this
  have hCA : CAt w' C ps0 := by
   refine ⟨hcfg, ?_, ?_, fun k hk => (HH.out.ws k hk (hL _ (hcl k hk))).1, fun k hk h1 => (HH.out.ls k hk (by omega) (hL _ (hcl k hk))).1, fun k hk h1 => (HH.out.rs k hk (by omega) (hL _ (hbs k hk))).1, fun i j hi hj e => HH.out.dis i j hi hj (hL _ (hcl i hi)) (hL _ (hcl j hj)) e, ⟨by show ([] : List Int).length ≤ 16; simp⟩⟩
   ·rw [hc3, hc4, hc5]
    exact Owns.nil _ _ _
   ·rw [hc2, hc1]
    exact HPC.out.chg cA id
  obtain ⟨m1, m2, m3⟩ := HH.out.mp (hL 0 (by omega))
  have hMA : MAt w' m n C := ⟨D, m1, fun k z hk => by rw [HH.out.at_ (hL 0 (by omega)) k hk z, if_pos (hL _ (hin k hk))], HH.out.no (hL 0 (by omega))⟩
  have nm : ∀ {b ty cs}, Blk w' b ty cs → ¬ b = m := fun hb e => by
   obtain ⟨es, clock, hmb, _⟩ := m1
   have hb' := hb
   unfold Blk at hb'
   rw [e, hmb] at hb'
   cases hb'
  have hfin : ∃ m n C, Ending.returned (Value.map (some m)) = .returned (.map (some m)) ∧ True := ⟨m, n, C, rfl, trivial⟩
  have HFIN := Lib.hid (show CAt w' C ps0 ∧ MAt w' m n C ∧ C.cb = cb ∧ Chg (fun _ => False) w w' ∧ (∀ i, CBk C i → i = cb ∨ w.heap.size ≤ i) ∧ w.heap.size ≤ m ∧ ¬ CBk C m from by
   refine ⟨hCA, hMA, hc1, cw, ?_, by omega, ?_⟩
   ·rintro i (rfl | rfl | ⟨k, hk, rfl⟩ | ⟨k, hk, h1, rfl | rfl⟩ | hi)
    ·exact .inl hc1
    ·exact .inr (by omega)
    ·have := (HH.out.ws k hk (hL _ (hcl k hk))).2
     exact .inr (by omega)
    ·have := (HH.out.ls k hk (by omega) (hL _ (hcl k hk))).2
     exact .inr (by omega)
    ·have := (HH.out.rs k hk (by omega) (hL _ (hbs k hk))).2
     exact .inr (by omega)
    ·rw [hc5] at hi; cases hi
   ·rintro (e | e | ⟨k, hk, e⟩ | ⟨k, hk, h1, e | e⟩ | hi)
    ·exact nm hcfg e.symm
    ·exact nm hCA.pc e.symm
    ·exact nm (hCA.ws k hk) e.symm
    ·exact nm (hCA.ls k hk h1) e.symm
    ·exact nm (hCA.rs k hk h1) e.symm
    ·rw [hc5] at hi; cases hi)
  clear hL hbs hcl hin hc1 hc2 hc3 hc4 hc5 cA cw hpe hcfg hCA m1 m2 m3 hMA nm hfin HA
  unfold wact
  rw [q2]
  clear q2
  unfold NoPanic
  go_wp2_with fail
  refine bodyPost_ret (v := .map (some m)) ?_ rfl ?_
  ·simp [results, Tryz.results83, go_sem]
  ·exact ⟨m, n, C, rfl, HFIN.out⟩
end
end Go.Proofs.YtamhicdhbjniiaaGreatDoor
