/- RingGrows: a greater ring keeps all that a lesser one keeps; two rings have nothing to do with one another: the walk. -/
import Derived.Test.YtlcanhghhdjleaaAlive
import Derived.Test.YtlcanhghhdjleaaRingu16
import Derived.Test.YtlcanhghhdjleaaMost
import Derived.Test.YtlcanhghhdjleaaArgs
set_option linter.unusedVariables false
namespace Go.Chron
open Go Go.RowKit
/-- Two rings that lie apart. -/
structure Apart (b1 : Nat) (g1 : Option Nat) (b2 : Nat) (g2 : Option Nat) : Prop where
  bb : b1 ≠ b2
  gb : g1 ≠ some b2
  bg : g2 ≠ some b1
  gg : ∀ j, g1 = some j → g2 ≠ some j

theorem Apart.symm {b1 b2 : Nat} {g1 g2 : Option Nat} (h : Apart b1 g1 b2 g2) : Apart b2 g2 b1 g1 := ⟨fun e => h.bb e.symm, h.bg, h.gb, fun j h1 h2 => h.gg j h2 h1⟩
theorem Apart.left {b1 b2 k W : Nat} {g1 g2 : Option Nat} (h : Apart b1 g1 b2 g2) (hk : g1 = some k ∨ W ≤ k) (hb : b2 < W) (hg : ∀ j, g2 = some j → j < W) : Apart b1 (some k) b2 g2 := by
  refine ⟨h.bb, ?_, h.bg, ?_⟩
  · intro e; cases e
    rcases hk with h' | h'
    · exact h.gb h'
    · omega
  · intro j e e2; cases e
    rcases hk with h' | h'
    · exact h.gg _ h' e2
    · have := hg _ e2; omega
/-- What changes the one leaves the other. -/
theorem Apart.out {b1 b2 : Nat} {g1 g2 : Option Nat} (h : Apart b1 g1 b2 g2) : (¬ (b2 = b1 ∨ g1 = some b2)) ∧ ∀ j, g2 = some j → ¬ (j = b1 ∨ g1 = some j) :=
  ⟨fun e => e.elim (fun e => h.bb e.symm) h.gb, fun j hj e => e.elim (fun e => h.bg (e ▸ hj)) (fun e => h.gg j e hj)⟩
end Go.Chron
namespace Go.Proofs.Ytlcanhghhdjleaa
open Go.RowKit Go.Chron

def GrowsInv (w : World) (b1 b2 m1 m2 len : Nat) (els : List (List Value)) (i : Value) (wr : World) : Prop :=
  ∃ (k : Nat) (g1 g2 : Option Nat), k ≤ len ∧ i = .int .i64 k ∧ RingAt 93 48 1 wr b1 g1 m1 k (lastN m1 (els.take k)) ∧ RingAt 93 48 1 wr b2 g2 m2 k (lastN m2 (els.take k)) ∧
    Apart b1 g1 b2 g2 ∧ (∀ j, g1 = some j → w.heap.size ≤ j) ∧ (∀ j, g2 = some j → w.heap.size ≤ j) ∧ Below w.heap.size w wr

set_option maxRecDepth 100000 in
set_option maxHeartbeats 3200000 in
theorem ringGrows_walk (cs : Array Value) (a : Option Addr) (len cap : Nat) (els : List (List Value)) (w : World) (hcs : okAll [.int .i64, .int .i64] cs.toList) (hI : FlatIn [.int .u16] w a len cap els) :
    Calls Try.prog 4 #[.agg cs, .slice a len cap] w fun e w' => e = .returned (.bool true) ∧ Below w.heap.size w w' := by
  obtain ⟨n0, n1, rfl, -, -⟩ := ok_two_ints hcs
  clear hcs
  have hc := hI.leE
  have hcm := hI.capE
  have HI := Lib.hid hI
  have HL := Lib.hid hI.lenE
  clear hI
  obtain ⟨p, hp⟩ : ∃ p, p = mostN n0 := ⟨_, rfl⟩
  obtain ⟨q, hq⟩ : ∃ q, q = mostN n1 := ⟨_, rfl⟩
  have MP : ∀ w : World, Calls Try.prog 17 #[.int .i64 n0] w fun e w' => e = .returned (.int .i64 p) ∧ w' = w := by rw [hp]; exact fun w => (most_any n0 w).mono fun _ _ ⟨h1, h2⟩ => ⟨h1, h2.symm⟩
  have MQ : ∀ w : World, Calls Try.prog 17 #[.int .i64 n1] w fun e w' => e = .returned (.int .i64 q) ∧ w' = w := by rw [hq]; exact fun w => (most_any n1 w).mono fun _ _ ⟨h1, h2⟩ => ⟨h1, h2.symm⟩
  have p1 := mostN_lo n0
  have p2 := mostN_hi n0
  have q1 := mostN_lo n1
  have q2 := mostN_hi n1
  rw [← hp] at p1 p2
  rw [← hq] at q1 q2
  have HMP := Lib.hid MP
  have HMQ := Lib.hid MQ
  clear hp hq MP MQ
  obtain ⟨m1, hm1⟩ : ∃ m1, m1 = min p q := ⟨_, rfl⟩
  obtain ⟨m2, hm2⟩ : ∃ m2, m2 = max p q := ⟨_, rfl⟩
  have hmin : (if q < p then (q : Int) else (p : Int)) = (m1 : Int) := by split <;> omega
  have hmax : (if p < q then (q : Int) else (p : Int)) = (m2 : Int) := by split <;> omega
  have h12 : m1 ≤ m2 := by omega
  have h1 : 1 ≤ m1 := by omega
  have h2 : m2 ≤ 64 := by omega
  clear hm1 hm2
  go_enter Try.func4, Try.ntmps4
  go_wp2_with fail
  go_quiet (first | (go_at_call_of 17 (Value.int IntKind.i64 n0); exact Calls.quiet_of_same (HMP.out _)) | (go_at_call_of 17 (Value.int IntKind.i64 n1); exact Calls.quiet_of_same (HMQ.out _)))
  generalize hW : ((w.alloc (Obj.cells #[Value.int IntKind.i64 n0, Value.int IntKind.i64 n1] 42)).drewN nq) = w0
  have hB0 : Below w.heap.size w w0 := by subst hW; exact bel0 (bel0 (Below.refl _ _) (chg0_alloc _ _) (Nat.le_refl _)) (chg0_drewN _ _) (Nat.le_refl _)
  clear hW hmin hmax
  go_wp2_with fail
  refine (new_u16 m1 (by omega) (by omega) w0).mono ?_
  rintro e w1 ⟨rfl, ra, ca⟩
  go_wp2_with fail
  refine (new_u16 m2 (by omega) (by omega) w1).mono ?_
  rintro e w2 ⟨rfl, rb, cb⟩
  go_wp2_with fail
  refine (alive w2).mono ?_
  rintro e w3 ⟨rfl, c3⟩
  have s0 := hB0.size
  have s1 := ra.lt
  have hB : Below w.heap.size w w3 := bel0 (bel0 (bel0 hB0 ca (Nat.le_refl _)) cb (Nat.le_refl _)) c3 (Nat.le_refl _)
  have R1 := (ra.chg0 cb).chg0 c3
  have R2 := rb.chg0 c3
  have hap : Apart w0.heap.size none w1.heap.size none := ⟨by omega, by simp, by simp, by simp⟩
  clear ra rb ca cb c3 hB0
  by_cases hlen : 300 < len
  · go_wp2_with fail
    refine (alive w3).mono ?_
    rintro e w4 ⟨rfl, hc4⟩
    have hB4 := Lib.hid (bel0 hB hc4 (Nat.le_refl _))
    clear hB hc4
    go_wp2_with fail
    go_ret
    exact ⟨rfl, hB4.out⟩
  · go_wp2_with fail
    go_loopw [66] (fun i wr => GrowsInv w w0.heap.size w1.heap.size m1 m2 len els i wr) (fun i _ => len - (intOf i).toNat)
    case atStart => exact ⟨0, none, none, by omega, rfl, by simpa [lastN] using R1, by simpa [lastN] using R2, hap, by simp, by simp, hB⟩
    case round =>
      obtain ⟨k, g1, g2, hk, rfl, r1, r2, ap, hg1, hg2, hb⟩ := hrel
      clear R1 R2 hB hap
      by_cases hlt : k < len
      · obtain ⟨b, off, rfl, hbw, hcell⟩ := HI.out.cell (by omega)
        obtain ⟨x, hx⟩ : ∃ x, els[k]? = some x := ⟨_, List.getElem?_eq_getElem (by rw [← HL.out]; exact hlt)⟩
        obtain ⟨z, rfl, -⟩ := ok_one_int (HI.out.ok x (List.mem_of_getElem? hx))
        have hcw := hcell k _ hx 0 _ rfl
        simp only [List.length_singleton, Nat.mul_one, Nat.add_zero] at hcw
        have hcr : wr.cell? ⟨b, off + k, none⟩ = some (.int .u16 z) := (hb.cell hbw).trans hcw
        have hk0 : (0 : Int) ≤ (k : Int) := by omega
        have hk1 : (k : Int) < (len : Int) := by omega
        have HX := Lib.hid hx
        clear hcell hx hcw
        have hz := hb.size
        go_wp2_with fail
        refine (add_u16 _ g1 m1 k _ z _ r1 (by omega) (by omega) (by omega)).mono ?_
        rintro e wA ⟨rfl, kA, rA, cA, hA⟩
        have r2A := r2.chg cA ap.out.1 ap.out.2
        have apA := ap.left hA r2.lt r2.ltg
        go_wp2_with fail
        refine (add_u16 _ g2 m2 k _ z _ r2A (by omega) (by omega) (by omega)).mono ?_
        rintro e wB ⟨rfl, kB, rB, cB, hB'⟩
        have rAB := rA.chg cB apA.symm.out.1 apA.symm.out.2
        have apB := (apA.symm.left hB' rA.lt rA.ltg).symm
        have hP1 : rpush m1 (lastN m1 (els.take k)) [.int .u16 z] = lastN m1 (els.take (k + 1)) := by rw [lastN_push h1, List.take_add_one, HX.out]; rfl
        have hP2 : rpush m2 (lastN m2 (els.take k)) [.int .u16 z] = lastN m2 (els.take (k + 1)) := by rw [lastN_push (by omega), List.take_add_one, HX.out]; rfl
        rw [hP1] at rAB
        rw [hP2] at rB
        have hbB : Below w.heap.size w wB := below_chg (below_chg hb cA (Nat.le_refl _) (fun j hj h => by rcases h with h | h; omega; have := hg1 j h; omega)) cB (Nat.le_refl _) (fun j hj h => by rcases h with h | h; omega; have := hg2 j h; omega)
        have hkA : w.heap.size ≤ kA := by rcases hA with h | h; exact hg1 _ h; omega
        have hkB : w.heap.size ≤ kB := by rcases hB' with h | h; exact hg2 _ h; (have := cA.size; omega)
        clear r1 r2 rA r2A apA ap cA cB hA hB' hP1 hP2 hb hg1 hg2 hcr
        go_wp2_with fail
        refine (all_u16 _ (some kA) m1 (k + 1) _ wB rAB (by omega)).mono ?_
        rintro e wC ⟨aC, capC, gC, rfl, oC, cC, hgC⟩
        have rB1 := rB.chg0 cC
        have rA1 := rAB.chg0 cC
        go_wp2_with fail
        refine (all_u16 _ (some kB) m2 (k + 1) _ wC rB1 (by omega)).mono ?_
        rintro e wD ⟨aD, capD, gD, rfl, oD, cD, hgD⟩
        have oC1 := oC.chg cD (fun _ _ h => h)
        have rB2 := rB1.chg0 cD
        have rA2 := rA1.chg0 cD
        have hbD : Below w.heap.size w wD := bel0 (bel0 hbB cC (Nat.le_refl _)) cD (Nat.le_refl _)
        obtain ⟨L1, hL1⟩ : ∃ L, L = lastN m1 (els.take (k + 1)) := ⟨_, rfl⟩
        obtain ⟨L2, hL2⟩ : ∃ L, L = lastN m2 (els.take (k + 1)) := ⟨_, rfl⟩
        rw [← hL1] at oC1 rA2
        rw [← hL2] at oD rB2
        rw [← hL1, ← hL2]
        obtain ⟨c1, hc1⟩ : ∃ n, n = L1.length := ⟨_, rfl⟩
        obtain ⟨c2, hc2⟩ : ∃ n, n = L2.length := ⟨_, rfl⟩
        rw [← hc1] at oC1 ⊢
        rw [← hc2] at oD ⊢
        have e1 : c1 = min (k + 1) m1 := by rw [hc1, hL1, lastN_len, List.length_take, ← HL.out]; omega
        have e2 : c2 = min (k + 1) m2 := by rw [hc2, hL2, lastN_len, List.length_take, ← HL.out]; omega
        have hc12 : c1 ≤ c2 := by omega
        have hc0 : 1 ≤ c1 := by omega
        have hc3 : c2 ≤ 64 := by omega
        obtain ⟨kC, rfl⟩ := oC1.pos (by omega)
        obtain ⟨kD, rfl⟩ := oD.pos (by omega)
        obtain ⟨capC', hv, hcapC, hcapC2⟩ := oC1.some_form
        simp only [Value.slice.injEq] at hv
        obtain ⟨rfl, -, rfl⟩ := hv
        obtain ⟨capD', hv, hcapD, hcapD2⟩ := oD.some_form
        simp only [Value.slice.injEq] at hv
        obtain ⟨rfl, -, rfl⟩ := hv
        have HC1 := Lib.hid oC1
        have HD1 := Lib.hid oD
        have HE1 := Lib.hid e1
        have HE2 := Lib.hid e2
        have HL1 := Lib.hid hL1
        have HL2 := Lib.hid hL2
        have Hc1 := Lib.hid hc1
        have Hc2 := Lib.hid hc2
        have HBD := Lib.hid hbD
        have HA2 := Lib.hid rA2
        have HB2 := Lib.hid rB2
        clear oC oC1 oD e1 e2 hL1 hL2 hc1 hc2 hbD rA2 rB2 rA1 rB1 rAB rB cC cD hgC hgD hbB
        have hcc : ¬ ((c2 : Int) < (c1 : Int)) := by omega
        go_wp2_with fail
        go_loopw [87] (fun i wr => ∃ j d : Nat, j ≤ c1 ∧ i = .int .i64 j ∧ wr = wD.drewN d) (fun i _ => c1 - (intOf i).toNat)
        case atStart => exact ⟨0, 0, by omega, rfl, rfl⟩
        case round =>
          obtain ⟨j, d, hj, rfl, rfl⟩ := hrel
          by_cases hjl : j < c1
          · obtain ⟨y, hy⟩ : ∃ y, L1[j]? = some y := ⟨_, List.getElem?_eq_getElem (by have := Hc1.out; omega)⟩
            have hy2 : L2[c2 - c1 + j]? = some y := by
              have t1 := HE1.out
              have t2 := HE2.out
              rw [HL1.out, lastN_get] at hy
              rw [HL2.out, lastN_get, ← hy, List.length_take, ← HL.out]
              congr 1
              omega
            have hye : y ∈ els := by
              have := List.mem_of_getElem? hy
              rw [HL1.out] at this
              exact List.mem_of_mem_take (List.mem_of_mem_drop this)
            obtain ⟨z2, rfl, -⟩ := ok_one_int (HI.out.ok y hye)
            have f1 := HC1.out.cell rfl hy (j := 0) rfl
            have f2 := HD1.out.cell rfl hy2 (j := 0) rfl
            simp only [Nat.mul_one, Nat.add_zero] at f1 f2
            have i0 : (0 : Int) ≤ (c2 : Int) - (c1 : Int) + (j : Int) := by omega
            have i1 : (c2 : Int) - (c1 : Int) + (j : Int) < (c2 : Int) := by omega
            have i2 : ((c2 : Int) - (c1 : Int) + (j : Int)).toNat = c2 - c1 + j := by omega
            have i3 : (j : Int) < (c1 : Int) := by omega
            have HY := Lib.hid hy
            clear hy hy2 hye
            go_wp2_with fail
            go_quiet (fail)
            go_wp2_with fail
            go_roundw
            case rel => exact ⟨j + 1, d + nq, by omega, by go_num, rfl⟩
            case measure => simp [intOf]; omega
          · have hjn : ¬ (j : Int) < (c1 : Int) := by omega
            go_wp2_with fail
            go_roundw
            case rel => exact ⟨k + 1, some kA, some kB, by omega, by go_num, by rw [← HL1.out]; exact HA2.out.chg0 (chg0_drewN _ _), by rw [← HL2.out]; exact HB2.out.chg0 (chg0_drewN _ _), apB,
              by intro i hi; cases hi; exact hkA, by intro i hi; cases hi; exact hkB, bel0 HBD.out (chg0_drewN _ _) (Nat.le_refl _)⟩
            case measure => simp [intOf]; omega
      · have hkl : k = len := by omega
        subst hkl
        go_wp2_with fail
        refine (clear_u16 _ g2 m2 k _ wr r2).mono ?_
        rintro e wA ⟨rfl, rA, cA⟩
        have r1A := r1.chg cA (fun e => ap.bb e) (fun j hj e => ap.gb (by rw [hj, e]))
        have hbA := Lib.hid (below_chg hb cA (Nat.le_refl _) (fun j hj h => by omega))
        clear r1 r2 cA hb hg1 hg2 ap
        go_wp2_with fail
        refine (len_u16 _ g1 m1 k _ wA r1A).mono ?_
        rintro e w' ⟨rfl, rfl⟩
        have hl1 : (lastN m1 (els.take k)).length = min k m1 := by rw [lastN_len, List.length_take, ← HL.out]; omega
        rw [hl1]
        have hmn : (if k < m1 then (k : Int) else (m1 : Int)) = ((min k m1 : Nat) : Int) := by split <;> omega
        clear hl1
        go_wp2_with fail
        refine (len_u16 _ none m2 k _ wA rA).mono ?_
        rintro e w' ⟨rfl, rfl⟩
        go_wp2_with fail
        refine (count_u16 _ none m2 k _ wA rA).mono ?_
        rintro e w' ⟨rfl, rfl⟩
        go_wp2_with fail
        go_ret
        exact ⟨rfl, hbA.out⟩
end Go.Proofs.Ytlcanhghhdjleaa
