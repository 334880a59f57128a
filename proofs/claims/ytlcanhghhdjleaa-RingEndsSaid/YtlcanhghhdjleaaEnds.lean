/- RingEnds: what is kept is the end of what was added; who changes the list that was told changes nothing: the walk. -/
import Derived.Test.YtlcanhghhdjleaaAlive
import Derived.Test.YtlcanhghhdjleaaRingu16
import Derived.Test.YtlcanhghhdjleaaMost
import Derived.Test.YtlcanhghhdjleaaArgs
set_option linter.unusedVariables false
namespace Go.Proofs.Ytlcanhghhdjleaa
open Go.RowKit Go.Chron

def c16 (z : Int) : List Value := [.int .u16 z]

/-- What holds at each round's head. -/
def EndsInv (w : World) (b m len : Nat) (zs : List Int) (i : Value) (wr : World) : Prop :=
  ∃ (k : Nat) (g : Option Nat), k ≤ len ∧ i = .int .i64 k ∧ RingAt 93 48 1 wr b g m k ((lastN m (zs.take k)).map c16) ∧ (∀ j, g = some j → w.heap.size ≤ j) ∧ Below w.heap.size w wr

/-- What holds at each inner round's head. -/
def EndsIn (wA : World) (kA n : Nat) (L : List Int) (i : Value) (wr : World) : Prop :=
  ∃ (j : Nat) (cur : Array Value), j ≤ n ∧ i = .int .i64 j ∧ Blk wr kA 48 cur ∧ n ≤ cur.size ∧ (∀ t z, j ≤ t → L[t]? = some z → cur[t]? = some (.int .u16 z)) ∧ Chg (fun x => x = kA) wA wr

set_option maxRecDepth 100000 in
set_option maxHeartbeats 3200000 in
theorem ringEnds_walk (n : Int) (a : Option Addr) (len cap : Nat) (zs : List Int) (w : World) (hI : IntsIn .u16 w a len cap zs) :
    Calls Try.prog 5 #[.int .i64 n, .slice a len cap] w fun e w' => e = .returned (.bool true) ∧ Below w.heap.size w w' := by
  have hc := hI.leE
  have hcm := hI.capE
  have HI := Lib.hid hI
  have HL := Lib.hid hI.lenE
  clear hI
  have m1 := mostN_lo n
  have m2 := mostN_hi n
  obtain ⟨m, hm⟩ : ∃ m, m = mostN n := ⟨_, rfl⟩
  have MM : ∀ w : World, Calls Try.prog 17 #[.int .i64 n] w fun e w' => e = .returned (.int .i64 m) ∧ w = w' := by rw [hm]; exact most_any n
  rw [← hm] at m1 m2
  have HM := Lib.hid MM
  clear hm MM
  go_enter Try.func5, Try.ntmps5
  go_wp2_with fail
  refine (HM.out w).mono ?_
  rintro e w' ⟨rfl, rfl⟩
  go_wp2_with fail
  refine (new_u16 m (by omega) (by omega) w).mono ?_
  rintro e w1 ⟨rfl, hr1, hc1⟩
  go_wp2_with fail
  refine (alive w1).mono ?_
  rintro e w3 ⟨rfl, hc3⟩
  have hB : Below w.heap.size w w3 := bel0 (bel0 (Below.refl _ _) hc1 (Nat.le_refl _)) hc3 (Nat.le_refl _)
  have R1 := hr1.chg0 hc3
  clear hr1 hc1 hc3
  by_cases hlen : 300 < len
  · go_wp2_with fail
    refine (alive w3).mono ?_
    rintro e w4 ⟨rfl, hc4⟩
    have hB4 := Lib.hid (bel0 hB hc4 (Nat.le_refl _))
    clear hB hc4
    go_wp2_with fail
    go_ret
    exact ⟨rfl, hB4.out⟩
  · go_wp2_with fail
    go_loopw [37] (fun i wr => EndsInv w w.heap.size m len zs i wr) (fun i _ => len - (intOf i).toNat)
    case atStart => exact ⟨0, none, by omega, rfl, by simpa [lastN] using R1, by simp, hB⟩
    case round =>
      obtain ⟨k, g, hk, rfl, r1, hg1, hb⟩ := hrel
      clear R1 hB
      by_cases hlt : k < len
      · obtain ⟨b, off, rfl, hbw, hcell⟩ := HI.out.cell (by omega)
        obtain ⟨x, hx⟩ : ∃ x, zs[k]? = some x := ⟨_, List.getElem?_eq_getElem (by rw [← HL.out]; exact hlt)⟩
        have hcw := hcell k x hx
        have hcr : wr.cell? ⟨b, off + k, none⟩ = some (.int .u16 x) := (hb.cell hbw).trans hcw
        have hk0 : (0 : Int) ≤ (k : Int) := by omega
        have hk1 : (k : Int) < (len : Int) := by omega
        have HX := Lib.hid hx
        have HC := Lib.hid hcell
        clear hcell hx hcw
        have hz := hb.size
        go_wp2_with fail
        refine (add_u16 _ g m k _ x _ r1 (by omega) (by omega) (by omega)).mono ?_
        rintro e wA ⟨rfl, kA, rA, cA, hA⟩
        have hL : rpush m ((lastN m (zs.take k)).map c16) [.int .u16 x] = (lastN m (zs.take (k + 1))).map c16 := by
          rw [lastN_map, show [Value.int .u16 x] = c16 x from rfl, lastN_push m1, List.take_add_one, HX.out, lastN_map]
          simp
        rw [hL] at rA
        have hbA : Below w.heap.size w wA := below_chg hb cA (Nat.le_refl _) (fun j hj h => by rcases h with h | h; omega; have := hg1 j h; omega)
        have hkA : w.heap.size ≤ kA := by rcases hA with h | h; exact hg1 _ h; omega
        clear r1 hb hg1 cA hA hcr hL
        go_wp2_with fail
        refine (all_u16 _ (some kA) m (k + 1) _ wA rA (by omega)).mono ?_
        rintro e wB ⟨aB, capB, gB, rfl, oB, cB, hgB⟩
        obtain ⟨L, hLd⟩ : ∃ L, L = lastN m (zs.take (k + 1)) := ⟨_, rfl⟩
        obtain ⟨nL, hnL⟩ : ∃ nL, nL = (L.map c16).length := ⟨_, rfl⟩
        rw [← hLd] at rA oB
        rw [← hLd, ← hnL]
        rw [← hnL] at oB
        have hn1 : nL = min (k + 1) m := by rw [hnL, List.length_map, hLd, lastN_len, List.length_take, ← HL.out]; omega
        have hn2 : 1 ≤ nL := by omega
        have hn3 : nL ≤ k + 1 := by omega
        obtain ⟨kB, rfl⟩ := oB.pos (by omega)
        obtain ⟨capB', hv, hcapB, hcapB2⟩ := oB.some_form
        simp only [Value.slice.injEq] at hv
        obtain ⟨rfl, -, rfl⟩ := hv
        have hkB := hgB kB rfl
        have HB := Lib.hid oB
        have hmin : (if (m : Int) < (k : Int) + 1 then (m : Int) else (k : Int) + 1) = (nL : Int) := by split <;> omega
        have HN := Lib.hid hn1
        have HLd := Lib.hid hLd
        have HnL := Lib.hid hnL
        have HrA := Lib.hid rA
        clear oB hn1 hLd hnL rA hgB
        go_wp2_with fail
        refine (HM.out _).mono ?_
        rintro e w' ⟨rfl, rfl⟩
        go_wp2_with fail
        go_loopw [57] (fun i wr => EndsIn wB kB nL L i wr) (fun i _ => nL - (intOf i).toNat)
        case atStart =>
          obtain ⟨cur, w1', w2', w3'⟩ := Owns.whole (f := fun z => Value.int .u16 z) HB.out
          exact ⟨0, cur, by omega, rfl, w1', by have := HnL.out; rw [List.length_map] at this; omega, fun t z _ hz => w3' t z hz, Chg.refl _ _⟩
        case round =>
          obtain ⟨j, cur, hj, rfl, hb2, hcs, hcu, hch⟩ := hrel
          by_cases hjl : j < nL
          · obtain ⟨z, hz⟩ : ∃ z, L[j]? = some z := ⟨_, List.getElem?_eq_getElem (by have := HnL.out; rw [List.length_map] at this; omega)⟩
            have hzs : zs[k + 1 - nL + j]? = some z := by
              rw [HLd.out, lastN_get, List.getElem?_take, List.length_take, ← HL.out] at hz
              split at hz
              · rw [← hz]; congr 1; have := HN.out; omega
              · cases hz
            have e1 : wr.cell? ⟨kB, j, none⟩ = some (.int .u16 z) := by rw [hb2.cell, hcu j z (Nat.le_refl _) hz]
            have e2 : wr.frozen? ⟨kB, j, none⟩ = false := hb2.frozen j
            have hbB : Below w.heap.size w wr := below_chg (bel0 hbA cB (Nat.le_refl _)) hch (Nat.le_refl _) (fun i hi h => by have := hbA.size; omega)
            have e3 : wr.cell? ⟨b, off + (k + 1 - nL + j), none⟩ = some (.int .u16 z) := (hbB.cell hbw).trans (HC.out _ _ hzs)
            have i0 : (0 : Int) ≤ (k : Int) + 1 - (nL : Int) + (j : Int) := by omega
            have i1 : (k : Int) + 1 - (nL : Int) + (j : Int) < (len : Int) := by omega
            have i2 : ((k : Int) + 1 - (nL : Int) + (j : Int)).toNat = k + 1 - nL + j := by omega
            have i3 : (j : Int) < (nL : Int) := by omega
            have HZ := Lib.hid hz
            have HCU := Lib.hid hcu
            have HBB := Lib.hid hbB
            clear hz hzs hcu hbB
            go_wp2_with fail
            go_quiet (fail)
            go_wp2_with fail
            go_roundw
            case rel => exact ⟨j + 1, _, by omega, by go_num, (hb2.drewN nq).set_ j _, by simpa using hcs, fun t z ht hz => by rw [Array.getElem?_setIfInBounds_ne (by omega)]; exact HCU.out t z (by omega) hz,
              (hch.drewN nq).setCell (p := ⟨kB, j, none⟩) (fun _ => rfl) _⟩
            case measure => simp [intOf]; omega
          · have hjn : j = nL := by omega
            have hwA := HrA.out.lt
            have hkA' := HrA.out.ltg kA rfl
            have r2 := (HrA.out.chg0 cB).chg hch (fun h => by omega) (fun i hi h => by cases hi; omega)
            have hbB : Below w.heap.size w wr := below_chg (bel0 hbA cB (Nat.le_refl _)) hch (Nat.le_refl _) (fun i hi h => by have := hbA.size; omega)
            have hlast : (L.map c16)[(L.map c16).length - 1]? = some [.int .u16 x] := by
              have e1 : L = lastN m (zs.take k ++ [x]) := by rw [HLd.out, List.take_add_one, HX.out]; rfl
              have := lastN_last m1 (zs.take k) x
              rw [← e1] at this
              rw [List.getElem?_map, List.length_map, this]
              rfl
            have HBB := Lib.hid hbB
            clear hb2 hcs hcu hch cB hbA hbB
            go_wp2_with fail
            refine (last_u16 _ (some kA) m (k + 1) _ _ _ r2 hlast (by omega)).mono ?_
            rintro e w' ⟨rfl, nD, rfl⟩
            go_wp2_with fail
            go_roundw
            case rel => exact ⟨k + 1, some kA, by omega, by go_num, by rw [← HLd.out]; exact r2.chg0 (chg0_drewN _ _), by intro i hi; cases hi; exact hkA, bel0 HBB.out (chg0_drewN _ _) (Nat.le_refl _)⟩
            case measure => simp [intOf]; omega
      · have hkl : k = len := by omega
        subst hkl
        have HB := Lib.hid hb
        clear hb hg1
        go_wp2_with fail
        refine (count_u16 _ g m k _ _ r1).mono ?_
        rintro e w' ⟨rfl, rfl⟩
        go_wp2_with fail
        go_ret
        exact ⟨rfl, HB.out⟩
end Go.Proofs.Ytlcanhghhdjleaa
