/- The document's Last and Best (chronobateref10): contracts, and that its Best is the fold's. -/
import Derived.Test.YtnfnonphccnbkaaStoreW
import Derived.Deep.RegionHeld3
set_option linter.unusedVariables false
namespace Go.Chron
open Go Go.RowKit
theorem bt_asymm {x y : Sam} (h : btOf x y = true) : btOf y x = false := by
  unfold btOf at *
  simp at *
  omega
theorem bt_neg {x y z : Sam} (h : btOf x y = false) (h' : btOf y z = false) : btOf x z = false := by
  unfold btOf at *
  simp at *
  omega
theorem bt_irrefl (x : Sam) : btOf x x = false := by unfold btOf; simp
theorem filter_snoc {L : List Sam} {n : Nat} {x : Sam} (hx : L[n]? = some x) (fr : Sam → Bool) : (L.take (n + 1)).filter fr = (L.take n).filter fr ++ [x].filter fr := by
  rw [List.take_add_one, hx, List.filter_append]; rfl
/-- What the fold finds among the first n: none is fresh; or the last one among the best. -/
def Found (fr : Sam → Bool) (M : List Sam) (n : Nat) : Option Sam → Prop
  | none => ∀ k z, k < n → M[k]? = some z → fr z = false
  | some y => ∃ i, i < n ∧ M[i]? = some y ∧ fr y = true ∧ (∀ k z, k < n → M[k]? = some z → fr z = true → btOf z y = false) ∧ ∀ k z, i < k → k < n → M[k]? = some z → fr z = true → btOf y z = true
theorem found (fr : Sam → Bool) (M : List Sam) : ∀ n, n ≤ M.length → Found fr M n (bestOf ((M.take n).filter fr)) := by
  intro n
  induction n with
  | zero => intro _ k z hk; omega
  | succ n ih =>
    intro hn
    obtain ⟨x, hx⟩ : ∃ x, M[n]? = some x := ⟨_, List.getElem?_eq_getElem (by omega)⟩
    have ih := ih (by omega)
    rw [filter_snoc hx]
    cases hf : fr x with
    | false =>
      rw [show [x].filter fr = [] by simp [hf], List.append_nil]
      cases hb : bestOf ((M.take n).filter fr) with
      | none =>
        rw [hb] at ih
        intro k z hk hz
        by_cases h : k = n
        · subst h; rw [hx] at hz; cases hz; exact hf
        · exact ih k z (by omega) hz
      | some y =>
        rw [hb] at ih
        obtain ⟨i, h1, h2, h3, h4, h5⟩ := ih
        refine ⟨i, by omega, h2, h3, fun k z hk hz hfz => ?_, fun k z hik hk hz hfz => ?_⟩
        · by_cases h : k = n
          · subst h; rw [hx] at hz; cases hz; rw [hf] at hfz; cases hfz
          · exact h4 k z (by omega) hz hfz
        · by_cases h : k = n
          · subst h; rw [hx] at hz; cases hz; rw [hf] at hfz; cases hfz
          · exact h5 k z hik (by omega) hz hfz
    | true =>
      rw [show [x].filter fr = [x] by simp [hf], bestOf_snoc]
      cases hb : bestOf ((M.take n).filter fr) with
      | none =>
        rw [hb] at ih
        refine ⟨n, by omega, hx, hf, fun k z hk hz hfz => ?_, fun k z hik hk hz hfz => by omega⟩
        by_cases h : k = n
        · subst h; rw [hx] at hz; cases hz; exact bt_irrefl _
        · have := ih k z (by omega) hz; rw [this] at hfz; cases hfz
      | some y =>
        rw [hb] at ih
        obtain ⟨i, h1, h2, h3, h4, h5⟩ := ih
        show Found fr M (n + 1) (if btOf y x then some y else some x)
        cases hyx : btOf y x with
        | true =>
          refine ⟨i, by omega, h2, h3, fun k z hk hz hfz => ?_, fun k z hik hk hz hfz => ?_⟩
          · by_cases h : k = n
            · subst h; rw [hx] at hz; cases hz; exact bt_asymm hyx
            · exact h4 k z (by omega) hz hfz
          · by_cases h : k = n
            · subst h; rw [hx] at hz; cases hz; exact hyx
            · exact h5 k z hik (by omega) hz hfz
        | false =>
          refine ⟨n, by omega, hx, hf, fun k z hk hz hfz => ?_, fun k z hik hk hz hfz => by omega⟩
          by_cases h : k = n
          · subst h; rw [hx] at hz; cases hz; exact bt_irrefl _
          · exact bt_neg (h4 k z (by omega) hz hfz) hyx
/-- What the document asks of the one at i. -/
def IsBest (fr : Sam → Bool) (M : List Sam) (i : Nat) : Prop := ∃ x, M[i]? = some x ∧ fr x = true ∧ ∀ (k : Nat) (z : Sam), M[k]? = some z → fr z = true → btOf z x = false
theorem best_at {fr : Sam → Bool} {M : List Sam} {i : Nat} {x : Sam} (hx : M[i]? = some x) (hb : IsBest fr M i) (hl : ∀ t, i < t → t < M.length → ¬ IsBest fr M t) : bestOf (M.filter fr) = some x := by
  have hf := found fr M M.length (Nat.le_refl _)
  rw [List.take_length] at hf
  obtain ⟨x', hx', hfx, hn⟩ := hb
  rw [hx] at hx'; cases hx'
  have hi : i < M.length := (List.getElem?_eq_some_iff.1 hx).1
  cases hbo : bestOf (M.filter fr) with
  | none =>
    rw [hbo] at hf
    have := hf i x hi hx
    rw [this] at hfx; cases hfx
  | some y =>
    rw [hbo] at hf
    obtain ⟨j, h1, h2, h3, h4, h5⟩ := hf
    have hj : IsBest fr M j := ⟨y, h2, h3, fun k z hz hfz => h4 k z (List.getElem?_eq_some_iff.1 hz).1 hz hfz⟩
    by_cases hij : i = j
    · subst hij; rw [hx] at h2; cases h2; rfl
    · by_cases h : i < j
      · exact absurd hj (hl j h h1)
      · have := h5 i x (by omega) hi hx hfx
        rw [hn j y h2 h3] at this; cases this
theorem best_none {fr : Sam → Bool} {M : List Sam} (hl : ∀ t, t < M.length → ¬ IsBest fr M t) : bestOf (M.filter fr) = none := by
  have hf := found fr M M.length (Nat.le_refl _)
  rw [List.take_length] at hf
  cases hbo : bestOf (M.filter fr) with
  | none => rfl
  | some y =>
    rw [hbo] at hf
    obtain ⟨j, h1, h2, h3, h4, h5⟩ := hf
    exact absurd ⟨y, h2, h3, fun k z hz hfz => h4 k z (List.getElem?_eq_some_iff.1 hz).1 hz hfz⟩ (hl j h1)
theorem put4 {W : World} {g : Nat} {cur : Array Value} (h : Blk W g 28 cur) (hs : cur.size = 4) (a b c d : Int) :
    Blk ((((W.setCell ⟨g, 0, none⟩ (.int .i64 a)).setCell ⟨g, 1, none⟩ (.int .i64 b)).setCell ⟨g, 2, none⟩ (.int .i64 c)).setCell ⟨g, 3, none⟩ (.int .i64 d)) g 28 #[.int .i64 a, .int .i64 b, .int .i64 c, .int .i64 d] ∧
    Chg (fun i => i = g) W ((((W.setCell ⟨g, 0, none⟩ (.int .i64 a)).setCell ⟨g, 1, none⟩ (.int .i64 b)).setCell ⟨g, 2, none⟩ (.int .i64 c)).setCell ⟨g, 3, none⟩ (.int .i64 d)) := by
  refine ⟨?_, ((((Chg.refl (fun i => i = g) W).setCell (p := ⟨g, 0, none⟩) (fun _ => rfl) _).setCell (p := ⟨g, 1, none⟩) (fun _ => rfl) _).setCell (p := ⟨g, 2, none⟩) (fun _ => rfl) _).setCell (p := ⟨g, 3, none⟩) (fun _ => rfl) _⟩
  have := (((h.set_ 0 (.int .i64 a)).set_ 1 (.int .i64 b)).set_ 2 (.int .i64 c)).set_ 3 (.int .i64 d)
  match cur, hs with
  | ⟨[v0, v1, v2, v3]⟩, _ => simpa using this
end Go.Chron
namespace Go.Proofs.Ytnfnonphccnbkaa
open Go.RowKit Go.Chron

set_option maxRecDepth 100000 in
set_option maxHeartbeats 800000 in
theorem refLast (a : Option Addr) (len cap : Nat) (L : List Sam) (w : World) (hlen : len = L.length) (hcap : len ≤ cap) (hcm : cap ≤ 9223372036854775807) (hR : Reads w 4 a (L.map samc)) :
    Calls Try.prog 26 #[.slice a len cap] w fun e w' => ∃ a' cap', e = .returned (.slice a' (lastN 8 L).length cap') ∧ (lastN 8 L).length ≤ cap' ∧ cap' ≤ 9223372036854775807 ∧ (∀ W, Reads W 4 a (L.map samc) → Reads W 4 a' ((lastN 8 L).map samc)) ∧ w = w' := by
  by_cases h8 : 8 < len
  · obtain ⟨b, off, rfl, hc⟩ := hR (by simp; omega)
    have hL : (lastN 8 L).length = 8 := by rw [lastN_len]; omega
    rw [hL]
    have i0 : (0 : Int) ≤ (len : Int) - 8 := by omega
    have i1 : (len : Int) - 8 ≤ (len : Int) := by omega
    have i2 : ((len : Int) - 8).toNat = len - 8 := by omega
    have HL := Lib.hid hlen
    clear hc hlen hL hR
    go_enter Try.func26, Try.ntmps26
    go_wp2_with fail
    go_ret
    refine ⟨some ⟨b, off + (len - 8) * 4, none⟩, cap - (len - 8), ?_, by omega, by omega, ?_, rfl⟩
    · rw [show len - (len - 8) = 8 by omega]; rfl
    · intro W hW hp
      obtain ⟨b', off', hb', hc⟩ := hW (by simp; have := HL.out; omega)
      cases hb'
      refine ⟨b, off + (len - 8) * 4, rfl, fun i x hx j u hu => ?_⟩
      rw [List.getElem?_map, lastN_get, ← List.getElem?_map, ← HL.out] at hx
      have := hc _ x hx j u hu
      rw [show off + (len - 8) * 4 + (i * 4 + j) = off + ((len - 8 + i) * 4 + j) by omega]
      exact this
  · have hL : lastN 8 L = L := by unfold lastN; rw [Nat.sub_eq_zero_of_le (by omega)]; rfl
    rw [hL, ← hlen]
    have HR := Lib.hid hR
    clear hR hL hlen
    go_enter Try.func26, Try.ntmps26
    go_wp2_with fail
    go_ret
    exact ⟨a, cap, rfl, hcap, hcm, fun _ h => h, rfl⟩

def RefInv (W0 : World) (fr : Sam → Bool) (M : List Sam) (n : Nat) (i : Value) (wr : World) : Prop :=
  ∃ z : Int, i = .int .i64 z ∧ -1 ≤ z ∧ z < n ∧ (∀ t : Nat, z < t → t < M.length → ¬ IsBest fr M t) ∧ Chg (fun _ => False) W0 wr

/-- 'none' in the document's Best, when k have been looked at. -/
def noneB (fr : Sam → Bool) (M : List Sam) (x : Sam) (k : Nat) : Bool := (M.take k).all (fun y => !(fr y && btOf y x))
def RefIn (W0 : World) (fr : Sam → Bool) (M : List Sam) (n : Nat) (x : Sam) (k nn : Value) (wr : World) : Prop :=
  ∃ j : Nat, j ≤ n ∧ k = .int .i64 j ∧ nn = .bool (noneB fr M x j) ∧ Chg (fun _ => False) W0 wr

theorem keepR {W0 w' : World} {bm om i j : Nat} {x y : Sam} (h : W0.cell? ⟨bm, om + j * 4, none⟩ = some (.int .i64 y.o) ∧ W0.cell? ⟨bm, om + j * 4 + 1, none⟩ = some (.int .i64 y.d) ∧ W0.cell? ⟨bm, om + j * 4 + 2, none⟩ = some (.int .i64 y.t) ∧ W0.cell? ⟨bm, om + j * 4 + 3, none⟩ = some (.int .i64 y.s) ∧ W0.cell? ⟨bm, om + i * 4, none⟩ = some (.int .i64 x.o) ∧ W0.cell? ⟨bm, om + i * 4 + 1, none⟩ = some (.int .i64 x.d) ∧ W0.cell? ⟨bm, om + i * 4 + 2, none⟩ = some (.int .i64 x.t) ∧ W0.cell? ⟨bm, om + i * 4 + 3, none⟩ = some (.int .i64 x.s)) (k : Chg (fun _ => False) W0 w') : (w'.cell? ⟨bm, om + j * 4, none⟩ = some (.int .i64 y.o) ∧ w'.cell? ⟨bm, om + j * 4 + 1, none⟩ = some (.int .i64 y.d) ∧ w'.cell? ⟨bm, om + j * 4 + 2, none⟩ = some (.int .i64 y.t) ∧ w'.cell? ⟨bm, om + j * 4 + 3, none⟩ = some (.int .i64 y.s) ∧ w'.cell? ⟨bm, om + i * 4, none⟩ = some (.int .i64 x.o) ∧ w'.cell? ⟨bm, om + i * 4 + 1, none⟩ = some (.int .i64 x.d) ∧ w'.cell? ⟨bm, om + i * 4 + 2, none⟩ = some (.int .i64 x.t) ∧ w'.cell? ⟨bm, om + i * 4 + 3, none⟩ = some (.int .i64 x.s)) ∧ Chg (fun _ => False) W0 w' := by
  obtain ⟨h0, h1, h2, h3, h4, h5, h6, h7⟩ := h
  exact ⟨⟨k.keep h0 id, k.keep h1 id, k.keep h2 id, k.keep h3 id, k.keep h4 id, k.keep h5 id, k.keep h6 id, k.keep h7 id⟩, k⟩
theorem noneB_succ {fr : Sam → Bool} {M : List Sam} {x y : Sam} {k : Nat} (hy : M[k]? = some y) : noneB fr M x (k + 1) = (noneB fr M x k && !(fr y && btOf y x)) := by
  unfold noneB
  rw [List.take_add_one, hy, List.all_append]
  simp

theorem noneB_false {fr : Sam → Bool} {M : List Sam} {x : Sam} {k : Nat} (hb : noneB fr M x k = false) (hk : k = M.length) (hn : ∀ (k : Nat) (z : Sam), M[k]? = some z → fr z = true → btOf z x = false) : noneB fr M x k = true := by
  unfold noneB
  rw [hk, List.take_length, List.all_eq_true]
  intro y hy
  obtain ⟨k, hky⟩ := List.mem_iff_getElem?.1 hy
  cases hf : fr y with
  | false => rfl
  | true => rw [hn k y hky hf]; rfl
theorem noneB_true {fr : Sam → Bool} {M : List Sam} {x : Sam} {k : Nat} (hb : noneB fr M x k = true) (hk : k = M.length) : ∀ (k : Nat) (z : Sam), M[k]? = some z → fr z = true → btOf z x = false := by
  intro t z hz hf
  unfold noneB at hb
  rw [hk, List.take_length, List.all_eq_true] at hb
  have := hb z (List.mem_of_getElem? hz)
  rw [hf] at this
  simpa using this

set_option maxRecDepth 100000 in
set_option maxHeartbeats 6400000 in
theorem refBest (a : Option Addr) (len cap : Nat) (L : List Sam) (hok : ∀ x ∈ L, x.Ok) (h life sl : Int) (hh : In64 h) (hsl : In64 sl) (w : World) (hlen : len = L.length) (hcap : len ≤ cap) (hcm : cap ≤ 9223372036854775807) (hR : Reads w 4 a (L.map samc)) :
    Calls Try.prog 24 #[.slice a len cap, .int .i64 h, .int .i64 life, .int .i64 sl] w fun e w' => e = .returned (bestRes (bestOf ((lastN 8 L).filter (frOf · h life))) sl) ∧ Chg (fun _ => False) w w' := by
  have HR := Lib.hid hR
  have HH := Lib.hid hh
  have HSL := Lib.hid hsl
  have HOK := Lib.hid hok
  have HLE := Lib.hid hlen
  clear hR hh hsl hok hlen
  go_enter Try.func24, Try.ntmps24
  go_wp2_with fail
  refine (refLast a len cap L _ HLE.out hcap hcm (HR.out.chg (chg0_alloc w (Obj.cells #[.int .i64 0, .int .i64 0, .int .i64 0, .int .i64 0] 28)) (fun _ _ h => h))).mono ?_
  rintro e w' ⟨a', cap', rfl, hc1, hc2, hRR', rfl⟩
  have hR' := hRR' _ (HR.out.chg (chg0_alloc w (Obj.cells #[.int .i64 0, .int .i64 0, .int .i64 0, .int .i64 0] 28)) (fun _ _ h => h))
  have hRw := hRR' _ HR.out
  clear hRR'
  have hL8 : (lastN 8 L).length ≤ 8 := by rw [lastN_len]; omega
  obtain ⟨M, hM⟩ : ∃ M, M = lastN 8 L := ⟨_, rfl⟩
  obtain ⟨n, hn⟩ : ∃ n, n = (lastN 8 L).length := ⟨_, rfl⟩
  have hMok : ∀ x ∈ M, x.Ok := fun x hx => HOK.out x (List.mem_of_mem_drop (by rw [hM] at hx; exact hx))
  rw [← hn] at hL8 hc1 ⊢
  rw [← hM] at hR' hRw hn
  have HME := Lib.hid hM
  have b8 := Blk.new w 28 #[.int .i64 0, .int .i64 0, .int .i64 0, .int .i64 0]
  have cW : Chg (fun _ => False) w (w.alloc (Obj.cells #[.int .i64 0, .int .i64 0, .int .i64 0, .int .i64 0] 28)) := chg0_alloc w _
  generalize w.alloc (Obj.cells #[.int .i64 0, .int .i64 0, .int .i64 0, .int .i64 0] 28) = W0 at *
  have HN := Lib.hid hn
  have HMK := Lib.hid hMok
  have HRR := Lib.hid hR'
  have HRW := Lib.hid hRw
  clear hM hcap hcm hn hMok hR' hRw
  go_wp2_with fail
  go_loopw [11] (fun i wr => RefInv W0 (frOf · h life) M n i wr) (fun i _ => (intOf i + 1).toNat)
  case atStart => exact ⟨_, rfl, by omega, by omega, fun t h1 h2 => by rw [← HN.out] at h2; omega, Chg.refl _ _⟩
  case round =>
    obtain ⟨z, rfl, hz1, hz2, hno, cR⟩ := hrel
    by_cases hz : 0 ≤ z
    · obtain ⟨i, rfl⟩ : ∃ i : Nat, z = i := ⟨z.toNat, by omega⟩
      obtain ⟨x, hx⟩ : ∃ x, M[i]? = some x := ⟨_, List.getElem?_eq_getElem (by rw [← HN.out]; omega)⟩
      obtain ⟨bm, om, rfl, hcm⟩ := HRR.out (by rw [List.length_map, ← HN.out]; omega)
      have hxx : (M.map samc)[i]? = some (samc x) := by rw [List.getElem?_map, hx]; rfl
      have hbm : bm < w.heap.size := by
        obtain ⟨bm', om', hbe, hcw⟩ := HRW.out (by rw [List.length_map, ← HN.out]; omega)
        cases hbe
        exact World.block_lt_of_cell? w _ (hcw i _ hxx 0 _ rfl)
      have e0 := cR.keep (hcm i _ hxx 0 _ rfl) (fun h => h)
      have e1 := cR.keep (hcm i _ hxx 1 _ rfl) (fun h => h)
      have e2 := cR.keep (hcm i _ hxx 2 _ rfl) (fun h => h)
      have e3 := cR.keep (hcm i _ hxx 3 _ rfl) (fun h => h)
      simp only [Nat.add_zero] at e0
      rw [← Nat.add_assoc] at e1 e2 e3
      have hin : (i : Int) < (n : Int) := by omega
      have hxok := HMK.out x (List.mem_of_getElem? hx)
      have HNO := Lib.hid hno
      have HX := Lib.hid hx
      clear hno hx
      obtain ⟨fx, hfx⟩ : ∃ fx, fx = frOf x h life := ⟨_, rfl⟩
      have F : ∀ W : World, Calls Try.prog 27 #[.agg #[.int .i64 x.o, .int .i64 x.d, .int .i64 x.t, .int .i64 x.s], .int .i64 h, .int .i64 life] W fun e w' => e = .returned (.bool fx) ∧ Chg (fun _ => False) W w' := fun W => by
        rw [hfx]; exact fresh27 x.o x.d x.t x.s h life hxok.t HH.out W
      have HF := Lib.hid F
      have HFX := Lib.hid hfx
      clear F hfx
      cases fx with
      | false =>
        go_wp2_with fail
        refine (HF.out _).mono ?_
        rintro e wB ⟨rfl, cB⟩
        have cR2 := cR.trans cB
        clear cR cB e0 e1 e2 e3
        go_wp2_with fail
        go_roundw
        case rel =>
          refine ⟨_, rfl, by omega, by omega, fun t h1 h2 hb => ?_, cR2⟩
          by_cases hti : t = i
          · subst hti
            obtain ⟨x', hx', hf', _⟩ := hb
            rw [HX.out] at hx'; cases hx'
            have hf2 : frOf x h life = true := hf'
            rw [← HFX.out] at hf2; cases hf2
          · exact HNO.out t (by omega) h2 hb
        case measure => simp [intOf]
      | true =>
        go_wp2_with fail
        refine (HF.out _).mono ?_
        rintro e wB ⟨rfl, cB⟩
        have cR2 := cR.trans cB
        clear cR cB e0 e1 e2 e3
        go_wp2_with fail
        go_loopw [13, 12] (fun k nn wr => RefIn W0 (frOf · h life) M n x k nn wr) (fun k _ _ => n - (intOf k).toNat)
        case atStart => exact ⟨0, by omega, rfl, rfl, cR2⟩
        case round =>
          clear cR2
          obtain ⟨j, hj, rfl, rfl, cJ⟩ := hrel
          by_cases hjn : j < n
          · obtain ⟨y, hy⟩ : ∃ y, M[j]? = some y := ⟨_, List.getElem?_eq_getElem (by rw [← HN.out]; omega)⟩
            have hyy : (M.map samc)[j]? = some (samc y) := by rw [List.getElem?_map, hy]; rfl
            have HC8 := Lib.hid (show W0.cell? ⟨bm, om + j * 4, none⟩ = some (.int .i64 y.o) ∧ W0.cell? ⟨bm, om + j * 4 + 1, none⟩ = some (.int .i64 y.d) ∧ W0.cell? ⟨bm, om + j * 4 + 2, none⟩ = some (.int .i64 y.t) ∧ W0.cell? ⟨bm, om + j * 4 + 3, none⟩ = some (.int .i64 y.s) ∧ W0.cell? ⟨bm, om + i * 4, none⟩ = some (.int .i64 x.o) ∧ W0.cell? ⟨bm, om + i * 4 + 1, none⟩ = some (.int .i64 x.d) ∧ W0.cell? ⟨bm, om + i * 4 + 2, none⟩ = some (.int .i64 x.t) ∧ W0.cell? ⟨bm, om + i * 4 + 3, none⟩ = some (.int .i64 x.s) from by
              refine ⟨hcm j _ hyy 0 _ rfl, ?_, ?_, ?_, hcm i _ hxx 0 _ rfl, ?_, ?_, ?_⟩
              · rw [Nat.add_assoc]; exact hcm j _ hyy 1 _ rfl
              · rw [Nat.add_assoc]; exact hcm j _ hyy 2 _ rfl
              · rw [Nat.add_assoc]; exact hcm j _ hyy 3 _ rfl
              · rw [Nat.add_assoc]; exact hcm i _ hxx 1 _ rfl
              · rw [Nat.add_assoc]; exact hcm i _ hxx 2 _ rfl
              · rw [Nat.add_assoc]; exact hcm i _ hxx 3 _ rfl)
            have hyok := HMK.out y (List.mem_of_getElem? hy)
            have hstep := noneB_succ (fr := (frOf · h life)) (x := x) hy
            obtain ⟨fy, hfy⟩ : ∃ fy, fy = frOf y h life := ⟨_, rfl⟩
            have FY : ∀ W : World, Calls Try.prog 27 #[.agg #[.int .i64 y.o, .int .i64 y.d, .int .i64 y.t, .int .i64 y.s], .int .i64 h, .int .i64 life] W fun e w' => e = .returned (.bool fy) ∧ Chg (fun _ => False) W w' := fun W => by
              rw [hfy]; exact fresh27 y.o y.d y.t y.s h life hyok.t HH.out W
            have HFY := Lib.hid FY
            have hst2 : noneB (frOf · h life) M x (j + 1) = (noneB (frOf · h life) M x j && !(fy && btOf y x)) := by rw [hstep, hfy]
            obtain ⟨bb, hbb⟩ : ∃ bb, bb = btOf y x := ⟨_, rfl⟩
            have F52 : ∀ W : World, Calls Try.prog 52 #[.agg #[.int .i64 y.o, .int .i64 y.d, .int .i64 y.t, .int .i64 y.s], .agg #[.int .i64 x.o, .int .i64 x.d, .int .i64 x.t, .int .i64 x.s]] W fun e w' => e = .returned (.bool bb) ∧ Chg (fun _ => False) W w' := fun W => by
              rw [hbb]; exact better52 y.o y.d y.t y.s x.o x.d x.t x.s W
            have HF52 := Lib.hid F52
            rw [← hbb] at hst2
            have HST := Lib.hid hst2
            clear F52 hbb
            have hjn' : (j : Int) < (n : Int) := by omega
            clear FY hfy hstep hst2 hy hyy
            go_wp2_with fail
            cases fy with
            | false =>
              refine wp_region_held_drew (S := (fun w' => (w'.cell? ⟨bm, om + j * 4, none⟩ = some (.int .i64 y.o) ∧ w'.cell? ⟨bm, om + j * 4 + 1, none⟩ = some (.int .i64 y.d) ∧ w'.cell? ⟨bm, om + j * 4 + 2, none⟩ = some (.int .i64 y.t) ∧ w'.cell? ⟨bm, om + j * 4 + 3, none⟩ = some (.int .i64 y.s) ∧ w'.cell? ⟨bm, om + i * 4, none⟩ = some (.int .i64 x.o) ∧ w'.cell? ⟨bm, om + i * 4 + 1, none⟩ = some (.int .i64 x.d) ∧ w'.cell? ⟨bm, om + i * 4 + 2, none⟩ = some (.int .i64 x.t) ∧ w'.cell? ⟨bm, om + i * 4 + 3, none⟩ = some (.int .i64 x.s)) ∧ Chg (fun _ => False) W0 w')) (by kernel_rfl) (keepR HC8.out (Chg.drew cJ)) (fun hHeld => ?_)
              refine wpAnyH_take (i := 0) (oi := ⟨some 37, _, _, _, _, _⟩) (v := Value.slice (some ⟨bm, om, none⟩) n cap') rfl (by kernel_rfl) (by kernel_rfl) (by kernel_rfl) (fun _ _ _ h => h) (Or.inl ⟨by rfl, fun w hSw => by (try dsimp only at hSw); go_simp⟩) hHeld ?_
              try simp only [Act.put, List.setIfInBounds_toArray, List.set_cons_zero, List.set_cons_succ]
              refine wpAnyH_take (i := 1) (oi := ⟨some 38, _, _, _, _, _⟩) (v := Value.int .i64 j) rfl (by kernel_rfl) (by kernel_rfl) (by kernel_rfl) (fun _ _ _ h => h) (Or.inl ⟨by rfl, fun w hSw => by (try dsimp only at hSw); go_simp⟩) hHeld ?_
              try simp only [Act.put, List.setIfInBounds_toArray, List.set_cons_zero, List.set_cons_succ]
              refine wpAnyH_take (i := 2) (oi := ⟨some 39, _, _, _, _, _⟩) (v := Value.pointer (some ⟨bm, om + j * 4, none⟩)) rfl (by kernel_rfl) (by kernel_rfl) (by kernel_rfl) (fun _ _ _ h => h) (Or.inl ⟨by rfl, fun w hSw => by (try dsimp only at hSw); go_simp⟩) hHeld ?_
              try simp only [Act.put, List.setIfInBounds_toArray, List.set_cons_zero, List.set_cons_succ]
              refine wpAnyH_take (i := 3) (oi := ⟨some 40, _, _, _, _, _⟩) (v := Value.agg #[.int .i64 y.o, .int .i64 y.d, .int .i64 y.t, .int .i64 y.s]) rfl (by kernel_rfl) (by kernel_rfl) (by kernel_rfl) (fun _ _ _ h => h) (Or.inl ⟨by rfl, fun w hSw => by (try dsimp only at hSw); go_simp⟩) hHeld ?_
              try simp only [Act.put, List.setIfInBounds_toArray, List.set_cons_zero, List.set_cons_succ]
              refine wpAnyH_take (i := 4) (oi := ⟨some 41, _, _, _, _, _⟩) (v := Value.int .i64 h) rfl (by kernel_rfl) (by kernel_rfl) (by kernel_rfl) (fun _ _ _ h => h) (Or.inl ⟨by rfl, fun w hSw => by (try dsimp only at hSw); go_simp⟩) hHeld ?_
              try simp only [Act.put, List.setIfInBounds_toArray, List.set_cons_zero, List.set_cons_succ]
              refine wpAnyH_take (i := 5) (oi := ⟨some 42, _, _, _, _, _⟩) (v := Value.int .i64 life) rfl (by kernel_rfl) (by kernel_rfl) (by kernel_rfl) (fun _ _ _ h => h) (Or.inl ⟨by rfl, fun w hSw => by (try dsimp only at hSw); go_simp⟩) hHeld ?_
              try simp only [Act.put, List.setIfInBounds_toArray, List.set_cons_zero, List.set_cons_succ]
              refine wpAnyH_ready (rs := [6]) (by kernel_rfl) (by simp) ?_
              refine AllReadyH.cons rfl (fun K hK => ?_) AllReadyH.nil
              go_simp
              go_at_call 27
              refine (HFY.out _).mono ?_
              rintro e wY ⟨rfl, c27⟩
              go_wp2_with fail
              refine hK.out _ _ (keepR HC8.out ((Chg.drew cJ).trans c27)) (fun hHeld2 => ?_)
              clear hK K
              try simp only [Act.put, List.setIfInBounds_toArray, List.set_cons_zero, List.set_cons_succ]
              refine wpAnyH_take (i := 7) (oi := ⟨some 44, _, _, _, _, _⟩) (v := Value.bool false) rfl (by kernel_rfl) (by kernel_rfl) (by kernel_rfl) (fun _ _ _ h => h) (Or.inl ⟨by rfl, fun w hSw => by (try dsimp only at hSw); go_simp⟩) hHeld2 ?_
              try simp only [Act.put, List.setIfInBounds_toArray, List.set_cons_zero, List.set_cons_succ]
              refine wpAnyH_take (i := 8) (oi := ⟨some 45, _, _, _, _, _⟩) (v := undef) rfl (by kernel_rfl) (by kernel_rfl) (by kernel_rfl) (fun _ _ _ h => h) (Or.inr ⟨by rfl, rfl⟩) hHeld2 ?_
              try simp only [Act.put, List.setIfInBounds_toArray, List.set_cons_zero, List.set_cons_succ]
              refine wpAnyH_take (i := 9) (oi := ⟨some 46, _, _, _, _, _⟩) (v := undef) rfl (by kernel_rfl) (by kernel_rfl) (by kernel_rfl) (fun _ _ _ h => h) (Or.inr ⟨by rfl, rfl⟩) hHeld2 ?_
              try simp only [Act.put, List.setIfInBounds_toArray, List.set_cons_zero, List.set_cons_succ]
              refine wpAnyH_take (i := 10) (oi := ⟨some 47, _, _, _, _, _⟩) (v := undef) rfl (by kernel_rfl) (by kernel_rfl) (by kernel_rfl) (fun _ _ _ h => h) (Or.inr ⟨by rfl, rfl⟩) hHeld2 ?_
              try simp only [Act.put, List.setIfInBounds_toArray, List.set_cons_zero, List.set_cons_succ]
              refine wpAnyH_take (i := 11) (oi := ⟨some 48, _, _, _, _, _⟩) (v := undef) rfl (by kernel_rfl) (by kernel_rfl) (by kernel_rfl) (fun _ _ _ h => h) (Or.inr ⟨by rfl, rfl⟩) hHeld2 ?_
              try simp only [Act.put, List.setIfInBounds_toArray, List.set_cons_zero, List.set_cons_succ]
              refine wpAnyH_take (i := 12) (oi := ⟨some 49, _, _, _, _, _⟩) (v := undef) rfl (by kernel_rfl) (by kernel_rfl) (by kernel_rfl) (fun _ _ _ h => h) (Or.inr ⟨by rfl, rfl⟩) hHeld2 ?_
              try simp only [Act.put, List.setIfInBounds_toArray, List.set_cons_zero, List.set_cons_succ]
              refine wpAnyH_take (i := 13) (oi := ⟨some 50, _, _, _, _, _⟩) (v := undef) rfl (by kernel_rfl) (by kernel_rfl) (by kernel_rfl) (fun _ _ _ h => h) (Or.inr ⟨by rfl, rfl⟩) hHeld2 ?_
              try simp only [Act.put, List.setIfInBounds_toArray, List.set_cons_zero, List.set_cons_succ]
              refine wpAnyH_take (i := 14) (oi := ⟨some 51, _, _, _, _, _⟩) (v := undef) rfl (by kernel_rfl) (by kernel_rfl) (by kernel_rfl) (fun _ _ _ h => h) (Or.inr ⟨by rfl, rfl⟩) hHeld2 ?_
              try simp only [Act.put, List.setIfInBounds_toArray, List.set_cons_zero, List.set_cons_succ]
              refine wpAnyH_take (i := 15) (oi := ⟨some 52, _, _, _, _, _⟩) (v := undef) rfl (by kernel_rfl) (by kernel_rfl) (by kernel_rfl) (fun _ _ _ h => h) (Or.inr ⟨by rfl, rfl⟩) hHeld2 ?_
              try simp only [Act.put, List.setIfInBounds_toArray, List.set_cons_zero, List.set_cons_succ]
              refine wpAnyH_take (i := 16) (oi := ⟨some 53, _, _, _, _, _⟩) (v := undef) rfl (by kernel_rfl) (by kernel_rfl) (by kernel_rfl) (fun _ _ _ h => h) (Or.inr ⟨by rfl, rfl⟩) hHeld2 ?_
              try simp only [Act.put, List.setIfInBounds_toArray, List.set_cons_zero, List.set_cons_succ]
              refine wpAnyH_take (i := 17) (oi := ⟨some 54, _, _, _, _, _⟩) (v := Value.bool false) rfl (by kernel_rfl) (by kernel_rfl) (by kernel_rfl) (fun _ _ _ h => h) (Or.inl ⟨by rfl, fun w hSw => by (try dsimp only at hSw); go_simp⟩) hHeld2 ?_
              try simp only [Act.put, List.setIfInBounds_toArray, List.set_cons_zero, List.set_cons_succ]
              refine wpAnyH_done (by kernel_rfl) ?_ _
              go_wp2_with fail
              go_roundw
              case rel => exact ⟨j + 1, by omega, by go_num, by rw [HST.out]; simp, (Chg.drew cJ).trans c27⟩
              case measure => simp [intOf]; omega
            | true =>
              cases bb with
              | false =>
                go_region_held3 (fun w' => (w'.cell? ⟨bm, om + j * 4, none⟩ = some (.int .i64 y.o) ∧ w'.cell? ⟨bm, om + j * 4 + 1, none⟩ = some (.int .i64 y.d) ∧ w'.cell? ⟨bm, om + j * 4 + 2, none⟩ = some (.int .i64 y.t) ∧ w'.cell? ⟨bm, om + j * 4 + 3, none⟩ = some (.int .i64 y.s) ∧ w'.cell? ⟨bm, om + i * 4, none⟩ = some (.int .i64 x.o) ∧ w'.cell? ⟨bm, om + i * 4 + 1, none⟩ = some (.int .i64 x.d) ∧ w'.cell? ⟨bm, om + i * 4 + 2, none⟩ = some (.int .i64 x.t) ∧ w'.cell? ⟨bm, om + i * 4 + 3, none⟩ = some (.int .i64 x.s)) ∧ Chg (fun _ => False) W0 w') (first | (refine keepR HC8.out ?_; first | exact Chg.drew cJ | exact Chg.trans (And.right (by assumption)) (by assumption) | exact And.right (by assumption)))
                  (first
                    | (go_at_call 27; refine (HFY.out _).mono ?_; rintro e w' ⟨rfl, c27⟩)
                    | (go_at_call 52; refine (HF52.out _).mono ?_; rintro e w' ⟨rfl, c52⟩))
                go_wp2_with fail
                go_roundw
                case rel => exact ⟨j + 1, by omega, by go_num, by rw [HST.out]; simp, And.right (by assumption)⟩
                case measure => simp [intOf]; omega
              | true =>
                go_region_held3 (fun w' => (w'.cell? ⟨bm, om + j * 4, none⟩ = some (.int .i64 y.o) ∧ w'.cell? ⟨bm, om + j * 4 + 1, none⟩ = some (.int .i64 y.d) ∧ w'.cell? ⟨bm, om + j * 4 + 2, none⟩ = some (.int .i64 y.t) ∧ w'.cell? ⟨bm, om + j * 4 + 3, none⟩ = some (.int .i64 y.s) ∧ w'.cell? ⟨bm, om + i * 4, none⟩ = some (.int .i64 x.o) ∧ w'.cell? ⟨bm, om + i * 4 + 1, none⟩ = some (.int .i64 x.d) ∧ w'.cell? ⟨bm, om + i * 4 + 2, none⟩ = some (.int .i64 x.t) ∧ w'.cell? ⟨bm, om + i * 4 + 3, none⟩ = some (.int .i64 x.s)) ∧ Chg (fun _ => False) W0 w') (first | (refine keepR HC8.out ?_; first | exact Chg.drew cJ | exact Chg.trans (And.right (by assumption)) (by assumption) | exact And.right (by assumption)))
                  (first
                    | (go_at_call 27; refine (HFY.out _).mono ?_; rintro e w' ⟨rfl, c27⟩)
                    | (go_at_call 52; refine (HF52.out _).mono ?_; rintro e w' ⟨rfl, c52⟩))
                go_wp2_with fail
                go_roundw
                case rel => exact ⟨j + 1, by omega, by go_num, by rw [HST.out]; simp, And.right (by assumption)⟩
                case measure => simp [intOf]; omega
          · obtain rfl : j = n := by omega
            cases hnb : noneB (frOf · h life) M x j with
            | false =>
              go_wp2_with fail
              go_roundw
              case rel =>
                refine ⟨_, rfl, by omega, by omega, fun t h1 h2 hb => ?_, cJ⟩
                by_cases hti : t = i
                · subst hti
                  obtain ⟨x', hx', hf', hn'⟩ := hb
                  rw [HX.out] at hx'; cases hx'
                  rw [noneB_false hnb (by rw [← HN.out]) hn'] at hnb
                  cases hnb
                · exact HNO.out t (by omega) h2 hb
              case measure => simp [intOf]
            | true =>
              go_wp2_with fail
              have k0 := hcm i _ hxx 0 _ rfl
              have k1 := hcm i _ hxx 1 _ rfl
              have k2 := hcm i _ hxx 2 _ rfl
              have k3 := hcm i _ hxx 3 _ rfl
              simp only [Nat.add_zero] at k0
              rw [← Nat.add_assoc] at k1 k2 k3
              have cD := Chg.drew cJ
              have hij : (i : Int) < (j : Int) := by omega
              have hbest : IsBest (frOf · h life) M i := ⟨x, HX.out, HFX.out.symm, noneB_true hnb HN.out⟩
              have HAT := Lib.hid (best_at HX.out hbest (fun t ht => HNO.out t (by omega)))
              clear hnb hbest
              refine wp_region_held_drew (S := (fun w' => w'.cell? ⟨bm, om + i * 4, none⟩ = some (.int .i64 x.o) ∧ w'.cell? ⟨bm, om + i * 4 + 1, none⟩ = some (.int .i64 x.d) ∧ w'.cell? ⟨bm, om + i * 4 + 2, none⟩ = some (.int .i64 x.t) ∧ w'.cell? ⟨bm, om + i * 4 + 3, none⟩ = some (.int .i64 x.s))) (by kernel_rfl) ⟨cD.keep k0 id, cD.keep k1 id, cD.keep k2 id, cD.keep k3 id⟩ (fun hHeld => ?_)
              refine wpAnyH_take (i := 0) (oi := ⟨some 56, _, _, _, _, _⟩) (v := Value.slice (some ⟨bm, om, none⟩) j cap') rfl (by kernel_rfl) (by kernel_rfl) (by kernel_rfl) (fun _ _ _ h => h) (Or.inl ⟨by rfl, fun w hSw => by (try dsimp only at hSw); go_simp⟩) hHeld ?_
              try simp only [Act.put, List.setIfInBounds_toArray, List.set_cons_zero, List.set_cons_succ]
              refine wpAnyH_take (i := 1) (oi := ⟨some 57, _, _, _, _, _⟩) (v := Value.int .i64 i) rfl (by kernel_rfl) (by kernel_rfl) (by kernel_rfl) (fun _ _ _ h => h) (Or.inl ⟨by rfl, fun w hSw => by (try dsimp only at hSw); go_simp⟩) hHeld ?_
              try simp only [Act.put, List.setIfInBounds_toArray, List.set_cons_zero, List.set_cons_succ]
              refine wpAnyH_take (i := 2) (oi := ⟨some 58, _, _, _, _, _⟩) (v := Value.pointer (some ⟨bm, om + i * 4, none⟩)) rfl (by kernel_rfl) (by kernel_rfl) (by kernel_rfl) (fun _ _ _ h => h) (Or.inl ⟨by rfl, fun w hSw => by (try dsimp only at hSw); go_simp⟩) hHeld ?_
              try simp only [Act.put, List.setIfInBounds_toArray, List.set_cons_zero, List.set_cons_succ]
              refine wpAnyH_take (i := 3) (oi := ⟨some 59, _, _, _, _, _⟩) (v := Value.agg #[.int .i64 x.o, .int .i64 x.d, .int .i64 x.t, .int .i64 x.s]) rfl (by kernel_rfl) (by kernel_rfl) (by kernel_rfl) (fun _ _ _ h => h) (Or.inl ⟨by rfl, fun w hSw => by (try dsimp only at hSw); go_simp⟩) hHeld ?_
              try simp only [Act.put, List.setIfInBounds_toArray, List.set_cons_zero, List.set_cons_succ]
              refine wpAnyH_take (i := 4) (oi := ⟨some 60, _, _, _, _, _⟩) (v := Value.slice (some ⟨bm, om, none⟩) j cap') rfl (by kernel_rfl) (by kernel_rfl) (by kernel_rfl) (fun _ _ _ h => h) (Or.inl ⟨by rfl, fun w hSw => by (try dsimp only at hSw); go_simp⟩) hHeld ?_
              try simp only [Act.put, List.setIfInBounds_toArray, List.set_cons_zero, List.set_cons_succ]
              refine wpAnyH_take (i := 5) (oi := ⟨some 61, _, _, _, _, _⟩) (v := Value.int .i64 i) rfl (by kernel_rfl) (by kernel_rfl) (by kernel_rfl) (fun _ _ _ h => h) (Or.inl ⟨by rfl, fun w hSw => by (try dsimp only at hSw); go_simp⟩) hHeld ?_
              try simp only [Act.put, List.setIfInBounds_toArray, List.set_cons_zero, List.set_cons_succ]
              refine wpAnyH_take (i := 6) (oi := ⟨some 62, _, _, _, _, _⟩) (v := Value.pointer (some ⟨bm, om + i * 4, none⟩)) rfl (by kernel_rfl) (by kernel_rfl) (by kernel_rfl) (fun _ _ _ h => h) (Or.inl ⟨by rfl, fun w hSw => by (try dsimp only at hSw); go_simp⟩) hHeld ?_
              try simp only [Act.put, List.setIfInBounds_toArray, List.set_cons_zero, List.set_cons_succ]
              refine wpAnyH_take (i := 7) (oi := ⟨some 63, _, _, _, _, _⟩) (v := Value.agg #[.int .i64 x.o, .int .i64 x.d, .int .i64 x.t, .int .i64 x.s]) rfl (by kernel_rfl) (by kernel_rfl) (by kernel_rfl) (fun _ _ _ h => h) (Or.inl ⟨by rfl, fun w hSw => by (try dsimp only at hSw); go_simp⟩) hHeld ?_
              try simp only [Act.put, List.setIfInBounds_toArray, List.set_cons_zero, List.set_cons_succ]
              refine wpAnyH_take (i := 8) (oi := ⟨some 64, _, _, _, _, _⟩) (v := Value.int .i64 sl) rfl (by kernel_rfl) (by kernel_rfl) (by kernel_rfl) (fun _ _ _ h => h) (Or.inl ⟨by rfl, fun w hSw => by (try dsimp only at hSw); go_simp⟩) hHeld ?_
              try simp only [Act.put, List.setIfInBounds_toArray, List.set_cons_zero, List.set_cons_succ]
              refine wpAnyH_ready (rs := [9]) (by kernel_rfl) (by simp) ?_
              refine AllReadyH.cons rfl (fun K hK => ?_) AllReadyH.nil
              go_simp
              go_at_call 28
              refine (now28 x.o x.d x.t x.s sl hxok.o hxok.s HSL.out _).mono ?_
              rintro e wN ⟨rfl, c28⟩
              have cN := cD.trans c28
              go_wp2_with fail
              refine hK.out _ _ ⟨cN.keep k0 id, cN.keep k1 id, cN.keep k2 id, cN.keep k3 id⟩ (fun hHeld2 => ?_)
              clear hK K hHeld cD cJ c28
              try simp only [Act.put, List.setIfInBounds_toArray, List.set_cons_zero, List.set_cons_succ]
              have b8N := b8.chg cN (fun h => h)
              have y0 := b8N.cell 0
              have y1 := b8N.cell 1
              have y2 := b8N.cell 2
              have y3 := b8N.cell 3
              have g0 := b8N.frozen 0
              have g1 := b8N.frozen 1
              have g2 := b8N.frozen 2
              have g3 := b8N.frozen 3
              simp at y0 y1 y2 y3
              obtain ⟨p8, pc⟩ := put4 b8N rfl x.o x.d x.t x.s
              have hHeld3 := And.intro (pc.keep hHeld2.1 (by show ¬ bm = w.heap.size; omega)) (And.intro (pc.keep hHeld2.2.1 (by show ¬ bm = w.heap.size; omega)) (And.intro (pc.keep hHeld2.2.2.1 (by show ¬ bm = w.heap.size; omega)) (pc.keep hHeld2.2.2.2 (by show ¬ bm = w.heap.size; omega))))
              have HP8 := Lib.hid p8
              have HPC := Lib.hid pc
              have HH3 := Lib.hid hHeld3
              clear p8 pc hHeld3
              refine wpAnyH_ready (rs := [10]) (by kernel_rfl) (by simp) ?_
              refine AllReadyH.cons rfl (fun K hK => ?_) AllReadyH.nil
              go_simp
              refine hK.out _ _ HH3.out (fun hHeld4 => ?_)
              clear hK K hHeld2
              try simp only [Act.put, List.setIfInBounds_toArray, List.set_cons_zero, List.set_cons_succ]
              refine wpAnyH_take (i := 11) (oi := ⟨some 9, _, _, _, _, _⟩) (v := Value.int .i64 (nowOf x sl)) rfl (by kernel_rfl) (by kernel_rfl) (by kernel_rfl) (fun _ _ _ h => h) (Or.inl ⟨by rfl, fun w hSw => by (try dsimp only at hSw); go_simp⟩) hHeld4 ?_
              try simp only [Act.put, List.setIfInBounds_toArray, List.set_cons_zero, List.set_cons_succ]
              refine wpAnyH_take (i := 12) (oi := ⟨some 10, _, _, _, _, _⟩) (v := Value.bool true) rfl (by kernel_rfl) (by kernel_rfl) (by kernel_rfl) (fun _ _ _ h => h) (Or.inl ⟨by rfl, fun w hSw => by (try dsimp only at hSw); go_simp⟩) hHeld4 ?_
              try simp only [Act.put, List.setIfInBounds_toArray, List.set_cons_zero, List.set_cons_succ]
              refine wpAnyH_done (by kernel_rfl) ?_ _
              have p8 := HP8.out
              have pc := HPC.out
              clear hHeld4 HH3 HP8 HPC
              generalize (((wN.setCell ⟨w.heap.size, 0, none⟩ (.int .i64 x.o)).setCell ⟨w.heap.size, 1, none⟩ (.int .i64 x.d)).setCell ⟨w.heap.size, 2, none⟩ (.int .i64 x.t)).setCell ⟨w.heap.size, 3, none⟩ (.int .i64 x.s) = wF at p8 pc ⊢
              have q0 := p8.cell 0
              have q1 := p8.cell 1
              have q2 := p8.cell 2
              have q3 := p8.cell 3
              simp at q0 q1 q2 q3
              go_wp2_with fail
              exact bodyPost_ret (v := bestRes (some x) sl) (by simp [results, Try.results24, go_sem, q0, q1, q2, q3, bestRes]) rfl ⟨by rw [← HME.out, HAT.out], (cW.trans cN).trans' pc (fun i hi e => by omega)⟩
    · obtain rfl : z = -1 := by omega
      have b8' := b8.chg cR (fun h => h)
      have y0 := b8'.cell 0
      have y1 := b8'.cell 1
      have y2 := b8'.cell 2
      have y3 := b8'.cell 3
      have g0 := b8'.frozen 0
      have g1 := b8'.frozen 1
      have g2 := b8'.frozen 2
      have g3 := b8'.frozen 3
      simp at y0 y1 y2 y3
      have hnone : bestOf (M.filter (frOf · h life)) = none := best_none (fun t ht => hno t (by omega) ht)
      have HNONE := Lib.hid hnone
      clear hno hnone
      go_wp2_with fail
      obtain ⟨p8, pc⟩ := put4 b8' rfl 0 0 0 0
      generalize (((wr.setCell ⟨w.heap.size, 0, none⟩ (.int .i64 0)).setCell ⟨w.heap.size, 1, none⟩ (.int .i64 0)).setCell ⟨w.heap.size, 2, none⟩ (.int .i64 0)).setCell ⟨w.heap.size, 3, none⟩ (.int .i64 0) = wF at p8 pc ⊢
      have q0 := p8.cell 0
      have q1 := p8.cell 1
      have q2 := p8.cell 2
      have q3 := p8.cell 3
      simp at q0 q1 q2 q3
      exact bodyPost_ret (v := bestRes none sl) (by simp [results, Try.results24, go_sem, q0, q1, q2, q3, bestRes]) rfl ⟨by rw [← HME.out, HNONE.out], (cW.trans cR).trans' pc (fun i hi e => by omega)⟩
end Go.Proofs.Ytnfnonphccnbkaa
