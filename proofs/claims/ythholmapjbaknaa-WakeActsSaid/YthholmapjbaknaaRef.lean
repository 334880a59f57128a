/- The document's queue (chronobateref15): contracts of Drop, Set, Next and At. -/
import Derived.Test.YthholmapjbaknaaTwo
set_option linter.unusedVariables false
set_option linter.unusedSectionVars false
namespace Go.Chron
open Go Go.RowKit
abbrev SEnt := Ent (List UInt8)
def refc (e : SEnt) : List Value := [Go.Proofs.encStr e.k, .int .i64 e.d]
theorem owns_empty (e : TypeId) (sz : Nat) (w : World) : Owns (w.alloc (.cells #[] e)) e sz (.slice (some ⟨w.heap.size, 0, none⟩) 0 0) (some w.heap.size) [] :=
  ⟨by simp, .inr ⟨w.heap.size, 0, #[], rfl, rfl, Blk.new _ _ _, by simp, by simp, by simp, by simp⟩⟩
/-- The document's queue: its box in block p, its list in block g. -/
structure RefAt (w : World) (p : Nat) (g : Option Nat) (L : List SEnt) : Prop where
  at_ : ∃ v, Blk w p 50 #[v] ∧ Owns w 71 2 v g (L.map refc)
  ne : ∀ k, g = some k → k ≠ p
  ok : ∀ e ∈ L, OkS e.k ∧ In64 e.d
section
variable {w w' : World} {p : Nat} {g : Option Nat} {L : List SEnt} {S : Nat → Prop}
theorem RefAt.chg (h : RefAt w p g L) (hc : Chg S w w') (hp : ¬ S p) (hg : ∀ k, g = some k → ¬ S k) : RefAt w' p g L := by
  obtain ⟨v, hb, ho⟩ := h.at_
  exact ⟨⟨v, hb.chg hc hp, ho.chg hc hg⟩, h.ne, h.ok⟩
theorem RefAt.lt (h : RefAt w p g L) : p < w.heap.size ∧ ∀ k, g = some k → k < w.heap.size := by
  obtain ⟨v, hb, ho⟩ := h.at_
  exact ⟨hb.lt, ho.lt⟩
/-- The list's value. -/
theorem RefAt.form (h : RefAt w p g L) {n : Nat} (hn : n = L.length) : ∃ a cap, Blk w p 50 #[.slice a n cap] ∧ Owns w 71 2 (.slice a n cap) g (L.map refc) ∧ n ≤ cap ∧ cap ≤ maxLen := by
  subst hn
  obtain ⟨v, hb, ho⟩ := h.at_
  obtain ⟨a, cap, rfl, h1, h2, -, -⟩ := ho.form
  rw [List.length_map] at hb ho h1
  exact ⟨a, cap, hb, ho, h1, h2⟩
/-- What stands in the list at place j. -/
theorem RefAt.get {a : Option Addr} {n cap : Nat} (ho : Owns w 71 2 (.slice a n cap) g (L.map refc)) {j : Nat} {e : SEnt} (he : L[j]? = some e) :
    ∃ k, a = some ⟨k, 0, none⟩ ∧ g = some k ∧ w.cell? ⟨k, j * 2, none⟩ = some (Go.Proofs.encStr e.k) ∧ w.cell? ⟨k, j * 2 + 1, none⟩ = some (.int .i64 e.d) := by
  have hlt := (List.getElem?_eq_some_iff.1 he).1
  obtain ⟨k, rfl⟩ := ho.pos (by rw [List.length_map]; omega)
  obtain ⟨cap', hv, -, -⟩ := ho.some_form
  simp only [Value.slice.injEq] at hv
  have hx : (L.map refc)[j]? = some (refc e) := by rw [List.getElem?_map, he]; rfl
  have h0 := ho.cell rfl hx (j := 0) rfl
  have h1 := ho.cell rfl hx (j := 1) rfl
  rw [Nat.add_zero] at h0
  exact ⟨k, hv.1, rfl, h0, h1⟩
end
theorem dropL_take_succ {L : List SEnt} {j : Nat} {e : SEnt} {x : List UInt8} (he : L[j]? = some e) : dropL (L.take (j + 1)) x = dropL (L.take j) x ++ (if e.k = x then [] else [e]) := by
  unfold dropL
  rw [List.take_add_one, he, List.filter_append]
  congr 1
  by_cases h : e.k = x <;> simp [h]
theorem bytes_beq (x y : List UInt8) : (x == y) = decide (x = y) := by
  by_cases h : x = y
  · subst h; simp
  · rw [decide_eq_false h, beq_eq_false_iff_ne]; exact h
end Go.Chron
namespace Go.Proofs.Ythholmapjbaknaa
open Go.RowKit Go.Chron

theorem info71 : (Try.prog.info? 71).map (fun i => (i.zero, i.size, i.bytes)) = some (some (.agg #[.string ByteArray.empty, .int .i64 0]), 2, 24) := by kernel_rfl

/-- Drop's loop. -/
def RDInv (w : World) (L : List SEnt) (x : List UInt8) (n : Nat) (v i : Value) (wr : World) : Prop :=
  ∃ (j : Nat) (g : Option Nat), j ≤ n ∧ i = .int .i64 j ∧ Owns wr 71 2 v g ((dropL (L.take j) x).map refc) ∧ (∀ k, g = some k → w.heap.size ≤ k) ∧ Chg (fun _ => False) w wr

set_option maxRecDepth 100000 in
set_option maxHeartbeats 3200000 in
theorem refDrop (p : Nat) (g : Option Nat) (L : List SEnt) (x : List UInt8) (w : World) (h : RefAt w p g L) (hn : L.length ≤ 1000000) :
    Calls Try.prog 19 #[.pointer (some ⟨p, 0, none⟩), encStr x] w fun e w' => e = .returned (.tuple #[]) ∧ ∃ g', RefAt w' p g' (dropL L x) ∧ (∀ k, g' = some k → w.heap.size ≤ k) ∧ Chg (fun i => i = p) w w' := by
  obtain ⟨i0, hi, hz0, hz1, hz2⟩ := info_parts info71
  obtain ⟨n, hnn⟩ : ∃ n, n = L.length := ⟨_, rfl⟩
  rw [← hnn] at hn
  obtain ⟨a, cap, hb, ho, hcap, hcm⟩ := h.form hnn
  have hpl := h.lt.1
  have HOK := Lib.hid h.ok
  have HN := Lib.hid hnn
  have HB := Lib.hid hb
  have HO := Lib.hid ho
  have hcm : cap ≤ 9223372036854775807 := by simpa [maxLen] using hcm
  clear h hnn hb ho
  go_enter Try.func19, Try.ntmps19
  go_wp2_with fail
  go_loopw [4, 5] (fun v i wr => RDInv w L x n v i wr) (fun _ i _ => n - idx i)
  case atStart => exact ⟨0, none, by omega, rfl, Owns.nil _ _ _, by simp, Chg.refl _ _⟩
  case round =>
    obtain ⟨j, g1, hj, rfl, o1, hg1, c1⟩ := hrel
    have HG1 := Lib.hid hg1
    have b1 := HB.out.chg c1 (fun h => h)
    have p0 := b1.cell 0
    simp at p0
    clear hg1
    by_cases hlt : j < n
    · obtain ⟨e, he⟩ : ∃ e, L[j]? = some e := ⟨_, List.getElem?_eq_getElem (by rw [← HN.out]; exact hlt)⟩
      obtain ⟨k, rfl, hgk, d0, d1⟩ := RefAt.get (HO.out.chg c1 (fun _ _ h => h)) he
      have hjn : (j : Int) < (n : Int) := by omega
      obtain ⟨A, hA⟩ : ∃ A, A = dropL (L.take j) x := ⟨_, rfl⟩
      have hAl : A.length ≤ 1000000 := by rw [hA]; have := dropL_len (L := L.take j) x; rw [List.length_take] at this; omega
      have hA1 := dropL_take_succ (x := x) he
      rw [← hA] at o1 hA1
      have HA1 := Lib.hid hA1
      have heq := bytes_beq e.k x
      clear hA hA1 he hgk b1
      by_cases hx : e.k = x
      · rw [decide_eq_true hx] at heq
        have HX := Lib.hid hx
        clear hx
        go_wp2_with fail
        go_roundw
        case rel => exact ⟨j + 1, g1, by omega, by go_num, by rw [HA1.out, if_pos HX.out, List.append_nil]; exact o1, HG1.out, c1⟩
        case measure => simp [idx]; omega
      · rw [decide_eq_false hx] at heq
        have HX := Lib.hid hx
        clear hx
        have o2 := o1.alloc (Obj.cells #[encStr e.k, Value.int .i64 e.d] 71)
        have bX := Blk.new wr 71 #[encStr e.k, Value.int .i64 e.d]
        clear o1
        go_wp2_with (at_builtin; refine wpList_app (by rfl) (.tmp 25) (.tmp 33) 48 (by rfl) 71 i0 _ 2 24 Try.underlying48 hi hz0 hz1 hz2 rfl (by omega) _ _ _ (by rfl) o2 _ 71 [[encStr e.k, .int .i64 e.d]] 1 1 (by rfl) (by rfl) bX (by simp) (by simp [Value.oneCell']) (by simp) (by simp; omega) (by simp [maxLen]; omega) ?_)
        intro k2 cap2 w2 ho hc hk
        have hs := c1.size
        have hk' : g1 = some k2 ∨ wr.heap.size + 1 ≤ k2 := by simpa using hk
        have ho' : Owns w2 71 2 (.slice (some ⟨k2, 0, none⟩) (A.length + 1) cap2) (some k2) ((A ++ [e]).map refc) := by rw [List.map_append]; simpa [refc] using ho
        have c2 : Chg (fun _ => False) w w2 := (c1.alloc _).trans' hc (fun i hi e => by have := HG1.out i e; omega)
        have g2 : w.heap.size ≤ k2 := hk'.elim (fun e => HG1.out _ e) (fun e => by omega)
        have HO2 := Lib.hid ho'
        have HC2 := Lib.hid c2
        clear o2 bX ho hc hk ho' c2 hs hk' d0 d1 p0 heq c1
        go_wp2_with fail
        go_roundw
        case rel => exact ⟨j + 1, some k2, by omega, by go_num, by rw [HA1.out, if_neg HX.out]; simpa using HO2.out, fun j hj => by cases hj; exact g2, HC2.out⟩
        case measure => simp [idx]; omega
    · obtain rfl : j = n := by omega
      have hzt : L.take j = L := List.take_of_length_le (by rw [HN.out]; exact Nat.le_refl _)
      rw [hzt] at o1
      have f0 := b1.frozen 0
      have hb2 := b1.set_ 0 u4
      have hne : ∀ k, g1 = some k → k ≠ p := fun k hk e => by have := HG1.out k hk; omega
      have c2 : Chg (fun i => i = p) w (wr.setCell ⟨p, 0, none⟩ u4) := (c1.mono (S' := fun i => i = p) (fun _ _ h => h.elim)).setCell (fun _ => rfl) _
      have o2 : Owns (wr.setCell ⟨p, 0, none⟩ u4) 71 2 u4 g1 ((dropL L x).map refc) := o1.chg (S := fun i => i = p) (Chg.setCell (S := fun i => i = p) (Chg.refl _ _) (fun _ => rfl) _) hne
      obtain ⟨a4, cap4, rfl, -⟩ := o1.form
      have HR := Lib.hid (show RefAt (wr.setCell ⟨p, 0, none⟩ (.slice a4 ((dropL L x).map refc).length cap4)) p g1 (dropL L x) from ⟨⟨_, by simpa using hb2, o2⟩, hne, fun e he => HOK.out e (mem_dropL.1 he).1⟩)
      have HC := Lib.hid c2
      clear hb2 hne c2 o2 o1 b1 hzt c1
      simp only [List.length_map] at *
      go_wp2_with fail
      go_end0
      exact ⟨rfl, g1, HR.out, HG1.out, HC.out⟩
end Go.Proofs.Ythholmapjbaknaa
