/- The document's queue (chronobateref15): contracts of Set, Next and At. -/
import Derived.Test.YthholmapjbaknaaRef
set_option linter.unusedVariables false
set_option linter.unusedSectionVars false
namespace Go.Chron
open Go Go.RowKit
/-- The least of n and those of l. -/
def minOf (n : Int) (l : List SEnt) : Int := l.foldl (fun n x => if x.d < n then x.d else n) n
theorem minOf_snoc (n : Int) (l : List SEnt) (e : SEnt) : minOf n (l ++ [e]) = if e.d < minOf n l then e.d else minOf n l := by unfold minOf; rw [List.foldl_append]; rfl
theorem minOf_all {L : List SEnt} {e : SEnt} (he : L[0]? = some e) : minOf e.d L = nextL L := by
  cases L with
  | nil => cases he
  | cons a r =>
    simp at he
    subst he
    unfold minOf nextL
    rw [List.foldl_cons, if_neg (by omega)]
theorem take_snoc {α : Type} {L : List α} {j : Nat} {e : α} (he : L[j]? = some e) : L.take (j + 1) = L.take j ++ [e] := by rw [List.take_add_one, he]; rfl
theorem lookL_at {L : List SEnt} {j : Nat} {e : SEnt} {x : List UInt8} (he : L[j]? = some e) (hk : e.k = x) (h0 : ∀ y ∈ L.take j, y.k ≠ x) : lookL L x = some e := by
  have hd : L = L.take j ++ e :: L.drop (j + 1) := by
    obtain ⟨h1, h2⟩ := List.getElem?_eq_some_iff.1 he
    rw [← h2, ← List.drop_eq_getElem_cons h1, List.take_append_drop]
  unfold lookL
  rw [hd, List.find?_append, List.find?_eq_none.2 (by intro y hy; simpa using h0 y hy)]
  simp [hk]
theorem setL_at {w : World} {p : Nat} {g : Option Nat} {L : List SEnt} {x : List UInt8} {d s : Int} (h : RefAt w p g (dropL L x ++ [⟨x, d, s⟩])) : RefAt w p g (setL L x d s) := h
end Go.Chron
namespace Go.Proofs.Ythholmapjbaknaa
open Go.RowKit Go.Chron

set_option maxRecDepth 100000 in
set_option maxHeartbeats 3200000 in
theorem refSet (p : Nat) (g : Option Nat) (L : List SEnt) (x : List UInt8) (d s : Int) (w : World) (h : RefAt w p g L) (hn : L.length ≤ 1000000) (hx : OkS x) (hd : In64 d) :
    Calls Try.prog 18 #[.pointer (some ⟨p, 0, none⟩), encStr x, .int .i64 d] w fun e w' => e = .returned (.tuple #[]) ∧ ∃ g', RefAt w' p g' (setL L x d s) ∧ (∀ k, g' = some k → w.heap.size ≤ k) ∧ Chg (fun i => i = p) w w' := by
  obtain ⟨i0, hi, hz0, hz1, hz2⟩ := info_parts info71
  have hdr := refDrop p g L x w h hn
  have hpl := h.lt.1
  have hdl := dropL_len (L := L) x
  have HD := Lib.hid hdr
  have HX := Lib.hid hx
  have HDD := Lib.hid hd
  clear h hdr hx hd
  go_enter Try.func18, Try.ntmps18
  go_wp2_with fail
  refine HD.out.mono ?_
  rintro e w1 ⟨rfl, g1, R1, hg1, c1⟩
  obtain ⟨A, hA⟩ : ∃ A, A = dropL L x := ⟨_, rfl⟩
  have hAl : A.length ≤ 1000000 := by rw [hA]; omega
  rw [← hA] at R1
  have HAE := Lib.hid hA
  obtain ⟨n, hnn⟩ : ∃ n, n = A.length := ⟨_, rfl⟩
  obtain ⟨a, cap, hb, ho, hcap, hcm⟩ := R1.form hnn
  have hcm : cap ≤ 9223372036854775807 := by simpa [maxLen] using hcm
  have p0 := hb.cell 0
  have f0 := hb.frozen 0
  simp at p0
  have hne := R1.ne
  have HOK := Lib.hid R1.ok
  have o2 := ho.alloc (Obj.cells #[encStr x, Value.int .i64 d] 71)
  have bX := Blk.new w1 71 #[encStr x, Value.int .i64 d]
  have bP := hb.alloc (Obj.cells #[encStr x, Value.int .i64 d] 71)
  have c2 := c1.alloc (Obj.cells #[encStr x, Value.int .i64 d] 71)
  have hs := c1.size
  have HG := Lib.hid hg1
  have HNE := Lib.hid hne
  have HNN := Lib.hid hnn
  clear R1 hA hb ho hne hg1 HD hnn
  go_wp2_with (at_builtin; refine wpList_app (by rfl) (.tmp 13) (.tmp 17) 48 (by rfl) 71 i0 _ 2 24 Try.underlying48 hi hz0 hz1 hz2 rfl (by omega) _ _ _ (by rfl) o2 _ 71 [[encStr x, .int .i64 d]] 1 1 (by rfl) (by rfl) bX (by simp) (by simp [Value.oneCell']) (by simp) (by simp; omega) (by simp [maxLen]; omega) ?_)
  intro k2 cap2 w2 ho3 hc hk
  have hk' : g1 = some k2 ∨ w1.heap.size + 1 ≤ k2 := by simpa using hk
  have hk2 : w.heap.size ≤ k2 := hk'.elim (fun e => HG.out _ e) (fun e => by omega)
  have hne2 : k2 ≠ p := by omega
  have bP2 := bP.chg hc (fun e => HNE.out p e rfl)
  have g0 := bP2.cell 0
  have h0 := bP2.frozen 0
  simp at g0
  have hl2 : A.length + 1 = n + 1 := by rw [HNN.out]
  rw [hl2] at ho3 ⊢
  obtain ⟨sv, hsv⟩ : ∃ sv, sv = Value.slice (some ⟨k2, 0, none⟩) (n + 1) cap2 := ⟨_, rfl⟩
  have bS := bP2.set_ 0 sv
  have cS : Chg (fun i => i = p) w (w2.setCell ⟨p, 0, none⟩ sv) := Chg.setCell (S := fun i => i = p) (p := ⟨p, 0, none⟩) (c2.trans' hc (fun i hi e => by have := HG.out i e; omega)) (fun _ => rfl) _
  rw [← hsv] at ho3
  have oS : Owns (w2.setCell ⟨p, 0, none⟩ sv) 71 2 sv (some k2) ((A ++ [(⟨x, d, s⟩ : SEnt)]).map refc) := by
    have := ho3.chg (S := fun i => i = p) (Chg.setCell (S := fun i => i = p) (p := ⟨p, 0, none⟩) (Chg.refl _ _) (fun _ => rfl) sv) (fun k hk e => by cases hk; exact hne2 e)
    rw [List.map_append]
    exact this
  have HR := Lib.hid (show RefAt (w2.setCell ⟨p, 0, none⟩ sv) p (some k2) (setL L x d s) from by
    refine setL_at (w := w2.setCell ⟨p, 0, none⟩ sv) (p := p) (g := some k2) (L := L) (x := x) (d := d) (s := s) ⟨⟨sv, by simpa using bS, by rw [← HAE.out]; exact oS⟩, fun k hk => by cases hk; exact hne2, fun e he => ?_⟩
    rcases List.mem_append.1 he with he | he
    · exact HOK.out e (by rw [HAE.out]; exact he)
    · simp at he; subst he; exact ⟨HX.out, HDD.out⟩)
  have HC := Lib.hid cS
  subst hsv
  clear ho3 hc hk hk' bP2 bS cS oS bP bX o2 c1 c2 p0 f0 hl2 HAE HNE HG HOK
  go_wp2_with fail
  go_end0
  exact ⟨rfl, some k2, HR.out, fun j hj => by cases hj; exact hk2, HC.out⟩

set_option maxRecDepth 100000 in
set_option maxHeartbeats 3200000 in
theorem refNext (p : Nat) (g : Option Nat) (L : List SEnt) (w : World) (h : RefAt w p g L) (hn : L.length ≤ 1000000) :
    Calls Try.prog 20 #[.pointer (some ⟨p, 0, none⟩)] w fun e w' => e = .returned (.tuple #[.int .i64 (nextL L), .bool (anyL L)]) ∧ w = w' := by
  obtain ⟨n, hnn⟩ : ∃ n, n = L.length := ⟨_, rfl⟩
  rw [← hnn] at hn
  obtain ⟨a, cap, hb, ho, hcap, hcm⟩ := h.form hnn
  have hcm : cap ≤ 9223372036854775807 := by simpa [maxLen] using hcm
  have p0 := hb.cell 0
  simp at p0
  have HN := Lib.hid hnn
  have HO := Lib.hid ho
  clear h hb ho hnn
  by_cases h0 : n = 0
  · subst h0
    have hL : L = [] := List.eq_nil_of_length_eq_zero HN.out.symm
    subst hL
    rw [show nextL ([] : List SEnt) = 0 from rfl, show anyL ([] : List SEnt) = false from rfl]
    clear HN HO
    go_enter Try.func20, Try.ntmps20
    go_wp2_with fail
    go_ret2
    exact ⟨rfl, rfl⟩
  · obtain ⟨e0, he0⟩ : ∃ e, L[0]? = some e := ⟨_, List.getElem?_eq_getElem (by rw [← HN.out]; omega)⟩
    obtain ⟨k, rfl, hgk, d0, d1⟩ := RefAt.get HO.out he0
    rw [← minOf_all he0, show anyL L = true from anyL_of (by rintro rfl; exact h0 HN.out)]
    have hn0 : ((n : Int) == 0) = false := by rw [beq_eq_false_iff_ne]; omega
    have hn1 : (0 : Int) < (n : Int) := by omega
    simp only [Nat.zero_mul, Nat.zero_add] at d0 d1
    obtain ⟨m0, hm0⟩ : ∃ m0, m0 = e0.d := ⟨_, rfl⟩
    rw [← hm0] at d1 ⊢
    clear he0 hgk hm0
    go_enter Try.func20, Try.ntmps20
    go_wp2_with fail
    clear d0 d1 hn0
    go_loopw [4, 5] (fun v i wr => w = wr ∧ ∃ j : Nat, j ≤ n ∧ i = .int .i64 j ∧ v = .int .i64 (minOf m0 (L.take j))) (fun _ i _ => n - idx i)
    case atStart => exact ⟨rfl, 0, by omega, rfl, rfl⟩
    case round =>
      obtain ⟨rfl, j, hj, rfl, rfl⟩ := hrel
      by_cases hlt : j < n
      · obtain ⟨e, he⟩ : ∃ e, L[j]? = some e := ⟨_, List.getElem?_eq_getElem (by rw [← HN.out]; exact hlt)⟩
        obtain ⟨k', hk', hgk, d0, d1⟩ := RefAt.get HO.out he
        cases hk'
        have hjn : (j : Int) < (n : Int) := by omega
        have hsn := minOf_snoc m0 (L.take j) e
        rw [← take_snoc he] at hsn
        have HS := Lib.hid hsn
        clear hsn he hgk
        generalize minOf m0 (L.take j) = mj at *
        by_cases hm : e.d < mj
        · go_wp2_with fail
          go_roundw
          case rel => exact ⟨by trivial, j + 1, by omega, by go_num, by rw [HS.out, if_pos hm]⟩
          case measure => simp [idx]; omega
        · go_wp2_with fail
          go_roundw
          case rel => exact ⟨by trivial, j + 1, by omega, by go_num, by rw [HS.out, if_neg hm]⟩
          case measure => simp [idx]; omega
      · obtain rfl : j = n := by omega
        have hzt : L.take j = L := List.take_of_length_le (by rw [HN.out]; exact Nat.le_refl _)
        rw [hzt]
        clear hzt
        go_wp2_with fail
        go_ret2
        exact ⟨rfl, rfl⟩

set_option maxRecDepth 100000 in
set_option maxHeartbeats 3200000 in
theorem refAt (p : Nat) (g : Option Nat) (L : List SEnt) (x : List UInt8) (w : World) (h : RefAt w p g L) (hn : L.length ≤ 1000000) :
    Calls Try.prog 22 #[.pointer (some ⟨p, 0, none⟩), encStr x] w fun e w' => e = .returned (.tuple #[.int .i64 (atL L x), .bool (hasL L x)]) ∧ w = w' := by
  obtain ⟨n, hnn⟩ : ∃ n, n = L.length := ⟨_, rfl⟩
  rw [← hnn] at hn
  obtain ⟨a, cap, hb, ho, hcap, hcm⟩ := h.form hnn
  have hcm : cap ≤ 9223372036854775807 := by simpa [maxLen] using hcm
  have p0 := hb.cell 0
  simp at p0
  have HN := Lib.hid hnn
  have HO := Lib.hid ho
  clear h hb ho hnn
  obtain ⟨rv, hrv⟩ : ∃ rv, rv = atL L x := ⟨_, rfl⟩
  obtain ⟨rb, hrb⟩ : ∃ rb, rb = hasL L x := ⟨_, rfl⟩
  rw [← hrv, ← hrb]
  have HRV := Lib.hid hrv
  have HRB := Lib.hid hrb
  clear hrv hrb
  go_enter Try.func22, Try.ntmps22
  go_wp2_with fail
  go_loopw [6] (fun i wr => w = wr ∧ ∃ j : Nat, j ≤ n ∧ i = .int .i64 j ∧ ∀ y ∈ L.take j, y.k ≠ x) (fun i _ => n - idx i)
  case atStart => exact ⟨rfl, 0, by omega, rfl, by simp⟩
  case round =>
    obtain ⟨rfl, j, hj, rfl, hno⟩ := hrel
    have HNO := Lib.hid hno
    clear hno
    by_cases hlt : j < n
    · obtain ⟨e, he⟩ : ∃ e, L[j]? = some e := ⟨_, List.getElem?_eq_getElem (by rw [← HN.out]; exact hlt)⟩
      obtain ⟨k', rfl, hgk, d0, d1⟩ := RefAt.get HO.out he
      have hjn : (j : Int) < (n : Int) := by omega
      have heq := bytes_beq e.k x
      have HE := Lib.hid he
      clear he hgk
      by_cases hx : e.k = x
      · rw [decide_eq_true hx] at heq
        have hl := lookL_at HE.out hx HNO.out
        have hv : rv = e.d := by rw [HRV.out]; unfold atL; rw [hl]
        have hb : rb = true := by rw [HRB.out, hasL_eq, hl]; rfl
        have HV := Lib.hid hv
        have HB := Lib.hid hb
        clear hx hl hv hb
        go_wp2_with fail
        go_ret2
        exact ⟨by rw [HV.out, HB.out]; rfl, rfl⟩
      · rw [decide_eq_false hx] at heq
        have HX := Lib.hid hx
        clear hx
        go_wp2_with fail
        go_roundw
        case rel =>
          refine ⟨by trivial, j + 1, by omega, by go_num, fun y hy => ?_⟩
          rw [take_snoc HE.out] at hy
          rcases List.mem_append.1 hy with hy | hy
          · exact HNO.out y hy
          · simp at hy; rw [hy]; exact HX.out
        case measure => simp [idx]; omega
    · obtain rfl : j = n := by omega
      have hzt : L.take j = L := List.take_of_length_le (by rw [HN.out]; exact Nat.le_refl _)
      have hl : lookL L x = none := by
        unfold lookL
        rw [List.find?_eq_none]
        intro y hy
        simpa using HNO.out y (by rw [hzt]; exact hy)
      have hv : rv = 0 := by rw [HRV.out]; unfold atL; rw [hl]
      have hb : rb = false := by rw [HRB.out, hasL_eq, hl]; rfl
      have HV := Lib.hid hv
      have HB := Lib.hid hb
      clear hzt hl hv hb
      go_wp2_with fail
      go_ret2
      exact ⟨by rw [HV.out, HB.out]; rfl, rfl⟩
end Go.Proofs.Ythholmapjbaknaa
