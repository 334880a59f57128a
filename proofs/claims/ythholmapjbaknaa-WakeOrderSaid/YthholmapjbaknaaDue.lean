/- Package wake's Due, at two types of keys: contracts. -/
import Derived.Test.YthholmapjbaknaaSor
import Derived.Test.YthholmapjbaknaaNxt
set_option linter.unusedVariables false
set_option linter.unusedSectionVars false
namespace Go.Proofs.Ythholmapjbaknaa
open Go.RowKit Go.Chron

theorem infomI : (Try.prog.info? 2).map (fun i => (i.zero, i.size, i.bytes)) = some (some (.int .i64 0), 1, 8) := by kernel_rfl
/-- The keys of V that are due. -/
abbrev keysI (V : List (Ent (Int))) : List (List Value) := V.map fun e => [(Value.int .i64) e.k]
/-- Due's loop. -/
def DueInvI (L : List (Ent (Int))) (D : DataW Unit) (h : Int) (m r n : Nat) (w0 : World) (v5 : Value) (wr : World) : Prop :=
  ∃ left cnt V g, wr.ranges Try.prog 2 oneR m r n D left cnt ∧ Chg (fun i => i = r) w0 wr ∧ Vis (Lit.int .i64) L left V ∧ V.length + cnt ≤ n ∧ Owns wr 2 1 v5 g (keysI (V.filter (fun e => decide (e.d ≤ h)))) ∧ (∀ k, g = some k → w0.heap.size ≤ k)

set_option maxRecDepth 100000 in
set_option maxHeartbeats 3200000 in
theorem dueI (b m n : Nat) (L : List (Ent (Int))) (h : Int) (w : World) (H : QI w b m n L) (hn : n ≤ 1000000) :
    Calls Try.prog 11 #[.pointer (some ⟨b, 0, none⟩), .int .i64 h] w fun e w' => ∃ a cap g R, e = .returned (.slice a R.length cap) ∧ IsDue L h R ∧ Owns w' 2 1 (.slice a R.length cap) g (keysI R) ∧ (∀ k, g = some k → w.heap.size ≤ k) ∧ Chg (fun _ => False) w w' := by
  obtain ⟨i0, hi, hz0, hz1, hz2⟩ := info_parts infomI
  have hlt := H.lt
  have hll := H.len_le
  have cq := chg0_alloc w (Obj.cells #[Value.pointer (some ⟨b, 0, none⟩)] 24)
  have H1 := H.chg0 cq
  have bq := Blk.new w 24 #[Value.pointer (some ⟨b, 0, none⟩)]
  have lq := bq.lt
  have e9 := H.box.cell 0
  simp at e9
  obtain ⟨D, hD, hQ⟩ := H1.own
  have hsz := hQ.size
  have HQ := Lib.hid hQ
  have HH := Lib.hid H1
  have hs1 : (w.alloc (Obj.cells #[Value.pointer (some ⟨b, 0, none⟩)] 24)).heap.size = w.heap.size + 1 := World.size_alloc _ _
  clear H hQ H1
  go_enter Try.func11, Try.ntmps11
  go_wp2_with (at_range; refine wpList_range_own _ rfl _ 56 rfl 2 60 lawI Try.underlying56 _ m n D rfl hD ?_; intro w0 hrg0 hg0 hs0)
  go_frame
  rw [hs1] at hrg0 hs0
  have HDP := Lib.hid hs1
  generalize w.alloc (Obj.cells #[Value.pointer (some ⟨b, 0, none⟩)] 24) = W1 at *
  obtain ⟨qb, hqb⟩ : ∃ qb, qb = w.heap.size := ⟨_, rfl⟩
  obtain ⟨r, hr⟩ : ∃ r, r = qb + 1 := ⟨_, rfl⟩
  rw [← hqb] at bq lq hrg0 hs0 hs1
  rw [← hr] at hrg0 hs0 hs1
  simp only [← hqb, hs1]
  have HQB := Lib.hid hqb
  clear HDP e9 hqb
  have c0 : Chg (fun _ => False) W1 w0 := (Chg.refl _ _).grown hg0 (fun k _ hk => by cases hk)
  have hw0 : w0.heap.size = r + 1 := by omega
  have HR := Lib.hid (show w.heap.size < r by have := HQB.out; omega)
  have C0 := Lib.hid c0
  have HW1 := Lib.hid hs1
  have CQ := Lib.hid cq
  have BQ := Lib.hid (bq.chg c0 (fun h => h))
  have HH2 := Lib.hid (HH.out.chg0 c0)
  have hm0 : m < w0.heap.size := by have := HH2.out.lt; omega
  have hb0 : b < w0.heap.size := by have := HH2.out.lt; omega
  have hq0 : qb < r := by omega
  have hmr : m < r := by have := HH.out.lt; omega
  have hbr : b < r := by have := HH.out.lt; omega
  clear hg0 hs0 hD hr c0 cq bq HH hs1
  go_loopw [5] (fun v5 wr => DueInvI L D h m r n w0 v5 wr) (fun _ wr => wr.rangeLeft m r)
  case atStart => exact ⟨_, _, [], none, hrg0, Chg.refl _ _, Vis.start HQ.out, by rw [hsz]; simpa using hll, Owns.nil _ _ _, by simp⟩
  case round =>
    clear hrg0
    obtain ⟨left, cnt, V, g, hrg, hc, hvis, hcn, hown, hg1⟩ := hrel
    have q1 := (BQ.out.chg hc (by omega)).cell 0
    simp at q1
    have HG1 := Lib.hid hg1
    clear hg1
    go_wp2_with (at_next; refine wpList_next_ranges _ rfl _ rfl 2 lawI oneR (Value.int .i64) (fun c : Int × Int => .agg #[.int .i64 c.1, .int .i64 c.2]) (fun key kl hk => by obtain ⟨x, hx, _⟩ := invI hk; exact ⟨x, hx⟩) (fun v y hv => by obtain ⟨c, hc, _⟩ := oneR_inv hv; exact ⟨c, hc⟩) m r n _ _ _ rfl hrg ?_ ?_)
    · intro _ hl0
      have hp := hvis.done HQ.out.nodup hl0
      obtain ⟨A, hA⟩ : ∃ A, A = V.filter (fun e => decide (e.d ≤ h)) := ⟨_, rfl⟩
      rw [← hA] at hown
      have hAp : A.Perm (L.filter (fun e => decide (e.d ≤ h))) := by rw [hA]; exact hp.filter _
      have hAl : A.length ≤ 1000000 := by rw [hAp.length_eq]; have := List.length_filter_le (fun e : Ent (Int) => decide (e.d ≤ h)) L; omega
      have HP := Lib.hid hAp
      have HC := Lib.hid hc
      have HQ3 := Lib.hid (HH2.out.chg hc (by omega) (by omega))
      have hc3 : Chg (fun _ => False) w wr := CQ.out.trans (C0.out.trans' hc (fun i hi e => by have := HW1.out; omega))
      have HC3 := Lib.hid hc3
      have hcsz := hc3.size
      have qq := BQ.out.chg hc (by omega)
      have HBQ := Lib.hid qq
      clear hrg hc hvis hl0 hp hcn hAp hc3 qq
      obtain ⟨aA, capA, rfl, hla, hca, -, hga⟩ := hown.form
      rw [List.length_map] at hown hla ⊢
      by_cases hA0 : A = []
      · subst hA0
        have HO := Lib.hid hown
        clear hown hA hga
        simp only [List.length_nil] at *
        go_wp2_with fail
        refine (Try.slices_SortFunc_none_f28 (α := Unit) _ _ _ _).mono ?_
        rintro e w2 ⟨rfl, rfl⟩
        go_wp2_with fail
        go_ret
        exact ⟨aA, capA, g, [], rfl, ⟨HP.out, List.Pairwise.nil⟩, HO.out, fun k hk => by have := HG1.out k hk; have := HR.out; omega, HC3.out⟩
      · have hpos : 0 < A.length := List.length_pos_iff.2 hA0
        obtain ⟨k, rfl⟩ := hown.pos (by rw [List.length_map]; exact hpos)
        simp only [Option.map_some] at hga
        subst hga
        have hmem : ∀ e ∈ A, e ∈ L := fun e he => (List.mem_filter.1 (HP.out.subset he)).1
        obtain ⟨B, hB⟩ : ∃ B : List {e : Ent (Int) // e ∈ L}, B.map (·.1) = A := ⟨A.pmap Subtype.mk hmem, by rw [List.map_pmap]; simp⟩
        have hBl : B.length = A.length := by rw [← hB, List.length_map]
        haveI : Inhabited {e : Ent (Int) // e ∈ L} := ⟨B[0]'(by omega)⟩
        have hkB : keysI A = B.map (fun z => [(fun z : {e : Ent (Int) // e ∈ L} => (Value.int .i64) z.1.k) z]) := by rw [← hB, keysI, List.map_map]; rfl
        rw [hkB, ← hBl] at hown
        have hk0 := HG1.out k rfl
        have hkr : r < k := by omega
        have hklt := hown.lt k rfl
        have SW := fun (q : Nat) (os : Array Obj) => sw_owns (n := q) (os := os) (ts := dueSort B) hown ((dueSort_perm B).length_eq)
        have hHold := (SW 0 #[]).1
        have hcmp : Go.Proofs.CmpLays1 Try.prog 29 #[.pointer (some ⟨qb, 0, none⟩)] (fun z : {e : Ent (Int) // e ∈ L} => (Value.int .i64) z.1.k) (fun x y : {e : Ent (Int) // e ∈ L} => dueC x.1 y.1) k 0 B.toArray.size wr := fun mm os dk _ x y => by
          have cs := sw_chg (enc := fun z : {e : Ent (Int) // e ∈ L} => (Value.int .i64) z.1.k) (w := wr) (g := k) (n := mm) (os := os) dk
          refine (cloI qb b m n L x.1 y.1 x.2 y.2 _ (HQ3.out.chg cs (by omega) (by omega)) ?_).mono ?_
          · have := (HBQ.out.chg cs (by omega)).cell 0
            simpa using this
          · rintro e w2 ⟨rfl, hl⟩
            exact ⟨rfl, hl⟩
        have hcon := Try.slices_SortFunc_total_f28 (fun z : {e : Ent (Int) // e ∈ L} => (Value.int .i64) z.1.k) (fun _ => rfl) (fun x y : {e : Ent (Int) // e ∈ L} => dueC x.1 y.1) due_swo 29 #[.pointer (some ⟨qb, 0, none⟩)] k 0 capA B.toArray wr (enters_of Try.func29 (by kernel_rfl) rfl) hcmp hHold hklt (by simp; omega) (due_tot HH2.out.rise)
        have HS := Lib.hid SW
        have HBL := Lib.hid hBl
        have HD := Lib.hid (dueSort_is (h := h) HH2.out.rise B (by rw [hB]; exact HP.out))
        have hcon2 : Calls Try.prog 28 #[.slice (some ⟨k, 0, none⟩) A.length capA, .func (.func 29) #[] #[.pointer (some ⟨qb, 0, none⟩)]] wr fun e w' => e = .returned (.tuple #[]) ∧ Owns w' 2 1 (.slice (some ⟨k, 0, none⟩) A.length capA) (some k) (keysI ((dueSort B).map (·.1))) ∧ Chg (fun i => i = k) wr w' := by
          rw [← hBl]
          refine Calls.mono (by simpa using hcon) ?_
          rintro e w2 ⟨rfl, q, os, rfl⟩
          have hsw := (HS.out q os).2
          rw [(dueSort_perm B).length_eq] at hsw
          refine ⟨rfl, ?_, sw_chg _⟩
          have : keysI ((dueSort B).map (·.1)) = (dueSort B).map (fun z => [(fun z : {e : Ent (Int) // e ∈ L} => (Value.int .i64) z.1.k) z]) := by rw [keysI, List.map_map]; rfl
          rw [this]
          exact hsw
        have HCON := Lib.hid hcon2
        have HL := Lib.hid (show A.length = ((dueSort B).map (·.1)).length by rw [List.length_map, (dueSort_perm B).length_eq, hBl])
        clear SW hHold hcmp hcon hcon2 hown hkB hmem hA hA0 hB hBl
        go_wp2_with fail
        refine HCON.out.mono ?_
        rintro e w2 ⟨rfl, ho2, c2⟩
        have HO2 := Lib.hid ho2
        have hc4 : Chg (fun _ => False) w w2 := HC3.out.trans' c2 (fun i hi e => by have := HR.out; omega)
        clear ho2 c2
        go_wp2_with fail
        go_ret
        refine ⟨some ⟨k, 0, none⟩, capA, some k, (dueSort B).map (·.1), by rw [← HL.out]; rfl, HD.out, by rw [← HL.out]; exact HO2.out, fun j hj => ?_, hc4⟩
        cases hj
        have := HR.out
        omega
    · intro x c1 c2 kl y1 y2 w1 cnt1 hkey hlk hRv hat hrg1 hcnt hg1 hs1 hen
      obtain ⟨x', hxe, hkl, hxok⟩ := invI hkey
      obtain rfl : x = x' := by simpa using hxe
      subst hkl
      have hy : y1 = oneD c1 c2 := by have := (oneR_mk c1 c2).symm.trans hRv; cases this; rfl
      subst hy
      obtain ⟨e, heL, hek, hed, hes⟩ := HQ.out.entry (c := (c1, c2)) hat
      subst hek hed hes
      have hv1 := hvis.step (injI) HQ.out.nodup (lawI.key (keyI hxok)) heL hlk
      have hc1 : Chg (fun i => i = r) w0 w1 := hc.grown hg1 (fun k _ hk => by cases hk; rfl)
      have hc2 := hc1.alloc (Obj.cells #[Value.int .i64 e.d, Value.int .i64 e.s] 60)
      have hrg2 := hrg1.alloc (Obj.cells #[Value.int .i64 e.d, Value.int .i64 e.s] 60)
      have hw1 : Chg (fun i => i = r) wr w1 := (Chg.refl _ _).grown hg1 (fun k _ hk => by cases hk; rfl)
      have ho1 : Owns (w1.alloc (Obj.cells #[Value.int .i64 e.d, Value.int .i64 e.s] 60)) 2 1 u5 g (keysI (V.filter (fun e => decide (e.d ≤ h)))) := (hown.chg hw1 (fun k hk e => by have := HG1.out k hk; omega)).alloc _
      obtain ⟨A, hA⟩ : ∃ A, A = V.filter (fun e => decide (e.d ≤ h)) := ⟨_, rfl⟩
      rw [← hA] at ho1
      have hAl : A.length ≤ 1000000 := by rw [hA]; have := List.length_filter_le (fun e : Ent (Int) => decide (e.d ≤ h)) V; omega
      have hfs : (V ++ [e]).filter (fun e => decide (e.d ≤ h)) = A ++ (if e.d ≤ h then [e] else []) := by
        rw [List.filter_append, ← hA]
        congr 1
        by_cases hh : e.d ≤ h <;> simp [hh]
      have HV := Lib.hid hv1
      have HM : cnt1 < cnt := hcnt
      have HVL := Lib.hid (show (V ++ [e]).length + cnt1 ≤ n by simp; omega)
      have HFS := Lib.hid hfs
      have HOLD := Lib.hid hrg
      have hw0s := hc2.size
      clear hc hc1 hvis hv1 hrg1 hkey hlk hRv hat hg1 hcnt hrg hxok heL hown hA hfs hcn hw1 hs1
      by_cases hh : e.d ≤ h
      · have bX := Blk.new (w1.alloc (Obj.cells #[Value.int .i64 e.d, Value.int .i64 e.s] 60)) 2 #[(Value.int .i64) e.k]
        rw [World.size_alloc] at bX
        have ho2 := ho1.alloc (Obj.cells #[(Value.int .i64) e.k] 2)
        have hc3 := hc2.alloc (Obj.cells #[(Value.int .i64) e.k] 2)
        have hrg3 := hrg2.alloc (Obj.cells #[(Value.int .i64) e.k] 2)
        have HRG := Lib.hid hrg3
        have HC := Lib.hid hc3
        clear ho1 hc2 hrg2 hc3 hrg3
        go_wp2_with (at_builtin; refine wpList_app (by rfl) (.tmp 24) (.tmp 26) 29 (by rfl) 2 i0 _ 1 8 Try.underlying29 hi hz0 hz1 hz2 rfl (by omega) _ _ _ (by rfl) ho2 _ 2 [[(Value.int .i64) e.k]] 1 1 (by rfl) (by rfl) bX (by simp) (by simp [Value.oneCell']) (by simp) (by simp; omega) (by simp [maxLen]; omega) ?_)
        intro k2 cap2 w2 ho hca hk
        have hk' : g = some k2 ∨ w0.heap.size ≤ k2 := by
          rcases hk with hk | hk
          · exact .inl hk
          · simp only [World.size_alloc] at hk hw0s
            exact .inr (by omega)
        have hk2 : w0.heap.size ≤ k2 := hk'.elim (fun e => HG1.out _ e) id
        have ho' : Owns w2 2 1 (.slice (some ⟨k2, 0, none⟩) (A.length + 1) cap2) (some k2) (keysI (A ++ [e])) := by rw [keysI, List.map_append]; simpa using ho
        have hc5 : Chg (fun i => i = r) w0 w2 := HC.out.trans' hca (fun i hi e => by have := HG1.out i e; omega)
        have hrg5 := ranges_chg HRG.out hca (fun e => by have := HG1.out m e; omega) (fun e => by have := HG1.out r e; omega)
        have HO := Lib.hid ho'
        have HC5 := Lib.hid hc5
        have HRG5 := Lib.hid hrg5
        clear ho2 bX ho hca hk ho' hc5 hrg5 hk' HRG HC
        go_wp2_with fail
        go_roundw
        case rel =>
          refine ⟨_, cnt1, V ++ [e], some k2, HRG5.out, HC5.out, HV.out, HVL.out, ?_, fun j hj => by cases hj; exact hk2⟩
          rw [HFS.out, if_pos hh]
          simpa using HO.out
        case measure => rw [HRG5.out.left_eq, HOLD.out.left_eq]; exact HM
      · have HO := Lib.hid ho1
        have HC := Lib.hid hc2
        have HRG := Lib.hid hrg2
        clear ho1 hc2 hrg2
        go_wp2_with fail
        go_roundw
        case rel =>
          refine ⟨_, cnt1, V ++ [e], g, HRG.out, HC.out, HV.out, HVL.out, ?_, HG1.out⟩
          rw [HFS.out, if_neg hh, List.append_nil]
          exact HO.out
        case measure => rw [HRG.out.left_eq, HOLD.out.left_eq]; exact HM

theorem infomS : (Try.prog.info? 9).map (fun i => (i.zero, i.size, i.bytes)) = some (some (.string ByteArray.empty), 1, 16) := by kernel_rfl
/-- The keys of V that are due. -/
abbrev keysS (V : List (Ent (List UInt8))) : List (List Value) := V.map fun e => [encStr e.k]
/-- Due's loop. -/
def DueInvS (L : List (Ent (List UInt8))) (D : DataW Unit) (h : Int) (m r n : Nat) (w0 : World) (v5 : Value) (wr : World) : Prop :=
  ∃ left cnt V g, wr.ranges Try.prog 9 oneR m r n D left cnt ∧ Chg (fun i => i = r) w0 wr ∧ Vis Lit.string L left V ∧ V.length + cnt ≤ n ∧ Owns wr 9 1 v5 g (keysS (V.filter (fun e => decide (e.d ≤ h)))) ∧ (∀ k, g = some k → w0.heap.size ≤ k)

set_option maxRecDepth 100000 in
set_option maxHeartbeats 3200000 in
theorem dueS (b m n : Nat) (L : List (Ent (List UInt8))) (h : Int) (w : World) (H : QS w b m n L) (hn : n ≤ 1000000) :
    Calls Try.prog 16 #[.pointer (some ⟨b, 0, none⟩), .int .i64 h] w fun e w' => ∃ a cap g R, e = .returned (.slice a R.length cap) ∧ IsDue L h R ∧ Owns w' 9 1 (.slice a R.length cap) g (keysS R) ∧ (∀ k, g = some k → w.heap.size ≤ k) ∧ Chg (fun _ => False) w w' := by
  obtain ⟨i0, hi, hz0, hz1, hz2⟩ := info_parts infomS
  have hlt := H.lt
  have hll := H.len_le
  have cq := chg0_alloc w (Obj.cells #[Value.pointer (some ⟨b, 0, none⟩)] 34)
  have H1 := H.chg0 cq
  have bq := Blk.new w 34 #[Value.pointer (some ⟨b, 0, none⟩)]
  have lq := bq.lt
  have e9 := H.box.cell 0
  simp at e9
  obtain ⟨D, hD, hQ⟩ := H1.own
  have hsz := hQ.size
  have HQ := Lib.hid hQ
  have HH := Lib.hid H1
  have hs1 : (w.alloc (Obj.cells #[Value.pointer (some ⟨b, 0, none⟩)] 34)).heap.size = w.heap.size + 1 := World.size_alloc _ _
  clear H hQ H1
  go_enter Try.func16, Try.ntmps16
  go_wp2_with (at_range; refine wpList_range_own _ rfl _ 65 rfl 9 60 lawS Try.underlying65 _ m n D rfl hD ?_; intro w0 hrg0 hg0 hs0)
  go_frame
  rw [hs1] at hrg0 hs0
  have HDP := Lib.hid hs1
  generalize w.alloc (Obj.cells #[Value.pointer (some ⟨b, 0, none⟩)] 34) = W1 at *
  obtain ⟨qb, hqb⟩ : ∃ qb, qb = w.heap.size := ⟨_, rfl⟩
  obtain ⟨r, hr⟩ : ∃ r, r = qb + 1 := ⟨_, rfl⟩
  rw [← hqb] at bq lq hrg0 hs0 hs1
  rw [← hr] at hrg0 hs0 hs1
  simp only [← hqb, hs1]
  have HQB := Lib.hid hqb
  clear HDP e9 hqb
  have c0 : Chg (fun _ => False) W1 w0 := (Chg.refl _ _).grown hg0 (fun k _ hk => by cases hk)
  have hw0 : w0.heap.size = r + 1 := by omega
  have HR := Lib.hid (show w.heap.size < r by have := HQB.out; omega)
  have C0 := Lib.hid c0
  have HW1 := Lib.hid hs1
  have CQ := Lib.hid cq
  have BQ := Lib.hid (bq.chg c0 (fun h => h))
  have HH2 := Lib.hid (HH.out.chg0 c0)
  have hm0 : m < w0.heap.size := by have := HH2.out.lt; omega
  have hb0 : b < w0.heap.size := by have := HH2.out.lt; omega
  have hq0 : qb < r := by omega
  have hmr : m < r := by have := HH.out.lt; omega
  have hbr : b < r := by have := HH.out.lt; omega
  clear hg0 hs0 hD hr c0 cq bq HH hs1
  go_loopw [5] (fun v5 wr => DueInvS L D h m r n w0 v5 wr) (fun _ wr => wr.rangeLeft m r)
  case atStart => exact ⟨_, _, [], none, hrg0, Chg.refl _ _, Vis.start HQ.out, by rw [hsz]; simpa using hll, Owns.nil _ _ _, by simp⟩
  case round =>
    clear hrg0
    obtain ⟨left, cnt, V, g, hrg, hc, hvis, hcn, hown, hg1⟩ := hrel
    have q1 := (BQ.out.chg hc (by omega)).cell 0
    simp at q1
    have HG1 := Lib.hid hg1
    clear hg1
    go_wp2_with (at_next; refine wpList_next_ranges _ rfl _ rfl 9 lawS oneR encStr (fun c : Int × Int => .agg #[.int .i64 c.1, .int .i64 c.2]) (fun key kl hk => by obtain ⟨x, hx, _⟩ := invS hk; exact ⟨x, hx⟩) (fun v y hv => by obtain ⟨c, hc, _⟩ := oneR_inv hv; exact ⟨c, hc⟩) m r n _ _ _ rfl hrg ?_ ?_)
    · intro _ hl0
      have hp := hvis.done HQ.out.nodup hl0
      obtain ⟨A, hA⟩ : ∃ A, A = V.filter (fun e => decide (e.d ≤ h)) := ⟨_, rfl⟩
      rw [← hA] at hown
      have hAp : A.Perm (L.filter (fun e => decide (e.d ≤ h))) := by rw [hA]; exact hp.filter _
      have hAl : A.length ≤ 1000000 := by rw [hAp.length_eq]; have := List.length_filter_le (fun e : Ent (List UInt8) => decide (e.d ≤ h)) L; omega
      have HP := Lib.hid hAp
      have HC := Lib.hid hc
      have HQ3 := Lib.hid (HH2.out.chg hc (by omega) (by omega))
      have hc3 : Chg (fun _ => False) w wr := CQ.out.trans (C0.out.trans' hc (fun i hi e => by have := HW1.out; omega))
      have HC3 := Lib.hid hc3
      have hcsz := hc3.size
      have qq := BQ.out.chg hc (by omega)
      have HBQ := Lib.hid qq
      clear hrg hc hvis hl0 hp hcn hAp hc3 qq
      obtain ⟨aA, capA, rfl, hla, hca, -, hga⟩ := hown.form
      rw [List.length_map] at hown hla ⊢
      by_cases hA0 : A = []
      · subst hA0
        have HO := Lib.hid hown
        clear hown hA hga
        simp only [List.length_nil] at *
        go_wp2_with fail
        refine (Try.slices_SortFunc_none_f33 (α := Unit) _ _ _ _).mono ?_
        rintro e w2 ⟨rfl, rfl⟩
        go_wp2_with fail
        go_ret
        exact ⟨aA, capA, g, [], rfl, ⟨HP.out, List.Pairwise.nil⟩, HO.out, fun k hk => by have := HG1.out k hk; have := HR.out; omega, HC3.out⟩
      · have hpos : 0 < A.length := List.length_pos_iff.2 hA0
        obtain ⟨k, rfl⟩ := hown.pos (by rw [List.length_map]; exact hpos)
        simp only [Option.map_some] at hga
        subst hga
        have hmem : ∀ e ∈ A, e ∈ L := fun e he => (List.mem_filter.1 (HP.out.subset he)).1
        obtain ⟨B, hB⟩ : ∃ B : List {e : Ent (List UInt8) // e ∈ L}, B.map (·.1) = A := ⟨A.pmap Subtype.mk hmem, by rw [List.map_pmap]; simp⟩
        have hBl : B.length = A.length := by rw [← hB, List.length_map]
        haveI : Inhabited {e : Ent (List UInt8) // e ∈ L} := ⟨B[0]'(by omega)⟩
        have hkB : keysS A = B.map (fun z => [(fun z : {e : Ent (List UInt8) // e ∈ L} => encStr z.1.k) z]) := by rw [← hB, keysS, List.map_map]; rfl
        rw [hkB, ← hBl] at hown
        have hk0 := HG1.out k rfl
        have hkr : r < k := by omega
        have hklt := hown.lt k rfl
        have SW := fun (q : Nat) (os : Array Obj) => sw_owns (n := q) (os := os) (ts := dueSort B) hown ((dueSort_perm B).length_eq)
        have hHold := (SW 0 #[]).1
        have hcmp : Go.Proofs.CmpLays1 Try.prog 34 #[.pointer (some ⟨qb, 0, none⟩)] (fun z : {e : Ent (List UInt8) // e ∈ L} => encStr z.1.k) (fun x y : {e : Ent (List UInt8) // e ∈ L} => dueC x.1 y.1) k 0 B.toArray.size wr := fun mm os dk _ x y => by
          have cs := sw_chg (enc := fun z : {e : Ent (List UInt8) // e ∈ L} => encStr z.1.k) (w := wr) (g := k) (n := mm) (os := os) dk
          refine (cloS qb b m n L x.1 y.1 x.2 y.2 _ (HQ3.out.chg cs (by omega) (by omega)) ?_).mono ?_
          · have := (HBQ.out.chg cs (by omega)).cell 0
            simpa using this
          · rintro e w2 ⟨rfl, hl⟩
            exact ⟨rfl, hl⟩
        have hcon := Try.slices_SortFunc_total_f33 (fun z : {e : Ent (List UInt8) // e ∈ L} => encStr z.1.k) (fun _ => rfl) (fun x y : {e : Ent (List UInt8) // e ∈ L} => dueC x.1 y.1) due_swo 34 #[.pointer (some ⟨qb, 0, none⟩)] k 0 capA B.toArray wr (enters_of Try.func34 (by kernel_rfl) rfl) hcmp hHold hklt (by simp; omega) (due_tot HH2.out.rise)
        have HS := Lib.hid SW
        have HBL := Lib.hid hBl
        have HD := Lib.hid (dueSort_is (h := h) HH2.out.rise B (by rw [hB]; exact HP.out))
        have hcon2 : Calls Try.prog 33 #[.slice (some ⟨k, 0, none⟩) A.length capA, .func (.func 34) #[] #[.pointer (some ⟨qb, 0, none⟩)]] wr fun e w' => e = .returned (.tuple #[]) ∧ Owns w' 9 1 (.slice (some ⟨k, 0, none⟩) A.length capA) (some k) (keysS ((dueSort B).map (·.1))) ∧ Chg (fun i => i = k) wr w' := by
          rw [← hBl]
          refine Calls.mono (by simpa using hcon) ?_
          rintro e w2 ⟨rfl, q, os, rfl⟩
          have hsw := (HS.out q os).2
          rw [(dueSort_perm B).length_eq] at hsw
          refine ⟨rfl, ?_, sw_chg _⟩
          have : keysS ((dueSort B).map (·.1)) = (dueSort B).map (fun z => [(fun z : {e : Ent (List UInt8) // e ∈ L} => encStr z.1.k) z]) := by rw [keysS, List.map_map]; rfl
          rw [this]
          exact hsw
        have HCON := Lib.hid hcon2
        have HL := Lib.hid (show A.length = ((dueSort B).map (·.1)).length by rw [List.length_map, (dueSort_perm B).length_eq, hBl])
        clear SW hHold hcmp hcon hcon2 hown hkB hmem hA hA0 hB hBl
        go_wp2_with fail
        refine HCON.out.mono ?_
        rintro e w2 ⟨rfl, ho2, c2⟩
        have HO2 := Lib.hid ho2
        have hc4 : Chg (fun _ => False) w w2 := HC3.out.trans' c2 (fun i hi e => by have := HR.out; omega)
        clear ho2 c2
        go_wp2_with fail
        go_ret
        refine ⟨some ⟨k, 0, none⟩, capA, some k, (dueSort B).map (·.1), by rw [← HL.out]; rfl, HD.out, by rw [← HL.out]; exact HO2.out, fun j hj => ?_, hc4⟩
        cases hj
        have := HR.out
        omega
    · intro x c1 c2 kl y1 y2 w1 cnt1 hkey hlk hRv hat hrg1 hcnt hg1 hs1 hen
      obtain ⟨x', hxe, hkl, hxok⟩ := invS hkey
      obtain rfl : x = x' := by simpa using hxe
      subst hkl
      have hy : y1 = oneD c1 c2 := by have := (oneR_mk c1 c2).symm.trans hRv; cases this; rfl
      subst hy
      obtain ⟨e, heL, hek, hed, hes⟩ := HQ.out.entry (c := (c1, c2)) hat
      subst hek hed hes
      have hv1 := hvis.step (injS) HQ.out.nodup (lawS.key (keyS hxok)) heL hlk
      have hc1 : Chg (fun i => i = r) w0 w1 := hc.grown hg1 (fun k _ hk => by cases hk; rfl)
      have hc2 := hc1.alloc (Obj.cells #[Value.int .i64 e.d, Value.int .i64 e.s] 60)
      have hrg2 := hrg1.alloc (Obj.cells #[Value.int .i64 e.d, Value.int .i64 e.s] 60)
      have hw1 : Chg (fun i => i = r) wr w1 := (Chg.refl _ _).grown hg1 (fun k _ hk => by cases hk; rfl)
      have ho1 : Owns (w1.alloc (Obj.cells #[Value.int .i64 e.d, Value.int .i64 e.s] 60)) 9 1 u5 g (keysS (V.filter (fun e => decide (e.d ≤ h)))) := (hown.chg hw1 (fun k hk e => by have := HG1.out k hk; omega)).alloc _
      obtain ⟨A, hA⟩ : ∃ A, A = V.filter (fun e => decide (e.d ≤ h)) := ⟨_, rfl⟩
      rw [← hA] at ho1
      have hAl : A.length ≤ 1000000 := by rw [hA]; have := List.length_filter_le (fun e : Ent (List UInt8) => decide (e.d ≤ h)) V; omega
      have hfs : (V ++ [e]).filter (fun e => decide (e.d ≤ h)) = A ++ (if e.d ≤ h then [e] else []) := by
        rw [List.filter_append, ← hA]
        congr 1
        by_cases hh : e.d ≤ h <;> simp [hh]
      have HV := Lib.hid hv1
      have HM : cnt1 < cnt := hcnt
      have HVL := Lib.hid (show (V ++ [e]).length + cnt1 ≤ n by simp; omega)
      have HFS := Lib.hid hfs
      have HOLD := Lib.hid hrg
      have hw0s := hc2.size
      clear hc hc1 hvis hv1 hrg1 hkey hlk hRv hat hg1 hcnt hrg hxok heL hown hA hfs hcn hw1 hs1
      by_cases hh : e.d ≤ h
      · have bX := Blk.new (w1.alloc (Obj.cells #[Value.int .i64 e.d, Value.int .i64 e.s] 60)) 9 #[encStr e.k]
        rw [World.size_alloc] at bX
        have ho2 := ho1.alloc (Obj.cells #[encStr e.k] 9)
        have hc3 := hc2.alloc (Obj.cells #[encStr e.k] 9)
        have hrg3 := hrg2.alloc (Obj.cells #[encStr e.k] 9)
        have HRG := Lib.hid hrg3
        have HC := Lib.hid hc3
        clear ho1 hc2 hrg2 hc3 hrg3
        go_wp2_with (at_builtin; refine wpList_app (by rfl) (.tmp 24) (.tmp 26) 41 (by rfl) 9 i0 _ 1 16 Try.underlying41 hi hz0 hz1 hz2 rfl (by omega) _ _ _ (by rfl) ho2 _ 9 [[encStr e.k]] 1 1 (by rfl) (by rfl) bX (by simp) (by simp [Value.oneCell']) (by simp) (by simp; omega) (by simp [maxLen]; omega) ?_)
        intro k2 cap2 w2 ho hca hk
        have hk' : g = some k2 ∨ w0.heap.size ≤ k2 := by
          rcases hk with hk | hk
          · exact .inl hk
          · simp only [World.size_alloc] at hk hw0s
            exact .inr (by omega)
        have hk2 : w0.heap.size ≤ k2 := hk'.elim (fun e => HG1.out _ e) id
        have ho' : Owns w2 9 1 (.slice (some ⟨k2, 0, none⟩) (A.length + 1) cap2) (some k2) (keysS (A ++ [e])) := by rw [keysS, List.map_append]; simpa using ho
        have hc5 : Chg (fun i => i = r) w0 w2 := HC.out.trans' hca (fun i hi e => by have := HG1.out i e; omega)
        have hrg5 := ranges_chg HRG.out hca (fun e => by have := HG1.out m e; omega) (fun e => by have := HG1.out r e; omega)
        have HO := Lib.hid ho'
        have HC5 := Lib.hid hc5
        have HRG5 := Lib.hid hrg5
        clear ho2 bX ho hca hk ho' hc5 hrg5 hk' HRG HC
        go_wp2_with fail
        go_roundw
        case rel =>
          refine ⟨_, cnt1, V ++ [e], some k2, HRG5.out, HC5.out, HV.out, HVL.out, ?_, fun j hj => by cases hj; exact hk2⟩
          rw [HFS.out, if_pos hh]
          simpa using HO.out
        case measure => rw [HRG5.out.left_eq, HOLD.out.left_eq]; exact HM
      · have HO := Lib.hid ho1
        have HC := Lib.hid hc2
        have HRG := Lib.hid hrg2
        clear ho1 hc2 hrg2
        go_wp2_with fail
        go_roundw
        case rel =>
          refine ⟨_, cnt1, V ++ [e], g, HRG.out, HC.out, HV.out, HVL.out, ?_, HG1.out⟩
          rw [HFS.out, if_neg hh, List.append_nil]
          exact HO.out
        case measure => rw [HRG.out.left_eq, HOLD.out.left_eq]; exact HM
end Go.Proofs.Ythholmapjbaknaa
