/- MedianKinds: of numbers of another type the one in the middle is told likewise: the walk. -/
import Derived.Test.YtiflogohalceaaaGreatMed2
import Derived.Test.YtiflogohalceaaaGreatEnds
set_option linter.unusedVariables false
set_option linter.unusedSectionVars false
namespace Go.Chron
open Go Go.RowKit
theorem wf_i16 {x : Int} (hn : (Lit.int .i16 x).wf = true) : -32768 ≤ x ∧ x ≤ 32767 := by
  simp only [Lit.wf, IntKind.min, IntKind.max, IntKind.signed, IntKind.bits, Bool.and_eq_true, decide_eq_true_eq, if_true] at hn
  obtain ⟨h1, h2⟩ := hn
  simp at h1 h2
  omega
theorem fb_self (m : Int) : FloatKind.f64.format.order (fb m) (fb m) = some Ordering.eq := by
  have h := fb_eq m m
  have h2 : Ieee.double.order (fb m) (fb m) = some Ordering.eq := by simpa using h
  exact h2
theorem enc_one' {α : Type} (f : α → Value) (zs : List α) (hf : ∀ z, (f z).oneCell' = true) : ∀ u ∈ (zs.map (fun z => [f z])).flatten, u.oneCell' = true := by
  intro u hu
  obtain ⟨x, hx, hxu⟩ := List.mem_flatten.1 hu
  obtain ⟨z, _, rfl⟩ := List.mem_map.1 hx
  simp at hxu
  rw [hxu]; exact hf z
end Go.Chron
namespace Go.Proofs.YtiflogohalceaaaGreat
open Go.RowKit Go.Chron

theorem infoK2 : (Tryz.prog.info? 2).map (fun i => (i.zero, i.size, i.bytes)) = some (some (.int .i64 0), 1, 8) := by kernel_rfl
theorem infoK28 : (Tryz.prog.info? 28).map (fun i => (i.zero, i.size, i.bytes)) = some (some (.float .f64 0), 1, 8) := by kernel_rfl
theorem infoK5 : (Tryz.prog.info? 5).map (fun i => (i.zero, i.size, i.bytes)) = some (some (.int .u8 0), 1, 1) := by kernel_rfl
theorem run_cvt (x : Int) (h1 : -32768 ≤ x) (h2 : x ≤ 32767) (t : TypeId) (k : IntKind) (w : World) (ht : Tryz.prog.underlying t = some (.int k)) : Sem.run Tryz.prog (convert t 28 (.int k x)) w = .ok (.float .f64 (fb x)) w := by
  rw [fb_def, cl_id h1 h2]
  simp [convert, run_underlying Tryz.underlying28, run_underlying ht, Conv.intToFloat, Result.andThen]
/-- The law's loop: three lists of the same numbers. -/
def KInv (w : World) (L : List Int) (n : Nat) (i va vb vc : Value) (wr : World) : Prop :=
  ∃ (j : Nat) (ga gb gc : Option Nat) (C : List Int), j ≤ n ∧ i = .int .i64 j ∧ C.length = j ∧ Chg (fun _ => False) w wr ∧
    Owns wr 2 1 va ga ((L.take j).map fun z => [Value.int .i64 z]) ∧ (∀ k, ga = some k → w.heap.size ≤ k) ∧
    Owns wr 28 1 vb gb ((L.take j).map fun z => [encF z]) ∧ (∀ k, gb = some k → w.heap.size ≤ k) ∧
    Owns wr 5 1 vc gc (C.map fun z => [encB z]) ∧ (∀ k, gc = some k → w.heap.size ≤ k) ∧
    (∀ k, ga = some k → gb ≠ some k ∧ gc ≠ some k) ∧ (∀ k, gb = some k → gc ≠ some k)

set_option maxRecDepth 100000 in
set_option maxHeartbeats 6400000 in
theorem medianKinds_walk (a : Option Addr) (n cap : Nat) (L : List Int) (w : World) (hI : IntsIn .i16 w a n cap L) :
    Calls Tryz.prog 3 #[.slice a n cap] w fun e w' => e = .returned (.bool true) ∧ Below w.heap.size w w' := by
  obtain ⟨i2, hi2, hz20, hz21, hz22⟩ := info_parts infoK2
  obtain ⟨i28, hi28, hz280, hz281, hz282⟩ := info_parts infoK28
  obtain ⟨i5, hi5, hz50, hz51, hz52⟩ := info_parts infoK5
  have hle := hI.leE
  have hcm := hI.capE
  have HI := Lib.hid hI
  have HN := Lib.hid hI.lenE
  clear hI
  go_enter Tryz.func3, Tryz.ntmps3
  go_wp2_with fail
  refine (alive4 _).mono ?_
  rintro e w1 ⟨rfl, c1⟩
  by_cases hlen : 100 < n
  · go_wp2_with fail
    refine (alive4 _).mono ?_
    rintro e w2 ⟨rfl, c2⟩
    have HB := Lib.hid (below_chg (Below.refl w.heap.size w) (c1.trans c2) (Nat.le_refl _) (fun _ _ h => h))
    clear c1 c2
    go_wp2_with fail
    go_ret
    exact ⟨rfl, HB.out⟩
  · go_wp2_with fail
    go_loopw [3, 4, 5, 27] (fun va vb vc i wr => KInv w L n i va vb vc wr) (fun _ _ _ i _ => n - (idxOf i).toNat)
    case atStart => exact ⟨0, none, none, none, [], by omega, rfl, rfl, c1, Owns.nil _ _ _, by simp, Owns.nil _ _ _, by simp, Owns.nil _ _ _, by simp, by simp, by simp⟩
    case round =>
      clear c1
      obtain ⟨j, ga, gb, gc, C, hj, rfl, hC, c, oa, ha, ob, hb, oc, hc, hab, hbc⟩ := hrel
      by_cases hlt : j < n
      · obtain ⟨x, hx⟩ : ∃ x, L[j]? = some x := ⟨_, List.getElem?_eq_getElem (by rw [← HN.out]; exact hlt)⟩
        obtain ⟨bl, off, rfl, hcell⟩ := HI.out.reads (by rw [List.length_map, ← HN.out]; omega)
        have hxx : (L.map (fun x => [Value.int .i16 x]))[j]? = some [Value.int .i16 x] := by rw [List.getElem?_map, hx]; rfl
        have e0 := c.keep (hcell j _ hxx 0 _ rfl) (fun h => h)
        simp only [Nat.add_zero, Nat.mul_one] at e0
        have hi1 : (j : Int) < (n : Int) := by omega
        obtain ⟨hx1, hx2⟩ := wf_i16 (HI.out.wf x (List.mem_of_getElem? hx))
        have htk : L.take (j + 1) = L.take j ++ [x] := by rw [List.take_add_one, hx]; rfl
        have hcv := fun w => run_cvt x hx1 hx2 27 .i16 w Tryz.underlying27
        have hw1 : IntKind.i64.wrap x = x := by rw [IntKind.wrap_i64]; omega
        obtain ⟨A, hA⟩ : ∃ A, A = L.take j := ⟨_, rfl⟩
        have hAl : A.length = j := by rw [hA, List.length_take, ← HN.out]; omega
        rw [← hA] at oa ob htk
        have HTK := Lib.hid htk
        clear hx hxx hcell htk hA
        have o1 := oa.alloc (Obj.cells #[Value.int .i64 x] 2)
        have bX := Blk.new wr 2 #[Value.int .i64 x]
        have hsz := c.size
        have HA := Lib.hid ha
        have HB := Lib.hid hb
        have HC := Lib.hid hc
        have HAB := Lib.hid hab
        have HBC := Lib.hid hbc
        have HOB := Lib.hid ob
        have HOC := Lib.hid oc
        clear ha hb hc hab hbc ob oc oa
        go_wp2_with (at_builtin; refine wpList_app (by rfl) (.tmp 31) (.tmp 34) 24 (by rfl) 2 i2 _ 1 8 Tryz.underlying24 hi2 hz20 hz21 hz22 rfl (by omega) _ _ _ (by rfl) o1 _ 2 [[.int .i64 x]] 1 1 (by rfl) (by rfl) bX (by simp) (by simp [Value.oneCell']) (by simp) (by simp; omega) (by simp [maxLen]; omega) ?_)
        intro k1 cap1 w2 ho1 hc1 hk1
        have hk1' : ga = some k1 ∨ wr.heap.size + 1 ≤ k1 := by simpa using hk1
        have c2 : Chg (fun _ => False) w w2 := (c.alloc _).trans' hc1 (fun i hi e => by have := HA.out i e; omega)
        have ob2 := (HOB.out.alloc (Obj.cells #[Value.int .i64 x] 2)).chg hc1 (fun k hk e => (HAB.out k e).1 hk)
        have oc2 := (HOC.out.alloc (Obj.cells #[Value.int .i64 x] 2)).chg hc1 (fun k hk e => (HAB.out k e).2 hk)
        have hs2 := hc1.size
        rw [World.size_alloc] at hs2
        have lb := HOB.out.lt
        have lc := HOC.out.lt
        have hd2 : gb ≠ some k1 ∧ gc ≠ some k1 := by
          rcases hk1' with h | h
          · exact HAB.out k1 h
          · exact ⟨fun e => by have := lb k1 e; omega, fun e => by have := lc k1 e; omega⟩
        have hk1w : w.heap.size ≤ k1 := hk1'.elim (fun e => HA.out _ e) (fun e => by omega)
        have hk1l := ho1.lt k1 rfl
        have ho1' : Owns w2 2 1 (.slice (some ⟨k1, 0, none⟩) (j + 1) cap1) (some k1) ((A ++ [x]).map fun z => [Value.int .i64 z]) := by rw [List.map_append]; simpa [hAl] using ho1
        have HO1 := Lib.hid ho1'
        have HC2 := Lib.hid c2
        have HOC2 := Lib.hid oc2
        have o2 := ob2.alloc (Obj.cells #[Value.float .f64 (fb x)] 28)
        have bX2 := Blk.new w2 28 #[Value.float .f64 (fb x)]
        clear o1 bX ho1 hc1 hk1 ho1' c2 ob2 oc2 lb lc HOB HOC c hk1'
        go_wp2_with (at_builtin; refine wpList_app (by rfl) (.tmp 36) (.tmp 39) 25 (by rfl) 28 i28 _ 1 8 Tryz.underlying25 hi28 hz280 hz281 hz282 rfl (by omega) _ _ _ (by rfl) o2 _ 28 [[.float .f64 (fb x)]] 1 1 (by rfl) (by rfl) bX2 (by simp) (by simp [Value.oneCell']) (by simp) (by simp; omega) (by simp [maxLen]; omega) ?_)
        intro k2 cap2 w3 ho2 hc2 hk2
        have hk2' : gb = some k2 ∨ w2.heap.size + 1 ≤ k2 := by simpa using hk2
        have c3 : Chg (fun _ => False) w w3 := (HC2.out.alloc _).trans' hc2 (fun i hi e => by have := HB.out i e; omega)
        have hk12 : k1 ≠ k2 := by
          rcases hk2' with h | h
          · exact fun e => hd2.1 (by rw [e]; exact h)
          · omega
        have oa3 := (HO1.out.alloc (Obj.cells #[Value.float .f64 (fb x)] 28)).chg hc2 (fun k hk e => by cases hk; exact hd2.1 e)
        have oc3 := (HOC2.out.alloc (Obj.cells #[Value.float .f64 (fb x)] 28)).chg hc2 (fun k hk e => HBC.out k e hk)
        have hs3 := hc2.size
        rw [World.size_alloc] at hs3
        have lc := HOC2.out.lt
        have hd3 : gc ≠ some k1 ∧ gc ≠ some k2 := by
          refine ⟨hd2.2, ?_⟩
          rcases hk2' with h | h
          · exact HBC.out k2 h
          · exact fun e => by have := lc k2 e; omega
        have hk2w : w.heap.size ≤ k2 := hk2'.elim (fun e => HB.out _ e) (fun e => by have := HC2.out.size; omega)
        have hk2l := ho2.lt k2 rfl
        have ho2' : Owns w3 28 1 (.slice (some ⟨k2, 0, none⟩) (j + 1) cap2) (some k2) ((A ++ [x]).map fun z => [encF z]) := by rw [List.map_append]; simpa [hAl] using ho2
        have HO2 := Lib.hid ho2'
        have HC3 := Lib.hid c3
        have HOA3 := Lib.hid oa3
        obtain ⟨y, hy⟩ : ∃ y, y = bits BinOp.and IntKind.i16 x 127 % 256 := ⟨_, rfl⟩
        have o3 := oc3.alloc (Obj.cells #[Value.int .u8 (bits BinOp.and IntKind.i16 x 127 % 256)] 5)
        have bX3 := Blk.new w3 5 #[Value.int .u8 (bits BinOp.and IntKind.i16 x 127 % 256)]
        clear o2 bX2 ho2 hc2 hk2 ho2' c3 oa3 oc3 lc hk2' hs2 hy
        go_wp2_with (at_builtin; refine wpList_app (by rfl) (.tmp 41) (.tmp 45) 26 (by rfl) 5 i5 _ 1 1 Tryz.underlying26 hi5 hz50 hz51 hz52 rfl (by omega) _ _ _ (by rfl) o3 _ 5 [[.int .u8 (bits BinOp.and IntKind.i16 x 127 % 256)]] 1 1 (by rfl) (by rfl) bX3 (by simp) (by simp [Value.oneCell']) (by simp) (by simp; omega) (by simp [maxLen]; omega) ?_)
        intro k3 cap3 w4 ho3 hc3 hk3
        have hk3' : gc = some k3 ∨ w3.heap.size + 1 ≤ k3 := by simpa using hk3
        have c4 : Chg (fun _ => False) w w4 := (HC3.out.alloc _).trans' hc3 (fun i hi e => by have := HC.out i e; omega)
        have oa4 := (HOA3.out.alloc (Obj.cells #[Value.int .u8 (bits BinOp.and IntKind.i16 x 127 % 256)] 5)).chg hc3 (fun k hk e => by cases hk; exact hd3.1 e)
        have ob4 := (HO2.out.alloc (Obj.cells #[Value.int .u8 (bits BinOp.and IntKind.i16 x 127 % 256)] 5)).chg hc3 (fun k hk e => by cases hk; exact hd3.2 e)
        have hk3w : w.heap.size ≤ k3 := hk3'.elim (fun e => HC.out _ e) (fun e => by have := HC3.out.size; omega)
        have hd4 : k1 ≠ k3 ∧ k2 ≠ k3 := by
          rcases hk3' with h | h
          · exact ⟨fun e => hd3.1 (by rw [e]; exact h), fun e => hd3.2 (by rw [e]; exact h)⟩
          · omega
        have hCl : C.length + 1 = j + 1 := by rw [hC]
        have ho3' : Owns w4 5 1 (.slice (some ⟨k3, 0, none⟩) (j + 1) cap3) (some k3) ((C ++ [bits BinOp.and IntKind.i16 x 127 % 256]).map fun z => [encB z]) := by rw [List.map_append]; simpa [hC] using ho3
        have hF : KInv w L n (.int .i64 (j + 1)) (.slice (some ⟨k1, 0, none⟩) (j + 1) cap1) (.slice (some ⟨k2, 0, none⟩) (j + 1) cap2) (.slice (some ⟨k3, 0, none⟩) (j + 1) cap3) w4 :=
          ⟨j + 1, some k1, some k2, some k3, C ++ [bits BinOp.and IntKind.i16 x 127 % 256], by omega, by go_num, by simpa using hC, c4, by rw [HTK.out]; exact oa4, fun k hk => by cases hk; exact hk1w, by rw [HTK.out]; exact ob4, fun k hk => by cases hk; exact hk2w,
            ho3', fun k hk => by cases hk; exact hk3w, fun k hk => by cases hk; exact ⟨fun e => hk12 (by cases e; rfl), fun e => hd4.1 (by cases e; rfl)⟩, fun k hk => by cases hk; exact fun e => hd4.2 (by cases e; rfl)⟩
        have HF := Lib.hid hF
        clear o3 bX3 ho3 hc3 hk3 ho3' c4 oa4 ob4 hk3' hF
        go_wp2_with fail
        go_roundw
        case rel => simpa [hAl, hC] using HF.out
        case measure => simp [idxOf]; omega
      · obtain rfl : j = n := by omega
        have htl : L.take j = L := List.take_of_length_le (by rw [HN.out]; exact Nat.le_refl _)
        rw [htl] at oa ob
        obtain ⟨a1, cap1, rfl, f1, f2, f3, f4⟩ := oa.form
        obtain ⟨a2, cap2, rfl, g1, g2, g3, g4⟩ := ob.form
        obtain ⟨a3, cap3, rfl, k1, k2, k3, k4⟩ := oc.form
        rw [List.length_map] at f1 g1 k1
        have r1 := oa.reads
        have r2 := ob.reads
        have r3 := oc.reads
        rw [← f4] at r1
        rw [← g4] at r2
        rw [← k4] at r3
        have n1 : a1 = none → L.length = 0 ∧ cap1 = 0 := fun h => by have := f3 h; omega
        have n2 : a2 = none → L.length = 0 ∧ cap2 = 0 := fun h => by have := g3 h; omega
        have n3 : a3 = none → C.length = 0 ∧ cap3 = 0 := fun h => by have := k3 h; omega
        rw [List.length_map]
        rw [List.length_map]
        rw [List.length_map]
        have l1 : ∀ k, ga = some k → k < wr.heap.size := oa.lt
        have l2 : ∀ k, gb = some k → k < wr.heap.size := ob.lt
        have l3 : ∀ k, gc = some k → k < wr.heap.size := oc.lt
        have hsm : ∀ z ∈ L, -32768 ≤ z ∧ z ≤ 32767 := fun z hz => wf_i16 (HI.out.wf z hz)
        have hln := HN.out
        obtain ⟨er, her⟩ : ∃ er : Int, er = (if L.length = 0 then 4 else 0) := ⟨_, rfl⟩
        obtain ⟨m, hm⟩ : ∃ m, m = medOf L := ⟨_, rfl⟩
        obtain ⟨mc, hmc⟩ : ∃ mc, mc = medOf C := ⟨_, rfl⟩
        obtain ⟨ln, hll⟩ : ∃ ln, ln = L.length := ⟨_, rfl⟩
        have hcl : C.length = L.length := by omega
        have q1 := of_i64 a1 L.length cap1 L wr rfl n1 r1 (by omega)
        have q2 := fun w2 (c2 : Chg (fun _ => False) wr w2) => of_F a2 L.length cap2 L w2 rfl n2 (r2.chg c2 (fun _ _ h => h)) (by omega) hsm
        have q3 := fun w2 (c2 : Chg (fun _ => False) wr w2) => of_B a3 C.length cap3 C w2 rfl n3 (r3.chg c2 (fun _ _ h => h)) (by omega)
        rw [hcl] at q3 ⊢
        rw [← her, ← hm] at q1
        simp only [← her] at q2 q3
        simp only [← hm, encF] at q2
        simp only [← hmc, encB] at q3
        simp only [← hll] at q1 q2 q3 ⊢
        have Q1 := Lib.hid q1
        have Q2 := Lib.hid q2
        have Q3 := Lib.hid q3
        have HER := Lib.hid her
        have HM := Lib.hid hm
        have HLL := Lib.hid hll
        have HSM := Lib.hid hsm
        have HCC := Lib.hid c
        have hl100 : ln ≤ 100 := by omega
        clear oa ob oc r1 r2 r3 n1 n2 n3 f3 f4 g3 g4 k3 k4 ha hb hc hab hbc hsm q1 q2 q3 l1 l2 l3 f1 f2 g1 g2 k1 k2 htl her hm hmc hcl c hC hln hll
        go_wp2_with fail
        refine Q1.out.mono ?_
        rintro e w2 ⟨rfl, c2⟩
        go_wp2_with fail
        refine (Q2.out w2 c2).mono ?_
        rintro e w3 ⟨rfl, c3⟩
        have c3' := c2.trans c3
        clear c2 c3
        go_wp2_with fail
        refine (Q3.out w3 c3').mono ?_
        rintro e w4 ⟨rfl, c4⟩
        have c4' := c3'.trans c4
        have cw := HCC.out.trans c4'
        clear c3' c4 c4' Q1 Q2 Q3
        have hmL : -32768 ≤ m ∧ m ≤ 32767 := by
          rw [HM.out]
          by_cases hz : L = []
          · rw [hz, medOf_nil]; omega
          · exact HSM.out _ (med_mem hz)
        have hcv := fun w => run_cvt m hmL.1 hmL.2 2 .i64 w Tryz.underlying2
        have heq : FloatKind.f64.format.order (fb m) (fb m) = some Ordering.eq := fb_self m
        have hjn : j = ln := by have := HN.out; have := HLL.out; omega
        have HBW := Lib.hid (below_chg (Below.refl w.heap.size w) cw (Nat.le_refl _) (fun _ _ h => h))
        by_cases hz : ln = 0
        · have hL : L = [] := List.eq_nil_of_length_eq_zero (by rw [← HLL.out]; exact hz)
          have hm0 : m = 0 := by rw [HM.out, hL, medOf_nil]
          have he4 : er = 4 := by rw [HER.out, hL]; rfl
          have hj0 : j = 0 := by omega
          subst hj0 hm0 he4
          clear hz hL hjn cw
          go_wp2_with fail
          refine (spread8_none _ _ _).mono ?_
          rintro e w5 ⟨rfl, rfl⟩
          go_wp2_with fail
          go_ret
          exact ⟨rfl, HBW.out⟩
        · have hL : L ≠ [] := fun e => hz (by rw [HLL.out, e]; rfl)
          have he0 : er = 0 := by rw [HER.out, if_neg (by rw [← HLL.out]; exact hz)]
          subst he0
          have hpos : 0 < j := by omega
          have hsp := spread8 a j cap L w4 HN.out hpos hle hcm (HI.out.reads.chg cw (fun _ _ h => h)) (by omega)
          have HSP := Lib.hid hsp
          have HLN := Lib.hid hL
          clear hz hL hjn cw hsp hpos
          go_wp2_with fail
          refine HSP.out.mono ?_
          rintro e w5 ⟨lo, hi, rfl, hlo, hhi, rfl⟩
          have hb1 := HSM.out lo hlo.1
          have hb2 := HSM.out hi hhi.1
          have hmm := med_mem HLN.out
          rw [← HM.out] at hmm
          have hq1 := hlo.2 m hmm
          have hq2 := hhi.2 m hmm
          have hw1 : IntKind.i64.wrap lo = lo := by rw [IntKind.wrap_i64]; omega
          have hw2 : IntKind.i64.wrap hi = hi := by rw [IntKind.wrap_i64]; omega
          clear hlo hhi hmm HSP
          go_wp2_with fail
          go_ret
          exact ⟨rfl, HBW.out⟩
theorem medianKinds_all (a : Option Addr) (n cap : Nat) (els : List (List Value)) (w : World) (hI : FlatIn [.int .i16] w a n cap els) :
    Calls Tryz.prog 3 #[.slice a n cap] w fun e w' => e = .returned (.bool true) ∧ Below w.heap.size w w' := by
  obtain ⟨L, hL⟩ := ints_in hI
  exact medianKinds_walk a n cap L w hL
end Go.Proofs.YtiflogohalceaaaGreat
