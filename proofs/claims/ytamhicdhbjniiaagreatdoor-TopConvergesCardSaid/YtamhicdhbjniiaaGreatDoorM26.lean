/- lex.Lines: the walk. conf.Parse in plain words. conf.words' closures: contracts. -/
import Derived.Test.YtamhicdhbjniiaaGreatDoorM25
import Derived.Test.YtamhicdhbjniiaaGreatDoorM12
import Derived.Deep.RegionHeldLaw
set_option linter.unusedVariables false
set_option maxHeartbeats 4000000
set_option maxRecDepth 100000
namespace Go.Proofs.YtamhicdhbjniiaaGreatDoor
section
open Go Go.RowKit Go.Shelf Go.Chron
attribute [local go_sem] Oper.semAt_some
theorem info194 : (Tryz.prog.info? 194).map (fun i => (i.zero, i.size, i.bytes)) = some (some (.agg #[.int .i64 0, .slice none 0 0]), 2, 32) := by kernel_rfl
theorem lnc_one (k : Nat) (l : Ln) : ∀ u ∈ ([lnc k l] : List (List Value)).flatten, u.oneCell' = true := by
 intro u hu
 simp [lnc] at hu
 rcases hu with rfl | rfl <;> rfl
theorem KeepsFrom.of_chgB {S : Nat → Prop} {B : Nat} {W W' : World} (h : Chg S W W') (hS : ∀ i, S i → i < B ∨ ∃ t cs, Blk W i t cs) : KeepsFrom B W W' :=
 ⟨h.size, fun k o hB hk hc => (h.block k (Array.getElem?_eq_some_iff.1 hk).1 (fun hs => by
  rcases hS k hs with h1 | ⟨t, cs, hb⟩
  ·omega
  ·unfold Blk at hb
   rw [hb] at hk
   cases hk
   cases hc)).trans hk⟩
theorem set3c {W : World} {B : Nat} {a b c : Value} (h2 : Blk W B 189 #[a]) (h3 : Blk W (B + 1) 3 #[b]) (h4 : Blk W (B + 2) 42 #[c]) (u v x : Value) :
  Blk ((((W.setCell ⟨B, 0, none⟩ u).setCell ⟨B + 1, 0, none⟩ v).setCell ⟨B + 2, 0, none⟩ x)) B 189 #[u] ∧ Blk ((((W.setCell ⟨B, 0, none⟩ u).setCell ⟨B + 1, 0, none⟩ v).setCell ⟨B + 2, 0, none⟩ x)) (B + 1) 3 #[v] ∧
  Blk ((((W.setCell ⟨B, 0, none⟩ u).setCell ⟨B + 1, 0, none⟩ v).setCell ⟨B + 2, 0, none⟩ x)) (B + 2) 42 #[x] ∧ Chg (fun i => i = B ∨ i = B + 1 ∨ i = B + 2) W ((((W.setCell ⟨B, 0, none⟩ u).setCell ⟨B + 1, 0, none⟩ v).setCell ⟨B + 2, 0, none⟩ x)) := by
 refine ⟨?_, ?_, ?_, ((((Chg.refl (fun i => i = B ∨ i = B + 1 ∨ i = B + 2) W).setCell (p := ⟨B, 0, none⟩) (fun _ => .inl rfl) u).setCell (p := ⟨B + 1, 0, none⟩) (fun _ => .inr (.inl rfl)) v).setCell (p := ⟨B + 2, 0, none⟩) (fun _ => .inr (.inr rfl)) x)⟩
 ·have := ((h2.set_ 0 u).far (p := ⟨B + 1, 0, none⟩) (by simp) v).far (p := ⟨B + 2, 0, none⟩) (by simp) x
  simpa using this
 ·have := ((h3.far (p := ⟨B, 0, none⟩) (by simp) u).set_ 0 v).far (p := ⟨B + 2, 0, none⟩) (by simp) x
  simpa using this
 ·have := ((h4.far (p := ⟨B, 0, none⟩) (by simp) u).far (p := ⟨B + 1, 0, none⟩) (by simp) v).set_ 0 x
  simpa using this
def lamp (t x : List UInt8) (B : Nat) (fv : Value) : Act := { tmps := #[strv t, undef, .pointer (some ⟨B, 0, none⟩), .pointer (some ⟨B + 1, 0, none⟩), .pointer (some ⟨B + 2, 0, none⟩), .pointer (some ⟨B + 3, 0, none⟩), .pointer (some ⟨B + 4, 0, none⟩), strv x, undef, strv t, .int .i64 t.length, .bool false, strv t, fv, strv x, undef, undef, undef, undef, undef, undef, undef, undef, undef, undef, undef, undef, undef, undef, undef, undef, undef, undef, undef, undef, undef, undef, undef, undef], defers := [] }
theorem lines82 (t : List UInt8) (ht : t.length < 4294967281) (w : World) (gt : Nat) (hgt : Tryz.prog.globalNamed "strings.asciiSpace" = some gt) (hgl : gt < w.heap.size) (htab : Lib.TabIs Tryz.prog w "strings.asciiSpace" .u8 Lib.asciiSpaceTab) :
  Calls Tryz.prog 82 #[strv t] w fun e w' => ∃ v g ks, e = .returned (.tuple #[v, .int .i64 (linesI t).2.1, .int .i64 (linesI t).2.2]) ∧ LinesAt 194 w' v g ks (linesI t).1 ∧ (∀ k, g = some k → w.heap.size ≤ k) ∧ (∀ k ∈ ks, w.heap.size ≤ k) ∧ Chg (fun _ => False) w w' := by
 refine (callsIn_wide (n := 4)).1 ?_
 refine callsIn_of_wp_marks Tryz.func82 rfl trivial ?_ rfl
 simp only [Tryz.ntmps82, List.size_toArray, List.length_cons, List.length_nil, Nat.reduceAdd, Nat.reduceSub, Array.replicate_succ, Array.replicate_zero, List.push_toArray, List.append_toArray, List.nil_append, List.cons_append]
 have hsz : (⟨t.toArray⟩ : ByteArray).size = t.length := rfl
 have HTAB := Lib.hid (And.intro hgt (And.intro hgl htab))
 clear hgt hgl htab
 by_cases hg : 65536 < t.length
 ·have hI : (65536 : Int) < ↑(⟨t.toArray⟩ : ByteArray).size := by rw [hsz]; omega
  rw [linesI_great hg]
  have b2 := ((Blk.new w 189 #[.slice none 0 0]).alloc (Obj.cells #[.int .i64 0] 3)).alloc (Obj.cells #[.int .i64 7] 42)
  have b3 := (Blk.new (w.alloc (Obj.cells #[.slice none 0 0] 189)) 3 #[.int .i64 0]).alloc (Obj.cells #[.int .i64 7] 42)
  have b4 := Blk.new ((w.alloc (Obj.cells #[.slice none 0 0] 189)).alloc (Obj.cells #[.int .i64 0] 3)) 42 #[.int .i64 7]
  have cw := ((chg0_alloc w (Obj.cells #[.slice none 0 0] 189)).alloc (Obj.cells #[.int .i64 0] 3)).alloc (Obj.cells #[.int .i64 7] 42)
  simp only [World.size_alloc] at b3 b4
  unfold strv
  gi_wp2_with fail
  generalize ((w.alloc (Obj.cells #[.slice none 0 0] 189)).alloc (Obj.cells #[.int .i64 0] 3)).alloc (Obj.cells #[.int .i64 7] 42) = W at *
  have q2 := b2.cell 0
  have q3 := b3.cell 0
  have q4 := b4.cell 0
  simp at q2 q3 q4
  refine ⟨.tuple #[.slice none 0 0, .int .i64 0, .int .i64 7], ?_, .slice none 0 0, rfl, none, [], LinesAt.nil _ _, by simp, by simp, cw⟩
  simp [results, Tryz.f82, go_sem, q2, q3, q4]
 ·have hI : ¬ (65536 : Int) < ↑(⟨t.toArray⟩ : ByteArray).size := by rw [hsz]; omega
  have H114 := Lib.hid (seq114 t)
  unfold strv at H114 ⊢
  obtain ⟨B, hB⟩ : ∃ B, B = w.heap.size := ⟨_, rfl⟩
  have b2 := ((((Blk.new w 189 #[.slice none 0 0]).alloc (Obj.cells #[.int .i64 0] 3)).alloc (Obj.cells #[.int .i64 0] 42)).alloc (Obj.cells #[.slice none 0 0] 189)).alloc (Obj.cells #[.int .i64 0] 3)
  have b3 := (((Blk.new (w.alloc (Obj.cells #[.slice none 0 0] 189)) 3 #[.int .i64 0]).alloc (Obj.cells #[.int .i64 0] 42)).alloc (Obj.cells #[.slice none 0 0] 189)).alloc (Obj.cells #[.int .i64 0] 3)
  have b4 := ((Blk.new ((w.alloc (Obj.cells #[.slice none 0 0] 189)).alloc (Obj.cells #[.int .i64 0] 3)) 42 #[.int .i64 0]).alloc (Obj.cells #[.slice none 0 0] 189)).alloc (Obj.cells #[.int .i64 0] 3)
  have b5 := (Blk.new (((w.alloc (Obj.cells #[.slice none 0 0] 189)).alloc (Obj.cells #[.int .i64 0] 3)).alloc (Obj.cells #[.int .i64 0] 42)) 189 #[.slice none 0 0]).alloc (Obj.cells #[.int .i64 0] 3)
  have b6 := Blk.new ((((w.alloc (Obj.cells #[.slice none 0 0] 189)).alloc (Obj.cells #[.int .i64 0] 3)).alloc (Obj.cells #[.int .i64 0] 42)).alloc (Obj.cells #[.slice none 0 0] 189)) 3 #[.int .i64 0]
  have cw := ((((chg0_alloc w (Obj.cells #[.slice none 0 0] 189)).alloc (Obj.cells #[.int .i64 0] 3)).alloc (Obj.cells #[.int .i64 0] 42)).alloc (Obj.cells #[.slice none 0 0] 189)).alloc (Obj.cells #[.int .i64 0] 3)
  have hs5 : (((((w.alloc (Obj.cells #[.slice none 0 0] 189)).alloc (Obj.cells #[.int .i64 0] 3)).alloc (Obj.cells #[.int .i64 0] 42)).alloc (Obj.cells #[.slice none 0 0] 189)).alloc (Obj.cells #[.int .i64 0] 3)).heap.size = B + 5 := by simp [hB]
  simp only [World.size_alloc, ← hB, Nat.add_assoc, Nat.reduceAdd] at b2 b3 b4 b5 b6
  gi_wp2_with fail
  generalize ((((w.alloc (Obj.cells #[.slice none 0 0] 189)).alloc (Obj.cells #[.int .i64 0] 3)).alloc (Obj.cells #[.int .i64 0] 42)).alloc (Obj.cells #[.slice none 0 0] 189)).alloc (Obj.cells #[.int .i64 0] 3) = W0 at *
  refine ⟨trivial, (callsIn_wide.2 (H114.out _)).mono ?_⟩
  rintro e W1 ⟨bb, hbb, rfl, s1, s2, s3, hs1, c1⟩
  obtain rfl : bb = B + 5 := by rw [hbb, hs5]
  have dl : decide (65536 < (t.length : Int)) = false := decide_eq_false (by omega)
  rw [dl]
  simp only [← hB, Nat.add_assoc, Nat.reduceAdd] at s1 s2 s3 hs1 ⊢
  have c01 := cw.trans c1
  have HI0 : LinI B [] W1 ∧ Below B w W1 := ⟨⟨b2.chg c1 id, b3.chg c1 id, b4.chg c1 id, ⟨_, none, [], b5.chg c1 id, LinesAt.nil _ _, by simp, by simp⟩, b6.chg c1 id, rfl, by omega⟩, by rw [hB]; exact c01.below (Nat.le_refl _) (fun _ _ h => h)⟩
  have hBw : B ≤ w.heap.size := by omega
  have hBw' : w.heap.size ≤ B := by omega
  clear b2 b3 b4 b5 b6 hs5 hbb cw c1 W0 hB
  gi_wp2_with fail
  have hlen : ∀ pre : List (List UInt8), pre <+: splitB 10 t → pre.length ≤ 65537 := fun pre hp => by have h1 := hp.length_le; have h2 := splitB_len 10 t; omega
  refine wpIn_rangeT rfl (by omega) (gf := 170) (lb := #[.pointer (some ⟨B + 6, 0, none⟩), .pointer (some ⟨B + 5, 0, none⟩), .pointer (some ⟨B + 7, 0, none⟩)]) rfl trivial (enters_of Tryz.func170 (by kernel_rfl) rfl)
   (seq170 3 (by omega) (B + 6) (B + 5) (B + 7) 10 t ht (fun i => (B ≤ i ∧ i < B + 5) ∨ B + 8 ≤ i) W1 s2 s1 s3 (by omega) (by omega) (by omega) (by omega) (by omega)) (fun i hi => by omega)
   KpC.trans (fun W l o o' a b c d => KpC.book W l o o' a b c d) (Below.refl _ _) (fun _ => rfl)
   (fun pre W => LinI B pre W ∧ Below B w W)
   (fun c pre W => (c = Code.ret ∧ LinX B pre W) ∧ Below B w W)
   ?hI ?hIT ?hIx HI0
   (fun x a' W => a' = lamp t x B (Value.func (.func 170) #[] #[.pointer (some ⟨B + 6, 0, none⟩), .pointer (some ⟨B + 5, 0, none⟩), .pointer (some ⟨B + 7, 0, none⟩)]))
   ?hAx ?assign ?body ?done ?stop
  case hI => exact OwnFrom.and (ownFrom_blk (fun s A W S hs c hb => hs.chg c (fun k t cs h _ => hb k t cs h))) (ownFrom_below (by omega) (by omega))
  case hIT => exact fun s A W hs c => ⟨hs.1.chg c (fun k t cs h h8 e => by have e' : k = B + 5 := e; omega), below_chg hs.2 c (by omega) (fun i hi e => by have e' : i = B + 5 := e; omega)⟩
  case hIx => exact fun c => OwnFrom.and (ownFrom_blk (fun s A W S hs cc hb => ⟨hs.1, hs.2.chg cc (fun k t cs h _ => hb k t cs h)⟩)) (ownFrom_below (by omega) (by omega))
  case hAx => exact fun x a' => ownFrom_pure _ (fun _ => a' = _)
  case assign =>
   rintro l pre x W K hi hK
   unfold strv
   gi_wp2
   exact hK _ W (KeepsFrom.of_chgB (Chg.refl (fun _ => False) W) (fun i h => h.elim)) (KpC.of_chg (Chg.refl _ W)) hi rfl
  case body =>
   rintro l pre x a' W ⟨hi, hb⟩ rfl hp
   have hpl := hlen _ hp
   simp only [List.length_append, List.length_cons, List.length_nil] at hpl
   have hxl : x.length ≤ t.length := splitB_mem 10 t x (hp.subset (by simp))
   obtain ⟨x2, x3, x4, ⟨lv, g, ks, xl, xL, hgn, hkn⟩, xn, xo, xz⟩ := hi
   have e6 := xn.cell 0
   have f6 := xn.frozen 0
   simp at e6
   have hpl' : (pre.length : Int) ≤ 65537 := by omega
   have hP : pre.length ≤ 65537 := by omega
   have HX := Lib.hid (cut115 ⟨x.toArray⟩ 35)
   have HXP := Lib.hid (plain116 ⟨(x.takeWhile (· != 35)).toArray⟩)
   have hxs : (⟨x.toArray⟩ : ByteArray).size = x.length := rfl
   have htl : (x.takeWhile (· != (35 : UInt8))).length ≤ x.length := (List.takeWhile_prefix _).length_le
   have hts : (⟨(x.takeWhile (· != (35 : UInt8))).toArray⟩ : ByteArray).size = (x.takeWhile (· != 35)).length := rfl
   have HF := Lib.hid (fun (w : World) (hok : (x.takeWhile (· != 35)).all okB = true) (hT : Lib.TabIs Tryz.prog w "strings.asciiSpace" .u8 Lib.asciiSpaceTab) => show Calls Tryz.prog 117 #[.string ⟨(x.takeWhile (· != 35)).toArray⟩] w fun e w' => e = .returned (.slice (some ⟨w.heap.size, 0, none⟩) (lineOf x).length (lineOf x).length) ∧ w' = w.alloc (.cells ((lineOf x).map strv).toArray 9) from Tryz.strings_Fields ⟨(x.takeWhile (· != 35)).toArray⟩ w (by omega) (okB_ascii hok) hT)
   have hpk : pieceOk x = (x.takeWhile (· != 35)).all okB := rfl
   have hlo : lineOf x = Lib.fields (x.takeWhile (· != 35)) := rfl
   have hl1 : linesAcc 0 (pre ++ [x]) = linesAcc 0 pre ++ lineAt pre.length x := by rw [linesAcc_snoc, Nat.zero_add]
   have hlc := lineOf_count x
   have hlac : (linesAcc 0 pre).length ≤ 65537 := Nat.le_trans (linesAcc_count _ _) hP
   unfold lineAt at hl1
   unfold lamp strv
   gi_wp2_with fail
   have xn7 := xn.set_ 0 (.int .i64 ((pre.length : Int) + 1))
   simp at xn7
   have c7 : Chg (fun i => i = B + 4) W (W.setCell ⟨B + 4, 0, none⟩ (.int .i64 ((pre.length : Int) + 1))) := (Chg.refl (fun i => i = B + 4) W).setCell (p := ⟨B + 4, 0, none⟩) (fun _ => rfl) _
   have y2 := x2.chg c7 (by omega)
   have y3 := x3.chg c7 (by omega)
   have y4 := x4.chg c7 (by omega)
   have yl := xl.chg c7 (by omega)
   have yL := xL.chg c7 (fun k hk e => by have := hgn k hk; have e' : k = B + 4 := e; omega) (fun k hk e => by have := hkn k hk; have e' : k = B + 4 := e; omega)
   have hB4 := xn.lt
   have xrow : ∀ k, g = some k → ∃ t cs, Blk W k t cs := fun k hk => by obtain ⟨cs, h⟩ := xL.o.blk hk; exact ⟨_, cs, h⟩
   have HROW := Lib.hid xrow
   have HXL := Lib.hid (And.intro xl (And.intro xn (And.intro x2 (And.intro x3 x4))))
   clear x2 x3 x4 xl xL xn e6 f6 xrow
   generalize W.setCell ⟨B + 4, 0, none⟩ (.int .i64 ((pre.length : Int) + 1)) = V at *
   refine ⟨trivial, (CallsIn.inRound l (callsIn_wide.2 (HX.out V (by omega)))).mono ?_⟩
   rintro e V2 ⟨v1, v2, rfl, c2⟩
   have cv := c7.trans' c2 (fun _ _ h => h.elim)
   replace y2 := y2.chg c2 id
   replace y3 := y3.chg c2 id
   replace y4 := y4.chg c2 id
   replace yl := yl.chg c2 id
   replace yL := yL.chg c2 (fun _ _ h => h) (fun _ _ h => h)
   replace xn7 := xn7.chg c2 id
   clear c2 c7 HX
   generalize hT : x.takeWhile (· != 35) = T at *
   gi_wp2_with fail
   refine ⟨trivial, (CallsIn.inRound l (callsIn_wide.2 (HXP.out V2 (by omega)))).mono ?_⟩
   rintro e V3 ⟨rfl, c2⟩
   replace cv := cv.trans' c2 (fun _ _ h => h.elim)
   replace y2 := y2.chg c2 id
   replace y3 := y3.chg c2 id
   replace y4 := y4.chg c2 id
   replace yl := yl.chg c2 id
   replace yL := yL.chg c2 (fun _ _ h => h) (fun _ _ h => h)
   replace xn7 := xn7.chg c2 id
   clear c2 HXP V V2
   have q2 := y2.cell 0
   have q3 := y3.cell 0
   have q4 := y4.cell 0
   have q5 := yl.cell 0
   have q6 := xn7.cell 0
   have u2 := y2.frozen 0
   have u3 := y3.frozen 0
   have u4 := y4.frozen 0
   have u5 := yl.frozen 0
   simp at q2 q3 q4 q5 q6
   by_cases hok : T.all okB = true
   ·rw [hok] at hpk
    have HF2 := Lib.hid (fun w => HF.out w hok)
    have HPK := Lib.hid hpk
    have HL1 := Lib.hid hl1
    clear HF hpk hl1 hlo
    have htab := tab_chg HTAB.out.2.2 HTAB.out.1 HTAB.out.2.1 (S := fun _ => False) ⟨hb.os, hb.tape, hb.output, hb.size, fun i hi _ => hb.block i (by omega)⟩ (fun h => h)
    have hbs := hb.size
    have htab3 := tab_chg htab HTAB.out.1 (by have := HTAB.out.2.1; omega) cv (fun e => by have e' : gt = B + 4 := e; have := HTAB.out.2.1; omega)
    have HT3 := Lib.hid htab3
    clear htab htab3
    gi_wp2_with fail
    refine ⟨trivial, (CallsIn.inRound l (callsIn_wide.2 (HF2.out V3 HT3.out))).mono ?_⟩
    rintro e V4 ⟨rfl, rfl⟩
    have bk := Blk.new V3 9 ((lineOf x).map strv).toArray
    have c2 := chg0_alloc V3 (Obj.cells ((lineOf x).map strv).toArray 9)
    have hk8 : B + 8 ≤ V3.heap.size := by have := cv.size; omega
    replace cv := cv.trans' c2 (fun _ _ h => h.elim)
    replace y2 := y2.chg c2 id
    replace y3 := y3.chg c2 id
    replace y4 := y4.chg c2 id
    replace yl := yl.chg c2 id
    replace yL := yL.chg c2 (fun _ _ h => h) (fun _ _ h => h)
    replace xn7 := xn7.chg c2 id
    clear c2 q2 q3 q4 q5 q6 u2 u3 u4 u5
    generalize V3.alloc (.cells ((lineOf x).map strv).toArray 9) = V4 at *
    generalize V3.heap.size = k4 at *
    have q5 := yl.cell 0
    have q6 := xn7.cell 0
    have u5 := yl.frozen 0
    simp at q5 q6
    by_cases hz : (lineOf x).length = 0
    ·have hz0 : lineOf x = [] := List.eq_nil_of_length_eq_zero hz
     have hl := HL1.out
     rw [if_pos hz0, List.append_nil] at hl
     have HL := Lib.hid hl
     clear hl HL1
     rw [hz]
     gi_wp2_with fail
     exact ⟨KeepsFrom.of_chgB cv (fun i h => .inl (by omega)), KpC.of_chg (cv.mono (fun i _ h => .inl (by omega))), ⟨y2, y3, y4, ⟨lv, g, ks, yl, by rw [HL.out]; exact yL, hgn, hkn⟩, by simpa using xn7, by simp [xo, HPK.out], by have := cv.size; omega⟩, below_chg hb cv (by omega) (fun i hi e => by omega)⟩
    ·have hzp : (0 : Int) < ((lineOf x).length : Nat) := by omega
     have hz0 : lineOf x ≠ [] := fun h => hz (by rw [h]; rfl)
     have hl := HL1.out
     rw [if_neg hz0] at hl
     have HL := Lib.hid hl
     have HK := Lib.hid bk
     have HYL := Lib.hid yL
     clear hl HL1 bk yL hz hz0
     have bnew := Blk.new V4 194 #[.int .i64 ((pre.length : Int) + 1), .slice (some ⟨k4, 0, none⟩) (lineOf x).length (lineOf x).length]
     have bnew' : Blk (V4.alloc (Obj.cells #[.int .i64 ((pre.length : Int) + 1), .slice (some ⟨k4, 0, none⟩) (lineOf x).length (lineOf x).length] 194)) V4.heap.size 194 ([lnc k4 ⟨((pre.length + 1 : Nat) : Int), lineOf x⟩] : List (List Value)).flatten.toArray := by simpa [lnc] using bnew
     have o5 := (HYL.out.chg (S := fun _ => False) (chg0_alloc V4 (Obj.cells #[.int .i64 ((pre.length : Int) + 1), .slice (some ⟨k4, 0, none⟩) (lineOf x).length (lineOf x).length] 194)) (fun _ _ h => h) (fun _ _ h => h))
     have o5l := o5.zlen
     have HO5 := Lib.hid o5
     have HBN := Lib.hid bnew'
     obtain ⟨i0, hi0, hz0', hz1, hz2⟩ := info_parts info194
     have yl5 := yl.alloc (Obj.cells #[.int .i64 ((pre.length : Int) + 1), .slice (some ⟨k4, 0, none⟩) (lineOf x).length (lineOf x).length] 194)
     have HK5 := Lib.hid (HK.out.alloc (Obj.cells #[.int .i64 ((pre.length : Int) + 1), .slice (some ⟨k4, 0, none⟩) (lineOf x).length (lineOf x).length] 194))
     have cv5 := cv.alloc (Obj.cells #[.int .i64 ((pre.length : Int) + 1), .slice (some ⟨k4, 0, none⟩) (lineOf x).length (lineOf x).length] 194)
     have hsz5 : (V4.alloc (Obj.cells #[.int .i64 ((pre.length : Int) + 1), .slice (some ⟨k4, 0, none⟩) (lineOf x).length (lineOf x).length] 194)).heap.size = V4.heap.size + 1 := by simp
     have hV4 : B + 8 ≤ V4.heap.size := by have := cv.size; omega
     clear bnew bnew' o5
     generalize hnn : (lineOf x).length = nn at *
     gi_wp2_with (gi_at_builtin; refine wpListIn_app (by rfl) (.tmp 32) (.tmp 36) 189 (by rfl) 194 i0 _ 2 32 Tryz.underlying189 hi0 hz0' hz1 hz2 rfl (by omega) _ _ _ (by rfl) HO5.out.o _ 194 [lnc k4 ⟨((pre.length + 1 : Nat) : Int), lineOf x⟩] 1 1 (by rfl) (by rfl) HBN.out (by simp [lnc]) (lnc_one _ _) (by simp) (by rw [o5l]; simp; omega) (by rw [o5l]; simp [maxLen]; omega) ?_)
     intro k cap w' ho hc hk
     have sn := HO5.out.snoc hc ho HK5.out (by decide)
     have nB : ∀ j, j < B + 8 → ¬ g = some j := fun j hj e => by have := hgn j e; omega
     have z5 := yl5.chg hc (nB _ (by omega))
     have z2 := (y2.alloc (Obj.cells #[.int .i64 ((pre.length : Int) + 1), .slice (some ⟨k4, 0, none⟩) nn nn] 194)).chg hc (nB _ (by omega))
     have z3 := (y3.alloc (Obj.cells #[.int .i64 ((pre.length : Int) + 1), .slice (some ⟨k4, 0, none⟩) nn nn] 194)).chg hc (nB _ (by omega))
     have z4 := (y4.alloc (Obj.cells #[.int .i64 ((pre.length : Int) + 1), .slice (some ⟨k4, 0, none⟩) nn nn] 194)).chg hc (nB _ (by omega))
     have z6 := (xn7.alloc (Obj.cells #[.int .i64 ((pre.length : Int) + 1), .slice (some ⟨k4, 0, none⟩) nn nn] 194)).chg hc (nB _ (by omega))
     have cA := (cv5.mono (S' := fun i => i = B + 4 ∨ i = B + 3 ∨ g = some i) (fun i _ h => .inl h)).trans (hc.mono (fun i _ h => .inr (.inr h)))
     have w5 := z5.frozen 0
     have p5 := z5.cell 0
     simp at p5
     have hkB : B + 8 ≤ k := by
      rcases hk with hk | hk
      ·exact hgn k hk
      ·omega
     have SN := Lib.hid sn
     have CA := Lib.hid cA
     have h2 : 0 < (linesAcc 0 pre).length + 1 := by omega
     clear q5 q6 u5 ho hc hk sn cA yl5 yl y2 y3 y4 xn7 cv cv5
     generalize hL1 : (linesAcc 0 pre).length + 1 = L1 at *
     gi_wp2_with fail
     have c8 : Chg (fun i => i = B + 3) w' (w'.setCell ⟨B + 3, 0, none⟩ (.slice (some ⟨k, 0, none⟩) L1 cap)) := (Chg.refl (fun i => i = B + 3) w').setCell (p := ⟨B + 3, 0, none⟩) (fun _ => rfl) _
     have r5 := z5.set_ 0 (.slice (some ⟨k, 0, none⟩) L1 cap)
     simp at r5
     have cF := CA.out.trans (c8.mono (fun i _ h => .inr (.inl h)))
     have sF := SN.out.chg c8 (fun j hj e => by cases hj; have e' : k = B + 3 := e; omega) (fun j hj e => by
      have e' : j = B + 3 := e
      rcases List.mem_append.1 hj with hj | hj
      ·have := hkn j hj; omega
      ·simp at hj; omega)
     refine ⟨KeepsFrom.of_chgB cF (fun i h => ?_), KpC.of_chg (cF.mono (fun i _ h => ?_)), ⟨z2.chg c8 (by omega), z3.chg c8 (by omega), z4.chg c8 (by omega), ⟨_, some k, ks ++ [k4], r5, ?_, ?_, ?_⟩, ?_, ?_, ?_⟩, below_chg hb cF (by omega) (fun i hi e => ?_)⟩
     ·rcases h with h | h | h
      ·exact .inl (by omega)
      ·exact .inl (by omega)
      ·exact .inr (HROW.out i h)
     ·rcases h with h | h | h
      ·exact .inl (by omega)
      ·exact .inl (by omega)
      ·exact .inr (hgn i h)
     ·rw [HL.out]; exact sF
     ·intro j hj; cases hj; exact hkB
     ·intro j hj
      rcases List.mem_append.1 hj with hj | hj
      ·exact hkn j hj
      ·simp at hj; omega
     ·have := z6.chg c8 (by omega); simpa using this
     ·simp [xo, HPK.out]
     ·have := cF.size; omega
     ·rcases e with e | e | e
      ·omega
      ·omega
      ·have := hgn i e; omega
   ·have hok' : T.all okB = false := by simpa using hok
    rw [hok'] at hpk
    have HPK := Lib.hid hpk
    clear hpk hl1 hlo HF hok
    gi_wp2_with fail
    gi_region
    all_goals gi_wp2_with fail
    all_goals (
     obtain ⟨p2, p3, p4, pc⟩ := set3c y2 y3 y4 (Value.slice none 0 0) (Value.int IntKind.i64 ((pre.length : Int) + 1)) (Value.int IntKind.i64 6)
     have cF := ((cv.mono (S' := fun i => i = B + 4 ∨ i = B ∨ i = B + 1 ∨ i = B + 2) (fun i _ h => .inl h)).trans (pc.mono (fun i _ h => .inr h))).drew
     exact ⟨KeepsFrom.of_chgB cF (fun i h => .inl (by omega)), ⟨rfl, p2.drew, by simpa using p3.drew, p4.drew, pre, x, rfl, xo, HPK.out⟩, below_chg hb cF (by omega) (fun i hi e => by omega)⟩)
  case done =>
   rintro D W hD ⟨⟨x2, x3, x4, ⟨lv, g, ks, xl, xL, hgn, hkn⟩, xn, xo, xz⟩, hb⟩ hK
   have HLI := Lib.hid (linesI_fine hg xo)
   obtain ⟨la, lcap, rfl, -, -, -, -⟩ := xL.o.form
   generalize (List.zipWith lnc ks (linesAcc 0 (splitB 10 t))).length = ln at *
   have q2 := x2.cell 0
   have q3 := x3.cell 0
   have q4 := x4.cell 0
   have q5 := xl.cell 0
   have u2 := x2.frozen 0
   have u3 := x3.frozen 0
   have u4 := x4.frozen 0
   simp at q2 q3 q4 q5
   have hlB := xn.lt
   have HH := Lib.hid (And.intro x2 (And.intro x3 (And.intro x4 xL)))
   clear x2 x3 x4 xL xl xn xo
   gi_wp2_with fail
   obtain ⟨p2, p3, p4, pc⟩ := set3c HH.out.1 HH.out.2.1 HH.out.2.2.1 (.slice la ln lcap) (Value.int IntKind.i64 0) (Value.int IntKind.i64 0)
   have sL := HH.out.2.2.2.chg pc (fun j hj e => by have := hgn j hj; omega) (fun j hj e => by have := hkn j hj; omega)
   have hKD := (pc.block D (Array.getElem?_eq_some_iff.1 hK).1 (fun e => by omega)).trans hK
   have bF := below_chg hb pc (by omega) (fun i hi e => by omega)
   generalize (((W.setCell ⟨B, 0, none⟩ (.slice la ln lcap)).setCell ⟨B + 1, 0, none⟩ (Value.int IntKind.i64 0)).setCell ⟨B + 2, 0, none⟩ (Value.int IntKind.i64 0)) = WF at *
   have g' := grownBy_putObj' WF D (.deferred none)
   have ch : Chg (fun i => i = D) WF (WF.putObj D (.deferred none)) := ⟨g'.os, g'.tape, g'.output, g'.size, fun k hk hd => g'.block k hk (fun e => hd (by cases e; rfl))⟩
   have noD : ∀ {j : Nat} {t : TypeId} {cs : Array Value}, Blk WF j t cs → ¬ j = D := fun hj e => by
    unfold Blk at hj
    rw [e, hKD] at hj
    cases hj
   have p2' := p2.chg ch (noD p2)
   have p3' := p3.chg ch (noD p3)
   have p4' := p4.chg ch (noD p4)
   have sL' := sL.chg ch (fun j hj => by obtain ⟨cs, h⟩ := sL.o.blk hj; exact noD h) (fun j hj => by
    obtain ⟨i, hi, he⟩ := List.getElem_of_mem hj
    have e1 : ks[i]? = some j := by rw [← he]; exact List.getElem?_eq_getElem hi
    exact noD (sL.at_ i j _ e1 (List.getElem?_eq_getElem (by rw [← sL.len]; exact hi))))
   have bF' := below_chg bF ch (by omega) (fun i hi e => by have e' : i = D := e; omega)
   have m2 := p2'.cell 0
   have m3 := p3'.cell 0
   have m4 := p4'.cell 0
   simp at m2 m3 m4
   refine ⟨by simp, .inl ⟨_, _, rfl, run_takeDeferred hKD, ?_⟩⟩
   refine ⟨.tuple #[.slice la ln lcap, .int .i64 0, .int .i64 0], ?_, .slice la ln lcap, g, ks, by rw [HLI.out], by rw [HLI.out]; exact sL', fun k hk => by have := hgn k hk; omega, fun k hk => by have := hkn k hk; omega, ⟨bF'.os, bF'.tape, bF'.output, bF'.size, fun i hi _ => bF'.block i (by omega)⟩⟩
   simp [results, Tryz.f82, go_sem, m2, m3, m4]
  case stop =>
   rintro D c pre W hD hpre ⟨⟨rfl, xx⟩, hb⟩ hK
   obtain ⟨p, x, rfl, hpk, hxk⟩ := xx.bad
   have HLI := Lib.hid (linesI_bad hg hpre hpk hxk)
   have g' := grownBy_putObj' W D (.deferred none)
   have ch : Chg (fun i => i = D) W (W.putObj D (.deferred none)) := ⟨g'.os, g'.tape, g'.output, g'.size, fun k hk hd => g'.block k hk (fun e => hd (by cases e; rfl))⟩
   have noD : ∀ {j : Nat} {t : TypeId} {cs : Array Value}, Blk W j t cs → ¬ j = D := fun hj e => by
    unfold Blk at hj
    rw [e, hK] at hj
    cases hj
   have p2' := xx.b2.chg ch (noD xx.b2)
   have p3' := xx.b3.chg ch (noD xx.b3)
   have p4' := xx.b4.chg ch (noD xx.b4)
   have bF' := below_chg hb ch (by omega) (fun i hi e => by have e' : i = D := e; omega)
   have m2 := p2'.cell 0
   have m3 := p3'.cell 0
   have m4 := p4'.cell 0
   simp at m2 m3 m4
   gi_wp2
   refine ⟨by simp, .inl ⟨_, _, rfl, run_takeDeferred hK, ?_⟩⟩
   refine ⟨.tuple #[.slice none 0 0, .int .i64 ((p.length + 1 : Nat) : Int), .int .i64 6], ?_, .slice none 0 0, none, [], by rw [HLI.out], by rw [HLI.out]; exact LinesAt.nil _ _, by simp, by simp, ⟨bF'.os, bF'.tape, bF'.output, bF'.size, fun i hi _ => bF'.block i (by omega)⟩⟩
   simp [results, Tryz.f82, go_sem, m2, m3, m4]
end
section
open Go Go.RowKit Go.Chron
def kw : Nat → List UInt8
 | 0 => [115, 101, 114, 118, 101, 114]
 | 1 => [113, 117, 111, 114, 117, 109]
 | 2 => [112, 111, 108, 108]
 | 3 => [100, 101, 108, 97, 121]
 | _ => [115, 108, 101, 119]
def kwIx (w : List UInt8) : Option Nat := (List.range 5).find? (fun k => kw k == w)
def many (k : Nat) : Nat := if k = 2 then 2 else 1
theorem kwIx_some {w : List UInt8} {k : Nat} (h : kwIx w = some k) : k < 5 ∧ w = kw k := by
 unfold kwIx at h
 have h1 := List.mem_of_find?_eq_some h
 have h2 : (kw k == w) = true := List.find?_some (p := fun k => kw k == w) h
 exact ⟨List.mem_range.1 h1, (eq_of_beq h2).symm⟩
theorem kwIx_none {w : List UInt8} (h : kwIx w = none) : ∀ k, k < 5 → w ≠ kw k := by
 intro k hk e
 unfold kwIx at h
 rw [List.find?_eq_none] at h
 have := h k (List.mem_range.2 hk)
 rw [e, beq_self_eq_true] at this
 exact this rfl
theorem kwIx_kw {k : Nat} (h : k < 5) : kwIx (kw k) = some k := by
 have : k = 0 ∨ k = 1 ∨ k = 2 ∨ k = 3 ∨ k = 4 := by omega
 rcases this with rfl | rfl | rfl | rfl | rfl <;> rfl
theorem kw_inj {i j : Nat} (hi : i < 5) (hj : j < 5) (h : kw i = kw j) : i = j := by
 have := kwIx_kw hi
 rw [h, kwIx_kw hj] at this
 cases this; rfl
def numsI : List (List UInt8) → List Int × Int
 | [] => ([], 0)
 | w :: r => if (numI w).2 ≠ 0 then ([], (numI w).2) else ((numI w).1 :: (numsI r).1, (numsI r).2)
theorem numsI_len : ∀ l : List (List UInt8), (numsI l).2 = 0 → (numsI l).1.length = l.length
 | [], _ => rfl
 | w :: r, h => by
  unfold numsI at h ⊢
  split at h
  ·rename_i hne; exact absurd h hne
  ·rename_i hn
   rw [if_neg hn]
   simp [numsI_len r h]
def cfg0 : Cfg := ⟨[], 0, 0, 0, 0, 0⟩
structure PS where
 c : Cfg
 seen : Nat → Bool
def takeI (k : Nat) (ns : List Int) (c : Cfg) : Cfg × Int :=
 if k = 0 then (if c.servers.contains (ns.getD 0 0) then (c, 12) else if c.servers.length = 16 then (c, 11) else ({ c with servers := c.servers ++ [ns.getD 0 0] }, 0))
 else if k = 1 then ({ c with quorum := ns.getD 0 0 }, 0)
 else if k = 2 then ({ c with least := ns.getD 0 0, most := ns.getD 1 0 }, 0)
 else if k = 3 then ({ c with delay := ns.getD 0 0 }, 0)
 else ({ c with slew := ns.getD 0 0 }, 0)
def lineI (s : PS) (ws : List (List UInt8)) : PS × Int :=
 match kwIx (ws.headD []) with
 | none => (s, 10)
 | some k =>
  if ws.length ≠ 1 + many k then (s, 6)
  else if (numsI ws.tail).2 ≠ 0 then (s, (numsI ws.tail).2)
  else if s.seen k = true ∧ k ≠ 0 then (s, 12)
  else (⟨(takeI k (numsI ws.tail).1 s.c).1, fun j => if j = k then true else s.seen j⟩, (takeI k (numsI ws.tail).1 s.c).2)
def confI (s : PS) : List Ln → PS × Int × Int
 | [] => (s, 0, 0)
 | l :: r => if (lineI s l.ws).2 ≠ 0 then (s, l.n, (lineI s l.ws).2) else confI (lineI s l.ws).1 r
def ps0 : PS := ⟨cfg0, fun _ => false⟩
def seenAll (s : PS) : Bool := (List.range 5).all s.seen
def parseI (t : List UInt8) : Cfg × Int × Int :=
 if (linesI t).2.2 ≠ 0 then (cfg0, (linesI t).2.1, (linesI t).2.2)
 else if (confI ps0 (linesI t).1).2.2 ≠ 0 then (cfg0, (confI ps0 (linesI t).1).2.1, (confI ps0 (linesI t).1).2.2)
 else if seenAll (confI ps0 (linesI t).1).1 = false then (cfg0, 0, 13)
 else if (confI ps0 (linesI t).1).1.c.check ≠ 0 then (cfg0, 0, (confI ps0 (linesI t).1).1.c.check)
 else ((confI ps0 (linesI t).1).1.c, 0, 0)
end
section
open Go Go.RowKit Go.Chron
theorem into118 (r n cap : Nat) (w : World) :
  Calls Tryz.prog 118 #[.slice (some ⟨r, 0, none⟩) n cap] w fun e w' => e = .returned (.pointer (some ⟨w.heap.size + 1, 0, none⟩)) ∧
   Blk w' w.heap.size 265 #[.slice (some ⟨r, 0, none⟩) n cap] ∧ Blk w' (w.heap.size + 1) 199 #[.int .i64 n, .bool false, .bool false, .func (.func 119) #[] #[.pointer (some ⟨w.heap.size, 0, none⟩)]] ∧ Chg (fun _ => False) w w' ∧ w'.heap.size = w.heap.size + 2 := by
 have h1 := (Blk.new w 265 #[.slice (some ⟨r, 0, none⟩) n cap]).alloc (Obj.cells #[.int .i64 n, .bool false, .bool false, .func (.func 119) #[] #[.pointer (some ⟨w.heap.size, 0, none⟩)]] 199)
 have h2 := Blk.new (w.alloc (Obj.cells #[.slice (some ⟨r, 0, none⟩) n cap] 265)) 199 #[.int .i64 n, .bool false, .bool false, .func (.func 119) #[] #[.pointer (some ⟨w.heap.size, 0, none⟩)]]
 simp only [World.size_alloc] at h2
 go_enter Tryz.func118, Tryz.ntmps118
 go_wp2_with fail
 go_ret
 exact ⟨rfl, h1, h2, (chg0_alloc _ _).alloc _, by simp⟩
def setAll (cs : Array Value) (l : List (Nat × Int)) : Array Value := l.foldl (fun c p => c.setIfInBounds p.1 (.int .i64 p.2)) cs
theorem setAll_size (l : List (Nat × Int)) : ∀ cs : Array Value, (setAll cs l).size = cs.size := by
 induction l with
 | nil => intro cs; rfl
 | cons p r ih => intro cs; show (setAll (cs.setIfInBounds p.1 (.int .i64 p.2)) r).size = _; rw [ih]; simp
theorem setAll_snoc (cs : Array Value) (l : List (Nat × Int)) (p : Nat × Int) : setAll cs (l ++ [p]) = (setAll cs l).setIfInBounds p.1 (.int .i64 p.2) := by simp [setAll]
theorem set119 (a : Option Addr) (cap l r cb : Nat) (zs : List Int) (os : List Nat) (cs : Array Value) (m' : Nat) (w : World) (hm : zs.length = os.length) (hcap : zs.length ≤ cap) (hcm : cap ≤ 9223372036854775807) (hm' : os.length ≤ m') (hmm : m' ≤ 9223372036854775807)
  (hz : Reads w 1 a (zs.map i64c)) (ha : ∀ ad, a = some ad → ad.block ≠ cb) (hl : Blk w l 265 #[.slice (some ⟨r, 0, none⟩) os.length m']) (hr : Blk w r 266 (os.map fun o => Value.pointer (some ⟨cb, o, none⟩)).toArray) (hc : Blk w cb 29 cs) (ho : ∀ o ∈ os, o < cs.size) :
  Calls Tryz.prog 119 #[.slice a zs.length cap, .pointer (some ⟨l, 0, none⟩)] w fun e w' => e = .returned (.int .i64 0) ∧ Blk w' cb 29 (setAll cs (os.zip zs)) ∧ Chg (fun i => i = cb) w w' := by
 have nl : ¬ l = cb := fun e => by subst e; exact absurd (blk_typ hl hc) (by decide)
 have nr : ¬ r = cb := fun e => by subst e; exact absurd (blk_typ hr hc) (by decide)
 have HZ := Lib.hid (And.intro hz ha)
 have HL := Lib.hid (And.intro hl hr)
 have HC := Lib.hid (And.intro hc ho)
 have HM := Lib.hid hm
 obtain ⟨n, hn⟩ : ∃ n, n = zs.length := ⟨_, rfl⟩
 rw [← hn] at hcap ⊢
 have HN := Lib.hid hn
 have hon : os.length = n := by omega
 rw [hon] at hm' hl
 clear hz ha hr hc ho hm hn hon hl
 go_enter Tryz.func119, Tryz.ntmps119
 go_wp2_with fail
 go_loopw [8] (fun i wr => ∃ j : Nat, j ≤ n ∧ i = .int .i64 j ∧ Blk wr cb 29 (setAll cs ((os.zip zs).take j)) ∧ Chg (fun i => i = cb) w wr) (fun i _ => n - (intOf i).toNat)
 case atStart => exact ⟨0, by omega, rfl, by simpa [setAll] using HC.out.1, Chg.refl _ _⟩
 case round =>
  obtain ⟨j, hj, rfl, hb, hch⟩ := hrel
  by_cases hjn : j < n
  ·have hjI : (j : Int) < n := by omega
   obtain ⟨z, hz⟩ : ∃ z, zs[j]? = some z := ⟨_, List.getElem?_eq_getElem (by have := HN.out; omega)⟩
   obtain ⟨o, ho⟩ : ∃ o, os[j]? = some o := ⟨_, List.getElem?_eq_getElem (by have := HN.out; have := HM.out; omega)⟩
   obtain ⟨b, off, rfl, hcell⟩ := HZ.out.1 (by have := HN.out; simp; omega)
   have e0 : wr.cell? ⟨b, off + j, none⟩ = some (.int .i64 z) := by
    have := hcell j (i64c z) (by simp [hz]) 0 (.int .i64 z) rfl
    exact hch.keep (by simpa using this) (HZ.out.2 ⟨b, off, none⟩ rfl)
   have el := (HL.out.1.chg hch nl).cell 0
   simp at el
   have er := (HL.out.2.chg hch nr).cell j
   simp [ho] at er
   rw [show os.length = n by have := HN.out; have := HM.out; omega] at el
   have hoS : o < (setAll cs ((os.zip zs).take j)).size := by rw [setAll_size]; exact HC.out.2 o (List.mem_of_getElem? ho)
   obtain ⟨u, hu⟩ : ∃ u, wr.cell? ⟨cb, o, none⟩ = some u := ⟨_, by rw [hb.cell]; exact Array.getElem?_eq_getElem hoS⟩
   have hf := hb.frozen o
   have hzo : (os.zip zs)[j]? = some (o, z) := by rw [List.getElem?_zip_eq_some]; exact ⟨ho, hz⟩
   have ht : (os.zip zs).take (j + 1) = (os.zip zs).take j ++ [(o, z)] := by rw [List.take_add_one, hzo]; rfl
   have HT := Lib.hid ht
   have HB := Lib.hid hb
   have HCH := Lib.hid hch
   clear hb hch hzo ht hcell hoS ho hz
   go_wp2_with fail
   case roundEnd =>
    refine ⟨⟨j + 1, by omega, by go_num, ?_, HCH.out.trans ((Chg.refl (fun i => i = cb) wr).setCell (p := ⟨cb, o, none⟩) (fun _ => rfl) _)⟩, by simp [intOf]; omega⟩
    rw [HT.out, setAll_snoc]
    exact HB.out.set_ o (.int .i64 z)
  ·obtain rfl : j = n := by omega
   have hb' := hb
   rw [List.take_of_length_le (by rw [List.length_zip]; have := HN.out; omega)] at hb'
   have HB := Lib.hid hb'
   have HCH := Lib.hid hch
   clear hb hb' hch
   go_wp2_with fail
   go_ret
   exact ⟨rfl, HB.out, HCH.out⟩
theorem containsOwn {w : World} {sa : Option Addr} {scap : Nat} {sg : Option Nat} {L : List Int} (z : Int) (h : Owns w 3 1 (.slice sa L.length scap) sg (L.map i64c)) (hL : L.length ≤ 9223372036854775807) :
  Calls Tryz.prog 121 #[.slice sa L.length scap, .int .i64 z] w fun e w' => e = .returned (.bool (L.contains z)) ∧ w' = w := by
 cases L with
 | nil => exact Tryz.slices_Contains_int_empty sa scap z w
 | cons y r =>
  obtain ⟨k, hk⟩ := h.pos (by simp)
  rw [hk] at h
  obtain ⟨cap, hv, _⟩ := h.some_form
  rw [List.length_map] at hv
  cases hv
  have := contains_int k 0 (y :: r).length scap (y :: r) z w (Nat.le_refl _) hL (fun j x hx => by
   have := h.cell rfl (i := j) (x := i64c x) (by rw [List.getElem?_map, hx]; rfl) (j := 0) (u := .int .i64 x) rfl
   rw [Nat.zero_add]
   simpa using this)
  rw [List.take_length] at this
  exact this
theorem info3 : (Tryz.prog.info? 3).map (fun i => (i.zero, i.size, i.bytes)) = some (some (.int .i64 0), 1, 8) := by kernel_rfl
theorem serv120 (a : Option Addr) (cap pc cb : Nat) (z : Int) (sa : Option Addr) (scap : Nat) (sg : Option Nat) (L : List Int) (x1 x2 x3 x4 x5 : Value) (w : World) (hcap : 1 ≤ cap) (hcm : cap ≤ 9223372036854775807)
  (hz : Reads w 1 a [i64c z]) (hp : Blk w pc 164 #[.pointer (some ⟨cb, 0, none⟩)]) (hc : Blk w cb 29 #[.slice sa L.length scap, x1, x2, x3, x4, x5]) (ho : Owns w 3 1 (.slice sa L.length scap) sg (L.map i64c)) (hL : L.length ≤ 16) (hag : ∀ ad, a = some ad → sg ≠ some ad.block ∧ ad.block ≠ cb) :
  Calls Tryz.prog 120 #[.slice a 1 cap, .pointer (some ⟨pc, 0, none⟩)] w fun e w' =>
   if L.contains z then e = .returned (.int .i64 12) ∧ Chg (fun _ => False) w w' else if L.length = 16 then e = .returned (.int .i64 11) ∧ Chg (fun _ => False) w w' else
   ∃ k cap', e = .returned (.int .i64 0) ∧ Blk w' cb 29 #[.slice (some ⟨k, 0, none⟩) (L.length + 1) cap', x1, x2, x3, x4, x5] ∧ Owns w' 3 1 (.slice (some ⟨k, 0, none⟩) (L.length + 1) cap') (some k) ((L ++ [z]).map i64c) ∧ Chg (fun i => i = cb ∨ sg = some i) w w' ∧ (sg = some k ∨ w.heap.size ≤ k) := by
 have np : ¬ pc = cb := fun e => by subst e; exact absurd (blk_typ hp hc) (by decide)
 have ngp : ¬ sg = some pc := fun e => by obtain ⟨cs, h⟩ := ho.blk e; exact absurd (blk_typ h hp) (by decide)
 have ng : ¬ sg = some cb := fun e => by obtain ⟨cs, h⟩ := ho.blk e; exact absurd (blk_typ h hc) (by decide)
 obtain ⟨b, off, rfl, hcell⟩ := hz (by simp)
 obtain ⟨nsb, nbc⟩ := hag _ rfl
 have e0 : w.cell? ⟨b, off, none⟩ = some (.int .i64 z) := by simpa using hcell 0 (i64c z) rfl 0 (.int .i64 z) rfl
 have p0 := hp.cell 0
 have c0 := hc.cell 0
 simp at p0 c0
 obtain ⟨a', cap'', hv, hlc, hcm2, hnil, haa⟩ := ho.form
 rw [List.length_map] at hv hlc
 cases hv
 have HC := Lib.hid (fun n => containsOwn z (ho.drewN n) (by omega))
 have HO := Lib.hid (And.intro hc (And.intro ho hp))
 obtain ⟨ln, hln⟩ : ∃ ln, ln = L.length := ⟨_, rfl⟩
 rw [← hln] at HC hlc hL c0 ⊢
 have HLN := Lib.hid hln
 clear hz hp hc ho hcell haa hln hag
 have HK := Lib.hid (And.intro e0 (And.intro p0 c0))
 generalize L.contains z = ct at *
 cases ct with
 | true =>
  simp only [if_true]
  go_enter Tryz.func120, Tryz.ntmps120
  go_wp2_with fail
  go_cut [4] (fun s4 wx => s4 = .bool true ∧ wx = w.drewN 1)
  case first =>
   go_region_held3 (fun w' => (w'.cell? ⟨b, off, none⟩ = some (.int .i64 z) ∧ w'.cell? ⟨pc, 0, none⟩ = some (.pointer (some ⟨cb, 0, none⟩)) ∧ w'.cell? ⟨cb, 0, none⟩ = some (.slice sa ln scap)) ∧ ∃ n, w' = w.drewN n)
    (exact ⟨HK.out, 1, rfl⟩)
    (first | (go_at_call 121; refine (HC.out 1).mono ?_; rintro e w5 ⟨rfl, rfl⟩))
   all_goals (go_wp2_with fail; go_meet; exact ⟨rfl, rfl⟩)
  case rest =>
   obtain ⟨rfl, rfl⟩ := hcut
   go_wp2_with fail
   go_ret
   exact ⟨rfl, (Chg.refl _ _).drewN _⟩
 | false =>
  simp only [Bool.false_eq_true, if_false]
  by_cases h16 : ln = 16
  ·subst h16
   simp only [if_true]
   go_enter Tryz.func120, Tryz.ntmps120
   go_wp2_with fail
   go_cut [4] (fun s4 wx => s4 = .bool false ∧ wx = w.drewN 1)
   case first =>
    go_region_held3 (fun w' => (w'.cell? ⟨b, off, none⟩ = some (.int .i64 z) ∧ w'.cell? ⟨pc, 0, none⟩ = some (.pointer (some ⟨cb, 0, none⟩)) ∧ w'.cell? ⟨cb, 0, none⟩ = some (.slice sa 16 scap)) ∧ ∃ n, w' = w.drewN n)
     (exact ⟨HK.out, 1, rfl⟩)
     (first | (go_at_call 121; refine (HC.out 1).mono ?_; rintro e w5 ⟨rfl, rfl⟩))
    all_goals (go_wp2_with fail; go_meet; exact ⟨rfl, rfl⟩)
   case rest =>
    obtain ⟨rfl, rfl⟩ := hcut
    go_wp2_with fail
    go_ret
    exact ⟨rfl, (Chg.refl _ _).drewN _⟩
  ·simp only [if_neg h16]
   have hI : ¬ (ln : Int) = 16 := by omega
   go_enter Tryz.func120, Tryz.ntmps120
   go_wp2_with fail
   go_cut [4] (fun s4 wx => s4 = .bool false ∧ wx = w.drewN 1)
   case first =>
    go_region_held3 (fun w' => (w'.cell? ⟨b, off, none⟩ = some (.int .i64 z) ∧ w'.cell? ⟨pc, 0, none⟩ = some (.pointer (some ⟨cb, 0, none⟩)) ∧ w'.cell? ⟨cb, 0, none⟩ = some (.slice sa ln scap)) ∧ ∃ n, w' = w.drewN n)
     (exact ⟨HK.out, 1, rfl⟩)
     (first | (go_at_call 121; refine (HC.out 1).mono ?_; rintro e w5 ⟨rfl, rfl⟩))
    all_goals (go_wp2_with fail; go_meet; exact ⟨rfl, rfl⟩)
   case rest =>
    obtain ⟨rfl, rfl⟩ := hcut
    go_upto_region 5 with (fail)
    have hq : ((ln : Int) == 16) = false := by simpa using hI
    simp only [hq]
    clear hq
    have hc1 := (HO.out.1.drewN 1)
    have ho1 := (HO.out.2.1.drewN 1)
    have hp1 := (HO.out.2.2.drewN 1)
    rw [← HLN.out] at hc1 ho1
    have e1 : (w.drewN 1).cell? ⟨b, off, none⟩ = some (.int .i64 z) := e0
    have hsz1 : w.heap.size ≤ (w.drewN 1).heap.size := Nat.le_refl _
    have CW := Lib.hid ((Chg.refl (fun _ => False) w).drewN 1)
    clear HC HK e0 p0 c0 HO
    generalize w.drewN 1 = W at *
    have p0 := hp1.cell 0
    have c0 := hc1.cell 0
    have f0 := hc1.frozen 0
    simp at p0 c0
    obtain ⟨i0, hi, hz0, hz1, hz2⟩ := info_parts info3
    have lenL : (L.map i64c).length = ln := by rw [List.length_map]; exact HLN.out.symm
    have HSTEP := Lib.hid (And.intro hc1 (And.intro ho1 hp1))
    go_cut [31] (fun s31 wx => ∃ k cap', Blk wx cb 29 #[.slice (some ⟨k, 0, none⟩) (ln + 1) cap', x1, x2, x3, x4, x5] ∧ Owns wx 3 1 (.slice (some ⟨k, 0, none⟩) (ln + 1) cap') (some k) ((L ++ [z]).map i64c) ∧ Chg (fun i => i = cb ∨ sg = some i) W wx ∧ (sg = some k ∨ W.heap.size ≤ k))
    case first =>
     have n0 : ∀ o, (W.alloc o).cell? ⟨cb, 0, none⟩ = some (.slice sa ln scap) := fun o => (HSTEP.out.1.alloc o).cell 0
     have n1 : ∀ o, (W.alloc o).cell? ⟨pc, 0, none⟩ = some (.pointer (some ⟨cb, 0, none⟩)) := fun o => (HSTEP.out.2.2.alloc o).cell 0
     clear hc1 ho1 hp1
     go_region_law ((refine step_app (by rfl) (.tmp 24) (.tmp 28) 27 (by rfl) 3 i0 _ 1 8 Tryz.underlying27 hi hz0 hz1 hz2 rfl (by omega) (.slice sa ln scap) sg (L.map i64c) (by rfl) ((HSTEP.out.2.1.drew).alloc _) _ 3 [i64c z] 1 1 (by rfl) rfl (Blk.new _ _ _) (by simp [i64c]) (by simp [i64c, Value.oneCell']) (by simp) (by rw [lenL]; simp; omega) (by rw [lenL]; simp [maxLen]; omega) ?_
                     intro k cap' w' ho' hchg hk
                     have q0 := hchg.keep (p := ⟨cb, 0, none⟩) ((HSTEP.out.1.drew.alloc _).cell 0) ng
                     have q1 := hchg.keep (p := ⟨pc, 0, none⟩) ((HSTEP.out.2.2.drew.alloc _).cell 0) ngp
                     have f0 : w'.frozen? ⟨cb, 0, none⟩ = false := (hchg.frozen (p := ⟨cb, 0, none⟩) (HSTEP.out.1.drew.alloc _).lt ng).trans ((HSTEP.out.1.drew.alloc _).frozen 0)
                     simp at q0 q1))
     all_goals (
      go_wp2_with fail
      go_meet
      have B1 := (HSTEP.out.1.drew.alloc (Obj.cells #[.int .i64 z] 3)).chg hchg ng
      have cS : Chg (fun i => i = cb) w' (w'.setCell ⟨cb, 0, none⟩ (.slice (some ⟨k, 0, none⟩) (ln + 1) cap')) := (Chg.refl (fun i => i = cb) w').setCell (p := ⟨cb, 0, none⟩) (fun _ => rfl) _
      have B2 := B1.set_ 0 (.slice (some ⟨k, 0, none⟩) (ln + 1) cap')
      have O2 := ho'.chg cS (fun j hj e => by
       cases hj
       have e' : k = cb := e
       rcases hk with hk | hk
       ·exact ng (by rw [hk, e'])
       ·have := HSTEP.out.1.lt
        simp at hk
        omega)
      have C2 := ((((Chg.refl (fun i => i = cb ∨ sg = some i) W).drew.alloc (Obj.cells #[.int .i64 z] 3))).trans (hchg.mono (fun _ _ h => .inr h))).trans (cS.mono (fun _ _ h => .inl h))
      refine ⟨k, cap', by simpa using B2, ?_, C2, ?_⟩
      ·rw [lenL] at O2
       simpa [i64c] using O2
      ·rcases hk with hk | hk
       ·exact .inl hk
       ·right; simp at hk; omega)
    case rest =>
     obtain ⟨k, cap', B1, O1, C1, hk⟩ := hcut
     have CC := Lib.hid ((CW.out.mono (S' := fun i => i = cb ∨ sg = some i) (fun _ _ h => h.elim)).trans C1)
     clear CW C1
     go_wp2_with fail
     go_ret
     exact ⟨k, cap', rfl, B1, O1, CC.out, hk.imp id (fun h => by omega)⟩
end
end Go.Proofs.YtamhicdhbjniiaaGreatDoor
