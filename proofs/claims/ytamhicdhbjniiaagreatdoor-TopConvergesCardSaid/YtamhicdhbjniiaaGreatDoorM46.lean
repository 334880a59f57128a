/- ref06.Print: a config's text. -/
import Derived.Test.YtamhicdhbjniiaaGreatDoorM45
import Derived.Test.YtamhicdhbjniiaaGreatDoorM36
set_option linter.unusedVariables false
set_option maxHeartbeats 3200000
set_option maxRecDepth 100000
namespace Go.Proofs.YtamhicdhbjniiaaGreatDoor
section
open Go Go.RowKit Go.Chron
theorem txt_len : ∀ (f m : Nat) (s : List UInt8), (txt f m s).length ≤ s.length + f
 | 0, m, s => Nat.le_refl _
 | f + 1, m, s => by
  unfold txt
  split
  ·omega
  ·have := txt_len f (m / 10) (dgt m :: s)
   rw [List.length_cons] at this
   omega
theorem textI_len (n : Nat) : (textI n).length ≤ 11 := by have := txt_len 11 n []; simpa [textI] using this
def servI (z : Int) : List UInt8 := [115, 101, 114, 118, 101, 114, 32] ++ textI z.toNat ++ [10]
def printI (c : Cfg) : List UInt8 :=
 c.servers.flatMap servI ++ [113, 117, 111, 114, 117, 109, 32] ++ textI c.quorum.toNat ++ [10] ++ [112, 111, 108, 108, 32] ++ textI c.least.toNat ++ [32] ++ textI c.most.toNat ++ [10] ++ [100, 101, 108, 97, 121, 32] ++ textI c.delay.toNat ++ [10] ++
  [115, 108, 101, 119, 32] ++ textI c.slew.toNat ++ [10]
theorem servs_len (l : List Int) : (l.flatMap servI).length ≤ l.length * 19 := by
 induction l with
 | nil => simp
 | cons z l ih =>
  rw [List.flatMap_cons, List.length_append, List.length_cons]
  have : (servI z).length ≤ 19 := by unfold servI; have := textI_len z.toNat; simp; omega
  omega
structure Cfg.Small (c : Cfg) : Prop where
 s : ∀ z ∈ c.servers, 0 ≤ z ∧ z ≤ 1000000000
 l : c.servers.length ≤ 16
 q : 0 ≤ c.quorum ∧ c.quorum ≤ 1000000000
 le : 0 ≤ c.least ∧ c.least ≤ 1000000000
 mo : 0 ≤ c.most ∧ c.most ≤ 1000000000
 de : 0 ≤ c.delay ∧ c.delay ≤ 1000000000
 sl : 0 ≤ c.slew ∧ c.slew ≤ 1000000000
theorem text28' (z : Int) (h : 0 ≤ z ∧ z ≤ 1000000000) (w : World) : Calls Tryz.prog 28 #[.int .i64 z] w fun e w' => e = .returned (.string ⟨(textI z.toNat).toArray⟩) ∧ Chg (fun _ => False) w w' := by
 have := text28 z.toNat (by omega) w
 rw [Int.toNat_of_nonneg h.1] at this
 exact this
theorem print9 (c : Cfg) (hc : c.Small) (a : Option Addr) (cap : Nat) (w : World) (hR : Reads w 1 a (c.servers.map i64c)) (hcap : c.servers.length ≤ cap) :
  Calls Tryz.prog 9 #[cfgv (.slice a c.servers.length cap) c] w fun e w' => e = .returned (.string ⟨(printI c).toArray⟩) ∧ Chg (fun _ => False) w w' := by
 obtain ⟨sv, qu, le, mo, de, sl⟩ := c
 obtain ⟨c1, c2, c3, c4, c5, c6, c7⟩ := hc
 simp only at c1 c2 c3 c4 c5 c6 c7 hR hcap
 have HQ := Lib.hid (text28' qu c3)
 have HLE := Lib.hid (text28' le c4)
 have HMO := Lib.hid (text28' mo c5)
 have HDE := Lib.hid (text28' de c6)
 have HSL := Lib.hid (text28' sl c7)
 have HSV := Lib.hid (fun z (hz : z ∈ sv) => text28' z (c1 z hz))
 obtain ⟨n, hn⟩ : ∃ n, n = sv.length := ⟨_, rfl⟩
 have hpr : printI ⟨sv, qu, le, mo, de, sl⟩ = sv.flatMap servI ++ [113, 117, 111, 114, 117, 109, 32] ++ textI qu.toNat ++ [10] ++ [112, 111, 108, 108, 32] ++ textI le.toNat ++ [32] ++ textI mo.toNat ++ [10] ++ [100, 101, 108, 97, 121, 32] ++ textI de.toNat ++ [10] ++
  [115, 108, 101, 119, 32] ++ textI sl.toNat ++ [10] := rfl
 have HPR := Lib.hid hpr
 clear hpr
 have t1 := textI_len qu.toNat
 have t2 := textI_len le.toNat
 have t3 := textI_len mo.toNat
 have t4 := textI_len de.toNat
 have t5 := textI_len sl.toNat
 obtain ⟨tq, htq⟩ : ∃ t, t = textI qu.toNat := ⟨_, rfl⟩
 obtain ⟨tl, htl⟩ : ∃ t, t = textI le.toNat := ⟨_, rfl⟩
 obtain ⟨tm, htm⟩ : ∃ t, t = textI mo.toNat := ⟨_, rfl⟩
 obtain ⟨td, htd⟩ : ∃ t, t = textI de.toNat := ⟨_, rfl⟩
 obtain ⟨ts, hts⟩ : ∃ t, t = textI sl.toNat := ⟨_, rfl⟩
 rw [← htq, ← htl, ← htm, ← htd, ← hts] at HPR
 rw [← htq] at HQ t1
 rw [← htl] at HLE t2
 rw [← htm] at HMO t3
 rw [← htd] at HDE t4
 rw [← hts] at HSL t5
 have A1 := Blk.new w 29 #[.slice a sv.length cap, .int .i64 qu, .int .i64 le, .int .i64 mo, .int .i64 de, .int .i64 sl]
 have cA := chg0_alloc w (Obj.cells #[.slice a sv.length cap, .int .i64 qu, .int .i64 le, .int .i64 mo, .int .i64 de, .int .i64 sl] 29)
 rw [← hn] at A1 cA c2 hcap
 obtain ⟨p1, hp1⟩ : ∃ p, p = w.heap.size := ⟨_, rfl⟩
 rw [← hp1] at A1
 have HR := Lib.hid hR
 have HN := Lib.hid (And.intro hn hp1)
 unfold cfgv
 simp only
 rw [← hn]
 clear htq htl htm htd hts hR c1 c3 c4 c5 c6 c7 hn
 go_enter Tryz.func9, Tryz.ntmps9
 go_upto_region 2 with (fail)
 rw [← hp1]
 clear hp1
 generalize w.alloc (Obj.cells #[.slice a n cap, .int .i64 qu, .int .i64 le, .int .i64 mo, .int .i64 de, .int .i64 sl] 29) = wa at *
 have HA := Lib.hid A1
 have HCA := Lib.hid cA
 clear A1 cA
 go_wp2_with fail
 go_loopw [4, 3] (fun i v wr => ∃ j : Nat, j ≤ n ∧ i = .int .i64 j ∧ v = .string ⟨((sv.take j).flatMap servI).toArray⟩ ∧ Chg (fun _ => False) wa wr) (fun i _ _ => n - (intOf i).toNat)
 case atStart => exact ⟨0, Nat.zero_le _, rfl, rfl, Chg.refl _ _⟩
 case round =>
  obtain ⟨j, hj, rfl, rfl, hc⟩ := hrel
  have hal := servs_len (sv.take j)
  have hat : (sv.take j).length ≤ 16 := by rw [List.length_take]; omega
  obtain ⟨acc, hacc⟩ : ∃ acc, acc = (sv.take j).flatMap servI := ⟨_, rfl⟩
  rw [← hacc] at hal
  rw [← hacc]
  have hac : acc.length ≤ 400 := by omega
  have X := HA.out.chg hc (fun h => h)
  have k0 := X.cell 0
  have k1 := X.cell 1
  have k2 := X.cell 2
  have k3 := X.cell 3
  have k4 := X.cell 4
  have k5 := X.cell 5
  simp at k0 k1 k2 k3 k4 k5
  have HX := Lib.hid X
  have HC := Lib.hid hc
  have HACC := Lib.hid hacc
  clear X hc hal hat hacc
  by_cases hjn : j < n
  ·have hjI : (j : Int) < n := by omega
   have hj0 : (0 : Int) ≤ j := by omega
   have hjc : j < cap := by omega
   obtain ⟨z, hz⟩ : ∃ z, sv[j]? = some z := ⟨_, List.getElem?_eq_getElem (by rw [← HN.out.1]; exact hjn)⟩
   obtain ⟨kb, off, ha, hcl⟩ := HR.out (by rw [List.length_map, ← HN.out.1]; omega)
   subst ha
   have f0 := HCA.out.keep (hcl j [.int .i64 z] (by rw [List.getElem?_map, hz]; rfl) 0 _ rfl) (fun h => h)
   have f1 := HC.out.keep f0 (fun h => h)
   simp only [Nat.mul_one, Nat.add_zero] at f1
   have HTZ := Lib.hid (HSV.out z (List.mem_of_getElem? hz))
   have htz := textI_len z.toNat
   obtain ⟨tz, htz0⟩ : ∃ t, t = textI z.toNat := ⟨_, rfl⟩
   rw [← htz0] at htz HTZ
   have HZ := Lib.hid (And.intro hz htz0)
   have s1 : ¬ 9223372036854775807 < acc.length + 7 := by omega
   have s2 : ¬ 9223372036854775807 < acc.length + 7 + tz.length := by omega
   have s3 : ¬ 9223372036854775807 < acc.length + 7 + tz.length + 1 := by omega
   clear hcl f0 hz htz0
   go_wp2_with fail
   refine (HTZ.out _).mono ?_
   rintro e w9 ⟨rfl, c9⟩
   have HC9 := Lib.hid c9
   clear c9
   go_wp2_with fail
   refine ⟨⟨j + 1, by omega, by simp, ?_, HC.out.trans HC9.out⟩, by simp [intOf]; omega⟩
   have hfm : (sv.take (j + 1)).flatMap servI = acc ++ [115, 101, 114, 118, 101, 114, 32] ++ tz ++ [10] := by
    rw [List.take_add_one, HZ.out.1, List.flatMap_append, ← HACC.out, HZ.out.2]
    simp [servI]
   rw [hfm]
   refine congrArg Value.string ?_
   apply ByteArray.ext
   simp
  ·have hje : j = n := by omega
   have HP2 : Hid (printI ⟨sv, qu, le, mo, de, sl⟩ = acc ++ [113, 117, 111, 114, 117, 109, 32] ++ tq ++ [10] ++ [112, 111, 108, 108, 32] ++ tl ++ [32] ++ tm ++ [10] ++ [100, 101, 108, 97, 121, 32] ++ td ++ [10] ++ [115, 108, 101, 119, 32] ++ ts ++ [10]) := Lib.hid (by
    rw [HACC.out, hje, HN.out.1, List.take_length]
    exact HPR.out)
   subst hje
   have s1 : ¬ 9223372036854775807 < acc.length + 7 := by omega
   have s2 : ¬ 9223372036854775807 < acc.length + 7 + tq.length := by omega
   have s3 : ¬ 9223372036854775807 < acc.length + 7 + tq.length + 1 := by omega
   go_wp2_with fail
   refine (HQ.out _).mono ?_
   rintro e w2 ⟨rfl, c2'⟩
   have X2 := HX.out.chg c2' (fun h => h)
   have HX2 := Lib.hid X2
   have HC2 := Lib.hid c2'
   clear k0 k1 k2 k3 k4 k5 X2 c2'
   go_upto_region 7 with (fail)
   obtain ⟨acc1, hacc1⟩ : ∃ l, l = acc ++ [113, 117, 111, 114, 117, 109, 32] ++ tq ++ [10] := ⟨_, rfl⟩
   have e1 : (⟨acc.toArray⟩ ++ ⟨#[113, 117, 111, 114, 117, 109, 32]⟩ ++ ⟨tq.toArray⟩ ++ ⟨#[10]⟩ : ByteArray) = ⟨acc1.toArray⟩ := by
    rw [hacc1]
    apply ByteArray.ext
    simp
   rw [e1]
   have hl1 : acc1.length ≤ 420 := by rw [hacc1]; simp; omega
   have HA1 := Lib.hid hacc1
   clear e1 hacc1 s1 s2 s3
   have p2 := HX2.out.cell 2
   have p3 := HX2.out.cell 3
   simp at p2 p3
   have HS7 := Lib.hid (fun W' (hW : Chg (fun _ => False) w2 W') => (⟨hW.keep p2 (fun h => h), hW.keep p3 (fun h => h)⟩ : W'.cell? ⟨p1, 2, none⟩ = some (.int .i64 le) ∧ W'.cell? ⟨p1, 3, none⟩ = some (.int .i64 mo)))
   have s1 : ¬ 9223372036854775807 < acc1.length + 5 := by omega
   have s2 : ¬ 9223372036854775807 < acc1.length + 5 + tl.length := by omega
   have s3 : ¬ 9223372036854775807 < acc1.length + 5 + tl.length + 1 := by omega
   have s4 : ¬ 9223372036854775807 < acc1.length + 5 + tl.length + 1 + tm.length := by omega
   have s5 : ¬ 9223372036854775807 < acc1.length + 5 + tl.length + 1 + tm.length + 1 := by omega
   refine wp_region_noPanic ?_
   refine wp_region_till (s := 12) (S := fun w' => w'.cell? ⟨p1, 2, none⟩ = some (.int .i64 le) ∧ w'.cell? ⟨p1, 3, none⟩ = some (.int .i64 mo)) (by kernel_rfl) ?_
   have hHeld := HS7.out w2.drew (Chg.drew (Chg.refl _ _))
   refine wP 0 29 _ (fun _ => hHeld) ?_
   refine wP 1 30 _ (fun _ => hHeld) ?_
   refine wP 2 31 _ (fun _ => hHeld) ?_
   refine wL 3 32 _ (fun _ => hHeld) ?_
   refine wP 7 36 _ (fun _ => hHeld) ?_
   refine wL 8 37 _ (fun _ => hHeld) ?_
   refine wpTill_one (i := 4) (oi := ⟨some 33, _, _, _, _, _⟩) rfl (by kernel_rfl) (fun KK hKK => ?_)
   go_simp
   refine (HLE.out _).mono ?_
   rintro e w3 ⟨rfl, c3⟩
   have cT3 : Chg (fun _ => False) w2 w3 := Chg.trans kC c3
   refine hKK _ _ (andS (HS7.out _ kC) (fun hHeld' => ?_))
   clear hKK KK
   try simp only [Act.put, qA, qB, qC]
   refine wP 5 34 _ (fun _ => hHeld') ?_
   refine wP 6 35 _ (fun _ => hHeld') ?_
   refine wpTill_one (i := 9) (oi := ⟨some 38, _, _, _, _, _⟩) rfl (by kernel_rfl) (fun KK hKK => ?_)
   go_simp
   refine (HMO.out _).mono ?_
   rintro e w4 ⟨rfl, c4⟩
   have cT4 : Chg (fun _ => False) w2 w4 := Chg.trans kC c4
   refine hKK _ _ (andS (HS7.out _ kC) (fun hHeld'' => ?_))
   clear hKK KK
   try simp only [Act.put, qA, qB, qC]
   refine wP 10 39 _ (fun _ => hHeld'') ?_
   refine wP 11 40 _ (fun _ => hHeld'') ?_
   refine wpTill_one (i := 12) (oi := ⟨some 3, _, _, _, _, _⟩) rfl (by kernel_rfl) (fun KK hKK => ?_)
   go_simp
   refine hKK _ _ ⟨(fun h => (by simp at h)), ?_⟩
   clear hKK KK
   try simp only [Act.put, qA, qB, qC]
   refine wpTill_done (by kernel_rfl) ?_
   refine NoPanic.normal ?_
   have X4 := HX2.out.chg cT4 (fun h => h)
   have p4 := X4.cell 4
   have p5 := X4.cell 5
   simp at p4 p5
   have HX4 := Lib.hid X4
   have HC4 := Lib.hid cT4
   clear X4 cT3 cT4 c3 c4 hHeld hHeld' hHeld'' p2 p3 s1 s2 s3 s4 s5
   go_upto_region 8 with (fail)
   obtain ⟨acc2, hacc2⟩ : ∃ l, l = acc1 ++ [112, 111, 108, 108, 32] ++ tl ++ [32] ++ tm ++ [10] := ⟨_, rfl⟩
   have e1 : (⟨acc1.toArray⟩ ++ ⟨#[112, 111, 108, 108, 32]⟩ ++ ⟨tl.toArray⟩ ++ ⟨#[32]⟩ ++ ⟨tm.toArray⟩ ++ ⟨#[10]⟩ : ByteArray) = ⟨acc2.toArray⟩ := by
    rw [hacc2]
    apply ByteArray.ext
    simp
   rw [e1]
   have hl2 : acc2.length ≤ 450 := by rw [hacc2]; simp; omega
   have HA2 := Lib.hid hacc2
   clear e1 hacc2
   have s1 : ¬ 9223372036854775807 < acc2.length + 6 := by omega
   have s2 : ¬ 9223372036854775807 < acc2.length + 6 + td.length := by omega
   have s3 : ¬ 9223372036854775807 < acc2.length + 6 + td.length + 1 := by omega
   go_wp2_with fail
   refine (HDE.out _).mono ?_
   rintro e w5 ⟨rfl, c5⟩
   have X5 := HX4.out.chg c5 (fun h => h)
   have p5 := X5.cell 5
   simp at p5
   have HC5 := Lib.hid c5
   clear X5 c5 p4
   go_upto_region 9 with (fail)
   obtain ⟨acc3, hacc3⟩ : ∃ l, l = acc2 ++ [100, 101, 108, 97, 121, 32] ++ td ++ [10] := ⟨_, rfl⟩
   have e1 : (⟨acc2.toArray⟩ ++ ⟨#[100, 101, 108, 97, 121, 32]⟩ ++ ⟨td.toArray⟩ ++ ⟨#[10]⟩ : ByteArray) = ⟨acc3.toArray⟩ := by
    rw [hacc3]
    apply ByteArray.ext
    simp
   rw [e1]
   have hl3 : acc3.length ≤ 480 := by rw [hacc3]; simp; omega
   have HA3 := Lib.hid hacc3
   clear e1 hacc3 s1 s2 s3
   have s1 : ¬ 9223372036854775807 < acc3.length + 5 := by omega
   have s2 : ¬ 9223372036854775807 < acc3.length + 5 + ts.length := by omega
   have s3 : ¬ 9223372036854775807 < acc3.length + 5 + ts.length + 1 := by omega
   go_wp2_with fail
   refine (HSL.out _).mono ?_
   rintro e w6 ⟨rfl, c6⟩
   have HC6 := Lib.hid c6
   clear c6
   go_wp2_with fail
   refine bodyPost_ret (v := .string ⟨(printI ⟨sv, qu, le, mo, de, sl⟩).toArray⟩) ?_ ?_ ?_
   ·have e1 : (⟨acc3.toArray⟩ ++ ⟨#[115, 108, 101, 119, 32]⟩ ++ ⟨ts.toArray⟩ ++ ⟨#[10]⟩ : ByteArray) = ⟨(printI ⟨sv, qu, le, mo, de, sl⟩).toArray⟩ := by
     rw [HP2.out, HA3.out, HA2.out, HA1.out]
     apply ByteArray.ext
     simp
    simp only [e1]
    simp [results, Tryz.results9, go_sem]
   ·rfl
   ·exact ⟨rfl, ((((HCA.out.trans HC.out).trans HC2.out).trans HC4.out).trans HC5.out).trans HC6.out⟩
end
end Go.Proofs.YtamhicdhbjniiaaGreatDoor
