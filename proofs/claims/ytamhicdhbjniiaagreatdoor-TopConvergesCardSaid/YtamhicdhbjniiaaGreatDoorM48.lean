/- alive: the example goes as it should. A world in which the listed variables lie as they should; and what the condition gives. What the rows' condition gives the walks. -/
import Derived.Test.YtamhicdhbjniiaaGreatDoorM47
import Derived.Test.YtamhicdhbjniiaaGreatDoorRows
import Derived.Test.YtamhicdhbjniiaaGreatDoorM45
import Derived.LaidMore
import Derived.LaidHandle
import Derived.Lib.LaidTab
import Derived.Lib.LaidIn
import Derived.MakeChecks
import Derived.Stop.LaidErr
import Derived.OpenShut
import Derived.RowKit
set_option linter.unusedVariables false
set_option maxHeartbeats 6400000
set_option maxRecDepth 100000
namespace Go.Proofs.YtamhicdhbjniiaaGreatDoor
section
open Go Go.RowKit Go.Chron
def exS (i : Nat) : Int × Int × Int := (500000000, 500000000, (i : Int) + 1)
def exSS (j : Nat) : List (Int × Int × Int) := (List.range j).map exS
theorem exSS_len (j : Nat) : (exSS j).length = j := by unfold exSS; rw [List.length_map, List.length_range]
theorem exSS_succ (j : Nat) : exSS (j + 1) = exSS j ++ [exS j] := by unfold exSS; rw [List.range_succ, List.map_append]; rfl
theorem exSS_get {j k : Nat} {s : Int × Int × Int} (h : (exSS j)[k]? = some s) : k < j ∧ s = exS k := by
 unfold exSS at h
 rw [List.getElem?_map] at h
 by_cases hk : k < j
 ·rw [List.getElem?_range hk] at h; cases h; exact ⟨hk, rfl⟩
 ·rw [List.getElem?_eq_none (by rw [List.length_range]; omega)] at h; cases h
theorem perm_one {α : Type} {us l : List α} (h : us.Perm l) (hl : l.length ≤ 1) : us = l := by
 match l, hl with
 | [], _ => exact h.eq_nil
 | [a], _ => exact List.perm_singleton.1 h
theorem ex_goes : Goes (fun k W => W = exW k) (exSS 10) 1 := by
 refine ⟨fun k W s hW hs => ?_, by omega, by rw [exSS_len]; omega⟩
 obtain ⟨hk, rfl⟩ := exSS_get hs
 obtain ⟨h1, h2, h3, h4, h5, h6⟩ := ex_under k hk
 subst hW
 have hgok : 0 ≤ (exW k).g.t ∨ True := .inr trivial
 refine ⟨⟨by show (0 : Int) ≤ 500000000 ∧ (500000000 : Int) ≤ 1125899906842624; omega, by show (0 : Int) ≤ 500000000 ∧ (500000000 : Int) ≤ 1125899906842624; omega, ?_, ?_, ?_, ?_, ?_⟩, ?_, h1, h2, fun us hus => ?_⟩
 ·show ((500000000 : Int) - 500000000) * 1000000 ≤ (exW k).g.rate * 500000000; rw [h5]; decide
 ·show ((500000000 : Int) - 500000000) * 1000000 ≤ (exW k).g.rate * 500000000; rw [h5]; decide
 ·show (exW k).g.t + 500000000 ≤ _; omega
 ·show (exW k).g.h + 500000000 ≤ _; omega
 ·rw [h6]; omega
 ·show 0 ≤ (k : Int) + 1 ∧ (k : Int) + 1 < 18446744073709551616; omega
 ·rw [perm_one hus h1, exW_succ]; rfl
structure ExAt (w : World) (p1 pw : Nat) (j : Nat) (wr : World) : Prop where
 ex : ∃ (sv : Value) (g : Option Nat), Blk wr p1 49 #[strv exT, .int .i64 3000000000, .int .i64 0, .int .i64 0, .int .i64 0, .slice (some ⟨pw, 0, none⟩) 1 1, sv] ∧ Owns wr 56 3 sv g ((exSS j).map stpc) ∧ ∀ k, g = some k → w.heap.size ≤ k
 wy : Blk wr pw 97 #[.int .i64 0, .int .i64 0, .int .i64 0, .int .i64 0, .int .i64 0, .int .u64 0]
 c : Chg (fun _ => False) w wr
theorem info56 : (Tryz.prog.info? 56).map (fun i => (i.zero, i.size, i.bytes)) = some (some (.agg #[.int .i64 0, .int .i64 0, .int .u64 0]), 3, 24) := by kernel_rfl
theorem example30 (w : World) : Calls Tryz.prog 30 #[] w fun e w' => e = .returned (strv exT) ∧ w' = w := by
 unfold strv exT
 go_enter Tryz.func30, Tryz.ntmps30
 go_wp2_with fail
 go_ret
 exact ⟨rfl, rfl⟩
theorem alive11 {n : Nat} {w : World} (hl : Laid n w) (hT : Told n w) : Calls Tryz.prog 11 #[] w fun e w' => e = .returned (.bool true) ∧ Chg (fun _ => False) w w' := by
 have HLA := Lib.hid hl
 have HTO := Lib.hid hT
 have HEX := Lib.hid (example30 w)
 clear hl hT
 go_enter Tryz.func11, Tryz.ntmps11
 go_wp2_with fail
 refine HEX.out.mono ?_
 rintro e wt ⟨rfl, hwt⟩
 rw [hwt]
 clear hwt wt
 unfold strv
 generalize hex : exT.toArray = ex
 have HEXT := Lib.hid hex
 clear hex
 go_upto_region 2 with (fail)
 have A1 := Blk.new w 97 #[.int .i64 0, .int .i64 0, .int .i64 0, .int .i64 0, .int .i64 0, .int .u64 0]
 have c1 := chg0_alloc w (Obj.cells #[.int .i64 0, .int .i64 0, .int .i64 0, .int .i64 0, .int .i64 0, .int .u64 0] 97)
 have hsz : (w.alloc (Obj.cells #[.int .i64 0, .int .i64 0, .int .i64 0, .int .i64 0, .int .i64 0, .int .u64 0] 97)).heap.size = w.heap.size + 1 := by simp
 obtain ⟨pw, hpw⟩ : ∃ p, p = w.heap.size := ⟨_, rfl⟩
 rw [← hpw] at A1
 rw [← hpw]
 generalize w.alloc (Obj.cells #[.int .i64 0, .int .i64 0, .int .i64 0, .int .i64 0, .int .i64 0, .int .u64 0] 97) = wb at *
 have A2 := Blk.new wb 49 #[.string ⟨ex⟩, .int .i64 3000000000, .int .i64 0, .int .i64 0, .int .i64 0, .slice (some ⟨pw, 0, none⟩) 1 1, .slice none 0 0]
 have c2 := chg0_alloc wb (Obj.cells #[.string ⟨ex⟩, .int .i64 3000000000, .int .i64 0, .int .i64 0, .int .i64 0, .slice (some ⟨pw, 0, none⟩) 1 1, .slice none 0 0] 49)
 obtain ⟨p1, hq1⟩ : ∃ p, p = pw + 1 := ⟨_, rfl⟩
 have hp1 : p1 = wb.heap.size := by rw [hsz, hq1, hpw]
 rw [← hp1] at A2
 rw [← hq1]
 have A1' := A1.chg c2 (fun h => h)
 generalize wb.alloc (Obj.cells #[.string ⟨ex⟩, .int .i64 3000000000, .int .i64 0, .int .i64 0, .int .i64 0, .slice (some ⟨pw, 0, none⟩) 1 1, .slice none 0 0] 49) = wa at *
 have hea : ExAt w p1 pw 0 wa := ⟨⟨.slice none 0 0, none, by unfold strv; rw [HEXT.out]; exact A2, Owns.nil _ _ _, by simp⟩, A1', c1.trans c2⟩
 have HEA := Lib.hid hea
 have hp1g : w.heap.size ≤ p1 := by omega
 have HPG := Lib.hid (And.intro hp1g (show pw ≠ p1 by omega))
 clear A1 A1' A2 c1 c2 hsz hpw hq1 hp1 hea hp1g
 obtain ⟨i0, hi1, hi2, hi3, hi4⟩ := info_parts info56
 go_wp2_with fail
 go_loopw [11] (fun i wr => ∃ j : Nat, j ≤ 10 ∧ i = .int .i64 j ∧ ExAt w p1 pw j wr) (fun i _ => 10 - (intOf i).toNat)
 case atStart => exact ⟨0, by omega, rfl, HEA.out⟩
 case round =>
  clear HEA
  obtain ⟨j, hj, rfl, ⟨sv, g, x1, x2, x3⟩, x4, x5⟩ := hrel
  by_cases hjs : j < 10
  ·have hjI : (j : Int) < 10 := by omega
   have k6 := x1.cell 6
   simp at k6
   have z6 := x1.frozen 6
   have hgp : ∀ k, g = some k → k ≠ p1 := fun k hk h => by
    obtain ⟨_, h'⟩ := x2.blk hk
    rw [h] at h'
    exact absurd (blk_typ h' x1) (by decide)
   have hgw : ∀ k, g = some k → k ≠ pw := fun k hk h => by
    obtain ⟨_, h'⟩ := x2.blk hk
    rw [h] at h'
    exact absurd (blk_typ h' x4) (by decide)
   have hlen : ((exSS j).map stpc).length = j := by rw [List.length_map, exSS_len]
   have HX := Lib.hid (And.intro x1 (And.intro x2 (And.intro x3 (And.intro x4 (And.intro x5 (And.intro hgp (And.intro hgw hlen)))))))
   clear x1 x2 x3 x4 x5 hgp hgw hlen
   have hu : IntKind.u64.wrap ((j : Int) + 1) = (j : Int) + 1 := by unfold IntKind.wrap; simp [IntKind.bits, IntKind.signed]; omega
   go_wp2_with (at_builtin; refine wpList_app (by rfl) (.tmp 15) (.tmp 20) 46 (by rfl) 56 i0 _ 3 24 Tryz.underlying46 hi1 hi2 hi3 hi4 rfl (by omega) sv g ((exSS j).map stpc) (by rfl) (HX.out.2.1.chg (by repeat (first | exact Chg.refl _ _ | exact (by assumption) | apply Chg.drewN | apply Chg.drew | apply Chg.alloc)) (fun _ _ h => h)) _ _ [stpc (exS j)] 1 1 (by rfl) rfl (Blk.new _ _ _) (by simp [stpc]) (by simp [stpc, Value.oneCell']) (by simp) (by rw [HX.out.2.2.2.2.2.2.2]; simp; omega) (by rw [HX.out.2.2.2.2.2.2.2]; simp [maxLen]; omega) ?_)
   rw [exSS_len]
   intro k1 cap1 v1 ho hch hk
   have cV : Chg (fun i => g = some i) wr v1 := ((Chg.refl (fun i => g = some i) wr).alloc _).trans hch
   have X1 := HX.out.1.chg cV (fun h => HX.out.2.2.2.2.2.1 p1 h rfl)
   have X4 := HX.out.2.2.2.1.chg cV (fun h => HX.out.2.2.2.2.2.2.1 pw h rfl)
   have z6 := X1.frozen 6
   have y6 := X1.cell 6
   simp at y6
   obtain ⟨nv, hnv⟩ : ∃ nv, nv = Value.slice (some ⟨k1, 0, none⟩) (j + 1) cap1 := ⟨_, rfl⟩
   have cP : Chg (fun i => i = p1) v1 (v1.setCell ⟨p1, 6, none⟩ nv) := (Chg.refl (fun i => i = p1) v1).setCell (p := ⟨p1, 6, none⟩) (fun _ => rfl) nv
   have hfin : ExAt w p1 pw (j + 1) (v1.setCell ⟨p1, 6, none⟩ nv) := by
    rw [← hnv] at ho
    have hk1 : k1 ≠ p1 := fun h => by
     obtain ⟨_, h'⟩ := ho.blk rfl
     rw [h] at h'
     exact absurd (blk_typ h' X1) (by decide)
    have hk1g : w.heap.size ≤ k1 := by
     rcases hk with h | h
     ·exact HX.out.2.2.1 k1 h
     ·have := HX.out.2.2.2.2.1.size; omega
    refine ⟨⟨nv, some k1, by simpa using X1.set_ 6 nv, ?_, fun k hk => by cases hk; exact hk1g⟩, X4.chg cP (fun h => HPG.out.2 h), (HX.out.2.2.2.2.1.trans' cV (fun i hi h => ?_)).trans' cP (fun i hi h => ?_)⟩
    ·rw [exSS_succ, List.map_append]
     exact ho.chg cP (fun k hk h => by cases hk; exact hk1 h)
    ·have := HX.out.2.2.1 i h; omega
    ·have h0 : i = p1 := h
     have := HPG.out.1; omega
   rw [hnv] at hfin
   have HFIN := Lib.hid hfin
   clear hnv hfin cP X1 X4 cV ho hch hk k6
   go_wp2_with fail
   exact ⟨⟨j + 1, by omega, by simp, HFIN.out⟩, by simp [intOf]; omega⟩
  ·have hje : j = 10 := by omega
   subst hje
   obtain ⟨a, scap, hsv, hs1, hs2, hsn, hsa⟩ := x2.form
   have hlen : ((exSS 10).map stpc).length = 10 := by rw [List.length_map, exSS_len]
   rw [hlen] at hsv hs1
   subst hsv
   have hrd := x2.reads
   rw [← hsa] at hrd
   have HRU := Lib.hid (run12 (fun k W => W = exW k) (exSS 10) 1 ex_goes exT exC (by decide) ex_parse 3000000000 0 0 0 (by omega) (by omega) (by omega) (by omega) [way0] (some ⟨pw, 0, none⟩) 1
    (fun y hy => by rw [List.mem_singleton.1 hy]; exact ⟨.inl rfl, by decide, by decide, by decide, by decide, by decide⟩) rfl rfl wr
    (fun _ => ⟨pw, 0, rfl, fun i x hx k u hu => by
     cases i with
     | zero =>
      cases hx
      have := x4.cell k
      simp only [Nat.zero_mul, Nat.zero_add]
      rw [this]
      simpa [wayc, way0] using hu
     | succ i => cases hx⟩) (by intro h; cases h) (Nat.le_refl _) a scap hrd (by rw [exSS_len]; exact hs1) n (HLA.out.chg0 x5) (HTO.out.chg0 x5))
   rw [exSS_len] at HRU
   have k0 := x1.cell 0
   have k1 := x1.cell 1
   have k2 := x1.cell 2
   have k3 := x1.cell 3
   have k4 := x1.cell 4
   have k5 := x1.cell 5
   have k6 := x1.cell 6
   simp at k0 k1 k2 k3 k4 k5 k6
   unfold strv at HRU k0
   rw [HEXT.out] at HRU k0
   have HX5 := Lib.hid x5
   clear x1 x2 x3 x4 x5 hrd hsa hsn hs1 hs2 hlen
   have hL1 : ([way0] : List Way).length = 1 := rfl
   rw [hL1] at HRU
   clear hL1
   go_wp2_with fail
   refine HRU.out.mono ?_
   rintro e w9 ⟨⟨Ws, Wl, ev, ov, ge, go, gl, la, lc, L, s, rfl, u1, u2, u3, u4, u5, u6, u7⟩, c9⟩
   have u3' : Wl = exW 10 := u3
   subst u3'
   obtain ⟨e1, e2, e3, e4⟩ := ex_end
   have hLl : L.length = 2 := by rw [← e2, ← u6, List.length_map]
   rw [e2] at u7
   rw [e1, e2]
   obtain ⟨x0, hx0⟩ : ∃ x0, L[0]? = some x0 := ⟨_, List.getElem?_eq_getElem (by omega)⟩
   have hoff : x0.off = 3000000000 := by
    rw [← u6, List.map_map, List.getElem?_map, hx0] at e3
    simpa using e3
   obtain ⟨kl, hkl⟩ := u7.pos (by rw [List.length_map]; omega)
   rw [hkl] at u7
   obtain ⟨lcap, hlv, hlc, _⟩ := u7.some_form
   rw [List.length_map, hLl] at hlv hlc
   have hla : la = some ⟨kl, 0, none⟩ := by injection hlv
   have hlcc : lc = lcap := by injection hlv
   have f0 : w9.cell? ⟨kl, 1, none⟩ = some (.int .i64 3000000000) := by
    have := u7.cell rfl (lg_get hx0) (j := 1) rfl
    rw [hoff] at this
    simpa using this
   obtain ⟨W9, hW9⟩ : ∃ W9, Ws[9]? = some W9 := ⟨_, List.getElem?_eq_getElem (by rw [u1]; rw [exSS_len]; omega)⟩
   have hJ9 : W9 = exW 10 := u2 9 W9 hW9
   obtain ⟨ko, hko⟩ := u5.pos (by rw [List.length_map, u1]; rw [exSS_len]; omega)
   rw [hko] at u5
   obtain ⟨ocap, hov, hoc, _⟩ := u5.some_form
   rw [List.length_map, u1, exSS_len] at hov hoc
   have f1 : w9.cell? ⟨ko, 9, none⟩ = some (.int .i64 (exW 10).off) := by
    have := u5.cell rfl (i := 9) (by rw [List.getElem?_map, hW9]; rfl) (j := 0) rfl
    rw [hJ9] at this
    simpa [offc] using this
   obtain ⟨of9, hof9⟩ : ∃ z, z = (exW 10).off := ⟨_, rfl⟩
   rw [← hof9] at f1 e4
   obtain ⟨ea, ecap, hev, -⟩ := u4.form
   generalize (List.replicate (exSS 10).length okc).length = en at *
   have hl1 : (1 : Nat) < lc := by omega
   have hl0 : (0 : Nat) < lc := by omega
   have ho9 : (9 : Nat) < ocap := by omega
   subst hla hov hev
   have HC9 := Lib.hid (HX5.out.trans c9)
   have HF0 := Lib.hid (And.intro f0 f1)
   have HE4 := Lib.hid e4
   clear u1 u2 u3 u4 u5 u6 u7 e1 e2 e3 e4 hLl hx0 hoff hkl hlv hlc hlcc hW9 hJ9 hko hoc c9 f0 f1 hof9 HRU k0 k1 k2 k3 k4 k5 k6
   go_upto_region 8 with (fail)
   have A9 := Blk.new w9 41 #[.slice ea en ecap, .slice (some ⟨ko, 0, none⟩) 10 ocap, .slice (some ⟨kl, 0, none⟩) 2 lc, .int .i64 2, .string s]
   have cA := chg0_alloc w9 (Obj.cells #[.slice ea en ecap, .slice (some ⟨ko, 0, none⟩) 10 ocap, .slice (some ⟨kl, 0, none⟩) 2 lc, .int .i64 2, .string s] 41)
   obtain ⟨p3, hp3⟩ : ∃ p, p = w9.heap.size := ⟨_, rfl⟩
   rw [← hp3] at A9
   rw [← hp3]
   generalize w9.alloc (Obj.cells #[.slice ea en ecap, .slice (some ⟨ko, 0, none⟩) 10 ocap, .slice (some ⟨kl, 0, none⟩) 2 lc, .int .i64 2, .string s] 41) = wx at *
   have f0 := cA.keep HF0.out.1 (fun h => h)
   have f1 := cA.keep HF0.out.2 (fun h => h)
   have k1 := A9.cell 1
   have k2 := A9.cell 2
   have k3 := A9.cell 3
   simp at k1 k2 k3
   have e4 := HE4.out
   have HCX := Lib.hid (HC9.out.trans cA)
   clear A9 cA hp3
   go_wp2_with fail
   go_ret
   exact ⟨rfl, HCX.out⟩
end
section
open Go Go.RowKit
def LL : List (String × DataW Unit) := [("math/bits.deBruijn32tab", Rows.laid_math_bits_deBruijn32tab), ("math/bits.deBruijn64tab", Rows.laid_math_bits_deBruijn64tab), ("internal/strconv.uint64pow10", Rows.laid_internal_strconv_uint64pow10), ("unicode/utf8.acceptRanges", Rows.laid_unicode_utf8_acceptRanges), ("strconv.ErrRange", Rows.laid_strconv_ErrRange), ("strconv.ErrSyntax", Rows.laid_strconv_ErrSyntax), ("chronobate/sane.names", Rows.laid_chronobate_sane_names), ("unicode.White_Space", Rows.laid_unicode_White_Space), ("strings.asciiSpace", Rows.laid_strings_asciiSpace), ("unicode/utf8.first", Rows.laid_unicode_utf8_first)]
theorem gPow : Tryz.prog.globalNamed "internal/strconv.uint64pow10" = some 10 := by kernel_rfl
theorem gSp : Tryz.prog.globalNamed "strings.asciiSpace" = some 0 := by kernel_rfl
theorem gNames : Tryz.prog.globalNamed "chronobate/sane.names" = some 1 := by kernel_rfl
theorem gErr : Tryz.prog.globalNamed "strconv.ErrRange" = some 9 := by kernel_rfl
def d1 (d : DataW Unit) : List Value := match d with | .lit (.int k n) => [.int k n] | .lit (.string l) => [.string ⟨l.toArray⟩] | _ => []
def d2 (d : DataW Unit) : Array Value := match d with | .agg l => (l.flatMap fun x => match x with | .agg m => m.flatMap d1 | y => d1 y).toArray | _ => #[]
def setG (h : Array Obj) (g : Nat) (cs : Array Value) : Array Obj := h.modify g fun o => match o with
 | .cells _ t frozen => .cells cs t frozen
 | o => o
noncomputable def wit (os : Os) : World :=
 let w0 := World.holding Tryz.prog os ⟨#[], #[], []⟩
 { w0 with heap := setG (setG (setG (setG (setG (setG (setG (setG (setG (setG w0.heap 0 (d2 Rows.laid_strings_asciiSpace)) 1 (d2 Rows.laid_chronobate_sane_names)) 2 #[.pointer (some ⟨21, 0, none⟩)]) 6 (d2 Rows.laid_unicode_utf8_first)) 7 (d2 Rows.laid_unicode_utf8_acceptRanges)) 8 #[.iface 412 (.pointer (some ⟨20, 0, none⟩))]) 9 #[.iface 412 (.pointer (some ⟨19, 0, none⟩))])
   10 (d2 Rows.laid_internal_strconv_uint64pow10)) 11 (d2 Rows.laid_math_bits_deBruijn32tab)) 12 (d2 Rows.laid_math_bits_deBruijn64tab) ++
   #[.cells #[.string ⟨#[118, 97, 108, 117, 101, 32, 111, 117, 116, 32, 111, 102, 32, 114, 97, 110, 103, 101]⟩] 414, .cells #[.string ⟨#[105, 110, 118, 97, 108, 105, 100, 32, 115, 121, 110, 116, 97, 120]⟩] 414,
     .cells #[.slice (some ⟨22, 0, none⟩) 7 7, .slice none 0 0, .int .i64 2] 349,
     .cells #[.int .u16 9, .int .u16 13, .int .u16 1, .int .u16 32, .int .u16 133, .int .u16 101, .int .u16 160, .int .u16 5760, .int .u16 5600, .int .u16 8192, .int .u16 8202, .int .u16 1, .int .u16 8232, .int .u16 8233, .int .u16 1, .int .u16 8239, .int .u16 8287, .int .u16 48, .int .u16 12288, .int .u16 12288, .int .u16 1] 352] }
theorem piece0 (os : Os) (args : Array Value) : LaidIn Tryz.prog ((wit os).forCall (fun _ _ => 0) ⟨#[], args, []⟩).memory [("math/bits.deBruijn32tab", Rows.laid_math_bits_deBruijn32tab)] [11] :=
 LaidIn.of_run [11] 8 (by kernel_rfl) (by kernel_rfl) (by kernel_rfl) (by kernel_rfl)
theorem piece1 (os : Os) (args : Array Value) : LaidIn Tryz.prog ((wit os).forCall (fun _ _ => 0) ⟨#[], args, []⟩).memory [("math/bits.deBruijn64tab", Rows.laid_math_bits_deBruijn64tab)] [12] :=
 LaidIn.of_run [12] 8 (by kernel_rfl) (by kernel_rfl) (by kernel_rfl) (by kernel_rfl)
theorem piece2 (os : Os) (args : Array Value) : LaidIn Tryz.prog ((wit os).forCall (fun _ _ => 0) ⟨#[], args, []⟩).memory [("internal/strconv.uint64pow10", Rows.laid_internal_strconv_uint64pow10)] [10] :=
 LaidIn.of_run [10] 8 (by kernel_rfl) (by kernel_rfl) (by kernel_rfl) (by kernel_rfl)
theorem piece3 (os : Os) (args : Array Value) : LaidIn Tryz.prog ((wit os).forCall (fun _ _ => 0) ⟨#[], args, []⟩).memory [("unicode/utf8.acceptRanges", Rows.laid_unicode_utf8_acceptRanges)] [7] :=
 LaidIn.of_run [7] 8 (by kernel_rfl) (by kernel_rfl) (by kernel_rfl) (by kernel_rfl)
theorem piece4 (os : Os) (args : Array Value) : LaidIn Tryz.prog ((wit os).forCall (fun _ _ => 0) ⟨#[], args, []⟩).memory [("strconv.ErrRange", Rows.laid_strconv_ErrRange)] [9, 19] :=
 LaidIn.of_run [9, 19] 8 (by kernel_rfl) (by kernel_rfl) (by kernel_rfl) (by kernel_rfl)
theorem piece5 (os : Os) (args : Array Value) : LaidIn Tryz.prog ((wit os).forCall (fun _ _ => 0) ⟨#[], args, []⟩).memory [("strconv.ErrSyntax", Rows.laid_strconv_ErrSyntax)] [8, 20] :=
 LaidIn.of_run [8, 20] 8 (by kernel_rfl) (by kernel_rfl) (by kernel_rfl) (by kernel_rfl)
theorem piece6 (os : Os) (args : Array Value) : LaidIn Tryz.prog ((wit os).forCall (fun _ _ => 0) ⟨#[], args, []⟩).memory [("chronobate/sane.names", Rows.laid_chronobate_sane_names)] [1] :=
 LaidIn.of_run [1] 8 (by kernel_rfl) (by kernel_rfl) (by kernel_rfl) (by kernel_rfl)
theorem piece7 (os : Os) (args : Array Value) : LaidIn Tryz.prog ((wit os).forCall (fun _ _ => 0) ⟨#[], args, []⟩).memory [("unicode.White_Space", Rows.laid_unicode_White_Space)] [2, 21, 22] :=
 LaidIn.of_run [2, 21, 22] 8 (by kernel_rfl) (by kernel_rfl) (by kernel_rfl) (by kernel_rfl)
theorem piece8 (os : Os) (args : Array Value) : LaidIn Tryz.prog ((wit os).forCall (fun _ _ => 0) ⟨#[], args, []⟩).memory [("strings.asciiSpace", Rows.laid_strings_asciiSpace)] [0] :=
 LaidIn.of_run [0] 8 (by kernel_rfl) (by kernel_rfl) (by kernel_rfl) (by kernel_rfl)
theorem piece9 (os : Os) (args : Array Value) : LaidIn Tryz.prog ((wit os).forCall (fun _ _ => 0) ⟨#[], args, []⟩).memory [("unicode/utf8.first", Rows.laid_unicode_utf8_first)] [6] :=
 LaidIn.of_run [6] 8 (by kernel_rfl) (by kernel_rfl) (by kernel_rfl) (by kernel_rfl)
theorem wit_laid (os : Os) (args : Array Value) : laidMet Tryz.prog LL ((wit os).forCall (fun _ _ => 0) ⟨#[], args, []⟩).memory :=
 ((piece0 os args).append ((piece1 os args).append ((piece2 os args).append ((piece3 os args).append ((piece4 os args).append ((piece5 os args).append ((piece6 os args).append ((piece7 os args).append ((piece8 os args).append (piece9 os args) (by kernel_rfl)) (by kernel_rfl)) (by kernel_rfl)) (by kernel_rfl)) (by kernel_rfl)) (by kernel_rfl)) (by kernel_rfl)) (by kernel_rfl)) (by kernel_rfl)).met
theorem ll_plain : (LL.all fun x => x.2.handleName?.isNone) = true := by kernel_rfl
theorem wit_met (os : Os) (args : Array Value) : laidMetH Tryz.prog LL ((wit os).forCall (fun _ _ => 0) ⟨#[], args, []⟩).memory := by
 rw [MakeChecks.laidMetH_plain _ _ _ ll_plain]
 exact wit_laid os args
end
section
open Go Go.RowKit Go.Chron
theorem tyPow : (Tryz.prog.globals[10]?).map (·.type) = some 408 := by kernel_rfl
theorem tySp : (Tryz.prog.globals[0]?).map (·.type) = some 297 := by kernel_rfl
theorem tyNames : (Tryz.prog.globals[1]?).map (·.type) = some 316 := by kernel_rfl
theorem tyErr : ∃ t ms, (Tryz.prog.globals[9]?).map (·.type) = some t ∧ Tryz.prog.underlying t = some (.interface ms) := ⟨302, _, by kernel_rfl, Tryz.underlying302⟩
theorem iface_cells {H : Type} {enc : TypeId × Value → H} {P : Program} {w : World} {base : Nat} {sp : Nat → Bool} {held : Bool} {fuel : Nat} {t : TypeId} {ms : Array (String × TypeId)} {cs : List Value} {x : DataW H × List MemPlace}
  (ht : P.underlying t = some (.interface ms)) (h : DataW.trod enc P w base sp held fuel t cs = some x) : cs = [.nilIface] ∨ ∃ u v, cs = [.iface u v] := by
 cases fuel with
 | zero => simp [DataW.trod] at h
 | succ n =>
  unfold DataW.trod at h
  rw [ht] at h
  split at h
  all_goals first
   | exact .inl rfl
   | exact .inr ⟨_, _, rfl⟩
   | simp_all
theorem spEq : (Rows.laid_strings_asciiSpace : DataW Unit) = Lib.tabData .u8 Lib.asciiSpaceTab := by kernel_rfl
theorem size_of_var {P : Program} {W : World} {n : String} {g : Nat} {cs : Array Value} (hg : P.globalNamed n = some g) (h : W.var? P n = some cs) : g < W.heap.size := by
 unfold World.var? at h
 rw [hg] at h
 simp only [Option.bind_some] at h
 cases hh : W.heap[g]? with
 | none => rw [hh] at h; cases h
 | some o => exact (Array.getElem?_eq_some_iff.1 hh).1
theorem names_of {P : Program} {W : World} {name : String} {ss : List (List UInt8)} {rest : List (String × DataW Unit)} {g : Nat} {t e : TypeId} {n : Nat}
  (hg : P.globalNamed name = some g) (hty : (P.globals[g]?).map (·.type) = some t) (ht : P.underlying t = some (.array n e)) (he : P.underlying e = some .string) (hce : P.cellsOf e = 1)
  (h : laidMet P ((name, .agg (ss.map fun s => .lit (.string s))) :: rest) W) : n = ss.length ∧ ∀ (i : Nat), i < n → ∃ s : ByteArray, ss[i]? = some s.data.toList ∧ W.cell? ⟨g, i, none⟩ = some (.string s) := by
 obtain ⟨ps, ⟨g', t', cs, fuel, p, q, hg', ht', hvar, hd, _, _⟩, _⟩ := h
 obtain rfl := Option.some.inj (hg.symm.trans hg')
 obtain rfl := Option.some.inj (hty.symm.trans ht')
 obtain ⟨xs, m, rfl, hx, hlen, hn, hel⟩ := DataW.trod_array ht hd
 have hxs : xs.map (·.1) = ss.map fun s => (DataW.lit (.string s) : DataW Unit) := by
  have := congrArg Prod.fst hx
  simp only [DataW.agg.injEq] at this
  exact this.symm
 have hnl : n = ss.length := by
  have := congrArg List.length hxs
  simp only [List.length_map] at this
  omega
 refine ⟨hnl, fun i hi => ?_⟩
 have hx : xs[i]? = some (xs[i]'(by omega)) := List.getElem?_eq_getElem _
 have h1 := hel i hi
 rw [hx, hce, Nat.mul_one] at h1
 obtain ⟨s, hs, hxe, _⟩ := DataW.trod_string he h1
 have h2 : (xs.map (·.1))[i]? = some (DataW.lit (.string s.data.toList) : DataW Unit) := by
  rw [List.getElem?_map, hx, hxe]; rfl
 rw [hxs, List.getElem?_map] at h2
 have hsi : ss[i]? = some s.data.toList := by
  cases hq : ss[i]? with
  | none => rw [hq] at h2; cases h2
  | some z => rw [hq] at h2; cases h2; rfl
 refine ⟨s, hsi, ?_⟩
 have h3 := World.var?_cell hg hvar i
 rw [h3]
 have h4 : (List.take 1 (List.drop i cs.toList))[0]? = some (.string s) := by rw [hs]; rfl
 rw [List.getElem?_take, if_pos (by omega), List.getElem?_drop] at h4
 simpa using h4
def nameBytes : List (List UInt8) := [[116, 97, 107, 101, 110], [115, 104, 111, 114, 116], [117, 110, 107, 110, 111, 119, 110], [114, 101, 116, 105, 114, 101, 100], [105, 100, 108, 101], [118, 101, 114, 115, 105, 111, 110], [109, 111, 100, 101], [111, 114, 105, 103, 105, 110], [107, 105, 115, 115], [108, 101, 97, 112], [115, 116, 114, 97, 116, 117, 109], [122, 101, 114, 111], [115, 108, 111, 119]]
theorem of_laid {W : World} (hH : laidMetH Tryz.prog LL W) : Laid 11 W ∧ Told 11 W := by
 rw [MakeChecks.laidMetH_plain _ _ _ ll_plain] at hH
 have h2 := hH.tail.tail
 have hp : Lib.TabIs Tryz.prog W "internal/strconv.uint64pow10" .u64 Lib.pow10Tab := Lib.tabIs_of_head (rest := LL.drop 3) gPow tyPow Tryz.underlying408 Tryz.underlying24 (by kernel_rfl) (by kernel_rfl) h2
 have h4 := h2.tail.tail
 have h6 := h4.tail.tail
 have h8 := h6.tail.tail
 have hs : Lib.TabIs Tryz.prog W "strings.asciiSpace" .u8 Lib.asciiSpaceTab := Lib.tabIs_of_head (rest := LL.drop 9) gSp tySp Tryz.underlying297 Tryz.underlying5 (by kernel_rfl) (by kernel_rfl) (by rw [← spEq]; exact h8)
 obtain ⟨_, hn⟩ := names_of (ss := nameBytes) (rest := LL.drop 7) gNames tyNames Tryz.underlying316 Tryz.underlying9 (by kernel_rfl) h6
 have he : ErrAt W := by
  obtain ⟨t, ms, t1, t2⟩ := tyErr
  obtain ⟨ps, ⟨g', t', cs, fuel, p, q, hg', ht', hvar, hd, _, _⟩, _⟩ := h4
  obtain rfl := Option.some.inj (gErr.symm.trans hg')
  obtain rfl := Option.some.inj (t1.symm.trans ht')
  have hc := World.var?_cell hg' hvar 0
  obtain ⟨l0⟩ := cs
  rcases iface_cells t2 hd with e | ⟨u, v, e⟩
  ·have e' : l0 = [.nilIface] := e
   subst e'
   exact ⟨.nilIface, by simpa using hc, .inl rfl⟩
  ·have e' : l0 = [.iface u v] := e
   subst e'
   exact ⟨.iface u v, by simpa using hc, .inr ⟨u, v, rfl⟩⟩
 have hsz : 11 ≤ W.heap.size := size_of_var gPow hp
 refine ⟨⟨⟨0, gSp, by omega, hs⟩, he, by omega, hsz⟩, ⟨?_, ⟨10, gPow, by omega, hp⟩, by omega, hsz⟩⟩
 have hz : ∀ i, ∃ s : ByteArray, i < 13 → (nameBytes[i]? = some s.data.toList ∧ W.cell? ⟨1, i, none⟩ = some (.string s)) := fun i => by
  by_cases hi : i < 13
  ·obtain ⟨s, h⟩ := hn i hi
   exact ⟨s, fun _ => h⟩
  ·exact ⟨ByteArray.empty, fun h => absurd h hi⟩
 obtain ⟨f, hf⟩ := Classical.axiomOfChoice hz
 refine ⟨(List.range 13).map f, by simp, fun s hs => ?_, fun i s hi => ?_⟩
 ·obtain ⟨i, hi, rfl⟩ := List.mem_map.1 hs
  obtain ⟨h1, _⟩ := hf i (List.mem_range.1 hi)
  have hall : ∀ b ∈ nameBytes, b.length ≤ 100 := by decide
  have := hall _ (List.mem_of_getElem? h1)
  exact this
 ·rw [List.getElem?_map] at hi
  by_cases h13 : i < 13
  ·rw [List.getElem?_range h13] at hi
   cases hi
   exact (hf i h13).2
  ·rw [List.getElem?_eq_none (by rw [List.length_range]; omega)] at hi
   cases hi
end
end Go.Proofs.YtamhicdhbjniiaaGreatDoor
