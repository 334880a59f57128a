/- world.send: contract. -/
import Derived.Test.YtamhicdhbjniiaaGreatDoorM39
import Derived.Test.YtamhicdhbjniiaaGreatDoorM22
set_option linter.unusedVariables false
set_option maxHeartbeats 6400000
set_option maxRecDepth 100000
namespace Go.Proofs.YtamhicdhbjniiaaGreatDoor
section
open Go Go.RowKit Go.Chron
theorem ans_len (y : Way) (c t : Int) : (y.ans c t).length = 48 := by
 unfold Way.ans
 split <;> exact bytes4_len _ _ _ _ _
theorem ans_in (y : Way) (c t : Int) : ∀ z ∈ y.ans c t, 0 ≤ z ∧ z < 256 := by
 unfold Way.ans
 split <;> exact bytes4_in _ _ _ _ _
theorem info118 : (Tryz.prog.info? 118).map (fun i => (i.zero, i.size, i.bytes)) = some (some (.agg #[.int .i64 0, .int .i64 0, .int .i64 0, .slice none 0 0]), 4, 48) := by kernel_rfl
structure SendPost (N : Nat) (w : World) (b : Nat) (W W' : Wm) (B : WB) (e : Ending) (w' : World) : Prop where
 e : e = .returned (.tuple #[])
 ex : ∃ B', WAt N w' b W' B' ∧ (∀ i, WAll b B' i → WAll b B i ∨ w.heap.size ≤ i)
 c : Chg (WAll b B) w w'
theorem send44 {N : Nat} {b : Nat} {W : Wm} {B : WB} {w : World} (h : WAt N w b W B) (addr c : Int) (a : Addr) (cap : Nat) (L : List Int) (hc : 0 ≤ c ∧ c < 18446744073709551616) (hcap : 48 ≤ cap) (hcm : cap ≤ 9223372036854775807) (hR : Reads w 1 (some a) ((bytes4 3 0 0 0 c).map u8c)) (hab : a.block ≠ b)
  (si : Nat) (hsi : si < W.d.cfg.servers.length) (hix : Lib.idxOf W.d.cfg.servers addr = (si : Int)) (hs : W.sent + 1 ≤ 16 * (N : Int)) (hN : N ≤ 1000000) (hu : W.under.length ≤ 1000000) :
  Calls Tryz.prog 44 #[.pointer (some ⟨b, 0, none⟩), .agg #[.int .i64 addr, .slice (some a) 48 cap]] w (SendPost N w b W (W.send c (addr, L)) B) := by
 have hs0 := h.sent.1
 have HWA := Lib.hid h
 have cB := chg0_alloc w (Obj.cells #[.int .i64 addr, .slice (some a) 48 cap] 80)
 have B3 := Blk.new w 80 #[.int .i64 addr, .slice (some a) 48 cap]
 have hW1 := h.chg0 cB
 have k7 := hW1.box.cell 7
 have f7 := hW1.box.frozen 7
 simp [wmc] at k7
 obtain ⟨p3, hp3⟩ : ∃ p, p = w.heap.size := ⟨_, rfl⟩
 rw [← hp3] at B3
 have HP3 := Lib.hid hp3
 have hbw := h.box.lt
 have hw1 : wrap64 (W.sent + 1) = W.sent + 1 := by have := h.sent.2; unfold wrap64; omega
 have cS : Chg (fun i => i = b) (w.alloc (Obj.cells #[.int .i64 addr, .slice (some a) 48 cap] 80)) ((w.alloc (Obj.cells #[.int .i64 addr, .slice (some a) 48 cap] 80)).setCell ⟨b, 7, none⟩ (.int .i64 (W.sent + 1))) := (Chg.refl (fun i => i = b) _).setCell (p := ⟨b, 7, none⟩) (fun _ => rfl) _
 have hW2 := hW1.sent1 (s := W.sent + 1) (by simpa [wmc] using hW1.box.set_ 7 (.int .i64 (W.sent + 1))) cS ⟨by omega, hs⟩
 have B3' := B3.chg cS (fun e => by omega)
 have hR2 := (hR.chg cB (fun _ _ h => h)).chg cS (fun ad had e => by cases had; exact hab e)
 have HC := Lib.hid (cB.mono (S' := fun i => i = b) (fun _ _ h => h.elim) |>.trans cS)
 have HW2 := Lib.hid hW2
 have HB3 := Lib.hid B3'
 have HR2 := Lib.hid hR2
 obtain ⟨sent, hsent⟩ : ∃ s, s = W.sent := ⟨_, rfl⟩
 have HSE := Lib.hid hsent
 rw [← hsent] at k7 hw1
 rw [← hsent] at HW2 HB3 HR2 HC
 clear h cB B3 hW1 hp3 hbw cS hW2 B3' hR2 hR hab hsent
 go_enter Tryz.func44, Tryz.ntmps44
 go_upto_region 2 with (fail)
 rw [← HP3.out]
 clear f7 hw1 k7 hs0
 have z1 := HC.out.size
 generalize (w.alloc (Obj.cells #[.int .i64 addr, .slice (some a) 48 cap] 80)).setCell ⟨b, 7, none⟩ (.int .i64 (sent + 1)) = W2 at *
 have hsv := HW2.out.srv
 obtain ⟨sk, hsk⟩ := hsv.pos (by show 0 < (W.d.cfg.servers.map i64c).length; rw [List.length_map]; omega)
 rw [hsk] at hsv
 obtain ⟨scap, hsvv, hsc1, hsc2⟩ := hsv.some_form
 have hsl : (W.d.cfg.servers.map i64c).length = W.d.cfg.servers.length := List.length_map _
 have hsvv' : B.sv = .slice (some ⟨sk, 0, none⟩) W.d.cfg.servers.length scap := by rw [hsvv]; simp
 have q2 := HW2.out.box.cell 2
 have q3 := HB3.out.cell 0
 simp [wmc] at q2 q3
 rw [hsvv'] at q2
 have HIX := Lib.hid (fun W' (hW : Chg (fun _ => False) W2 W') => (by
  have hO := hsv.chg hW (fun _ _ h => h)
  have := index_int sk 0 W.d.cfg.servers.length scap W.d.cfg.servers addr W' rfl (by have := HWA.out.d.ok.cfg.n1; omega) (fun j z hz => by
   have hz' : (W.d.cfg.servers.map i64c)[j]? = some (i64c z) := by rw [List.getElem?_map, hz]; rfl
   have := hO.cell rfl hz' (j := 0) (u := .int .i64 z) rfl
   simpa using this)
  rw [hix] at this
  exact this : Calls Tryz.prog 78 #[.slice (some ⟨sk, 0, none⟩) W.d.cfg.servers.length scap, .int .i64 addr] W' fun e w' => e = .returned (.int .i64 (si : Int)) ∧ w' = W'))
 obtain ⟨sn, hsn⟩ : ∃ sn, sn = W.d.cfg.servers.length := ⟨_, rfl⟩
 rw [← hsn] at q2 HIX
 have HS2 := Lib.hid (fun W' (hW : Chg (fun _ => False) W2 W') => (⟨hW.keep q2 (fun h => h), hW.keep q3 (fun h => h)⟩ : W'.cell? ⟨b, 2, none⟩ = some (.slice (some ⟨sk, 0, none⟩) sn scap) ∧ W'.cell? ⟨p3, 0, none⟩ = some (.int .i64 addr)))
 have HSI := Lib.hid (And.intro hix hsn)
 clear hsv hsvv hsvv' hsc1 hsc2 hsl q2 q3 hsk z1 hsn hix
 refine wp_region_noPanic ?_
 refine wp_region_till (s := 7) (S := (fun w' => w'.cell? ⟨b, 2, none⟩ = some (.slice (some ⟨sk, 0, none⟩) sn scap) ∧ w'.cell? ⟨p3, 0, none⟩ = some (.int .i64 addr))) (by kernel_rfl) ?_
 have hHeld := HS2.out W2.drew (Chg.drew (Chg.refl _ _))
 refine wP 0 16 _ (fun _ => hHeld) ?_
 refine wP 1 17 _ (fun _ => hHeld) ?_
 refine wP 2 18 _ (fun _ => hHeld) ?_
 refine wL 3 19 _ (fun _ => hHeld) ?_
 refine wP 4 20 _ (fun _ => hHeld) ?_
 refine wL 5 21 _ (fun _ => hHeld) ?_
 refine wpTill_one (i := 6) (oi := ⟨some 22, _, _, _, _, _⟩) rfl (by kernel_rfl) (fun KK hKK => ?_)
 go_simp
 refine (HIX.out _ kC).mono ?_
 rintro e wt ⟨rfl, rfl⟩
 refine hKK _ _ (andS (HS2.out _ kC) (fun hHeld' => ?_))
 clear hKK KK
 try simp only [Act.put, qA, qB, qC]
 refine wpTill_one (i := 7) (oi := ⟨some 4, _, _, _, _, _⟩) rfl (by kernel_rfl) (fun KK hKK => ?_)
 go_simp
 refine hKK _ _ ⟨(fun h => (by simp at h)), ?_⟩
 clear hKK KK
 try simp only [Act.put, qA, qB, qC]
 refine wpTill_done (by kernel_rfl) ?_
 refine NoPanic.normal ?_
 have c23 := Chg.drew (Chg.refl (fun _ => False) W2)
 have HW3 := Lib.hid (HW2.out.chg0 c23)
 have HB4 := Lib.hid (HB3.out.chg c23 id)
 have HR3 := Lib.hid (HR2.out.chg c23 (fun _ _ h => h))
 have HC3 := Lib.hid (HC.out.trans (c23.mono (fun _ _ h => h.elim)))
 clear c23 HS2 HIX
 try clear hHeld
 try clear hHeld'
 generalize W2.drew = W3 at *
 obtain ⟨y, hy⟩ : ∃ y, W.ways[si]? = some y := ⟨_, List.getElem?_eq_getElem (by have := HWA.out.wl; omega)⟩
 have hyo := HWA.out.wok y (List.mem_of_getElem? hy)
 have hwy := HW3.out.way
 obtain ⟨wk, hwk⟩ := hwy.pos (by show 0 < (W.ways.map _).length; rw [List.length_map]; have := HWA.out.wl; omega)
 rw [hwk] at hwy
 obtain ⟨wcap, hwv, hwc1, hwc2⟩ := hwy.some_form
 have hwl : (W.ways.map fun y => (wayc y).toList).length = W.ways.length := List.length_map _
 have hwc1' : W.ways.length ≤ wcap := by have h' : (W.ways.map fun y => (wayc y).toList).length ≤ wcap := hwc1; omega
 have hwv' : B.wv = .slice (some ⟨wk, 0, none⟩) W.ways.length wcap := by rw [hwv]; simp
 have hwz : (W.ways.map fun y => (wayc y).toList)[si]? = some (wayc y).toList := by rw [List.getElem?_map, hy]; rfl
 have y0 : W3.cell? ⟨wk, si * 6, none⟩ = some (.int .i64 y.kind) := hwy.cell rfl hwz (j := 0) rfl
 have y1 : W3.cell? ⟨wk, si * 6 + 1, none⟩ = some (.int .i64 y.there) := hwy.cell rfl hwz (j := 1) rfl
 have y2 : W3.cell? ⟨wk, si * 6 + 2, none⟩ = some (.int .i64 y.stay) := hwy.cell rfl hwz (j := 2) rfl
 have y3 : W3.cell? ⟨wk, si * 6 + 3, none⟩ = some (.int .i64 y.back) := hwy.cell rfl hwz (j := 3) rfl
 have y4 : W3.cell? ⟨wk, si * 6 + 4, none⟩ = some (.int .i64 y.err) := hwy.cell rfl hwz (j := 4) rfl
 have y5 : W3.cell? ⟨wk, si * 6 + 5, none⟩ = some (.int .u64 y.lie) := hwy.cell rfl hwz (j := 5) rfl
 have q3 := HW3.out.box.cell 3
 have q1 := HW3.out.box.cell 1
 simp [wmc] at q3 q1
 rw [hwv'] at q3
 have HTR := Lib.hid (fun W' (hW : Chg (fun _ => False) W3 W') => true37 B.gb W.g W' (Blk.chg HW3.out.g hW id))
 obtain ⟨wn, hwn⟩ : ∃ wn, wn = W.ways.length := ⟨_, rfl⟩
 rw [← hwn] at q3 hwc1'
 have hsw : si < wn := by have := HWA.out.wl; omega
 have hswI : (si : Int) < wn := by omega
 have hswc : si < wcap := by omega
 obtain ⟨gt, hgt⟩ : ∃ gt, gt = W.g.t := ⟨_, rfl⟩
 rw [← hgt] at HTR
 have HGT := Lib.hid hgt
 have cA := chg0_alloc W3 (Obj.cells (wayc y) 97)
 have B5 := Blk.new W3 97 (wayc y)
 have q1A := cA.keep q1 (fun h => h)
 unfold wayc at cA B5 q1A
 have HCA := Lib.hid cA
 have HB5 := Lib.hid B5
 have HY := Lib.hid (And.intro hy (And.intro hyo hwn))
 clear hwy hwv hwc1 hwc2 hwl hwv' hwz hgt cA B5 hy hyo hwn hwk
 go_upto_region 5 with (go_at_call 37; refine (HTR.out _ (by repeat (first | (with_reducible exact Chg.refl _ _) | assumption | (with_reducible apply Chg.drew) | (with_reducible apply Chg.alloc)))).mono ?_; rintro e wt ⟨rfl, hwt⟩; rw [hwt]; clear hwt wt)
 obtain ⟨p5, hp5⟩ : ∃ p, p = W3.heap.size := ⟨_, rfl⟩
 rw [← hp5] at HB5 ⊢
 have HP5 := Lib.hid hp5
 clear hp5 q1A q1 y0 y1 y2 y3 y4 y5 q3 HTR
 generalize W3.alloc (Obj.cells #[.int .i64 y.kind, .int .i64 y.there, .int .i64 y.stay, .int .i64 y.back, .int .i64 y.err, .int .u64 y.lie] 97) = W4 at *
 have HW4 := Lib.hid (HW3.out.chg0 HCA.out)
 have HR4 := Lib.hid (HR3.out.chg HCA.out (fun _ _ h => h))
 have B34 := HB4.out.chg HCA.out id
 have u0 := HB5.out.cell 0
 have u1 := HB5.out.cell 1
 have u2 := HB5.out.cell 2
 have u3 := HB5.out.cell 3
 have u4 := HB5.out.cell 4
 have u5 := HB5.out.cell 5
 have u6 := B34.cell 1
 simp at u0 u1 u2 u3 u4 u5 u6
 have hyo := HY.out.2.1
 have hgi : In64 gt := by have := HWA.out.gok.t; have h2 := HGT.out; exact ⟨by omega, by omega⟩
 have HAD := Lib.hid (fun W' => add80 gt y.there hgi (by have := hyo.there; exact ⟨by omega, by omega⟩) W')
 have HAN := Lib.hid (fun W' (hW : Chg (fun _ => False) W4 W') => answer79 y a cap c (satAdd gt y.there) W' hyo hc (satAdd_in _ _) hcap hcm (HR4.out.chg hW (fun _ _ h => h)))
 unfold wayc at HAN
 have HS5 := Lib.hid (fun W' (hW : Chg (fun _ => False) W4 W') => (⟨hW.keep u0 (fun h => h), hW.keep u1 (fun h => h), hW.keep u2 (fun h => h), hW.keep u3 (fun h => h), hW.keep u4 (fun h => h), hW.keep u5 (fun h => h), hW.keep u6 (fun h => h)⟩ : W'.cell? ⟨p5, 0, none⟩ = some (.int .i64 y.kind) ∧ W'.cell? ⟨p5, 1, none⟩ = some (.int .i64 y.there) ∧ W'.cell? ⟨p5, 2, none⟩ = some (.int .i64 y.stay) ∧ W'.cell? ⟨p5, 3, none⟩ = some (.int .i64 y.back) ∧ W'.cell? ⟨p5, 4, none⟩ = some (.int .i64 y.err) ∧ W'.cell? ⟨p5, 5, none⟩ = some (.int .u64 y.lie) ∧ W'.cell? ⟨p3, 1, none⟩ = some (.slice (some a) 48 cap)))
 obtain ⟨ta, hta⟩ : ∃ t, t = satAdd gt y.there := ⟨_, rfl⟩
 rw [← hta] at HAD HAN
 have HTA := Lib.hid hta
 clear B34 u0 u1 u2 u3 u4 u5 u6 hyo hgi hta
 have hat : W.at_ addr = si := by unfold Wm.at_; rw [HSI.out.1]; exact Int.toNat_natCast si
 have hgy : W.ways.getD si way0 = y := by rw [List.getD_eq_getElem?_getD, HY.out.1]; rfl
 have HSND := Lib.hid (show W.send c (addr, L) = if y.kind = 2 then { W with sent := W.sent + 1 } else { W with sent := W.sent + 1, under := W.under ++ [⟨satAdd W.g.t (y.there + y.stay + y.back), W.g.t, si, y.ans c (satAdd W.g.t y.there)⟩] } from by
  unfold Wm.send
  simp only [hat, hgy])
 have HC4 := Lib.hid (((HC3.out.mono (S' := WAll b B) (fun i _ e => .inl (.inl e))).trans (HCA.out.mono (fun _ _ h => h.elim))))
 clear hat hgy
 by_cases hk : y.kind = 2
 ·simp only [if_pos hk] at HAN HSND
  clear hk
  refine wp_region_noPanic ?_
  refine wp_region_till (s := 11) (S := (fun w' => w'.cell? ⟨p5, 0, none⟩ = some (.int .i64 y.kind) ∧ w'.cell? ⟨p5, 1, none⟩ = some (.int .i64 y.there) ∧ w'.cell? ⟨p5, 2, none⟩ = some (.int .i64 y.stay) ∧ w'.cell? ⟨p5, 3, none⟩ = some (.int .i64 y.back) ∧ w'.cell? ⟨p5, 4, none⟩ = some (.int .i64 y.err) ∧ w'.cell? ⟨p5, 5, none⟩ = some (.int .u64 y.lie) ∧ w'.cell? ⟨p3, 1, none⟩ = some (.slice (some a) 48 cap))) (by kernel_rfl) ?_
  have hHeld := HS5.out W4.drew (Chg.drew (Chg.refl _ _))
  refine wL 0 36 _ (fun _ => hHeld) ?_
  refine wP 1 37 _ (fun _ => hHeld) ?_
  refine wL 2 38 _ (fun _ => hHeld) ?_
  refine wP 3 39 _ (fun _ => hHeld) ?_
  refine wP 4 40 _ (fun _ => hHeld) ?_
  refine wL 5 41 _ (fun _ => hHeld) ?_
  refine wpTill_one (i := 6) (oi := ⟨some 42, _, _, _, _, _⟩) rfl (by kernel_rfl) (fun KK hKK => ?_)
  go_simp
  refine (HAD.out _).mono ?_
  rintro e wt ⟨rfl, hwt⟩
  rw [← hwt]
  clear hwt wt
  refine hKK _ _ (andS (HS5.out _ kC) (fun hHeld' => ?_))
  clear hKK KK
  try simp only [Act.put, qA, qB, qC]
  refine wpTill_one (i := 7) (oi := ⟨some 43, _, _, _, _, _⟩) rfl (by kernel_rfl) (fun KK hKK => ?_)
  go_simp
  refine (HAN.out _ kC).mono ?_
  rintro e w6 ⟨rfl, c6⟩
  have cT : Chg (fun _ => False) W4 w6 := Chg.trans kC c6
  refine hKK _ _ (andS (HS5.out _ kC) (fun hHeld'' => ?_))
  clear hKK KK
  try simp only [Act.put, qA, qB, qC]
  refine wP 8 35 _ (fun _ => hHeld'') ?_
  refine wP 9 44 _ (fun _ => hHeld'') ?_
  refine wP 10 45 _ (fun _ => hHeld'') ?_
  refine wpTill_one (i := 11) (oi := ⟨some 7, _, _, _, _, _⟩) rfl (by kernel_rfl) (fun KK hKK => ?_)
  go_simp
  refine hKK _ _ ⟨(fun h => (by simp at h)), ?_⟩
  clear hKK KK
  try simp only [Act.put, qA, qB, qC]
  refine wP 12 8 _ (fun h => (by simp at h)) ?_
  refine wpTill_done (by kernel_rfl) ?_
  refine NoPanic.normal ?_
  have hcf := HW4.out.chg0 cT
  have hcw := HC4.out.trans (cT.mono (fun _ _ h => h.elim))
  have hsz := hcw.size
  go_wp2_with fail
  refine bodyPost_ret (v := .tuple #[]) (by simp [results, Tryz.results44, go_sem]) rfl ?_
  have hsd := HSND.out
  rw [← HSE.out] at hsd
  rw [← hsd] at hcf
  exact ⟨rfl, ⟨B, hcf, fun i hi => .inl hi⟩, hcw⟩
 ·simp only [if_neg hk] at HAN HSND
  clear hk
  refine wp_region_noPanic ?_
  refine wp_region_till (s := 11) (S := (fun w' => w'.cell? ⟨p5, 0, none⟩ = some (.int .i64 y.kind) ∧ w'.cell? ⟨p5, 1, none⟩ = some (.int .i64 y.there) ∧ w'.cell? ⟨p5, 2, none⟩ = some (.int .i64 y.stay) ∧ w'.cell? ⟨p5, 3, none⟩ = some (.int .i64 y.back) ∧ w'.cell? ⟨p5, 4, none⟩ = some (.int .i64 y.err) ∧ w'.cell? ⟨p5, 5, none⟩ = some (.int .u64 y.lie) ∧ w'.cell? ⟨p3, 1, none⟩ = some (.slice (some a) 48 cap))) (by kernel_rfl) ?_
  have hHeld := HS5.out W4.drew (Chg.drew (Chg.refl _ _))
  refine wL 0 36 _ (fun _ => hHeld) ?_
  refine wP 1 37 _ (fun _ => hHeld) ?_
  refine wL 2 38 _ (fun _ => hHeld) ?_
  refine wP 3 39 _ (fun _ => hHeld) ?_
  refine wP 4 40 _ (fun _ => hHeld) ?_
  refine wL 5 41 _ (fun _ => hHeld) ?_
  refine wpTill_one (i := 6) (oi := ⟨some 42, _, _, _, _, _⟩) rfl (by kernel_rfl) (fun KK hKK => ?_)
  go_simp
  refine (HAD.out _).mono ?_
  rintro e wt ⟨rfl, hwt⟩
  rw [← hwt]
  clear hwt wt
  refine hKK _ _ (andS (HS5.out _ kC) (fun hHeld' => ?_))
  clear hKK KK
  try simp only [Act.put, qA, qB, qC]
  refine wpTill_one (i := 7) (oi := ⟨some 43, _, _, _, _, _⟩) rfl (by kernel_rfl) (fun KK hKK => ?_)
  go_simp
  refine (HAN.out _ kC).mono ?_
  rintro e w6 ⟨v, vg, rfl, by6⟩
  have cT : Chg (fun _ => False) W4 w6 := Chg.trans kC by6.c
  refine hKK _ _ (andS (HS5.out _ kC) (fun hHeld'' => ?_))
  clear hKK KK
  try simp only [Act.put, qA, qB, qC]
  refine wP 8 35 _ (fun _ => hHeld'') ?_
  refine wP 9 44 _ (fun _ => hHeld'') ?_
  refine wP 10 45 _ (fun _ => hHeld'') ?_
  refine wpTill_one (i := 11) (oi := ⟨some 7, _, _, _, _, _⟩) rfl (by kernel_rfl) (fun KK hKK => ?_)
  go_simp
  refine hKK _ _ ⟨(fun h => (by simp at h)), ?_⟩
  clear hKK KK
  try simp only [Act.put, qA, qB, qC]
  refine wP 12 8 _ (fun h => (by simp at h)) ?_
  refine wpTill_done (by kernel_rfl) ?_
  refine NoPanic.normal ?_
  obtain ⟨xk, hxk⟩ := by6.o.pos (by rw [List.length_map, ans_len]; omega)
  have hxo := by6.o
  rw [hxk] at hxo
  obtain ⟨xcap, rfl, hx1, hx2⟩ := hxo.some_form
  rw [List.length_map, ans_len] at hx1
  have HBY := Lib.hid by6
  have HXO := Lib.hid hxo
  have HCT := Lib.hid cT
  have hW6 := HW4.out.chg0 cT
  have B56 := HB5.out.chg cT id
  have q4 := hW6.box.cell 4
  have u0 := B56.cell 0
  have u1 := B56.cell 1
  have u2 := B56.cell 2
  have u3 := B56.cell 3
  have u4 := B56.cell 4
  have u5 := B56.cell 5
  simp [wmc] at q4 u0 u1 u2 u3 u4 u5
  obtain ⟨uv, huv⟩ : ∃ uv, uv = B.uv := ⟨_, rfl⟩
  obtain ⟨ug, hug⟩ : ∃ ug, ug = B.ug := ⟨_, rfl⟩
  obtain ⟨EL, hEL⟩ : ∃ EL, EL = B.M.map mac := ⟨_, rfl⟩
  have hU := hW6.und
  rw [← huv, ← hug, ← hEL] at hU
  rw [← huv] at q4
  have n1 : ¬ ug = some b := fun e => by obtain ⟨_, h'⟩ := hU.blk e; exact absurd (blk_typ h' hW6.box) (by decide)
  have n5 : ¬ ug = some p5 := fun e => by obtain ⟨_, h'⟩ := hU.blk e; exact absurd (blk_typ h' B56) (by decide)
  have HS7 := Lib.hid (fun W' (hW : Chg (fun i => ug = some i) w6 W') => (⟨hW.keep q4 n1, hW.keep u0 n5, hW.keep u1 n5, hW.keep u2 n5, hW.keep u3 n5, hW.keep u4 n5, hW.keep u5 n5⟩ : W'.cell? ⟨b, 4, none⟩ = some uv ∧ W'.cell? ⟨p5, 0, none⟩ = some (.int .i64 y.kind) ∧ W'.cell? ⟨p5, 1, none⟩ = some (.int .i64 y.there) ∧ W'.cell? ⟨p5, 2, none⟩ = some (.int .i64 y.stay) ∧ W'.cell? ⟨p5, 3, none⟩ = some (.int .i64 y.back) ∧ W'.cell? ⟨p5, 4, none⟩ = some (.int .i64 y.err) ∧ W'.cell? ⟨p5, 5, none⟩ = some (.int .u64 y.lie)))
  have hml : B.M.length = W.under.length := by rw [← HWA.out.mu, List.length_map]
  have HEL := Lib.hid (And.intro hEL (show EL.length + 1 ≤ 1000001 by rw [hEL, List.length_map]; omega))
  have HU := Lib.hid hU
  have HNB := Lib.hid n1
  have HUU := Lib.hid (And.intro huv hug)
  have hyo := HY.out.2.1
  have hgi : In64 gt := by have := HWA.out.gok.t; have h2 := HGT.out; exact ⟨by omega, by omega⟩
  have HTK := Lib.hid (fun W' => took81 y W' hyo)
  unfold wayc at HTK
  have HA2 := Lib.hid (fun W' => add80 gt (y.there + y.stay + y.back) hgi (by have h1 := hyo.there; have h2 := hyo.stay; have h3 := hyo.back; exact ⟨by omega, by omega⟩) W')
  obtain ⟨at9, hat9⟩ : ∃ t, t = satAdd gt (y.there + y.stay + y.back) := ⟨_, rfl⟩
  rw [← hat9] at HA2
  have HAT := Lib.hid hat9
  obtain ⟨i0, hi1, hi2, hi3, hi4⟩ := info_parts info118
  have HW6 := Lib.hid hW6
  simp only [List.length_map, ans_len]
  clear by6 hxo cT hW6 B56 q4 u0 u1 u2 u3 u4 u5 huv hug hEL hU n1 n5 hml hyo hgi hat9
  go_upto_region 7 with (fail)
  refine wp_region_noPanic ?_
  refine wp_region_till (s := 17) (S := (fun w' => w'.cell? ⟨b, 4, none⟩ = some uv ∧ w'.cell? ⟨p5, 0, none⟩ = some (.int .i64 y.kind) ∧ w'.cell? ⟨p5, 1, none⟩ = some (.int .i64 y.there) ∧ w'.cell? ⟨p5, 2, none⟩ = some (.int .i64 y.stay) ∧ w'.cell? ⟨p5, 3, none⟩ = some (.int .i64 y.back) ∧ w'.cell? ⟨p5, 4, none⟩ = some (.int .i64 y.err) ∧ w'.cell? ⟨p5, 5, none⟩ = some (.int .u64 y.lie))) (by kernel_rfl) ?_
  have hHeld := HS7.out w6.drew (Chg.drew (Chg.refl _ _))
  refine wP 0 47 _ (fun _ => hHeld) ?_
  refine wP 1 48 _ (fun _ => hHeld) ?_
  refine wP 2 49 _ (fun _ => hHeld) ?_
  refine wP 3 50 _ (fun _ => hHeld) ?_
  refine wL 4 51 _ (fun _ => hHeld) ?_
  refine wP 5 52 _ (fun _ => hHeld) ?_
  refine wL 6 53 _ (fun _ => hHeld) ?_
  refine wP 9 56 _ (fun _ => hHeld) ?_
  refine wP 10 57 _ (fun _ => hHeld) ?_
  refine wP 11 58 _ (fun _ => hHeld) ?_
  refine wpTill_one (i := 7) (oi := ⟨some 54, _, _, _, _, _⟩) rfl (by kernel_rfl) (fun KK hKK => ?_)
  go_simp
  refine (HTK.out _).mono ?_
  rintro e w7 ⟨rfl, c7⟩
  have c7x : Chg (fun _ => False) w6 w7 := Chg.trans kC c7
  have c67 : Chg (fun i => ug = some i) w6 w7 := c7x.mono (fun _ _ h => h.elim)
  refine hKK _ _ (andS (HS7.out _ kC) (fun hHeld' => ?_))
  clear hKK KK
  try simp only [Act.put, qA, qB, qC]
  refine wpTill_one (i := 8) (oi := ⟨some 55, _, _, _, _, _⟩) rfl (by kernel_rfl) (fun KK hKK => ?_)
  go_simp
  refine (HA2.out _).mono ?_
  rintro e wt ⟨rfl, hwt⟩
  rw [← hwt]
  clear hwt wt
  refine hKK _ _ (andS (HS7.out _ kC) (fun hHeld'' => ?_))
  clear hKK KK
  try simp only [Act.put, qA, qB, qC]
  refine wP 12 59 _ (fun _ => hHeld'') ?_
  refine wpTill_one (i := 13) (oi := ⟨some 60, _, _, _, _, _⟩) rfl (by kernel_rfl) (fun KK hKK => ?_)
  go_simp
  refine hKK _ _ (andS (HS7.out _ kC) (fun hHeld''' => ?_))
  clear hKK KK
  try simp only [Act.put, qA, qB, qC]
  refine wpTill_one (i := 14) (oi := ⟨some 61, _, _, _, _, _⟩) rfl (by kernel_rfl) (fun KK hKK => ?_)
  refine step_appF (by rfl) (.tmp 51) (.tmp 60) 111 (by rfl) 118 i0 _ 4 48 Tryz.underlying111 hi1 hi2 hi3 hi4 rfl (by omega) uv ug EL (by rfl) ((HU.out.chg c7x (fun _ _ h => h)).chg (chg0_alloc _ _) (fun _ _ h => h)) _ _ [[.int .i64 at9, .int .i64 gt, .int .i64 si, .slice (some ⟨xk, 0, none⟩) 48 xcap]] 1 1 (by rfl) rfl (Blk.new _ _ _) (by simp) (by simp [Value.oneCell']) (by simp) (by have := HEL.out.2; simp; omega) (by have := HEL.out.2; simp [maxLen]; omega) ?_
  intro k1 off1 cap1 v1 ho1 hch1 hk1
  have c17 : Chg (fun i => ug = some i) w6 v1 := Chg.trans kC hch1
  have D1 := HW6.out.box.chg c17 HNB.out
  have f4 := D1.frozen 4
  refine hKK _ _ (andS (HS7.out _ kC) (fun hHeld'''' => ?_))
  clear hKK KK
  try simp only [Act.put, qA, qB, qC]
  refine wP 15 62 _ (fun _ => hHeld'''') ?_
  refine wP 16 63 _ (fun _ => hHeld'''') ?_
  refine wpTill_one (i := 17) (oi := ⟨none, _, _, _, _, _⟩) rfl (by kernel_rfl) (fun KK hKK => ?_)
  go_simp
  refine hKK _ _ ⟨(fun h => (by simp at h)), ?_⟩
  clear hKK KK
  try simp only [Act.put, qA, qB, qC]
  refine wpTill_done (by kernel_rfl) ?_
  refine NoPanic.normal ?_
  have hvv := HUU.out.1
  have hvg := HUU.out.2
  have hEE := HEL.out.1
  have hk1' : ug = some k1 ∨ w6.heap.size ≤ k1 := hk1.imp id (fun h => Nat.le_trans c7x.size (Nat.le_trans (by simp) h))
  have cS : Chg (fun i => i = b) v1 (v1.setCell ⟨b, 4, none⟩ (.slice (some ⟨k1, off1, none⟩) (EL.length + 1) cap1)) := (Chg.refl (fun i => i = b) v1).setCell (p := ⟨b, 4, none⟩) (fun _ => rfl) _
  have A1 := D1.set_ 4 (.slice (some ⟨k1, off1, none⟩) (EL.length + 1) cap1)
  have A2 := ho1.chg cS (fun k hk e => by
   obtain ⟨_, h'⟩ := ho1.blk hk
   have e' : k = b := e
   rw [e'] at h'
   exact absurd (blk_typ h' D1) (by decide))
  have CX : Chg (fun i => i = b ∨ B.ug = some i) w6 (v1.setCell ⟨b, 4, none⟩ (.slice (some ⟨k1, off1, none⟩) (EL.length + 1) cap1)) := by
   rw [← hvg]
   exact (c17.mono (fun _ _ h => .inr h)).trans (cS.mono (fun _ _ h => .inl h))
  obtain ⟨_, hxb⟩ := HXO.out.blk rfl
  have nx : ¬ (xk = b ∨ B.ug = some xk) := by
   rintro (e | e)
   ·rw [e] at hxb; exact absurd (blk_typ hxb HW6.out.box) (by decide)
   ·obtain ⟨_, h'⟩ := HW6.out.und.blk e
    exact absurd (blk_typ hxb h') (by decide)
  have hXO : Owns (v1.setCell ⟨b, 4, none⟩ (.slice (some ⟨k1, off1, none⟩) (EL.length + 1) cap1)) 5 1 (.slice (some ⟨xk, 0, none⟩) 48 xcap) (some xk) ((y.ans c ta).map u8c) := by
   have := HXO.out.chg CX (fun k hk => by cases hk; exact nx)
   rw [List.length_map, ans_len] at this
   exact this
  have hxX := hXO.blk rfl
  have hxOk : (⟨⟨at9, gt, si, y.ans c ta⟩, xk, xcap⟩ : MA).Ok W.d.cfg.servers.length (v1.setCell ⟨b, 4, none⟩ (.slice (some ⟨k1, off1, none⟩) (EL.length + 1) cap1)) := by
   refine ⟨?_, ans_in y c ta, hsi, ?_, ?_⟩
   ·show Owns _ 5 1 (.slice (some ⟨xk, 0, none⟩) (y.ans c ta).length xcap) (some xk) _
    rw [ans_len]; exact hXO
   ·show In64 at9; rw [HAT.out]; exact satAdd_in _ _
   ·show In64 gt; have := HWA.out.gok.t; have h2 := HGT.out; exact ⟨by omega, by omega⟩
  have hnn := HBY.out.n
  have hxge : W4.heap.size ≤ xk := hnn xk hxk
  have WX := HW6.out.under1 hxOk (fun hd => by have := HW4.out.d.lt hd; have h2 : xk < W4.heap.size := this; omega) (fun e => by
   obtain ⟨_, h1⟩ := hxX
   obtain ⟨_, h2⟩ := A2.blk (k := k1) rfl
   have e' : k1 = xk := e
   rw [← e'] at h1
   exact absurd (blk_typ h1 h2) (by decide)) (fun e => nx (.inr e)) (by rw [← hvg]; exact hk1') (UV := .slice (some ⟨k1, off1, none⟩) (EL.length + 1) cap1) (by simpa [wmc] using A1) (by rw [← hEE]; simpa [mac, ans_len] using A2) CX
  have hcw := (HC4.out.trans (HCT.out.mono (fun _ _ h => h.elim))).trans (CX.mono (S' := WAll b B) (fun i _ e => by
   rcases e with e | e
   ·exact .inl (.inl e)
   ·exact .inl (by unfold WBk; simp [e])))
  have hz1 := HC4.out.size
  have hz2 := HCT.out.size
  refine bodyPost_ret (v := .tuple #[]) (by simp [results, Tryz.results44, go_sem]) rfl ?_
  have hsd := HSND.out
  rw [← HSE.out, ← HGT.out, ← HTA.out, ← HAT.out] at hsd
  rw [← hsd] at WX
  refine ⟨rfl, ⟨_, WX, fun i hi => ?_⟩, hcw⟩
  rcases hi with hi | hi
  ·unfold WBk at hi
   simp only at hi
   rcases hi with hi | hi | hi | hi | hi | ⟨y', hy, hi⟩ | hi | hi | hi
   ·exact .inl (.inl (.inl hi))
   ·exact .inl (.inl (.inr (.inl hi)))
   ·exact .inl (.inl (by unfold WBk; simp [hi]))
   ·exact .inl (.inl (by unfold WBk; simp [hi]))
   ·cases hi
    rcases hk1' with e | e
    ·rw [hvg] at e; exact .inl (.inl (by unfold WBk; simp [e]))
    ·exact .inr (by omega)
   ·rcases List.mem_append.1 hy with hy | hy
    ·exact .inl (.inl (.inr (.inr (.inr (.inr (.inr (.inl ⟨y', hy, hi⟩)))))))
    ·rw [List.mem_singleton.1 hy] at hi
     have hi' : xk = i := hi
     exact .inr (by omega)
   ·exact .inl (.inl (by unfold WBk; simp [hi]))
   ·exact .inl (.inl (by unfold WBk; simp [hi]))
   ·exact .inl (.inl (.inr (.inr (.inr (.inr (.inr (.inr (.inr (.inr hi)))))))))
  ·exact .inl (.inr hi)
end
end Go.Proofs.YtamhicdhbjniiaaGreatDoor
