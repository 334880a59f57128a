/- world.Do: contract. -/
import Derived.Test.YtamhicdhbjniiaaGreatDoorM39
import Derived.Test.YtamhicdhbjniiaaGreatDoorM40
import Derived.Test.YtamhicdhbjniiaaGreatDoorM49
set_option linter.unusedVariables false
set_option maxHeartbeats 6400000
set_option maxRecDepth 100000
namespace Go.Proofs.YtamhicdhbjniiaaGreatDoor
section
open Go Go.RowKit Go.Chron
structure DoPost (N : Nat) (w : World) (b : Nat) (W : Wm) (B : WB) (dt dh dr : Int) (e : Ending) (w' : World) : Prop where
 e : e = .returned (.int .i64 0)
 ex : ∃ us B', us.Perm W.under ∧ WAt (N + 5 * W.under.length + 3) w' b (W.step us dt dh dr) B' ∧ (∀ i, WAll b B' i → WAll b B i ∨ w.heap.size ≤ i)
 c : Chg (WAll b B) w w'
def Wm.mid (W : Wm) (dt dh : Int) (done rest : List Ans) : Wm := { done.foldl Wm.come { W with g := W.g.step dt dh, under := [] } with under := rest }
theorem mid_snoc (W : Wm) (dt dh : Int) (done rest : List Ans) (a : Ans) : ({ W.mid dt dh done (a :: rest) with under := rest } : Wm).come a = W.mid dt dh (done ++ [a]) rest := by
 unfold Wm.mid
 rw [List.foldl_append]
 exact come_under (done.foldl Wm.come { W with g := W.g.step dt dh, under := [] }) rest a
theorem mid_proj (W : Wm) (dt dh : Int) (done rest : List Ans) : (W.mid dt dh done rest).g = W.g.step dt dh ∧ (W.mid dt dh done rest).d.cfg = W.d.cfg ∧ (W.mid dt dh done rest).under = rest ∧ (W.mid dt dh done rest).sent = W.sent := by
 obtain ⟨h1, h2, h3, h4, h5⟩ := foldl_come_keeps done { W with g := W.g.step dt dh, under := [] }
 exact ⟨h2, h5, rfl, h4⟩
theorem mid_nil (W : Wm) (dt dh : Int) (done : List Ans) : W.mid dt dh done [] = done.foldl Wm.come { W with g := W.g.step dt dh, under := [] } := by
 have h1 := (foldl_come_keeps done { W with g := W.g.step dt dh, under := [] }).1
 unfold Wm.mid
 have : ∀ V : Wm, V.under = [] → ({ V with under := [] } : Wm) = V := fun V hV => by cases V; cases hV; rfl
 exact this _ h1
structure MidAt (N : Nat) (w0 : World) (b : Nat) (W : Wm) (B : WB) (dt dh : Int) (w : World) : Prop where
 ex : ∃ done rest B1, (done ++ rest).Perm W.under ∧ WAt (N + 5 * done.length) w b (W.mid dt dh done rest) B1 ∧ (∀ i, WAll b B1 i → WAll b B i ∨ w0.heap.size ≤ i)
 c : Chg (WAll b B) w0 w
structure Tk (M : Nat) (w0 : World) (db : Nat) (D : DB) (d' : Dm) (l : List (Int × List Int)) (p : Nat) (va : Option Addr) (vl vc : Nat) (wx : World) : Prop where
 c : wx.cell? ⟨p, 0, none⟩ = some (.slice va vl vc)
 ex : ∃ D', DAt M wx db d' D' ∧ ∀ j, DBk db D' j → DBk db D j ∨ w0.heap.size ≤ j
 ch : Chg (DBk db D) w0 wx
 se : ∃ g vs, SendsAt w0 wx (.slice va vl vc) g l vs
theorem tkSet {M : Nat} {w0 wX w9 : World} {p db : Nat} {D D' : DB} {d' : Dm} {l : List (Int × List Int)} {g : Option Nat} {vs : List (Value × Option Nat)} {va : Option Addr} {vl vc : Nat} {a0 a1 a2 a3 v1 v2 v3 : Value} (d9 : DAt M w9 db d' D') (f9 : ∀ j, DBk db D' j → DBk db D j ∨ p + 1 ≤ j)
  (hp : w0.heap.size ≤ p) (hl : ∀ j, DBk db D j → j < p) (cT : Chg (DBk db D) w0 w9) (N9 : Blk w9 p 74 #[a0, a1, a2, a3]) (S9 : SendsAt wX w9 (.slice va vl vc) g l vs) (hX : p + 1 ≤ wX.heap.size) :
  Tk M w0 db D d' l p va vl vc ((((w9.setCell ⟨p, 0, none⟩ (.slice va vl vc)).setCell ⟨p, 1, none⟩ v1).setCell ⟨p, 2, none⟩ v2).setCell ⟨p, 3, none⟩ v3) := by
 have B := (((N9.set_ 0 (.slice va vl vc)).set_ 1 v1).set_ 2 v2).set_ 3 v3
 have q := B.cell 0
 simp at q
 obtain ⟨_, k2, k3⟩ := comeSet (v0 := .slice va vl vc) (v1 := v1) (v2 := v2) (v3 := v3) d9 f9 hp hl cT N9
 have c : Chg (fun i => i = p) w9 ((((w9.setCell ⟨p, 0, none⟩ (.slice va vl vc)).setCell ⟨p, 1, none⟩ v1).setCell ⟨p, 2, none⟩ v2).setCell ⟨p, 3, none⟩ v3) := ((((Chg.refl (fun i => i = p) w9).setCell (p := ⟨p, 0, none⟩) (fun _ => rfl) _).setCell (p := ⟨p, 1, none⟩) (fun _ => rfl) v1).setCell (p := ⟨p, 2, none⟩) (fun _ => rfl) v2).setCell (p := ⟨p, 3, none⟩) (fun _ => rfl) v3
 exact ⟨q, ⟨D', k2, fun j hj => (f9 j hj).imp id (fun h => by omega)⟩, k3, g, vs, (S9.chg c (fun k hk _ e => by have e' : k = p := e; omega)).base (by omega)⟩
theorem tkNew {M : Nat} {w0 wX w9 : World} {db : Nat} {D D' : DB} {d' : Dm} {l : List (Int × List Int)} {g : Option Nat} {vs : List (Value × Option Nat)} {va : Option Addr} {vl vc : Nat} {v1 v2 v3 : Value} (d9 : DAt M w9 db d' D') (f9 : ∀ j, DBk db D' j → DBk db D j ∨ w0.heap.size ≤ j)
  (cT : Chg (DBk db D) w0 w9) (S9 : SendsAt wX w9 (.slice va vl vc) g l vs) (hX : w0.heap.size ≤ wX.heap.size) :
  Tk M w0 db D d' l w9.heap.size va vl vc (w9.alloc (Obj.cells #[.slice va vl vc, v1, v2, v3] 74)) := by
 have q := (Blk.new w9 74 #[.slice va vl vc, v1, v2, v3]).cell 0
 exact ⟨q, ⟨D', d9.chg0 (chg0_alloc _ _), f9⟩, cT.alloc _, g, vs, (S9.chg0 (chg0_alloc _ _)).base hX⟩
theorem send_keeps (c : Int) (V : Wm) (s : Int × List Int) : (V.send c s).d = V.d ∧ (V.send c s).g = V.g ∧ (V.send c s).sent = V.sent + 1 ∧ (V.send c s).under.length ≤ V.under.length + 1 := by
 unfold Wm.send
 simp only
 split
 ·exact ⟨rfl, rfl, rfl, Nat.le_succ _⟩
 ·refine ⟨rfl, rfl, rfl, ?_⟩
  show (V.under ++ [_]).length ≤ _
  simp
theorem sends_keep (c : Int) : ∀ (l : List (Int × List Int)) (V : Wm), (l.foldl (Wm.send c) V).d = V.d ∧ (l.foldl (Wm.send c) V).g = V.g ∧ (l.foldl (Wm.send c) V).sent = V.sent + l.length ∧ (l.foldl (Wm.send c) V).under.length ≤ V.under.length + l.length
 | [], V => ⟨rfl, rfl, by simp, by simp⟩
 | s :: l, V => by
  obtain ⟨h1, h2, h3, h4⟩ := sends_keep c l (V.send c s)
  obtain ⟨g1, g2, g3, g4⟩ := send_keeps c V s
  exact ⟨h1.trans g1, h2.trans g2, by rw [List.foldl_cons, h3, g3, List.length_cons]; omega, by rw [List.foldl_cons, List.length_cons]; omega⟩
structure SentAt (N : Nat) (w0 : World) (b : Nat) (B : WB) (c : Int) (V : Wm) (l : List (Int × List Int)) (j : Nat) (w : World) : Prop where
 ex : ∃ B1, WAt N w b ((l.take j).foldl (Wm.send c) V) B1 ∧ ∀ i, WAll b B1 i → WAll b B i ∨ w0.heap.size ≤ i
 c : Chg (WAll b B) w0 w
theorem do16 {N : Nat} {b : Nat} {W : Wm} {B : WB} {w : World} (h : WAt N w b W B) {dt dh dr : Int} (hs : StepOk W.g dt dh) (hdr : 0 ≤ dr ∧ dr < 18446744073709551616) (hu : W.under.length < 20) (hall : ∀ a ∈ W.under, a.at_ ≤ W.g.t + dt) (hN : N + 5 * W.under.length + 3 ≤ 185000) :
    Calls Tryz.prog 16 #[.pointer (some ⟨b, 0, none⟩), .agg #[.int .i64 dt, .int .i64 dh, .int .u64 dr]] w (DoPost N w b W B dt dh dr) := by
  have HWA := Lib.hid h
  have cB := chg0_alloc w (Obj.cells #[.int .i64 dt, .int .i64 dh, .int .u64 dr] 56)
  have B3 := Blk.new w 56 #[.int .i64 dt, .int .i64 dh, .int .u64 dr]
  have hW0 := h.chg0 cB
  have hlt : ∀ i, WAll b B i → i < w.heap.size := fun i hi => h.lt hi
  have HLTW := Lib.hid hlt
  have HCB := Lib.hid cB
  have HSZ := Lib.hid (show (w.alloc (Obj.cells #[.int .i64 dt, .int .i64 dh, .int .u64 dr] 56)).heap.size = w.heap.size + 1 from by simp)
  obtain ⟨p3, hp3⟩ : ∃ p, p = w.heap.size := ⟨_, rfl⟩
  rw [← hp3] at B3
  have HP3 := Lib.hid hp3
  have HST := Lib.hid hs
  have HU := Lib.hid hu
  have HALL := Lib.hid hall
  have HN := Lib.hid hN
  have HDR := Lib.hid hdr
  clear h hlt cB hp3 hs hu hall hN hdr
  go_enter Tryz.func16, Tryz.ntmps16
  go_upto_region 3 with (fail)
  rw [← HP3.out]
  generalize hw0 : w.alloc (Obj.cells #[.int .i64 dt, .int .i64 dh, .int .u64 dr] 56) = w0 at *
  have HW00 := Lib.hid hw0
  clear hw0
  have q1 := hW0.box.cell 1
  have q2 := B3.cell 0
  have q3 := B3.cell 1
  simp [wmc] at q1 q2 q3
  have HS3 := Lib.hid (fun W' (hW : Chg (fun _ => False) w0 W') => (⟨hW.keep q1 (fun h => h), hW.keep q2 (fun h => h), hW.keep q3 (fun h => h)⟩ : W'.cell? ⟨b, 1, none⟩ = some (.pointer (some ⟨B.gb, 0, none⟩)) ∧ W'.cell? ⟨p3, 0, none⟩ = some (.int .i64 dt) ∧ W'.cell? ⟨p3, 1, none⟩ = some (.int .i64 dh)))
  have HW0 := Lib.hid hW0
  have HB3 := Lib.hid B3
  have HST3 := Lib.hid (fun W' (hW : Chg (fun _ => False) w0 W') => step38 B.gb W.g dt dh W' (HW0.out.g.chg hW (fun h => h)) HW0.out.gok HST.out)
  clear hW0 B3 q1 q2 q3
  refine wp_region_noPanic ?_
  refine wp_region_till (s := 8) (S := fun w' => w'.cell? ⟨b, 1, none⟩ = some (.pointer (some ⟨B.gb, 0, none⟩)) ∧ w'.cell? ⟨p3, 0, none⟩ = some (.int .i64 dt) ∧ w'.cell? ⟨p3, 1, none⟩ = some (.int .i64 dh)) (by kernel_rfl) ?_
  have hHeld := HS3.out w0.drew (Chg.drew (Chg.refl _ _))
  refine wP 0 13 _ (fun _ => hHeld) ?_
  refine wP 1 14 _ (fun _ => hHeld) ?_
  refine wP 2 15 _ (fun _ => hHeld) ?_
  refine wL 3 16 _ (fun _ => hHeld) ?_
  refine wP 4 17 _ (fun _ => hHeld) ?_
  refine wL 5 18 _ (fun _ => hHeld) ?_
  refine wP 6 19 _ (fun _ => hHeld) ?_
  refine wL 7 20 _ (fun _ => hHeld) ?_
  refine wpTill_one (i := 8) (oi := ⟨some 21, _, _, _, _, _⟩) rfl (by kernel_rfl) (fun KK hKK => ?_)
  go_simp
  refine (HST3.out _ kC).mono ?_
  rintro e wt ⟨rfl, gx, cx⟩
  have cT : Chg (fun i => i = B.gb) w0 wt := Chg.trans kC cx
  refine hKK _ _ ⟨(fun h => (by simp at h)), ?_⟩
  clear hKK KK
  try simp only [Act.put, qA, qB, qC]
  refine wP 9 5 _ (fun h => (by simp at h)) ?_
  refine wpTill_done (by kernel_rfl) ?_
  refine NoPanic.normal ?_
  clear cx HST3 HS3
  obtain ⟨w1, hw1⟩ : ∃ w1, w1 = wt := ⟨_, rfl⟩
  rw [← hw1]
  rw [← hw1] at gx cT
  clear hw1 wt hHeld
  have G1 := gx
  have c1 := cT
  clear gx cT
  have nb : ∀ {i : Nat} {t : TypeId} {cs : Array Value}, Blk w0 i t cs → t ≠ 174 → ¬ i = B.gb := fun hb ht e => by subst e; exact ht (blk_typ hb HW0.out.g)
  have X1 := HW0.out.box.chg c1 (nb HW0.out.box (by decide))
  have O1 := HW0.out.und.chg c1 (fun k hk => by obtain ⟨_, h'⟩ := HW0.out.und.blk hk; exact nb h' (by decide))
  have q4 := X1.cell 4
  simp [wmc] at q4
  have HSO := Lib.hid (sort39 KM B.uv B.ug B.M w1 O1 (by have := HU.out; rw [← HWA.out.mu, List.length_map] at this; exact this))
  have HG1 := Lib.hid G1
  have HC1 := Lib.hid c1
  have HX1 := Lib.hid X1
  clear G1 c1 X1 O1
  go_wp2_with fail
  refine HSO.out.mono ?_
  rintro e w2 ⟨rfl, ⟨M', hp, ho⟩, c2⟩
  have hmid : MidAt N w0 b W B dt dh w2 := by
    have cc : Chg (fun i => i = b ∨ i = B.gb ∨ B.ug = some i) w0 w2 := Chg.trans (HC1.out.mono (fun _ _ h => .inr (.inl h))) (c2.mono (fun _ _ h => .inr (.inr h)))
    have nu : ∀ {i : Nat} {t : TypeId} {cs : Array Value}, Blk w1 i t cs → t ≠ 118 → ¬ B.ug = some i := fun hb ht e => by
      obtain ⟨_, h'⟩ := (HW0.out.und.chg HC1.out (fun k hk => by obtain ⟨_, h'⟩ := HW0.out.und.blk hk; exact nb h' (by decide))).blk e
      exact ht (blk_typ hb h')
    have R := HW0.out.redo (UV := B.uv) (M' := M') (HX1.out.chg c2 (nu HX1.out (by decide))) (HG1.out.chg c2 (nu HG1.out (by decide))) (Gh.step_ok HW0.out.gok HST.out) (by have := HW0.out.h; have := HST.out.fh; show W.d.h ≤ W.g.h + dh; omega) ho (fun x hx => hp.subset hx) cc
    refine ⟨⟨[], M'.map (·.a), _, ?_, (show WAt (N + 5 * ([] : List Ans).length) w2 b (W.mid dt dh [] (M'.map (·.a))) _ from R), ?_⟩, ?_⟩
    · rw [List.nil_append, ← HW0.out.mu]; exact hp.map _
    · intro i hi
      left
      rcases hi with hi | hi
      · left
        unfold WBk at hi ⊢
        simp only at hi
        rcases hi with hi | hi | hi | hi | hi | ⟨y, hy, hi⟩ | hi | hi | hi
        · exact .inl hi
        · exact .inr (.inl hi)
        · exact .inr (.inr (.inl hi))
        · exact .inr (.inr (.inr (.inl hi)))
        · exact .inr (.inr (.inr (.inr (.inl hi))))
        · exact .inr (.inr (.inr (.inr (.inr (.inl ⟨y, hp.subset hy, hi⟩)))))
        · exact .inr (.inr (.inr (.inr (.inr (.inr (.inl hi))))))
        · exact .inr (.inr (.inr (.inr (.inr (.inr (.inr (.inl hi)))))))
        · exact .inr (.inr (.inr (.inr (.inr (.inr (.inr (.inr hi)))))))
      · exact .inr hi
    · refine cc.mono (fun i _ hi => ?_)
      rcases hi with e | e | e
      · exact .inl (.inl e)
      · exact .inl (.inr (.inl e))
      · exact .inl (.inr (.inr (.inr (.inr (.inl e)))))
  have HMID := Lib.hid hmid
  clear hp ho c2 hmid HSO HG1 HC1 HX1 q4 nb
  go_wp2_with fail
  go_loopw [] (fun wr => MidAt N w0 b W B dt dh wr) (fun wr => lenAt wr b)
  case atStart => exact HMID.out
  case round =>
    obtain ⟨⟨done, rest, B1, hp1, h1, hf1⟩, c1⟩ := hrel
    clear HMID
    cases rest with
    | nil =>
      obtain ⟨hVg, hVc, hVu, hVs⟩ := mid_proj W dt dh done []
      have hM0 : B1.M = [] := by
        have := h1.mu
        rw [hVu] at this
        exact List.map_eq_nil_iff.1 this
      have hst : W.step done dt dh dr = (W.mid dt dh done []).ticked dr := by rw [mid_nil]; rfl
      rw [List.append_nil] at hp1
      have hdl : done.length = W.under.length := hp1.length_eq
      obtain ⟨a0, cap0, huv, _⟩ := h1.und.form
      rw [hM0] at huv
      have e0 : wr.cell? ⟨b, 4, none⟩ = some (.slice a0 0 cap0) := by have q := h1.box.cell 4; simp [wmc] at q; rw [q, huv]; rfl
      have q0 : wr.cell? ⟨b, 0, none⟩ = some (.pointer (some ⟨B1.db, 0, none⟩)) := by have q := h1.box.cell 0; simpa [wmc] using q
      have q1 : wr.cell? ⟨b, 1, none⟩ = some (.pointer (some ⟨B1.gb, 0, none⟩)) := by have q := h1.box.cell 1; simpa [wmc] using q
      have np3w : ¬ WAll b B p3 := fun hi => by have := HLTW.out _ hi; have := HP3.out; omega
      have q2 := (HB3.out.chg c1 np3w).cell 2
      simp at q2
      have np3 : ¬ DBk B1.db B1.D p3 := fun hi => by
        rcases hf1 p3 (.inr hi) with h | h
        · exact np3w h
        · have := HP3.out; have := HSZ.out; omega
      have nb : ¬ DBk B1.db B1.D b := h1.dis b (.inl rfl)
      generalize W.mid dt dh done [] = V at *
      have HS7 := Lib.hid (fun W' (hW : Chg (fun _ => False) wr W') => (hW.keep e0 (fun h => h) : W'.cell? ⟨b, 4, none⟩ = some (.slice a0 0 cap0)))
      have HS11 := Lib.hid (fun W' (hW : Chg (DBk B1.db B1.D) wr W') => (⟨hW.keep q0 nb, hW.keep q1 nb, hW.keep q2 np3⟩ : W'.cell? ⟨b, 0, none⟩ = some (.pointer (some ⟨B1.db, 0, none⟩)) ∧ W'.cell? ⟨b, 1, none⟩ = some (.pointer (some ⟨B1.gb, 0, none⟩)) ∧ W'.cell? ⟨p3, 2, none⟩ = some (.int .u64 dr)))
      have hgo := h1.gok.h
      have HDD := Lib.hid (fun W' (hW : Chg (fun _ => False) wr W') => doTick21 (N + 5 * done.length) B1.db V.d B1.D W' (h1.d.chg0 hW) (by have := HN.out; omega) V.g.h 0 dr (.slice none 0 0) h1.h (by omega) HDR.out)
      have HDR2 := Lib.hid h1.d.ok.draw
      have HG2 := Lib.hid h1.g
      have HLT := Lib.hid (fun i (hi : DBk B1.db B1.D i) => h1.d.lt hi)
      have HND := Lib.hid (show ¬ DBk B1.db B1.D wr.heap.size from fun hi => by have := HLT.out _ hi; omega)
      have HSO := Lib.hid (sends_of V.d V.g.h dr)
      have HSL := Lib.hid (sends_len V.d V.g.h dr)
      have hcc : (V.d.doTick V.g.h dr).1.cfg = V.d.cfg := rfl
      have hch : (V.d.doTick V.g.h dr).1.h = V.g.h := rfl
      have htk : V.ticked dr = (V.d.doTick V.g.h dr).2.foldl (Wm.send (V.d.drawn dr)) { V with d := (V.d.doTick V.g.h dr).1 } := rfl
      obtain ⟨d', hd'⟩ : ∃ d', d' = (V.d.doTick V.g.h dr).1 := ⟨_, rfl⟩
      obtain ⟨l, hl⟩ : ∃ l, l = (V.d.doTick V.g.h dr).2 := ⟨_, rfl⟩
      rw [← hd'] at hcc hch htk
      rw [← hl] at htk
      rw [← hl] at HSO HSL
      simp only [← hd', ← hl] at HDD
      obtain ⟨ck, hck⟩ : ∃ ck, ck = (V.d.clk.run V.g.h).c := ⟨_, rfl⟩
      obtain ⟨wk, hwk⟩ : ∃ wk, wk = d'.wake := ⟨_, rfl⟩
      simp only [← hck, ← hwk] at HDD
      obtain ⟨gh, hgh0⟩ : ∃ gh, gh = V.g.h := ⟨_, rfl⟩
      rw [← hgh0] at HDD
      have HGH := Lib.hid hgh0.symm
      have H1 := Lib.hid h1
      have HC1 := Lib.hid c1
      have HP1 := Lib.hid hp1
      have HF1 := Lib.hid hf1
      have HCFG := Lib.hid (And.intro hcc hch)
      have HTK := Lib.hid (hst.trans htk)
      have HV := Lib.hid (And.intro hVg (And.intro hVc (And.intro hVu hVs)))
      have HM0 := Lib.hid hM0
      have HDL := Lib.hid hdl
      clear h1 c1 hp1 hf1 hcc hch hst htk hVg hVc hVu hVs hM0 hdl hgh0 hck hwk hd' hl hgo e0 q0 q1 q2 np3 np3w nb huv
      go_upto_region 7 with (fail)
      go_cut [50] (fun s50 wx => s50 = .bool false ∧ wx = wr.drew)
      case first =>
        refine wp_region_noPanic ?_
        refine wp_region_till (s := 18) (S := fun w' => w'.cell? ⟨b, 4, none⟩ = some (.slice a0 0 cap0)) (by kernel_rfl) ?_
        have hHeld := HS7.out wr.drew (Chg.drew (Chg.refl _ _))
        refine wP 0 30 _ (fun _ => hHeld) ?_
        refine wP 1 31 _ (fun _ => hHeld) ?_
        refine wP 2 32 _ (fun _ => hHeld) ?_
        refine wpTill_one (i := 3) (oi := ⟨some 33, _, _, _, _, _⟩) rfl (by kernel_rfl) (fun KK hKK => ?_)
        go_simp
        refine hKK _ _ (andS (HS7.out _ kC) (fun hHeld' => ?_))
        clear hKK KK
        try simp only [Act.put, qA, qB, qC]
        refine wP 4 34 _ (fun _ => hHeld') ?_
        refine wP 5 35 _ (fun _ => hHeld') ?_
        refine wP 6 36 _ (fun _ => hHeld') ?_
        refine wpTill_pure (i := 7) (oi := ⟨some 37, _, _, _, _, _⟩) (v := undef) rfl rfl (by kernel_rfl) (by kernel_rfl) (by kernel_rfl) (by kernel_rfl) (fun _ _ _ h => h) (Or.inr ⟨by rfl, rfl⟩) (fun _ => hHeld') ?_
        try simp only [Act.put, qA, qB, qC]
        refine wpTill_pure (i := 8) (oi := ⟨some 38, _, _, _, _, _⟩) (v := undef) rfl rfl (by kernel_rfl) (by kernel_rfl) (by kernel_rfl) (by kernel_rfl) (fun _ _ _ h => h) (Or.inr ⟨by rfl, rfl⟩) (fun _ => hHeld') ?_
        try simp only [Act.put, qA, qB, qC]
        refine wpTill_pure (i := 9) (oi := ⟨some 39, _, _, _, _, _⟩) (v := undef) rfl rfl (by kernel_rfl) (by kernel_rfl) (by kernel_rfl) (by kernel_rfl) (fun _ _ _ h => h) (Or.inr ⟨by rfl, rfl⟩) (fun _ => hHeld') ?_
        try simp only [Act.put, qA, qB, qC]
        refine wpTill_pure (i := 14) (oi := ⟨some 44, _, _, _, _, _⟩) (v := undef) rfl rfl (by kernel_rfl) (by kernel_rfl) (by kernel_rfl) (by kernel_rfl) (fun _ _ _ h => h) (Or.inr ⟨by rfl, rfl⟩) (fun _ => hHeld') ?_
        try simp only [Act.put, qA, qB, qC]
        refine wpTill_pure (i := 15) (oi := ⟨some 45, _, _, _, _, _⟩) (v := undef) rfl rfl (by kernel_rfl) (by kernel_rfl) (by kernel_rfl) (by kernel_rfl) (fun _ _ _ h => h) (Or.inr ⟨by rfl, rfl⟩) (fun _ => hHeld') ?_
        try simp only [Act.put, qA, qB, qC]
        refine wpTill_pure (i := 16) (oi := ⟨some 46, _, _, _, _, _⟩) (v := undef) rfl rfl (by kernel_rfl) (by kernel_rfl) (by kernel_rfl) (by kernel_rfl) (fun _ _ _ h => h) (Or.inr ⟨by rfl, rfl⟩) (fun _ => hHeld') ?_
        try simp only [Act.put, qA, qB, qC]
        refine wpTill_load (i := 17) (oi := ⟨some 47, _, _, _, _, _⟩) (v := undef) rfl rfl (by kernel_rfl) (by kernel_rfl) (by kernel_rfl) (by kernel_rfl) (by kernel_rfl) (fun _ _ _ h => h) (Or.inr ⟨by rfl, rfl⟩) (fun _ => hHeld') ?_
        try simp only [Act.put, qA, qB, qC]
        refine wpTill_more [10, 18] (by kernel_rfl) (by simp) (TillAll.cons (i := 10) (oi := ⟨some 40, _, _, _, _, _⟩) rfl (fun KK hKK => ?_) (TillAll.cons (i := 18) (oi := ⟨some 48, _, _, _, _, _⟩) rfl (fun KK hKK => ?_) TillAll.nil))
        · go_simp
          refine hKK _ _ (andS (HS7.out _ kC) (fun hHeld'' => ?_))
          clear hKK KK
          try simp only [Act.put, qA, qB, qC]
          refine wpTill_pure (i := 11) (oi := ⟨some 41, _, _, _, _, _⟩) (v := undef) rfl rfl (by kernel_rfl) (by kernel_rfl) (by kernel_rfl) (by kernel_rfl) (fun _ _ _ h => h) (Or.inr ⟨by rfl, rfl⟩) (fun _ => hHeld'') ?_
          try simp only [Act.put, qA, qB, qC]
          refine wpTill_pure (i := 12) (oi := ⟨some 42, _, _, _, _, _⟩) (v := undef) rfl rfl (by kernel_rfl) (by kernel_rfl) (by kernel_rfl) (by kernel_rfl) (fun _ _ _ h => h) (Or.inr ⟨by rfl, rfl⟩) (fun _ => hHeld'') ?_
          try simp only [Act.put, qA, qB, qC]
          refine wpTill_more [13, 18] (by kernel_rfl) (by simp) (TillAll.cons (i := 13) (oi := ⟨some 43, _, _, _, _, _⟩) rfl (fun KK hKK => ?_) (TillAll.cons (i := 18) (oi := ⟨some 48, _, _, _, _, _⟩) rfl (fun KK hKK => ?_) TillAll.nil))
          · go_simp
            refine hKK _ _ (andS (HS7.out _ kC) (fun hHeld''' => ?_))
            clear hKK KK
            try simp only [Act.put, qA, qB, qC]
            refine wpTill_one (i := 18) (oi := ⟨some 48, _, _, _, _, _⟩) rfl (by kernel_rfl) (fun KK hKK => ?_)
            go_simp
            refine hKK _ _ ⟨(fun h => (by simp at h)), ?_⟩
            clear hKK KK
            try simp only [Act.put, qA, qB, qC]
            refine wpTill_pure (i := 19) (oi := ⟨some 49, _, _, _, _, _⟩) (v := undef) rfl rfl (by kernel_rfl) (by kernel_rfl) (by kernel_rfl) (by kernel_rfl) (fun _ _ _ h => h) (Or.inr ⟨by rfl, rfl⟩) (fun h => (by simp at h)) ?_
            try simp only [Act.put, qA, qB, qC]
            refine wP 20 50 _ (fun h => (by simp at h)) ?_
            refine wpTill_done (by kernel_rfl) ?_
            refine NoPanic.normal ?_
            go_wp2_with fail
            go_meet
            exact ⟨rfl, rfl⟩
          · go_simp
            refine hKK _ _ ⟨(fun h => (by simp at h)), ?_⟩
            clear hKK KK
            try simp only [Act.put, qA, qB, qC]
            refine wpTill_one (i := 13) (oi := ⟨some 43, _, _, _, _, _⟩) rfl (by kernel_rfl) (fun KK hKK => ?_)
            go_simp
            refine hKK _ _ ⟨(fun h => (by simp at h)), ?_⟩
            clear hKK KK
            try simp only [Act.put, qA, qB, qC]
            refine wpTill_pure (i := 19) (oi := ⟨some 49, _, _, _, _, _⟩) (v := undef) rfl rfl (by kernel_rfl) (by kernel_rfl) (by kernel_rfl) (by kernel_rfl) (fun _ _ _ h => h) (Or.inr ⟨by rfl, rfl⟩) (fun h => (by simp at h)) ?_
            try simp only [Act.put, qA, qB, qC]
            refine wP 20 50 _ (fun h => (by simp at h)) ?_
            refine wpTill_done (by kernel_rfl) ?_
            refine NoPanic.normal ?_
            go_wp2_with fail
            go_meet
            exact ⟨rfl, rfl⟩
        · go_simp
          refine hKK _ _ ⟨(fun h => (by simp at h)), ?_⟩
          clear hKK KK
          try simp only [Act.put, qA, qB, qC]
          refine wpTill_one (i := 10) (oi := ⟨some 40, _, _, _, _, _⟩) rfl (by kernel_rfl) (fun KK hKK => ?_)
          go_simp
          refine hKK _ _ ⟨(fun h => (by simp at h)), ?_⟩
          clear hKK KK
          try simp only [Act.put, qA, qB, qC]
          refine wpTill_pure (i := 11) (oi := ⟨some 41, _, _, _, _, _⟩) (v := undef) rfl rfl (by kernel_rfl) (by kernel_rfl) (by kernel_rfl) (by kernel_rfl) (fun _ _ _ h => h) (Or.inr ⟨by rfl, rfl⟩) (fun h => (by simp at h)) ?_
          try simp only [Act.put, qA, qB, qC]
          refine wpTill_pure (i := 12) (oi := ⟨some 42, _, _, _, _, _⟩) (v := undef) rfl rfl (by kernel_rfl) (by kernel_rfl) (by kernel_rfl) (by kernel_rfl) (fun _ _ _ h => h) (Or.inr ⟨by rfl, rfl⟩) (fun h => (by simp at h)) ?_
          try simp only [Act.put, qA, qB, qC]
          refine wpTill_one (i := 13) (oi := ⟨some 43, _, _, _, _, _⟩) rfl (by kernel_rfl) (fun KK hKK => ?_)
          go_simp
          refine hKK _ _ ⟨(fun h => (by simp at h)), ?_⟩
          clear hKK KK
          try simp only [Act.put, qA, qB, qC]
          refine wpTill_pure (i := 19) (oi := ⟨some 49, _, _, _, _, _⟩) (v := undef) rfl rfl (by kernel_rfl) (by kernel_rfl) (by kernel_rfl) (by kernel_rfl) (fun _ _ _ h => h) (Or.inr ⟨by rfl, rfl⟩) (fun h => (by simp at h)) ?_
          try simp only [Act.put, qA, qB, qC]
          refine wP 20 50 _ (fun h => (by simp at h)) ?_
          refine wpTill_done (by kernel_rfl) ?_
          refine NoPanic.normal ?_
          go_wp2_with fail
          go_meet
          exact ⟨rfl, rfl⟩
      case rest =>
        obtain ⟨rfl, rfl⟩ := hcut
        go_upto_region 11 with (fail)
        go_cut [7] (fun s7 wx => ∃ p va vl vc, s7 = .pointer (some ⟨p, 0, none⟩) ∧ Tk (N + 5 * done.length + 3) wr B1.db B1.D d' l p va vl vc wx)
        case first =>
          refine wp_region_noPanic ?_
          refine wp_region_till (s := 17) (S := fun w' => w'.cell? ⟨b, 0, none⟩ = some (.pointer (some ⟨B1.db, 0, none⟩)) ∧ w'.cell? ⟨b, 1, none⟩ = some (.pointer (some ⟨B1.gb, 0, none⟩)) ∧ w'.cell? ⟨p3, 2, none⟩ = some (.int .u64 dr)) (by kernel_rfl) ?_
          have hHeld := HS11.out wr.drew.drew (Chg.drew (Chg.drew (Chg.refl _ _)))
          refine wP 0 69 _ (fun _ => hHeld) ?_
          refine wP 1 70 _ (fun _ => hHeld) ?_
          refine wP 2 71 _ (fun _ => hHeld) ?_
          refine wL 3 72 _ (fun _ => hHeld) ?_
          refine wP 4 73 _ (fun _ => hHeld) ?_
          refine wP 5 74 _ (fun _ => hHeld) ?_
          refine wP 6 75 _ (fun _ => hHeld) ?_
          refine wL 7 76 _ (fun _ => hHeld) ?_
          refine wP 9 78 _ (fun _ => hHeld) ?_
          refine wL 10 79 _ (fun _ => hHeld) ?_
          refine wpTill_more [8, 16] (by kernel_rfl) (by simp) (TillAll.cons (i := 8) (oi := ⟨some 77, _, _, _, _, _⟩) rfl (fun KK hKK => ?_) (TillAll.cons (i := 16) (oi := ⟨some 7, _, _, _, _, _⟩) rfl (fun KK hKK => ?_) TillAll.nil))
          · go_simp
            refine (hard43 B1.gb V.g _ (Blk.chg HG2.out (show Chg (fun _ => False) wr _ from kC) id)).mono ?_
            rintro e wt ⟨rfl, rfl⟩
            rw [HGH.out]
            refine hKK _ _ (andS (HS11.out _ kC) (fun hHeld' => ?_))
            clear hKK KK
            try simp only [Act.put, qA, qB, qC]
            refine wP 11 80 _ (fun _ => hHeld') ?_
            refine wpTill_more [12, 16] (by kernel_rfl) (by simp) (TillAll.cons (i := 12) (oi := ⟨some 81, _, _, _, _, _⟩) rfl (fun KK hKK => ?_) (TillAll.cons (i := 16) (oi := ⟨some 7, _, _, _, _, _⟩) rfl (fun KK hKK => ?_) TillAll.nil))
            · go_simp
              refine (HDD.out _ kC).mono ?_
              rintro e w9 ⟨va, vl, vc, D', rfl, d9, c9, f9, g9, vs9, s9⟩
              have cT : Chg (DBk B1.db B1.D) wr w9 := Chg.trans kC c9
              try (have N9 : Blk w9 wr.heap.size 74 #[.slice none 0 0, .int .i64 0, .int .i64 0, .int .i64 0] := Blk.chg (Blk.new wr.drew.drew 74 #[.slice none 0 0, .int .i64 0, .int .i64 0, .int .i64 0]) c9 HND.out
                   have n0 := N9.cell 0
                   have n1 := N9.cell 1
                   have n2 := N9.cell 2
                   have n3 := N9.cell 3
                   have z0 := N9.frozen 0
                   have z1 := N9.frozen 1
                   have z2 := N9.frozen 2
                   have z3 := N9.frozen 3
                   simp at n0 n1 n2 n3)
              refine hKK _ _ (andS (HS11.out _ kC) (fun hHeld'' => ?_))
              clear hKK KK
              try simp only [Act.put, qA, qB, qC]
              refine wP 13 68 _ (fun _ => hHeld'') ?_
              refine wP 14 82 _ (fun _ => hHeld'') ?_
              refine wP 15 83 _ (fun _ => hHeld'') ?_
              refine wpTill_one (i := 16) (oi := ⟨some 7, _, _, _, _, _⟩) rfl (by kernel_rfl) (fun KK hKK => ?_)
              go_simp
              refine hKK _ _ (andS (HS11.out _ kC) (fun hHeld''' => ?_))
              clear hKK KK
              try simp only [Act.put, qA, qB, qC]
              refine wpTill_one (i := 17) (oi := ⟨none, _, _, _, _, _⟩) rfl (by kernel_rfl) (fun KK hKK => ?_)
              go_simp
              refine hKK _ _ ⟨(fun h => (by simp at h)), ?_⟩
              clear hKK KK
              try simp only [Act.put, qA, qB, qC]
              refine wP 18 8 _ (fun h => (by simp at h)) ?_
              refine wpTill_done (by kernel_rfl) ?_
              refine NoPanic.normal ?_
              have D9 := Lib.hid d9
              have F9 := Lib.hid f9
              have C9 := Lib.hid cT
              have S9 := Lib.hid s9
              try have HN9 := Lib.hid N9
              clear d9 f9 cT c9 s9
              try clear N9 n0 n1 n2 n3 z0 z1 z2 z3
              go_wp2_with fail
              go_meet
              first
                | (have f9' : ∀ j, DBk B1.db D' j → DBk B1.db B1.D j ∨ wr.heap.size + 1 ≤ j := fun j hj => (F9.out j hj).imp id (fun h => by
                     have h' : (wr.alloc (Obj.cells #[.slice none 0 0, .int .i64 0, .int .i64 0, .int .i64 0] 74)).heap.size ≤ j := h
                     rw [World.size_alloc] at h'
                     exact h')
                   exact ⟨wr.heap.size, va, vl, vc, rfl, tkSet D9.out f9' (Nat.le_refl _) HLT.out C9.out HN9.out S9.out (by show wr.heap.size + 1 ≤ (wr.alloc (Obj.cells #[.slice none 0 0, .int .i64 0, .int .i64 0, .int .i64 0] 74)).heap.size; rw [World.size_alloc]; exact Nat.le_refl _)⟩)
                | exact ⟨w9.heap.size, va, vl, vc, rfl, tkNew D9.out F9.out C9.out S9.out (Nat.le_refl _)⟩
            · go_simp
              refine hKK _ _ (andS (HS11.out _ kC) (fun hHeld'' => ?_))
              clear hKK KK
              try simp only [Act.put, qA, qB, qC]
              refine wpTill_one (i := 12) (oi := ⟨some 81, _, _, _, _, _⟩) rfl (by kernel_rfl) (fun KK hKK => ?_)
              go_simp
              refine (HDD.out _ kC).mono ?_
              rintro e w9 ⟨va, vl, vc, D', rfl, d9, c9, f9, g9, vs9, s9⟩
              have cT : Chg (DBk B1.db B1.D) wr w9 := Chg.trans kC c9
              try (have N9 : Blk w9 wr.heap.size 74 #[.slice none 0 0, .int .i64 0, .int .i64 0, .int .i64 0] := Blk.chg (Blk.new wr.drew.drew 74 #[.slice none 0 0, .int .i64 0, .int .i64 0, .int .i64 0]) c9 HND.out
                   have n0 := N9.cell 0
                   have n1 := N9.cell 1
                   have n2 := N9.cell 2
                   have n3 := N9.cell 3
                   have z0 := N9.frozen 0
                   have z1 := N9.frozen 1
                   have z2 := N9.frozen 2
                   have z3 := N9.frozen 3
                   simp at n0 n1 n2 n3)
              refine hKK _ _ (andS (HS11.out _ kC) (fun hHeld''' => ?_))
              clear hKK KK
              try simp only [Act.put, qA, qB, qC]
              refine wP 13 68 _ (fun _ => hHeld''') ?_
              refine wP 14 82 _ (fun _ => hHeld''') ?_
              refine wP 15 83 _ (fun _ => hHeld''') ?_
              refine wpTill_one (i := 17) (oi := ⟨none, _, _, _, _, _⟩) rfl (by kernel_rfl) (fun KK hKK => ?_)
              go_simp
              refine hKK _ _ ⟨(fun h => (by simp at h)), ?_⟩
              clear hKK KK
              try simp only [Act.put, qA, qB, qC]
              refine wP 18 8 _ (fun h => (by simp at h)) ?_
              refine wpTill_done (by kernel_rfl) ?_
              refine NoPanic.normal ?_
              have D9 := Lib.hid d9
              have F9 := Lib.hid f9
              have C9 := Lib.hid cT
              have S9 := Lib.hid s9
              try have HN9 := Lib.hid N9
              clear d9 f9 cT c9 s9
              try clear N9 n0 n1 n2 n3 z0 z1 z2 z3
              go_wp2_with fail
              go_meet
              first
                | (have f9' : ∀ j, DBk B1.db D' j → DBk B1.db B1.D j ∨ wr.heap.size + 1 ≤ j := fun j hj => (F9.out j hj).imp id (fun h => by
                     have h' : (wr.alloc (Obj.cells #[.slice none 0 0, .int .i64 0, .int .i64 0, .int .i64 0] 74)).heap.size ≤ j := h
                     rw [World.size_alloc] at h'
                     exact h')
                   exact ⟨wr.heap.size, va, vl, vc, rfl, tkSet D9.out f9' (Nat.le_refl _) HLT.out C9.out HN9.out S9.out (by show wr.heap.size + 1 ≤ (wr.alloc (Obj.cells #[.slice none 0 0, .int .i64 0, .int .i64 0, .int .i64 0] 74)).heap.size; rw [World.size_alloc]; exact Nat.le_refl _)⟩)
                | exact ⟨w9.heap.size, va, vl, vc, rfl, tkNew D9.out F9.out C9.out S9.out (Nat.le_refl _)⟩
          · go_simp
            refine hKK _ _ (andS (HS11.out _ kC) (fun hHeld' => ?_))
            clear hKK KK
            try simp only [Act.put, qA, qB, qC]
            refine wpTill_one (i := 8) (oi := ⟨some 77, _, _, _, _, _⟩) rfl (by kernel_rfl) (fun KK hKK => ?_)
            go_simp
            refine (hard43 B1.gb V.g _ (Blk.chg HG2.out (show Chg (fun _ => False) wr _ from kC) id)).mono ?_
            rintro e wt ⟨rfl, rfl⟩
            rw [HGH.out]
            refine hKK _ _ (andS (HS11.out _ kC) (fun hHeld'' => ?_))
            clear hKK KK
            try simp only [Act.put, qA, qB, qC]
            refine wP 11 80 _ (fun _ => hHeld'') ?_
            refine wpTill_one (i := 12) (oi := ⟨some 81, _, _, _, _, _⟩) rfl (by kernel_rfl) (fun KK hKK => ?_)
            go_simp
            refine (HDD.out _ kC).mono ?_
            rintro e w9 ⟨va, vl, vc, D', rfl, d9, c9, f9, g9, vs9, s9⟩
            have cT : Chg (DBk B1.db B1.D) wr w9 := Chg.trans kC c9
            try (have N9 : Blk w9 wr.heap.size 74 #[.slice none 0 0, .int .i64 0, .int .i64 0, .int .i64 0] := Blk.chg (Blk.new wr.drew.drew 74 #[.slice none 0 0, .int .i64 0, .int .i64 0, .int .i64 0]) c9 HND.out
                 have n0 := N9.cell 0
                 have n1 := N9.cell 1
                 have n2 := N9.cell 2
                 have n3 := N9.cell 3
                 have z0 := N9.frozen 0
                 have z1 := N9.frozen 1
                 have z2 := N9.frozen 2
                 have z3 := N9.frozen 3
                 simp at n0 n1 n2 n3)
            refine hKK _ _ (andS (HS11.out _ kC) (fun hHeld''' => ?_))
            clear hKK KK
            try simp only [Act.put, qA, qB, qC]
            refine wP 13 68 _ (fun _ => hHeld''') ?_
            refine wP 14 82 _ (fun _ => hHeld''') ?_
            refine wP 15 83 _ (fun _ => hHeld''') ?_
            refine wpTill_one (i := 17) (oi := ⟨none, _, _, _, _, _⟩) rfl (by kernel_rfl) (fun KK hKK => ?_)
            go_simp
            refine hKK _ _ ⟨(fun h => (by simp at h)), ?_⟩
            clear hKK KK
            try simp only [Act.put, qA, qB, qC]
            refine wP 18 8 _ (fun h => (by simp at h)) ?_
            refine wpTill_done (by kernel_rfl) ?_
            refine NoPanic.normal ?_
            have D9 := Lib.hid d9
            have F9 := Lib.hid f9
            have C9 := Lib.hid cT
            have S9 := Lib.hid s9
            try have HN9 := Lib.hid N9
            clear d9 f9 cT c9 s9
            try clear N9 n0 n1 n2 n3 z0 z1 z2 z3
            go_wp2_with fail
            go_meet
            first
              | (have f9' : ∀ j, DBk B1.db D' j → DBk B1.db B1.D j ∨ wr.heap.size + 1 ≤ j := fun j hj => (F9.out j hj).imp id (fun h => by
                   have h' : (wr.alloc (Obj.cells #[.slice none 0 0, .int .i64 0, .int .i64 0, .int .i64 0] 74)).heap.size ≤ j := h
                   rw [World.size_alloc] at h'
                   exact h')
                 exact ⟨wr.heap.size, va, vl, vc, rfl, tkSet D9.out f9' (Nat.le_refl _) HLT.out C9.out HN9.out S9.out (by show wr.heap.size + 1 ≤ (wr.alloc (Obj.cells #[.slice none 0 0, .int .i64 0, .int .i64 0, .int .i64 0] 74)).heap.size; rw [World.size_alloc]; exact Nat.le_refl _)⟩)
              | exact ⟨w9.heap.size, va, vl, vc, rfl, tkNew D9.out F9.out C9.out S9.out (Nat.le_refl _)⟩
        case rest =>
          obtain ⟨p, va, vl, vc, rfl, t1, ⟨D', t2, t3⟩, t4, g, vs, t5⟩ := hcut
          have hWX := H1.out.heard (Nat.le_add_right _ 3) t2 t4 t3 HCFG.out.1 (by rw [HCFG.out.2]; exact Int.le_refl _)
          obtain ⟨va', vc', hvv, hvc1, hvc2, hvn, hva⟩ := t5.o.form
          have hzl : ((l.zip vs).map fun x => ([.int .i64 x.1.1, x.2.1] : List Value)).length = l.length := by rw [List.length_map, List.length_zip, t5.len]; exact Nat.min_self _
          rw [hzl] at hvv hvc1
          have hvl : vl = l.length := by injection hvv
          subst hvl
          have hl16 : l.length ≤ 16 := by have h1 := HSL.out; have h2 := H1.out.d.ok.cfg.n1; omega
          obtain ⟨ln, hln⟩ : ∃ ln, ln = l.length := ⟨_, rfl⟩
          rw [← hln] at t1
          have HT5 := Lib.hid t5
          have HWX := Lib.hid hWX
          have HTX := Lib.hid (And.intro t4 (And.intro t3 hl16))
          have HLN := Lib.hid hln
          have hlnI : (ln : Int) ≤ 16 := by omega
          have HBM : Hid (({ B1 with D := D' } : WB).M = []) := Lib.hid HM0.out
          obtain ⟨BX, hBX⟩ : ∃ BX, BX = ({ B1 with D := D' } : WB) := ⟨_, rfl⟩
          obtain ⟨VX, hVX⟩ : ∃ VX, VX = ({ V with d := d' } : Wm) := ⟨_, rfl⟩
          obtain ⟨cc, hcc⟩ : ∃ cc, cc = V.d.drawn dr := ⟨_, rfl⟩
          rw [← hBX, ← hVX] at HWX
          rw [← hBX] at HBM
          have hVd : VX.d = d' := by rw [hVX]
          have hVs : VX.sent = W.sent := by rw [hVX]; exact HV.out.2.2.2
          have hVu : VX.under = [] := by rw [hVX]; exact HV.out.2.2.1
          have hc0 : 0 ≤ cc ∧ cc < 18446744073709551616 := by
            rw [hcc]
            unfold Dm.drawn
            split
            · exact HDR.out
            · exact HDR2.out
          have HSO2 : Hid (∀ s ∈ l, s.2 = bytes4 3 0 0 0 cc ∧ ∃ si : Nat, si < d'.cfg.servers.length ∧ Lib.idxOf d'.cfg.servers s.1 = (si : Int)) := Lib.hid (by rw [hcc, HCFG.out.1]; exact HSO.out)
          have HTK2 : Hid (W.step done dt dh dr = l.foldl (Wm.send cc) VX) := Lib.hid (by rw [hVX, hcc]; exact HTK.out)
          have hfx : ∀ i, WAll b BX i → WAll b B i ∨ w0.heap.size ≤ i := by
            intro i hi
            rw [hBX] at hi
            have hsz : w0.heap.size ≤ wr.heap.size := HC1.out.size
            rcases hi with hi | hi
            · exact HF1.out i (.inl hi)
            · rcases HTX.out.2.1 i hi with h | h
              · exact HF1.out i (.inr h)
              · exact .inr (by omega)
          have hcx : Chg (WAll b B) w0 wc := HC1.out.trans' HTX.out.1 (fun i hi h => by
            rcases HF1.out i (.inr h) with h' | h'
            · exact h'
            · omega)
          have HFX := Lib.hid hfx
          have HCX := Lib.hid hcx
          have HVX := Lib.hid (And.intro hVd (And.intro hVs (And.intro hVu hc0)))
          clear hWX hvv hvc1 hvc2 hvn hva hzl t2 t3 t4 t5 hln hl16 hBX hVX hcc hVd hVs hVu hc0 hfx hcx
          obtain ⟨wo, rfl⟩ : ∃ wo, wo = wr := ⟨wr, rfl⟩
          go_wp2_with fail
          go_loopw [87] (fun i w3 => ∃ j : Nat, j ≤ ln ∧ i = .int .i64 j ∧ SentAt (N + 5 * done.length + 3) wc b BX cc VX l j w3) (fun i _ => ln - (intOf i).toNat)
          case atStart => exact ⟨0, Nat.zero_le _, rfl, ⟨⟨BX, HWX.out, fun i hi => .inl hi⟩, Chg.refl _ _⟩⟩
          case round =>
            obtain ⟨j, hj, rfl, ⟨B2, r1, r2⟩, r3⟩ := hrel
            by_cases hjl : j < ln
            · have hjI : (j : Int) < ln := by omega
              obtain ⟨x, hx⟩ : ∃ x, l[j]? = some x := ⟨_, List.getElem?_eq_getElem (by rw [← HLN.out]; exact hjl)⟩
              have T5 := HT5.out.chg r3 (fun k hk hb hi => by
                rcases HT5.out.blk hb with ⟨_, h'⟩ | ⟨_, h'⟩
                · exact HWX.out.far5 HBM.out hi h' (.inl rfl)
                · exact HWX.out.far5 HBM.out hi h' (.inr rfl))
              obtain ⟨y, hy⟩ : ∃ y, vs[j]? = some y := ⟨_, List.getElem?_eq_getElem (by rw [T5.len, ← HLN.out]; exact hjl)⟩
              obtain ⟨hxb, si, hsi, hix⟩ := HSO2.out x (List.mem_of_getElem? hx)
              have hzj : ((l.zip vs).map fun x => ([.int .i64 x.1.1, x.2.1] : List Value))[j]? = some [.int .i64 x.1, y.1] := by
                rw [List.getElem?_map, (List.getElem?_zip_eq_some (z := (x, y))).2 ⟨hx, hy⟩]; rfl
              have hzl : ((l.zip vs).map fun x => ([.int .i64 x.1.1, x.2.1] : List Value)).length = ln := by rw [List.length_map, List.length_zip, T5.len, HLN.out]; exact Nat.min_self _
              have To := T5.o
              obtain ⟨kg, hkg⟩ := To.pos (by rw [hzl]; omega)
              rw [hkg] at To
              obtain ⟨vc2, hvv, hv1, hv2⟩ := To.some_form
              rw [hzl] at hvv hv1
              have hva : va = some ⟨kg, 0, none⟩ := by injection hvv
              have hvc : vc = vc2 := by injection hvv
              have f0 : wr.cell? ⟨kg, j * 2, none⟩ = some (.int .i64 x.1) := To.cell rfl hzj (j := 0) rfl
              have f1 := To.cell rfl hzj (j := 1) rfl
              obtain ⟨e5, _⟩ := T5.each j x y hx hy
              rw [hxb] at e5
              obtain ⟨kk, hkk⟩ := e5.pos (by rw [List.length_map, bytes4_len]; omega)
              rw [hkk] at e5
              obtain ⟨cap2, hy1, hy2, hy3⟩ := e5.some_form
              rw [List.length_map, bytes4_len] at hy1 hy2
              rw [hy1] at f1 e5
              have hvcl : j < vc := by rw [hvc]; omega
              have hRd := e5.reads
              have hab : kk ≠ b := fun e => by
                obtain ⟨_, h'⟩ := e5.blk rfl
                rw [e] at h'
                exact absurd (blk_typ h' r1.box) (by decide)
              have HS2 := sends_keep cc (l.take j) VX
              have hlt : (l.take j).length = j := by rw [List.length_take]; have := HLN.out; omega
              rw [hlt] at HS2
              have HR1 := Lib.hid r1
              have HSND := Lib.hid (fun W' (hW : Chg (fun _ => False) wr W') => send44 (r1.chg0 hW) x.1 cc ⟨kk, 0, none⟩ cap2 x.2 HVX.out.2.2.2 hy2 (by unfold maxLen at hy3; omega) (hRd.chg hW (fun _ _ h => h)) hab si (by rw [HS2.1, HVX.out.1]; exact hsi) (by rw [HS2.1, HVX.out.1]; exact hix)
                (by rw [HS2.2.2.1, HVX.out.2.1]; have h1 := HWA.out.sent.2; have h2 := HTX.out.2.2; have h3 := HLN.out; omega) (by have h1 := HN.out; have h2 := HDL.out; omega) (by have h1 := HS2.2.2.2; rw [HVX.out.2.2.1] at h1; simp only [List.length_nil] at h1; omega))
              have hnext : (l.take (j + 1)).foldl (Wm.send cc) VX = ((l.take j).foldl (Wm.send cc) VX).send cc (x.1, x.2) := by
                rw [List.take_add_one, hx, List.foldl_append]; rfl
              have HNX := Lib.hid hnext
              have HR2 := Lib.hid r2
              have HR3 := Lib.hid r3
              obtain ⟨ad, had⟩ : ∃ ad, ad = x.1 := ⟨_, rfl⟩
              rw [← had] at f0 HSND HNX
              subst hva
              clear hx T5 hy hxb hsi hix hzj hzl To hkg hvv hv1 hv2 hvc e5 hkk hy1 hy2 hy3 hRd hab HS2 hlt r1 r2 r3 hnext had
              go_upto_region 15 with (fail)
              have A9 := Blk.new wr 80 #[.int .i64 ad, .slice (some ⟨kk, 0, none⟩) 48 cap2]
              have cA := chg0_alloc wr (Obj.cells #[.int .i64 ad, .slice (some ⟨kk, 0, none⟩) 48 cap2] 80)
              obtain ⟨p10, hp10⟩ : ∃ p, p = wr.heap.size := ⟨_, rfl⟩
              rw [← hp10] at A9
              rw [← hp10]
              have HP10 := Lib.hid hp10
              clear hp10
              generalize wr.alloc (Obj.cells #[.int .i64 ad, .slice (some ⟨kk, 0, none⟩) 48 cap2] 80) = we at *
              have g0 := A9.cell 0
              have g1 := A9.cell 1
              simp at g0 g1
              have HCA := Lib.hid cA
              clear A9 cA f0 f1
              go_wp2_with fail
              refine (HSND.out _ HCA.out).mono ?_
              rintro e w9 ⟨rfl, ⟨B3, s1, s2⟩, c9⟩
              go_wp2_with fail
              rw [← HNX.out] at s1
              have hsz1 : wc.heap.size ≤ wr.heap.size := HR3.out.size
              have hsz2 : wr.heap.size ≤ we.heap.size := HCA.out.size
              refine ⟨⟨j + 1, by omega, by simp, ⟨⟨B3, s1, fun i hi => ?_⟩, ?_⟩⟩, by simp [intOf]; omega⟩
              · rcases s2 i hi with h | h
                · exact HR2.out i h
                · exact .inr (by omega)
              · refine (HR3.out.trans (HCA.out.mono (fun _ _ h => h.elim))).trans' c9 (fun i hi h => ?_)
                rcases HR2.out i h with h' | h'
                · exact h'
                · omega
            · have hje : j = ln := by omega
              subst hje
              have htl : l.take j = l := by rw [HLN.out]; exact List.take_length
              rw [htl, ← HTK2.out, HDL.out] at r1
              have HR1 := Lib.hid r1
              have HR2 := Lib.hid r2
              have HR3 := Lib.hid r3
              have hsz1 : w0.heap.size ≤ wc.heap.size := HCX.out.size
              have hsz0 : w.heap.size ≤ w0.heap.size := HCB.out.size
              have HZ := Lib.hid (And.intro hsz0 hsz1)
              clear r1 r2 r3 htl hsz0 hsz1
              go_wp2_with fail
              go_ret
              refine ⟨rfl, ⟨done, B2, HP1.out, HR1.out, fun i hi => ?_⟩, ?_⟩
              · rcases HR2.out i hi with h | h
                · rcases HFX.out i h with h' | h'
                  · exact .inl h'
                  · exact .inr (by have := HZ.out; omega)
                · exact .inr (by have := HZ.out; omega)
              · have hc0 : Chg (WAll b B) w w0 := HCB.out.mono (fun _ _ h => h.elim)
                refine (hc0.trans HCX.out).trans' HR3.out (fun i hi h => ?_)
                rcases HFX.out i h with h' | h'
                · exact h'
                · have := HZ.out; omega
    | cons a rest =>
      obtain ⟨hVg, hVc, hVu, hVs⟩ := mid_proj W dt dh done (a :: rest)
      obtain ⟨x, M1, hBM⟩ : ∃ x M1, B1.M = x :: M1 := by
        have := h1.mu
        rw [hVu] at this
        cases hM : B1.M with
        | nil => rw [hM] at this; cases this
        | cons x M1 => exact ⟨x, M1, rfl⟩
      have hmu := h1.mu
      rw [hVu, hBM, List.map_cons] at hmu
      obtain ⟨hxa, hMr⟩ := List.cons.inj hmu
      have hund := h1.und
      rw [hBM] at hund
      obtain ⟨k, off, cap, hgk, huv, hc1, hc2⟩ := hund.pos (by simp)
      rw [List.length_map, List.length_cons] at huv hc1
      obtain ⟨n, hn⟩ : ∃ n, n = M1.length + 1 := ⟨_, rfl⟩
      rw [← hn] at huv hc1
      rw [huv] at hund
      have hle : x.a.at_ ≤ W.g.t + dt := by
        refine HALL.out _ (hp1.subset ?_)
        rw [hxa]; simp
      have e0 : wr.cell? ⟨b, 4, none⟩ = some (.slice (some ⟨k, off, none⟩) n cap) := by have q := h1.box.cell 4; simp [wmc] at q; rw [q, huv]
      have e1 : wr.cell? ⟨b, 1, none⟩ = some (.pointer (some ⟨B1.gb, 0, none⟩)) := by have q := h1.box.cell 1; simpa [wmc] using q
      have e2 : ∀ i u, (mac x)[i]? = some u → wr.cell? ⟨k, off + i, none⟩ = some u := fun i u hu => by
        have := hund.cell (i := 0) (by rw [List.map_cons]; rfl) hu
        simpa using this
      have HTR := Lib.hid (fun W' (hW : Chg (fun _ => False) wr W') => true37 B1.gb _ W' (h1.g.chg hW (fun h => h)))
      rw [hVg] at HTR
      have htt : (W.g.step dt dh).t = W.g.t + dt := rfl
      rw [htt] at HTR
      obtain ⟨tt, htt⟩ : ∃ tt, tt = W.g.t + dt := ⟨_, rfl⟩
      rw [← htt] at HTR hle
      obtain ⟨at9, hat9⟩ : ∃ at9, at9 = x.a.at_ := ⟨_, rfl⟩
      obtain ⟨sn9, hsn9⟩ : ∃ z, z = x.a.sent := ⟨_, rfl⟩
      obtain ⟨sv9, hsv9⟩ : ∃ z, z = x.a.srv := ⟨_, rfl⟩
      obtain ⟨ln9, hln9⟩ : ∃ z, z = x.a.data.length := ⟨_, rfl⟩
      have f0 := e2 0 _ rfl
      have f1 := e2 1 _ rfl
      have f2 := e2 2 _ rfl
      have f3 := e2 3 _ rfl
      rw [← hat9] at f0
      rw [← hsn9] at f1
      rw [← hsv9] at f2
      rw [← hln9] at f3
      have HS7 := Lib.hid (fun W' (hW : Chg (fun _ => False) wr W') => (⟨hW.keep e0 (fun h => h), hW.keep e1 (fun h => h), hW.keep f0 (fun h => h), hW.keep f1 (fun h => h), hW.keep f2 (fun h => h), hW.keep f3 (fun h => h)⟩ : W'.cell? ⟨b, 4, none⟩ = some (.slice (some ⟨k, off, none⟩) n cap) ∧ W'.cell? ⟨b, 1, none⟩ = some (.pointer (some ⟨B1.gb, 0, none⟩)) ∧ W'.cell? ⟨k, off, none⟩ = some (.int .i64 at9) ∧ W'.cell? ⟨k, off + 1, none⟩ = some (.int .i64 sn9) ∧ W'.cell? ⟨k, off + 2, none⟩ = some (.int .i64 sv9) ∧ W'.cell? ⟨k, off + 3, none⟩ = some (.slice (some ⟨x.k, 0, none⟩) ln9 x.cap)))
      rw [← hat9] at hle
      have HXX := Lib.hid (And.intro hat9 (And.intro hsn9 (And.intro hsv9 hln9)))
      have hn0 : (0 : Int) < n := by omega
      have hn1 : 0 < cap := by omega
      have hn2 : 0 < n := by omega
      have H1 := Lib.hid h1
      have HC1 := Lib.hid c1
      have HP1 := Lib.hid hp1
      have HF1 := Lib.hid hf1
      have HUN := Lib.hid hund
      have HHH := Lib.hid (And.intro hn (And.intro hgk (And.intro huv (And.intro hMr (And.intro hxa hBM)))))
      have HCC := Lib.hid (And.intro hc1 hc2)
      clear h1 c1 hp1 hf1 hund hn hgk huv hMr hxa hBM hc1 hc2 hat9 hsn9 hsv9 hln9 htt hVg hVc hVu hVs hmu e0 e1 e2 f0 f1 f2 f3
      go_upto_region 7 with (fail)
      go_cut [50] (fun s50 wx => s50 = .bool true ∧ Chg (fun _ => False) wr wx)
      case first =>
        refine wp_region_noPanic ?_
        refine wp_region_till (s := 18) (S := fun w' => w'.cell? ⟨b, 4, none⟩ = some (.slice (some ⟨k, off, none⟩) n cap) ∧ w'.cell? ⟨b, 1, none⟩ = some (.pointer (some ⟨B1.gb, 0, none⟩)) ∧ w'.cell? ⟨k, off, none⟩ = some (.int .i64 at9) ∧ w'.cell? ⟨k, off + 1, none⟩ = some (.int .i64 sn9) ∧ w'.cell? ⟨k, off + 2, none⟩ = some (.int .i64 sv9) ∧ w'.cell? ⟨k, off + 3, none⟩ = some (.slice (some ⟨x.k, 0, none⟩) ln9 x.cap)) (by kernel_rfl) ?_
        have hHeld := HS7.out wr.drew (Chg.drew (Chg.refl _ _))
        refine wP 0 30 _ (fun _ => hHeld) ?_
        refine wP 1 31 _ (fun _ => hHeld) ?_
        refine wP 2 32 _ (fun _ => hHeld) ?_
        refine wpTill_one (i := 3) (oi := ⟨some 33, _, _, _, _, _⟩) rfl (by kernel_rfl) (fun KK hKK => ?_)
        go_simp
        refine hKK _ _ (andS (HS7.out _ kC) (fun hHeld' => ?_))
        clear hKK KK
        try simp only [Act.put, qA, qB, qC]
        refine wP 4 34 _ (fun _ => hHeld') ?_
        refine wP 5 35 _ (fun _ => hHeld') ?_
        refine wP 6 36 _ (fun _ => hHeld') ?_
        refine wP 7 37 _ (fun _ => hHeld') ?_
        refine wP 8 38 _ (fun _ => hHeld') ?_
        refine wP 9 39 _ (fun _ => hHeld') ?_
        refine wP 14 44 _ (fun _ => hHeld') ?_
        refine wP 15 45 _ (fun _ => hHeld') ?_
        refine wP 16 46 _ (fun _ => hHeld') ?_
        refine wL 17 47 _ (fun _ => hHeld') ?_
        refine wpTill_more [10, 18] (by kernel_rfl) (by simp) (TillAll.cons (i := 10) (oi := ⟨some 40, _, _, _, _, _⟩) rfl (fun KK hKK => ?_) (TillAll.cons (i := 18) (oi := ⟨some 48, _, _, _, _, _⟩) rfl (fun KK hKK => ?_) TillAll.nil))
        · go_simp
          refine hKK _ _ (andS (HS7.out _ kC) (fun hHeld'' => ?_))
          clear hKK KK
          try simp only [Act.put, qA, qB, qC]
          refine wP 11 41 _ (fun _ => hHeld'') ?_
          refine wP 12 42 _ (fun _ => hHeld'') ?_
          refine wpTill_more [13, 18] (by kernel_rfl) (by simp) (TillAll.cons (i := 13) (oi := ⟨some 43, _, _, _, _, _⟩) rfl (fun KK hKK => ?_) (TillAll.cons (i := 18) (oi := ⟨some 48, _, _, _, _, _⟩) rfl (fun KK hKK => ?_) TillAll.nil))
          · go_simp
            refine hKK _ _ (andS (HS7.out _ kC) (fun hHeld''' => ?_))
            clear hKK KK
            try simp only [Act.put, qA, qB, qC]
            refine wpTill_one (i := 18) (oi := ⟨some 48, _, _, _, _, _⟩) rfl (by kernel_rfl) (fun KK hKK => ?_)
            go_simp
            refine (HTR.out _ kC).mono ?_
            rintro e wt ⟨rfl, hwt⟩
            rw [hwt]
            clear hwt wt
            refine hKK _ _ ⟨(fun h => (by simp at h)), ?_⟩
            clear hKK KK
            try simp only [Act.put, qA, qB, qC]
            refine wP 19 49 _ (fun h => (by simp at h)) ?_
            refine wP 20 50 _ (fun h => (by simp at h)) ?_
            refine wpTill_done (by kernel_rfl) ?_
            refine NoPanic.normal ?_
            go_wp2_with fail
            go_meet
            exact ⟨rfl, kC⟩
          · go_simp
            refine (HTR.out _ kC).mono ?_
            rintro e wt ⟨rfl, hwt⟩
            rw [hwt]
            clear hwt wt
            refine hKK _ _ ⟨(fun h => (by simp at h)), ?_⟩
            clear hKK KK
            try simp only [Act.put, qA, qB, qC]
            refine wpTill_one (i := 13) (oi := ⟨some 43, _, _, _, _, _⟩) rfl (by kernel_rfl) (fun KK hKK => ?_)
            go_simp
            refine hKK _ _ ⟨(fun h => (by simp at h)), ?_⟩
            clear hKK KK
            try simp only [Act.put, qA, qB, qC]
            refine wP 19 49 _ (fun h => (by simp at h)) ?_
            refine wP 20 50 _ (fun h => (by simp at h)) ?_
            refine wpTill_done (by kernel_rfl) ?_
            refine NoPanic.normal ?_
            go_wp2_with fail
            go_meet
            exact ⟨rfl, kC⟩
        · go_simp
          refine (HTR.out _ kC).mono ?_
          rintro e wt ⟨rfl, hwt⟩
          rw [hwt]
          clear hwt wt
          refine hKK _ _ ⟨(fun h => (by simp at h)), ?_⟩
          clear hKK KK
          try simp only [Act.put, qA, qB, qC]
          refine wpTill_one (i := 10) (oi := ⟨some 40, _, _, _, _, _⟩) rfl (by kernel_rfl) (fun KK hKK => ?_)
          go_simp
          refine hKK _ _ ⟨(fun h => (by simp at h)), ?_⟩
          clear hKK KK
          try simp only [Act.put, qA, qB, qC]
          refine wP 11 41 _ (fun h => (by simp at h)) ?_
          refine wP 12 42 _ (fun h => (by simp at h)) ?_
          refine wpTill_one (i := 13) (oi := ⟨some 43, _, _, _, _, _⟩) rfl (by kernel_rfl) (fun KK hKK => ?_)
          go_simp
          refine hKK _ _ ⟨(fun h => (by simp at h)), ?_⟩
          clear hKK KK
          try simp only [Act.put, qA, qB, qC]
          refine wP 19 49 _ (fun h => (by simp at h)) ?_
          refine wP 20 50 _ (fun h => (by simp at h)) ?_
          refine wpTill_done (by kernel_rfl) ?_
          refine NoPanic.normal ?_
          go_wp2_with fail
          go_meet
          exact ⟨rfl, kC⟩
      case rest =>
        obtain ⟨rfl, cd⟩ := hcut
        obtain ⟨wd, hwd⟩ : ∃ wd, wd = wc := ⟨_, rfl⟩
        rw [← hwd]
        rw [← hwd] at cd
        clear hwd wc
        obtain ⟨e0, e1, f0, f1, f2, f3⟩ := HS7.out wd cd
        have HCD := Lib.hid cd
        clear cd
        go_upto_region 9 with (fail)
        have A9 := Blk.new wd 118 #[.int .i64 at9, .int .i64 sn9, .int .i64 sv9, .slice (some ⟨x.k, 0, none⟩) ln9 x.cap]
        have cA := chg0_alloc wd (Obj.cells #[.int .i64 at9, .int .i64 sn9, .int .i64 sv9, .slice (some ⟨x.k, 0, none⟩) ln9 x.cap] 118)
        have cD : Chg (fun _ => False) wr (wd.alloc (Obj.cells #[.int .i64 at9, .int .i64 sn9, .int .i64 sv9, .slice (some ⟨x.k, 0, none⟩) ln9 x.cap] 118)) := HCD.out.trans cA
        have hpl : wr.heap.size ≤ wd.heap.size := HCD.out.size
        obtain ⟨p6, hp6⟩ : ∃ p, p = wd.heap.size := ⟨_, rfl⟩
        rw [← hp6] at A9 hpl
        rw [← hp6]
        generalize wd.alloc (Obj.cells #[.int .i64 at9, .int .i64 sn9, .int .i64 sv9, .slice (some ⟨x.k, 0, none⟩) ln9 x.cap] 118) = we at *
        clear cA e0 e1 f0 f1 f2 f3 hp6 HCD
        clear wd
        have e0 := (HS7.out we cD).1
        have z4 := (H1.out.box.chg cD (fun h => h)).frozen 4
        have g0 := A9.cell 0
        have g1 := A9.cell 1
        have g2 := A9.cell 2
        have g3 := A9.cell 3
        simp at g0 g1 g2 g3
        have HA9 := Lib.hid A9
        have HCD := Lib.hid cD
        have HPL := Lib.hid hpl
        clear A9 cD hpl
        go_upto_region 10 with (fail)
        clear g0 g1 g2 g3 z4 e0
        obtain ⟨uv', huv'⟩ : ∃ v, v = Value.slice (if cap = 1 then some { block := k, off := off } else some { block := k, off := off + 4 }) (n - 1) (cap - 1) := ⟨_, rfl⟩
        rw [← huv']
        have cF : Chg (fun i => i = b) wr (we.setCell ⟨b, 4, none⟩ uv') := ((HCD.out.mono (S' := fun i => i = b) (fun _ _ h => h.elim)).setCell (p := ⟨b, 4, none⟩) (fun _ => rfl) uv')
        have X1 : Blk (we.setCell ⟨b, 4, none⟩ uv') b 113 (wmc (W.mid dt dh done (a :: rest)) { B1 with uv := uv' }) := by
          have := (H1.out.box.chg HCD.out (fun h => h)).set_ 4 uv'
          simpa [wmc] using this
        have A9 := HA9.out.chg (show Chg (fun i => i = b) we (we.setCell ⟨b, 4, none⟩ uv') from (Chg.refl (fun i => i = b) we).setCell (p := ⟨b, 4, none⟩) (fun _ => rfl) uv') (fun e => by have h1 := H1.out.box.lt; have h2 := HPL.out; omega)
        obtain ⟨i1, i2, i3, i4, i5, i6⟩ := HHH.out
        have nbx : ∀ {i : Nat} {t : TypeId} {cs : Array Value}, Blk wr i t cs → t ≠ 113 → ¬ i = b := fun hb ht e => by subst e; exact ht (blk_typ hb H1.out.box)
        have U1 : OwnsF (we.setCell ⟨b, 4, none⟩ uv') 118 4 uv' B1.ug (M1.map mac) := by
          have := HUN.out
          rw [List.map_cons] at this
          rw [huv']
          rw [huv'] at cF
          exact this.tail'.chg cF (fun k hk => by obtain ⟨_, h'⟩ := H1.out.und.blk hk; exact nbx h' (by decide))
        have R := H1.out.redo X1 (H1.out.g.chg cF (nbx H1.out.g (by decide))) H1.out.gok H1.out.h U1 (fun y hy => by rw [i6]; exact List.mem_cons_of_mem _ hy) (cF.mono (fun _ _ h => .inl h))
        rw [i4] at R
        have R' : WAt (N + 5 * done.length) (we.setCell ⟨b, 4, none⟩ uv') b { W.mid dt dh done (a :: rest) with under := rest } { B1 with uv := uv', M := M1 } := R
        have hxm : x ∈ B1.M := by rw [i6]; simp
        have XO := (H1.out.mok x hxm).chg cF (by obtain ⟨_, h'⟩ := (H1.out.mok x hxm).blk; exact nbx h' (by decide))
        have hdl : N + 5 * done.length ≤ 185000 := by
          have h1 := HN.out
          have h2 := HP1.out.length_eq
          rw [List.length_append] at h2
          omega
        have HCM := come42 R' x XO hdl
        rw [← HXX.out.1, ← HXX.out.2.1, ← HXX.out.2.2.1, ← HXX.out.2.2.2] at HCM
        have g0 := A9.cell 0
        have g1 := A9.cell 1
        have g2 := A9.cell 2
        have g3 := A9.cell 3
        simp at g0 g1 g2 g3
        have HCM' := Lib.hid HCM
        have HCF := Lib.hid cF
        generalize we.setCell ⟨b, 4, none⟩ uv' = wf at *
        clear HCM cF X1 A9 i1 i2 i3 i4 i6 nbx U1 R R' hxm XO hdl huv' HA9 HPL HCD
        clear we
        have HI5 := Lib.hid i5
        clear i5
        go_wp2_with fail
        refine HCM'.out.mono ?_
        rintro e w9 ⟨rfl, ⟨B2, R2, R3, R4, R5, R6⟩, c9⟩
        rw [HI5.out, mid_snoc] at R2
        go_wp2_with fail
        have hne : N + 5 * done.length + 5 = N + 5 * (done ++ [a]).length := by rw [List.length_append, List.length_singleton]; omega
        rw [hne] at R2
        have hl1 := R2.lenAt
        have hl2 := H1.out.lenAt
        rw [(mid_proj _ _ _ _ _).2.2.1] at hl1 hl2
        have hsub : ∀ i, WAll b { B1 with uv := uv', M := M1 } i → WAll b B i ∨ w0.heap.size ≤ i := by
          intro i hi
          refine HF1.out i ?_
          rcases hi with hi | hi
          · left
            unfold WBk at hi ⊢
            simp only at hi
            rcases hi with hi | hi | hi | hi | hi | ⟨y, hy, hi⟩ | hi | hi | hi
            · exact .inl hi
            · exact .inr (.inl hi)
            · exact .inr (.inr (.inl hi))
            · exact .inr (.inr (.inr (.inl hi)))
            · exact .inr (.inr (.inr (.inr (.inl hi))))
            · exact .inr (.inr (.inr (.inr (.inr (.inl ⟨y, by rw [HHH.out.2.2.2.2.2]; exact List.mem_cons_of_mem _ hy, hi⟩)))))
            · exact .inr (.inr (.inr (.inr (.inr (.inr (.inl hi))))))
            · exact .inr (.inr (.inr (.inr (.inr (.inr (.inr (.inl hi)))))))
            · exact .inr (.inr (.inr (.inr (.inr (.inr (.inr (.inr hi)))))))
          · exact .inr hi
        have hsz1 : w0.heap.size ≤ wr.heap.size := HC1.out.size
        have hsz2 : wr.heap.size ≤ wf.heap.size := HCF.out.size
        refine ⟨⟨⟨done ++ [a], rest, B2, by rw [List.append_assoc]; exact HP1.out, R2, fun i hi => ?_⟩, ?_⟩, ?_⟩
        · rcases R3 i hi with h | h
          · exact hsub i h
          · exact .inr (by omega)
        · refine (HC1.out.trans (HCF.out.mono (fun i _ e => ?_))).trans' c9 (fun i hi h => ?_)
          · have e' : i = b := e
            rw [e']; exact .inl (.inl rfl)
          · rcases hsub i h with h | h
            · exact h
            · omega
        · rw [hl1, hl2, List.length_cons]; omega
end
end Go.Proofs.YtamhicdhbjniiaaGreatDoor
