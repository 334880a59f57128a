/- pump.Run: contract. -/
import Derived.Test.YtamhicdhbjniiaaGreatDoorM41
import Derived.Test.YtamhicdhbjniiaaGreatDoorM42
import Derived.Test.YtamhicdhbjniiaaGreatDoorM36
import Derived.Test.YtamhicdhbjniiaaGreatDoorM45
set_option linter.unusedVariables false
set_option maxHeartbeats 6400000
set_option maxRecDepth 100000
namespace Go.Proofs.YtamhicdhbjniiaaGreatDoor
section
open Go Go.RowKit Go.Chron
theorem DAt.farT {N b : Nat} {d : Dm} {B : DB} {w : World} (h : DAt N w b d B) {i : Nat} {t : TypeId} {cs : Array Value} (hi : DBk b B i) (hb : Blk w i t cs) (ht : t = 41 ∨ t = 42 ∨ t = 2 ∨ t = 56 ∨ t = 29) : False := by
 rcases hi with rfl | rfl | rfl | rfl | rfl | hi | hi | hi | hi | hi | hi
 ·rcases ht with rfl | rfl | rfl | rfl | rfl <;> exact absurd (blk_typ hb h.box) (by decide)
 ·rcases ht with rfl | rfl | rfl | rfl | rfl <;> exact absurd (blk_typ hb h.clk) (by decide)
 ·rcases ht with rfl | rfl | rfl | rfl | rfl <;> exact absurd (blk_typ hb h.q.box) (by decide)
 ·obtain ⟨D, ⟨es, clock, hm, _⟩, _⟩ := h.q.own
  unfold Blk at hb
  rw [hm] at hb; cases hb
 ·rcases ht with rfl | rfl | rfl | rfl | rfl <;> exact absurd (blk_typ hb h.cnt) (by decide)
 ·obtain ⟨_, h'⟩ := h.srv.blk hi; rcases ht with rfl | rfl | rfl | rfl | rfl <;> exact absurd (blk_typ hb h') (by decide)
 ·obtain ⟨_, h'⟩ := h.psl.blk hi; rcases ht with rfl | rfl | rfl | rfl | rfl <;> exact absurd (blk_typ hb h') (by decide)
 ·obtain ⟨_, h'⟩ := h.ssl.blk hi; rcases ht with rfl | rfl | rfl | rfl | rfl <;> exact absurd (blk_typ hb h') (by decide)
 ·obtain ⟨_, h'⟩ := h.vot.blk hi; rcases ht with rfl | rfl | rfl | rfl | rfl <;> exact absurd (blk_typ hb h') (by decide)
 ·exact h.ps.far hb (by rcases ht with rfl | rfl | rfl | rfl | rfl <;> decide) (by rcases ht with rfl | rfl | rfl | rfl | rfl <;> decide) hi
 ·exact h.ss.far hb (by rcases ht with rfl | rfl | rfl | rfl | rfl <;> decide) (by rcases ht with rfl | rfl | rfl | rfl | rfl <;> decide) (by rcases ht with rfl | rfl | rfl | rfl | rfl <;> decide) hi
theorem WAt.farT {N b : Nat} {W : Wm} {B : WB} {w : World} (h : WAt N w b W B) {i : Nat} {t : TypeId} {cs : Array Value} (hi : WAll b B i) (hb : Blk w i t cs) (ht : t = 41 ∨ t = 42 ∨ t = 2 ∨ t = 56 ∨ t = 29) : False := by
 rcases hi with (rfl | rfl | hi | hi | hi | ⟨x, hx, rfl⟩ | rfl | hi | ⟨x, hx, hi⟩) | hi
 ·rcases ht with rfl | rfl | rfl | rfl | rfl <;> exact absurd (blk_typ hb h.box) (by decide)
 ·rcases ht with rfl | rfl | rfl | rfl | rfl <;> exact absurd (blk_typ hb h.g) (by decide)
 ·obtain ⟨_, h'⟩ := h.srv.blk hi; rcases ht with rfl | rfl | rfl | rfl | rfl <;> exact absurd (blk_typ hb h') (by decide)
 ·obtain ⟨_, h'⟩ := h.way.blk hi; rcases ht with rfl | rfl | rfl | rfl | rfl <;> exact absurd (blk_typ hb h') (by decide)
 ·obtain ⟨_, h'⟩ := h.und.blk hi; rcases ht with rfl | rfl | rfl | rfl | rfl <;> exact absurd (blk_typ hb h') (by decide)
 ·obtain ⟨_, h'⟩ := (h.mok x hx).blk; rcases ht with rfl | rfl | rfl | rfl | rfl <;> exact absurd (blk_typ hb h') (by decide)
 ·obtain ⟨D, ⟨es, clock, hm, _⟩⟩ := h.came
  unfold Blk at hb
  rw [hm] at hb; cases hb
 ·obtain ⟨_, h'⟩ := h.log.blk hi; rcases ht with rfl | rfl | rfl | rfl | rfl <;> exact absurd (blk_typ hb h') (by decide)
 ·obtain ⟨_, h'⟩ := (h.lok x hx).o.blk hi; rcases ht with rfl | rfl | rfl | rfl | rfl <;> exact absurd (blk_typ hb h') (by decide)
 ·exact h.d.farT hi hb ht
structure Goes (J : Nat → Wm → Prop) (ss : List (Int × Int × Int)) (m : Nat) : Prop where
 step : ∀ (k : Nat) (W : Wm) (s : Int × Int × Int), J k W → ss[k]? = some s → StepOk W.g s.1 s.2.1 ∧ (0 ≤ s.2.2 ∧ s.2.2 < 18446744073709551616) ∧ W.under.length ≤ m ∧ (∀ a ∈ W.under, a.at_ ≤ W.g.t + s.1) ∧ ∀ us : List Ans, us.Perm W.under → J (k + 1) (W.step us s.1 s.2.1 s.2.2)
 lm : m ≤ 16
 ln : (ss.length + 1) * (5 * m + 3) ≤ 185000
def stpc (s : Int × Int × Int) : List Value := [.int .i64 s.1, .int .i64 s.2.1, .int .u64 s.2.2]
def offc (W : Wm) : List Value := [.int .i64 W.off]
def okc : List Value := [.int .i64 0]
structure RunPost (J : Nat → Wm → Prop) (ss : List (Int × Int × Int)) (w : World) (e : Ending) (w' : World) : Prop where
 ex : ∃ (Ws : List Wm) (Wl : Wm) (ev ov : Value) (ge go gl : Option Nat) (la : Option Addr) (lc : Nat) (L : List LG) (s : ByteArray),
  e = .returned (.tuple #[.agg #[ev, ov, .slice la Wl.log.length lc, .int .i64 Wl.sent, .string s], .int .i64 0, .int .i64 0]) ∧
   Ws.length = ss.length ∧ (∀ (k : Nat) (W : Wm), Ws[k]? = some W → J (k + 1) W) ∧ J ss.length Wl ∧ Owns w' 42 1 ev ge (List.replicate ss.length okc) ∧ Owns w' 2 1 ov go (Ws.map offc) ∧
   L.map (fun x : LG => (x.th, x.off)) = Wl.log ∧ Owns w' 104 3 (.slice la Wl.log.length lc) gl (L.map lgc)
 c : Chg (fun _ => False) w w'
structure RunAt (J : Nat → Wm → Prop) (m : Nat) (w0 : World) (b p8 p2 j : Nat) (w : World) : Prop where
 r : Blk w p2 41 #[.slice none 0 0, .slice none 0 0, .slice none 0 0, .int .i64 0, .string ⟨#[]⟩]
 ex : ∃ (N : Nat) (W : Wm) (B : WB) (Ws : List Wm) (ev ov : Value) (ge go : Option Nat), N ≤ j * (5 * m + 3) ∧ WAt N w b W B ∧ J j W ∧ Ws.length = j ∧ (∀ (k : Nat) (W : Wm), Ws[k]? = some W → J (k + 1) W) ∧
  Blk w p8 41 #[ev, ov, .slice none 0 0, .int .i64 0, .string ⟨#[]⟩] ∧ Owns w 42 1 ev ge (List.replicate j okc) ∧ Owns w 2 1 ov go (Ws.map offc) ∧ (∀ k, ge = some k → w0.heap.size ≤ k) ∧ (∀ k, go = some k → w0.heap.size ≤ k) ∧ (∀ i, WAll b B i → w0.heap.size ≤ i)
 c : Chg (fun _ => False) w0 w
theorem info42 : (Tryz.prog.info? 42).map (fun i => (i.zero, i.size, i.bytes)) = some (some (.int .i64 0), 1, 8) := by kernel_rfl
theorem info2 : (Tryz.prog.info? 2).map (fun i => (i.zero, i.size, i.bytes)) = some (some (.int .i64 0), 1, 8) := by kernel_rfl
theorem run12 (J : Nat → Wm → Prop) (ss : List (Int × Int × Int)) (m : Nat) (hG : Goes J ss m) (t : List UInt8) (c : Cfg) (ht : t.length < 4294967281) (hp : parseI t = (c, 0, 0)) (n0 n1 n2 rate : Int) (h0 : -1152921504606846976 ≤ n0 ∧ n0 ≤ 1152921504606846976) (h1 : 0 ≤ n1 ∧ n1 ≤ 1152921504606846976)
  (h2 : -2305843009213693952 ≤ n2 ∧ n2 ≤ 2305843009213693952) (hr : 0 ≤ rate ∧ rate ≤ 1000) (ys : List Way) (ya : Option Addr) (ycap : Nat) (hy : ∀ y ∈ ys, y.Ok) (hyl : ys.length = c.servers.length) (hJ : J 0 (wm0 c n0 n1 n2 rate ys))
  (w : World) (hR : Reads w 6 ya (ys.map fun y => (wayc y).toList)) (hnil : ya = none → ys.length = 0 ∧ ycap = 0) (hcap : ys.length ≤ ycap) (sa : Option Addr) (scap : Nat) (hsR : Reads w 3 sa (ss.map stpc)) (hsc : ss.length ≤ scap) (n : Nat) (hl : Laid n w) (hT : Told n w) :
  Calls Tryz.prog 12 #[.agg #[strv t, .int .i64 n0, .int .i64 n1, .int .i64 n2, .int .i64 rate, .slice ya ys.length ycap, .slice sa ss.length scap]] w (RunPost J ss w) := by
 have A1 := Blk.new w 49 #[strv t, .int .i64 n0, .int .i64 n1, .int .i64 n2, .int .i64 rate, .slice ya ys.length ycap, .slice sa ss.length scap]
 have c1 := chg0_alloc w (Obj.cells #[strv t, .int .i64 n0, .int .i64 n1, .int .i64 n2, .int .i64 rate, .slice ya ys.length ycap, .slice sa ss.length scap] 49)
 have hsz : (w.alloc (Obj.cells #[strv t, .int .i64 n0, .int .i64 n1, .int .i64 n2, .int .i64 rate, .slice ya ys.length ycap, .slice sa ss.length scap] 49)).heap.size = w.heap.size + 1 := by simp
 obtain ⟨p1, hp1⟩ : ∃ p, p = w.heap.size := ⟨_, rfl⟩
 rw [← hp1] at A1
 have HP1 := Lib.hid hp1
 have HP := Lib.hid hp
 have HG := Lib.hid hG
 have HJ := Lib.hid hJ
 have HRG := Lib.hid (And.intro h0 (And.intro h1 (And.intro h2 hr)))
 have HY := Lib.hid (And.intro hy (And.intro hyl (And.intro hnil hcap)))
 have HT0 := Lib.hid ht
 have HSR := Lib.hid hsR
 have HR0 := Lib.hid hR
 have HLA := Lib.hid hl
 have HTO := Lib.hid hT
 clear hp1 hp hG hJ h0 h1 h2 hr hy hyl hnil hcap ht hsR hR hl hT
 unfold strv at *
 go_enter Tryz.func12, Tryz.ntmps12
 go_upto_region 1 with (fail)
 rw [← HP1.out]
 generalize w.alloc (Obj.cells #[.string ⟨t.toArray⟩, .int .i64 n0, .int .i64 n1, .int .i64 n2, .int .i64 rate, .slice ya ys.length ycap, .slice sa ss.length scap] 49) = wb at *
 have A2 := Blk.new wb 41 #[.slice none 0 0, .slice none 0 0, .slice none 0 0, .int .i64 0, .string ⟨#[]⟩]
 have c2 := chg0_alloc wb (Obj.cells #[.slice none 0 0, .slice none 0 0, .slice none 0 0, .int .i64 0, .string ⟨#[]⟩] 41)
 obtain ⟨p2, hq2⟩ : ∃ p, p = p1 + 1 := ⟨_, rfl⟩
 have hp2 : p2 = wb.heap.size := by rw [hsz, hq2, HP1.out]
 rw [← hp2] at A2
 rw [← hq2]
 clear hq2
 have A1' := A1.chg c2 (fun h => h)
 generalize wb.alloc (Obj.cells #[.slice none 0 0, .slice none 0 0, .slice none 0 0, .int .i64 0, .string ⟨#[]⟩] 41) = wa at *
 have ca := c1.trans c2
 have k0 := A1'.cell 0
 have k1 := A1'.cell 1
 have k2 := A1'.cell 2
 have k3 := A1'.cell 3
 have k4 := A1'.cell 4
 have k5 := A1'.cell 5
 simp at k0 k1 k2 k3 k4 k5
 have hge2 : w.heap.size ≤ p2 := by rw [hp2]; exact c1.size
 have HNW := Lib.hid (new14 t c HT0.out HP.out n0 n1 n2 rate HRG.out.1 HRG.out.2.1 HRG.out.2.2.1 HRG.out.2.2.2 ys ya ycap HY.out.1 HY.out.2.1 wa (HR0.out.chg ca (fun _ _ h => h)) HY.out.2.2.1 HY.out.2.2.2 n (HLA.out.chg0 ca))
 unfold strv at HNW
 have HA1 := Lib.hid A1'
 have HA2 := Lib.hid A2
 have HCA := Lib.hid ca
 have HP2 := Lib.hid (And.intro hp2 (And.intro hge2 hsz))
 clear A1 A1' A2 c1 c2 ca hp2 hge2 hsz
 go_wp2_with fail
 refine HNW.out.mono ?_
 rintro e w2 ⟨⟨b, B, rfl, hW2, hWge⟩, c3⟩
 have HW2 := Lib.hid (And.intro hW2 hWge)
 have HC3 := Lib.hid c3
 clear hW2 hWge c3 k0 k1 k2 k3 k4 k5 HNW
 go_upto_region 5 with (fail)
 have A8 := Blk.new w2 41 #[.slice none 0 0, .slice none 0 0, .slice none 0 0, .int .i64 0, .string ⟨#[]⟩]
 have c8 := chg0_alloc w2 (Obj.cells #[.slice none 0 0, .slice none 0 0, .slice none 0 0, .int .i64 0, .string ⟨#[]⟩] 41)
 obtain ⟨p8, hp8⟩ : ∃ p, p = w2.heap.size := ⟨_, rfl⟩
 rw [← hp8] at A8
 rw [← hp8]
 generalize w2.alloc (Obj.cells #[.slice none 0 0, .slice none 0 0, .slice none 0 0, .int .i64 0, .string ⟨#[]⟩] 41) = w3 at *
 have k6 := ((HA1.out.chg HC3.out (fun h => h)).chg c8 (fun h => h)).cell 6
 simp at k6
 have hra : RunAt J m w b p8 p2 0 w3 := by
  have s1 := HCA.out.size
  refine ⟨(HA2.out.chg HC3.out (fun h => h)).chg c8 (fun h => h), ⟨0, _, B, [], .slice none 0 0, .slice none 0 0, none, none, by omega, HW2.out.1.chg0 c8, HJ.out, rfl, by simp, A8, Owns.nil _ _ _, Owns.nil _ _ _, by simp, by simp, fun i hi => ?_⟩, (HCA.out.trans HC3.out).trans c8⟩
  have := HW2.out.2 i hi
  omega
 have HRA := Lib.hid hra
 have hp2l : p2 < w3.heap.size := by
  have h1 := HA2.out.lt
  have h2 := HC3.out.size
  have h3 := c8.size
  omega
 have HA2' := Lib.hid ((HA2.out.chg HC3.out (fun h => h)).chg c8 (fun h => h))
 have hp28 : p2 ≠ p8 := by
  have h1 := HA2.out.lt
  have h2 := HC3.out.size
  omega
 have HC33 := Lib.hid ((HCA.out.trans HC3.out).trans c8)
 have hp8g : w.heap.size ≤ p8 := by rw [hp8]; exact (HCA.out.trans HC3.out).size
 have HGE := Lib.hid (And.intro hp2l (And.intro hp28 hp8g))
 clear A8 c8 hp8 hra hp2l hp28 hp8g
 obtain ⟨sn, hsn⟩ : ∃ sn, sn = ss.length := ⟨_, rfl⟩
 rw [← hsn] at k6 hsc
 have HSN := Lib.hid hsn
 clear hsn
 go_wp2_with fail
 go_loopw [32] (fun i wr => ∃ j : Nat, j ≤ sn ∧ i = .int .i64 j ∧ RunAt J m w b p8 p2 j wr) (fun i _ => sn - (intOf i).toNat)
 case atStart => exact ⟨0, Nat.zero_le _, rfl, HRA.out⟩
 case round =>
  clear HRA
  obtain ⟨j, hj, rfl, rr, ⟨N, W, B1, Ws, ev, ov, ge, go, r1, r2, r3, r4, r5, r6, r7, r8, r9, r10, r11⟩, cr⟩ := hrel
  have hmul : (j + 1) * (5 * m + 3) = j * (5 * m + 3) + (5 * m + 3) := Nat.succ_mul _ _
  by_cases hjs : j < sn
  ·have hjI : (j : Int) < sn := by omega
   have hj0 : (0 : Int) ≤ j := by omega
   have hjc : j < scap := by omega
   obtain ⟨s, hs⟩ : ∃ s, ss[j]? = some s := ⟨_, List.getElem?_eq_getElem (by rw [← HSN.out]; exact hjs)⟩
   obtain ⟨g1, g2, g3, g4, g5⟩ := HG.out.step j W s r3 hs
   obtain ⟨kb, off, hsa, hcl⟩ := HSR.out (by rw [List.length_map, ← HSN.out]; omega)
   subst hsa
   have hsj : (ss.map stpc)[j]? = some (stpc s) := by rw [List.getElem?_map, hs]; rfl
   have f0 := cr.keep (hcl j _ hsj 0 _ rfl) (fun h => h)
   have f1 := cr.keep (hcl j _ hsj 1 _ rfl) (fun h => h)
   have f2 := cr.keep (hcl j _ hsj 2 _ rfl) (fun h => h)
   rw [← Nat.add_assoc] at f0 f1 f2
   rw [Nat.add_zero] at f0
   obtain ⟨dt, dh, dr⟩ := s
   simp only at f0 f1 f2 g1 g2 g3 g4 g5
   have hNl : N + 5 * W.under.length + 3 ≤ (j + 1) * (5 * m + 3) := by rw [hmul]; omega
   have hNm : (j + 1) * (5 * m + 3) ≤ (ss.length + 1) * (5 * m + 3) := Nat.mul_le_mul_right _ (by rw [← HSN.out]; omega)
   have hlim := HG.out.ln
   have hlm := HG.out.lm
   have HRR := Lib.hid rr
   have HR := Lib.hid (And.intro r2 (And.intro r3 (And.intro r4 (And.intro r5 (And.intro r6 (And.intro r7 (And.intro r8 (And.intro r9 (And.intro r10 r11)))))))))
   have HCR := Lib.hid cr
   have HGS := Lib.hid (And.intro g1 (And.intro g2 (And.intro g3 (And.intro g4 g5))))
   have HNN := Lib.hid (And.intro hNl (And.intro hNm (And.intro hlim hlm)))
   clear rr r1 r2 r3 r4 r5 r6 r7 r8 r9 r10 r11 cr hs hcl hsj g1 g2 g3 g4 g5 hmul hNl hNm hlim hlm
   go_upto_region 8 with (fail)
   have A9 := Blk.new wr 56 #[.int .i64 dt, .int .i64 dh, .int .u64 dr]
   have cA := chg0_alloc wr (Obj.cells #[.int .i64 dt, .int .i64 dh, .int .u64 dr] 56)
   obtain ⟨p10, hp10⟩ : ∃ p, p = wr.heap.size := ⟨_, rfl⟩
   rw [← hp10] at A9
   rw [← hp10]
   generalize wr.alloc (Obj.cells #[.int .i64 dt, .int .i64 dh, .int .u64 dr] 56) = we at *
   have hWe := HR.out.1.chg0 cA
   have X8 := HR.out.2.2.2.2.1.chg cA (fun h => h)
   have E8 := HR.out.2.2.2.2.2.1.chg cA (fun _ _ h => h)
   have O8 := HR.out.2.2.2.2.2.2.1.chg cA (fun _ _ h => h)
   -- what lies apart
   have n1 : ∀ {i : Nat} {t : TypeId} {cs : Array Value}, Blk we i t cs → (t = 41 ∨ t = 42 ∨ t = 2 ∨ t = 56 ∨ t = 29) → t ≠ 42 → ¬ (WAll b B1 i ∨ ge = some i) := fun hb ht h1 h => by
    rcases h with h | h
    ·exact hWe.farT h hb ht
    ·obtain ⟨_, h'⟩ := E8.blk h
     exact h1 (blk_typ hb h')
   have q0 := X8.cell 0
   have q1 := A9.cell 0
   have q2 := A9.cell 1
   have q3 := A9.cell 2
   simp at q0 q1 q2 q3
   have R8 := HRR.out.chg cA (fun h => h)
   have np2 := n1 R8 (.inl rfl) (by decide)
   have HR8 := Lib.hid (fun W' (hW : Chg (fun i => WAll b B1 i ∨ ge = some i) we W') => R8.chg hW np2)
   have np8 := n1 X8 (.inl rfl) (by decide)
   have np10 := n1 A9 (.inr (.inr (.inr (.inl rfl)))) (by decide)
   have HS8 := Lib.hid (fun W' (hW : Chg (fun i => WAll b B1 i ∨ ge = some i) we W') => (⟨hW.keep q0 np8, hW.keep q1 np10, hW.keep q2 np10, hW.keep q3 np10⟩ : W'.cell? ⟨p8, 0, none⟩ = some ev ∧ W'.cell? ⟨p10, 0, none⟩ = some (.int .i64 dt) ∧ W'.cell? ⟨p10, 1, none⟩ = some (.int .i64 dh) ∧ W'.cell? ⟨p10, 2, none⟩ = some (.int .u64 dr)))
   have HDO := Lib.hid (fun W' (hW : Chg (fun _ => False) we W') => do16 (hWe.chg0 hW) HGS.out.1 HGS.out.2.1 (by have h1 := HGS.out.2.2.1; have h2 := HNN.out.2.2.2; omega) HGS.out.2.2.2.1 (by have h1 := HNN.out; omega))
   have HE8 := Lib.hid (fun W' (hW : Chg (WAll b B1) we W') => E8.chg hW (fun k hk h => by
    obtain ⟨_, h'⟩ := E8.blk hk
    exact hWe.farT h h' (.inr (.inl rfl))))
   have HX8 := Lib.hid (fun W' (hW : Chg (fun i => WAll b B1 i ∨ ge = some i) we W') => X8.chg hW np8)
   have HH8 := Lib.hid (And.intro hWe (And.intro A9 (And.intro O8 cA)))
   have HPP := Lib.hid hp10
   have HSZ8 : Hid (wr.heap.size ≤ we.heap.size) := Lib.hid cA.size
   obtain ⟨i0, hi1, hi2, hi3, hi4⟩ := info_parts info42
   have hjn : j ≤ 185000 := by
    have h1 := HNN.out
    have h2 : j + 1 ≤ (j + 1) * (5 * m + 3) := Nat.le_mul_of_pos_right _ (by omega)
    omega
   clear R8 np2 hWe X8 E8 O8 n1 q0 q1 q2 q3 np8 np10 A9 cA hp10 f0 f1 f2
   refine wp_region_noPanic ?_
   refine wp_region_till (s := 8) (S := fun w' => w'.cell? ⟨p8, 0, none⟩ = some ev ∧ w'.cell? ⟨p10, 0, none⟩ = some (.int .i64 dt) ∧ w'.cell? ⟨p10, 1, none⟩ = some (.int .i64 dh) ∧ w'.cell? ⟨p10, 2, none⟩ = some (.int .u64 dr)) (by kernel_rfl) ?_
   have hHeld := HS8.out we.drew (Chg.drew (Chg.refl _ _))
   refine wP 0 36 _ (fun _ => hHeld) ?_
   refine wL 1 37 _ (fun _ => hHeld) ?_
   refine wP 2 38 _ (fun _ => hHeld) ?_
   refine wL 3 39 _ (fun _ => hHeld) ?_
   refine wpTill_one (i := 4) (oi := ⟨some 40, _, _, _, _, _⟩) rfl (by kernel_rfl) (fun KK hKK => ?_)
   go_simp
   refine (HDO.out _ kC).mono ?_
   rintro e w9 ⟨rfl, ⟨us, B2, u1, u2, u3⟩, c9⟩
   have c9' : Chg (WAll b B1) we w9 := Chg.trans (Chg.mono (S := fun _ => False) kC (fun _ _ h => h.elim)) c9
   have cT : Chg (fun i => WAll b B1 i ∨ ge = some i) we w9 := c9'.mono (fun _ _ h => .inl h)
   refine hKK _ _ (andS (HS8.out _ kC) (fun hHeld' => ?_))
   clear hKK KK
   try simp only [Act.put, qA, qB, qC]
   refine wpTill_one (i := 5) (oi := ⟨some 41, _, _, _, _, _⟩) rfl (by kernel_rfl) (fun KK hKK => ?_)
   go_simp
   refine hKK _ _ (andS (HS8.out _ kC) (fun hHeld'' => ?_))
   clear hKK KK
   try simp only [Act.put, qA, qB, qC]
   refine wpTill_one (i := 6) (oi := ⟨some 42, _, _, _, _, _⟩) rfl (by kernel_rfl) (fun KK hKK => ?_)
   refine step_app (by rfl) (.tmp 37) (.tmp 41) 37 (by rfl) 42 i0 _ 1 8 Tryz.underlying37 hi1 hi2 hi3 hi4 rfl (by omega) ev ge (List.replicate j okc) (by rfl) (HE8.out _ (show Chg (WAll b B1) we _ from kC)) _ _ [[.int .i64 0]] 1 1 (by rfl) rfl (Blk.new _ _ _) (by simp) (by simp [Value.oneCell']) (by simp) (by simp; omega) (by simp [maxLen]; omega) ?_
   intro k1 cap1 v1 ho1 hch1 hk1
   have cT8 : Chg (fun i => WAll b B1 i ∨ ge = some i) we v1 := Chg.trans (Chg.mono (S := WAll b B1) kC (fun _ _ h => .inl h)) (hch1.mono (fun _ _ h => .inr h))
   have z0 := (HX8.out _ cT8).frozen 0
   refine hKK _ _ (andS (HS8.out _ kC) (fun hHeld''' => ?_))
   clear hKK KK
   try simp only [Act.put, qA, qB, qC]
   refine wP 7 43 _ (fun _ => hHeld''') ?_
   refine wpTill_one (i := 8) (oi := ⟨none, _, _, _, _, _⟩) rfl (by kernel_rfl) (fun KK hKK => ?_)
   go_simp
   refine hKK _ _ ⟨(fun h => (by simp at h)), ?_⟩
   clear hKK KK
   try simp only [Act.put, qA, qB, qC]
   refine wpTill_done (by kernel_rfl) ?_
   refine NoPanic.normal ?_
   obtain ⟨nv, hnv⟩ : ∃ nv, nv = Value.slice (some ⟨k1, 0, none⟩) (j + 1) cap1 := ⟨_, rfl⟩
   rw [← hnv]
   have hlen1 : (List.replicate j okc).length + ([[.int .i64 0]] : List (List Value)).length = j + 1 := by simp
   have ho1' : Owns v1 42 1 nv (some k1) (List.replicate (j + 1) okc) := by
    rw [hnv, List.replicate_succ']
    rw [hlen1] at ho1
    exact ho1
   have XV := HX8.out v1 cT8
   have X9 : Blk (v1.setCell ⟨p8, 0, none⟩ nv) p8 41 #[nv, ov, .slice none 0 0, .int .i64 0, .string ⟨#[]⟩] := by
    have := XV.set_ 0 nv
    simpa using this
   have c91 : Chg (fun i => ge = some i) w9 v1 := ((Chg.refl (fun i => ge = some i) w9).alloc _).trans hch1
   have E9 := HE8.out w9 c9'
   have XW : Blk w9 p8 41 #[ev, ov, .slice none 0 0, .int .i64 0, .string ⟨#[]⟩] := HX8.out w9 cT
   have cP : Chg (fun i => i = p8) v1 (v1.setCell ⟨p8, 0, none⟩ nv) := (Chg.refl (fun i => i = p8) v1).setCell (p := ⟨p8, 0, none⟩) (fun _ => rfl) nv
   have U1 := u2.chg c91 (fun i hi h => by
    obtain ⟨_, h'⟩ := E9.blk h
    exact u2.farT hi h' (.inr (.inl rfl)))
   have U2 := U1.chg cP (fun i hi h => by
    have h0 : i = p8 := h
    rw [h0] at hi
    exact U1.farT hi XV (.inl rfl))
   have E10 := ho1'.chg cP (fun k hk h => by
    obtain ⟨_, h'⟩ := ho1'.blk hk
    have h0 : k = p8 := h
    rw [h0] at h'
    exact absurd (blk_typ h' XV) (by decide))
   have O9 : Owns (v1.setCell ⟨p8, 0, none⟩ nv) 2 1 ov go (Ws.map offc) := by
    have hO := HH8.out.2.2.1
    have hO1 := hO.chg cT8 (fun k hk h => by
     obtain ⟨_, h'⟩ := hO.blk hk
     rcases h with h | h
     ·exact HH8.out.1.farT h h' (.inr (.inr (.inl rfl)))
     ·obtain ⟨_, h''⟩ := (HE8.out we (Chg.refl _ _)).blk h
      exact absurd (blk_typ h' h'') (by decide))
    exact hO1.chg cP (fun k hk h => by
     obtain ⟨_, h'⟩ := hO1.blk hk
     have h0 : k = p8 := h
     rw [h0] at h'
     exact absurd (blk_typ h' XV) (by decide))
   have R9 := (HR8.out v1 cT8).chg cP (fun h => HGE.out.2.1 h)
   have HRX := Lib.hid R9
   have hwsz : w.heap.size ≤ wr.heap.size := HCR.out.size
   have hesz := HSZ8.out
   have cW : Chg (fun _ => False) w (v1.setCell ⟨p8, 0, none⟩ nv) := by
    refine (((HCR.out.trans HH8.out.2.2.2).trans' cT8 (fun i hi h => ?_)).trans' cP (fun i hi h => ?_))
    ·obtain ⟨_, _, _, _, _, _, _, a1, _, a2⟩ := HR.out
     rcases h with h | h
     ·have := a2 i h; omega
     ·have := a1 i h; omega
    ·have h0 : i = p8 := h
     have := HGE.out.2.2
     omega
   have hk1g : w.heap.size ≤ k1 := by
    rcases hk1 with h | h
    ·exact HR.out.2.2.2.2.2.2.2.1 k1 h
    ·have h1 := c9'.size
     rw [World.size_alloc] at h
     omega
   have hall2 : ∀ i, WAll b B2 i → w.heap.size ≤ i := fun i hi => by
    rcases u3 i hi with h | h
    ·exact HR.out.2.2.2.2.2.2.2.2.2 i h
    ·have h' : we.heap.size ≤ i := h
     omega
   have hJ2 := HGS.out.2.2.2.2 us u1
   have HOF := Lib.hid (fun W' (hW : Chg (fun _ => False) (v1.setCell ⟨p8, 0, none⟩ nv) W') => off31 (U2.chg0 hW) (Int.le_trans U2.d.ok.hk U2.h) (by have := U2.gok.h; omega))
   have hNle : N + 5 * W.under.length + 3 ≤ (j + 1) * (5 * m + 3) := HNN.out.1
   have HF := Lib.hid (And.intro hNle (And.intro U2 (And.intro hJ2 (And.intro E10 (And.intro hk1g (And.intro hall2 cW))))))
   have HGO := Lib.hid HR.out.2.2.2.2.2.2.2.2.1
   have HWS := Lib.hid (And.intro HR.out.2.2.1 HR.out.2.2.2.1)
   obtain ⟨W2, hW2⟩ : ∃ W2, W2 = W.step us dt dh dr := ⟨_, rfl⟩
   rw [← hW2] at HF HOF
   obtain ⟨i2, hj1, hj2, hj3, hj4⟩ := info_parts info2
   have q1 := X9.cell 1
   simp at q1
   generalize v1.setCell ⟨p8, 0, none⟩ nv = wX at *
   have HX9 := Lib.hid (fun W' (hW : Chg (fun i => go = some i) wX W') => X9.chg hW (fun h => by
    obtain ⟨_, h'⟩ := O9.blk h
    exact absurd (blk_typ h' X9) (by decide)))
   have HS9 := Lib.hid (fun W' (hW : Chg (fun i => go = some i) wX W') => (hW.keep q1 (fun h => by
    obtain ⟨_, h'⟩ := O9.blk h
    exact absurd (blk_typ h' X9) (by decide)) : W'.cell? ⟨p8, 1, none⟩ = some ov))
   have HO9 := Lib.hid O9
   clear R9 hnv hlen1 ho1' XV X9 c91 E9 XW cP U1 U2 E10 O9 hwsz hesz cW hk1g hall2 hJ2 hNle hW2 ho1 hch1 hk1 cT8 z0 hHeld''' hHeld'' hHeld' hHeld c9 c9' cT u1 u2 u3 q1
   go_upto_region 9 with (fail)
   refine wp_region_noPanic ?_
   refine wp_region_till (s := 7) (S := fun w' => w'.cell? ⟨p8, 1, none⟩ = some ov) (by kernel_rfl) ?_
   have hHeld := HS9.out wX.drew (Chg.drew (Chg.refl _ _))
   refine wP 0 44 _ (fun _ => hHeld) ?_
   refine wL 1 45 _ (fun _ => hHeld) ?_
   refine wP 2 46 _ (fun _ => hHeld) ?_
   refine wpTill_one (i := 3) (oi := ⟨some 47, _, _, _, _, _⟩) rfl (by kernel_rfl) (fun KK hKK => ?_)
   go_simp
   refine (HOF.out _ kC).mono ?_
   rintro e w9 ⟨rfl, c9⟩
   have cT : Chg (fun _ => False) wX w9 := Chg.trans kC c9
   have cTg : Chg (fun i => go = some i) wX w9 := cT.mono (fun _ _ h => h.elim)
   refine hKK _ _ (andS (HS9.out _ kC) (fun hHeld' => ?_))
   clear hKK KK
   try simp only [Act.put, qA, qB, qC]
   refine wpTill_one (i := 4) (oi := ⟨some 48, _, _, _, _, _⟩) rfl (by kernel_rfl) (fun KK hKK => ?_)
   go_simp
   refine hKK _ _ (andS (HS9.out _ kC) (fun hHeld'' => ?_))
   clear hKK KK
   try simp only [Act.put, qA, qB, qC]
   refine wpTill_one (i := 5) (oi := ⟨some 49, _, _, _, _, _⟩) rfl (by kernel_rfl) (fun KK hKK => ?_)
   refine step_app (by rfl) (.tmp 45) (.tmp 48) 38 (by rfl) 2 i2 _ 1 8 Tryz.underlying38 hj1 hj2 hj3 hj4 rfl (by omega) ov go (Ws.map offc) (by rfl) (HO9.out.chg (show Chg (fun _ => False) wX _ from kC) (fun _ _ h => h)) _ _ [offc W2] 1 1 (by rfl) rfl (Blk.new _ _ _) (by simp [offc]) (by simp [offc, Value.oneCell']) (by simp) (by rw [List.length_map, HWS.out.1]; simp; omega) (by rw [List.length_map, HWS.out.1]; simp [maxLen]; omega) ?_
   intro k2 cap2 v2 ho2 hch2 hk2
   have cT8 : Chg (fun i => go = some i) wX v2 := Chg.trans (Chg.mono (S := fun _ => False) kC (fun _ _ h => h.elim)) hch2
   have hsz2 : wX.heap.size ≤ k2 ∨ go = some k2 := hk2.symm.imp (fun h => Nat.le_trans (Chg.size (S := fun _ => False) kC) h) id
   have z1 := (HX9.out _ cT8).frozen 1
   refine hKK _ _ (andS (HS9.out _ kC) (fun hHeld''' => ?_))
   clear hKK KK
   try simp only [Act.put, qA, qB, qC]
   refine wP 6 50 _ (fun _ => hHeld''') ?_
   refine wpTill_one (i := 7) (oi := ⟨none, _, _, _, _, _⟩) rfl (by kernel_rfl) (fun KK hKK => ?_)
   go_simp
   refine hKK _ _ ⟨(fun h => (by simp at h)), ?_⟩
   clear hKK KK
   try simp only [Act.put, qA, qB, qC]
   refine wpTill_done (by kernel_rfl) ?_
   refine NoPanic.normal ?_
   obtain ⟨nw, hnw⟩ : ∃ nw, nw = Value.slice (some ⟨k2, 0, none⟩) (Ws.length + 1) cap2 := ⟨_, rfl⟩
   have hwl := HWS.out.1
   have ho2' : Owns v2 2 1 nw (some k2) ((Ws ++ [W2]).map offc) := by
    rw [hnw, List.map_append]
    have hl : (Ws.map offc).length + ([offc W2] : List (List Value)).length = Ws.length + 1 := by simp
    rw [hl] at ho2
    exact ho2
   have XV := HX9.out v2 cT8
   obtain ⟨hNle, U2, hJ2, E10, hk1g, hall2, cW⟩ := HF.out
   have OX := HO9.out
   have cP : Chg (fun i => i = p8) v2 (v2.setCell ⟨p8, 1, none⟩ nw) := (Chg.refl (fun i => i = p8) v2).setCell (p := ⟨p8, 1, none⟩) (fun _ => rfl) nw
   have X9 : Blk (v2.setCell ⟨p8, 1, none⟩ nw) p8 41 #[nv, nw, .slice none 0 0, .int .i64 0, .string ⟨#[]⟩] := by
    have := XV.set_ 1 nw
    simpa using this
   have V1 := U2.chg cT8 (fun i hi h => by
    obtain ⟨_, h'⟩ := OX.blk h
    exact U2.farT hi h' (.inr (.inr (.inl rfl))))
   have V2 := V1.chg cP (fun i hi h => by
    have h0 : i = p8 := h
    rw [h0] at hi
    exact V1.farT hi XV (.inl rfl))
   have E11 := E10.chg cT8 (fun k hk h => by
    obtain ⟨_, h'⟩ := E10.blk hk
    obtain ⟨_, h''⟩ := OX.blk h
    exact absurd (blk_typ h' h'') (by decide))
   have E12 := E11.chg cP (fun k hk h => by
    obtain ⟨_, h'⟩ := E11.blk hk
    have h0 : k = p8 := h
    rw [h0] at h'
    exact absurd (blk_typ h' XV) (by decide))
   have O12 := ho2'.chg cP (fun k hk h => by
    obtain ⟨_, h'⟩ := ho2'.blk hk
    have h0 : k = p8 := h
    rw [h0] at h'
    exact absurd (blk_typ h' XV) (by decide))
   have R12 := (HRX.out.chg cT8 (fun h => by
    obtain ⟨_, h'⟩ := OX.blk h
    exact absurd (blk_typ HRX.out h') (by decide))).chg cP (fun h => HGE.out.2.1 h)
   have hk2g : w.heap.size ≤ k2 := by
    rcases hsz2 with h | h
    ·have := cW.size; omega
    ·exact HGO.out k2 h
   have cZ : Chg (fun _ => False) w (v2.setCell ⟨p8, 1, none⟩ nw) := by
    refine ((cW.trans' cT8 (fun i hi h => ?_)).trans' cP (fun i hi h => ?_))
    ·have := HGO.out i h; omega
    ·have h0 : i = p8 := h
     have := HGE.out.2.2
     omega
   have HFIN : Hid (RunAt J m w b p8 p2 (j + 1) (v2.setCell ⟨p8, 1, none⟩ nw)) := Lib.hid ⟨R12, ⟨_, W2, B2, Ws ++ [W2], nv, nw, some k1, some k2, hNle, V2, hJ2, by rw [List.length_append, hwl]; rfl, fun k W' hk => by
    by_cases hkl : k < Ws.length
    ·rw [List.getElem?_append_left hkl] at hk
     exact HWS.out.2 k W' hk
    ·rw [List.getElem?_append_right (by omega)] at hk
     have hk0 : k - Ws.length = 0 := by
      rcases Nat.eq_zero_or_pos (k - Ws.length) with h | h
      ·exact h
      ·rw [List.getElem?_eq_none (by simp; omega)] at hk; cases hk
     rw [hk0] at hk
     cases hk
     have : k = j := by omega
     rw [this]; exact hJ2, X9, E12, O12, fun k hk => by cases hk; exact hk1g, fun k hk => by cases hk; exact hk2g, hall2⟩, cZ⟩
   rw [← hnw]
   clear R12 hnw ho2' XV hNle U2 hJ2 E10 hk1g hall2 cW OX cP X9 V1 V2 E11 E12 O12 hk2g cZ ho2 hch2 hk2 cT8 z1 cT cTg c9 hsz2 hHeld
   go_wp2_with fail
   exact ⟨⟨j + 1, by omega, by simp, HFIN.out⟩, by simp [intOf]; omega⟩
  ·have hje : j = sn := by omega
   subst hje
   have hlim := HG.out.ln
   have hN0 : N ≤ 185000 := by
    have h1 : j * (5 * m + 3) ≤ (ss.length + 1) * (5 * m + 3) := Nat.mul_le_mul_right _ (by rw [← HSN.out]; omega)
    omega
   have HLG := Lib.hid (log17 r2 (by omega))
   have HSE := Lib.hid (fun W' (hW : Chg (fun _ => False) wr W') => sent27 (r2.chg0 hW))
   have HCO := Lib.hid (fun W' (hW : Chg (fun _ => False) wr W') => counts32 (r2.chg0 hW) (by omega) ((HTO.out.chg0 cr).chg0 hW))
   have HX := Lib.hid (fun W' (hW : Chg (fun _ => False) wr W') => r6.chg hW (fun h => h))
   have HRR := Lib.hid (And.intro rr (And.intro r3 (And.intro r4 (And.intro r5 (And.intro r7 (And.intro r8 (And.intro r9 (And.intro r10 cr))))))))
   have HX6 := Lib.hid r6
   clear rr r1 r2 r3 r4 r5 r6 r7 r8 r9 r10 r11 cr hlim hmul
   go_wp2_with fail
   refine HLG.out.mono ?_
   rintro e w4 ⟨⟨la, lc, gl, L, rfl, l1, l2, l3⟩, c4⟩
   have HL := Lib.hid (And.intro l1 (And.intro l2 (And.intro l3 c4)))
   have HSE' := Lib.hid (HSE.out w4 c4)
   clear l1 l2 l3
   go_wp2_with fail
   refine HSE'.out.mono ?_
   rintro e w5 ⟨rfl, hw5⟩
   rw [hw5]
   clear hw5 w5
   go_wp2_with fail
   refine (HCO.out w4 c4).mono ?_
   rintro e w5 ⟨⟨s, rfl⟩, c5⟩
   have c45 := HL.out.2.2.2.trans c5
   have X5 := HX.out w5 c45
   have z2 := X5.frozen 2
   have z3 := X5.frozen 3
   have z4 := X5.frozen 4
   have y2 := X5.cell 2
   have y3 := X5.cell 3
   have y4 := X5.cell 4
   simp at y2 y3 y4
   have HX5 := Lib.hid X5
   have HC45 := Lib.hid (And.intro c45 c5)
   obtain ⟨ln, hln⟩ : ∃ ln, ln = W.log.length := ⟨_, rfl⟩
   obtain ⟨sen, hsen⟩ : ∃ sen, sen = W.sent := ⟨_, rfl⟩
   rw [← hln, ← hsen]
   have HLS := Lib.hid (And.intro hln hsen)
   clear X5 c45 c5 c4 hln hsen
   go_upto_region 12 with (fail)
   have X6 : Blk (((w5.setCell ⟨p8, 2, none⟩ (.slice la ln lc)).setCell ⟨p8, 3, none⟩ (.int .i64 sen)).setCell ⟨p8, 4, none⟩ (.string s)) p8 41 #[ev, ov, .slice la ln lc, .int .i64 sen, .string s] := by
    have := ((HX5.out.set_ 2 (.slice la ln lc)).set_ 3 (.int .i64 sen)).set_ 4 (.string s)
    simpa using this
   have c6 : Chg (fun i => i = p8) w5 (((w5.setCell ⟨p8, 2, none⟩ (.slice la ln lc)).setCell ⟨p8, 3, none⟩ (.int .i64 sen)).setCell ⟨p8, 4, none⟩ (.string s)) := (((Chg.refl (fun i => i = p8) w5).setCell (p := ⟨p8, 2, none⟩) (fun _ => rfl) _).setCell (p := ⟨p8, 3, none⟩) (fun _ => rfl) _).setCell (p := ⟨p8, 4, none⟩) (fun _ => rfl) _
   have R6 := (HRR.out.1.chg HC45.out.1 (fun h => h)).chg c6 (fun h => HGE.out.2.1 h)
   have HC6 := Lib.hid c6
   clear c6 y2 y3 y4 z2 z3 z4
   generalize ((w5.setCell ⟨p8, 2, none⟩ (.slice la ln lc)).setCell ⟨p8, 3, none⟩ (.int .i64 sen)).setCell ⟨p8, 4, none⟩ (.string s) = w6 at *
   have x0 := X6.cell 0
   have x1 := X6.cell 1
   have x2 := X6.cell 2
   have x3 := X6.cell 3
   have x4 := X6.cell 4
   have v0 := R6.cell 0
   have v1 := R6.cell 1
   have v2 := R6.cell 2
   have v3 := R6.cell 3
   have v4 := R6.cell 4
   have z0 := R6.frozen 0
   have z1 := R6.frozen 1
   have z2 := R6.frozen 2
   have z3 := R6.frozen 3
   have z4 := R6.frozen 4
   simp at x0 x1 x2 x3 x4 v0 v1 v2 v3 v4
   have HX6' := Lib.hid X6
   have HR6 := Lib.hid R6
   -- what it is whose cells are stored
   obtain ⟨ea, ecap, hev, -⟩ := HRR.out.2.2.2.2.1.form
   obtain ⟨oa, ocap, hov, -⟩ := HRR.out.2.2.2.2.2.1.form
   have HEV := Lib.hid (And.intro hev hov)
   clear X6 R6
   generalize (List.replicate j okc).length = en at *
   generalize (Ws.map offc).length = on at *
   subst hev
   subst hov
   go_wp2_with fail
   have B7 := ((((HR6.out.set_ 0 (.slice ea en ecap)).set_ 1 (.slice oa on ocap)).set_ 2 (.slice la ln lc)).set_ 3 (.int .i64 sen)).set_ 4 (.string s)
   have m0 := B7.cell 0
   have m1 := B7.cell 1
   have m2 := B7.cell 2
   have m3 := B7.cell 3
   have m4 := B7.cell 4
   simp at m0 m1 m2 m3 m4
   have c7 : Chg (fun i => i = p2) w6 (((((w6.setCell ⟨p2, 0, none⟩ (.slice ea en ecap)).setCell ⟨p2, 1, none⟩ (.slice oa on ocap)).setCell ⟨p2, 2, none⟩ (.slice la ln lc)).setCell ⟨p2, 3, none⟩ (.int .i64 sen)).setCell ⟨p2, 4, none⟩ (.string s)) :=
    (((((Chg.refl (fun i => i = p2) w6).setCell (p := ⟨p2, 0, none⟩) (fun _ => rfl) _).setCell (p := ⟨p2, 1, none⟩) (fun _ => rfl) _).setCell (p := ⟨p2, 2, none⟩) (fun _ => rfl) _).setCell (p := ⟨p2, 3, none⟩) (fun _ => rfl) _).setCell (p := ⟨p2, 4, none⟩) (fun _ => rfl) _
   refine bodyPost_ret (v := .tuple #[.agg #[.slice ea en ecap, .slice oa on ocap, .slice la ln lc, .int .i64 sen, .string s], .int .i64 0, .int .i64 0]) ?_ ?_ ?_
   ·simp [results, Tryz.results12, go_sem, m0, m1, m2, m3, m4]
   ·rfl
   ·have HXR := HX5.out
    have far : ∀ {i : Nat} {t : TypeId} {cs : Array Value}, Blk w5 i t cs → t ≠ 41 → ¬ i = p8 := fun hb ht h => by
     rw [h] at hb; exact ht (blk_typ hb HXR)
    have far2 : ∀ {i : Nat} {t : TypeId} {cs : Array Value}, Blk w6 i t cs → t ≠ 41 → ¬ i = p2 := fun hb ht h => by
     rw [h] at hb; exact ht (blk_typ hb HR6.out)
    have E5 := HRR.out.2.2.2.2.1.chg HC45.out.1 (fun _ _ h => h)
    have E6 := E5.chg HC6.out (fun k hk => by obtain ⟨_, h'⟩ := E5.blk hk; exact far h' (by decide))
    have E7 := E6.chg c7 (fun k hk => by obtain ⟨_, h'⟩ := E6.blk hk; exact far2 h' (by decide))
    have O5 := HRR.out.2.2.2.2.2.1.chg HC45.out.1 (fun _ _ h => h)
    have O6 := O5.chg HC6.out (fun k hk => by obtain ⟨_, h'⟩ := O5.blk hk; exact far h' (by decide))
    have O7 := O6.chg c7 (fun k hk => by obtain ⟨_, h'⟩ := O6.blk hk; exact far2 h' (by decide))
    have L5 := HL.out.2.1.chg HC45.out.2 (fun _ _ h => h)
    have L6 := L5.chg HC6.out (fun k hk => by obtain ⟨_, h'⟩ := L5.blk hk; exact far h' (by decide))
    have L7 := L6.chg c7 (fun k hk => by obtain ⟨_, h'⟩ := L6.blk hk; exact far2 h' (by decide))
    rw [HSN.out] at E7
    refine ⟨⟨Ws, W, _, _, ge, go, gl, la, lc, L, s, by rw [← HLS.out.1, ← HLS.out.2], by rw [← HSN.out]; exact HRR.out.2.2.1, HRR.out.2.2.2.1, by rw [← HSN.out]; exact HRR.out.2.1, E7, O7, HL.out.1, L7⟩, ?_⟩
    have h2 := HP2.out.2.1
    refine ((HRR.out.2.2.2.2.2.2.2.2.trans HC45.out.1).trans' HC6.out (fun i hi h => ?_)).trans' c7 (fun i hi h => ?_)
    ·have h0 : i = p8 := h
     have := HGE.out.2.2
     omega
    ·have h0 : i = p2 := h
     omega
end
end Go.Proofs.YtamhicdhbjniiaaGreatDoor
