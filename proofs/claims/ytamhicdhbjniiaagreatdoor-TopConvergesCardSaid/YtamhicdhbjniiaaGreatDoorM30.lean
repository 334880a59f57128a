/- conf.Parse: contract. -/
import Derived.Test.YtamhicdhbjniiaaGreatDoorM28
import Derived.Test.YtamhicdhbjniiaaGreatDoorM29
import Derived.Test.YtamhicdhbjniiaaGreatDoorM26
set_option linter.unusedVariables false
set_option maxHeartbeats 4000000
set_option maxRecDepth 100000
section
namespace Go.Chron
open Go Go.RowKit
theorem linesAcc_mem : ∀ (l : List (List UInt8)) (i : Nat) (x : Ln), x ∈ linesAcc i l → ∃ s ∈ l, x.ws = lineOf s ∧ lineOf s ≠ []
 | [], i, x, h => by simp [linesAcc] at h
 | s :: r, i, x, h => by
  unfold linesAcc at h
  rcases List.mem_append.1 h with h | h
  ·unfold lineAt at h
   split at h
   ·cases h
   ·rename_i hne
    simp at h
    subst h
    exact ⟨s, by simp, rfl, hne⟩
  ·obtain ⟨s', h1, h2⟩ := linesAcc_mem r (i + 1) x h
   exact ⟨s', List.mem_cons_of_mem _ h1, h2⟩
theorem linesI_mem {t : List UInt8} {x : Ln} (h : x ∈ (linesI t).1) : t.length ≤ 65536 ∧ x.ws ≠ [] ∧ x.ws.length ≤ t.length ∧ ∀ y ∈ x.ws, y.length ≤ t.length := by
 unfold linesI at h
 split at h
 ·cases h
 ·rename_i hlt
  split at h
  ·cases h
  ·obtain ⟨s, hs, h1, h2⟩ := linesAcc_mem _ _ _ h
   have hl := splitB_mem 10 t s hs
   refine ⟨by omega, by rw [h1]; exact h2, by rw [h1]; have := lineOf_count s; omega, fun y hy => ?_⟩
   rw [h1] at hy
   have := lineOf_len hy
   omega
theorem linesI_count (t : List UInt8) : (linesI t).1.length ≤ 65537 := by
 unfold linesI
 split
 ·simp
 ·rename_i hlt
  split
  ·simp
  ·have h1 := linesAcc_count (splitB 10 t) 0
   have h2 := splitB_len 10 t
   simp only
   omega
theorem linesI_in (t : List UInt8) : In64 (linesI t).2.1 ∧ 0 ≤ (linesI t).2.2 ∧ (linesI t).2.2 ≤ 7 := by
 unfold linesI
 split
 ·exact ⟨⟨by simp, by simp⟩, by simp, by simp⟩
 ·rename_i hlt
  split
  ·rename_i k hk
   have h1 := (List.findIdx?_eq_some_iff_findIdx_eq.1 hk).1
   have h2 := splitB_len 10 t
   refine ⟨⟨?_, ?_⟩, by simp, by simp⟩
   ·simp only; omega
   ·simp only; omega
  ·exact ⟨⟨by simp, by simp⟩, by simp, by simp⟩
end Go.Chron
namespace Go.Proofs.YtamhicdhbjniiaaGreatDoor
open Go Go.RowKit Go.Chron
theorem confI_app : ∀ (a : List Ln) (s : PS) (b : List Ln), (confI s a).2.2 = 0 → confI s (a ++ b) = confI (confI s a).1 b
 | [], s, b, _ => rfl
 | l :: r, s, b, h => by
  by_cases hl : (lineI s l.ws).2 ≠ 0
  ·have : confI s (l :: r) = (s, l.n, (lineI s l.ws).2) := if_pos hl
   rw [this] at h
   exact absurd h hl
  ·have h1 : confI s (l :: r) = confI (lineI s l.ws).1 r := if_neg hl
   have h2 : confI s (l :: r ++ b) = confI (lineI s l.ws).1 (r ++ b) := if_neg hl
   rw [h1] at h ⊢
   rw [h2]
   exact confI_app r _ b h
theorem confI_err {s : PS} {l : Ln} {r : List Ln} (h : (lineI s l.ws).2 ≠ 0) : confI s (l :: r) = (s, l.n, (lineI s l.ws).2) := if_pos h
theorem confI_one {s : PS} {l : Ln} (h : (lineI s l.ws).2 = 0) : confI s [l] = ((lineI s l.ws).1, 0, 0) := if_neg (fun hn => hn h)
theorem parseI_lex {t : List UInt8} (h : (linesI t).2.2 ≠ 0) : parseI t = (cfg0, (linesI t).2.1, (linesI t).2.2) := if_pos h
theorem parseI_line {t : List UInt8} (h : ¬ (linesI t).2.2 ≠ 0) (h2 : (confI ps0 (linesI t).1).2.2 ≠ 0) : parseI t = (cfg0, (confI ps0 (linesI t).1).2.1, (confI ps0 (linesI t).1).2.2) := (if_neg h).trans (if_pos h2)
theorem parseI_lack {t : List UInt8} (h : ¬ (linesI t).2.2 ≠ 0) (h2 : ¬ (confI ps0 (linesI t).1).2.2 ≠ 0) (h3 : seenAll (confI ps0 (linesI t).1).1 = false) : parseI t = (cfg0, 0, 13) := (if_neg h).trans ((if_neg h2).trans (if_pos h3))
theorem parseI_bad {t : List UInt8} (h : ¬ (linesI t).2.2 ≠ 0) (h2 : ¬ (confI ps0 (linesI t).1).2.2 ≠ 0) (h3 : ¬ seenAll (confI ps0 (linesI t).1).1 = false) (h4 : (confI ps0 (linesI t).1).1.c.check ≠ 0) : parseI t = (cfg0, 0, (confI ps0 (linesI t).1).1.c.check) :=
 (if_neg h).trans ((if_neg h2).trans ((if_neg h3).trans (if_pos h4)))
theorem parseI_fine {t : List UInt8} (h : ¬ (linesI t).2.2 ≠ 0) (h2 : ¬ (confI ps0 (linesI t).1).2.2 ≠ 0) (h3 : ¬ seenAll (confI ps0 (linesI t).1).1 = false) (h4 : ¬ (confI ps0 (linesI t).1).1.c.check ≠ 0) : parseI t = ((confI ps0 (linesI t).1).1.c, 0, 0) :=
 (if_neg h).trans ((if_neg h2).trans ((if_neg h3).trans (if_neg h4)))
theorem set6c {W : World} {g : Nat} {t : TypeId} {a0 a1 a2 a3 a4 a5 : Value} (D : Blk W g t #[a0, a1, a2, a3, a4, a5]) (u0 u1 u2 u3 u4 u5 : Value) :
  Blk ((((((W.setCell ⟨g, 0, none⟩ u0).setCell ⟨g, 1, none⟩ u1).setCell ⟨g, 2, none⟩ u2).setCell ⟨g, 3, none⟩ u3).setCell ⟨g, 4, none⟩ u4).setCell ⟨g, 5, none⟩ u5) g t #[u0, u1, u2, u3, u4, u5] ∧ Chg (fun i => i = g) W ((((((W.setCell ⟨g, 0, none⟩ u0).setCell ⟨g, 1, none⟩ u1).setCell ⟨g, 2, none⟩ u2).setCell ⟨g, 3, none⟩ u3).setCell ⟨g, 4, none⟩ u4).setCell ⟨g, 5, none⟩ u5) := by
 refine ⟨?_, (Chg.setCell (Chg.setCell (Chg.setCell (Chg.setCell (Chg.setCell (Chg.setCell (Chg.refl (fun i => i = g) W) (p := ⟨g, 0, none⟩) (fun _ => rfl) u0) (p := ⟨g, 1, none⟩) (fun _ => rfl) u1) (p := ⟨g, 2, none⟩) (fun _ => rfl) u2) (p := ⟨g, 3, none⟩) (fun _ => rfl) u3) (p := ⟨g, 4, none⟩) (fun _ => rfl) u4) (p := ⟨g, 5, none⟩) (fun _ => rfl) u5)⟩
 have := ((((((D.set_ 0 u0).set_ 1 u1).set_ 2 u2).set_ 3 u3).set_ 4 u4).set_ 5 u5)
 simpa using this
theorem cells6 {W : World} {g : Nat} {t : TypeId} {a0 a1 a2 a3 a4 a5 : Value} (D : Blk W g t #[a0, a1, a2, a3, a4, a5]) :
  (W.cell? ⟨g, 0, none⟩ = some a0 ∧ W.cell? ⟨g, 1, none⟩ = some a1 ∧ W.cell? ⟨g, 2, none⟩ = some a2 ∧ W.cell? ⟨g, 3, none⟩ = some a3 ∧ W.cell? ⟨g, 4, none⟩ = some a4 ∧ W.cell? ⟨g, 5, none⟩ = some a5) ∧
  (W.frozen? ⟨g, 0, none⟩ = false ∧ W.frozen? ⟨g, 1, none⟩ = false ∧ W.frozen? ⟨g, 2, none⟩ = false ∧ W.frozen? ⟨g, 3, none⟩ = false ∧ W.frozen? ⟨g, 4, none⟩ = false ∧ W.frozen? ⟨g, 5, none⟩ = false) :=
 ⟨⟨by simpa using D.cell 0, by simpa using D.cell 1, by simpa using D.cell 2, by simpa using D.cell 3, by simpa using D.cell 4, by simpa using D.cell 5⟩, D.frozen 0, D.frozen 1, D.frozen 2, D.frozen 3, D.frozen 4, D.frozen 5⟩
theorem keyS_inv {v : Value} {kl : Lit} (h : keyOf Tryz.prog 9 v = some kl) : ∃ s : List UInt8, v = strv s ∧ kl = .string s := by
 rw [keyOf_string Tryz.underlying9] at h
 cases v with
 | string s =>
  by_cases hs : s.size ≤ maxLen
  ·have := keyS s.data.toList hs
   rw [keyOf_string Tryz.underlying9] at this
   have h2 : mapKey Tryz.prog 9 (.string s) = some (.string s.data.toList) := this
   rw [h2] at h
   exact ⟨s.data.toList, rfl, (Option.some.inj h).symm⟩
  ·simp only [mapKey, Tryz.underlying9, if_neg hs] at h
   cases h
 | _ => simp [mapKey, Tryz.underlying9] at h
theorem ptrR_form {v : Value} {y : DataW Unit × List MemPlace} (h : ptrR v = some y) : ∃ o : Option Nat, v = .pointer (o.map fun b => (⟨b, 0, none⟩ : Addr)) := by
 unfold ptrR at h
 split at h
 ·exact ⟨some _, rfl⟩
 ·exact ⟨none, rfl⟩
 ·cases h
theorem seenAll_of {s : PS} (h : ∀ k, k < 5 → s.seen k = true) : seenAll s = true := by
 unfold seenAll
 rw [List.all_eq_true]
 intro k hk
 exact h k (List.mem_range.1 hk)
theorem seenAll_not {s : PS} {k : Nat} (hk : k < 5) (h : s.seen k = false) : seenAll s = false := by
 unfold seenAll
 rw [List.all_eq_false]
 exact ⟨k, List.mem_range.2 hk, by rw [h]; decide⟩
structure ParsePost (w : World) (y : Cfg × Int × Int) (e : Ending) (w' : World) : Prop where
 ex : ∃ a cap g, e = .returned (.tuple #[cfgv (.slice a y.1.servers.length cap) y.1, .int .i64 y.2.1, .int .i64 y.2.2]) ∧ Owns w' 3 1 (.slice a y.1.servers.length cap) g (y.1.servers.map i64c) ∧ (∀ k, g = some k → w.heap.size ≤ k)
 c : Chg (fun _ => False) w w'
theorem parse47 (t : List UInt8) (ht : t.length < 4294967281) (w : World) (gt : Nat) (hgt : Tryz.prog.globalNamed "strings.asciiSpace" = some gt) (hgl : gt < w.heap.size) (htab : Lib.TabIs Tryz.prog w "strings.asciiSpace" .u8 Lib.asciiSpaceTab) (he : ErrAt w) :
  Calls Tryz.prog 47 #[strv t] w (ParsePost w (parseI t)) := by
 have H82 := Lib.hid (fun W (hW : Chg (fun _ => False) w W) => lines82 t ht W gt hgt (Nat.lt_of_lt_of_le hgl hW.size) (tab_chg htab hgt hgl hW (fun h => h)))
 unfold strv at *
 obtain ⟨y, hy⟩ : ∃ y, y = parseI t := ⟨_, rfl⟩
 rw [← hy]
 have HY := Lib.hid hy
 have HE := Lib.hid he
 have hin := linesI_in t
 obtain ⟨L, hL⟩ : ∃ L, L = (linesI t).1 := ⟨_, rfl⟩
 obtain ⟨n1, hn1⟩ : ∃ n1, n1 = (linesI t).2.1 := ⟨_, rfl⟩
 obtain ⟨e1, he1⟩ : ∃ e1, e1 = (linesI t).2.2 := ⟨_, rfl⟩
 rw [← hL, ← hn1, ← he1] at H82
 rw [← hn1, ← he1] at hin
 have HLL := Lib.hid (And.intro hL (And.intro hn1 he1))
 obtain ⟨-, i1, i2⟩ := hin
 have rb := Blk.new w 29 #[.slice none 0 0, .int .i64 0, .int .i64 0, .int .i64 0, .int .i64 0, .int .i64 0]
 have cw := chg0_alloc w (Obj.cells #[.slice none 0 0, .int .i64 0, .int .i64 0, .int .i64 0, .int .i64 0, .int .i64 0] 29)
 clear hy he hL hn1 he1 htab
 go_enter Tryz.func47, Tryz.ntmps47
 go_upto_region 1 with (fail)
 have hsz1 : (w.alloc (Obj.cells #[.slice none 0 0, .int .i64 0, .int .i64 0, .int .i64 0, .int .i64 0, .int .i64 0] 29)).heap.size = w.heap.size + 1 := by simp
 have HSZ1 := Lib.hid hsz1
 generalize w.alloc (Obj.cells #[.slice none 0 0, .int .i64 0, .int .i64 0, .int .i64 0, .int .i64 0, .int .i64 0] 29) = W1 at *
 generalize hrb : w.heap.size = R at *
 go_wp2_with fail
 refine (H82.out W1 cw).mono ?_
 rintro e W2 ⟨lv, lg, ks, rfl, hLA, hlg, hks, c2⟩
 have rb2 := rb.chg c2 id
 have cw2 := cw.trans c2
 by_cases he0 : e1 = 0
 ·subst he0
  obtain ⟨la, lcap, hlv, hlc, hlm0, -, -⟩ := hLA.o.form
  rw [hLA.zlen] at hlv hlc
  subst hlv
  have hcnt : L.length ≤ 65537 := by rw [HLL.out.1]; exact linesI_count t
  obtain ⟨ln, hlen⟩ : ∃ ln, ln = L.length := ⟨_, rfl⟩
  rw [← hlen] at hlc hLA hcnt ⊢
  have HLEN := Lib.hid hlen
  have h83 := words83 W2.heap.size (W2.alloc (Obj.cells #[.slice none 0 0, .int .i64 0, .int .i64 0, .int .i64 0, .int .i64 0, .int .i64 0] 29)) (Blk.new _ _ _)
  have H83 := Lib.hid h83
  have c2a := chg0_alloc W2 (Obj.cells #[.slice none 0 0, .int .i64 0, .int .i64 0, .int .i64 0, .int .i64 0, .int .i64 0] 29)
  have rb3 := rb2.chg c2a id
  have hLA3 := hLA.chg c2a (fun _ _ h => h) (fun _ _ h => h)
  have cw3 := cw2.trans c2a
  have hltR := rb2.lt
  have hlgK : ∀ k, lg = some k → k < W2.heap.size := fun k hk => hLA.o.lt k hk
  have hksK : ∀ k ∈ ks, k < W2.heap.size := fun k hk => by
   obtain ⟨i, hi, he⟩ := List.getElem_of_mem hk
   exact (hLA.at_ i k (L[i]'(by rw [← hLA.len]; exact hi)) (by rw [← he]; exact List.getElem?_eq_getElem hi) (List.getElem?_eq_getElem _)).lt
  have hszA : (W2.alloc (Obj.cells #[.slice none 0 0, .int .i64 0, .int .i64 0, .int .i64 0, .int .i64 0, .int .i64 0] 29)).heap.size = W2.heap.size + 1 := by simp
  have HSA := Lib.hid hszA
  clear h83 hlen rb cw c2 rb2 cw2 hLA c2a hszA hlg hks hsz1
  go_wp2_with fail
  generalize W2.alloc (Obj.cells #[.slice none 0 0, .int .i64 0, .int .i64 0, .int .i64 0, .int .i64 0, .int .i64 0] 29) = W2a at *
  generalize hK : W2.heap.size = K at *
  refine H83.out.mono ?_
  rintro e W3 ⟨m, n, C, rfl, hC, hM, hCb, c3, hCf, hmf, hmC⟩
  replace rb3 := rb3.chg c3 id
  replace hLA3 := hLA3.chg c3 (fun _ _ h => h) (fun _ _ h => h)
  replace cw3 := cw3.trans c3
  have hCK : ∀ i, CBk C i → K ≤ i ∧ i ≠ m := fun i hi => ⟨(hCf i hi).elim (fun h => by omega) (fun h => by have := HSA.out; omega), fun e => hmC (by rw [← e]; exact hi)⟩
  have HC := Lib.hid (And.intro hC (And.intro hM hCK))
  have HLA := Lib.hid hLA3
  have HRB := Lib.hid rb3
  have HCW := Lib.hid cw3
  have HKB := Lib.hid (And.intro hltR (And.intro hlgK hksK))
  clear hC hM hCK hLA3 rb3 cw3 hltR hlgK hksK hCf hmf hmC c3 hK
  go_wp2_with fail
  go_loopw [33] (fun i wr => ∃ (j : Nat) (C' : CB), j ≤ ln ∧ i = .int .i64 j ∧ (confI ps0 (L.take j)).2.2 = 0 ∧ CAt wr C' (confI ps0 (L.take j)).1 ∧ C.Same C' ∧ (∀ i, CBk C' i → K ≤ i ∧ i ≠ m) ∧ MAt wr m n C ∧ Chg (fun i => K ≤ i) W3 wr) (fun i _ => ln - (intOf i).toNat)
  case atStart => exact ⟨0, C, by omega, rfl, rfl, HC.out.1, C.same_refl, HC.out.2.2, HC.out.2.1, Chg.refl _ _⟩
  case round =>
   obtain ⟨j, C', hj, rfl, hz, hc, hsm, hck, hmm, hch⟩ := hrel
   have hwr : K < wr.heap.size := by have := hc.cfg.lt; rw [hsm.cb, hCb] at this; exact this
   by_cases hjn : j < ln
   ·have hjI : (j : Int) < ln := by omega
    obtain ⟨l, hl⟩ : ∃ l, L[j]? = some l := ⟨_, List.getElem?_eq_getElem (by have := HLEN.out; omega)⟩
    obtain ⟨kj, hkj⟩ : ∃ kj, ks[j]? = some kj := ⟨_, List.getElem?_eq_getElem (by have := HLA.out.len; have := HLEN.out; omega)⟩
    have hlm : l ∈ (linesI t).1 := by rw [← HLL.out.1]; exact List.mem_of_getElem? hl
    obtain ⟨hm0, hm1, hm2, hm3⟩ := linesI_mem hlm
    have hLw := HLA.out.chg hch (fun k hk => by have := HKB.out.2.1 k hk; omega) (fun k hk => by have := HKB.out.2.2 k hk; omega)
    have hz2 : (List.zipWith lnc ks L)[j]? = some (lnc kj l) := by rw [List.getElem?_zipWith, hkj, hl]
    obtain ⟨lk, hlk⟩ := hLw.o.pos (by rw [hLw.zlen]; have := HLEN.out; omega)
    have hLo := hLw.o
    rw [hlk] at hLo
    obtain ⟨lcap', hv', _⟩ := hLo.some_form
    have hla2 : la = some ⟨lk, 0, none⟩ := by injection hv'
    have e0 := hLo.cell rfl hz2 (j := 0) (u := .int .i64 l.n) rfl
    have e1 := hLo.cell rfl hz2 (j := 1) (u := .slice (some ⟨kj, 0, none⟩) l.ws.length l.ws.length) rfl
    have hbw := hLw.at_ j kj l hkj hl
    have ht1 : L.take (j + 1) = L.take j ++ [l] := by rw [List.take_add_one, hl]; rfl
    have hd1 : L.drop j = l :: L.drop (j + 1) := by
     obtain ⟨hlt, rfl⟩ := List.getElem?_eq_some_iff.1 hl
     exact List.drop_eq_getElem_cons hlt
    have hall : confI ps0 L = confI (confI ps0 (L.take j)).1 (L.drop j) := by
     have := confI_app (L.take j) ps0 (L.drop j) hz
     rwa [List.take_append_drop] at this
    obtain ⟨hd, tl, hw⟩ : ∃ hd tl, l.ws = hd :: tl := by
     cases h : l.ws with
     | nil => exact absurd h hm1
     | cons a b => exact ⟨a, b, rfl⟩
    have hwl : l.ws.length = tl.length + 1 := by rw [hw]; rfl
    rw [hwl] at e1
    rw [hw] at hbw hm3
    have hkjK := HKB.out.2.2 kj (List.mem_of_getElem? hkj)
    have h9 : 9 < R := by
     obtain ⟨ev, h1, _⟩ := HE.out
     have := World.block_lt_of_cell? w _ h1
     have h2 : (9 : Nat) < w.heap.size := this
     omega
    have herr := HE.out.chg ((HCW.out.mono (S' := fun i => K ≤ i) (fun _ _ h => h.elim)).trans hch) (by have := HKB.out.1; omega)
    have HLN := Lib.hid (fun W (hW : Chg (fun _ => False) wr W) => line84 C' (confI ps0 (L.take j)).1 m n kj hd tl W (hc.chg0 hW) ((hmm.chg hW id).same hsm) (hbw.chg hW id) (fun x hx => by have := hm3 x hx; omega) (by rw [hwl] at hm2; omega)
     (herr.chg hW id) (fun i hi => by have := (hck i hi).1; have := HKB.out.1; omega) (fun h => by have := hck kj h; omega) (fun h => (hck m h).2 rfl))
    have HJ := Lib.hid (And.intro hc (And.intro hsm (And.intro hck (And.intro hmm hch))))
    have HQ := Lib.hid (And.intro hz (And.intro ht1 (And.intro hd1 hall)))
    have HW := Lib.hid hw
    subst hla2
    rw [hwl] at hm2
    have hcell0 : wr.cell? ⟨lk, j * 2, none⟩ = some (.int .i64 l.n) := e0
    have hcell1 : wr.cell? ⟨lk, j * 2 + 1, none⟩ = some (.slice (some ⟨kj, 0, none⟩) (tl.length + 1) (tl.length + 1)) := e1
    clear hc hsm hck hmm hch hz ht1 hd1 hall hw hLw hLo hz2 hbw hwl hm3 hkjK herr hkj hl hlm hv' e0 e1
    have nb := Blk.new wr 194 #[.int .i64 l.n, .slice (some ⟨kj, 0, none⟩) (tl.length + 1) (tl.length + 1)]
    go_wp2_with fail
    refine (HLN.out _ (chg0_alloc _ _)).mono ?_
    rintro e W4 ⟨rfl, hp⟩
    obtain ⟨C'', hc4, hs4, c4, hf4⟩ := hp.ex
    have nb4 := nb.chg c4 (fun h => by have := HJ.out.1.lt h; omega)
    have cA := chg0_alloc wr (Obj.cells #[.int .i64 l.n, .slice (some ⟨kj, 0, none⟩) (tl.length + 1) (tl.length + 1)] 194)
    have hck4 : ∀ i, CBk C'' i → K ≤ i ∧ i ≠ m := fun i hi => by
     rcases hf4 i hi with h | h
     ·exact HJ.out.2.2.1 i h
     ·have h1 := cA.size
      obtain ⟨D, hD, _⟩ := HJ.out.2.2.2.1.own
      have h2 := hD.lt
      exact ⟨by omega, by omega⟩
    have hm4 := (HJ.out.2.2.2.1.chg cA id).chg c4 (fun h => (HJ.out.2.2.1 m h).2 rfl)
    have hch4 := ((HJ.out.2.2.2.2.trans (cA.mono (fun _ _ h => h.elim)))).trans' c4 (fun i hi h => (HJ.out.2.2.1 i h).1)
    have HJ4 := Lib.hid (And.intro hc4 (And.intro (HJ.out.2.1.trans hs4) (And.intro hck4 (And.intro hm4 hch4))))
    have q0 := nb4.cell 0
    simp at q0
    clear hc4 hs4 c4 hf4 nb hck4 hm4 hch4 hp nb4 cA HLN
    obtain ⟨e2, he2⟩ : ∃ e2, e2 = (lineI (confI ps0 (L.take j)).1 (hd :: tl)).2 := ⟨_, rfl⟩
    rw [← he2]
    have HE2 := Lib.hid he2
    clear he2
    by_cases he20 : e2 = 0
    ·subst he20
     go_wp2_with fail
     go_roundw
     case rel =>
      refine ⟨j + 1, C'', by omega, by go_num, ?_, ?_, HJ4.out.2.1, HJ4.out.2.2.1, HJ4.out.2.2.2.1, HJ4.out.2.2.2.2⟩
      ·rw [HQ.out.2.1, confI_app _ _ _ HQ.out.1, confI_one (by rw [HW.out]; exact HE2.out.symm)]
      ·rw [HQ.out.2.1, confI_app _ _ _ HQ.out.1, confI_one (by rw [HW.out]; exact HE2.out.symm), HW.out]
       exact HJ4.out.1
     case measure => simp [intOf]; omega
    ·have hcf : confI ps0 L = ((confI ps0 (L.take j)).1, l.n, e2) := by
      rw [HQ.out.2.2.2, HQ.out.2.2.1, confI_err (by rw [HW.out, ← HE2.out]; exact he20), HW.out, ← HE2.out]
     have hye : y = (cfg0, l.n, e2) := by
      rw [HY.out, parseI_line (by rw [← HLL.out.2.2]; simp) (by rw [← HLL.out.1, hcf]; exact he20), ← HLL.out.1, hcf]
     have HYE := Lib.hid hye
     have rb4 := HRB.out.chg HJ4.out.2.2.2.2 (by have := HKB.out.1; omega)
     obtain ⟨⟨x0, x1, x2, x3, x4, x5⟩, f0, f1, f2, f3, f4, f5⟩ := cells6 rb4
     have cw4 : Chg (fun i => K ≤ i) w W4 := (HCW.out.mono (S' := fun i => K ≤ i) (fun _ _ h => h.elim)).trans HJ4.out.2.2.2.2
     have HRB4 := Lib.hid rb4
     have HCW4 := Lib.hid cw4
     have HKR := Lib.hid (And.intro hrb HKB.out.1)
     have hne1 : ¬ wr.heap.size = R := by have := HKB.out.1; omega
     have hne2 : ¬ R = wr.heap.size := fun e => hne1 e.symm
     clear hcf hye rb4 cw4 hcell0 hcell1
     go_wp2_with fail
     go_region
     all_goals go_wp2_with fail
     all_goals (
      obtain ⟨D, dc⟩ := set6c HRB4.out (.slice none 0 0) (.int .i64 0) (.int .i64 0) (.int .i64 0) (.int .i64 0) (.int .i64 0)
      obtain ⟨⟨m0, m1, m2, m3, m4, m5⟩, -⟩ := cells6 D
      refine bodyPost_ret (v := .tuple #[.agg #[.slice none 0 0, .int .i64 0, .int .i64 0, .int .i64 0, .int .i64 0, .int .i64 0], .int .i64 l.n, .int .i64 e2]) ?_ rfl ?_
      ·simp [results, Tryz.results47, go_sem, m0, m1, m2, m3, m4, m5]
      ·refine ⟨⟨none, 0, none, by rw [HYE.out]; rfl, by rw [HYE.out]; exact Owns.nil _ _ _, by simp⟩, ((HCW4.out.mono (S' := fun i => K ≤ i ∨ i = R) (fun i hi h => .inl h)).trans (dc.mono (fun i _ h => .inr h))).drew.mono (fun i hi h => by have := HKR.out.1; have := HKR.out.2; omega)⟩)
   ·obtain rfl : j = ln := by omega
    have htk : L.take j = L := List.take_of_length_le (by have := HLEN.out; omega)
    rw [htk] at hz hc
    obtain ⟨D, hD, hKD⟩ := hmm.own
    have HKD := Lib.hid hKD
    have HH := Lib.hid (And.intro hc (And.intro hsm (And.intro hck (And.intro hch hz))))
    obtain ⟨S, hS⟩ : ∃ S, S = (confI ps0 L).1 := ⟨_, rfl⟩
    have HS := Lib.hid hS
    obtain ⟨r, hr⟩ : ∃ r, r = wr.heap.size := ⟨_, rfl⟩
    have hmr : m < wr.heap.size := hD.lt
    clear hc hsm hck hmm hch hz htk hKD hS
    obtain ⟨wo, rfl⟩ : ∃ wo, wo = wr := ⟨wr, rfl⟩
    go_wp2_with (at_range; refine wpList_range_own _ rfl _ 192 rfl 9 196 lawS Tryz.underlying192 _ m n D rfl hD ?_; intro w0 hrg0 hg0 hs0)
    rw [← hr] at hrg0
    simp only [← hr]
    have c0 : Chg (fun _ => False) wo w0 := by
      exact (Chg.refl (fun _ => False) wo).grown hg0 (fun k _ hk => by cases hk)
    have HR := Lib.hid hr
    clear hg0 hs0 hD hr
    go_frame
    go_loopw [14] (fun v14 wq => ∃ left cnt, wq.ranges Tryz.prog 9 ptrR m r n D left cnt ∧ Chg (fun i => i = r) w0 wq ∧ ∀ k, k < 5 → left (.string (kw k)) = false → S.seen k = true) (fun _ wq => wq.rangeLeft m r)
    case atStart => exact ⟨_, _, hrg0, Chg.refl _ _, fun k hk hl => by
     have := Maps.has_true_of_atKey (fun zd => HKD.out.1 k zd hk)
     rw [this] at hl; cases hl⟩
    case round =>
     clear hrg0
     obtain ⟨left, cnt, hrg, hcq, hsn⟩ := hrel
     go_wp2_with (at_next; refine wpList_next_ranges _ rfl _ rfl 9 lawS ptrR (fun s : List UInt8 => strv s) (fun o : Option Nat => .pointer (o.map fun b => (⟨b, 0, none⟩ : Addr))) (fun key kl hk => by obtain ⟨x, hx, _⟩ := keyS_inv hk; exact ⟨x, hx⟩) (fun v y hv => ptrR_form hv) m r n _ _ _ rfl hrg ?_ ?_)
     ·intro _ hl0
      have hall : seenAll S = true := seenAll_of (fun k hk => hsn k hk (hl0 _))
      have cR : Chg (fun i => K ≤ i) wo wr := (c0.mono (S' := fun i => K ≤ i) (fun _ _ h => h.elim)).trans' hcq (fun i hi e => by have e' : i = r := e; have := HR.out; omega)
      have cRall : ∀ i, CBk C' i → ¬ i = r := fun i hi e => by have := HH.out.1.lt hi; have := HR.out; omega
      have hc9 := ((HH.out.1.chg0 c0).chg hcq cRall)
      rw [← HS.out] at hc9
      have cw9 : Chg (fun i => K ≤ i) w wr := ((HCW.out.mono (S' := fun i => K ≤ i) (fun _ _ h => h.elim)).trans HH.out.2.2.2.1).trans cR
      have rb9 := HRB.out.chg (HH.out.2.2.2.1.trans cR) (by have := HKB.out.1; omega)
      have hcb : C'.cb = K := by rw [HH.out.2.1.cb, hCb]
      have hcf := hc9.cfg
      rw [hcb] at hcf
      unfold cfgc at hcf
      obtain ⟨⟨x0, x1, x2, x3, x4, x5⟩, -⟩ := cells6 hcf
      obtain ⟨⟨z0, z1, z2, z3, z4, z5⟩, f0, f1, f2, f3, f4, f5⟩ := cells6 rb9
      obtain ⟨ca, ccap, hcv, hcl, hcmx, hcnil, hcaa⟩ := hc9.srv.form
      rw [List.length_map] at hcv hcl
      have hsa : C'.sa = ca ∧ C'.scap = ccap := by injection hcv with h1 h2 h3; exact ⟨h1, h3⟩
      have hrd := hc9.srv.reads
      have h85 := fun W (hW : Chg (fun _ => False) wr W) => check85 C'.sa S.c.servers.length C'.scap S.c rfl (by rw [hsa.2]; exact hcl) (by rw [hsa.2]; unfold maxLen at hcmx; omega) W (by
       rw [← hcaa, ← hsa.1] at hrd
       exact hrd.chg hW (fun _ _ h => h))
      have H85 := Lib.hid h85
      have HC9 := Lib.hid (And.intro hc9 (And.intro cw9 rb9))
      have HKR := Lib.hid (And.intro hrb HKB.out.1)
      have HALL := Lib.hid hall
      have hne : ¬ K = R := by have := HKB.out.1; omega
      obtain ⟨sn, hsnn⟩ : ∃ sn, sn = S.c.servers.length := ⟨_, rfl⟩
      rw [← hsnn] at H85 x0
      have HSN := Lib.hid hsnn
      unfold cfgv at H85
      clear hc9 cw9 rb9 hcf h85 hrd hall hl0 hsn hrg cR cRall hcv hcaa hsa hcnil hsnn hcl
      go_wp2_with fail
      refine (H85.out _ (Chg.refl _ _)).mono ?_
      rintro e W9 ⟨rfl, c9⟩
      have hc10 := HC9.out.1.chg0 c9
      have rb10 := HC9.out.2.2.chg c9 id
      have cw10 := HC9.out.2.1.trans (c9.mono (fun _ _ h => h.elim))
      have hcf := hc10.cfg
      rw [hcb] at hcf
      unfold cfgc at hcf
      clear x0 x1 x2 x3 x4 x5 z0 z1 z2 z3 z4 z5 f0 f1 f2 f3 f4 f5
      obtain ⟨⟨x0, x1, x2, x3, x4, x5⟩, -⟩ := cells6 hcf
      obtain ⟨⟨z0, z1, z2, z3, z4, z5⟩, f0, f1, f2, f3, f4, f5⟩ := cells6 rb10
      rw [← HSN.out] at x0
      have hsrv := hc10.srv
      have HF := Lib.hid (And.intro hsrv (And.intro rb10 cw10))
      clear hc10 rb10 cw10 hcf hsrv
      have hneL : ¬ (linesI t).2.2 ≠ 0 := by rw [← HLL.out.2.2]; simp
      have hneC : ¬ (confI ps0 (linesI t).1).2.2 ≠ 0 := by rw [← HLL.out.1]; have := HH.out.2.2.2.2; omega
      have hneS : ¬ seenAll (confI ps0 (linesI t).1).1 = false := by rw [← HLL.out.1, ← HS.out, HALL.out]; simp
      have HYB := Lib.hid (fun h4 => HY.out.trans (parseI_bad hneL hneC hneS h4))
      have HYF := Lib.hid (fun h4 => HY.out.trans (parseI_fine hneL hneC hneS h4))
      rw [← HLL.out.1, ← HS.out] at HYB HYF
      obtain ⟨ck, hck⟩ : ∃ ck, ck = S.c.check := ⟨_, rfl⟩
      rw [← hck] at HYB HYF ⊢
      clear hneL hneC hneS hck
      by_cases hck0 : ck = 0
      ·subst hck0
       have hye := HYF.out (by simp)
       have HYE := Lib.hid hye
       clear hye HYB HYF
       go_wp2_with fail
       obtain ⟨D2, dc⟩ := set6c HF.out.2.1 (.slice C'.sa sn C'.scap) (.int .i64 S.c.quorum) (.int .i64 S.c.least) (.int .i64 S.c.most) (.int .i64 S.c.delay) (.int .i64 S.c.slew)
       obtain ⟨⟨m0, m1, m2, m3, m4, m5⟩, -⟩ := cells6 D2
       have hsv := HF.out.1
       rw [← HSN.out] at hsv
       have hgr : ∀ k, C'.sg = some k → K ≤ k := fun k hk => (HH.out.2.2.1 k (by unfold CBk; simp [hk])).1
       refine bodyPost_ret (v := .tuple #[.agg #[.slice C'.sa sn C'.scap, .int .i64 S.c.quorum, .int .i64 S.c.least, .int .i64 S.c.most, .int .i64 S.c.delay, .int .i64 S.c.slew], .int .i64 0, .int .i64 0]) ?_ rfl ?_
       ·simp [results, Tryz.results47, go_sem, m0, m1, m2, m3, m4, m5]
       ·refine ⟨⟨C'.sa, C'.scap, C'.sg, by rw [HYE.out, HSN.out]; rfl, ?_, fun k hk => by have := hgr k hk; have := HKR.out.1; have := HKR.out.2; omega⟩, ((HF.out.2.2.mono (S' := fun i => K ≤ i ∨ i = R) (fun i hi h => .inl h)).trans (dc.mono (fun i _ h => .inr h))).mono (fun i hi h => by have := HKR.out.1; have := HKR.out.2; omega)⟩
        rw [HYE.out, ← HSN.out]
        exact hsv.chg dc (fun k hk => by have := hgr k hk; have := HKR.out.2; omega)
      ·have hye := HYB.out hck0
       have HYE := Lib.hid hye
       clear hye HYB HYF
       go_wp2_with fail
       obtain ⟨D2, dc⟩ := set6c HF.out.2.1 (.slice none 0 0) (.int .i64 0) (.int .i64 0) (.int .i64 0) (.int .i64 0) (.int .i64 0)
       obtain ⟨⟨m0, m1, m2, m3, m4, m5⟩, -⟩ := cells6 D2
       refine bodyPost_ret (v := .tuple #[.agg #[.slice none 0 0, .int .i64 0, .int .i64 0, .int .i64 0, .int .i64 0, .int .i64 0], .int .i64 0, .int .i64 ck]) ?_ rfl ?_
       ·simp [results, Tryz.results47, go_sem, m0, m1, m2, m3, m4, m5]
       ·exact ⟨⟨none, 0, none, by rw [HYE.out]; rfl, by rw [HYE.out]; exact Owns.nil _ _ _, by simp⟩, ((HF.out.2.2.mono (S' := fun i => K ≤ i ∨ i = R) (fun i hi h => .inl h)).trans (dc.mono (fun i _ h => .inr h))).mono (fun i hi h => by have := HKR.out.1; have := HKR.out.2; omega)⟩
     ·intro x c kl yy ps w1 cnt1 hkey hlk hRv hat hrg1 hcnt hg1 hs1 hen
      obtain ⟨s, hxe, rfl⟩ := keyS_inv hkey
      obtain ⟨k, hk⟩ : ∃ k, kwIx s = some k := by
       cases h : kwIx s with
       | some k => exact ⟨k, rfl⟩
       | none =>
        have q1 := (HKD.out.2 s (.lit (.bool true)) h).symm.trans (hat (.lit (.bool true)))
        have q2 := (HKD.out.2 s (.lit (.bool false)) h).symm.trans (hat (.lit (.bool false)))
        have q3 := q1.trans q2.symm
        cases q3
      obtain ⟨hk5, rfl⟩ := kwIx_some hk
      have q1 := (HKD.out.1 k (.lit (.bool true)) hk5).symm.trans (hat (.lit (.bool true)))
      subst q1
      have hv := ptrR_inv hRv
      obtain rfl : c = some (C.w k) := by
       cases c with
       | none => cases hv
       | some b => cases hv; rfl
      have cR : Chg (fun i => K ≤ i) wo wr := (c0.mono (S' := fun i => K ≤ i) (fun _ _ h => h.elim)).trans' hcq (fun i hi e => by have e' : i = r := e; have := HR.out; omega)
      have hc1 : Chg (fun i => i = r) w0 w1 := hcq.grown hg1 (fun k _ hk => by cases hk; rfl)
      have cR1 : Chg (fun i => K ≤ i) wo w1 := (c0.mono (S' := fun i => K ≤ i) (fun _ _ h => h.elim)).trans' hc1 (fun i hi e => by have e' : i = r := e; have := HR.out; omega)
      have hc9 := ((HH.out.1.chg0 c0).chg hc1 (fun i hi e => by have := HH.out.1.lt hi; have := HR.out; have e' : i = r := e; omega))
      rw [← HS.out] at hc9
      have cw9 : Chg (fun i => K ≤ i) w w1 := ((HCW.out.mono (S' := fun i => K ≤ i) (fun _ _ h => h.elim)).trans HH.out.2.2.2.1).trans cR1
      have rb9 := HRB.out.chg (HH.out.2.2.2.1.trans cR1) (by have := HKB.out.1; omega)
      have hwk := hc9.ws k hk5
      rw [HH.out.2.1.w] at hwk
      have e2 := hwk.cell 2
      simp [wordc] at e2
      have HC1 := Lib.hid hc1
      have HSN := Lib.hid hsn
      have HRG := Lib.hid hrg1
      have HM : cnt1 < cnt := hcnt
      have HOLD := Lib.hid hrg
      have HF := Lib.hid (And.intro rb9 cw9)
      have HKR := Lib.hid (And.intro hrb HKB.out.1)
      obtain ⟨⟨z0, z1, z2, z3, z4, z5⟩, f0, f1, f2, f3, f4, f5⟩ := cells6 rb9
      obtain ⟨sb, hsb⟩ : ∃ sb, sb = S.seen k := ⟨_, rfl⟩
      rw [← hsb] at e2
      have HSB := Lib.hid hsb
      clear cR hc1 cR1 hc9 cw9 rb9 hwk hcq hsn hrg1 hkey hlk hRv hat hg1 hcnt hrg hv hxe hsb hk
      cases sb with
      | true =>
       go_wp2_with fail
       go_roundw
       case rel =>
        refine ⟨_, _, HRG.out, HC1.out, fun j hj hl => ?_⟩
        by_cases hjk : j = k
        ·rw [hjk]; exact HSB.out.symm
        ·refine HSN.out j hj ?_
         cases hlj : left (.string (kw j)) with
         | false => rfl
         | true =>
          rw [hlj] at hl
          cases hsk : Lit.sameKey (.string (kw j)) (.string (kw k)) with
          | false => rw [hsk] at hl; cases hl
          | true =>
           have := WideAt.sameKey_eq hsk
           exact absurd (kw_inj hj hk5 (by injection this)) hjk
       case measure => rw [HRG.out.left_eq, HOLD.out.left_eq]; exact HM
      | false =>
       have hneL : ¬ (linesI t).2.2 ≠ 0 := by rw [← HLL.out.2.2]; simp
       have hneC : ¬ (confI ps0 (linesI t).1).2.2 ≠ 0 := by rw [← HLL.out.1]; have := HH.out.2.2.2.2; omega
       have hye : y = (cfg0, 0, 13) := HY.out.trans (parseI_lack hneL hneC (by rw [← HLL.out.1, ← HS.out]; exact seenAll_not hk5 HSB.out.symm))
       have HYE := Lib.hid hye
       clear hneL hneC hye
       go_wp2_with fail
       obtain ⟨D2, dc⟩ := set6c HF.out.1 (.slice none 0 0) (.int .i64 0) (.int .i64 0) (.int .i64 0) (.int .i64 0) (.int .i64 0)
       obtain ⟨⟨m0, m1, m2, m3, m4, m5⟩, -⟩ := cells6 D2
       refine bodyPost_ret (v := .tuple #[.agg #[.slice none 0 0, .int .i64 0, .int .i64 0, .int .i64 0, .int .i64 0, .int .i64 0], .int .i64 0, .int .i64 13]) ?_ rfl ?_
       ·simp [results, Tryz.results47, go_sem, m0, m1, m2, m3, m4, m5]
       ·exact ⟨⟨none, 0, none, by rw [HYE.out]; rfl, by rw [HYE.out]; exact Owns.nil _ _ _, by simp⟩, ((HF.out.2.mono (S' := fun i => K ≤ i ∨ i = R) (fun i hi h => .inl h)).trans (dc.mono (fun i _ h => .inr h))).mono (fun i hi h => by have := HKR.out.1; have := HKR.out.2; omega)⟩
 ·have hye : y = (cfg0, n1, e1) := by
   rw [HY.out, parseI_lex (by rw [← HLL.out.2.2]; exact he0), ← HLL.out.2.1, ← HLL.out.2.2]
  have HYE := Lib.hid hye
  obtain ⟨⟨q0, q1, q2, q3, q4, q5⟩, f0, f1, f2, f3, f4, f5⟩ := cells6 rb2
  have HRB := Lib.hid rb2
  have HCW := Lib.hid cw2
  clear rb2 cw2 rb cw c2 hLA hlg hks hsz1 hye
  go_wp2_with fail
  obtain ⟨D, dc⟩ := set6c HRB.out (.slice none 0 0) (.int .i64 0) (.int .i64 0) (.int .i64 0) (.int .i64 0) (.int .i64 0)
  obtain ⟨⟨m0, m1, m2, m3, m4, m5⟩, -⟩ := cells6 D
  refine bodyPost_ret (v := .tuple #[.agg #[.slice none 0 0, .int .i64 0, .int .i64 0, .int .i64 0, .int .i64 0, .int .i64 0], .int .i64 n1, .int .i64 e1]) ?_ rfl ?_
  ·simp [results, Tryz.results47, go_sem, m0, m1, m2, m3, m4, m5]
  ·refine ⟨⟨none, 0, none, by rw [HYE.out]; rfl, by rw [HYE.out]; exact Owns.nil _ _ _, by simp⟩, HCW.out.trans' dc (fun i hi e => by have e' : i = R := e; omega)⟩
end Go.Proofs.YtamhicdhbjniiaaGreatDoor
end
