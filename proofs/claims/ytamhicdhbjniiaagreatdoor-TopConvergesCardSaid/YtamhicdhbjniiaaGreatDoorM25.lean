/- strings.SplitSeq at one byte: what the iterator gives. lex.Number in plain words: decimal numbers. lex.Lines in plain words. lex.Lines: contract. strings.Trim by the digits. strconv.Atoi of digits, and lex.Number. -/
import Derived.Test.YtamhicdhbjniiaaGreatDoorM23
import Derived.Test.YtamhicdhbjniiaaGreatDoorM18
import Derived.Lib.AtoiAll
import Derived.Maps.OwnIn
set_option linter.unusedVariables false
set_option maxHeartbeats 2000000
set_option maxRecDepth 100000
section
namespace Go.Chron
open Go Go.RowKit
def strLen (w : World) (b : Nat) : Nat := match w.cell? ⟨b, 0, none⟩ with
 | some (.string s) => s.size
 | _ => 0
theorem strLen_blk {w : World} {b : Nat} {t : TypeId} {s : ByteArray} (h : Blk w b t #[.string s]) : strLen w b = s.size := by
 have := h.cell 0
 simp at this
 simp [strLen, this]
end Go.Chron
namespace Go.Proofs.YtamhicdhbjniiaaGreatDoor
open Go Go.RowKit Go.Shelf Go.Chron
attribute [local go_sem] Oper.semAt_some
def strv (x : List UInt8) : Value := .string ⟨x.toArray⟩
theorem seq170 (n : Nat) (hn : 1 ≤ n) (B1 B2 B3 : Nat) (c : UInt8) (s : List UInt8) (hs : s.length < 4294967281) (S : Nat → Prop) (w : World)
  (b1 : Blk w B1 9 #[.string ⟨#[c]⟩]) (b2 : Blk w B2 9 #[strv s]) (b3 : Blk w B3 3 #[.int .i64 0]) (n1 : ¬ S B1) (n2 : ¬ S B2) (n3 : ¬ S B3) (d1 : B1 ≠ B2) (d2 : B3 ≠ B2) :
  SeqT Fence.wide n Tryz.prog 170 #[.pointer (some ⟨B1, 0, none⟩), .pointer (some ⟨B2, 0, none⟩), .pointer (some ⟨B3, 0, none⟩)] (fun x : List UInt8 => #[strv x]) (KpC S) (fun i => i = B2) (splitB c s) w := by
 intro l J Jx W hW hJ _ hJT hY h0
 have cw := Chg.of_below hW
 have q1 := b1.lt
 have q2 := b2.lt
 have q3 := b3.lt
 replace b1 := b1.chg cw (by omega)
 replace b2 := b2.chg cw (by omega)
 replace b3 := b3.chg cw (by omega)
 clear cw hW q1 q2 q3 w
 have c1 := b1.cell 0
 have c2 := b2.cell 0
 have c3 := b3.cell 0
 simp at c1 c2 c3
 have H := Lib.hid (fun (x : List UInt8) w => Tryz.strings_Index_one ⟨x.toArray⟩ c w)
 refine callsIn_of_wp Tryz.func170 rfl trivial ?_ rfl
 simp only [Tryz.ntmps170, List.size_toArray, List.length_cons, List.length_nil, Nat.reduceAdd, Nat.reduceSub, Array.replicate_succ, Array.replicate_zero, List.push_toArray, List.append_toArray, List.nil_append, List.cons_append]
 gi_wp2_with fail
 gi_loopw [7] (fun i wr => ∃ (pre : List (List UInt8)) (r : List UInt8), pre ++ splitB c r = splitB c s ∧ r.length ≤ s.length ∧ J pre wr ∧ Blk wr B1 9 #[.string ⟨#[c]⟩] ∧ Blk wr B2 9 #[strv r] ∧ Blk wr B3 3 #[.int .i64 0]) (fun _ wr => strLen wr B2)
 case atStart => exact ⟨[], s, by simp, by omega, h0, b1, b2, b3⟩
 case round =>
  obtain ⟨pre, r, hp, hrl, hj, x1, x2, x3⟩ := hrel
  clear c1 c2 c3 b1 b2 b3
  have c1 := x1.cell 0
  have c2 := x2.cell 0
  have c3 := x3.cell 0
  simp [strv] at c1 c2 c3
  have HR := Lib.hid (H.out r)
  rcases indexByte_cases c r with ⟨h1, h2, h3⟩ | ⟨k, h1, h2, h3, h4, h5⟩
  ·rw [h1] at HR
   gi_wp2_with fail
   refine ⟨trivial, (callsIn_wide.2 (HR.out _)).mono ?_⟩
   rintro e w2 ⟨rfl, rfl⟩
   obtain ⟨fn, tmps, assign, body, hy, hR⟩ := hY _ r w2 hj (by rw [← hp, splitB_none c r h3]; exact List.prefix_rfl)
   unfold strv at hy
   gi_wp2_with fail
   refine hR.mono ?_
   rintro e W3 (⟨rfl, hJ3, hk3⟩ | ⟨rfl, hJx3⟩)
   ·gi_wp2
    go_end0
    exact ⟨⟨_, rfl⟩, .inl (by rw [← hp, splitB_none c r h3]; exact hJ3)⟩
   ·gi_wp2
    go_end0
    exact ⟨⟨_, rfl⟩, .inr ⟨_, by rw [← hp, splitB_none c r h3]; exact List.prefix_rfl, hJx3⟩⟩
  ·rw [h1] at HR
   have hsz : (⟨r.toArray⟩ : ByteArray).size = r.length := rfl
   have e1 : (⟨r.toArray⟩ : ByteArray).extract 0 k = ⟨(r.take k).toArray⟩ := ext_take _ _
   have e2 : (⟨r.toArray⟩ : ByteArray).extract (k + 1) (⟨r.toArray⟩ : ByteArray).size = ⟨(r.drop (k + 1)).toArray⟩ := ext_drop _ _
   have f1 : (0 : Int) ≤ ↑k := by omega
   have f2 : (↑k : Int) ≤ ↑(⟨r.toArray⟩ : ByteArray).size := by omega
   have f3 : (0 : Int) ≤ ↑k + 1 := by omega
   have f4 : (↑k + 1 : Int) ≤ ↑(⟨r.toArray⟩ : ByteArray).size := by omega
   have hq : splitB c r = r.take k :: splitB c (r.drop (k + 1)) := splitB_some c r k h3 h4
   have hpq : (pre ++ [r.take k]) ++ splitB c (r.drop (k + 1)) = splitB c s := by rw [← hp, hq]; simp
   have hPRE : pre ++ [r.take k] <+: splitB c s := ⟨_, hpq⟩
   have HPQ := Lib.hid hpq
   gi_wp2_with fail
   refine ⟨trivial, (callsIn_wide.2 (HR.out _)).mono ?_⟩
   rintro e w2 ⟨rfl, rfl⟩
   obtain ⟨fn, tmps, assign, body, hy, hR⟩ := hY _ (r.take k) w2 hj hPRE
   unfold strv at hy
   rw [← e1] at hy
   have HP2 := Lib.hid hPRE
   have HE := Lib.hid e2
   clear hp hq hpq hPRE e1 e2 h3 h4 h5
   gi_wp2_with fail
   refine hR.mono ?_
   rintro e W3 (⟨rfl, hJ3, hk3⟩ | ⟨rfl, hJx3⟩)
   ·have y1 := Blk.kpc x1 hk3 n1
    have y2 := Blk.kpc x2 hk3 n2
    have y3 := Blk.kpc x3 hk3 n3
    have z1 := y1.cell 0
    have z2 := y2.cell 0
    have z3 := y3.cell 0
    have zf := y2.frozen 0
    simp [strv] at z1 z2 z3
    gi_wp2_with fail
    have e2 := HE.out
    rw [hsz] at e2
    have ch : Chg (fun i => i = B2) W3 (W3.setCell ⟨B2, 0, none⟩ (.string ((⟨r.toArray⟩ : ByteArray).extract (k + 1) r.length))) := (Chg.refl (fun i => i = B2) W3).setCell (p := ⟨B2, 0, none⟩) (fun _ => rfl) _
    have u2 : Blk (W3.setCell ⟨B2, 0, none⟩ (.string ((⟨r.toArray⟩ : ByteArray).extract (k + 1) r.length))) B2 9 #[strv (r.drop (k + 1))] := by
     have := y2.set_ 0 (.string ((⟨r.toArray⟩ : ByteArray).extract (k + 1) r.length))
     rw [e2] at this ⊢
     simpa [strv] using this
    go_roundw
    case rel => exact ⟨_, _, HPQ.out, by simp; omega, hJT _ _ _ hJ3 ch, y1.chg ch d1, u2, y3.chg ch d2⟩
    case measure => rw [strLen_blk u2, strLen_blk x2]; show (r.drop (k + 1)).length < r.length; simp; omega
   ·gi_wp2
    refine bodyPost_ret (results_none rfl _ _ _) rfl ?_
    exact ⟨⟨_, rfl⟩, .inr ⟨_, HP2.out, hJx3⟩⟩
end Go.Proofs.YtamhicdhbjniiaaGreatDoor
end
section
namespace Go.Chron
open Go
def isDig (c : UInt8) : Bool := decide (48 ≤ c.toNat) && decide (c.toNat ≤ 57)
def decS (n : Nat) (c : UInt8) : Nat := n * 10 + (c.toNat - 48)
def decV (l : List UInt8) : Nat := l.foldl decS 0
def numI (w : List UInt8) : Int × Int :=
 if w = [] ∨ w.all isDig = false ∨ (1 < w.length ∧ w.head? = some 48) then (0, 6) else if 1000000000 < decV w then (0, 3) else (decV w, 0)
theorem decS_le (l : List UInt8) : ∀ n : Nat, n ≤ l.foldl decS n := by
 induction l with
 | nil => intro n; exact Nat.le_refl _
 | cons c r ih => intro n; rw [List.foldl_cons]; have := ih (decS n c); unfold decS at this ⊢; omega
theorem parse_dig : ∀ (l : List UInt8) (acc : Nat), acc < 18446744073709551616 → l.all isDig = true → (l.foldl decS acc < 18446744073709551616 ∧ Lib.parseUint10 acc l = .ok (l.foldl decS acc)) ∨ (18446744073709551616 ≤ l.foldl decS acc ∧ Lib.parseUint10 acc l = .range) := by
 intro l
 induction l with
 | nil => intro acc h _; exact .inl ⟨h, rfl⟩
 | cons c r ih =>
  intro acc h hd
  rw [List.all_cons, Bool.and_eq_true] at hd
  obtain ⟨hc, hr⟩ := hd
  have hc' : 48 ≤ c.toNat ∧ c.toNat ≤ 57 := by simpa [isDig] using hc
  have hle := decS_le r (decS acc c)
  rw [List.foldl_cons]
  unfold Lib.parseUint10
  rw [if_pos hc']
  by_cases h1 : 1844674407370955162 ≤ acc
  ·rw [if_pos h1]
   refine .inr ⟨?_, rfl⟩
   unfold decS at hle ⊢
   omega
  ·rw [if_neg h1]
   by_cases h2 : 18446744073709551616 ≤ acc * 10 + (c.toNat - 48)
   ·rw [if_pos h2]
    refine .inr ⟨?_, rfl⟩
    unfold decS at hle ⊢
    omega
   ·rw [if_neg h2]
    exact ih (acc * 10 + (c.toNat - 48)) (by omega) hr
theorem atoi_dig {w : List UInt8} (h0 : w ≠ []) (hd : w.all isDig = true) : (decV w < 9223372036854775808 ∧ Lib.atoiAll w = .ok (decV w)) ∨ (9223372036854775808 ≤ decV w ∧ Lib.atoiAll w = .range) := by
 cases w with
 | nil => exact absurd rfl h0
 | cons c r =>
  have hc : 48 ≤ c.toNat ∧ c.toNat ≤ 57 := by
   rw [List.all_cons, Bool.and_eq_true] at hd
   simpa [isDig] using hd.1
  have n1 : ¬ (c.toNat = 43 ∨ c.toNat = 45) := by omega
  have n2 : ¬ c.toNat = 45 := by omega
  have hp := parse_dig (c :: r) 0 (by omega) hd
  unfold Lib.atoiAll
  simp only [if_neg n1]
  unfold Lib.parseMag
  rw [if_neg h0]
  change (decV (c :: r) < _ ∧ _) ∨ (_ ≤ decV (c :: r) ∧ _) at hp
  change (_ ∧ Lib.parseUint10 0 (c :: r) = .ok (decV (c :: r))) ∨ _ at hp
  generalize decV (c :: r) = v at *
  rcases hp with ⟨h1, h2⟩ | ⟨h1, h2⟩
  ·rw [h2]
   simp only [n2, not_false_eq_true, true_and, false_and, if_false]
   by_cases h3 : 9223372036854775808 ≤ v
   ·rw [if_pos h3]; exact .inr ⟨h3, rfl⟩
   ·rw [if_neg h3]; exact .inl ⟨by omega, rfl⟩
  ·rw [h2]; exact .inr ⟨by omega, rfl⟩
end Go.Chron
end
section
namespace Go.Chron
open Go Go.RowKit
structure Ln where
 n : Int
 ws : List (List UInt8)
def pieceOk (s : List UInt8) : Bool := (s.takeWhile (· != 35)).all okB
def lineOf (s : List UInt8) : List (List UInt8) := Lib.fields (s.takeWhile (· != 35))
def lineAt (i : Nat) (s : List UInt8) : List Ln := if lineOf s = [] then [] else [⟨(i + 1 : Nat), lineOf s⟩]
def linesAcc : Nat → List (List UInt8) → List Ln
 | _, [] => []
 | i, s :: r => lineAt i s ++ linesAcc (i + 1) r
theorem linesAcc_snoc (x : List UInt8) : ∀ (l : List (List UInt8)) (i : Nat), linesAcc i (l ++ [x]) = linesAcc i l ++ lineAt (i + l.length) x
 | [], i => by simp [linesAcc]
 | s :: r, i => by
  have := linesAcc_snoc x r (i + 1)
  simp only [List.cons_append, linesAcc, this, List.length_cons, List.append_assoc]
  rw [show i + 1 + r.length = i + (r.length + 1) by omega]
def linesI (t : List UInt8) : List Ln × Int × Int :=
 if 65536 < t.length then ([], 0, 7) else
 match (splitB 10 t).findIdx? (fun s => !pieceOk s) with
 | some k => ([], ((k + 1 : Nat) : Int), 6)
 | none => (linesAcc 0 (splitB 10 t), 0, 0)
theorem linesI_great {t : List UInt8} (h : 65536 < t.length) : linesI t = ([], 0, 7) := by unfold linesI; rw [if_pos h]
theorem linesI_bad {pre : List (List UInt8)} {x : List UInt8} {s : List UInt8} (h0 : ¬ 65536 < s.length) (h : pre ++ [x] <+: splitB 10 s) (hp : pre.all pieceOk = true) (hx : pieceOk x = false) : linesI s = ([], ((pre.length + 1 : Nat) : Int), 6) := by
 obtain ⟨r, hr⟩ := h
 unfold linesI
 rw [if_neg h0, ← hr]
 have : (pre ++ [x] ++ r).findIdx? (fun s => !pieceOk s) = some pre.length := by
  rw [List.append_assoc, List.findIdx?_append]
  have h1 : pre.findIdx? (fun s => !pieceOk s) = none := by
   rw [List.findIdx?_eq_none_iff]
   intro y hy
   have := List.all_eq_true.1 hp y hy
   simp [this]
  rw [h1]
  simp [List.findIdx?_cons, hx]
 rw [this]
theorem linesI_fine {s : List UInt8} (h0 : ¬ 65536 < s.length) (hp : (splitB 10 s).all pieceOk = true) : linesI s = (linesAcc 0 (splitB 10 s), 0, 0) := by
 unfold linesI
 rw [if_neg h0]
 have h1 : (splitB 10 s).findIdx? (fun s => !pieceOk s) = none := by
  rw [List.findIdx?_eq_none_iff]
  intro y hy
  have := List.all_eq_true.1 hp y hy
  simp [this]
 rw [h1]
theorem splitB_mem (c : UInt8) : ∀ (l : List UInt8) (x : List UInt8), x ∈ splitB c l → x.length ≤ l.length
 | [], x, h => by simp [splitB] at h; subst h; simp
 | b :: l, x, h => by
  have ih := splitB_mem c l
  unfold splitB at h
  split at h
  ·rcases List.mem_cons.1 h with rfl | h
   ·simp
   ·have := ih x h; simp; omega
  ·split at h
   ·simp at h; subst h; simp
   ·rename_i h0 t0 he
    rw [he] at ih
    rcases List.mem_cons.1 h with rfl | h
    ·have := ih h0 (by simp); simp; omega
    ·have := ih x (by simp [h]); simp; omega
theorem okB_ascii {l : List UInt8} (h : l.all okB = true) : ∀ (j : Nat) b, l[j]? = some b → b.toNat < 128 := by
 intro j b hb
 have := List.all_eq_true.1 h b (List.mem_of_getElem? hb)
 unfold okB at this
 simp only [Bool.or_eq_true, Bool.and_eq_true, beq_iff_eq, decide_eq_true_eq] at this
 omega
theorem fieldsGo_len : ∀ (l cur : List UInt8) (x : List UInt8), x ∈ Lib.fieldsGo cur l → x.length ≤ cur.length + l.length
 | [], cur, x, h => by
  unfold Lib.fieldsGo at h
  split at h
  ·cases h
  ·simp at h; subst h; simp
 | b :: l, cur, x, h => by
  unfold Lib.fieldsGo at h
  split at h
  ·split at h
   ·have := fieldsGo_len l [] x h; simp at this ⊢; omega
   ·rcases List.mem_cons.1 h with rfl | h
    ·simp
    ·have := fieldsGo_len l [] x h; simp at this ⊢; omega
  ·have := fieldsGo_len l _ x h; simp at this ⊢; omega
theorem fieldsGo_count : ∀ (l cur : List UInt8), (Lib.fieldsGo cur l).length ≤ cur.length + l.length
 | [], cur => by
  unfold Lib.fieldsGo
  split
  ·simp
  ·rename_i h
   cases cur with
   | nil => simp at h
   | cons _ _ => simp
 | b :: l, cur => by
  unfold Lib.fieldsGo
  split
  ·split
   ·have := fieldsGo_count l []; simp at this ⊢; omega
   ·rename_i h
    have := fieldsGo_count l []
    cases cur with
    | nil => simp at h
    | cons _ _ => simp at this ⊢; omega
  ·have := fieldsGo_count l (cur ++ [b]); simp at this ⊢; omega
theorem lineOf_len {s x : List UInt8} (h : x ∈ lineOf s) : x.length ≤ s.length := by
 have h1 := fieldsGo_len _ _ _ h
 have h2 := (List.takeWhile_prefix (p := (· != (35 : UInt8))) (l := s)).length_le
 simp at h1
 omega
theorem lineOf_count (s : List UInt8) : (lineOf s).length ≤ s.length := by
 have h1 := fieldsGo_count (s.takeWhile (· != 35)) []
 have h2 := (List.takeWhile_prefix (p := (· != (35 : UInt8))) (l := s)).length_le
 unfold lineOf Lib.fields
 simp at h1
 omega
theorem linesAcc_count : ∀ (l : List (List UInt8)) (i : Nat), (linesAcc i l).length ≤ l.length
 | [], i => by simp [linesAcc]
 | s :: r, i => by
  have := linesAcc_count r (i + 1)
  unfold linesAcc lineAt
  split <;> simp <;> omega
end Go.Chron
namespace Go.Proofs.YtamhicdhbjniiaaGreatDoor
open Go Go.RowKit Go.Shelf Go.Chron
def lnc (k : Nat) (l : Ln) : List Value := [.int .i64 l.n, .slice (some ⟨k, 0, none⟩) l.ws.length l.ws.length]
structure LinesAt (t : TypeId) (w : World) (v : Value) (g : Option Nat) (ks : List Nat) (L : List Ln) : Prop where
 o : Owns w t 2 v g (List.zipWith lnc ks L)
 len : ks.length = L.length
 at_ : ∀ (i : Nat) k l, ks[i]? = some k → L[i]? = some l → Blk w k 9 (l.ws.map strv).toArray
theorem LinesAt.nil (t : TypeId) (w : World) : LinesAt t w (.slice none 0 0) none [] [] := ⟨Owns.nil _ _ _, rfl, by intro i k l h; cases h⟩
section
variable {t : TypeId} {w w' : World} {v : Value} {g : Option Nat} {ks : List Nat} {L : List Ln} {S : Nat → Prop}
theorem LinesAt.chg (h : LinesAt t w v g ks L) (c : Chg S w w') (hg : ∀ k, g = some k → ¬ S k) (hk : ∀ k ∈ ks, ¬ S k) : LinesAt t w' v g ks L :=
 ⟨h.o.chg c hg, h.len, fun i k l h1 h2 => (h.at_ i k l h1 h2).chg c (hk k (List.mem_of_getElem? h1))⟩
theorem LinesAt.zlen (h : LinesAt t w v g ks L) : (List.zipWith lnc ks L).length = L.length := by rw [List.length_zipWith, h.len, Nat.min_self]
theorem LinesAt.snoc {v' : Value} {g' : Option Nat} {k : Nat} {l : Ln} (h : LinesAt t w v g ks L) (c : Chg (fun b => g = some b) w w') (ho : Owns w' t 2 v' g' (List.zipWith lnc ks L ++ [lnc k l])) (hb : Blk w k 9 (l.ws.map strv).toArray) (ht : t ≠ 9) : LinesAt t w' v' g' (ks ++ [k]) (L ++ [l]) := by
 have no : ∀ (j : Nat) (cs : Array Value), Blk w j 9 cs → ¬ g = some j := fun j cs hj e => by
  obtain ⟨cs', hcs⟩ := h.o.blk e
  exact ht (blk_typ hcs hj)
 refine ⟨?_, by simp [h.len], ?_⟩
 ·rw [List.zipWith_append h.len]; exact ho
 ·intro i k' l' h1 h2
  by_cases hi : i < ks.length
  ·rw [List.getElem?_append_left hi] at h1
   rw [List.getElem?_append_left (by rw [← h.len]; exact hi)] at h2
   have hb' := h.at_ i k' l' h1 h2
   exact hb'.chg c (no _ _ hb')
  ·have hlt := (List.getElem?_eq_some_iff.1 h1).1
   have hi' : i = ks.length := by simp at hlt; omega
   subst hi'
   rw [List.getElem?_append_right (Nat.le_refl _), Nat.sub_self] at h1
   rw [h.len, List.getElem?_append_right (Nat.le_refl _), Nat.sub_self] at h2
   cases h1; cases h2
   exact hb.chg c (no _ _ hb)
end
end Go.Proofs.YtamhicdhbjniiaaGreatDoor
end
section
namespace Go.Chron
open Go Go.RowKit
theorem ownFrom_blk {α : Type} {n : Nat} {I : α → World → Prop} (h : ∀ s A B (S : Nat → Prop), I s A → Chg S A B → (∀ k t cs, Blk A k t cs → ¬ S k) → I s B) : OwnFrom n I := by
 intro s A B row hs hg hr
 refine h s A B (fun k => row = some k) hs ((Chg.refl _ A).grown hg (fun k _ e => e)) ?_
 intro k t cs hb e
 obtain ⟨_, o, ho, hc⟩ := hr k e
 unfold Blk at hb
 rw [hb] at ho
 cases ho
 cases hc
theorem tab_chg {P : Program} {S : Nat → Prop} {w w' : World} {name : String} {k : IntKind} {zs : List Int} {g : Nat} (h : Lib.TabIs P w name k zs) (hg : P.globalNamed name = some g) (hlt : g < w.heap.size) (c : Chg S w w') (hn : ¬ S g) : Lib.TabIs P w' name k zs := by
 unfold Lib.TabIs World.var? at *
 rw [hg] at h ⊢
 rw [← h]
 show (match w'.heap[g]? with | some (.cells cells _ _) => some cells | _ => none) = (match w.heap[g]? with | some (.cells cells _ _) => some cells | _ => none)
 rw [c.block g hlt hn]
section
variable {F : Fence} {n : Nat} {P : Program} {w : World} {ops : Array Oper} {rest : List Oper} {o : Oper} {a : Act} {Q : Exit → Act → World → Prop} {e : TypeId} {sz : Nat} {g : Option Nat} {els : List (List Value)} {v : Value}
theorem wpListIn_app (hgd : o.guard = none) (s x : Operand) (t : TypeId)
  (ho : o.op = .call { callee := .builtin .append, args := #[s, x], argTypes := #[t, t] })
  (e : TypeId) (i : TypeInfo) (z : Value) (sz bytes : Nat) (ht : P.underlying t = some (.slice e)) (hi : P.info? e = some i) (hz : i.zero = some z)
  (hsize : i.size = sz) (hby : i.bytes = bytes) (hzs : z.cells.size = sz) (hsz : 0 < sz)
  (v : Value) (g : Option Nat) (els : List (List Value)) (hs : a.eval s = v) (hown : Owns w e sz v g els)
  (tb : Nat) (tt : TypeId) (news : List (List Value)) (m c : Nat) (hx : a.eval x = .slice (some ⟨tb, 0, none⟩) m c) (hm : m = news.length) (hb : Blk w tb tt news.flatten.toArray)
  (hne : ∀ y ∈ news, y.length = sz) (h1 : ∀ u ∈ news.flatten, u.oneCell' = true) (hpos : 0 < news.length)
  (hbytes : (els.length + news.length) * bytes ≤ 140737488355328) (h63 : els.length + news.length ≤ maxLen)
  (h : ∀ k cap w', Owns w' e sz (.slice (some ⟨k, 0, none⟩) (els.length + news.length) cap) (some k) (els ++ news) → Chg (fun b => g = some b) w w' → (g = some k ∨ w.heap.size ≤ k) →
   wpListIn F n P ops Q rest (a.put o.dst (.slice (some ⟨k, 0, none⟩) (els.length + news.length) cap)) w') :
  wpListIn F n P ops Q (o :: rest) a w := by
 subst hm
 refine wpListIn_plain hgd fun K hK => ?_
 obtain ⟨k, cap, w', hr, ho', hg, hat, _⟩ := run_append_lies (P := P) w t o.type 0 e i z sz bytes ht hi hz hsize hby hzs hsz v els.length els.flatten hown.to_row ⟨tb, 0, none⟩ news.length c news.flatten (flat_len hne)
  (fun j u hu => by rw [Addr.add_lit, hb.cell]; simpa using hu) h1 hpos h63 hbytes (Nat.zero_le _) _ rfl
 unfold Oper.wpIn
 refine ⟨by simp [Oper.about, ho, resolve, Target.leads, Sem.run_pure], ?_⟩
 rw [Oper.semAt_plain F _ _ (by rw [ho]; intro c hc'; cases hc')]
 simp [execOp, ho, resolve, invoke, builtin, hs, hx, hr, Result.andThen]
 refine hK _ _ (h k cap w' ?_ ?_ ?_)
 ·refine Owns.of_row (base := 0) ?_ ?_
  ·rw [List.length_append, List.flatten_append]; exact ho'
  ·intro y hy
   rcases List.mem_append.1 hy with h' | h'
   ·exact hown.each y h'
   ·exact hne y h'
 ·exact (Chg.refl _ w).grown hg (fun b _ hb' => by rw [← hown.ownBlock]; exact hb')
 ·rw [hown.ownBlock] at hat
  rcases hat with h' | h'
  ·exact .inl h'
  ·exact .inr (by rw [h']; exact Nat.le_refl _)
end
end Go.Chron
namespace Go.Proofs.YtamhicdhbjniiaaGreatDoor
open Go Go.RowKit Go.Shelf Go.Chron
attribute [local go_sem] Oper.semAt_some
theorem seq146 (s : List UInt8) (w : World) : Calls Tryz.prog 146 #[strv s, .string ⟨#[10]⟩, .int .i64 0] w fun e w' => ∃ b, b = w.heap.size ∧ e = .returned (.func (.func 170) #[] #[.pointer (some ⟨b + 1, 0, none⟩), .pointer (some ⟨b, 0, none⟩), .pointer (some ⟨b + 2, 0, none⟩)]) ∧
   Blk w' b 9 #[strv s] ∧ Blk w' (b + 1) 9 #[.string ⟨#[10]⟩] ∧ Blk w' (b + 2) 3 #[.int .i64 0] ∧ w'.heap.size = b + 3 ∧ Chg (fun _ => False) w w' := by
 unfold strv
 have h1 := ((Blk.new w 9 #[.string ⟨s.toArray⟩]).alloc (Obj.cells #[.string ⟨#[10]⟩] 9)).alloc (Obj.cells #[.int .i64 0] 3)
 have h2 := (Blk.new (w.alloc (Obj.cells #[.string ⟨s.toArray⟩] 9)) 9 #[.string ⟨#[10]⟩]).alloc (Obj.cells #[.int .i64 0] 3)
 have h3 := Blk.new ((w.alloc (Obj.cells #[.string ⟨s.toArray⟩] 9)).alloc (Obj.cells #[.string ⟨#[10]⟩] 9)) 3 #[.int .i64 0]
 have c := ((chg0_alloc w (Obj.cells #[.string ⟨s.toArray⟩] 9)).alloc (Obj.cells #[.string ⟨#[10]⟩] 9)).alloc (Obj.cells #[.int .i64 0] 3)
 simp only [World.size_alloc] at h2 h3
 go_enter Tryz.func146, Tryz.ntmps146
 go_wp2_with fail
 go_ret
 exact ⟨_, rfl, rfl, h1, h2, h3, by simp, c⟩
theorem seq114 (s : List UInt8) (w : World) : Calls Tryz.prog 114 #[strv s, .string ⟨#[10]⟩] w fun e w' => ∃ b, b = w.heap.size ∧ e = .returned (.func (.func 170) #[] #[.pointer (some ⟨b + 1, 0, none⟩), .pointer (some ⟨b, 0, none⟩), .pointer (some ⟨b + 2, 0, none⟩)]) ∧
   Blk w' b 9 #[strv s] ∧ Blk w' (b + 1) 9 #[.string ⟨#[10]⟩] ∧ Blk w' (b + 2) 3 #[.int .i64 0] ∧ w'.heap.size = b + 3 ∧ Chg (fun _ => False) w w' := by
 have H := seq146 s w
 unfold strv at *
 go_enter Tryz.func114, Tryz.ntmps114
 go_wp2_with fail
 refine H.mono ?_
 rintro e w2 ⟨b, hb, rfl, h⟩
 go_wp2_with fail
 refine bodyPost_ret (v := .func (.func 170) #[] #[.pointer (some ⟨b + 1, 0, none⟩), .pointer (some ⟨b, 0, none⟩), .pointer (some ⟨b + 2, 0, none⟩)]) ?_ rfl ⟨b, hb, rfl, h⟩
 simp [results, Tryz.results114, go_sem]
structure LinI (B : Nat) (pre : List (List UInt8)) (W : World) : Prop where
 b2 : Blk W B 189 #[.slice none 0 0]
 b3 : Blk W (B + 1) 3 #[.int .i64 0]
 b4 : Blk W (B + 2) 42 #[.int .i64 0]
 l : ∃ lv g ks, Blk W (B + 3) 189 #[lv] ∧ LinesAt 194 W lv g ks (linesAcc 0 pre) ∧ (∀ k, g = some k → B + 8 ≤ k) ∧ ∀ k ∈ ks, B + 8 ≤ k
 n : Blk W (B + 4) 3 #[.int .i64 (pre.length : Nat)]
 ok : pre.all pieceOk = true
 sz : B + 8 ≤ W.heap.size
structure LinX (B : Nat) (pre : List (List UInt8)) (W : World) : Prop where
 b2 : Blk W B 189 #[.slice none 0 0]
 b3 : Blk W (B + 1) 3 #[.int .i64 (pre.length : Nat)]
 b4 : Blk W (B + 2) 42 #[.int .i64 6]
 bad : ∃ p x, pre = p ++ [x] ∧ p.all pieceOk = true ∧ pieceOk x = false
theorem LinI.chg {B : Nat} {pre : List (List UInt8)} {A W : World} {S : Nat → Prop} (h : LinI B pre A) (c : Chg S A W) (h1 : ∀ k t cs, Blk A k t cs → (B ≤ k ∧ k < B + 5) ∨ B + 8 ≤ k → ¬ S k) : LinI B pre W := by
 obtain ⟨x2, x3, x4, ⟨lv, g, ks, xl, xL, hg, hk⟩, xn, xo, xz⟩ := h
 refine ⟨x2.chg c (h1 _ _ _ x2 (.inl (by omega))), x3.chg c (h1 _ _ _ x3 (.inl (by omega))), x4.chg c (h1 _ _ _ x4 (.inl (by omega))), ⟨lv, g, ks, xl.chg c (h1 _ _ _ xl (.inl (by omega))), xL.chg c (fun k e => ?_) (fun k hkm => ?_), hg, hk⟩, xn.chg c (h1 _ _ _ xn (.inl (by omega))), xo, Nat.le_trans xz c.size⟩
 ·obtain ⟨cs, hcs⟩ := xL.o.blk e
  exact h1 k _ _ hcs (.inr (hg k e))
 ·obtain ⟨i, hi, he⟩ := List.getElem_of_mem hkm
  have e1 : ks[i]? = some k := by rw [← he]; exact List.getElem?_eq_getElem hi
  exact h1 k _ _ (xL.at_ i k _ e1 (List.getElem?_eq_getElem (by rw [← xL.len]; exact hi))) (.inr (hk k hkm))
theorem LinX.chg {B : Nat} {pre : List (List UInt8)} {A W : World} {S : Nat → Prop} (h : LinX B pre A) (c : Chg S A W) (h1 : ∀ k t cs, Blk A k t cs → B ≤ k ∧ k < B + 3 → ¬ S k) : LinX B pre W :=
 ⟨h.b2.chg c (h1 _ _ _ h.b2 (by omega)), h.b3.chg c (h1 _ _ _ h.b3 (by omega)), h.b4.chg c (h1 _ _ _ h.b4 (by omega)), h.bad⟩
end Go.Proofs.YtamhicdhbjniiaaGreatDoor
end
section
namespace Go.Chron
open Go Go.RowKit
def digs : List UInt8 := [48, 49, 50, 51, 52, 53, 54, 55, 56, 57]
theorem digs_in (c : UInt8) : digs.contains c = isDig c := by
 have h : ∀ n : Fin 256, digs.contains (UInt8.ofNat n.val) = isDig (UInt8.ofNat n.val) := by decide +kernel
 have := h ⟨c.toNat, c.toNat_lt⟩
 simpa using this
theorem digs_cell {w : World} {b : Nat} (h : Blk w b 330 (Lib.setCells digs)) (c : UInt8) : w.cell? ⟨b, c.toNat, none⟩ = some (.bool (isDig c)) := by
 rw [h.cell, Lib.setCells_at, digs_in]
theorem ext_one (l : List UInt8) : (⟨l.toArray⟩ : ByteArray).extract 1 l.length = ⟨(l.drop 1).toArray⟩ := ext_drop ⟨l.toArray⟩ 1
theorem ext_last (l : List UInt8) (k : Nat) : (⟨l.toArray⟩ : ByteArray).extract 0 k = ⟨(l.take k).toArray⟩ := ext_take ⟨l.toArray⟩ k
end Go.Chron
namespace Go.Proofs.YtamhicdhbjniiaaGreatDoor
open Go Go.RowKit Go.Chron
theorem trimL178 (l : List UInt8) (b : Nat) (w : World) (hs : l.length ≤ 9223372036854775807) (hset : Blk w b 330 (Lib.setCells digs)) :
  Calls Tryz.prog 178 #[strv l, .pointer (some ⟨b, 0, none⟩)] w fun e w' => ∃ k, k ≤ l.length ∧ e = .returned (strv (l.drop k)) ∧ (l.take k).all isDig = true ∧ (k = l.length ∨ ∃ c, l[k]? = some c ∧ isDig c = false) ∧ w' = w := by
 unfold strv
 have HC := Lib.hid (fun (c : UInt8) => Tryz.asciiSet_contains b c (isDig c) w (digs_cell hset c))
 clear hset
 go_enter Tryz.func178, Tryz.ntmps178
 go_wp2_with fail
 go_loopw [0] (fun v wr => ∃ k, k ≤ l.length ∧ v = .string ⟨(l.drop k).toArray⟩ ∧ (l.take k).all isDig = true ∧ wr = w) (fun v _ => match v with | .string s => s.size | _ => 0)
 case atStart => exact ⟨0, by omega, by simp, by simp, rfl⟩
 case round =>
  obtain ⟨k, hk, rfl, hp, rfl⟩ := hrel
  have hsz : (⟨(l.drop k).toArray⟩ : ByteArray).size = l.length - k := by show (l.drop k).length = _; simp
  by_cases h : k < l.length
  ·obtain ⟨c, hc⟩ : ∃ c, l[k]? = some c := ⟨_, List.getElem?_eq_getElem h⟩
   have hd : l.drop k = c :: l.drop (k + 1) := by
    obtain ⟨hlt, rfl⟩ := List.getElem?_eq_some_iff.1 hc
    exact List.drop_eq_getElem_cons hlt
   have ht : l.take (k + 1) = l.take k ++ [c] := by rw [List.take_add_one, hc]; rfl
   have HT := Lib.hid ht
   have HP := Lib.hid hp
   have HD := Lib.hid hd
   have HCC := Lib.hid hc
   rw [hd]
   have hrl : (l.drop (k + 1)).length ≤ 9223372036854775806 := by simp; omega
   clear ht hp hd hc hsz
   obtain ⟨r, hr⟩ : ∃ r, r = l.drop (k + 1) := ⟨_, rfl⟩
   rw [← hr] at hrl ⊢
   have HR := Lib.hid hr
   clear hr
   have hx : (⟨(c :: r).toArray⟩ : ByteArray).extract 1 (r.length + 1) = ⟨r.toArray⟩ := ext_one (c :: r)
   have HX := Lib.hid hx
   clear hx
   cases hb : isDig c with
   | true =>
    have H := HC.out c
    rw [hb] at H
    have H' := Lib.hid H
    clear H
    go_wp2_with fail
    refine H'.out.mono ?_
    rintro e w2 ⟨rfl, rfl⟩
    go_wp2_with fail
    go_roundw
    case rel => exact ⟨k + 1, by omega, by rw [HX.out, HR.out], by rw [HT.out, List.all_append, HP.out]; simp [hb], trivial⟩
    case measure => rw [HX.out]; show r.length < r.length + 1; omega
   | false =>
    have H := HC.out c
    rw [hb] at H
    have H' := Lib.hid H
    clear H
    go_wp2_with fail
    refine H'.out.mono ?_
    rintro e w2 ⟨rfl, rfl⟩
    go_wp2_with fail
    go_ret
    exact ⟨k, hk, by rw [HD.out, ← HR.out]; rfl, HP.out, .inr ⟨c, HCC.out, hb⟩, rfl⟩
  ·obtain rfl : k = l.length := by omega
   have hd : l.drop l.length = [] := List.drop_length
   have HP := Lib.hid hp
   have HD := Lib.hid hd
   rw [hd]
   clear hp hd hsz
   go_wp2_with fail
   go_ret
   exact ⟨l.length, by omega, by rw [HD.out]; rfl, HP.out, .inl rfl, rfl⟩
theorem trimR179 (l : List UInt8) (b : Nat) (w : World) (hs : l.length ≤ 9223372036854775807) (hset : Blk w b 330 (Lib.setCells digs)) :
  Calls Tryz.prog 179 #[strv l, .pointer (some ⟨b, 0, none⟩)] w fun e w' => ∃ k, k ≤ l.length ∧ e = .returned (strv (l.take k)) ∧ (l.drop k).all isDig = true ∧ (k = 0 ∨ ∃ c, l[k - 1]? = some c ∧ isDig c = false) ∧ w' = w := by
 unfold strv
 have HC := Lib.hid (fun (c : UInt8) => Tryz.asciiSet_contains b c (isDig c) w (digs_cell hset c))
 clear hset
 go_enter Tryz.func179, Tryz.ntmps179
 go_wp2_with fail
 go_loopw [0] (fun v wr => ∃ k, k ≤ l.length ∧ v = .string ⟨(l.take k).toArray⟩ ∧ (l.drop k).all isDig = true ∧ wr = w) (fun v _ => match v with | .string s => s.size | _ => 0)
 case atStart => exact ⟨l.length, by omega, by simp, by simp, rfl⟩
 case round =>
  obtain ⟨k, hk, rfl, hp, rfl⟩ := hrel
  cases k with
  | succ k =>
   obtain ⟨c, hc⟩ : ∃ c, l[k]? = some c := ⟨_, List.getElem?_eq_getElem (by omega)⟩
   have hd : l.drop k = c :: l.drop (k + 1) := by
    obtain ⟨hlt, rfl⟩ := List.getElem?_eq_some_iff.1 hc
    exact List.drop_eq_getElem_cons hlt
   have ht : l.take (k + 1) = l.take k ++ [c] := by rw [List.take_add_one, hc]; rfl
   have hln : (l.take (k + 1)).length = k + 1 := by simp; omega
   have hgc : (l.take (k + 1))[k]? = some c := by rw [List.getElem?_take]; simp [hc]
   have HT := Lib.hid ht
   have HP := Lib.hid hp
   have HD := Lib.hid hd
   have HCC := Lib.hid hc
   obtain ⟨r, hr⟩ : ∃ r, r = l.take (k + 1) := ⟨_, rfl⟩
   rw [← hr] at hln hgc ⊢
   have hsz : (⟨r.toArray⟩ : ByteArray).size = k + 1 := hln
   have hix : (⟨r.toArray⟩ : ByteArray)[k]'(by rw [hsz]; omega) = c := by
    obtain ⟨hlt, h⟩ := List.getElem?_eq_some_iff.1 hgc
    exact h
   have hx : (⟨r.toArray⟩ : ByteArray).extract 0 k = ⟨(l.take k).toArray⟩ := by rw [ext_last, hr, List.take_take]; simp
   have HX := Lib.hid hx
   have HR := Lib.hid hr
   have hkI : (0 : Int) ≤ (k : Int) := by omega
   have hkI2 : (k : Int) ≤ 9223372036854775806 := by omega
   clear ht hp hd hc hx hr hgc
   cases hb : isDig c with
   | true =>
    have H := HC.out c
    rw [hb] at H
    have H' := Lib.hid H
    clear H
    go_wp2_with fail
    refine H'.out.mono ?_
    rintro e w2 ⟨rfl, rfl⟩
    go_wp2_with fail
    go_roundw
    case rel => exact ⟨k, by omega, by rw [HX.out], by rw [HD.out, List.all_cons, hb, HP.out]; rfl, trivial⟩
    case measure => rw [HX.out]; show (l.take k).length < r.length; rw [hln]; simp; omega
   | false =>
    have H := HC.out c
    rw [hb] at H
    have H' := Lib.hid H
    clear H
    go_wp2_with fail
    refine H'.out.mono ?_
    rintro e w2 ⟨rfl, rfl⟩
    go_wp2_with fail
    go_ret
    exact ⟨k + 1, hk, by rw [← HR.out]; rfl, HP.out, .inr ⟨c, HCC.out, hb⟩, rfl⟩
  | zero =>
   have HP := Lib.hid hp
   rw [List.take_zero]
   clear hp
   go_wp2_with fail
   go_ret
   exact ⟨0, by omega, rfl, HP.out, .inl rfl, rfl⟩
theorem zero330 : ∀ w, (zeroValue 330).run Tryz.prog w = .ok (.agg (Array.replicate 256 (.bool false))) w := fun w => by kernel_rfl
theorem digs_ascii : ∀ (j : Nat) b, (⟨digs.toArray⟩ : ByteArray).data.toList[j]? = some b → b.toNat < 128 := by
 intro j b hb
 have h := List.mem_of_getElem? hb
 have : ∀ c ∈ digs, c.toNat < 128 := by decide
 exact this b h
theorem all_dig_iff {l : List UInt8} {k : Nat} (hk : k ≤ l.length) (h : (l.drop k).all isDig = true) (hc : k = 0 ∨ ∃ c, l[k - 1]? = some c ∧ isDig c = false) {m : Nat} (hm : m ≤ (l.take k).length) (h2 : ((l.take k).take m).all isDig = true) (hc2 : m = (l.take k).length ∨ ∃ c, (l.take k)[m]? = some c ∧ isDig c = false) :
  ((l.take k).drop m = [] ↔ l.all isDig = true) := by
 constructor
 ·intro he
  have hme : m = (l.take k).length := by
   have := congrArg List.length he
   simp at this
   simp at hm ⊢
   omega
  rw [hme, List.take_length] at h2
  rw [← List.take_append_drop k l, List.all_append, h2, h]; rfl
 ·intro ha
  rcases hc2 with rfl | ⟨c, h3, h4⟩
  ·simp
  ·have : c ∈ l := List.mem_of_mem_take (List.mem_of_getElem? h3)
   have := List.all_eq_true.1 ha c this
   rw [h4] at this
   cases this
theorem trim150 (l : List UInt8) (w : World) (hs : l.length < 4294967281) :
  Calls Tryz.prog 150 #[strv l, .string ⟨#[48, 49, 50, 51, 52, 53, 54, 55, 56, 57]⟩] w fun e w' => ∃ r, e = .returned (strv r) ∧ (r = [] ↔ l.all isDig = true) ∧ Chg (fun _ => False) w w' := by
 unfold strv
 have HM := Lib.hid (fun w => Tryz.strings_makeASCIISet zero330 ⟨digs.toArray⟩ w (by decide) digs_ascii)
 have HR := Lib.hid (fun b W hb => trimR179 l b W (by omega) hb)
 have HL := Lib.hid (fun k b W hb => trimL178 (l.take k) b W (by simp; omega) hb)
 unfold strv at HR HL
 cases l with
 | nil =>
  clear HM HR HL
  go_enter Tryz.func150, Tryz.ntmps150
  go_wp2_with fail
  go_ret
  exact ⟨[], rfl, by simp, Chg.refl _ _⟩
 | cons c r =>
  generalize hL : c :: r = L at *
  have hne : ¬ L = [] := by rw [← hL]; simp
  have hne2 : L.isEmpty = false := by rw [← hL]; rfl
  clear hL
  go_enter Tryz.func150, Tryz.ntmps150
  go_wp2_with fail
  refine (HM.out w).mono ?_
  rintro e w2 ⟨rfl, rfl⟩
  have b2 := Blk.new (w.alloc (Obj.cells (Lib.setCells digs) 330)) 330 (Lib.setCells digs)
  have hsz : (Lib.setCells digs).size = 256 := Lib.setCells_size _
  have cw := (chg0_alloc w (Obj.cells (Lib.setCells digs) 330)).alloc (Obj.cells (Lib.setCells digs) 330)
  have hsc : (storeCells ⟨w.heap.size + 1, 0, none⟩ (Lib.setCells digs).toList 0).run Tryz.prog ((w.alloc (.cells (Lib.setCells digs) 330)).alloc (.cells (Array.replicate 256 (.bool false)) 330)) = .ok () ((w.alloc (.cells (Lib.setCells digs) 330)).alloc (.cells (Lib.setCells digs) 330)) := by
   have := run_storeCells_new (P := Tryz.prog) (w.alloc (.cells (Lib.setCells digs) 330)) 330 (Array.replicate 256 (.bool false)) (Lib.setCells digs) (by rw [Lib.setCells_size]; kernel_rfl) (by rw [Lib.setCells_size, Array.size_replicate]) (Lib.setCells_one _)
   simpa using this
  have hzc : Tryz.zeroCells330 = Array.replicate 256 (.bool false) := by kernel_rfl
  rw [← hzc] at hsc
  have HR2 := Lib.hid (HR.out _ _ b2)
  have HL2 := Lib.hid (fun k => HL.out k _ _ b2)
  simp only [World.size_alloc] at HR2 HL2
  have CW := Lib.hid cw
  have HSC := Lib.hid hsc
  clear b2 HR HL HM cw hsc hzc
  generalize Lib.setCells digs = SC at *
  go_wp2_with fail
  have hsc := HSC.out
  simp only [Result.andThen, hsc]
  rw [Oper.upon_skip]
  have HCW := CW.out
  clear hsc HSC hsz CW
  generalize (w.alloc (Obj.cells SC 330)).alloc (Obj.cells SC 330) = W2 at *
  go_wp2_with fail
  refine HR2.out.mono ?_
  rintro e w3 ⟨k, hk, rfl, h1, h2, rfl⟩
  have H := HL2.out k
  have HL3 := Lib.hid H
  have HK := Lib.hid (fun m hm h3 h4 => all_dig_iff (m := m) hk h1 h2 hm h3 h4)
  clear H HL2 hk h1 h2 HR2
  generalize L.take k = LK at *
  go_wp2_with fail
  refine HL3.out.mono ?_
  rintro e w4 ⟨m, hm, rfl, h3, h4, rfl⟩
  have HM := Lib.hid (HK.out m hm h3 h4)
  clear hm h3 h4
  generalize LK.drop m = R at *
  go_wp2_with fail
  go_ret
  exact ⟨R, rfl, HM.out, HCW⟩
end Go.Proofs.YtamhicdhbjniiaaGreatDoor
end
namespace Go.Proofs.YtamhicdhbjniiaaGreatDoor
section
open Go Go.RowKit Go.Chron
def ErrAt (w : World) : Prop := ∃ ev, w.cell? ⟨9, 0, none⟩ = some ev ∧ (ev = .nilIface ∨ ∃ te pe, ev = .iface te pe)
theorem ErrAt.chg {w w' : World} {S : Nat → Prop} (h : ErrAt w) (c : Chg S w w') (hS : ¬ S 9) : ErrAt w' := by
 obtain ⟨ev, h1, h2⟩ := h
 exact ⟨ev, c.keep h1 hS, h2⟩
theorem bw_chg (w : World) (e : TypeId) (t : ByteArray) : Chg (fun _ => False) w (Lib.bytesWorld w e t) :=
 ⟨rfl, rfl, rfl, by rw [Lib.bytesWorld_size]; omega, fun k hk _ => Lib.bytesWorld_at_old w e t k hk⟩
theorem atoi151 (l : List UInt8) (w : World) (h0 : l ≠ []) (hd : l.all isDig = true) (hs : l.length ≤ 281474976710656) (he : ErrAt w) :
  Calls Tryz.prog 151 #[strv l] w fun e w' => Chg (fun _ => False) w w' ∧ ((decV l < 9223372036854775808 ∧ e = .returned (.tuple #[.int .i64 (decV l), .nilIface])) ∨ (9223372036854775808 ≤ decV l ∧ ∃ N v, e = .returned (.tuple #[.int .i64 v, .iface 362 (.pointer (some ⟨N, 0, none⟩))]))) := by
 have HA := Tryz.internal_strconv_Atoi_all ⟨l.toArray⟩ (by show l.length ≤ _; omega) w
 change Calls Tryz.prog 182 #[.string ⟨l.toArray⟩] w fun e w' => e = .returned (Lib.intTuple 359 (Lib.atoiSat l) (Lib.atoiAll l)) ∧ (w' = w ∨ ∃ t, w' = Lib.bytesWorld w 5 t) at HA
 unfold strv
 rcases atoi_dig h0 hd with ⟨h1, h2⟩ | ⟨h1, h2⟩
 ·rw [h2] at HA
  unfold Lib.intTuple at HA
  simp only at HA
  have H1 := Lib.hid h1
  generalize decV l = v at *
  have HH := Lib.hid HA
  clear HA h2 h1 he hd h0
  go_enter Tryz.func151, Tryz.ntmps151
  go_wp2_with fail
  refine HH.out.mono ?_
  rintro e w2 ⟨rfl, hw⟩
  have c : Chg (fun _ => False) w w2 := by
   rcases hw with rfl | ⟨t, rfl⟩
   ·exact Chg.refl _ _
   ·exact bw_chg _ _ _
  clear hw
  go_wp2_with fail
  go_ret2
  exact ⟨c, .inl ⟨H1.out, rfl⟩⟩
 ·rw [h2] at HA
  unfold Lib.intTuple at HA
  simp only at HA
  have H1 := Lib.hid h1
  generalize decV l = v at *
  generalize Lib.atoiSat l = sat at *
  have HH := Lib.hid HA
  have ht : ∀ W, Chg (fun _ => False) w W → Calls Tryz.prog 183 #[.string ⟨#[65, 116, 111, 105]⟩, .string ⟨l.toArray⟩, .int .i64 0, .int .i64 0, .iface 359 (.int .i64 1)] W fun e w' => ∃ N, e = .returned (.iface 362 (.pointer (some ⟨N, 0, none⟩))) ∧ Chg (fun _ => False) W w' := fun W hW => by
   obtain ⟨ev, e1, e2⟩ := he.chg hW id
   refine (Tryz.strconv_toError_range ⟨#[65, 116, 111, 105]⟩ ⟨l.toArray⟩ 0 0 ev W hs e1 e2).mono ?_
   rintro e w3 ⟨N, rfl, _, _, hb⟩
   exact ⟨N, rfl, ⟨hb.os, hb.tape, hb.output, hb.size, fun i hi _ => hb.block i hi⟩⟩
  have HT := Lib.hid ht
  clear ht
  clear HA h2 h1 he hd h0
  go_enter Tryz.func151, Tryz.ntmps151
  go_wp2_with fail
  refine HH.out.mono ?_
  rintro e w2 ⟨rfl, hw⟩
  have c : Chg (fun _ => False) w w2 := by
   rcases hw with rfl | ⟨t, rfl⟩
   ·exact Chg.refl _ _
   ·exact bw_chg _ _ _
  clear hw
  go_wp2_with fail
  refine (HT.out w2 c).mono ?_
  rintro e w3 ⟨N, rfl, hb⟩
  have c3 : Chg (fun _ => False) w w3 := c.trans hb
  clear hb
  go_wp2_with fail
  go_ret2
  exact ⟨c3, .inr ⟨H1.out, N, sat, rfl⟩⟩
theorem numI_nil : numI [] = (0, 6) := rfl
theorem numI_bad {l : List UInt8} (h : l.all isDig = false) : numI l = (0, 6) := by unfold numI; rw [if_pos (.inr (.inl h))]
theorem numI_zero {r : List UInt8} (h : r ≠ []) : numI (48 :: r) = (0, 6) := by
 unfold numI
 rw [if_pos (.inr (.inr ⟨by have := List.length_pos_iff.2 h; simp; omega, rfl⟩))]
theorem numI_fine {c : UInt8} {r : List UInt8} (h : (c :: r).all isDig = true) (hz : r = [] ∨ c ≠ 48) : numI (c :: r) = if 1000000000 < decV (c :: r) then ((0 : Int), (3 : Int)) else ((decV (c :: r) : Int), (0 : Int)) := by
 unfold numI
 rw [if_neg]
 rintro (h1 | h1 | ⟨h1, h2⟩)
 ·cases h1
 ·rw [h] at h1; cases h1
 ·rcases hz with rfl | hz
  ·simp at h1
  ·simp at h2; exact hz h2
theorem number122 (l : List UInt8) (w : World) (hs : l.length < 4294967281) (he : ErrAt w) :
  Calls Tryz.prog 122 #[strv l] w fun e w' => e = .returned (.tuple #[.int .i64 (numI l).1, .int .i64 (numI l).2]) ∧ Chg (fun _ => False) w w' := by
 have HT := Lib.hid (trim150 l w hs)
 have HA := Lib.hid (fun W (hW : Chg (fun _ => False) w W) h0 hd => atoi151 l W h0 hd (by omega) (he.chg hW id))
 unfold strv at *
 clear he
 cases l with
 | nil =>
  rw [numI_nil]
  clear HT HA
  go_enter Tryz.func122, Tryz.ntmps122
  go_wp2_with fail
  go_ret2
  exact ⟨rfl, Chg.refl _ _⟩
 | cons c r =>
  have hix : ∃ h : 0 < (⟨(c :: r).toArray⟩ : ByteArray).size, (⟨(c :: r).toArray⟩ : ByteArray)[0]'h = c := ⟨Nat.succ_pos _, rfl⟩
  have hsz : (⟨(c :: r).toArray⟩ : ByteArray).size = r.length + 1 := rfl
  have hn0 : ¬ (c :: r) = [] := by simp
  have hn1 : (c :: r).isEmpty = false := rfl
  obtain ⟨NV, hNV⟩ : ∃ NV, NV = numI (c :: r) := ⟨_, rfl⟩
  rw [← hNV]
  have HN := Lib.hid hNV
  clear hNV
  by_cases hd : (c :: r).all isDig = true
  ·have HA2 := Lib.hid (fun W hW => HA.out W hW (by simp) hd)
   have FIN := Lib.hid (fun hz => numI_fine hd hz)
   have HD := Lib.hid hd
   have HZ := Lib.hid (fun (hz : c = 48) (hr : r ≠ []) => (by rw [hz]; exact numI_zero hr : numI (c :: r) = (0, 6)))
   clear HA hd hs
   obtain ⟨n, hn⟩ : ∃ n, n = r.length := ⟨_, rfl⟩
   have hnr : r = [] ↔ n = 0 := by rw [hn]; exact List.length_eq_zero_iff.symm
   have HNR := Lib.hid hnr
   rw [← hn] at hsz
   generalize decV (c :: r) = dv at *
   generalize numI (c :: r) = NI at *
   generalize c :: r = L at *
   clear hn hnr
   obtain ⟨hi0, hix⟩ := hix
   go_enter Tryz.func122, Tryz.ntmps122
   go_wp2_with fail
   refine HT.out.mono ?_
   rintro e w2 ⟨R, rfl, hR, c2⟩
   obtain rfl : R = [] := hR.2 HD.out
   clear hR HT
   by_cases hr : n = 0
   ·subst hr
    have F' := Lib.hid (HN.out.trans (FIN.out (.inl (HNR.out.2 rfl))))
    clear FIN HN HNR HZ
    go_wp2_with fail
    refine (HA2.out w2 c2).mono ?_
    rintro e w3 ⟨c3, hv⟩
    have c4 := c2.trans c3
    rcases hv with ⟨hv, rfl⟩ | ⟨hv, N, v, rfl⟩
    ·by_cases hg : 1000000000 < dv
     ·have hgI : (1000000000 : Int) < (dv : Int) := by omega
      have F := F'.out
      rw [if_pos hg] at F
      have F2 := Lib.hid F
      clear F F' hg hv HA2 HD
      generalize (dv : Int) = z at *
      go_wp2_with fail
      go_ret2
      exact ⟨by rw [F2.out]; rfl, c4⟩
     ·have hgI : ¬ (1000000000 : Int) < (dv : Int) := by omega
      have F := F'.out
      rw [if_neg hg] at F
      have F2 := Lib.hid F
      clear F F' hg hv HA2 HD
      generalize (dv : Int) = z at *
      go_wp2_with fail
      go_ret2
      exact ⟨by rw [F2.out]; rfl, c4⟩
    ·have F := F'.out
     rw [if_pos (by omega)] at F
     have F2 := Lib.hid F
     clear F F' hv HA2 HD
     go_wp2_with fail
     go_ret2
     exact ⟨by rw [F2.out]; rfl, c4⟩
   ·have hnp : (0 : Int) < (n : Int) := by omega
    by_cases hz : c = 48
    ·have hzI : (c.toNat : Int) = 48 := by rw [hz]; rfl
     have F' := Lib.hid (HN.out.trans (HZ.out hz (fun h => hr (HNR.out.1 h))))
     clear FIN HN HA2 HD hr hz HNR HZ
     go_wp2_with fail
     go_ret2
     exact ⟨by rw [F'.out]; rfl, c2⟩
    ·have hzI : ¬ (c.toNat : Int) = 48 := fun h => hz (by
      apply UInt8.toNat_inj.1
      have : c.toNat = 48 := by omega
      rw [this]; rfl)
     have F' := Lib.hid (HN.out.trans (FIN.out (.inr hz)))
     clear FIN HN hr hz HNR HZ
     go_wp2_with fail
     refine (HA2.out w2 c2).mono ?_
     rintro e w3 ⟨c3, hv⟩
     have c4 := c2.trans c3
     rcases hv with ⟨hv, rfl⟩ | ⟨hv, N, v, rfl⟩
     ·by_cases hg : 1000000000 < dv
      ·have hgI : (1000000000 : Int) < (dv : Int) := by omega
       have F := F'.out
       rw [if_pos hg] at F
       have F2 := Lib.hid F
       clear F F' hg hv HA2 HD
       generalize (dv : Int) = z at *
       go_wp2_with fail
       go_ret2
       exact ⟨by rw [F2.out]; rfl, c4⟩
      ·have hgI : ¬ (1000000000 : Int) < (dv : Int) := by omega
       have F := F'.out
       rw [if_neg hg] at F
       have F2 := Lib.hid F
       clear F F' hg hv HA2 HD
       generalize (dv : Int) = z at *
       go_wp2_with fail
       go_ret2
       exact ⟨by rw [F2.out]; rfl, c4⟩
     ·have F := F'.out
      rw [if_pos (by omega)] at F
      have F2 := Lib.hid F
      clear F F' hv HA2 HD
      go_wp2_with fail
      go_ret2
      exact ⟨by rw [F2.out]; rfl, c4⟩
  ·have hd' : (c :: r).all isDig = false := by simpa using hd
   have F' := Lib.hid (HN.out.trans (numI_bad hd'))
   clear HA HN hs hix
   generalize c :: r = L at *
   go_enter Tryz.func122, Tryz.ntmps122
   go_wp2_with fail
   refine HT.out.mono ?_
   rintro e w2 ⟨R, rfl, hR, c2⟩
   have hR1 : ¬ R = [] := fun h => hd (hR.1 h)
   have hR2 : R.isEmpty = false := by cases R with
    | nil => exact absurd rfl hR1
    | cons _ _ => rfl
   clear hR HT hd hd'
   go_wp2_with fail
   go_ret2
   exact ⟨by rw [F'.out]; rfl, c2⟩
end
end Go.Proofs.YtamhicdhbjniiaaGreatDoor
