/- strings.Cut and strings.SplitSeq at one byte. -/
import Derived.Test.YtamhicdhbjniiaaGreatDoorM08
import Derived.Test.YtamhicdhbjniiaaGreatDoorM17
import Derived.Shelf.RegionOpenPlain
import Derived.OwnWalk
import Derived.Deep.Draws
import Derived.Laws.Strings3
set_option linter.unusedVariables false
set_option maxHeartbeats 800000
set_option maxRecDepth 100000
section
namespace Go.Chron
open Go Go.RowKit
theorem indexByte_cases (c : UInt8) : ∀ l : List UInt8, (Lib.indexByte l c = -1 ∧ l.takeWhile (· != c) = l ∧ ¬ c ∈ l) ∨ ∃ k : Nat, Lib.indexByte l c = k ∧ k < l.length ∧ l.takeWhile (· != c) = l.take k ∧ l[k]? = some c ∧ l.drop k = c :: l.drop (k + 1)
 | [] => .inl ⟨rfl, rfl, by simp⟩
 | b :: l => by
  by_cases h : b = c
  ·subst h
   exact .inr ⟨0, by simp [Lib.indexByte], by simp, by simp, by simp, by simp⟩
  ·have hb : (b == c) = false := by simpa using h
   have hn : (b != c) = true := by simpa using h
   rcases indexByte_cases c l with ⟨h1, h2, h3⟩ | ⟨k, h1, h2, h3, h4, h5⟩
   ·refine .inl ⟨by simp [Lib.indexByte, hb, h1], by simp [hn, h2], by simp [Ne.symm h, h3]⟩
   ·refine .inr ⟨k + 1, ?_, by simp; omega, by simp [hn, h3], by simpa using h4, by simpa using h5⟩
    have : ¬ (k : Int) = -1 := by omega
    simp [Lib.indexByte, hb, h1, this]
theorem ext_take (s : ByteArray) (k : Nat) : s.extract 0 k = ⟨(s.data.toList.take k).toArray⟩ := by
 apply ByteArray.ext
 rw [ByteArray.data_extract]
 apply Array.ext'
 simp
theorem ext_drop (s : ByteArray) (k : Nat) : s.extract k s.size = ⟨(s.data.toList.drop k).toArray⟩ := by
 apply ByteArray.ext
 rw [ByteArray.data_extract]
 apply Array.ext'
 have : s.data.toList.length = s.size := rfl
 simp [List.take_of_length_le, this]
def splitB (c : UInt8) : List UInt8 → List (List UInt8)
 | [] => [[]]
 | b :: l => if b = c then [] :: splitB c l else match splitB c l with | [] => [[b]] | h :: t => (b :: h) :: t
theorem splitB_none (c : UInt8) : ∀ l : List UInt8, ¬ c ∈ l → splitB c l = [l]
 | [], _ => rfl
 | b :: l, h => by
  rw [splitB, if_neg (fun e => h (by simp [e])), splitB_none c l (fun e => h (by simp [e]))]
theorem splitB_some (c : UInt8) : ∀ (l : List UInt8) (k : Nat), l.takeWhile (· != c) = l.take k → l[k]? = some c → splitB c l = l.take k :: splitB c (l.drop (k + 1))
 | [], k, _, h => by simp at h
 | b :: l, 0, h1, h2 => by
  have : b = c := by simpa using h2
  subst this
  simp [splitB]
 | b :: l, k + 1, h1, h2 => by
  have hb : b ≠ c := by
   intro e
   subst e
   simp at h1
  have hn : (b != c) = true := by simpa using hb
  rw [splitB, if_neg hb, splitB_some c l k (by simpa [hn] using h1) (by simpa using h2)]
  simp
theorem splitB_len (c : UInt8) : ∀ l : List UInt8, (splitB c l).length ≤ l.length + 1
 | [] => by simp [splitB]
 | b :: l => by
  have := splitB_len c l
  unfold splitB
  split
  ·simp; omega
  ·split
   ·simp
   ·rename_i h
    rw [h] at this
    simp at this ⊢
    omega
end Go.Chron
namespace Go.Proofs.YtamhicdhbjniiaaGreatDoor
open Go Go.RowKit Go.Chron
theorem cut147 (s : ByteArray) (c : UInt8) (w : World) (hs : s.size < 4294967281) :
  Calls Tryz.prog 147 #[.string s, .string ⟨#[c]⟩] w fun e w' => ∃ v1 v2, e = .returned (.tuple #[.string ⟨(s.data.toList.takeWhile (· != c)).toArray⟩, v1, v2]) ∧ Chg (fun _ => False) w w' := by
 have H := Lib.hid (fun w => Tryz.stringslite_Index_one s c w)
 rcases indexByte_cases c s.data.toList with ⟨h1, h2, h3⟩ | ⟨k, h1, h2, h3, h4, h5⟩
 ·rw [h1] at H
  rw [h2]
  go_enter Tryz.func147, Tryz.ntmps147
  go_wp2_with fail
  refine (H.out _).mono ?_
  rintro e w2 ⟨rfl, rfl⟩
  go_wp2_with fail
  go_ret3
  exact ⟨_, _, rfl, Chg.refl _ _⟩
 ·rw [h1] at H
  rw [h3]
  have hk : k < s.size := h2
  have mixed : Tryz.prog.follows .mixedOrders = true := by kernel_rfl
  have c1 : (0 : Int) ≤ ↑k := by omega
  have c2 : (↑k : Int) ≤ ↑s.size := by omega
  have c3 : (0 : Int) ≤ ↑k + 1 := by omega
  have c4 : (↑k + 1 : Int) ≤ ↑s.size := by omega
  go_enter Tryz.func147, Tryz.ntmps147
  go_wp2_with fail
  refine (H.out _).mono ?_
  rintro e w2 ⟨rfl, rfl⟩
  go_wp2_with fail
  go_region_o
  go_wp2
  go_ret3
  rw [← ext_take]
  exact ⟨_, _, rfl, (Chg.refl _ _).drew⟩
theorem cut115 (s : ByteArray) (c : UInt8) (w : World) (hs : s.size < 4294967281) :
  Calls Tryz.prog 115 #[.string s, .string ⟨#[c]⟩] w fun e w' => ∃ v1 v2, e = .returned (.tuple #[.string ⟨(s.data.toList.takeWhile (· != c)).toArray⟩, v1, v2]) ∧ Chg (fun _ => False) w w' := by
 have H := Lib.hid (cut147 s c w hs)
 generalize s.data.toList.takeWhile (· != c) = K at *
 go_enter Tryz.func115, Tryz.ntmps115
 go_wp2_with fail
 refine H.out.mono ?_
 rintro e w2 ⟨v1, v2, rfl, c2⟩
 go_wp2_with fail
 go_ret3
 exact ⟨_, _, rfl, c2⟩
end Go.Proofs.YtamhicdhbjniiaaGreatDoor
end
