/- RingActs: the ring beside a reference that keeps all: the contracts of the reference. -/
import Derived.Test.YtlcanhghhdjleaaAlive
import Derived.Test.YtlcanhghhdjleaaRingstr
import Derived.Test.YtlcanhghhdjleaaMost
import Derived.Test.YtlcanhghhdjleaaArgs
import Derived.Test.YtlcanhghhdjleaaGrows
import Derived.Deep.RegionHeld3
set_option linter.unusedVariables false
namespace Go.Proofs.Ytlcanhghhdjleaa
open Go.RowKit Go.Chron

def sv (s : ByteArray) : List Value := [.string s]

/-- The reference behind the pointer to block c. -/
structure RefAt (w : World) (c : Nat) (g : Option Nat) (most cnt : Nat) (L : List ByteArray) : Prop where
  ex : ∃ v, Blk w c 62 #[v, .int .i64 most, .int .i64 cnt] ∧ Owns w 9 1 v g (L.map sv)
  ne : g ≠ some c

theorem RefAt.chg {w w' : World} {c : Nat} {g : Option Nat} {most cnt : Nat} {L : List ByteArray} {S : Nat → Prop} (h : RefAt w c g most cnt L) (hc : Chg S w w') (hb : ¬ S c) (hg : ∀ k, g = some k → ¬ S k) : RefAt w' c g most cnt L := by
  obtain ⟨⟨v, h1, h2⟩, h3⟩ := h
  exact ⟨⟨v, h1.chg hc hb, h2.chg hc hg⟩, h3⟩
theorem RefAt.chg0 {w w' : World} {c : Nat} {g : Option Nat} {most cnt : Nat} {L : List ByteArray} (h : RefAt w c g most cnt L) (hc : Chg (fun _ => False) w w') : RefAt w' c g most cnt L := h.chg hc (fun h => h) (fun _ _ h => h)
theorem RefAt.lt {w : World} {c : Nat} {g : Option Nat} {most cnt : Nat} {L : List ByteArray} (h : RefAt w c g most cnt L) : c < w.heap.size := by
  obtain ⟨⟨v, h1, h2⟩, h3⟩ := h; exact h1.lt
theorem RefAt.ltg {w : World} {c : Nat} {g : Option Nat} {most cnt : Nat} {L : List ByteArray} (h : RefAt w c g most cnt L) : ∀ k, g = some k → k < w.heap.size := by
  obtain ⟨⟨v, h1, h2⟩, h3⟩ := h; exact h2.lt
theorem sv_one (L : List ByteArray) : ∀ u ∈ (L.map sv).flatten, u.oneCell' = true := by
  intro u hu
  obtain ⟨x, hx, hu⟩ := List.mem_flatten.1 hu
  obtain ⟨s, _, rfl⟩ := List.mem_map.1 hx
  simp [sv] at hu
  subst hu
  rfl

/-- What 'append(append([]string{}, r.L...), s)', put into the reference, leaves. -/
def RefAdded (w : World) (c most cnt : Nat) (L : List ByteArray) (x : ByteArray) (w' : World) : Prop :=
  ∃ k, RefAt w' c (some k) most (cnt + 1) (L ++ [x]) ∧ Chg (fun j => j = c) w w' ∧ w.heap.size ≤ k

theorem refAdded_mk {w W1 : World} {c most cnt k n cap : Nat} {v : Value} {L : List ByteArray} {x : ByteArray} (hC : Chg (fun _ => False) w W1) (hB : Blk W1 c 62 #[v, .int .i64 most, .int .i64 cnt]) (hcw : c < w.heap.size)
    (hO : Owns W1 9 1 (.slice (some ⟨k, 0, none⟩) n cap) (some k) ((L ++ [x]).map sv)) (hk : w.heap.size ≤ k) :
    RefAdded w c most cnt L x ((W1.setCell ⟨c, 0, none⟩ (.slice (some ⟨k, 0, none⟩) n cap)).setCell ⟨c, 2, none⟩ (.int .i64 ((cnt : Int) + 1))) := by
  have hkc : k ≠ c := by omega
  have hch : Chg (fun j => j = c) W1 ((W1.setCell ⟨c, 0, none⟩ (.slice (some ⟨k, 0, none⟩) n cap)).setCell ⟨c, 2, none⟩ (.int .i64 ((cnt : Int) + 1))) := ((Chg.refl (fun j => j = c) W1).setCell (p := ⟨c, 0, none⟩) (fun _ => rfl) _).setCell (p := ⟨c, 2, none⟩) (fun _ => rfl) _
  refine ⟨k, ⟨⟨.slice (some ⟨k, 0, none⟩) n cap, ?_, hO.chg hch (fun j hj => by cases hj; exact hkc)⟩, by simpa using hkc⟩, (hC.mono (fun _ _ h => h.elim)).trans hch, hk⟩
  have := (hB.set_ 0 (.slice (some ⟨k, 0, none⟩) n cap)).set_ 2 (.int .i64 ((cnt : Int) + 1))
  simpa using this

set_option maxRecDepth 100000 in
set_option maxHeartbeats 1600000 in
theorem refAdd (c : Nat) (g : Option Nat) (most cnt : Nat) (L : List ByteArray) (x : ByteArray) (w : World) (hr : RefAt w c g most cnt L) (hn : L.length ≤ 1000) (hc : cnt ≤ 1000) :
    Calls Try.prog 26 #[.pointer (some ⟨c, 0, none⟩), .string x] w fun e w' => e = .returned (.tuple #[]) ∧ RefAdded w c most cnt L x w' := by
  obtain ⟨⟨v, hb, ho⟩, hne⟩ := id hr
  obtain ⟨i0, hi, hz0, hz1, hz2⟩ := info_parts info_str
  obtain ⟨a, cap, rfl, hlc, hcm, hnil, ha⟩ := ho.form
  have c0 := hb.cell 0
  simp at c0
  have hbl := hb.lt
  have hlen1 : L.length * 16 ≤ 140737488355328 := by omega
  have hlen2 : (L.length + 1) * 16 ≤ 140737488355328 := by omega
  have hlen3 : L.length + 1 ≤ maxLen := by simp only [maxLen]; omega
  have hlen4 : L.length ≤ maxLen := by simp only [maxLen]; omega
  have hcc : (cnt : Int) ≤ 1000 := by omega
  cases g with
  | none =>
    simp at ha
    subst ha
    have hL : L = [] := by
      rcases ho.row with ⟨_, _, h⟩ | ⟨_, _, _, h, _⟩
      · simpa using h
      · cases h
    subst hL
    have hbx : Blk ((w.alloc (Obj.cells #[] 9)).alloc (Obj.cells #[Value.string x] 9)) (w.heap.size + 1) 9 [[Value.string x]].flatten.toArray := by
      have := Blk.new (w.alloc (Obj.cells #[] 9)) 9 #[Value.string x]
      simpa using this
    go_enter Try.func26, Try.ntmps26
    go_wp2_with (at_builtin; refine wpList_app (by rfl) (.tmp 10) (.tmp 12) 60 (by rfl) 9 i0 _ 1 16 Try.underlying60 hi hz0 hz1 hz2 rfl (by omega) _ (some w.heap.size) [] (by rfl) ((owns_empty _ _ _).alloc _) (w.heap.size + 1) 9 [[.string x]] 1 1 (by rfl) rfl hbx (by simp) (by simp [Value.oneCell']) (by simp) (by simp) (by simp [maxLen]) ?_)
    intro k cap' w1 ho1 hc1 hk1
    have hB0 := (((hb.alloc (Obj.cells #[] 9)).alloc (Obj.cells #[Value.string x] 9))).chg hc1 (by omega)
    have hC0 : Chg (fun _ => False) w w1 := (((Chg.refl (fun _ => False) w).alloc (Obj.cells #[] 9)).alloc (Obj.cells #[Value.string x] 9)).trans' hc1 (fun i hi h => by omega)
    have hk2 : w.heap.size ≤ k := by omega
    have A := refAdded_mk (x := x) (L := []) hC0 hB0 hbl ho1 hk2
    have d0 := hB0.cell 0
    have d2 := hB0.cell 2
    have f0 := hB0.frozen 0
    have f2 := hB0.frozen 2
    simp at d0 d2
    have hkc : k ≠ c := by omega
    clear ho1 hc1 hk1 hB0 hC0 hbx c0
    go_wp2_with fail
    go_end0
    exact ⟨rfl, A⟩
  | some k0 =>
    simp at ha
    subst ha
    have hre := (ho.reads.flat ho.each)
    go_enter Try.func26, Try.ntmps26
    go_wp2_with (at_builtin; refine wpList_app_any (by rfl) (.tmp 5) (.tmp 9) 60 (by rfl) 9 i0 _ 1 16 Try.underlying60 hi hz0 hz1 hz2 rfl (by omega) _ w.heap.size [] (by rfl) (owns_empty _ _ _) ⟨k0, 0, none⟩ (L.map sv) L.length cap (by rfl) (by simp) ?_ ho.each (sv_one L) (by simpa using hlen1) (by simpa using hlen4) ?_)
    · intro j u hu
      have := hre j u hu
      rw [Addr.add_lit] at this
      simp only [Nat.zero_add] at this
      rw [World.cell?_alloc_lt _ _ _ (World.block_lt_of_cell? _ _ this)]
      exact this
    · intro k cap' w1 ho1 hc1 hk1
      have hB0 := (hb.alloc (Obj.cells #[] 9)).chg hc1 (by omega)
      have hC0 : Chg (fun _ => False) w w1 := ((Chg.refl (fun _ => False) w).alloc (Obj.cells #[] 9)).trans' hc1 (fun i hi h => by omega)
      have hk2 : w.heap.size ≤ k := by omega
      clear hc1 hk1 hre c0
      have hlk := ho1.lt k rfl
      have hbx := Blk.new w1 9 #[Value.string x]
      go_wp2_with (at_builtin; refine wpList_app (by rfl) (.tmp 10) (.tmp 12) 60 (by rfl) 9 i0 _ 1 16 Try.underlying60 hi hz0 hz1 hz2 rfl (by omega) _ (some k) (L.map sv) (by rfl) (ho1.alloc _) w1.heap.size 9 [[.string x]] 1 1 (by rfl) rfl hbx (by simp) (by simp [Value.oneCell']) (by simp) (by simpa using hlen2) (by simpa using hlen3) ?_)
      intro k2 cap2 w2 ho2 hc2 hk3
      have hB2 := (hB0.alloc (Obj.cells #[Value.string x] 9)).chg hc2 (by intro h; cases h; omega)
      have hC2 : Chg (fun _ => False) w w2 := (hC0.alloc (Obj.cells #[Value.string x] 9)).trans' hc2 (fun i hi h => by cases h; omega)
      have hk4 : w.heap.size ≤ k2 := by
        have := hC0.size
        rcases hk3 with h | h
        · cases h; exact hk2
        · omega
      have A := refAdded_mk (x := x) (L := L) hC2 hB2 hbl (by rw [List.map_append]; exact ho2) hk4
      have d0 := hB2.cell 0
      have d2 := hB2.cell 2
      have f0 := hB2.frozen 0
      have f2 := hB2.frozen 2
      simp at d0 d2
      have hkc : k2 ≠ c := by omega
      clear ho1 ho2 hc2 hk3 hB0 hC0 hB2 hC2 hbx hlk
      go_wp2_with fail
      go_end0
      exact ⟨rfl, A⟩

set_option maxRecDepth 100000 in
set_option maxHeartbeats 1600000 in
theorem refAll (c : Nat) (g : Option Nat) (most cnt : Nat) (L : List ByteArray) (w : World) (hr : RefAt w c g most cnt L) (h1 : 1 ≤ most) :
    Calls Try.prog 29 #[.pointer (some ⟨c, 0, none⟩)] w fun e w' => ∃ a cap, e = .returned (.slice a (lastN most L).length cap) ∧ Reads w' 1 a ((lastN most L).map sv) ∧ Chg (fun _ => False) w w' := by
  obtain ⟨⟨v, hb, ho⟩, hne⟩ := id hr
  obtain ⟨a, cap, rfl, hlc, hcm, hnil, ha⟩ := ho.form
  have c0 := hb.cell 0
  have c1 := hb.cell 1
  simp at c0 c1
  rw [List.length_map] at hlc
  have hre := ho.reads
  rw [← ha] at hre
  have hcm' : cap ≤ 9223372036854775807 := by simpa [maxLen] using hcm
  by_cases hl : most < L.length
  · have hg : decide ((most : Int) < (L.length : Int)) = true := by simp; omega
    obtain ⟨k, rfl⟩ : ∃ k, a = some ⟨k, 0, none⟩ := by
      obtain ⟨k, rfl⟩ := ho.pos (by simp; omega)
      exact ⟨k, ha⟩
    have hL : (lastN most L).length = most := by rw [lastN_len]; omega
    have i0 : (0 : Int) ≤ (L.length : Int) - (most : Int) := by omega
    have i1 : (L.length : Int) - (most : Int) ≤ (L.length : Int) := by omega
    have i2 : ((L.length : Int) - (most : Int)).toNat = L.length - most := by omega
    rw [hL]
    have HR := Lib.hid hre
    clear hre ha hnil
    go_enter Try.func29, Try.ntmps29
    go_wp2_with fail
    go_quiet (fail)
    go_wp2_with fail
    go_quiet (fail)
    go_wp2_with fail
    go_ret
    refine ⟨some ⟨k, L.length - most, none⟩, cap - (L.length - most), ?_, ?_, (chg0_drewN _ _).trans (chg0_drewN _ _)⟩
    · rw [show L.length - (L.length - most) = most by omega]; rfl
    · intro hp
      obtain ⟨b', off, hab, hc⟩ := HR.out (by simp; omega)
      cases hab
      refine ⟨k, L.length - most, rfl, fun i x hx j u hu => ?_⟩
      rw [List.getElem?_map, lastN_get, ← List.getElem?_map] at hx
      have := hc _ x hx j u hu
      rw [show L.length - most + (i * 1 + j) = 0 + ((L.length - most + i) * 1 + j) by omega]
      exact this
  · have hg : decide ((most : Int) < (L.length : Int)) = false := by simp; omega
    have hL : lastN most L = L := by unfold lastN; rw [Nat.sub_eq_zero_of_le (by omega)]; rfl
    rw [hL]
    have HR := Lib.hid hre
    clear hre ha hnil
    go_enter Try.func29, Try.ntmps29
    go_wp2_with fail
    go_quiet (fail)
    go_wp2_with fail
    go_ret
    exact ⟨a, cap, rfl, HR.out.chg (chg0_drewN _ _) (fun _ _ h => h), chg0_drewN _ _⟩

def SameInv (w : World) (n : Nat) (i : Value) (wr : World) : Prop := ∃ j d : Nat, j ≤ n ∧ i = .int .i64 j ∧ wr = w.drewN d

set_option maxRecDepth 100000 in
set_option maxHeartbeats 1600000 in
theorem same_yes (a1 a2 : Option Addr) (cap1 cap2 : Nat) (L : List ByteArray) (w : World) (R1 : Reads w 1 a1 (L.map sv)) (R2 : Reads w 1 a2 (L.map sv)) (hn : L.length ≤ 9223372036854775807) :
    Calls Try.prog 31 #[.slice a1 L.length cap1, .slice a2 L.length cap2] w fun e w' => e = .returned (.bool true) ∧ ∃ d, w' = w.drewN d := by
  go_enter Try.func31, Try.ntmps31
  go_wp2_with fail
  go_loopw [13] (fun i wr => SameInv w L.length i wr) (fun i _ => L.length - (intOf i).toNat)
  case atStart => exact ⟨0, 0, by omega, rfl, rfl⟩
  case round =>
    obtain ⟨j, d, hj, rfl, rfl⟩ := hrel
    by_cases hjl : j < L.length
    · obtain ⟨x, hx⟩ : ∃ x, L[j]? = some x := ⟨_, List.getElem?_eq_getElem hjl⟩
      have hp : 0 < (L.map sv).length := by simp; omega
      have hxx : (L.map sv)[j]? = some (sv x) := by rw [List.getElem?_map, hx]; rfl
      obtain ⟨b1, o1, rfl, h1⟩ := R1 hp
      obtain ⟨b2, o2, rfl, h2⟩ := R2 hp
      have e1 := h1 j _ hxx 0 _ rfl
      have e2 := h2 j _ hxx 0 _ rfl
      simp only [Nat.mul_one, Nat.add_zero] at e1 e2
      have i3 : (j : Int) < (L.length : Int) := by omega
      clear h1 h2 R1 R2 hx hxx hp
      go_wp2_with fail
      go_quiet (fail)
      go_wp2_with fail
      go_roundw
      case rel => exact ⟨j + 1, d + nq, by omega, by go_num, rfl⟩
      case measure => simp [intOf]; omega
    · have i3 : ¬ (j : Int) < (L.length : Int) := by omega
      go_wp2_with fail
      go_ret
      exact ⟨rfl, _, rfl⟩

theorem owns_reads {w : World} {e : TypeId} {sz n cap : Nat} {a : Option Addr} {g : Option Nat} {els : List (List Value)} (h : Owns w e sz (.slice a n cap) g els) : Reads w sz a els := by
  obtain ⟨a', cap', hv, _, _, _, ha⟩ := h.form
  cases hv
  rw [ha]
  exact h.reads
theorem same_yes' (a1 a2 : Option Addr) (cap1 cap2 n : Nat) (L : List ByteArray) (w : World) (hn : n = L.length) (hm : n ≤ 64) (R1 : Reads w 1 a1 (L.map sv)) (R2 : Reads w 1 a2 (L.map sv)) :
    Calls Try.prog 31 #[.slice a1 n cap1, .slice a2 n cap2] w fun e w' => e = .returned (.bool true) ∧ ∃ d, w' = w.drewN d := by
  subst hn
  exact same_yes _ _ _ _ _ _ R1 R2 (by omega)
theorem keep2 {wE W w' : World} {p : Addr} {v : Value} (h : W.cell? p = some v ∧ Chg (fun _ => False) wE W) (k : Chg (fun _ => False) W w') : w'.cell? p = some v ∧ Chg (fun _ => False) wE w' := ⟨k.keep h.1 (fun h => h), h.2.trans k⟩
theorem keepd {wE W : World} {n : Nat} {p : Addr} {v : Value} (h : W.cell? p = some v ∧ Chg (fun _ => False) wE W) : (W.drewN n).cell? p = some v ∧ Chg (fun _ => False) wE (W.drewN n) := keep2 h (chg0_drewN _ _)

def ActsInv (w : World) (b c m len : Nat) (i : Value) (wr : World) : Prop :=
  ∃ (k : Nat) (g gR : Option Nat) (L : List ByteArray) (cnt : Nat), k ≤ len ∧ i = .int .i64 k ∧ cnt ≤ k ∧ L.length ≤ k ∧ RingAt 96 9 1 wr b g m cnt ((lastN m L).map sv) ∧ RefAt wr c gR m cnt L ∧
    Apart b g c gR ∧ (∀ j, g = some j → w.heap.size ≤ j) ∧ (∀ j, gR = some j → w.heap.size ≤ j) ∧ Below w.heap.size w wr

set_option maxRecDepth 100000 in
set_option maxHeartbeats 3200000 in
theorem ringActs_walk (n : Int) (a : Option Addr) (len cap : Nat) (els : List (List Value)) (w : World) (hI : FlatIn [.int .i64, .str] w a len cap els) :
    Calls Try.prog 6 #[.int .i64 n, .slice a len cap] w fun e w' => e = .returned (.bool true) ∧ Below w.heap.size w w' := by
  have hc := hI.leE
  have hcm := hI.capE
  have HI := Lib.hid hI
  have HL := Lib.hid hI.lenE
  clear hI
  have m1 := mostN_lo n
  have m2 := mostN_hi n
  obtain ⟨m, hm⟩ : ∃ m, m = mostN n := ⟨_, rfl⟩
  have MM : ∀ w : World, Calls Try.prog 17 #[.int .i64 n] w fun e w' => e = .returned (.int .i64 m) ∧ w = w' := by rw [hm]; exact most_any n
  rw [← hm] at m1 m2
  have HM := Lib.hid MM
  clear hm MM
  go_enter Try.func6, Try.ntmps6
  go_wp2_with fail
  refine (HM.out w).mono ?_
  rintro e w' ⟨rfl, rfl⟩
  go_wp2_with fail
  refine (new_str m (by omega) (by omega) w).mono ?_
  rintro e w1 ⟨rfl, ra, ca⟩
  go_wp2_with fail
  refine (alive w1).mono ?_
  rintro e w2 ⟨rfl, c2⟩
  have hB : Below w.heap.size w w2 := bel0 (bel0 (Below.refl _ _) ca (Nat.le_refl _)) c2 (Nat.le_refl _)
  have R1 := ra.chg0 c2
  have s1 := ra.lt
  have s2 := c2.size
  have s0 := ca.size
  clear ra ca c2
  by_cases hlen : 300 < len
  · go_wp2_with fail
    refine (alive w2).mono ?_
    rintro e w4 ⟨rfl, hc4⟩
    have hB4 := Lib.hid (bel0 hB hc4 (Nat.le_refl _))
    clear hB hc4
    go_wp2_with fail
    go_ret
    exact ⟨rfl, hB4.out⟩
  · go_wp2_with fail
    refine (HM.out w2).mono ?_
    rintro e w' ⟨rfl, rfl⟩
    go_wp2_with fail
    have R2 := R1.chg0 (chg0_alloc w2 (Obj.cells #[Value.slice none 0 0, Value.int IntKind.i64 m, Value.int IntKind.i64 0] 62))
    have RF : RefAt (w2.alloc (Obj.cells #[Value.slice none 0 0, Value.int IntKind.i64 m, Value.int IntKind.i64 0] 62)) w2.heap.size none m 0 [] := ⟨⟨_, Blk.new _ _ _, Owns.nil _ _ _⟩, by simp⟩
    have hB2 := bel0 hB (chg0_alloc w2 (Obj.cells #[Value.slice none 0 0, Value.int IntKind.i64 m, Value.int IntKind.i64 0] 62)) (Nat.le_refl _)
    have hap : Apart w.heap.size none w2.heap.size none := ⟨by omega, by simp, by simp, by simp⟩
    generalize hcc : w2.heap.size = c at *
    generalize hww : w2.alloc (Obj.cells #[Value.slice none 0 0, Value.int IntKind.i64 m, Value.int IntKind.i64 0] 62) = w3 at *
    clear hB R1 hww
    have hcw : w.heap.size ≤ c := by omega
    clear s1 s2 s0 hcc
    go_loopw [49] (fun i wr => ActsInv w w.heap.size c m len i wr) (fun i _ => len - (intOf i).toNat)
    case atStart => exact ⟨0, none, none, [], 0, by omega, rfl, by omega, by simp, by simpa [lastN] using R2, by simpa using RF, hap, by simp, by simp, hB2⟩
    case round =>
      obtain ⟨k, g, gR, L, cnt, hk, rfl, hcnt, hLk, r1, rf, ap, hg, hgR, hb⟩ := hrel
      clear R2 RF hB2 hap
      by_cases hlt : k < len
      · obtain ⟨b, off, rfl, hbw, hcell⟩ := HI.out.cell (by omega)
        obtain ⟨x, hx⟩ : ∃ x, els[k]? = some x := ⟨_, List.getElem?_eq_getElem (by rw [← HL.out]; exact hlt)⟩
        obtain ⟨z, s, rfl, hz, hs⟩ := ok_int_str (HI.out.ok x (List.mem_of_getElem? hx))
        have e0 := (hb.cell hbw).trans (hcell k _ hx 0 _ rfl)
        have e1 := (hb.cell hbw).trans (hcell k _ hx 1 _ rfl)
        simp only [List.length_cons, List.length_nil, Nat.add_zero, Nat.zero_add, Nat.reduceAdd] at e0 e1
        rw [← Nat.add_assoc] at e1
        have hk0 : (0 : Int) ≤ (k : Int) := by omega
        have hk1 : (k : Int) < (len : Int) := by omega
        clear hcell hx
        have cA := chg0_alloc wr (Obj.cells #[Value.int IntKind.i64 z, Value.string s] 64)
        have r1A := r1.chg0 cA
        have rfA := rf.chg0 cA
        have hbA := bel0 hb cA (Nat.le_refl _)
        obtain ⟨⟨v0, b0, o0⟩, ne0⟩ := id rf
        obtain ⟨⟨vR, bR, oR⟩, neR⟩ := id rfA
        have d0 := bR.cell 0
        have f0 := bR.frozen 0
        simp at d0
        have sA := cA.size
        have hlr := r1A.lt
        have hcr := rf.lt
        have bT := Blk.new wr 64 #[Value.int IntKind.i64 z, Value.string s]
        clear rf cA oR o0
        by_cases hz0 : z = 0
        · subst hz0
          clear d0 f0 bR r1 hb b0
          go_wp2_with fail
          refine (refAdd c gR m cnt L s _ rfA (by omega) (by omega)).mono ?_
          rintro e wB ⟨rfl, kR, rfB, cB, hkR⟩
          have r1B := r1A.chg cB ap.bb (fun j hj e => ap.gb (by rw [hj, e]))
          have hbB := below_chg hbA cB (Nat.le_refl _) (fun j hj h => by omega)
          have apB : Apart w.heap.size g c (some kR) := ⟨ap.bb, ap.gb, fun e => by cases e; omega, fun j hj e => by cases e; have := r1A.ltg _ hj; omega⟩
          have t1 := (bT.chg cB (by omega)).cell 1
          simp at t1
          clear r1A rfA cB hbA ap bT
          go_wp2_with fail
          refine (add_str _ g m cnt _ s wB r1B (by omega) (by omega) (by omega)).mono ?_
          rintro e wC ⟨rfl, kC, rC, cC, hC⟩
          have rfC := rfB.chg cC apB.out.1 apB.out.2
          have apC := apB.left hC rfB.lt rfB.ltg
          have hP : rpush m ((lastN m L).map sv) [.string s] = (lastN m (L ++ [s])).map sv := by
            rw [lastN_map, show [Value.string s] = sv s from rfl, lastN_push m1, lastN_map]; simp
          rw [hP] at rC
          have hbC := below_chg hbB cC (Nat.le_refl _) (fun j hj h => by rcases h with h | h; omega; have := hg j h; omega)
          have hkC : w.heap.size ≤ kC := by rcases hC with h | h; exact hg _ h; (have := hbB.size; omega)
          clear r1B rfB cC hbB apB hC hP t1
          obtain ⟨L', hL'⟩ : ∃ L', L' = L ++ [s] := ⟨_, rfl⟩
          have hlast : (lastN m L')[(lastN m L').length - 1]? = some s := by rw [hL']; exact lastN_last m1 L s
          rw [← hL'] at rC rfC
          have hl' : L'.length ≤ k + 1 := by rw [hL']; simp; omega
          clear hL'
          go_wp2_with fail
          refine (refAll c _ m _ L' wC rfC m1).mono ?_
          rintro e wD ⟨aR, capR, rfl, hR, cD⟩
          have rD := rC.chg0 cD
          have rfD := rfC.chg0 cD
          have hbD := bel0 hbC cD (Nat.le_refl _)
          clear rC rfC hbC cD
          go_wp2_with fail
          refine (last_str _ _ m _ _ (.string s) wD rD (by rw [List.length_map, List.getElem?_map, hlast]; rfl) (by omega)).mono ?_
          rintro e wE ⟨rfl, nE, rfl⟩
          have rE := rD.chg0 (chg0_drewN _ nE)
          have rfE := rfD.chg0 (chg0_drewN _ nE)
          have hbE := bel0 hbD (chg0_drewN _ nE) (Nat.le_refl _)
          have hRE := hR.chg (chg0_drewN _ nE) (fun _ _ h => h)
          clear rD rfD hbD hR
          generalize wD.drewN nE = wE at *
          obtain ⟨q, hq⟩ : ∃ q, q = (lastN m L').length := ⟨_, rfl⟩
          have hq1 : 1 ≤ q := by have := (List.getElem?_eq_some_iff.1 hlast).1; omega
          have hqm : q ≤ 64 := by rw [hq, lastN_len]; omega
          rw [← hq]
          go_wp2_with fail
          have q0 : 0 < q := hq1
          have q0' : (0 : Int) < (q : Int) := by omega
          have q0d : decide ((0 : Int) < (q : Int)) = true := by simpa using q0
          obtain ⟨⟨vE, bE, oE⟩, neE⟩ := id rfE
          have x2 := bE.cell 2
          simp at x2
          have S0 : Chg (fun _ => False) wE wE := Chg.refl _ _
          clear bE oE neE
          have HrE := Lib.hid rE
          have HrfE := Lib.hid rfE
          have HbE := Lib.hid hbE
          have HRE := Lib.hid hRE
          have HLA := Lib.hid hlast
          have Hq := Lib.hid hq
          obtain ⟨bb, oo, rfl, hcR⟩ := hRE (by rw [List.length_map, ← hq]; exact hq1)
          have cl := hcR (q - 1) (sv s) (by rw [List.getElem?_map, hq, hlast]; rfl) 0 _ rfl
          simp only [Nat.mul_one, Nat.add_zero] at cl
          clear rE rfE hbE hRE hlast hq hcR
          go_region_held3 (fun w' => w'.cell? ⟨c, 2, none⟩ = some (.int .i64 (cnt + 1)) ∧ Chg (fun _ => False) wE w') (first | exact ⟨x2, chg0_drew _⟩ | exact keep2 (by assumption) (by assumption) | exact keepd (by assumption) | assumption)
            (first
              | (go_at_call 32; refine (all_str _ _ m _ _ _ (HrE.out.chg0 (And.right (by assumption))) (by omega)).mono ?_; rintro e w' ⟨aA, capA, gA, rfl, oA, cA, hgA⟩; rw [List.length_map, ← Hq.out])
              | (go_at_call 31; refine (same_yes' _ _ _ _ q (lastN m L') _ Hq.out hqm (owns_reads oA) (HRE.out.chg (And.right (by assumption)) (fun _ _ h => h))).mono ?_; rintro e w' ⟨rfl, dS, rfl⟩)
              | (go_at_call 33; refine (len_str _ _ m _ _ _ (HrE.out.chg0 (And.right (by assumption)))).mono ?_; rintro e w' ⟨rfl, rfl⟩; rw [List.length_map, ← Hq.out])
              | (go_at_call 34; refine (count_str _ _ m _ _ _ (HrE.out.chg0 (And.right (by assumption)))).mono ?_; rintro e w' ⟨rfl, rfl⟩))
          have cF : Chg (fun _ => False) wE (w'.drewN dS) := ((chg0_drew wE).trans cA).trans (chg0_drewN _ _)
          have cl' := cF.keep cl (fun h => h)
          clear oA hgA cA x2 cl S0
          generalize w'.drewN dS = wF at *
          have j0 : (0 : Int) ≤ (q : Int) - 1 := by omega
          have j1 : (q : Int) - 1 < (q : Int) := by omega
          have j2 : ((q : Int) - 1).toNat = q - 1 := by omega
          go_wp2_with fail
          go_roundw
          case rel => exact ⟨k + 1, some kC, some kR, L', cnt + 1, by omega, by go_num, by omega, hl', HrE.out.chg0 cF, HrfE.out.chg0 cF, apC, by intro j hj; cases hj; exact hkC, by intro j hj; cases hj; (have := hbw; omega), bel0 HbE.out cF (Nat.le_refl _)⟩
          case measure => simp [intOf]; omega
        · have hz1 : ((z : Int) == 0) = false := by simpa using hz0
          have rfS := (show RefAt (wr.setCell ⟨c, 0, none⟩ (.slice none 0 0)) c none m cnt [] from ⟨⟨_, by simpa using b0.set_ 0 (.slice none 0 0), Owns.nil _ _ _⟩, by simp⟩)
          have cS := (Chg.refl (fun j => j = c) wr).setCell (p := ⟨c, 0, none⟩) (fun _ => rfl) (.slice none 0 0)
          have r1S := r1.chg cS ap.bb (fun j hj e => ap.gb (by rw [hj, e]))
          have hbS := below_chg hb cS (Nat.le_refl _) (fun j hj h => by omega)
          have cT := chg0_alloc (wr.setCell ⟨c, 0, none⟩ (.slice none 0 0)) (Obj.cells #[Value.int IntKind.i64 z, Value.string s] 64)
          have rfB := rfS.chg0 cT
          have r1B := r1S.chg0 cT
          have hbB := bel0 hbS cT (Nat.le_refl _)
          clear rfS cS r1S hbS cT r1 hb
          have apB : Apart w.heap.size g c none := ⟨ap.bb, ap.gb, by simp, by simp⟩
          clear r1A rfA hbA ap bT
          go_wp2_with fail
          refine (clear_str _ g m cnt _ _ r1B).mono ?_
          rintro e wC ⟨rfl, rC, cC⟩
          have rfC := rfB.chg cC (fun e => apB.bb e.symm) (by simp)
          have hbC := below_chg hbB cC (Nat.le_refl _) (fun j hj h => by omega)
          clear r1B rfB cC hbB d0 f0 bR b0
          go_wp2_with fail
          refine (refAll c _ m _ [] wC rfC m1).mono ?_
          rintro e wD ⟨aR, capR, rfl, hR, cD⟩
          have hl0 : lastN m ([] : List ByteArray) = [] := by simp [lastN]
          rw [hl0] at hR ⊢
          have rD := rC.chg0 cD
          have rfD := rfC.chg0 cD
          have hbD := bel0 hbC cD (Nat.le_refl _)
          clear rC rfC hbC cD
          go_wp2_with fail
          refine (lastNone_str _ _ m _ wD rD).mono ?_
          rintro e wE ⟨rfl, cE⟩
          have rE := rD.chg0 cE
          have rfE := rfD.chg0 cE
          have hbE := bel0 hbD cE (Nat.le_refl _)
          have hRE := hR.chg cE (fun _ _ h => h)
          clear rD rfD hbD hR cE
          go_wp2_with fail
          obtain ⟨⟨vE, bE, oE⟩, neE⟩ := id rfE
          have x2 := bE.cell 2
          simp at x2
          have S0 : Chg (fun _ => False) wE wE := Chg.refl _ _
          clear bE oE neE
          have HrE := Lib.hid rE
          have HrfE := Lib.hid rfE
          have HbE := Lib.hid hbE
          have HRE := Lib.hid hRE
          clear rE rfE hbE hRE
          go_region_held3 (fun w' => w'.cell? ⟨c, 2, none⟩ = some (.int .i64 cnt) ∧ Chg (fun _ => False) wE w') (first | exact ⟨x2, chg0_drew _⟩ | exact keep2 (by assumption) (by assumption) | exact keepd (by assumption) | assumption)
            (first
              | (go_at_call 32; refine (all_str _ _ m _ _ _ (HrE.out.chg0 (And.right (by assumption))) (by omega)).mono ?_; rintro e w' ⟨aA, capA, gA, rfl, oA, cA, hgA⟩)
              | (go_at_call 31; refine (same_yes' _ _ _ _ 0 [] _ rfl (by omega) (owns_reads oA) (HRE.out.chg (And.right (by assumption)) (fun _ _ h => h))).mono ?_; rintro e w' ⟨rfl, dS, rfl⟩)
              | (go_at_call 33; refine (len_str _ _ m _ _ _ (HrE.out.chg0 (And.right (by assumption)))).mono ?_; rintro e w' ⟨rfl, rfl⟩)
              | (go_at_call 34; refine (count_str _ _ m _ _ _ (HrE.out.chg0 (And.right (by assumption)))).mono ?_; rintro e w' ⟨rfl, rfl⟩))
          have cF : Chg (fun _ => False) wE (w'.drewN dS) := ((chg0_drew wE).trans cA).trans (chg0_drewN _ _)
          clear oA hgA cA x2 S0
          generalize w'.drewN dS = wF at *
          go_wp2_with fail
          go_roundw
          case rel => exact ⟨k + 1, none, none, [], cnt, by omega, by go_num, by omega, by simp, by simpa [lastN] using HrE.out.chg0 cF, HrfE.out.chg0 cF, ⟨apB.bb, by simp, by simp, by simp⟩, by simp, by simp, bel0 HbE.out cF (Nat.le_refl _)⟩
          case measure => simp [intOf]; omega
      · have hkl : k = len := by omega
        subst hkl
        have HB := Lib.hid hb
        clear hb hg r1 rf ap hgR
        go_wp2_with fail
        go_ret
        exact ⟨rfl, HB.out⟩
end Go.Proofs.Ytlcanhghhdjleaa
