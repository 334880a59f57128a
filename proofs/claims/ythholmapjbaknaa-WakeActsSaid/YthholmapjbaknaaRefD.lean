/- The document's queue (chronobateref15): contract of Due. -/
import Derived.Test.YthholmapjbaknaaRefQ
set_option linter.unusedVariables false
set_option linter.unusedSectionVars false
namespace Go.Chron
open Go Go.RowKit
theorem due_skip {L out : List SEnt} {j : Nat} {e : SEnt} {h : Int} (hd : IsDue (L.take j) h out) (he : L[j]? = some e) (hh : ¬ e.d ≤ h) : IsDue (L.take (j + 1)) h out := by
  refine ⟨?_, hd.sorted⟩
  rw [take_snoc he, List.filter_append]
  simpa [hh] using hd.perm
theorem due_ins {L out : List SEnt} {j K : Nat} {e : SEnt} {h : Int} (hd : IsDue (L.take j) h out) (he : L[j]? = some e) (hh : e.d ≤ h) (hr : L.Pairwise (fun a b => a.s < b.s)) (hK : K ≤ out.length)
    (h1 : ∀ y ∈ out.take K, y.d ≤ e.d) (h2 : K = out.length ∨ ∃ y, out[K]? = some y ∧ e.d < y.d) : IsDue (L.take (j + 1)) h (out.take K ++ [e] ++ out.drop K) := by
  have hs : ∀ y ∈ out, y.s < e.s := by
    intro y hy
    have hyL : y ∈ L.take j := (hd.mem.1 hy).1
    have hp := hr
    have hd2 : L = L.take j ++ e :: L.drop (j + 1) := by
      obtain ⟨h1, h2⟩ := List.getElem?_eq_some_iff.1 he
      rw [← h2, ← List.drop_eq_getElem_cons h1, List.take_append_drop]
    rw [hd2] at hp
    exact (List.pairwise_append.1 hp).2.2 y hyL e (by simp)
  have hsort := hd.sorted
  rw [← List.take_append_drop K out] at hsort
  obtain ⟨s1, s2, s3⟩ := List.pairwise_append.1 hsort
  refine ⟨?_, ?_⟩
  · rw [take_snoc he, List.filter_append]
    have e1 : [e].filter (fun e => decide (e.d ≤ h)) = [e] := by simp [hh]
    rw [e1]
    have p1 : (out.take K ++ [e] ++ out.drop K).Perm (out ++ [e]) := by
      rw [List.append_assoc]
      refine (List.Perm.append_left _ (List.perm_append_comm)).trans ?_
      rw [← List.append_assoc, List.take_append_drop]
    exact p1.trans (hd.perm.append_right _)
  · refine List.pairwise_append.2 ⟨List.pairwise_append.2 ⟨s1, by simp, ?_⟩, s2, ?_⟩
    · intro a ha b hb
      simp at hb
      subst hb
      have := h1 a ha
      have := hs a (List.mem_of_mem_take ha)
      unfold dueLt; omega
    · intro a ha b hb
      rcases List.mem_append.1 ha with ha | ha
      · exact s3 a ha b hb
      · simp at ha
        subst ha
        have hlt : a.d < b.d := by
          rcases h2 with rfl | ⟨y, hy, hyd⟩
          · rw [List.drop_length] at hb; cases hb
          · have hdd : out.drop K = y :: out.drop (K + 1) := by
              obtain ⟨q1, q2⟩ := List.getElem?_eq_some_iff.1 hy
              rw [← q2]; exact List.drop_eq_getElem_cons q1
            rw [hdd] at hb s2
            rcases List.mem_cons.1 hb with rfl | hb
            · exact hyd
            · have := (List.pairwise_cons.1 s2).1 b hb
              unfold dueLt at this; omega
        exact .inl hlt
theorem refc_two {l : List SEnt} : ∀ y ∈ l.map refc, y.length = 2 := by
  intro y hy
  obtain ⟨e, _, rfl⟩ := List.mem_map.1 hy
  rfl
theorem refc_one {l : List SEnt} : ∀ u ∈ (l.map refc).flatten, u.oneCell' = true := by
  intro u hu
  obtain ⟨y, hy, hu⟩ := List.mem_flatten.1 hu
  obtain ⟨e, _, rfl⟩ := List.mem_map.1 hy
  simp [refc] at hu
  rcases hu with rfl | rfl <;> rfl
theorem own_take {w : World} {e : TypeId} {sz k n cap : Nat} {els : List (List Value)} (h : Owns w e sz (.slice (some ⟨k, 0, none⟩) n cap) (some k) els) (K : Nat) : ∀ j u, (els.take K).flatten[j]? = some u → w.cell? ((⟨k, 0, none⟩ : Addr).add j) = some u := by
  intro j u hu
  have hr : Reads w sz (some ⟨k, 0, none⟩) els := h.reads
  refine hr.flat h.each j u ?_
  rw [← flat_take K h.each, List.getElem?_take] at hu
  split at hu
  · exact hu
  · cases hu
theorem own_drop {w : World} {e : TypeId} {sz k n cap : Nat} {els : List (List Value)} (h : Owns w e sz (.slice (some ⟨k, 0, none⟩) n cap) (some k) els) (K : Nat) : ∀ j u, (els.drop K).flatten[j]? = some u → w.cell? ((⟨k, K * sz, none⟩ : Addr).add j) = some u := by
  intro j u hu
  have hr : Reads w sz (some ⟨k, 0, none⟩) els := h.reads
  rw [← flat_drop K h.each, List.getElem?_drop] at hu
  have := hr.flat h.each _ u hu
  rw [Addr.add_lit] at this ⊢
  rw [Nat.zero_add] at this
  exact this
end Go.Chron
namespace Go.Proofs.Ythholmapjbaknaa
open Go.RowKit Go.Chron

/-- The document's Due: its loop. -/
def RDueInv (w : World) (L : List SEnt) (h : Int) (n : Nat) (v i : Value) (wr : World) : Prop :=
  ∃ (j : Nat) (g : Option Nat) (out : List SEnt), j ≤ n ∧ i = .int .i64 j ∧ IsDue (L.take j) h out ∧ (out = [] → v = .slice none 0 0) ∧ Owns wr 71 2 v g (out.map refc) ∧ (∀ k, g = some k → w.heap.size ≤ k) ∧ Chg (fun _ => False) w wr
/-- .. behind the first loop: the keys of what is due. -/
def RKeyInv (w : World) (out : List SEnt) (n : Nat) (v i : Value) (wr : World) : Prop :=
  ∃ (t : Nat) (g : Option Nat), t ≤ n ∧ i = .int .i64 t ∧ Owns wr 9 1 v g (keysS (out.take t)) ∧ (∀ k, g = some k → w.heap.size ≤ k) ∧ Chg (fun _ => False) w wr

set_option maxRecDepth 100000 in
set_option maxHeartbeats 6400000 in
theorem refDue (p : Nat) (g : Option Nat) (L : List SEnt) (h : Int) (w : World) (H : RefAt w p g L) (hn : L.length ≤ 1000000) (hr : L.Pairwise (fun a b => a.s < b.s)) :
    Calls Try.prog 23 #[.pointer (some ⟨p, 0, none⟩), .int .i64 h] w fun e w' => ∃ a cap g R, e = .returned (.slice a R.length cap) ∧ IsDue L h R ∧ Owns w' 9 1 (.slice a R.length cap) g (keysS R) ∧ (∀ k, g = some k → w.heap.size ≤ k) ∧ Chg (fun _ => False) w w' := by
  obtain ⟨i0, hi, hz0, hz1, hz2⟩ := info_parts info71
  obtain ⟨i1, hi1, hz10, hz11, hz12⟩ := info_parts infomS
  obtain ⟨n, hnn⟩ : ∃ n, n = L.length := ⟨_, rfl⟩
  rw [← hnn] at hn
  obtain ⟨a, cap, hb, ho, hcap, hcm⟩ := H.form hnn
  have hcm : cap ≤ 9223372036854775807 := by simpa [maxLen] using hcm
  have HN := Lib.hid hnn
  have HB := Lib.hid hb
  have HO := Lib.hid ho
  have HRS := Lib.hid hr
  clear H hb ho hnn hr
  go_enter Try.func23, Try.ntmps23
  go_wp2_with fail
  go_loopw [5, 6] (fun v i wr => RDueInv w L h n v i wr) (fun _ i _ => n - idx i)
  case atStart => exact ⟨0, none, [], by omega, rfl, IsDue.nil h, fun _ => rfl, Owns.nil _ _ _, by simp, Chg.refl _ _⟩
  case round =>
    obtain ⟨j, g1, out, hj, rfl, hdue, hnil, o1, hg1, c1⟩ := hrel
    have HG1 := Lib.hid hg1
    have HDUE := Lib.hid hdue
    have HNIL := Lib.hid hnil
    have hol : out.length ≤ 1000000 := by have := hdue.len; rw [List.length_take] at this; omega
    have p0 := (HB.out.chg c1 (fun h => h)).cell 0
    simp at p0
    clear hg1 hdue hnil
    by_cases hlt : j < n
    · obtain ⟨e, he⟩ : ∃ e, L[j]? = some e := ⟨_, List.getElem?_eq_getElem (by rw [← HN.out]; exact hlt)⟩
      obtain ⟨k, rfl, hgk, d0, d1⟩ := RefAt.get (HO.out.chg c1 (fun _ _ h => h)) he
      have hjn : (j : Int) < (n : Int) := by omega
      have HE := Lib.hid he
      clear he hgk
      by_cases hh : e.d ≤ h
      · have hh' : ¬ h < e.d := by omega
        have HO1 := Lib.hid o1
        have HC1 := Lib.hid c1
        have HP0 := Lib.hid p0
        have HD0 := Lib.hid d0
        have HD1 := Lib.hid d1
        obtain ⟨m, hm⟩ : ∃ m, m = out.length := ⟨_, rfl⟩
        by_cases hm0 : m = 0
        · obtain rfl : out = [] := List.eq_nil_of_length_eq_zero (by omega)
          have hv5 := HNIL.out rfl
          subst hv5
          subst hm0
          clear o1 hm hol
          obtain ⟨wo, hwo⟩ : ∃ wo, wo = wr := ⟨wr, rfl⟩
          subst hwo
          have HC1 := Lib.hid c1
          clear c1
          go_wp2_with fail
          clear hh'
          go_loopw [7] (fun v7 wr => Chg (fun _ => False) wo wr ∧ v7 = .int .i64 0) (fun v7 _ => 0)
          case atStart => exact ⟨Chg.refl _ _, rfl⟩
          case round =>
            obtain ⟨cK, rfl⟩ := hrel
            have p1 := cK.keep p0 (fun h => h)
            have d01 := cK.keep d0 (fun h => h)
            have d11 := cK.keep d1 (fun h => h)
            have HCK := Lib.hid cK
            clear p0 d0 d1 cK
            go_wp2_with fail
            go_quiet (fail)
            have b0 : Chg (fun _ => False) wr ((wr.drewN nq).alloc (Obj.cells #[] 71)) := ((Chg.refl _ wr).drewN _).alloc _
            have hs0 : ((wr.drewN nq).alloc (Obj.cells #[] 71)).heap.size = wr.heap.size + 1 := World.size_alloc _ _
            have p2 := b0.keep p1 (fun h => h)
            have d02 := b0.keep d01 (fun h => h)
            have d12 := b0.keep d11 (fun h => h)
            have o3 := (owns_empty 71 2 (wr.drewN nq)).alloc (Obj.cells #[encStr e.k, Value.int .i64 e.d] 71)
            have bX := Blk.new ((wr.drewN nq).alloc (Obj.cells #[] 71)) 71 #[encStr e.k, Value.int .i64 e.d]
            rw [hs0] at bX
            have B0 := Lib.hid b0
            have HS0 := Lib.hid hs0
            clear b0 hs0
            go_wp2_with (at_builtin; (refine wpList_app (by rfl) (.tmp 57) (.tmp 65) 48 (by rfl) 71 i0 _ 2 24 Try.underlying48 hi hz0 hz1 hz2 rfl (by omega) _ _ _ (by rfl) o3 _ 71 [[encStr e.k, .int .i64 e.d]] 1 1 (by rfl) (by rfl) bX (by simp) (by simp [Value.oneCell']) (by simp) (by simp) (by simp [maxLen]) ?_))
            intro k3 cap3 w3 ho3 hc3 hk3
            have hk3' : wr.heap.size ≤ k3 := by
              rcases hk3 with hk3 | hk3
              · have : wr.heap.size = k3 := by simpa using hk3
                omega
              · have : wr.heap.size + 1 + 1 ≤ k3 := by simpa using hk3
                omega
            have c3 : Chg (fun _ => False) wr w3 := by
              refine (B0.out.alloc _).trans' hc3 (fun i hi e => ?_)
              have : wr.heap.size = i := by simpa using e
              omega
            have h1 := HC1.out.size
            have h2 := HCK.out.size
            have c4 : Chg (fun _ => False) w w3 := HC1.out.trans' (HCK.out.trans' c3 (fun _ _ h => h)) (fun _ _ h => h)
            have hg4 : w.heap.size ≤ k3 := by omega
            have HO3 := Lib.hid (show Owns w3 71 2 (.slice (some ⟨k3, 0, none⟩) 1 cap3) (some k3) ([e].map refc) by simpa [refc] using ho3)
            have hcap3 : 1 ≤ cap3 := by obtain ⟨_, _, h3, h4, _⟩ := ho3.form; cases h3; simpa using h4
            have C4 := Lib.hid c4
            have HST2 := Lib.hid (due_ins (K := 0) HDUE.out HE.out hh HRS.out (by simp) (by simp) (.inl rfl))
            clear o3 bX ho3 hc3 hk3 c3 c4 h1 h2 p1 d01 d11 p2 d02 d12
            try simp only [List.length_cons, List.length_nil, Nat.zero_add]
            go_wp2_with fail
            go_roundw
            case rel => exact ⟨j + 1, some k3, [e], by omega, by go_num, by simpa using HST2.out, fun h => absurd h (by simp), HO3.out, fun j hj => by cases hj; exact hg4, C4.out⟩
            case measure => simp [idx]; omega
        · obtain ⟨k5, rfl⟩ := o1.pos (by rw [List.length_map]; omega)
          obtain ⟨a5, cap5, rfl, h15, h25, -, ha5⟩ := o1.form
          obtain rfl : a5 = some ⟨k5, 0, none⟩ := by simpa using ha5
          rw [List.length_map, ← hm] at h15 ⊢
          have h25' : cap5 ≤ 9223372036854775807 := by simpa [maxLen] using h25
          have HM := Lib.hid hm
          rw [← hm] at hol
          obtain ⟨wo, hwo⟩ : ∃ wo, wo = wr := ⟨wr, rfl⟩
          subst hwo
          clear o1 c1 hh' ha5 h25 hm
          have hh' : ¬ h < e.d := by omega
          go_wp2_with fail
          clear hh'
          go_loopw [7] (fun v7 wr => Chg (fun _ => False) wo wr ∧ ∃ K : Nat, K ≤ m ∧ v7 = .int .i64 K ∧ ∀ y ∈ out.take K, y.d ≤ e.d) (fun v7 _ => m - idx v7)
          case atStart => exact ⟨Chg.refl _ _, 0, by omega, rfl, by simp⟩
          case round =>
            obtain ⟨cK, K, hK, rfl, hpre⟩ := hrel
            have HPRE := Lib.hid hpre
            have p1 := cK.keep p0 (fun h => h)
            have d11 := cK.keep d1 (fun h => h)
            have HCK := Lib.hid cK
            clear hpre p0 d0 d1 cK
            by_cases hKm : K < m
            · obtain ⟨y, hy⟩ : ∃ y, out[K]? = some y := ⟨_, List.getElem?_eq_getElem (by rw [← HM.out]; exact hKm)⟩
              have hO2 := HO1.out.chg HCK.out (fun _ _ h => h)
              rw [List.length_map, ← HM.out] at hO2
              obtain ⟨k5', hk5, hg5, y0, y1⟩ := RefAt.get hO2 hy
              obtain rfl : k5 = k5' := by simpa using hk5
              have hKm' : (K : Int) < (m : Int) := by omega
              have HY := Lib.hid hy
              clear hy y0 hO2 hg5 hk5
              by_cases hle : y.d ≤ e.d
              · go_wp2_with fail
                go_quiet (fail)
                go_wp2_with fail
                go_roundw
                case rel =>
                  refine ⟨?_, K + 1, by omega, by go_num, fun z hz => ?_⟩
                  · exact HCK.out.drewN _
                  · rw [take_snoc HY.out] at hz
                    rcases List.mem_append.1 hz with hz | hz
                    · exact HPRE.out z hz
                    · simp at hz; rw [hz]; exact hle
                case measure => simp [idx]; omega
              · go_wp2_with fail
                go_quiet (fail)
                have HST := Lib.hid (show K = out.length ∨ ∃ y, out[K]? = some y ∧ e.d < y.d from .inr ⟨y, HY.out, by omega⟩)
                clear y1 p1 d11 hKm HY
                have hO2 := HO1.out.chg HCK.out (fun _ _ h => h)
                rw [List.length_map, ← HM.out] at hO2
                have hsz := HCK.out.size
                have hk5 : k5 < wr.heap.size := hO2.lt k5 rfl
                have hgw : w.heap.size ≤ k5 := HG1.out k5 rfl
                have hws := HC1.out.size
                obtain ⟨T, hT⟩ : ∃ T, T = (out.take K).map refc := ⟨_, rfl⟩
                obtain ⟨U, hU⟩ : ∃ U, U = (out.drop K).map refc := ⟨_, rfl⟩
                have hTl : K = T.length := by rw [hT, List.length_map, List.length_take, ← HM.out]; omega
                have hUl : m - K = U.length := by rw [hU, List.length_map, List.length_drop, ← HM.out]
                have hT2 : ∀ y ∈ T, y.length = 2 := by rw [hT]; exact refc_two
                have hU2 : ∀ y ∈ U, y.length = 2 := by rw [hU]; exact refc_two
                have hT1 : ∀ u ∈ T.flatten, u.oneCell' = true := by rw [hT]; exact refc_one
                have hU1 : ∀ u ∈ U.flatten, u.oneCell' = true := by rw [hU]; exact refc_one
                have hTc := own_take hO2 K
                have hUc := own_drop hO2 K
                rw [← List.map_take, ← hT] at hTc
                rw [← List.map_drop, ← hU] at hUc
                have HTL := Lib.hid hTl
                have HUL := Lib.hid hUl
                have HTE := Lib.hid hT
                have HUE := Lib.hid hU
                have HTC := Lib.hid hTc
                have HUC := Lib.hid hUc
                have hTK : T.length ≤ 1000000 := by omega
                have hUK : U.length ≤ 1000000 := by omega
                have hTU : T.length + 1 + U.length ≤ 1000001 := by omega
                have HO22 := Lib.hid hO2
                have hk7 : (K : Int) ≤ (m : Int) := by omega
                have hk8 : (K : Int) ≤ (cap5 : Int) := by omega
                have hk9 : (0 : Int) ≤ (K : Int) := by omega
                have hk10 : (m : Int) ≤ (cap5 : Int) := by omega
                clear hT hU hTc hUc hTl hUl hO2
                go_wp2_with (at_builtin; refine wpList_app_any (by rfl) (.tmp 52) (.tmp 55) 48 (by rfl) 71 i0 _ 2 24 Try.underlying48 hi hz0 hz1 hz2 rfl (by omega) _ wr.heap.size [] (by rfl) (owns_empty _ _ _) ⟨k5, 0, none⟩ T K cap5 (by rfl) HTL.out ?_ hT2 hT1 (by simp; omega) (by simp [maxLen]; omega) ?_)
                · intro i u hu
                  have := HTC.out i u hu
                  rw [World.cell?_alloc_lt]
                  · exact this
                  · exact World.block_lt_of_cell? _ _ this
                intro k2 cap2 w2 ho2 hc2 hk2
                try rw [List.length_nil] at ho2
                try rw [Nat.zero_add] at ho2
                try rw [List.nil_append] at ho2
                rw [← HTL.out] at ho2
                try rw [List.length_nil]
                try rw [Nat.zero_add]
                rw [← HTL.out]
                have c2 : Chg (fun _ => False) wo w2 := ((HCK.out.drewN _).alloc _).trans' hc2 (fun i hi e => by have e' : i = wr.heap.size := e; omega)
                have c5 : Chg (fun _ => False) wr w2 := (((Chg.refl _ wr).drewN _).alloc _).trans' hc2 (fun i hi e => by have e' : i = wr.heap.size := e; omega)
                have hk2' : wr.heap.size ≤ k2 := by
                  rcases hk2 with hk2 | hk2
                  · omega
                  · have : wr.heap.size + 1 ≤ k2 := by simpa using hk2
                    omega
                have p2 := c2.keep HP0.out (fun h => h)
                have d02 := c2.keep HD0.out (fun h => h)
                have d12 := c2.keep HD1.out (fun h => h)
                have o3 := ho2.alloc (Obj.cells #[encStr e.k, Value.int .i64 e.d] 71)
                have bX := Blk.new w2 71 #[encStr e.k, Value.int .i64 e.d]
                have hs2 := c2.size
                have hs5 := c5.size
                have C2 := Lib.hid c2
                have C5 := Lib.hid c5
                clear ho2 hc2 hk2 c2 c5
                have hKT : T.length = K := HTL.out.symm
                have HKT := Lib.hid hKT
                rw [hKT] at hTK
                clear hKT
                go_wp2_with (at_builtin; go_loud (refine wpList_app (by rfl) (.tmp 57) (.tmp 65) 48 (by rfl) 71 i0 _ 2 24 Try.underlying48 hi hz0 hz1 hz2 rfl (by omega) _ _ _ (by rfl) o3 _ 71 [[encStr e.k, .int .i64 e.d]] 1 1 (by rfl) (by rfl) bX (by simp) (by simp [Value.oneCell']) (by simp) (by rw [HKT.out]; simp; omega) (by rw [HKT.out]; simp [maxLen]; omega) ?_))
                intro k3 cap3 w3 ho3 hc3 hk3
                rw [HKT.out] at ho3 ⊢
                try simp only [List.length_cons, List.length_nil, Nat.zero_add] at ho3
                try simp only [List.length_cons, List.length_nil, Nat.zero_add]
                have c3 : Chg (fun _ => False) wr w3 := (C5.out.alloc _).trans' hc3 (fun i hi e => by cases e; omega)
                have hk3' : wr.heap.size ≤ k3 := by
                  rcases hk3 with hk3 | hk3
                  · cases hk3; exact hk2'
                  · have : w2.heap.size + 1 ≤ k3 := by simpa using hk3
                    omega
                have HO3 := Lib.hid ho3
                have C3 := Lib.hid c3
                have HUL2 := Lib.hid (show U.length = m - K from HUL.out.symm)
                clear o3 bX hc3 hk3 c3 p2 d02 d12
                by_cases hKc : cap5 = K
                · have hm2 : m = K := by omega
                  go_wp2_with (at_builtin; refine wpList_app_any (by rfl) (.tmp 67) (.tmp 70) 48 (by rfl) 71 i0 _ 2 24 Try.underlying48 hi hz0 hz1 hz2 rfl (by omega) _ k3 (T ++ [[encStr e.k, .int .i64 e.d]]) (by rfl) HO3.out _ U _ _ (by rfl) ?_ ?_ hU2 hU1 (by simp; omega) (by simp [maxLen]; omega) ?_)
                  · have := HUL.out; omega
                  · intro i u hu
                    have h1 := HUL.out
                    have h2 : U = [] := List.eq_nil_of_length_eq_zero (by omega)
                    rw [h2] at hu
                    cases hu
                  intro k4 cap4 w4 ho4 hc4 hk4
                  have hk4' : wr.heap.size ≤ k4 := by
                    rcases hk4 with hk4 | hk4
                    · omega
                    · have h1 := C3.out.size
                      have h2 : w3.heap.size ≤ k4 := by simpa using hk4
                      omega
                  have c4 : Chg (fun _ => False) w w4 := HC1.out.trans' (HCK.out.trans' (C3.out.trans' hc4 (fun i hi e => by cases e; omega)) (fun _ _ h => h)) (fun _ _ h => h)
                  have hg4 : w.heap.size ≤ k4 := by omega
                  have hm4 : T ++ [encStr e.k, Value.int .i64 e.d] :: U = (out.take K ++ [e] ++ out.drop K).map refc := by
                    rw [HTE.out, HUE.out, List.map_append, List.map_append]; simp [refc]
                  rw [hm4] at ho4
                  have HO4 := Lib.hid ho4
                  have C4 := Lib.hid c4
                  have HST2 := Lib.hid (due_ins HDUE.out HE.out hh HRS.out (by have := HM.out; omega) HPRE.out HST.out)
                  clear ho4 hc4 hk4 hm4 c4
                  go_wp2_with fail
                  go_roundw
                  case rel =>
                    exact ⟨j + 1, some k4, out.take K ++ [e] ++ out.drop K, by omega, by go_num, HST2.out, fun h => absurd h (by simp), HO4.out, fun j hj => by cases hj; exact hg4, C4.out⟩
                  case measure => simp [idx]; omega
                · go_wp2_with (at_builtin; refine wpList_app_any (by rfl) (.tmp 67) (.tmp 70) 48 (by rfl) 71 i0 _ 2 24 Try.underlying48 hi hz0 hz1 hz2 rfl (by omega) _ k3 (T ++ [[encStr e.k, .int .i64 e.d]]) (by rfl) HO3.out _ U _ _ (by rfl) ?_ ?_ hU2 hU1 (by simp; omega) (by simp [maxLen]; omega) ?_)
                  · exact HUL.out
                  · exact fun i u hu => C3.out.keep (HUC.out i u hu) (fun h => h)
                  intro k4 cap4 w4 ho4 hc4 hk4
                  have hk4' : wr.heap.size ≤ k4 := by
                    rcases hk4 with hk4 | hk4
                    · omega
                    · have h1 := C3.out.size
                      have h2 : w3.heap.size ≤ k4 := by simpa using hk4
                      omega
                  have c4 : Chg (fun _ => False) w w4 := HC1.out.trans' (HCK.out.trans' (C3.out.trans' hc4 (fun i hi e => by cases e; omega)) (fun _ _ h => h)) (fun _ _ h => h)
                  have hg4 : w.heap.size ≤ k4 := by omega
                  have hm4 : T ++ [encStr e.k, Value.int .i64 e.d] :: U = (out.take K ++ [e] ++ out.drop K).map refc := by
                    rw [HTE.out, HUE.out, List.map_append, List.map_append]; simp [refc]
                  rw [hm4] at ho4
                  have HO4 := Lib.hid ho4
                  have C4 := Lib.hid c4
                  have HST2 := Lib.hid (due_ins HDUE.out HE.out hh HRS.out (by have := HM.out; omega) HPRE.out HST.out)
                  clear ho4 hc4 hk4 hm4 c4
                  go_wp2_with fail
                  go_roundw
                  case rel =>
                    exact ⟨j + 1, some k4, out.take K ++ [e] ++ out.drop K, by omega, by go_num, HST2.out, fun h => absurd h (by simp), HO4.out, fun j hj => by cases hj; exact hg4, C4.out⟩
                  case measure => simp [idx]; omega
            · have hKm' : ¬ ((K : Int) < (m : Int)) := by omega
              go_wp2_with fail
              go_quiet (fail)
              have HST := Lib.hid (show K = out.length ∨ ∃ y, out[K]? = some y ∧ e.d < y.d from .inl (by have := HM.out; omega))
              clear p1 d11 hKm
              have hO2 := HO1.out.chg HCK.out (fun _ _ h => h)
              rw [List.length_map, ← HM.out] at hO2
              have hsz := HCK.out.size
              have hk5 : k5 < wr.heap.size := hO2.lt k5 rfl
              have hgw : w.heap.size ≤ k5 := HG1.out k5 rfl
              have hws := HC1.out.size
              obtain ⟨T, hT⟩ : ∃ T, T = (out.take K).map refc := ⟨_, rfl⟩
              obtain ⟨U, hU⟩ : ∃ U, U = (out.drop K).map refc := ⟨_, rfl⟩
              have hTl : K = T.length := by rw [hT, List.length_map, List.length_take, ← HM.out]; omega
              have hUl : m - K = U.length := by rw [hU, List.length_map, List.length_drop, ← HM.out]
              have hT2 : ∀ y ∈ T, y.length = 2 := by rw [hT]; exact refc_two
              have hU2 : ∀ y ∈ U, y.length = 2 := by rw [hU]; exact refc_two
              have hT1 : ∀ u ∈ T.flatten, u.oneCell' = true := by rw [hT]; exact refc_one
              have hU1 : ∀ u ∈ U.flatten, u.oneCell' = true := by rw [hU]; exact refc_one
              have hTc := own_take hO2 K
              have hUc := own_drop hO2 K
              rw [← List.map_take, ← hT] at hTc
              rw [← List.map_drop, ← hU] at hUc
              have HTL := Lib.hid hTl
              have HUL := Lib.hid hUl
              have HTE := Lib.hid hT
              have HUE := Lib.hid hU
              have HTC := Lib.hid hTc
              have HUC := Lib.hid hUc
              have hTK : T.length ≤ 1000000 := by omega
              have hUK : U.length ≤ 1000000 := by omega
              have hTU : T.length + 1 + U.length ≤ 1000001 := by omega
              have HO22 := Lib.hid hO2
              have hk7 : (K : Int) ≤ (m : Int) := by omega
              have hk8 : (K : Int) ≤ (cap5 : Int) := by omega
              have hk9 : (0 : Int) ≤ (K : Int) := by omega
              have hk10 : (m : Int) ≤ (cap5 : Int) := by omega
              clear hT hU hTc hUc hTl hUl hO2
              go_wp2_with (at_builtin; refine wpList_app_any (by rfl) (.tmp 52) (.tmp 55) 48 (by rfl) 71 i0 _ 2 24 Try.underlying48 hi hz0 hz1 hz2 rfl (by omega) _ wr.heap.size [] (by rfl) (owns_empty _ _ _) ⟨k5, 0, none⟩ T K cap5 (by rfl) HTL.out ?_ hT2 hT1 (by simp; omega) (by simp [maxLen]; omega) ?_)
              · intro i u hu
                have := HTC.out i u hu
                rw [World.cell?_alloc_lt]
                · exact this
                · exact World.block_lt_of_cell? _ _ this
              intro k2 cap2 w2 ho2 hc2 hk2
              try rw [List.length_nil] at ho2
              try rw [Nat.zero_add] at ho2
              try rw [List.nil_append] at ho2
              rw [← HTL.out] at ho2
              try rw [List.length_nil]
              try rw [Nat.zero_add]
              rw [← HTL.out]
              have c2 : Chg (fun _ => False) wo w2 := ((HCK.out.drewN _).alloc _).trans' hc2 (fun i hi e => by have e' : i = wr.heap.size := e; omega)
              have c5 : Chg (fun _ => False) wr w2 := (((Chg.refl _ wr).drewN _).alloc _).trans' hc2 (fun i hi e => by have e' : i = wr.heap.size := e; omega)
              have hk2' : wr.heap.size ≤ k2 := by
                rcases hk2 with hk2 | hk2
                · omega
                · have : wr.heap.size + 1 ≤ k2 := by simpa using hk2
                  omega
              have p2 := c2.keep HP0.out (fun h => h)
              have d02 := c2.keep HD0.out (fun h => h)
              have d12 := c2.keep HD1.out (fun h => h)
              have o3 := ho2.alloc (Obj.cells #[encStr e.k, Value.int .i64 e.d] 71)
              have bX := Blk.new w2 71 #[encStr e.k, Value.int .i64 e.d]
              have hs2 := c2.size
              have hs5 := c5.size
              have C2 := Lib.hid c2
              have C5 := Lib.hid c5
              clear ho2 hc2 hk2 c2 c5
              have hKT : T.length = K := HTL.out.symm
              have HKT := Lib.hid hKT
              rw [hKT] at hTK
              clear hKT
              go_wp2_with (at_builtin; go_loud (refine wpList_app (by rfl) (.tmp 57) (.tmp 65) 48 (by rfl) 71 i0 _ 2 24 Try.underlying48 hi hz0 hz1 hz2 rfl (by omega) _ _ _ (by rfl) o3 _ 71 [[encStr e.k, .int .i64 e.d]] 1 1 (by rfl) (by rfl) bX (by simp) (by simp [Value.oneCell']) (by simp) (by rw [HKT.out]; simp; omega) (by rw [HKT.out]; simp [maxLen]; omega) ?_))
              intro k3 cap3 w3 ho3 hc3 hk3
              rw [HKT.out] at ho3 ⊢
              try simp only [List.length_cons, List.length_nil, Nat.zero_add] at ho3
              try simp only [List.length_cons, List.length_nil, Nat.zero_add]
              have c3 : Chg (fun _ => False) wr w3 := (C5.out.alloc _).trans' hc3 (fun i hi e => by cases e; omega)
              have hk3' : wr.heap.size ≤ k3 := by
                rcases hk3 with hk3 | hk3
                · cases hk3; exact hk2'
                · have : w2.heap.size + 1 ≤ k3 := by simpa using hk3
                  omega
              have HO3 := Lib.hid ho3
              have C3 := Lib.hid c3
              have HUL2 := Lib.hid (show U.length = m - K from HUL.out.symm)
              clear o3 bX hc3 hk3 c3 p2 d02 d12
              by_cases hKc : cap5 = K
              · have hm2 : m = K := by omega
                go_wp2_with (at_builtin; refine wpList_app_any (by rfl) (.tmp 67) (.tmp 70) 48 (by rfl) 71 i0 _ 2 24 Try.underlying48 hi hz0 hz1 hz2 rfl (by omega) _ k3 (T ++ [[encStr e.k, .int .i64 e.d]]) (by rfl) HO3.out _ U _ _ (by rfl) ?_ ?_ hU2 hU1 (by simp; omega) (by simp [maxLen]; omega) ?_)
                · have := HUL.out; omega
                · intro i u hu
                  have h1 := HUL.out
                  have h2 : U = [] := List.eq_nil_of_length_eq_zero (by omega)
                  rw [h2] at hu
                  cases hu
                intro k4 cap4 w4 ho4 hc4 hk4
                have hk4' : wr.heap.size ≤ k4 := by
                  rcases hk4 with hk4 | hk4
                  · omega
                  · have h1 := C3.out.size
                    have h2 : w3.heap.size ≤ k4 := by simpa using hk4
                    omega
                have c4 : Chg (fun _ => False) w w4 := HC1.out.trans' (HCK.out.trans' (C3.out.trans' hc4 (fun i hi e => by cases e; omega)) (fun _ _ h => h)) (fun _ _ h => h)
                have hg4 : w.heap.size ≤ k4 := by omega
                have hm4 : T ++ [encStr e.k, Value.int .i64 e.d] :: U = (out.take K ++ [e] ++ out.drop K).map refc := by
                  rw [HTE.out, HUE.out, List.map_append, List.map_append]; simp [refc]
                rw [hm4] at ho4
                have HO4 := Lib.hid ho4
                have C4 := Lib.hid c4
                have HST2 := Lib.hid (due_ins HDUE.out HE.out hh HRS.out (by have := HM.out; omega) HPRE.out HST.out)
                clear ho4 hc4 hk4 hm4 c4
                go_wp2_with fail
                go_roundw
                case rel =>
                  exact ⟨j + 1, some k4, out.take K ++ [e] ++ out.drop K, by omega, by go_num, HST2.out, fun h => absurd h (by simp), HO4.out, fun j hj => by cases hj; exact hg4, C4.out⟩
                case measure => simp [idx]; omega
              · go_wp2_with (at_builtin; refine wpList_app_any (by rfl) (.tmp 67) (.tmp 70) 48 (by rfl) 71 i0 _ 2 24 Try.underlying48 hi hz0 hz1 hz2 rfl (by omega) _ k3 (T ++ [[encStr e.k, .int .i64 e.d]]) (by rfl) HO3.out _ U _ _ (by rfl) ?_ ?_ hU2 hU1 (by simp; omega) (by simp [maxLen]; omega) ?_)
                · exact HUL.out
                · exact fun i u hu => C3.out.keep (HUC.out i u hu) (fun h => h)
                intro k4 cap4 w4 ho4 hc4 hk4
                have hk4' : wr.heap.size ≤ k4 := by
                  rcases hk4 with hk4 | hk4
                  · omega
                  · have h1 := C3.out.size
                    have h2 : w3.heap.size ≤ k4 := by simpa using hk4
                    omega
                have c4 : Chg (fun _ => False) w w4 := HC1.out.trans' (HCK.out.trans' (C3.out.trans' hc4 (fun i hi e => by cases e; omega)) (fun _ _ h => h)) (fun _ _ h => h)
                have hg4 : w.heap.size ≤ k4 := by omega
                have hm4 : T ++ [encStr e.k, Value.int .i64 e.d] :: U = (out.take K ++ [e] ++ out.drop K).map refc := by
                  rw [HTE.out, HUE.out, List.map_append, List.map_append]; simp [refc]
                rw [hm4] at ho4
                have HO4 := Lib.hid ho4
                have C4 := Lib.hid c4
                have HST2 := Lib.hid (due_ins HDUE.out HE.out hh HRS.out (by have := HM.out; omega) HPRE.out HST.out)
                clear ho4 hc4 hk4 hm4 c4
                go_wp2_with fail
                go_roundw
                case rel =>
                  exact ⟨j + 1, some k4, out.take K ++ [e] ++ out.drop K, by omega, by go_num, HST2.out, fun h => absurd h (by simp), HO4.out, fun j hj => by cases hj; exact hg4, C4.out⟩
                case measure => simp [idx]; omega
      · have hh' : h < e.d := by omega
        have HD2 := Lib.hid (due_skip HDUE.out HE.out hh)
        have HO := Lib.hid o1
        clear d0 o1
        go_wp2_with fail
        go_roundw
        case rel => exact ⟨j + 1, g1, out, by omega, by go_num, HD2.out, HNIL.out, HO.out, HG1.out, c1⟩
        case measure => simp [idx]; omega
    · obtain rfl : j = n := by omega
      have hzt : L.take j = L := List.take_of_length_le (by rw [HN.out]; exact Nat.le_refl _)
      have HD2 := Lib.hid (show IsDue L h out by rw [← hzt]; exact HDUE.out)
      obtain ⟨m, hm⟩ : ∃ m, m = out.length := ⟨_, rfl⟩
      obtain ⟨a5, cap5, rfl, h15, h25, -, ha5⟩ := o1.form
      rw [List.length_map, ← hm] at o1 h15 ⊢
      rw [← hm] at hol
      have h25' : cap5 ≤ 9223372036854775807 := by simpa [maxLen] using h25
      have HM := Lib.hid hm
      have HO1 := Lib.hid o1
      have HC1 := Lib.hid c1
      clear hzt o1 c1 ha5 h25 hm
      obtain ⟨wo, hwo⟩ : ∃ wo, wo = wr := ⟨wr, rfl⟩
      subst hwo
      go_wp2_with fail
      clear p0
      go_loopw [9, 10] (fun v i wr => RKeyInv wo out m v i wr) (fun _ i _ => m - idx i)
      case atStart => exact ⟨0, none, by omega, rfl, Owns.nil _ _ _, by simp, Chg.refl _ _⟩
      case round =>
        obtain ⟨t, g2, ht, rfl, o2, hg2, c2⟩ := hrel
        have HG2 := Lib.hid hg2
        clear hg2
        by_cases htm : t < m
        · obtain ⟨y, hy⟩ : ∃ y, out[t]? = some y := ⟨_, List.getElem?_eq_getElem (by rw [← HM.out]; exact htm)⟩
          obtain ⟨k5, rfl, hg5, y0, y1⟩ := RefAt.get (HO1.out.chg c2 (fun _ _ h => h)) hy
          have htm' : (t : Int) < (m : Int) := by omega
          have HY := Lib.hid hy
          obtain ⟨A, hA⟩ : ∃ A, A = keysS (out.take t) := ⟨_, rfl⟩
          have hAl : A.length ≤ 1000000 := by rw [hA, List.length_map, List.length_take]; omega
          have hAn : A ++ [[encStr y.k]] = keysS (out.take (t + 1)) := by rw [hA, take_snoc hy, keysS, keysS, List.map_append]; rfl
          rw [← hA] at o2
          have o3 := o2.alloc (Obj.cells #[encStr y.k] 9)
          have bX := Blk.new wr 9 #[encStr y.k]
          have HAN := Lib.hid hAn
          have hs2 := c2.size
          clear hy hg5 y1 hA o2 hAn
          go_wp2_with (at_builtin; refine wpList_app (by rfl) (.tmp 78) (.tmp 84) 41 (by rfl) 9 i1 _ 1 16 Try.underlying41 hi1 hz10 hz11 hz12 rfl (by omega) _ _ _ (by rfl) o3 _ 9 [[encStr y.k]] 1 1 (by rfl) (by rfl) bX (by simp) (by simp [Value.oneCell']) (by simp) (by simp; omega) (by simp [maxLen]; omega) ?_)
          intro k2 cap2 w2 ho3 hc3 hk3
          have hk' : g2 = some k2 ∨ wr.heap.size + 1 ≤ k2 := by simpa using hk3
          rw [HAN.out] at ho3
          have c3 : Chg (fun _ => False) wo w2 := (c2.alloc _).trans' hc3 (fun i hi e => by have := HG2.out i e; omega)
          have g3 : wo.heap.size ≤ k2 := hk'.elim (fun e => HG2.out _ e) (fun e => by omega)
          have HO3 := Lib.hid ho3
          have C3 := Lib.hid c3
          clear o3 bX ho3 hc3 hk3 c3 c2 hk' y0 hs2
          go_wp2_with fail
          go_roundw
          case rel => exact ⟨t + 1, some k2, by omega, by go_num, by simpa using HO3.out, fun j hj => by cases hj; exact g3, C3.out⟩
          case measure => simp [idx]; omega
        · obtain rfl : t = m := by omega
          have htt : out.take t = out := List.take_of_length_le (by rw [HM.out]; exact Nat.le_refl _)
          rw [htt] at o2
          obtain ⟨a6, cap6, rfl, -⟩ := o2.form
          rw [List.length_map, ← HM.out] at o2 ⊢
          have hws := HC1.out.size
          have c3 : Chg (fun _ => False) w wr := HC1.out.trans' c2 (fun _ _ h => h)
          have HO2 := Lib.hid o2
          have C3 := Lib.hid c3
          clear o2 c2 c3 htt
          go_wp2_with fail
          go_ret
          rw [HM.out] at HO2 ⊢
          exact ⟨a6, cap6, g2, out, rfl, HD2.out, HO2.out, fun k hk => by have := HG2.out k hk; omega, C3.out⟩
end Go.Proofs.Ythholmapjbaknaa
