/- conf.line: the walk. -/
import Derived.Test.YtamhicdhbjniiaaGreatDoorM27
set_option linter.unusedVariables false
set_option maxHeartbeats 4000000
set_option maxRecDepth 100000
namespace Go.Proofs.YtamhicdhbjniiaaGreatDoor
section
open Go Go.RowKit Go.Chron
theorem line84 (C : CB) (s : PS) (m n g : Nat) (hd : List UInt8) (tl : List (List UInt8)) (w : World) (hc : CAt w C s) (hm : MAt w m n C) (hws : Blk w g 9 ((hd :: tl).map strv).toArray) (hlen : ∀ x ∈ hd :: tl, x.length < 65537) (htl : tl.length < 65537) (he : ErrAt w) (he9 : ∀ i, CBk C i → 9 < i) (hgC : ¬ CBk C g) (hmC : ¬ CBk C m) :
  Calls Tryz.prog 84 #[.map (some m), .slice (some ⟨g, 0, none⟩) (tl.length + 1) (tl.length + 1)] w fun e w' => e = .returned (.int .i64 (lineI s (hd :: tl)).2) ∧ LinePost w C (lineI s (hd :: tl)).1 w' := by
 have HL := hm.look hd (by have := hlen hd (by simp); unfold maxLen; omega)
 have hw0 : w.cell? ⟨g, 0, none⟩ = some (strv hd) := by rw [hws.cell]; simp
 obtain ⟨y, hy⟩ : ∃ y, y = lineI s (hd :: tl) := ⟨_, rfl⟩
 rw [← hy]
 have HY := Lib.hid hy
 have HC := Lib.hid hc
 have HWS := Lib.hid hws
 have HE := Lib.hid (And.intro he he9)
 have HLEN := Lib.hid hlen
 clear hy hm he he9 hlen
 unfold strv at HL hw0
 cases hk : kwIx hd with
 | none =>
  have hy2 : y = (s, 10) := by rw [HY.out]; unfold lineI; simp [hk]
  have HY2 := Lib.hid hy2
  unfold lookV at HL
  simp only [hk, Option.isSome_none] at HL
  clear hy2 HY hc hws hk
  go_enter Tryz.func84, Tryz.ntmps84
  go_wp2_with fail
  go_ret
  rw [HY2.out]
  exact ⟨rfl, LinePost.same HC.out (Chg.refl _ _)⟩
 | some k =>
  obtain ⟨k5, -⟩ := kwIx_some hk
  have hlv : lookV C hd = .pointer (some ⟨C.w k, 0, none⟩) := by unfold lookV; rw [hk]
  rw [hlv, hk, Option.isSome_some] at HL
  have hb := hc.ws k k5
  have q0 := hb.cell 0
  have q1 := hb.cell 1
  have q2 := hb.cell 2
  have q3 := hb.cell 3
  simp [wordc] at q0 q1 q2 q3
  have hmany : (many k : Int) = 1 ∨ (many k : Int) = 2 := by unfold many; split <;> simp
  by_cases hl : tl.length = many k
  ·-- the words' numbers
   have hlI : (tl.length : Int) + 1 = 1 + (many k : Int) := by omega
   have hlIb : ((tl.length : Int) + 1 != 1 + (many k : Int)) = false := by rw [hlI]; simp
   have HCELL := Lib.hid (fun (j : Nat) x (hj : tl[j]? = some x) => (by
    rw [hws.cell, Nat.add_comm]
    simp [hj] : w.cell? ⟨g, 1 + j, none⟩ = some (strv x)))
   have HN := Lib.hid (fun (x : List UInt8) (hx : x ∈ tl) W (hW : Chg (fun _ => False) w W) => number122 x W (by have := HLEN.out x (by simp [hx]); omega) (HE.out.1.chg hW id))
   unfold strv at HCELL HN
   obtain ⟨mk, hmk⟩ : ∃ mk : Int, mk = (many k : Int) := ⟨_, rfl⟩
   obtain ⟨tn, htn⟩ : ∃ tn, tn = tl.length := ⟨_, rfl⟩
   rw [← htn] at htl ⊢
   have htI : (tn : Int) = mk := by omega
   have HTN := Lib.hid (And.intro htn htI)
   have HL0 := Lib.hid hl
   have HYE := Lib.hid (fun (h : (numsI tl).2 ≠ 0) => HY.out.trans (lineI_num (s := s) hk hl h))
   have HYT := Lib.hid (fun h h2 => HY.out.trans (lineI_twice (s := s) hk hl h h2))
   have HYD := Lib.hid (fun h h2 => HY.out.trans (lineI_done (s := s) hk hl h h2))
   have htp : 0 < (tn : Int) := by omega
   rw [← hmk] at q0
   have HQ := Lib.hid (And.intro q2 q3)
   have hq : ((tn : Int) + 1 != 1 + mk) = false := by rw [htI]; simp; omega
   clear hc hws hlv hb hl hlI hlIb htn htI q3
   go_enter Tryz.func84, Tryz.ntmps84
   go_wp2_with fail
   obtain ⟨i0, hi0, hz0, hz1, hz2⟩ := info_parts info3
   go_loopw [7, 35] (fun v7 i wr => ∃ (j : Nat) (g' : Option Nat), j ≤ tn ∧ i = .int .i64 j ∧ (numsI (tl.take j)).2 = 0 ∧ Owns wr 3 1 v7 g' ((numsI (tl.take j)).1.map i64c) ∧ Chg (fun _ => False) w wr ∧ ∀ k, g' = some k → w.heap.size ≤ k) (fun _ i _ => tn - (intOf i).toNat)
   case atStart => exact ⟨0, none, by omega, rfl, rfl, Owns.nil _ _ _, Chg.refl _ _, by simp⟩
   case round =>
    obtain ⟨j, g', hj, rfl, hn0, ho, hch, hgn⟩ := hrel
    have hnl : (numsI (tl.take j)).1.length = j := by rw [numsI_len _ hn0, List.length_take]; have := HTN.out.1; omega
    obtain ⟨va, vcap, hv, hvl, hvm, hvn, hva⟩ := ho.form
    rw [List.length_map, hnl] at hv hvl
    subst hv
    by_cases hjn : j < tn
    ·have hjI : (j : Int) < tn := by omega
     obtain ⟨x, hx⟩ : ∃ x, tl[j]? = some x := ⟨_, List.getElem?_eq_getElem (by have := HTN.out.1; omega)⟩
     have hxm : x ∈ tl := List.mem_of_getElem? hx
     have e0 := hch.keep (HCELL.out j x hx) (fun h => h)
     have ht : tl.take (j + 1) = tl.take j ++ [x] := by rw [List.take_add_one, hx]; rfl
     have hd2 : tl.drop j = x :: tl.drop (j + 1) := by
      obtain ⟨hlt, rfl⟩ := List.getElem?_eq_some_iff.1 hx
      exact List.drop_eq_getElem_cons hlt
     have hall : numsI tl = ((numsI (tl.take j)).1 ++ (numsI (tl.drop j)).1, (numsI (tl.drop j)).2) := by
      have := numsI_app (tl.take j) (tl.drop j) hn0
      rwa [List.take_append_drop] at this
     have HN2 := Lib.hid (HN.out x hxm wr hch)
     have hin := numI_in x
     obtain ⟨nv, hnv⟩ : ∃ nv, nv = (numI x).1 := ⟨_, rfl⟩
     obtain ⟨ne, hne⟩ : ∃ ne, ne = (numI x).2 := ⟨_, rfl⟩
     rw [← hnv, ← hne] at HN2 hin
     obtain ⟨i0', i1', i2', i3'⟩ := hin
     have HX := Lib.hid (And.intro hnv (And.intro hne (And.intro ht (And.intro hd2 hall))))
     have HO := Lib.hid ho
     have HCH := Lib.hid hch
     have HN0 := Lib.hid hn0
     clear hnv hne ht hd2 hall ho hch hx hxm hva hnl hn0 hk hmk
     go_wp2_with fail
     refine HN2.out.mono ?_
     rintro e w2 ⟨rfl, c2⟩
     have HO2 := Lib.hid (HO.out.chg c2 (fun _ _ h => h))
     have HCH2 := Lib.hid (HCH.out.trans c2)
     clear c2 HN2 HO HCH e0
     by_cases hne0 : ne = 0
     ·subst hne0
      have hnb := Blk.new w2 3 #[.int .i64 nv]
      have ho2 := HO2.out.alloc (Obj.cells #[.int .i64 nv] 3)
      have hlen2 : ((numsI (tl.take j)).1.map i64c).length = j := by rw [List.length_map, numsI_len _ HN0.out, List.length_take]; have := HTN.out.1; omega
      have HCH3 := Lib.hid (HCH2.out.alloc (Obj.cells #[.int .i64 nv] 3))
      have hszz : (w2.alloc (Obj.cells #[.int .i64 nv] 3)).heap.size = w2.heap.size + 1 := by simp
      have HSZ := Lib.hid hszz
      clear hszz
      go_wp2_with (at_builtin; refine wpList_app (by rfl) (.tmp 47) (.tmp 49) 27 (by rfl) 3 i0 _ 1 8 Tryz.underlying27 hi0 hz0 hz1 hz2 rfl (by omega) (.slice va j vcap) g' ((numsI (tl.take j)).1.map i64c) (by rfl) ho2 _ 3 [i64c nv] 1 1 (by rfl) rfl hnb (by simp [i64c]) (by simp [i64c, Value.oneCell']) (by simp) (by rw [hlen2]; simp; omega) (by rw [hlen2]; simp [maxLen]; omega) ?_)
      intro k' cap' w3 ho3 hc3 hk3
      try rw [hlen2] at ho3
      try rw [hlen2]
      have HO3 := Lib.hid ho3
      have HC3 := Lib.hid (And.intro hc3 hk3)
      clear ho3 hc3 hk3 ho2 hnb
      go_wp2_with fail
      go_roundw
      case rel =>
       refine ⟨j + 1, some k', by omega, by go_num, ?_, ?_, ?_, ?_⟩
       ·rw [HX.out.2.2.1, numsI_app _ _ HN0.out, numsI_one x HX.out.2.1.symm]
       ·rw [HX.out.2.2.1, numsI_app _ _ HN0.out, numsI_one x HX.out.2.1.symm]
        have := HO3.out
        rw [HX.out.1] at this
        simpa [i64c] using this
       ·exact HCH3.out.trans' HC3.out.1 (fun i hi e => by have := hgn i e; omega)
       ·intro q hq
        cases hq
        rcases HC3.out.2 with h | h
        ·exact hgn _ h
        ·have := HCH2.out.size; have := HSZ.out; omega
      case measure => simp [intOf]; omega
     ·have hye : y = (s, ne) := by
       have h1 : (numsI tl).2 = ne := by
        rw [HX.out.2.2.2.2, HX.out.2.2.2.1, numsI_err x _ (by rw [← HX.out.2.1]; exact hne0)]
        exact HX.out.2.1.symm
       rw [HYE.out (by rw [h1]; exact hne0), h1]
      have HYY := Lib.hid hye
      clear hye
      go_wp2_with fail
      go_ret
      rw [HYY.out]
      exact ⟨rfl, LinePost.same (HC.out.chg0 HCH2.out) (HCH2.out.mono (fun _ _ h => h.elim))⟩
    ·obtain rfl : j = tn := by omega
     have htk : tl.take j = tl := List.take_of_length_le (by have := HTN.out.1; omega)
     rw [htk] at hn0 ho hnl
     have q1' := hch.keep q1 (fun h => h)
     have q2' := hch.keep q2 (fun h => h)
     have q3' := hch.keep HQ.out.2 (fun h => h)
     have f2 := ((HC.out.ws k k5).chg hch (fun h => h)).frozen 2
     have HCW := Lib.hid (HC.out.chg0 hch)
     have HO := Lib.hid ho
     have HCH := Lib.hid hch
     have HN0 := Lib.hid hn0
     have Q3 := Lib.hid q3'
     have HNL := Lib.hid hnl
     clear q0 q1 q2 q3' hch ho hn0 hva htk hnl hk hmk HL hw0
     by_cases hs : s.seen k = true ∧ k ≠ 0
     ·have hye := HYT.out HN0.out hs
      have HYY := Lib.hid hye
      obtain ⟨hs1, hs2⟩ := hs
      rw [hs1] at q2'
      rw [show decide (k = 0) = false by simpa using hs2] at q1'
      clear hye hs1 hs2
      go_wp2_with fail
      go_ret
      rw [HYY.out]
      exact ⟨rfl, LinePost.same HCW.out (HCH.out.mono (fun _ _ h => h.elim))⟩
     ·have HYY := Lib.hid (HYD.out HN0.out hs)
      obtain ⟨sk, hsk⟩ : ∃ sk, sk = s.seen k := ⟨_, rfl⟩
      rw [← hsk] at q2' hs
      obtain ⟨zk, hzk⟩ : ∃ zk, zk = decide (k = 0) := ⟨_, rfl⟩
      rw [← hzk] at q1'
      have hsz : sk = false ∨ zk = true := by
       by_cases h0 : k = 0
       ·right; rw [hzk]; simpa using h0
       ·left
        cases sk with
        | false => rfl
        | true => exact absurd ⟨rfl, h0⟩ hs
      have HH := Lib.hid (And.intro hsk hzk)
      clear hsk hzk hs
      obtain ⟨CS, cS⟩ := CAt.see HCW.out k5
      have hO5 := HO.out.chg cS (fun q hq e => by
       have := hgn q hq
       have := HC.out.lt (i := C.w k) (.inr (.inr (.inl ⟨k, k5, rfl⟩)))
       have e' : q = C.w k := e
       omega)
      have Q3' := HCW.out.ws k k5
      have q3S : (wr.setCell ⟨C.w k, 2, none⟩ (.bool true)).cell? ⟨C.w k, 3, none⟩ = some (takeF C k) := by
       have := (Q3'.set_ 2 (.bool true)).cell 3
       simpa [wordc] using this
      have hvaB : ∀ ad, va = some ad → w.heap.size ≤ ad.block := by
       intro ad had
       obtain ⟨a', c', h1, _, _, _, h2⟩ := HO.out.form
       cases h1
       rw [had] at h2
       cases g' with
       | none => cases h2
       | some q => cases h2; exact hgn q rfl
      have hrd := hO5.reads
      have hva2 : g'.map (fun k => (⟨k, 0, none⟩ : Addr)) = va := by
       obtain ⟨a', c', h1, _, _, _, h2⟩ := HO.out.form
       cases h1
       exact h2.symm
      rw [hva2] at hrd
      have hlt := fun i hi => HC.out.lt (i := i) hi
      have HCS := Lib.hid (And.intro CS cS)
      have hcsz : (j : Int) = mk := HTN.out.2
      by_cases h0 : k = 0
      ·have hn1 : tl.length = 1 := by rw [HL0.out, h0]; rfl
       obtain ⟨z, hz⟩ : ∃ z, (numsI tl).1 = [z] := List.length_eq_one_iff.1 (by rw [HNL.out, HTN.out.1]; exact hn1)
       have hj1 : j = 1 := by rw [HTN.out.1]; exact hn1
       have hT : takeF C k = .func (.func 120) #[] #[.pointer (some ⟨C.pc, 0, none⟩)] := by unfold takeF; rw [if_pos h0]
       rw [hT] at q3S
       rw [hz] at hrd
       have HS := Lib.hid (serv120 va vcap C.pc C.cb z C.sa C.scap C.sg s.c.servers _ _ _ _ _ _ (by omega) (by unfold maxLen at hvm; omega) hrd CS.pc CS.cfg CS.srv CS.ok.n (fun ad had => ⟨fun e => by have := hlt _ (.inr (.inr (.inr (.inr e)))); have := hvaB ad had; omega, fun e => by have := hlt _ (.inl rfl); have := hvaB ad had; omega⟩))
       subst hj1
       have H0 := Lib.hid h0
       clear Q3 Q3' hrd hO5 CS cS hT h0
       cases sk with
       | false =>
        go_wp2_with fail
        refine HS.out.mono ?_
        rintro e w9 hp
        have C5 : Chg (CBk C) w (wr.setCell ⟨C.w k, 2, none⟩ (.bool true)) := (HCH.out.mono (fun _ _ h => h.elim)).trans (HCS.out.2.mono (fun i _ e => .inr (.inr (.inl ⟨k, k5, e⟩))))
        have HC5 := Lib.hid C5
        clear C5
        by_cases hct : s.c.servers.contains z = true
        ·simp only [if_pos hct] at hp
         obtain ⟨rfl, c9⟩ := hp
         have hT : takeI k (numsI tl).1 s.c = (s.c, 12) := by rw [hz, H0.out]; exact take_in hct
         have HTT := Lib.hid hT
         clear hT hct
         go_wp2_with fail
         go_ret
         rw [HYY.out, HTT.out]
         exact ⟨rfl, LinePost.same (HCS.out.1.chg0 c9) (HC5.out.trans (c9.mono (fun _ _ h => h.elim)))⟩
        ·simp only [if_neg hct] at hp
         by_cases h16 : s.c.servers.length = 16
         ·simp only [if_pos h16] at hp
          obtain ⟨rfl, c9⟩ := hp
          have hT : takeI k (numsI tl).1 s.c = (s.c, 11) := by rw [hz, H0.out]; exact take_full hct h16
          have HTT := Lib.hid hT
          clear hT hct h16
          go_wp2_with fail
          go_ret
          rw [HYY.out, HTT.out]
          exact ⟨rfl, LinePost.same (HCS.out.1.chg0 c9) (HC5.out.trans (c9.mono (fun _ _ h => h.elim)))⟩
         ·simp only [if_neg h16] at hp
          obtain ⟨kk, cap', rfl, B9, O9, c9, hk9⟩ := hp
          have hT : takeI k (numsI tl).1 s.c = ({ s.c with servers := s.c.servers ++ [z] }, 0) := by rw [hz, H0.out]; exact take_more hct h16
          have HTT := Lib.hid hT
          have h15 : (seeS s k).c.servers.length < 16 := by have := HCS.out.1.ok.n; have e : (seeS s k).c = s.c := rfl; rw [e] at this ⊢; omega
          have HCG := Lib.hid (HCS.out.1.served h15 B9 O9 c9)
          have HK9 := Lib.hid (And.intro c9 hk9)
          clear hT hct h16 B9 O9 c9 hk9 h15
          go_wp2_with fail
          go_ret
          rw [HYY.out, HTT.out]
          refine ⟨rfl, ⟨C.grow kk cap', HCG.out, C.same_grow kk cap', HC5.out.trans (HK9.out.1.mono (fun i _ h => ?_)), fun i hi => ?_⟩⟩
          ·rcases h with h | h
           ·exact .inl h
           ·exact .inr (.inr (.inr (.inr h)))
          ·rcases hi with h | h | h | h | h
           ·exact .inl (.inl h)
           ·exact .inl (.inr (.inl h))
           ·exact .inl (.inr (.inr (.inl h)))
           ·exact .inl (.inr (.inr (.inr (.inl h))))
           ·have h' : some kk = some i := h
            cases h'
            rcases HK9.out.2 with h2 | h2
            ·exact .inl (.inr (.inr (.inr (.inr h2))))
            ·right; have := HC5.out.size; omega
       | true =>
        have hzt : zk = true := by rcases hsz with h | h; cases h; exact h
        subst hzt
        go_wp2_with fail
        refine HS.out.mono ?_
        rintro e w9 hp
        have C5 : Chg (CBk C) w (wr.setCell ⟨C.w k, 2, none⟩ (.bool true)) := (HCH.out.mono (fun _ _ h => h.elim)).trans (HCS.out.2.mono (fun i _ e => .inr (.inr (.inl ⟨k, k5, e⟩))))
        have HC5 := Lib.hid C5
        clear C5
        by_cases hct : s.c.servers.contains z = true
        ·simp only [if_pos hct] at hp
         obtain ⟨rfl, c9⟩ := hp
         have hT : takeI k (numsI tl).1 s.c = (s.c, 12) := by rw [hz, H0.out]; exact take_in hct
         have HTT := Lib.hid hT
         clear hT hct
         go_wp2_with fail
         go_ret
         rw [HYY.out, HTT.out]
         exact ⟨rfl, LinePost.same (HCS.out.1.chg0 c9) (HC5.out.trans (c9.mono (fun _ _ h => h.elim)))⟩
        ·simp only [if_neg hct] at hp
         by_cases h16 : s.c.servers.length = 16
         ·simp only [if_pos h16] at hp
          obtain ⟨rfl, c9⟩ := hp
          have hT : takeI k (numsI tl).1 s.c = (s.c, 11) := by rw [hz, H0.out]; exact take_full hct h16
          have HTT := Lib.hid hT
          clear hT hct h16
          go_wp2_with fail
          go_ret
          rw [HYY.out, HTT.out]
          exact ⟨rfl, LinePost.same (HCS.out.1.chg0 c9) (HC5.out.trans (c9.mono (fun _ _ h => h.elim)))⟩
         ·simp only [if_neg h16] at hp
          obtain ⟨kk, cap', rfl, B9, O9, c9, hk9⟩ := hp
          have hT : takeI k (numsI tl).1 s.c = ({ s.c with servers := s.c.servers ++ [z] }, 0) := by rw [hz, H0.out]; exact take_more hct h16
          have HTT := Lib.hid hT
          have h15 : (seeS s k).c.servers.length < 16 := by have := HCS.out.1.ok.n; have e : (seeS s k).c = s.c := rfl; rw [e] at this ⊢; omega
          have HCG := Lib.hid (HCS.out.1.served h15 B9 O9 c9)
          have HK9 := Lib.hid (And.intro c9 hk9)
          clear hT hct h16 B9 O9 c9 hk9 h15
          go_wp2_with fail
          go_ret
          rw [HYY.out, HTT.out]
          refine ⟨rfl, ⟨C.grow kk cap', HCG.out, C.same_grow kk cap', HC5.out.trans (HK9.out.1.mono (fun i _ h => ?_)), fun i hi => ?_⟩⟩
          ·rcases h with h | h
           ·exact .inl h
           ·exact .inr (.inr (.inr (.inr h)))
          ·rcases hi with h | h | h | h | h
           ·exact .inl (.inl h)
           ·exact .inl (.inr (.inl h))
           ·exact .inl (.inr (.inr (.inl h)))
           ·exact .inl (.inr (.inr (.inr (.inl h))))
           ·have h' : some kk = some i := h
            cases h'
            rcases HK9.out.2 with h2 | h2
            ·exact .inl (.inr (.inr (.inr (.inr h2))))
            ·right; have := HC5.out.size; omega
      ·have hT : takeF C k = .func (.func 119) #[] #[.pointer (some ⟨C.l k, 0, none⟩)] := by unfold takeF; rw [if_neg h0]
       rw [hT] at q3S
       have H0 := Lib.hid h0
       have hnm : (numsI tl).1.length = many k := by rw [HNL.out, HTN.out.1, HL0.out]
       have NLM := Lib.hid hnm
       have hpl : (ptrs C.cb k).length = j := by rw [ptrs_len C.cb k h0, ← HL0.out, HTN.out.1]
       have hjm : many k = j := by rw [← HL0.out, HTN.out.1]
       have hls := CS.ls k k5 h0
       rw [hjm] at hls
       have hs0 := set119 va vcap (C.l k) (C.r k) C.cb (numsI tl).1 (ptrs C.cb k) (cfgc C s.c) j _ (by rw [HNL.out, hpl]) (by rw [HNL.out]; exact hvl) (by unfold maxLen at hvm; omega) (by rw [hpl]; exact Nat.le_refl _) (by omega) hrd (fun ad had e => by have := hlt _ (.inl rfl); have := hvaB ad had; omega) (by rw [hpl]; exact hls) (CS.rs k k5 h0) CS.cfg (by
        intro o ho
        have : o ≤ 5 := by unfold ptrs at ho; repeat' split at ho
                           all_goals (simp at ho; omega)
        show o < 6
        omega)
       rw [HNL.out] at hs0
       have HS := Lib.hid hs0
       clear Q3 Q3' hrd hO5 CS cS hT h0 hs0 hls hnm hpl hjm
       cases sk with
       | false =>
        go_wp2_with fail
        refine HS.out.mono ?_
        rintro e w9 ⟨rfl, B9, c9⟩
        have CT := Lib.hid (HCS.out.1.taken k5 H0.out NLM.out B9 c9)
        have HC9 := Lib.hid (((HCH.out.mono (S' := CBk C) (fun _ _ h => h.elim)).trans (HCS.out.2.mono (fun i _ e => .inr (.inr (.inl ⟨k, k5, e⟩))))).trans (c9.mono (fun i _ e => .inl e)))
        clear B9 c9
        go_wp2_with fail
        go_ret
        rw [HYY.out, take_nz k H0.out]
        exact ⟨rfl, LinePost.same CT.out HC9.out⟩
       | true =>
        have hzt : zk = true := by rcases hsz with h | h; cases h; exact h
        subst hzt
        go_wp2_with fail
        refine HS.out.mono ?_
        rintro e w9 ⟨rfl, B9, c9⟩
        have CT := Lib.hid (HCS.out.1.taken k5 H0.out NLM.out B9 c9)
        have HC9 := Lib.hid (((HCH.out.mono (S' := CBk C) (fun _ _ h => h.elim)).trans (HCS.out.2.mono (fun i _ e => .inr (.inr (.inl ⟨k, k5, e⟩))))).trans (c9.mono (fun i _ e => .inl e)))
        clear B9 c9
        go_wp2_with fail
        go_ret
        rw [HYY.out, take_nz k H0.out]
        exact ⟨rfl, LinePost.same CT.out HC9.out⟩
  ·have hy2 : y = (s, 6) := by
    rw [HY.out]; unfold lineI
    simp only [List.headD_cons, hk]
    rw [if_pos (by simp; omega)]
   have HY2 := Lib.hid hy2
   have hlI : ¬ ((tl.length : Int) + 1 = 1 + (many k : Int)) := by omega
   obtain ⟨mk, hmk⟩ : ∃ mk : Int, mk = (many k : Int) := ⟨_, rfl⟩
   rw [← hmk] at q0 hmany hlI
   clear hy2 HY hc hws hk hlv hb hl hmk
   go_enter Tryz.func84, Tryz.ntmps84
   go_wp2_with fail
   go_ret
   rw [HY2.out]
   exact ⟨rfl, LinePost.same HC.out (Chg.refl _ _)⟩
end
end Go.Proofs.YtamhicdhbjniiaaGreatDoor
