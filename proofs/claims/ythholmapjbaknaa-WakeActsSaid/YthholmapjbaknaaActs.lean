/- WakeActs: of any calls what is next, what is due, when a key is, and how many there are: the walk. -/
import Derived.Test.YthholmapjbaknaaRefD
set_option linter.unusedVariables false
set_option linter.unusedSectionVars false
namespace Go.Proofs.Ythholmapjbaknaa
open Go.RowKit Go.Chron

/-- A queue and the document's queue of the same keys, both made since w0. -/
structure Both (w0 w : World) (ba ma p n : Nat) (g : Option Nat) (L : List SEnt) : Prop where
  A : QNS w0 w ba ma n L
  R : RefAt w p g L
  hp : w0.heap.size ≤ p
  hg : ∀ k, g = some k → w0.heap.size ≤ k
  n1 : p ≠ ba
  n2 : p ≠ ma
  n3 : ∀ k, g = some k → k ≠ ba ∧ k ≠ ma
theorem Both.chg0 {w0 w w' : World} {ba ma p n : Nat} {g : Option Nat} {L : List SEnt} (h : Both w0 w ba ma p n g L) (c : Chg (fun _ => False) w w') : Both w0 w' ba ma p n g L :=
  ⟨h.A.chg0 c, h.R.chg c (fun h => h) (fun _ _ h => h), h.hp, h.hg, h.n1, h.n2, h.n3⟩
theorem Both.qset {w0 w w' : World} {ba ma p n : Nat} {g : Option Nat} {L : List SEnt} (h : Both w0 w ba ma p n g L) (c : Chg (fun i => i = ba ∨ i = ma) w w') : RefAt w' p g L :=
  h.R.chg c (by have := h.n1; have := h.n2; omega) (fun k hk e => by have := h.n3 k hk; omega)
theorem Both.step {w0 w w1 w2 : World} {ba ma p n n' : Nat} {g g' : Option Nat} {L L' : List SEnt} (h : Both w0 w ba ma p n g L) (A : QNS w0 w1 ba ma n' L') (R : RefAt w2 p g' L') (hg : ∀ k, g' = some k → w1.heap.size ≤ k) (c : Chg (fun i => i = p) w1 w2) : Both w0 w2 ba ma p n' g' L' := by
  have h1 := A.q.lt
  have h2 := A.c.size
  exact ⟨A.other c (by have := h.n1; omega) (by have := h.n2; omega) (fun i hi e => by have := h.hp; omega), R, h.hp, fun k hk => by have := hg k hk; omega, h.n1, h.n2, fun k hk => by have := hg k hk; omega⟩

theorem keep2 {wE W w' : World} {p : Addr} {v : Value} (h : W.cell? p = some v ∧ Chg (fun _ => False) wE W) (k : Chg (fun _ => False) W w') : w'.cell? p = some v ∧ Chg (fun _ => False) wE w' := ⟨k.keep h.1 (fun h => h), h.2.trans k⟩
theorem keepd {wE W : World} {n : Nat} {p : Addr} {v : Value} (h : W.cell? p = some v ∧ Chg (fun _ => False) wE W) : (W.drewN n).cell? p = some v ∧ Chg (fun _ => False) wE (W.drewN n) := keep2 h (chg0_drewN _ _)

/-- WakeActs' loop. -/
def ActsInv (w0 : World) (ba ma p len : Nat) (i : Value) (wr : World) : Prop :=
  ∃ (j n : Nat) (g : Option Nat) (L : List SEnt), j ≤ len ∧ i = .int .i64 j ∧ n ≤ j ∧ Both w0 wr ba ma p n g L

set_option maxRecDepth 100000 in
set_option maxHeartbeats 6400000 in
theorem wakeActs_walk (a : Option Addr) (len cap : Nat) (els : List (List Value)) (h : Int) (w : World) (hI : FlatIn [.int .i64, .str, .int .i64] w a len cap els) :
    Calls Try.prog 5 #[.slice a len cap, .int .i64 h] w fun e w' => e = .returned (.bool true) ∧ Below w.heap.size w w' := by
  obtain ⟨acts, rfl, hok⟩ := acts_in hI.ok
  have hc := hI.leE
  have hcm := hI.capE
  have hlenE := hI.lenE
  rw [List.length_map] at hlenE
  have HI := Lib.hid hI
  have HL := Lib.hid hlenE
  have HOK := Lib.hid hok
  clear hI hlenE hok
  go_enter Try.func5, Try.ntmps5
  go_wp2_with fail
  refine (newS w).mono ?_
  rintro e w1 ⟨ba, ma, rfl, q1, hba, hma, hbma, c1⟩
  have A1 : QNS w w1 ba ma 0 [] := ⟨q1, hba, hma, c1⟩
  clear q1 hba hma c1
  go_wp2_with fail
  refine (alive9 _).mono ?_
  rintro e w3 ⟨rfl, c3⟩
  have A3 := A1.chg0 c3
  clear A1 c3
  by_cases hlen : 200 < len
  · go_wp2_with fail
    refine (alive9 _).mono ?_
    rintro e w4 ⟨rfl, c4⟩
    have HB := Lib.hid (A3.chg0 c4).bel
    clear A3 c4
    go_wp2_with fail
    go_ret
    exact ⟨rfl, HB.out⟩
  · have hp3 := A3.q.lt
    have hw3 := A3.c.size
    have bP := Blk.new w3 50 #[Value.slice none 0 0]
    have A4 := A3.chg0 (chg0_alloc w3 (Obj.cells #[Value.slice none 0 0] 50))
    have B4 : Both w (w3.alloc (Obj.cells #[Value.slice none 0 0] 50)) ba ma w3.heap.size 0 none [] := ⟨A4, ⟨⟨_, bP, Owns.nil _ _ _⟩, by simp, by simp⟩, hw3, by simp, by omega, by omega, by simp⟩
    clear A3 A4 bP
    obtain ⟨p, hp⟩ : ∃ p, p = w3.heap.size := ⟨_, rfl⟩
    rw [← hp] at B4 
    go_wp2_with fail
    rw [← hp]
    clear hp hp3 hw3
    go_loopw [37] (fun i wr => ActsInv w ba ma p len i wr) (fun i _ => len - idx i)
    case atStart => exact ⟨0, 0, none, [], by omega, rfl, by omega, B4⟩
    case round =>
      clear B4
      obtain ⟨j, n, g, L, hj, rfl, hn, B⟩ := hrel
      by_cases hlt : j < len
      · obtain ⟨x, hx⟩ : ∃ x, acts[j]? = some x := ⟨_, List.getElem?_eq_getElem (by rw [← HL.out]; exact hlt)⟩
        obtain ⟨bl, off, rfl, hbw, hcell⟩ := HI.out.cell (by omega)
        have hxx : (acts.map act1c)[j]? = some (act1c x) := by rw [List.getElem?_map, hx]; rfl
        have e0 := B.A.c.keep (hcell j _ hxx 0 _ rfl) (fun h => h)
        have e1 := B.A.c.keep (hcell j _ hxx 1 _ rfl) (fun h => h)
        have e2 := B.A.c.keep (hcell j _ hxx 2 _ rfl) (fun h => h)
        simp only [List.length_cons, List.length_nil, Nat.add_zero, Nat.zero_add, Nat.reduceAdd] at e0 e1 e2
        rw [← Nat.add_assoc] at e1 e2
        have hi1 : (j : Int) < (len : Int) := by omega
        have hxo := HOK.out x (List.mem_of_getElem? hx)
        have bX := Blk.new wr 38 #[Value.int .i64 x.kd, encStr x.k, Value.int .i64 x.d]
        have cX := chg0_alloc wr (Obj.cells #[Value.int .i64 x.kd, encStr x.k, Value.int .i64 x.d] 38)
        have BX := B.chg0 cX
        have hpb := B.R.lt
        have hab := B.A.q.lt
        have HXO := Lib.hid hxo
        have hnj' : n ≤ 200 := by omega
        clear B cX hx hxo hxx hcell
        obtain ⟨ix, hix⟩ : ∃ ix, ix = wr.heap.size := ⟨_, rfl⟩
        rw [← hix] at bX
        have hx1 : ix ≠ ba ∧ ix ≠ ma ∧ ix ≠ p := by omega
        have hx2 : ∀ k, g = some k → ix ≠ k := fun k hk e => by have := hpb.2 k hk; omega
        have HX2 := Lib.hid hx2
        clear hpb hab hx2
        obtain ⟨kd, hkd⟩ : ∃ kd, kd = x.kd := ⟨_, rfl⟩
        rw [← hkd] at e0 bX BX
        clear hkd
        by_cases hkd : kd = 0
        · subst hkd
          go_wp2_with fail
          rw [← hix]
          generalize wr.alloc (Obj.cells #[Value.int .i64 0, encStr x.k, Value.int .i64 x.d] 38) = wX at *
          clear hix
          refine (setS ba ma n L x.k x.d wX BX.A.q (by omega) HXO.out.k HXO.out.d).mono ?_
          rintro e wS ⟨rfl, qS, cS⟩
          have RS := BX.qset cS
          have AS := BX.A.set qS cS
          have bS := bX.chg cS (by omega)
          have m1 := bS.cell 1
          have m2 := bS.cell 2
          simp at m1 m2
          have hln : L.length ≤ 200 := by have := BX.A.q.len_le; omega
          have hrf := refSet p g L x.k x.d ((n : Int) + 1) wS RS (by omega) HXO.out.k HXO.out.d
          have HRF := Lib.hid hrf
          clear bX qS RS cS hrf
          go_wp2_with fail
          refine HRF.out.mono ?_
          rintro e wT ⟨rfl, g', RT, hg', cT⟩
          have bT := bS.chg cT (by omega)
          have BT := BX.step AS RT hg' cT
          clear HRF AS bS cT m1 m2 RT hg' BX
          obtain ⟨n', hn'⟩ : ∃ n', n' = n + 1 := ⟨_, rfl⟩
          obtain ⟨L', hL'⟩ : ∃ L', L' = setL L x.k x.d ((n : Int) + 1) := ⟨_, rfl⟩
          rw [← hn', ← hL'] at BT
          have hnn : n' ≤ 201 := by omega
          clear hL'
          have hln' : L'.length ≤ 201 := by have := BT.A.q.len_le; omega
          have HNJ := Lib.hid (show n' ≤ j + 1 by omega)
          clear hn' hln HX2
          have h1 := nextS ba ma n' L' wT BT.A.q
          have H1 := Lib.hid h1
          clear h1
          go_wp2_with fail
          refine H1.out.mono ?_
          rintro e wU ⟨rfl, cU⟩
          have BU := BT.chg0 cU
          have bU := bT.chg cU (fun h => h)
          have h2 := refNext p g' L' wU BU.R (by omega)
          have H2 := Lib.hid h2
          clear H1 BT bT cU h2
          go_wp2_with fail
          refine H2.out.mono ?_
          rintro e wU2 ⟨rfl, rfl⟩
          have m1 := bU.cell 1
          simp at m1
          have h3 := atS ba ma n' L' x.k wU BU.A.q HXO.out.k
          have H3 := Lib.hid h3
          clear H2 h3
          go_wp2_with fail
          refine H3.out.mono ?_
          rintro e wV ⟨rfl, cV⟩
          have BV := BU.chg0 cV
          have bV := bU.chg cV (fun h => h)
          have m1 := bV.cell 1
          simp at m1
          have h4 := refAt p g' L' x.k wV BV.R (by omega)
          have H4 := Lib.hid h4
          clear H3 h4 BU bU cV
          go_wp2_with fail
          refine H4.out.mono ?_
          rintro e wV2 ⟨rfl, rfl⟩
          have h5 := dueS ba ma n' L' h wV BV.A.q (by omega)
          have H5 := Lib.hid h5
          clear H4 h5 m1
          go_wp2_with fail
          refine H5.out.mono ?_
          rintro e wW ⟨a1, cap1, g1, R1, rfl, d1, o1, hg1, cW⟩
          have BW := BV.chg0 cW
          have h6 := refDue p g' L' h wW BW.R (by omega) BW.A.q.rise
          have H6 := Lib.hid h6
          clear H5 h6 BV cW
          go_wp2_with fail
          refine H6.out.mono ?_
          rintro e wY ⟨a2, cap2, g2, R2, rfl, d2, o2, hg2, cY⟩
          have BY := BW.chg0 cY
          have o1 := o1.chg cY (fun _ _ h => h)
          obtain rfl : R2 = R1 := d2.unique d1
          have hl1 := d1.len
          clear H6 d1 d2 hg1 hg2 cY BW bV
          obtain ⟨r, hr⟩ : ∃ r, r = R2.length := ⟨_, rfl⟩
          have hk : r = (keysS R2).length := by rw [hr, keysS, List.length_map]
          rw [← hr] at o1 o2 hl1 ⊢
          obtain ⟨_, capx, q1, q2, q3, -⟩ := o1.form
          obtain ⟨_, capy, q4, q5, q6, -⟩ := o2.form
          simp only [Value.slice.injEq] at q1 q4
          obtain ⟨-, -, rfl⟩ := q1
          obtain ⟨-, -, rfl⟩ := q4
          rw [← hk] at q2 q5
          simp only [maxLen] at q3 q6
          obtain ⟨nx, hnx⟩ : ∃ nx, nx = nextL L' := ⟨_, rfl⟩
          obtain ⟨an, han⟩ : ∃ an, an = anyL L' := ⟨_, rfl⟩
          obtain ⟨al, hal⟩ : ∃ al, al = atL L' x.k := ⟨_, rfl⟩
          obtain ⟨hs, hhs⟩ : ∃ hs, hs = hasL L' x.k := ⟨_, rfl⟩
          obtain ⟨ll, hll⟩ : ∃ ll, ll = L'.length := ⟨_, rfl⟩
          obtain ⟨a3, cap3, b3, ho3, hc3, hm3⟩ := BY.R.form hll
          simp only [maxLen] at hm3
          have p3 := b3.cell 0
          simp at p3
          rw [← hll] at hl1
          rw [← hnx, ← han, ← hal, ← hhs]
          have HLL := Lib.hid hll
          clear hll hnx han hal hhs ho3 b3
          have HK := Lib.hid hk
          clear hk hr
          go_wp2_with fail
          go_region_held3 (fun w' => w'.cell? ⟨p, 0, none⟩ = some (.slice a3 ll cap3) ∧ Chg (fun _ => False) wY w') (first | exact ⟨p3, chg0_drew _⟩ | exact keep2 (by assumption) (by assumption) | exact keepd (by assumption) | assumption)
            (first | (go_at_call 24; refine (lenS ba ma n' L' _ (BY.chg0 (And.right (by assumption))).A.q).mono ?_; rintro e w' ⟨rfl, rfl⟩; rw [← HLL.out]))
          have BZ := BY.chg0 (chg0_drew wY)
          have O1 := Lib.hid (o1.chg (chg0_drew wY) (fun _ _ h => h))
          have O2 := Lib.hid (o2.chg (chg0_drew wY) (fun _ _ h => h))
          clear p3 BY o1 o2
          generalize wY.drew = wZ at *
          obtain ⟨wo, hwo⟩ : ∃ wo, wo = wr := ⟨wr, rfl⟩
          subst hwo
          go_wp2_with fail
          go_loopw [131] (fun v wr => ∃ t : Nat, t ≤ r ∧ v = .int .i64 t ∧ Chg (fun _ => False) wZ wr) (fun v _ => r - idx v)
          case atStart => exact ⟨0, by omega, rfl, Chg.refl _ _⟩
          case round =>
            obtain ⟨t, ht, rfl, cZ⟩ := hrel
            by_cases htr : t < r
            · obtain ⟨y, hy⟩ : ∃ y, (keysS R2)[t]? = some [encStr y] := by
                have h1 : t < R2.length := by have := HK.out; rw [keysS, List.length_map] at this; omega
                exact ⟨R2[t].k, by rw [keysS, List.getElem?_map, List.getElem?_eq_getElem h1]; rfl⟩
              have o1 := O1.out.chg cZ (fun _ _ h => h)
              have o2 := O2.out.chg cZ (fun _ _ h => h)
              obtain ⟨k1, rfl⟩ := o1.pos (by rw [← HK.out]; omega)
              obtain ⟨k2, rfl⟩ := o2.pos (by rw [← HK.out]; omega)
              obtain ⟨_, z1, -, -⟩ := o1.some_form
              obtain ⟨_, z2, -, -⟩ := o2.some_form
              simp only [Value.slice.injEq] at z1 z2
              obtain ⟨rfl, -, -⟩ := z1
              obtain ⟨rfl, -, -⟩ := z2
              have y1 := o1.cell rfl hy (j := 0) rfl
              have y2 := o2.cell rfl hy (j := 0) rfl
              simp only [Nat.mul_one, Nat.add_zero] at y1 y2
              have htr' : (t : Int) < (r : Int) := by omega
              have htc1 : (t : Int) < (cap1 : Int) := by omega
              clear o1 o2 hy
              go_wp2_with fail
              go_quiet (fail)
              go_wp2_with fail
              go_roundw
              case rel => exact ⟨t + 1, by omega, by go_num, cZ.drewN _⟩
              case measure => simp [idx]; omega
            · obtain rfl : t = r := by omega
              have HB := Lib.hid (BZ.chg0 cZ)
              clear BZ cZ
              go_wp2_with fail
              go_roundw
              case rel => exact ⟨j + 1, n', g', L', by omega, by go_num, HNJ.out, HB.out⟩
              case measure => simp [idx]; omega
        · go_wp2_with fail
          rw [← hix]
          generalize wr.alloc (Obj.cells #[Value.int .i64 kd, encStr x.k, Value.int .i64 x.d] 38) = wX at *
          clear hix
          refine (dropS ba ma n L x.k wX BX.A.q HXO.out.k).mono ?_
          rintro e wS ⟨rfl, qS, cS⟩
          have RS := BX.R.chg cS BX.n2 (fun k hk e => (BX.n3 k hk).2 e)
          have AS := BX.A.drop qS cS
          have bS := bX.chg cS (by omega)
          have m1 := bS.cell 1
          have m2 := bS.cell 2
          simp at m1 m2
          have hln : L.length ≤ 200 := by have := BX.A.q.len_le; omega
          have hrf := refDrop p g L x.k wS RS (by omega)
          have HRF := Lib.hid hrf
          clear bX qS RS cS hrf
          go_wp2_with fail
          refine HRF.out.mono ?_
          rintro e wT ⟨rfl, g', RT, hg', cT⟩
          have bT := bS.chg cT (by omega)
          have BT := BX.step AS RT hg' cT
          clear HRF AS bS cT m1 m2 RT hg' BX
          obtain ⟨n', hn'⟩ : ∃ n', n' = n := ⟨_, rfl⟩
          obtain ⟨L', hL'⟩ : ∃ L', L' = dropL L x.k := ⟨_, rfl⟩
          rw [← hn', ← hL'] at BT
          have hnn : n' ≤ 201 := by omega
          clear hL'
          have hln' : L'.length ≤ 201 := by have := BT.A.q.len_le; omega
          have HNJ := Lib.hid (show n' ≤ j + 1 by omega)
          clear hn' hln HX2
          have h1 := nextS ba ma n' L' wT BT.A.q
          have H1 := Lib.hid h1
          clear h1
          go_wp2_with fail
          refine H1.out.mono ?_
          rintro e wU ⟨rfl, cU⟩
          have BU := BT.chg0 cU
          have bU := bT.chg cU (fun h => h)
          have h2 := refNext p g' L' wU BU.R (by omega)
          have H2 := Lib.hid h2
          clear H1 BT bT cU h2
          go_wp2_with fail
          refine H2.out.mono ?_
          rintro e wU2 ⟨rfl, rfl⟩
          have m1 := bU.cell 1
          simp at m1
          have h3 := atS ba ma n' L' x.k wU BU.A.q HXO.out.k
          have H3 := Lib.hid h3
          clear H2 h3
          go_wp2_with fail
          refine H3.out.mono ?_
          rintro e wV ⟨rfl, cV⟩
          have BV := BU.chg0 cV
          have bV := bU.chg cV (fun h => h)
          have m1 := bV.cell 1
          simp at m1
          have h4 := refAt p g' L' x.k wV BV.R (by omega)
          have H4 := Lib.hid h4
          clear H3 h4 BU bU cV
          go_wp2_with fail
          refine H4.out.mono ?_
          rintro e wV2 ⟨rfl, rfl⟩
          have h5 := dueS ba ma n' L' h wV BV.A.q (by omega)
          have H5 := Lib.hid h5
          clear H4 h5 m1
          go_wp2_with fail
          refine H5.out.mono ?_
          rintro e wW ⟨a1, cap1, g1, R1, rfl, d1, o1, hg1, cW⟩
          have BW := BV.chg0 cW
          have h6 := refDue p g' L' h wW BW.R (by omega) BW.A.q.rise
          have H6 := Lib.hid h6
          clear H5 h6 BV cW
          go_wp2_with fail
          refine H6.out.mono ?_
          rintro e wY ⟨a2, cap2, g2, R2, rfl, d2, o2, hg2, cY⟩
          have BY := BW.chg0 cY
          have o1 := o1.chg cY (fun _ _ h => h)
          obtain rfl : R2 = R1 := d2.unique d1
          have hl1 := d1.len
          clear H6 d1 d2 hg1 hg2 cY BW bV
          obtain ⟨r, hr⟩ : ∃ r, r = R2.length := ⟨_, rfl⟩
          have hk : r = (keysS R2).length := by rw [hr, keysS, List.length_map]
          rw [← hr] at o1 o2 hl1 ⊢
          obtain ⟨_, capx, q1, q2, q3, -⟩ := o1.form
          obtain ⟨_, capy, q4, q5, q6, -⟩ := o2.form
          simp only [Value.slice.injEq] at q1 q4
          obtain ⟨-, -, rfl⟩ := q1
          obtain ⟨-, -, rfl⟩ := q4
          rw [← hk] at q2 q5
          simp only [maxLen] at q3 q6
          obtain ⟨nx, hnx⟩ : ∃ nx, nx = nextL L' := ⟨_, rfl⟩
          obtain ⟨an, han⟩ : ∃ an, an = anyL L' := ⟨_, rfl⟩
          obtain ⟨al, hal⟩ : ∃ al, al = atL L' x.k := ⟨_, rfl⟩
          obtain ⟨hs, hhs⟩ : ∃ hs, hs = hasL L' x.k := ⟨_, rfl⟩
          obtain ⟨ll, hll⟩ : ∃ ll, ll = L'.length := ⟨_, rfl⟩
          obtain ⟨a3, cap3, b3, ho3, hc3, hm3⟩ := BY.R.form hll
          simp only [maxLen] at hm3
          have p3 := b3.cell 0
          simp at p3
          rw [← hll] at hl1
          rw [← hnx, ← han, ← hal, ← hhs]
          have HLL := Lib.hid hll
          clear hll hnx han hal hhs ho3 b3
          have HK := Lib.hid hk
          clear hk hr
          go_wp2_with fail
          go_region_held3 (fun w' => w'.cell? ⟨p, 0, none⟩ = some (.slice a3 ll cap3) ∧ Chg (fun _ => False) wY w') (first | exact ⟨p3, chg0_drew _⟩ | exact keep2 (by assumption) (by assumption) | exact keepd (by assumption) | assumption)
            (first | (go_at_call 24; refine (lenS ba ma n' L' _ (BY.chg0 (And.right (by assumption))).A.q).mono ?_; rintro e w' ⟨rfl, rfl⟩; rw [← HLL.out]))
          have BZ := BY.chg0 (chg0_drew wY)
          have O1 := Lib.hid (o1.chg (chg0_drew wY) (fun _ _ h => h))
          have O2 := Lib.hid (o2.chg (chg0_drew wY) (fun _ _ h => h))
          clear p3 BY o1 o2
          generalize wY.drew = wZ at *
          obtain ⟨wo, hwo⟩ : ∃ wo, wo = wr := ⟨wr, rfl⟩
          subst hwo
          go_wp2_with fail
          go_loopw [131] (fun v wr => ∃ t : Nat, t ≤ r ∧ v = .int .i64 t ∧ Chg (fun _ => False) wZ wr) (fun v _ => r - idx v)
          case atStart => exact ⟨0, by omega, rfl, Chg.refl _ _⟩
          case round =>
            obtain ⟨t, ht, rfl, cZ⟩ := hrel
            by_cases htr : t < r
            · obtain ⟨y, hy⟩ : ∃ y, (keysS R2)[t]? = some [encStr y] := by
                have h1 : t < R2.length := by have := HK.out; rw [keysS, List.length_map] at this; omega
                exact ⟨R2[t].k, by rw [keysS, List.getElem?_map, List.getElem?_eq_getElem h1]; rfl⟩
              have o1 := O1.out.chg cZ (fun _ _ h => h)
              have o2 := O2.out.chg cZ (fun _ _ h => h)
              obtain ⟨k1, rfl⟩ := o1.pos (by rw [← HK.out]; omega)
              obtain ⟨k2, rfl⟩ := o2.pos (by rw [← HK.out]; omega)
              obtain ⟨_, z1, -, -⟩ := o1.some_form
              obtain ⟨_, z2, -, -⟩ := o2.some_form
              simp only [Value.slice.injEq] at z1 z2
              obtain ⟨rfl, -, -⟩ := z1
              obtain ⟨rfl, -, -⟩ := z2
              have y1 := o1.cell rfl hy (j := 0) rfl
              have y2 := o2.cell rfl hy (j := 0) rfl
              simp only [Nat.mul_one, Nat.add_zero] at y1 y2
              have htr' : (t : Int) < (r : Int) := by omega
              have htc1 : (t : Int) < (cap1 : Int) := by omega
              clear o1 o2 hy
              go_wp2_with fail
              go_quiet (fail)
              go_wp2_with fail
              go_roundw
              case rel => exact ⟨t + 1, by omega, by go_num, cZ.drewN _⟩
              case measure => simp [idx]; omega
            · obtain rfl : t = r := by omega
              have HB := Lib.hid (BZ.chg0 cZ)
              clear BZ cZ
              go_wp2_with fail
              go_roundw
              case rel => exact ⟨j + 1, n', g', L', by omega, by go_num, HNJ.out, HB.out⟩
              case measure => simp [idx]; omega
      · obtain rfl : j = len := by omega
        have HB := Lib.hid B.A.bel
        clear B
        go_wp2_with fail
        go_ret
        exact ⟨rfl, HB.out⟩
theorem wakeActs_all (a : Option Addr) (len cap : Nat) (els : List (List Value)) (h : Int) (w : World) (hI : FlatIn [.int .i64, .str, .int .i64] w a len cap els) :
    Calls Try.prog 5 #[.slice a len cap, .int .i64 h] w fun e w' => e = .returned (.bool true) ∧ Below w.heap.size w w' := wakeActs_walk a len cap els h w hI
end Go.Proofs.Ythholmapjbaknaa
