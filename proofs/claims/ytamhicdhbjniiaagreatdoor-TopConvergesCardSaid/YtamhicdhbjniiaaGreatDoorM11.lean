/- What the walks are told of the arguments: plain lemmas. MedianMore: with the one in the middle added once more it stays; of some twice it is the same: the walk. -/
import Derived.Test.YtamhicdhbjniiaaGreatDoorM05
import Derived.ProofKit
import Derived.OpenShut
import Derived.Deep.Slices
import Derived.Test.YtamhicdhbjniiaaGreatDoorM06
set_option linter.unusedVariables false
section
namespace Go.Chron
open Go Go.RowKit
structure IntsIn (k : IntKind) (w : World) (a : Option Addr) (len cap : Nat) (zs : List Int) : Prop where
 lenE : len = zs.length
 nilE : a = none → len = 0 ∧ cap = 0
 leE : len ≤ cap
 capE : cap ≤ 9223372036854775807
 reads : Reads w 1 a (zs.map fun z => [.int k z])
 wf : ∀ z ∈ zs, (Lit.int k z).wf = true
theorem IntsIn.cell {k : IntKind} {w : World} {a : Option Addr} {len cap : Nat} {zs : List Int} (h : IntsIn k w a len cap zs) (hp : 0 < len) :
  ∃ b off, a = some ⟨b, off, none⟩ ∧ b < w.heap.size ∧ ∀ i z, zs[i]? = some z → w.cell? ⟨b, off + i, none⟩ = some (.int k z) := by
 have hlen := h.lenE
 obtain ⟨b, off, rfl, hc⟩ := h.reads (by simp; omega)
 have key : ∀ i z, zs[i]? = some z → w.cell? ⟨b, off + i, none⟩ = some (.int k z) := fun i z hz => by
  have := hc i [.int k z] (by simp [hz]) 0 _ rfl
  simpa using this
 refine ⟨b, off, rfl, ?_, key⟩
 exact World.block_lt_of_cell? _ _ (key 0 _ (List.getElem?_eq_getElem (by omega)))
/-! ### Arguments of flat types: numbers, bools, texts, and structs and arrays of these -/
inductive Shape where
 | int (k : IntKind)
 | str
 | bool
def Shape.ok : Shape → Value → Prop
 | .int k, v => ∃ n, v = .int k n ∧ (Lit.int k n).wf = true
 | .str, v => ∃ s, v = .string s ∧ s.size ≤ maxLen
 | .bool, v => ∃ b, v = .bool b
def flatAt (P : Program) : Nat → TypeId → Nat → Option Shape
 | 0, _, _ => none
 | d + 1, t, i =>
  match P.underlying t with
  | some .bool => if i = 0 then some .bool else none
  | some (.int k) => if i = 0 then some (.int k) else none
  | some .string => if i = 0 then some .str else none
  | some (.struct fs) =>
   match fs.toList.find? (fun f => decide (f.offset ≤ i) && decide (i < f.offset + P.cellsOf f.type)) with
   | some f => flatAt P d f.type (i - f.offset)
   | none => none
  | some (.array n e) => if i < n * P.cellsOf e then flatAt P d e (i % P.cellsOf e) else none
  | _ => none
section
variable {H : Type} {enc : TypeId × Value → H} {P : Program} {w : World} {base : Nat} {spare : Nat → Bool} {held : Bool}
open Go.ChangeShapes Go.WideShapes Go.Deep
theorem get_window {α : Type} (cs : List α) (o n i : Nat) (h1 : o ≤ i) (h2 : i < o + n) : ((cs.drop o).take n)[i - o]? = cs[i]? := by
 rw [List.getElem?_take, if_pos (by omega), List.getElem?_drop]
 congr 1
 omega
theorem trod_flatAt : ∀ (d fuel : Nat) (t : TypeId) (cs : List Value) (x : DataW H × List MemPlace), DataW.trod enc P w base spare held fuel t cs = some x → ∀ i sh, flatAt P d t i = some sh → ∃ v, cs[i]? = some v ∧ sh.ok v := by
 intro d
 induction d with
 | zero => intro _ _ _ _ _ i sh h; simp [flatAt] at h
 | succ d ih =>
  intro fuel t cs x h i sh hs
  unfold flatAt at hs
  split at hs
  ·rename_i hu
   split at hs
   ·rename_i hi
    cases hs
    obtain ⟨b, rfl, _⟩ := DataW.trod_bool hu h
    exact ⟨.bool b, by rw [hi]; rfl, b, rfl⟩
   ·cases hs
  ·rename_i k hu
   split at hs
   ·rename_i hi
    cases hs
    obtain ⟨n, rfl, _, hw⟩ := DataW.trod_int hu h
    exact ⟨.int k n, by rw [hi]; rfl, n, rfl, hw⟩
   ·cases hs
  ·rename_i hu
   split at hs
   ·rename_i hi
    cases hs
    obtain ⟨n, rfl, _, hw⟩ := DataW.trod_string hu h
    exact ⟨.string n, by rw [hi]; rfl, n, rfl, hw⟩
   ·cases hs
  ·rename_i fs hu
   split at hs
   ·rename_i f hf
    have hp := List.find?_some hf
    simp only [Bool.and_eq_true, decide_eq_true_eq] at hp
    obtain ⟨j, hj, hjf⟩ := List.getElem_of_mem (List.mem_of_find?_eq_some hf)
    obtain ⟨xs, m, _, _, _, hxl, hx⟩ := DataW.trod_struct hu h
    have hj' : fs[j]? = some f := by
     rw [← hjf]
     simp only [Array.length_toList] at hj
     simp [hj]
    have h1 := hx j f hj'
    have hjs : j < xs.length := by rw [hxl]; simpa using hj
    rw [List.getElem?_eq_getElem hjs] at h1
    obtain ⟨v, hv, hok⟩ := ih _ _ _ _ h1 _ _ hs
    rw [get_window cs f.offset _ i hp.1 hp.2] at hv
    exact ⟨v, hv, hok⟩
   ·cases hs
  ·rename_i n e hu
   split at hs
   ·rename_i hi
    obtain ⟨xs, m, _, _, _, hxl, hx⟩ := DataW.trod_array hu h
    have hpos : 0 < P.cellsOf e := by
     rcases Nat.eq_zero_or_pos (P.cellsOf e) with h0 | h0
     ·rw [h0] at hi; simp at hi
     ·exact h0
    have hd : i / P.cellsOf e < n := Nat.div_lt_of_lt_mul (by rw [Nat.mul_comm]; exact hi)
    have h1 := hx _ hd
    rw [List.getElem?_eq_getElem (by rw [hxl]; exact hd)] at h1
    obtain ⟨v, hv, hok⟩ := ih _ _ _ _ h1 _ _ hs
    have hdm : i / P.cellsOf e * P.cellsOf e + i % P.cellsOf e = i := by rw [Nat.mul_comm]; exact Nat.div_add_mod i _
    have := get_window cs (i / P.cellsOf e * P.cellsOf e) (P.cellsOf e) i (by omega) (by have := Nat.mod_lt i hpos; omega)
    rw [show i - i / P.cellsOf e * P.cellsOf e = i % P.cellsOf e by omega] at this
    rw [this] at hv
    exact ⟨v, hv, hok⟩
   ·cases hs
  ·cases hs
def okAll : List Shape → List Value → Prop
 | [], [] => True
 | sh :: shs, v :: r => sh.ok v ∧ okAll shs r
 | _, _ => False
theorem okAll_of : ∀ (shs : List Shape) (cs : List Value), cs.length = shs.length → (∀ (i : Nat) sh, shs[i]? = some sh → ∃ v, cs[i]? = some v ∧ sh.ok v) → okAll shs cs
 | [], [], _, _ => trivial
 | [], _ :: _, h, _ => by simp at h
 | _ :: _, [], h, _ => by simp at h
 | sh :: shs, v :: r, hl, h => by
  refine ⟨?_, okAll_of shs r (by simpa using hl) (fun i sh' hs => ?_)⟩
  ·obtain ⟨u, hu, hok⟩ := h 0 sh rfl
   simp at hu
   rw [hu]; exact hok
  ·exact h (i + 1) sh' (by simpa using hs)
def flatList (P : Program) (t : TypeId) : Option (List Shape) := (List.range (P.cellsOf t)).mapM (flatAt P 5 t)
theorem trod_flat {t : TypeId} {shs : List Shape} (hf : flatList P t = some shs) {fuel : Nat} {cs : List Value} {x : DataW H × List MemPlace} (h : DataW.trod enc P w base spare held fuel t cs = some x) (hl : cs.length = P.cellsOf t) : okAll shs cs := by
 have h1 : shs.length = P.cellsOf t := by simpa using mapM_some_length hf
 refine okAll_of shs cs (by rw [hl, h1]) (fun i sh hs => ?_)
 have hi : i < P.cellsOf t := by have := (List.getElem?_eq_some_iff.1 hs).1; omega
 have := mapM_some_get hf i i (by simp [hi])
 rw [hs] at this
 exact trod_flatAt 5 fuel t cs x h i sh this
structure FlatIn (shs : List Shape) (w : World) (a : Option Addr) (len cap : Nat) (els : List (List Value)) : Prop where
 lenE : len = els.length
 nilE : a = none → len = 0 ∧ cap = 0
 leE : len ≤ cap
 capE : cap ≤ 9223372036854775807
 reads : Reads w shs.length a els
 blk : ∀ b off, 0 < len → a = some ⟨b, off, none⟩ → b < w.heap.size
 ok : ∀ x ∈ els, okAll shs x
theorem flat_in {t e : TypeId} {shs : List Shape} (ht : P.underlying t = some (.slice e)) (hf : flatList P e = some shs) (hpos : 0 < P.cellsOf e) {a : Option Addr} {len cap : Nat} {fuel : Nat} {x : DataW H × List MemPlace}
  (h : DataW.trod enc P w base spare held fuel t [.slice a len cap] = some x) : ∃ els, FlatIn shs w a len cap els := by
 have hsz : shs.length = P.cellsOf e := by simpa using mapM_some_length hf
 rcases open_slice ht h with ⟨h0, _⟩ | ⟨ad, len', cap', m, n, D, Pl, hcs, hb, hl, hm, hmm, _, hx⟩
 ·simp at h0
  obtain ⟨rfl, rfl, rfl⟩ := h0
  exact ⟨[], ⟨rfl, fun _ => ⟨rfl, rfl⟩, Nat.le_refl _, by omega, fun h => by simp at h, fun _ _ h => by omega, by simp⟩⟩
 ·simp at hcs
  obtain ⟨rfl, rfl, rfl⟩ := hcs
  have hlm : len ≤ m := by rw [hmm]; split <;> omega
  obtain ⟨F, hF⟩ := choose_lt (α := List Value) (n := len) (p := fun i cs' => w.cells? base (ad.add (i * P.cellsOf e)) (P.cellsOf e) = some cs' ∧ DataW.trod enc P w base spare held n e cs' = some (D i, Pl i)) (fun i hi => hx i (by omega))
  have key : ∀ i, i < len → ∀ j u, (F i)[j]? = some u → w.cell? ((ad.add (i * P.cellsOf e)).add j) = some u := fun i hi j u hu => by
   obtain ⟨_, hlen, hc⟩ := World.cells?_some (hF i hi).1
   rw [hc j (by rw [← hlen]; exact (List.getElem?_eq_some_iff.1 hu).1)]
   exact hu
  have hFl : ∀ i, i < len → (F i).length = P.cellsOf e := fun i hi => (World.cells?_some (hF i hi).1).2.1
  have hspot : 0 < len → ad.spot = none := fun hp => by
   have := key 0 hp 0 _ (List.getElem?_eq_getElem (by rw [hFl 0 hp]; exact hpos))
   have := World.cell?_spot this
   rw [Nat.zero_mul] at this
   obtain ⟨b, off, spot⟩ := ad
   simpa [Addr.add] using this
  refine ⟨(List.range len).map F, ⟨by simp, by simp, hl, by simpa [maxLen] using hm, fun hp => ?_, ?_, ?_⟩⟩
  ·obtain ⟨b, off, spot⟩ := ad
   have hs := hspot (by simpa using hp)
   simp at hs
   subst hs
   refine ⟨b, off, rfl, fun i y hy j u hu => ?_⟩
   rw [List.getElem?_map] at hy
   obtain ⟨i', hi', rfl⟩ := Option.map_eq_some_iff.1 hy
   obtain ⟨hlt, hi''⟩ := List.getElem?_eq_some_iff.1 hi'
   simp at hi'' hlt
   subst hi''
   have := key i hlt j u hu
   rw [Addr.add_lit, Addr.add_lit] at this
   rw [hsz, ← Nat.add_assoc]
   exact this
  ·intro b off hp hab
   simp at hab
   subst hab
   have := key 0 hp 0 _ (List.getElem?_eq_getElem (by rw [hFl 0 hp]; exact hpos))
   have := World.block_lt_of_cell? _ _ this
   simpa [Addr.add] using this
  ·intro y hy
   obtain ⟨i, hi, rfl⟩ := List.mem_map.1 hy
   have hi' : i < len := by simpa using hi
   exact trod_flat hf (hF i hi').2 (hFl i hi')
end
theorem okAll_cons {sh : Shape} {shs : List Shape} {cs : List Value} (h : okAll (sh :: shs) cs) : ∃ v r, cs = v :: r ∧ sh.ok v ∧ okAll shs r := by
 cases cs with
 | nil => cases h
 | cons v r => exact ⟨v, r, rfl, h.1, h.2⟩
theorem okAll_nil {cs : List Value} (h : okAll [] cs) : cs = [] := by
 cases cs with
 | nil => rfl
 | cons v r => cases h
theorem ok_one_int {k : IntKind} {cs : List Value} (h : okAll [.int k] cs) : ∃ n, cs = [.int k n] ∧ (Lit.int k n).wf = true := by
 obtain ⟨v, r, rfl, ⟨n, rfl, hn⟩, h1⟩ := okAll_cons h
 rw [okAll_nil h1]
 exact ⟨n, rfl, hn⟩
theorem FlatIn.cell {shs : List Shape} {w : World} {a : Option Addr} {len cap : Nat} {els : List (List Value)} (h : FlatIn shs w a len cap els) (hp : 0 < len) :
  ∃ b off, a = some ⟨b, off, none⟩ ∧ b < w.heap.size ∧ ∀ (i : Nat) x, els[i]? = some x → ∀ (j : Nat) u, x[j]? = some u → w.cell? ⟨b, off + (i * shs.length + j), none⟩ = some u := by
 have hl := h.lenE
 obtain ⟨b, off, rfl, hc⟩ := h.reads (by omega)
 exact ⟨b, off, rfl, h.blk b off hp rfl, hc⟩
end Go.Chron
end
section
namespace Go.Chron
open Go Go.RowKit
theorem enc_each (k : IntKind) (zs : List Int) : ∀ y ∈ zs.map (fun z => [Value.int k z]), y.length = 1 := by intro x hx; obtain ⟨z, _, rfl⟩ := List.mem_map.1 hx; rfl
end Go.Chron
end
