/- Contracts of the library at this program (cut out of the text that the kit's lay-shelf and lay-plain wrote). -/
import Derived.Shelf.SortM.Plain
import Derived.Shelf.SortM.SortNone
import Derived.Ground.SlgmProg
import Derived.Test.YtamhicdhbjniiaaGreatDoorProg
set_option linter.unusedVariables false
section
namespace Go.Proofs
open Go.Shelf
def Tryz.laysSlM5_f235_ren : Go.Shelf.Ren := ⟨fun | 5 => 235 | 8 => 248 | 7 => 247 | 19 => 261 | 20 => 236 | 10 => 252 | 11 => 253 | 12 => 254 | 13 => 255 | 14 => 256 | 15 => 257 | 16 => 258 | 17 => 259 | 18 => 260 | 30 => 262 | 31 => 263 | 32 => 264 | 33 => 265 | 34 => 266 | 35 => 76 | 40 => 267 | n => n, fun | 23 => 38 | 25 => 2 | 3 => 3 | 32 => 170 | 22 => 38 | 0 => 0 | 44 => 22 | 46 => 24 | 4 => 4 | 36 => 420 | 35 => 419 | 41 => 425 | 5 => 5 | 9 => 9 | 53 => 429 | 57 => 266 | 63 => 434 | 64 => 290 | n => n, fun | n => n⟩
theorem Tryz.laysSlM5_f235 : Go.Proofs.SlLaysM.n5 Tryz.prog Tryz.laysSlM5_f235_ren := {
 mixed := by kernel_rfl
 f5 := ⟨Tryz.f235.name, by decide, Tryz.func235.trans (congrArg some (by kernel_rfl))⟩
 f7 := ⟨Tryz.f247.name, by decide, Tryz.func247.trans (congrArg some (by kernel_rfl))⟩
 f8 := Tryz.func248.trans (congrArg some (by kernel_rfl))
 f10 := ⟨Tryz.f252.name, by decide, Tryz.func252.trans (congrArg some (by kernel_rfl))⟩
 f11 := ⟨Tryz.f253.name, by decide, Tryz.func253.trans (congrArg some (by kernel_rfl))⟩
 f12 := ⟨Tryz.f254.name, by decide, Tryz.func254.trans (congrArg some (by kernel_rfl))⟩
 f13 := ⟨Tryz.f255.name, by decide, Tryz.func255.trans (congrArg some (by kernel_rfl))⟩
 f14 := ⟨Tryz.f256.name, by decide, Tryz.func256.trans (congrArg some (by kernel_rfl))⟩
 f15 := ⟨Tryz.f257.name, by decide, Tryz.func257.trans (congrArg some (by kernel_rfl))⟩
 f16 := ⟨Tryz.f258.name, by decide, Tryz.func258.trans (congrArg some (by kernel_rfl))⟩
 f17 := ⟨Tryz.f259.name, by decide, Tryz.func259.trans (congrArg some (by kernel_rfl))⟩
 f18 := ⟨Tryz.f260.name, by decide, Tryz.func260.trans (congrArg some (by kernel_rfl))⟩
 f19 := Tryz.func261.trans (congrArg some (by kernel_rfl))
 f20 := Tryz.func236.trans (congrArg some (by kernel_rfl))
 f30 := ⟨Tryz.f262.name, by decide, Tryz.func262.trans (congrArg some (by kernel_rfl))⟩
 f31 := Tryz.func263.trans (congrArg some (by kernel_rfl))
 f32 := Tryz.func264.trans (congrArg some (by kernel_rfl))
 f33 := ⟨Tryz.f265.name, by decide, Tryz.func265.trans (congrArg some (by kernel_rfl))⟩
 f34 := ⟨Tryz.f266.name, by decide, Tryz.func266.trans (congrArg some (by kernel_rfl))⟩
 f35 := ⟨Tryz.f76.name, by decide, Tryz.func76.trans (congrArg some (by kernel_rfl))⟩
 f40 := ⟨Tryz.f267.name, by decide, Tryz.func267.trans (congrArg some (by kernel_rfl))⟩
 t0 := Tryz.underlying0
 a0 := Tryz.isAgg0
 z0 := Tryz.sizeOf0
 v0 := Tryz.zeroValue0
 t3 := Tryz.underlying3
 a3 := Tryz.isAgg3
 z3 := Tryz.sizeOf3
 v3 := Tryz.zeroValue3
 t4 := Tryz.underlying4
 a4 := Tryz.isAgg4
 z4 := Tryz.sizeOf4
 v4 := Tryz.zeroValue4
 t5 := Tryz.underlying5
 a5 := Tryz.isAgg5
 z5 := Tryz.sizeOf5
 v5 := Tryz.zeroValue5
 t9 := Tryz.underlying9
 a9 := Tryz.isAgg9
 z9 := Tryz.sizeOf9
 v9 := Tryz.zeroValue9
 t22 := Tryz.underlying38
 a22 := Tryz.isAgg38
 z22 := Tryz.sizeOf38
 v22 := Tryz.zeroValue38
 t23 := Tryz.underlying38
 a23 := Tryz.isAgg38
 z23 := Tryz.sizeOf38
 v23 := Tryz.zeroValue38
 t25 := Tryz.underlying2
 a25 := Tryz.isAgg2
 z25 := Tryz.sizeOf2
 v25 := Tryz.zeroValue2
 t32 := Tryz.underlying170
 a32 := Tryz.isAgg170
 z32 := Tryz.sizeOf170
 v32 := Tryz.zeroValue170
 t35 := Tryz.underlying419
 a35 := Tryz.isAgg419
 z35 := Tryz.sizeOf419
 v35 := Tryz.zeroValue419
 t36 := Tryz.underlying420
 a36 := Tryz.isAgg420
 z36 := Tryz.sizeOf420
 v36 := Tryz.zeroValue420
 t41 := Tryz.underlying425
 a41 := Tryz.isAgg425
 z41 := Tryz.sizeOf425
 v41 := Tryz.zeroValue425
 t44 := Tryz.underlying22
 a44 := Tryz.isAgg22
 z44 := Tryz.sizeOf22
 v44 := Tryz.zeroValue22
 t46 := Tryz.underlying24
 a46 := Tryz.isAgg24
 z46 := Tryz.sizeOf24
 v46 := Tryz.zeroValue24
 t53 := Tryz.underlying429
 a53 := Tryz.isAgg429
 z53 := Tryz.sizeOf429
 v53 := Tryz.zeroValue429
 t57 := Tryz.underlying266
 a57 := Tryz.isAgg266
 z57 := Tryz.sizeOf266
 v57 := Tryz.zeroValue266
 t63 := Tryz.underlying434
 a63 := Tryz.isAgg434
 z63 := Tryz.sizeOf434
 v63 := Tryz.zeroValue434
 t64 := Tryz.underlying290
 a64 := Tryz.isAgg290
 z64 := Tryz.sizeOf290
 v64 := Tryz.zeroValue290 }
open Go.Sort Go.RowKit in
theorem Tryz.slices_Sort_int (blk off cap : Nat) (zs : List Int) (w : World) (hH : Holds (Value.int .i64) w blk off zs.toArray) (hblk : blk < w.heap.size) (hsz : zs.length < 4611686018427387904) :
  Calls Tryz.prog 235 #[.slice (some ⟨blk, off, none⟩) zs.length cap] w fun e w' =>
   e = .returned (.tuple #[]) ∧ ∃ n os, w' = grow (putRow (Value.int .i64) (Sort.ahead w n) blk off (zs.mergeSort fun x y => decide (x ≤ y)).toArray) os := AnyM.slices_Sort_int Tryz.laysSlM5_f235 blk off cap zs w hH hblk hsz
open Go.RowKit Go.Sort in
theorem Tryz.slices_Sort_int_none (p : Option Addr) (cap : Nat) (w : World) :
  Calls Tryz.prog 235 #[.slice p 0 cap] w fun e w' => e = .returned (.tuple #[]) ∧ w' = w := AnyM.slices_Sort_int_none Tryz.laysSlM5_f235 p cap w
end Go.Proofs
end
