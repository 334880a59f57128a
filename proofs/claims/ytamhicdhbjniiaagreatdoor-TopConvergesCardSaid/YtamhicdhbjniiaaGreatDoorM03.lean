/- Contracts of the library at this program (cut out of the text that the kit's lay-shelf and lay-plain wrote). -/
import Derived.Shelf.Bits.Mul64
import Derived.Test.YtamhicdhbjniiaaGreatDoorProg
set_option linter.unusedVariables false
section
namespace Go.Proofs
open Go.Shelf
def Tryz.lays264_ren : Go.Shelf.Ren := ⟨fun | 264 => 110 | n => n, fun | 53 => 24 | 46 => 170 | n => n, fun | n => n⟩
theorem Tryz.lays264 : Go.Proofs.Lays.n264 Tryz.prog Tryz.lays264_ren := {
 mixed := by kernel_rfl
 f264 := Tryz.func110.trans (congrArg some (by kernel_rfl))
 t46 := Tryz.underlying170
 a46 := Tryz.isAgg170
 z46 := Tryz.sizeOf170
 v46 := Tryz.zeroValue170
 t53 := Tryz.underlying24
 a53 := Tryz.isAgg24
 z53 := Tryz.sizeOf24
 v53 := Tryz.zeroValue24 }
open Go.RowKit Go.Lib in
theorem Tryz.bits_Mul64 (x y : Nat) (hx : x < 18446744073709551616) (hy : y < 18446744073709551616) (w : World) :
  Calls Tryz.prog 110 #[.int .u64 x, .int .u64 y] w fun e w' => e = .returned (.tuple #[.int .u64 ((x * y / 18446744073709551616 : Nat) : Int), .int .u64 ((x * y % 18446744073709551616 : Nat) : Int)]) ∧ w' = w := Any.bits_Mul64 Tryz.lays264 x y hx hy w
end Go.Proofs
end
