/- Layer 20: the library's contract of maps.Clone, laid at this program (written by the kit's own program). -/
import Derived.Shelf.SlMaps.Clone
import Derived.Test.YthaggpicjpkjiaaGreatChecked
namespace Go.Proofs
open Go.Shelf
def Tryz.cloneTxns_ren : Go.Shelf.Ren := ⟨fun | 5 => 42 | 7 => 67 | n => n, fun | 23 => 69 | 25 => 37 | 3 => 54 | 4 => 4 | 20 => 20 | n => n, fun | n => n⟩
theorem Tryz.cloneTxns : Go.Proofs.SlLaysW.n5 Tryz.prog Tryz.cloneTxns_ren := {
  mixed := by kernel_rfl
  f5 := ⟨Tryz.f42.name, by decide, Tryz.func42.trans (congrArg some (by kernel_rfl))⟩
  f7 := Tryz.func67.trans (congrArg some (by kernel_rfl))
  t4 := Tryz.underlying4
  a4 := Tryz.isAgg4
  z4 := Tryz.sizeOf4
  v4 := Tryz.zeroValue4
  t20 := Tryz.underlying20
  a20 := Tryz.isAgg20
  z20 := Tryz.sizeOf20
  v20 := Tryz.zeroValue20
  t23 := Tryz.underlying69
  a23 := Tryz.isAgg69
  z23 := Tryz.sizeOf69
  v23 := Tryz.zeroValue69 }
end Go.Proofs
