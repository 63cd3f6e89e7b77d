/- The library's contract of slices.Insert, laid at this program. -/
import Derived.Test.YtheedjgpfpghbaaGreatDT
import Derived.Test.YtheedjgpfpghbaaGreatDR
import Derived.Ground.NamesProg
import Derived.Ground.Names2Prog
import Derived.Shelf.Lays2
namespace Go.Proofs
open Go.Shelf
def Tryz.insI_ren : Go.Shelf.Ren := ⟨fun | 21 => 210 | 27 => 221 | 28 => 222 | 35 => 227 | 39 => 232 | n => n, fun | 22 => 98 | 3 => 3 | 4 => 4 | 0 => 0 | n => n, fun | n => n⟩
theorem Tryz.insI : Go.Proofs.Lays2.n21 Tryz.prog Tryz.insI_ren := {
  mixed := by kernel_rfl
  f21 := Tryz.func210.trans (congrArg some (by kernel_rfl))
  f27 := Tryz.func221.trans (congrArg some (by kernel_rfl))
  f28 := Tryz.func222.trans (congrArg some (by kernel_rfl))
  f35 := Tryz.func227.trans (congrArg some (by kernel_rfl))
  f39 := Tryz.func232.trans (congrArg some (by kernel_rfl))
  t0 := Tryz.underlying0
  a0 := Tryz.isAgg0
  z0 := Tryz.sizeOf0
  v0 := Tryz.zeroValue0
  t3 := Tryz.underlying3
  a3 := Tryz.isAgg3
  z3 := Tryz.sizeOf3
  v3 := Tryz.zeroValue3
  t4 := Tryz.underlying4
  a4 := Tryz.isAgg4
  z4 := Tryz.sizeOf4
  v4 := Tryz.zeroValue4
  t22 := Tryz.underlying98
  a22 := Tryz.isAgg98
  z22 := Tryz.sizeOf98
  v22 := Tryz.zeroValue98
  i3 := by kernel_rfl }
end Go.Proofs
namespace Go.Proofs.YtheedjgpfpghbaaGreat
open Go Go.Fw Go.Ev
noncomputable def insBody : Code := Tryz.f210.body.getD .skip
theorem insFn : IsFn Tryz.prog 210 Tryz.f210 insBody := ⟨Tryz.func210, rfl, by decide⟩
theorem insOk [Sym] {K : KM} : CallOk Tryz.prog K (fun g args M => if g = 210 then insP 3 args M else none) := insP_ok (r := Tryz.insI_ren) Tryz.insI rfl rfl insFn.call
end Go.Proofs.YtheedjgpfpghbaaGreat
