/- The library's contract of strings.Builder's copyCheck, laid at this program (the seat of round rC's nine laws). -/
import Derived.Test.YtheedjgpfpghbaaGreatDS
import Derived.Test.YtheedjgpfpghbaaGreatDV
namespace Go.Proofs
open Go.Shelf
def Tryz.ccI_ren : Go.Shelf.Ren := ⟨fun | 240 => 213 | 276 => 224 | n => n, fun | 70 => 249 | 72 => 251 | 164 => 279 | 37 => 23 | 20 => 20 | 9 => 9 | 4 => 4 | 0 => 0 | n => n, fun | n => n⟩
theorem Tryz.ccI : Go.Proofs.Lays.n240 Tryz.prog Tryz.ccI_ren := {
  mixed := by kernel_rfl
  f240 := Tryz.func213.trans (congrArg some (by kernel_rfl))
  f276 := Tryz.func224.trans (congrArg some (by kernel_rfl))
  t0 := Tryz.underlying0
  a0 := Tryz.isAgg0
  z0 := Tryz.sizeOf0
  v0 := Tryz.zeroValue0
  t4 := Tryz.underlying4
  a4 := Tryz.isAgg4
  z4 := Tryz.sizeOf4
  v4 := Tryz.zeroValue4
  t9 := Tryz.underlying9
  a9 := Tryz.isAgg9
  z9 := Tryz.sizeOf9
  v9 := Tryz.zeroValue9
  t20 := Tryz.underlying20
  a20 := Tryz.isAgg20
  z20 := Tryz.sizeOf20
  v20 := Tryz.zeroValue20
  t70 := Tryz.underlying249
  a70 := Tryz.isAgg249
  z70 := Tryz.sizeOf249
  v70 := Tryz.zeroValue249
  t72 := Tryz.underlying251
  a72 := Tryz.isAgg251
  z72 := Tryz.sizeOf251
  v72 := Tryz.zeroValue251
  t164 := Tryz.underlying279
  a164 := Tryz.isAgg279
  z164 := Tryz.sizeOf279
  v164 := Tryz.zeroValue279 }
theorem Tryz.ccX : Go.Proofs.Builder.X72 Tryz.prog Tryz.ccI_ren := ⟨by kernel_rfl, by kernel_rfl⟩
end Go.Proofs
namespace Go.Proofs.YtheedjgpfpghbaaGreat
open Go Go.Fw Go.Ev
noncomputable def ccBody : Code := Tryz.f213.body.getD .skip
theorem ccFn : IsFn Tryz.prog 213 Tryz.f213 ccBody := ⟨Tryz.func213, rfl, by decide⟩
theorem ccOk [Sym] {K : KM} : CallOk Tryz.prog K (fun g args M => if g = 213 then ccP 251 args M else none) := ccP_ok (r := Tryz.ccI_ren) Tryz.ccI Tryz.ccX rfl rfl ccFn.call
end Go.Proofs.YtheedjgpfpghbaaGreat
