/- bonsaiseat.Archive and its tree: what they come to (printed by arc.py). -/
import Derived.Test.YtheedjgpfpghbaaGreatPArcM
import Derived.KernelRfl
set_option linter.unusedVariables false
namespace Go.Proofs.YtheedjgpfpghbaaGreat
open Go Go.Fw Go.Ev
theorem arM00k : arW00.all (fun a => Memo.come (arC []) 14 arM00 a) = true := by kernel_rfl
theorem trM00k : Memo.come (arC []) 15 trM00 (trM00.args, []) = true := by kernel_rfl
theorem arM01k : arW01.all (fun a => Memo.come (arC []) 14 arM01 a) = true := by kernel_rfl
theorem trM01k : Memo.come (arC []) 15 trM01 (trM01.args, []) = true := by kernel_rfl
end Go.Proofs.YtheedjgpfpghbaaGreat
