/- bonsaiseat.Archive and its tree: what they come to (printed by arc.py). -/
import Derived.Test.YtheedjgpfpghbaaGreatPArcM
import Derived.KernelRfl
set_option linter.unusedVariables false
namespace Go.Proofs.YtheedjgpfpghbaaGreat
open Go Go.Fw Go.Ev
theorem arM10k : arW10.all (fun a => Memo.come (arC []) 14 arM10 a) = true := by kernel_rfl
theorem trM10k : Memo.come (arC []) 15 trM10 (trM10.args, []) = true := by kernel_rfl
theorem arM11k : arW11.all (fun a => Memo.come (arC []) 14 arM11 a) = true := by kernel_rfl
theorem trM11k : Memo.come (arC []) 15 trM11 (trM11.args, []) = true := by kernel_rfl
end Go.Proofs.YtheedjgpfpghbaaGreat
