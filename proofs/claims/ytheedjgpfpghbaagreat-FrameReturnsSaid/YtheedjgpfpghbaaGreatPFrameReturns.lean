/- The statement's inputs by their cases, each run by the evaluator. -/
import Derived.Test.YtheedjgpfpghbaaGreatPFrameLocals
set_option linter.unusedVariables false
namespace Go.Proofs.YtheedjgpfpghbaaGreat
open Go Go.Fw Go.Ev
noncomputable def frE (q r c d : Nat) (void value : Bool) : Bool :=
  isTrue (arC flPrims 5 [.agg ⟨[.chan (some q), .chan (some 14), .chan (some r), .chan (some 100)]⟩, .chan (some c), .chan (some d), .bool void, .bool value] M0)
end Go.Proofs.YtheedjgpfpghbaaGreat
