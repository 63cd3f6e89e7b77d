/- The evaluator, quicker: it may be leant upon. -/
import Derived.Test.YtheedjgpfpghbaaGreatDSc
import Derived.Test.YtheedjgpfpghbaaGreatDQ
import Derived.Test.YtheedjgpfpghbaaGreatDU
set_option linter.unusedVariables false
set_option linter.unusedSectionVars false
namespace Go.Ev
open Go Go.Fw
variable [Sym] {P : Program} {T : Tab} {K : KM} {tab : Nat → Option TI} {eqs : Nat → Option (List TK)} {zt : Nat → Option Value} {fns : Nat → Option Func} {prims : Nat → Option (List Value → Mem → Option (Value × Mem))}
theorem callE_ok [hT : TabC P T] (hX : Ctx P T tab eqs zt) (hf : FnsOk P fns) (hp : PrimsOk P K prims) (n : Nat) : CallOk P K (callE tab eqs zt fns prims n) := by
  rw [callE_eq]; exact callD_ok hX hf hp n
theorem lot1 {α : Type} {p : α → Bool} {l : List α} {r : List (List α)} (h : l.all p = true) (t : AllM (fun l => l.all p = true) r) : AllM (fun l => l.all p = true) (l :: r) := ⟨h, t⟩
theorem lot0 {α : Type} {p : α → Bool} : AllM (fun l : List α => l.all p = true) [] := trivial
/-- memos in lots -/
theorem lots {α : Type} {p : α → Bool} : ∀ {L : List (List α)}, AllM (fun l => l.all p = true) L → ∀ m ∈ L.flatten, p m = true
  | [], _, m, h => by cases h
  | l :: r, h, m, hm => by
    rw [List.flatten_cons] at hm
    rcases List.mem_append.1 hm with h1 | h1
    · exact List.all_eq_true.1 h.1 m h1
    · exact lots h.2 m h1
end Go.Ev
