/- The statement's inputs by their cases, each run by the evaluator. -/
import Derived.Test.YtheedjgpfpghbaaGreatPArr
set_option linter.unusedVariables false
namespace Go.Proofs.YtheedjgpfpghbaaGreat
open Go Go.Fw Go.Ev

/-- of(y) for any y: a type of which nothing is known -/
noncomputable def ofM : Memo := ⟨[.chan (some 100)], [], 6000, .agg ⟨[.chan none, .chan none]⟩, [], 6000⟩
noncomputable def ofWays : List (List Value × List (Nat × Nat)) := [200, 201, 202, 203, 204, 205, 206, 207, 208, 209, 210, 211, 212, 213, 214, 215, 216, 217].map fun c => ([.chan (some c)], [])
theorem ofK : ofWays.all (fun a => Memo.come (arC []) 25 ofM a) = true := by kernel_rfl
theorem ofO : (ofM.ord && ofM.low) = true := by kernel_rfl
theorem ofP : parts arA 100 [200, 201, 202, 203, 204, 205, 206, 207, 208, 209, 210, 211, 212, 213, 214, 215, 216, 217] = true := by kernel_rfl
theorem ofOk {W : World} : ∀ m ∈ [ofM], m.ord = true ∧ @MemoOk arS Tryz.prog (KM.all W) 25 m := by
  letI := arS
  intro m hm
  rw [List.mem_singleton] at hm
  subst hm
  have h := ofO
  simp only [Bool.and_eq_true] at h
  refine ⟨h.1, memoOk arCall h.1 h.2 (fun ρ rs hr => ?_) ofK⟩
  cases hr with
  | cons h0 h1 =>
    cases h1
    obtain ⟨j, hj, h2⟩ := rv_parts ofP h0
    exact ⟨_, List.mem_map.2 ⟨j, hj, rfl⟩, .cons h2 .nil⟩
theorem knK : isTrue (arC [] 12 [] M0) = true := by kernel_rfl
noncomputable def flPrims : List (Nat × (List Value → Mem → Option (Value × Mem))) := (12, memoP (.bool true)) :: (25, memoR (arC [] 25) [ofM]) :: arPrims
theorem flPrimsOk {W : World} : AllL (fun f p => @CallOk arS Tryz.prog (KM.all W) (fun g args M => if g = f then p args M else none)) flPrims := by
  letI := arS
  exact ⟨memo_ok arCall knK, memoR_ok ofOk (only_ok arCall), arPrimsOk⟩
noncomputable def flE (r q c i j : Nat) : Bool :=
  isTrue (arC flPrims 4 [.agg ⟨[.chan (some q), .chan (some 14), .chan (some r), .chan (some 100)]⟩, .chan (some c), .chan (some 100), .chan (some i), .chan (some j)] M0)
end Go.Proofs.YtheedjgpfpghbaaGreat
