/- What RewriteFits reckons is true, whatever its three numbers. -/
import Derived.Test.YtgaldjnnfkdohaaFa
set_option linter.unusedVariables false
namespace Go.Proofs.Ytgaldjnnfkdohaa
open Go Go.Fw

theorem bonsailaw19_known_true : bonsailaw19_known.fn 100 = some true := by kernel_rfl

theorem w64_id {x : Int} (h1 : -1000000 ≤ x) (h2 : x ≤ 1000000) : w64 x = x := by
  unfold w64 IntKind.wrap
  simp only [IntKind.bits, IntKind.signed]
  have e1 : (2 : Int) ^ 64 = 18446744073709551616 := by decide
  have e2 : (2 : Int) ^ (64 - 1) = 9223372036854775808 := by decide
  simp only [e1, e2]
  split
  · rename_i h; simp only [Bool.and_eq_true, decide_eq_true_eq, ge_iff_le] at h; omega
  · rename_i h; simp only [Bool.and_eq_true, decide_eq_true_eq, ge_iff_le, not_and, true_implies] at h; omega

theorem bonsailaw19_RewriteFits_true (p1 : Int) (w1 : (Lit.int .u8 p1).wf = true) (p2 : Int) (w2 : (Lit.int .u8 p2).wf = true) (p3 : Int) (w3 : (Lit.int .u8 p3).wf = true) :
    ∃ fu, bonsailaw19_RewriteFits.fn fu p1 p2 p3 = some true := by
  refine ⟨100, ?_⟩
  have b : ∀ p : Int, (Lit.int .u8 p).wf = true → 0 ≤ Int.tmod p 5 ∧ Int.tmod p 5 ≤ 4 := fun p w => by
    have w0 : 0 ≤ p := by
      simp only [Lit.wf, Bool.and_eq_true, decide_eq_true_eq] at w
      exact Int.le_trans (by decide) w.1
    rw [Int.tmod_eq_emod_of_nonneg w0]
    omega
  have b1 := b p1 w1; have b2 := b p2 w2; have b3 := b p3 w3
  unfold bonsailaw19_RewriteFits.fn
  rw [bonsailaw19_known_true]
  simp only [Option.bind_some, Bool.not_true, cond_false]
  generalize Int.tmod p1 5 = a at b1 ⊢
  generalize Int.tmod p2 5 = b at b2 ⊢
  generalize Int.tmod p3 5 = c at b3 ⊢
  rw [w64_id (x := a) (by omega) (by omega), w64_id (x := b) (by omega) (by omega), w64_id (x := c) (by omega) (by omega),
    w64_id (x := a - 2) (by omega) (by omega), w64_id (x := b - 2) (by omega) (by omega), w64_id (x := c - 2) (by omega) (by omega),
    w64_id (x := 2000 + (a - 2)) (by omega) (by omega), w64_id (x := 200 + (b - 2)) (by omega) (by omega), w64_id (x := 50 + (c - 2)) (by omega) (by omega)]
  have m1 : mayMake (2000 + (a - 2)) 88 = true := by simp only [mayMake, Bool.and_eq_true, decide_eq_true_eq]; omega
  have m2 : mayMake (50 + (c - 2)) 40 = true := by simp only [mayMake, Bool.and_eq_true, decide_eq_true_eq]; omega
  simp only [guardB, m1, m2, cond_true, Option.bind_some, rewrite_Fits.fn, List.length_replicate]
  have e1 : decide (((2000 + (a - 2)).toNat : Int) ≤ 2000) = decide (a - 2 ≤ 0) := by congr 1; apply propext; omega
  have e2 : decide (200 + (b - 2) ≤ 200) = decide (b - 2 ≤ 0) := by congr 1; apply propext; omega
  have e3 : decide (((50 + (c - 2)).toNat : Int) ≤ 50) = decide (c - 2 ≤ 0) := by congr 1; apply propext; omega
  rw [e1, e2, e3]
  cases decide (a - 2 ≤ 0) <;> cases decide (b - 2 ≤ 0) <;> cases decide (c - 2 ≤ 0) <;> rfl
end Go.Proofs.Ytgaldjnnfkdohaa
