/- Words that the laws on rewriting share. -/
import Derived.Test.YtgaldjnnfkdohaaPureArc
import Derived.Test.YtgaldjnnfkdohaaPureRew
import Derived.Test.YtgaldjnnfkdohaaPureSame
set_option linter.unusedVariables false
set_option linter.unusedSimpArgs false
namespace Go.Proofs.Ytgaldjnnfkdohaa
open Go Go.Fw

/-- how a method's instructions are told, one by one -/
theorem seg_plain {m : api_Method} {w : List (List api_Instr)} {q : Nat} (h : w[q]? = some [] ∨ w[q]? = none) : seg m w q = (m.Code[q]?).toList := by
  unfold seg
  rcases h with h | h <;> rw [h] <;> rfl
theorem seg_full {m : api_Method} {w : List (List api_Instr)} {q : Nat} {s : List api_Instr} (h : w[q]? = some s) (hs : Nat.blt 0 s.length = true) : seg m w q = s := by
  unfold seg
  rw [h]; simp only [hs, cond_true]

def jumpsIn (n : Nat) (l : List api_Instr) : Prop := ∀ i ∈ l, jumpB i = true → 0 ≤ i.K ∧ i.K < n
def handsIn (n : Nat) (l : List api_Handler) : Prop := ∀ x ∈ l, 0 ≤ x.From ∧ x.From < n ∧ 0 ≤ x.To ∧ x.To ≤ n ∧ 0 ≤ x.At ∧ x.At < n

theorem inR_of {n : Nat} {i : api_Instr} (h : jumpB i = true → 0 ≤ i.K ∧ i.K < n) : inR n i = true := by
  unfold inR
  cases hj : jumpB i with
  | false => rfl
  | true => have := h hj; simp; omega

theorem handR_of {n : Nat} {x : api_Handler} (h : 0 ≤ x.From ∧ x.From < n ∧ 0 ≤ x.To ∧ x.To ≤ n ∧ 0 ≤ x.At ∧ x.At < n) : handR n x = true := by
  unfold handR
  simp; omega

theorem known19 : bonsailaw19_known.fn 2000000 = some true := by kernel_rfl

theorem idx0_of {α : Type} {l : List α} {x : α} (h : l[0]? = some x) : idx l 0 = some x := by
  rw [show (0 : Int) = ((0 : Nat) : Int) from rfl, idx_nat]; exact h

theorem lens_of {m : api_Method} (h : MOk m) : 0 < m.Code.length ∧ m.Code.length ≤ 1000 ∧ m.Handlers.length ≤ 1000 ∧ m.Params.length ≤ 20 ∧ jumpsIn m.Code.length m.Code ∧ handsIn m.Code.length m.Handlers := by
  obtain ⟨⟨h1, h2, h3, h4, h5⟩, h6⟩ := h
  refine ⟨h1, h2, h3, Nat.le_of_ble_eq_true h6, fun i hi hb => h4 i hi ?_, h5⟩
  unfold jumpB at hb
  simp only [Bool.or_eq_true, beq_iff_eq] at hb
  exact hb

theorem rep_get {n : Nat} {q : Nat} (h : q < n) : (List.replicate n ([] : List api_Instr))[q]? = some [] := by simp [h]

end Go.Proofs.Ytgaldjnnfkdohaa
