/- A method is the same as itself. -/
import Derived.Test.YtgaldjnnfkdohaaFg
import Derived.Test.YtgaldjnnfkdohaaPureBase
set_option linter.unusedVariables false
set_option linter.unusedSimpArgs false
namespace Go.Proofs.Ytgaldjnnfkdohaa
open Go Go.Fw

theorem types_l0 (fu : Nat) (l : List api_Type) (hl : l.length ≤ 1000000) : ∀ (d k i : Nat), l.length - i ≤ d → d < k → i ≤ l.length → bonsairef1_SameTypes.l0 fu l l k i = some (.brk ()) := by
  intro d
  induction d with
  | zero =>
    intro k i hi hk hin
    obtain ⟨k, rfl⟩ : ∃ q, k = q + 1 := ⟨k - 1, by omega⟩
    have e : i = l.length := by omega
    subst e
    unfold bonsairef1_SameTypes.l0
    simp
  | succ d ih =>
    intro k i hi hk hin
    obtain ⟨k, rfl⟩ : ∃ q, k = q + 1 := ⟨k - 1, by omega⟩
    by_cases e : i = l.length
    · subst e
      unfold bonsairef1_SameTypes.l0
      simp
    have hlt : i < l.length := by omega
    unfold bonsairef1_SameTypes.l0
    rw [show decide ((i : Int) < (l.length : Int)) = true by simp; omega, w64_eq (x := (i : Int) + 1) (by omega) (by omega)]
    simp only [cond_true, idx_nat, List.getElem?_eq_getElem hlt, Option.bind_some, beq_self_eq_true, Bool.and_self, Bool.not_true, cond_false]
    exact ih k (i + 1) (by omega) (by omega) (by omega)

theorem types_same (fu : Nat) (l : List api_Type) (hl : l.length ≤ 1000000) (hfu : 1000001 < fu) : bonsairef1_SameTypes.fn fu l l = some true := by
  unfold bonsairef1_SameTypes.fn
  have := types_l0 fu l hl l.length fu 0 (by omega) (by omega) (by omega)
  rw [show (0 : Int) = ((0 : Nat) : Int) from rfl, this]
  simp [LR.then, LR.elim]

theorem meth_l0 (fu : Nat) (m : api_Method) (hl : m.Code.length ≤ 1000000) : ∀ (d k i : Nat), m.Code.length - i ≤ d → d < k → i ≤ m.Code.length → bonsairef1_SameMethod.l0 fu m m k i = some (.brk ()) := by
  intro d
  induction d with
  | zero =>
    intro k i hi hk hin
    obtain ⟨k, rfl⟩ : ∃ q, k = q + 1 := ⟨k - 1, by omega⟩
    have e : i = m.Code.length := by omega
    subst e
    unfold bonsairef1_SameMethod.l0
    simp
  | succ d ih =>
    intro k i hi hk hin
    obtain ⟨k, rfl⟩ : ∃ q, k = q + 1 := ⟨k - 1, by omega⟩
    by_cases e : i = m.Code.length
    · subst e
      unfold bonsairef1_SameMethod.l0
      simp
    have hlt : i < m.Code.length := by omega
    unfold bonsairef1_SameMethod.l0
    rw [show decide ((i : Int) < (m.Code.length : Int)) = true by simp; omega, w64_eq (x := (i : Int) + 1) (by omega) (by omega)]
    simp only [cond_true, idx_nat, List.getElem?_eq_getElem hlt, Option.bind_some, beq_self_eq_true, Bool.and_self, Bool.not_true, cond_false]
    exact ih k (i + 1) (by omega) (by omega) (by omega)

theorem meth_l1 (fu : Nat) (m : api_Method) (hl : m.Handlers.length ≤ 1000000) : ∀ (d k i : Nat), m.Handlers.length - i ≤ d → d < k → i ≤ m.Handlers.length → bonsairef1_SameMethod.l1 fu m m k i = some (.brk ()) := by
  intro d
  induction d with
  | zero =>
    intro k i hi hk hin
    obtain ⟨k, rfl⟩ : ∃ q, k = q + 1 := ⟨k - 1, by omega⟩
    have e : i = m.Handlers.length := by omega
    subst e
    unfold bonsairef1_SameMethod.l1
    simp
  | succ d ih =>
    intro k i hi hk hin
    obtain ⟨k, rfl⟩ : ∃ q, k = q + 1 := ⟨k - 1, by omega⟩
    by_cases e : i = m.Handlers.length
    · subst e
      unfold bonsairef1_SameMethod.l1
      simp
    have hlt : i < m.Handlers.length := by omega
    unfold bonsairef1_SameMethod.l1
    rw [show decide ((i : Int) < (m.Handlers.length : Int)) = true by simp; omega, w64_eq (x := (i : Int) + 1) (by omega) (by omega)]
    simp only [cond_true, idx_nat, List.getElem?_eq_getElem hlt, Option.bind_some, beq_self_eq_true, Bool.and_self, Bool.not_true, cond_false]
    exact ih k (i + 1) (by omega) (by omega) (by omega)

theorem meth_same (fu : Nat) (m : api_Method) (hp : m.Params.length ≤ 1000000) (hc : m.Code.length ≤ 1000000) (hh : m.Handlers.length ≤ 1000000) (hfu : 1000001 < fu) : bonsairef1_SameMethod.fn fu m m = some true := by
  unfold bonsairef1_SameMethod.fn
  have h0 := meth_l0 fu m hc m.Code.length fu 0 (by omega) (by omega) (by omega)
  have h1 := meth_l1 fu m hh m.Handlers.length fu 0 (by omega) (by omega) (by omega)
  rw [show (0 : Int) = ((0 : Nat) : Int) from rfl, h0, h1, types_same fu _ hp hfu]
  simp [LR.then, LR.elim]

end Go.Proofs.Ytgaldjnnfkdohaa
