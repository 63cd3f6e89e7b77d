/- A deterministic evaluator: regions that draw nothing. -/
import Derived.Test.YtheedjgpfpghbaaGreatDZ
set_option linter.unusedVariables false
set_option linter.unusedSectionVars false
set_option linter.unusedSimpArgs false
namespace Go.Ev
open Go Go.Fw
variable [Sym]

/-- a frame, told and real -/
structure FrR (ρ : Rho) (N : Nat) (S : Tr Value) (a : Act) : Prop where
  size : a.tmps.size = N
  defers : a.defers = []
  slot : ∀ t v, S.get t = some v → ∃ v', a.tmps[t]? = some v' ∧ RV ρ v v'

section
variable {P : Program} {T : Tab} {ρ ρ' : Rho} {tab : Nat → Option TI} {eqs : Nat → Option (List TK)} {zt : Nat → Option Value} {N : Nat} {a : Act} {S S' : Tr Value}

theorem FrR.fits (h : FrR ρ N S a) : Fits N a (slotsOf a) := fits_slotsOf h.size h.defers
theorem FrR.ev (h : FrR ρ N S a) : EvR ρ (evD S) (slotsOf a) := evD_R fun t v ht => by
  rw [lk_slotsOf]; exact h.slot t v ht
theorem FrR.mono (hl : Rho.le ρ ρ') (h : FrR ρ N S a) : FrR ρ' N S a := ⟨h.size, h.defers, fun t v ht => by
  obtain ⟨v', h1, h2⟩ := h.slot t v ht; exact ⟨v', h1, h2.mono hl⟩⟩

theorem FrR.put (h : FrR ρ N S a) (hN : N ≤ 1000000) {d : Option Nat} {v u : Value} (hv : RV ρ v u) (hp : putD N S d v = some S') : FrR ρ N S' (a.put d u) := by
  cases d with
  | none => cases hp; exact h
  | some d =>
    simp only [putD] at hp
    cases hb : Nat.blt d N with
    | false => rw [hb] at hp; cases hp
    | true =>
      rw [hb] at hp
      cases hp
      have hd : d < N := by simpa using hb
      refine ⟨by simp [Act.put, h.size], h.defers, fun t x hx => ?_⟩
      rw [Tr.get_put 20 S d t (by omega)] at hx
      show ∃ v', (a.tmps.setIfInBounds d u)[t]? = some v' ∧ _
      rw [Array.getElem?_setIfInBounds]
      split at hx
      · rename_i e; subst e; cases hx
        rw [if_pos rfl, if_pos (by rw [h.size]; exact hd)]
        exact ⟨u, rfl, hv⟩
      · rename_i e
        rw [if_neg e]
        exact h.slot t x hx
end
end Go.Ev
