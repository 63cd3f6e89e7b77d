/- A deterministic evaluator: functions that are made. -/
import Derived.Test.YtheedjgpfpghbaaGreatDH
set_option linter.unusedVariables false
set_option linter.unusedSectionVars false
set_option linter.unusedSimpArgs false
namespace Go.Ev
open Go Go.Fw
variable [Sym]
section
variable {P : Program} {T : Tab} {ρ : Rho} {tab : Nat → Option TI} {eqs : Nat → Option (List TK)} {zt : Nat → Option Value} {e : Operand → Option Value} {σ : Slots} {v : Value} {N : Nat} {a : Act} {w : World} {K : KM} {L : Chunks} {M M' : Mem}
  {call : Nat → List Value → Mem → Option (Value × Mem)}

theorem evsD_R (ha : Fits N a σ) (hE : EvR ρ e σ) : ∀ {l : List Operand} {r : List Value}, evsD e l = some r → All2 (RV ρ) r (l.map a.eval)
  | [], r, h => by cases h; exact .nil
  | x :: l, r, h => by
    simp only [evsD] at h
    split at h
    · rename_i u q hu hq
      cases h
      obtain ⟨u', h1, h2⟩ := hE _ _ hu
      exact .cons (by rw [ha.ev h1]; exact h2) (evsD_R ha hE hq)
    · cases h

theorem RV.scalar {x y : Value} (h : RV ρ x y) (hs : scalarV x = true) : RS ρ x y := by
  cases h with
  | tup h => cases hs
  | c h => cases h with
    | agg h => cases hs
    | s h => exact h

theorem scalars_R : ∀ {l m : List Value}, All2 (RV ρ) l m → l.all scalarV = true → All2 (RS0 ρ) l m
  | _, _, .nil, _ => .nil
  | _, _, .cons h t, hs => by
    simp only [List.all_cons, Bool.and_eq_true] at hs
    exact .cons ((h.scalar hs.1).down hs.1) (scalars_R t hs.2)

theorem opm_makeFunc {f : Fn} {first caps : Array Operand} (ha : Fits N a σ) (hE : EvR ρ e σ) (hW : World.Is w K L ρ M) (h : opm tab zt call (.makeFunc f first caps) e M = some (v, M')) : RRun P a (.makeFunc f first caps) w ρ M v M' := by
  simp only [opm, opmLoad, opmStore, opmBuildSlice, opmMakeSlice, opmUpdate, opmInsert, opmLookup, opmAppend, opmClear, opmCopy, opmText] at h
  split at h
  · rename_i vs hf hc
    cases hb : vs.all scalarV with
    | false => rw [hb] at h; cases h
    | true =>
      rw [hb] at h
      cases h
      have e1 : first = #[] := by apply Array.ext'; simpa using hf
      subst e1
      have hr := scalars_R (evsD_R ha hE hc) hb
      have e2 : caps.map a.eval = (caps.toList.map a.eval).toArray := by apply Array.ext'; simp
      refine ⟨.func f #[] (caps.map a.eval), fun d ty pos af g => ?_, ?_, rfl⟩
      · simp [execOp, Instr.makeFunc]
      · rw [e2]; exact .c (.s (.fn hr))
  · cases h
end
end Go.Ev
