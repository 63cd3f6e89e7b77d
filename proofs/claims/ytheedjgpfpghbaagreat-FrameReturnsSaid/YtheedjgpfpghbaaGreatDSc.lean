/- The evaluator, quicker: code, calls. -/
import Derived.Test.YtheedjgpfpghbaaGreatDSd
set_option linter.unusedVariables false
set_option linter.unusedSectionVars false
set_option linter.unusedSimpArgs false
namespace Go.Ev
open Go Go.Fw
section
variable [SymT] (tab : Nat → Option TI) (eqs : Nat → Option (List TK)) (zt : Nat → Option Value) (fns : Nat → Option Func) (prims : Nat → Option (List Value → Mem → Option (Value × Mem)))
abbrev RunT1 := Nat → Code → Tr Value → Mem → RR
abbrev CK := RunT1 → Tr Value → Mem → RR

/-- behind what ends as usual -/
noncomputable def seqK (r : RR) (k : Tr Value → Mem → RR) : RR := @Option.rec (DX × Tr Value × Mem) (fun _ => RR) none (fun p => @Prod.rec DX (Tr Value × Mem) (fun _ => RR) (fun d q => @Prod.rec (Tr Value) Mem (fun _ => RR) (fun T M => @DX.rec (fun _ => RR) (k T M) (fun n => some (.exit n, T, M)) (some (.ret, T, M)) d) q) p) r
noncomputable def blockK (id : Nat) (r : RR) : RR := @Option.rec (DX × Tr Value × Mem) (fun _ => RR) none (fun p => @Prod.rec DX (Tr Value × Mem) (fun _ => RR) (fun d q => @Prod.rec (Tr Value) Mem (fun _ => RR) (fun T M => @DX.rec (fun _ => RR) (some (.normal, T, M)) (fun n => @Bool.rec (fun _ => RR) (some (.exit n, T, M)) (some (.normal, T, M)) (Nat.beq n id)) (some (.ret, T, M)) d) q) p) r
theorem seqK_eq (r : RR) (k : Tr Value → Mem → RR) : seqK r k = match r with | some (.normal, T, M) => k T M | r => r := by
  rcases r with _ | ⟨d, T, M⟩
  · rfl
  · cases d <;> rfl
theorem blockK_eq (id : Nat) (r : RR) : blockK id r = match r with | some (.exit k, T, M) => bif Nat.beq k id then some (.normal, T, M) else some (.exit k, T, M) | r => r := by
  rcases r with _ | ⟨d, T, M⟩
  · rfl
  · cases d with
    | exit n => show @Bool.rec (fun _ => RR) _ _ (Nat.beq n id) = bif Nat.beq n id then _ else _; rw [boolRec_eq]
    | _ => rfl

/-- a call -/
noncomputable def callC (g : Nat) : Bx (RunT1 → List Value → Mem → Option (Value × Mem)) := match prims g with
  | some p => ⟨fun ih args M => p args M⟩
  | none => match fns g with
    | some fn => match fn.body with
      | some c => bif Nat.ble fn.ntmps 1000000 then ⟨fun ih args M => @Bool.rec (fun _ => Option (Value × Mem)) none (finD tab fn.results.toList (ih fn.ntmps c (argT args 0 .e) M)) (Nat.ble args.length fn.ntmps)⟩ else ⟨fun _ _ _ => none⟩
      | none => ⟨fun _ _ _ => none⟩
    | none => ⟨fun _ _ _ => none⟩
theorem callC_eq (g : Nat) (ih : RunT1) (args : List Value) (M : Mem) : (callC tab fns prims g).un ih args M = callP tab fns prims ih g args M := by
  unfold callC callP callB
  cases prims g with
  | some p => rfl
  | none =>
    simp only
    cases fns g with
    | none => rfl
    | some fn =>
      simp only
      cases fn.body with
      | none => rfl
      | some c =>
        simp only
        cases Nat.ble fn.ntmps 1000000 with
        | false => rw [Bool.and_false]; rfl
        | true =>
          rw [Bool.and_true]
          show @Bool.rec (fun _ => Option (Value × Mem)) none _ (Nat.ble args.length fn.ntmps) = _
          rw [boolRec_eq]
noncomputable def callT (ih : RunT1) : CallT1 := fun g args M => (callC tab fns prims g).un ih args M
theorem callT_eq (ih : RunT1) : callT tab fns prims ih = callP tab fns prims ih := by
  funext g args M; exact callC_eq tab fns prims g ih args M

noncomputable def regK (N : Nat) (ops : Array Oper) (dr : Bool) : Bx SK := bif dr then drawS tab eqs zt N ops.toList else regS tab eqs zt N ops.toList ops.toList
theorem regK_eq (N : Nat) (ops : Array Oper) (dr : Bool) (ih : RunT1) (k : Tr Value → Mem → RR) (T : Tr Value) (M : Mem) : (regK tab eqs zt N ops dr).un (callT tab fns prims ih) k T M = bT (regB tab eqs zt fns prims ih N ops dr T M) k := by
  unfold regK regB
  rw [callT_eq]
  cases dr with
  | true => exact drawS_eq tab eqs zt N ops.toList _ k T M
  | false => exact regS_eq tab eqs zt N ops.toList _ k ops.toList T M

noncomputable def codeS (N : Nat) (c : Code) : Bx CK := match c with
  | .skip => ⟨fun ih T M => some (.normal, T, M)⟩
  | .region _ ops dr => match regK tab eqs zt N ops dr with
    | ⟨f⟩ => ⟨fun ih T M => f (callT tab fns prims ih) (fun T M => some (.normal, T, M)) T M⟩
  | .seq (.region _ ops dr) b => match regK tab eqs zt N ops dr with
    | ⟨f⟩ => ⟨fun ih T M => f (callT tab fns prims ih) (fun T M => ih N b T M) T M⟩
  | .seq a b => ⟨fun ih T M => seqK (ih N a T M) (fun T M => ih N b T M)⟩
  | .cond c x y => match evS c with
    | ⟨f⟩ => ⟨fun ih T M => @Option.rec Value (fun _ => RR) none (fun v => condK v (fun b => @Bool.rec (fun _ => RR) (ih N y T M) (ih N x T M) b) (fun i => bif SymT.ub i then joinR (ih N x T M) (ih N y T M) else none)) (f T)⟩
  | .block id c => ⟨fun ih T M => blockK id (ih N c T M)⟩
  | .loop c => ⟨fun ih T M => seqK (ih N c T M) (fun T M => ih N (.loop c) T M)⟩
  | .exit id => ⟨fun ih T M => some (.exit id, T, M)⟩
  | .ret => ⟨fun ih T M => some (.ret, T, M)⟩
  | _ => ⟨fun _ _ _ => none⟩
theorem codeS_eq (N : Nat) (c : Code) (ih : RunT1) (T : Tr Value) (M : Mem) : (codeS tab eqs zt fns prims N c).un ih T M = runB tab eqs zt fns prims ih N c T M := by
  have hreg : ∀ ops dr, (match regK tab eqs zt N ops dr with | ⟨f⟩ => (⟨fun ih T M => f (callT tab fns prims ih) (fun T M => some (.normal, T, M)) T M⟩ : Bx CK)).un ih T M = (match regB tab eqs zt fns prims ih N ops dr T M with
    | some (T, M) => some (.normal, T, M)
    | none => none) := fun ops dr => by
    have h := regK_eq tab eqs zt fns prims N ops dr ih (fun T M => some (.normal, T, M)) T M
    revert h
    rcases regK tab eqs zt N ops dr with ⟨f⟩
    intro h
    have h : f (callT tab fns prims ih) (fun T M => some (.normal, T, M)) T M = _ := h
    show f (callT tab fns prims ih) (fun T M => some (.normal, T, M)) T M = _
    rw [h]
    rcases regB tab eqs zt fns prims ih N ops dr T M with _ | ⟨T', M'⟩ <;> rfl
  unfold codeS
  split
  · rfl
  · exact hreg _ _
  · rename_i id ops dr b
    have h := regK_eq tab eqs zt fns prims N ops dr ih (fun T M => ih N b T M) T M
    show _ = (match runA tab eqs zt fns prims ih N (.region id ops dr) T M with | some (.normal, T, M) => ih N b T M | r => r)
    unfold runA
    revert h
    rcases regK tab eqs zt N ops dr with ⟨f⟩
    intro h
    have h : f (callT tab fns prims ih) (fun T M => ih N b T M) T M = _ := h
    show f (callT tab fns prims ih) (fun T M => ih N b T M) T M = _
    rw [h]
    simp only
    rcases regB tab eqs zt fns prims ih N ops dr T M with _ | ⟨T', M'⟩ <;> rfl
  · rename_i a b hn
    show seqK (ih N a T M) _ = (match runA tab eqs zt fns prims ih N a T M with | some (.normal, T, M) => ih N b T M | r => r)
    have h : runA tab eqs zt fns prims ih N a T M = ih N a T M := by
      unfold runA
      split
      · exact absurd rfl (hn _ _ _)
      · rfl
    rw [h, seqK_eq]
    rcases ih N a T M with _ | ⟨d, T', M'⟩
    · rfl
    · cases d <;> rfl
  · rename_i c x y
    show _ = (match evD T c with | some (.bool true) => ih N x T M | some (.bool false) => ih N y T M | some (.chan (some i)) => bif SymT.ub i then joinR (ih N x T M) (ih N y T M) else none | _ => none)
    rw [← evS_eq]
    rcases evS c with ⟨f⟩
    show @Option.rec Value (fun _ => RR) none _ (f T) = (match f T with | some (.bool true) => ih N x T M | some (.bool false) => ih N y T M | some (.chan (some i)) => bif SymT.ub i then joinR (ih N x T M) (ih N y T M) else none | _ => none)
    cases f T with
    | none => rfl
    | some v =>
      cases v <;> try rfl
      · rename_i b; cases b <;> rfl
      · rename_i r; cases r <;> rfl
  · exact blockK_eq _ _
  · exact seqK_eq _ _
  · rfl
  · rfl
  · rename_i h1 h2 h3 h4 h5 h6 h7 h8 h9
    unfold runB
    split <;> first | rfl | (exfalso; first | exact h1 rfl | exact h2 _ _ _ rfl | exact h3 _ _ _ _ rfl | exact h4 _ _ rfl | exact h5 _ _ _ rfl | exact h6 _ _ rfl | exact h7 _ rfl | exact h8 _ rfl | exact h9 rfl)

noncomputable def runS : Nat → Nat → Code → Tr Value → Mem → RR := fun n => @Nat.rec (fun _ => RunT1) (fun _ _ _ _ => none) (fun _ ih N c T M => (codeS tab eqs zt fns prims N c).un ih T M) n
theorem runS_eq : ∀ n, runS tab eqs zt fns prims n = run tab eqs zt fns prims n
  | 0 => rfl
  | n + 1 => by
    have ih := runS_eq n
    funext N c T M
    show (codeS tab eqs zt fns prims N c).un (runS tab eqs zt fns prims n) T M = runB tab eqs zt fns prims (run tab eqs zt fns prims n) N c T M
    rw [ih, codeS_eq]

/-- a call, quicker -/
noncomputable def callE (n f : Nat) (args : List Value) (M : Mem) : Option (Value × Mem) := callB tab fns (runS tab eqs zt fns prims n) f args M
theorem callE_eq (n : Nat) : callE tab eqs zt fns prims n = callD tab eqs zt fns prims n := by
  funext f args M
  unfold callE callD
  rw [runS_eq]
end
end Go.Ev
