/- A deterministic evaluator: tables, laws. -/
import Derived.Test.YtheedjgpfpghbaaGreatDL
import Derived.Test.YtheedjgpfpghbaaGreatFwJ
set_option linter.unusedVariables false
set_option linter.unusedSectionVars false
set_option linter.unusedSimpArgs false
namespace Go.Ev
open Go Go.Fw

/-- for all below a number -/
def allN : Nat → (Nat → Bool) → Bool
  | 0, _ => true
  | n + 1, f => f n && allN n f
theorem allN_get : ∀ {n : Nat} {f : Nat → Bool}, allN n f = true → ∀ i, i < n → f i = true
  | n + 1, f, h, i, hi => by
    simp only [allN, Bool.and_eq_true] at h
    rcases Nat.lt_or_ge i n with h' | h'
    · exact allN_get h.2 i h'
    · have : i = n := by omega
      subst this; exact h.1

def AllU : Nat → (Nat → Prop) → Prop
  | 0, _ => True
  | n + 1, p => p n ∧ AllU n p
theorem AllU.get : ∀ {n : Nat} {p : Nat → Prop}, AllU n p → ∀ i, i < n → p i
  | n + 1, p, h, i, hi => by
    rcases Nat.lt_or_ge i n with h' | h'
    · exact AllU.get h.2 i h'
    · have : i = n := by omega
      subst this; exact h.1

/-! ### tries out of lists -/
noncomputable def trOf {α : Type} : List (Nat × α) → Tr α
  | [] => .e
  | (k, v) :: r => Tr.put (some v) 20 (trOf r) k
def keysOk {α : Type} : List (Nat × α) → Bool
  | [] => true
  | (k, _) :: r => Nat.blt k 1000000 && keysOk r
def AllL {α : Type} (Q : Nat → α → Prop) : List (Nat × α) → Prop
  | [] => True
  | (k, v) :: r => Q k v ∧ AllL Q r

theorem AllL.of {α : Type} {Q : Nat → α → Prop} : ∀ {l : List (Nat × α)}, (∀ p ∈ l, Q p.1 p.2) → AllL Q l
  | [], _ => trivial
  | p :: r, h => ⟨h p (List.mem_cons_self ..), AllL.of fun q hq => h q (List.mem_cons_of_mem _ hq)⟩

theorem trOf_all {α : Type} {Q : Nat → α → Prop} : ∀ {L : List (Nat × α)}, keysOk L = true → AllL Q L → ∀ t v, (trOf L).get t = some v → Q t v
  | [], _, _, t, v, h => by rw [trOf, Tr.get_e] at h; cases h
  | (k, x) :: r, hk, hq, t, v, h => by
    simp only [keysOk, Bool.and_eq_true] at hk
    have hlt : k < 1000000 := by simpa using hk.1
    rw [trOf, Tr.get_put 20 _ k t (by omega)] at h
    split at h
    · rename_i e; subst e; cases h; exact hq.1
    · exact trOf_all hk.2 hq.2 t v h

theorem trOf_tk : ∀ {L : Tab}, keysOk L = true → SubT (trOf L).get L
  | [], _, t, v, h => by rw [trOf, Tr.get_e] at h; cases h
  | (k, x) :: r, hk, t, v, h => by
    simp only [keysOk, Bool.and_eq_true] at hk
    have hlt : k < 1000000 := by simpa using hk.1
    rw [trOf, Tr.get_put 20 _ k t (by omega)] at h
    simp only [tk]
    split at h
    · rename_i e; subst e; rw [Nat.beq_refl]; exact h
    · rename_i e
      have : Nat.beq k t = false := by
        cases hb : Nat.beq k t with
        | false => rfl
        | true => exact absurd (Nat.eq_of_beq_eq_true hb) e
      rw [this]
      exact trOf_tk hk.2 t v h

/-- a zero value -/
def ZeOk (P : Program) (t : Nat) (z : Value) : Prop := (P.info? t).bind (·.zero) = some z ∧ plainC z = true
theorem ZeOk.run {P : Program} {t : Nat} {z : Value} (h : ZeOk P t z) : (∀ w : World, (zeroValue t).run P w = .ok z w) ∧ plainC z = true := by
  refine ⟨fun w => ?_, h.2⟩
  have h1 := h.1
  cases hi : P.info? t with
  | none => rw [hi] at h1; cases h1
  | some i =>
    rw [hi] at h1
    have h1 : i.zero = some z := h1
    simp [zeroValue, typeInfo, hi, h1]

def FnOk (P : Program) (f : Nat) (fn : Func) : Prop := P.funcs[f]? = some fn ∧ (fn.name == "runtime.NumGoroutine") = false

section
variable [Sym] {P : Program} {T : Tab} {K : KM} {eqL : List (Nat × List TK)} {zeL : List (Nat × Value)} {fnL : List (Nat × Func)}

theorem Ctx.mk' {tyT : Tr TI} {eqT : Tr (List TK)} {zeT : Tr Value} (hs : SymOk) (h1 : tyT = trOf T) (k1 : keysOk T = true) (hz : T.all (fun p => p.2.zero.all plainV && p.2.ezero.all plainV) = true) (h2 : eqT = trOf eqL) (k2 : keysOk eqL = true) (q2 : AllL (EqT P) eqL) (h3 : zeT = trOf zeL) (k3 : keysOk zeL = true) (q3 : AllL (ZeOk P) zeL) :
    Ctx P T tyT.get eqT.get zeT.get := by
  refine ⟨hs, by rw [h1]; exact trOf_tk k1, by rw [h2]; exact trOf_all k2 q2, fun t i h => ?_, fun t i h => ?_, fun t z h => ?_⟩
  · rw [h1] at h; exact trOf_all (Q := fun _ i => i.zero.all plainV = true) k1 (AllL.of fun p hp => by have := List.all_eq_true.1 hz p hp; simp only [Bool.and_eq_true] at this; exact this.1) t i h
  · rw [h1] at h; exact trOf_all (Q := fun _ i => i.ezero.all plainV = true) k1 (AllL.of fun p hp => by have := List.all_eq_true.1 hz p hp; simp only [Bool.and_eq_true] at this; exact this.2) t i h
  · rw [h3] at h; exact (trOf_all k3 q3 t z h).run

theorem FnsOk.mk' {fnT : Tr Func} (h : fnT = trOf fnL) (k : keysOk fnL = true) (q : AllL (FnOk P) fnL) : FnsOk P fnT.get := fun f fn hf => by
  rw [h] at hf; exact trOf_all k q f fn hf

theorem primsNone : PrimsOk P K (fun _ => none) := fun f p h => by cases h

def isTrue : Option (Value × Mem) → Bool
  | some (.bool b, _) => b
  | _ => false

def ρ0 : Rho := fun _ => none
noncomputable def M0 : Mem := ⟨.e, 1⟩

theorem World.is0 (W : World) : World.Is W (KM.all W) [] ρ0 M0 := ⟨[], [], ⟨List.nodup_nil, .nil, (fun i x h => by rw [show M0.m = Tr.e from rfl, Tr.get_e] at h; cases h), (fun i r h => by cases h)⟩, Sat.all W⟩

/-- a law by the evaluator -/
theorem law_D {call : CallT} {f : Nat} {args rs : List Value} {W : World} (hc : CallOk P (KM.all W) call) (h : isTrue (call f args M0) = true) (hr : All2 (RV ρ0) args rs) :
    Calls P f rs.toArray W (fun e W' => e = .returned (.bool true) ∧ Go.RowKit.Below W.heap.size W W') := by
  cases hq : call f args M0 with
  | none => rw [hq] at h; cases h
  | some p =>
    obtain ⟨v, M'⟩ := p
    rw [hq] at h
    cases v with
    | bool b =>
      have hb : b = true := h
      subst hb
      refine (hc _ _ _ _ _ hq ρ0 [] W rs hr (World.is0 W)).2.mono fun e W' he => ?_
      cases e with
      | returned v =>
        obtain ⟨ρ', h1, h2, h3⟩ := he
        obtain ⟨ids, C, h4, h5⟩ := h3
        exact ⟨by rw [h2.bool], h5.below (.refl _)⟩
      | panicked _ => exact he.elim
      | outgrown => exact he.elim
    | _ => cases h

/-- a call of nothing that was looked at once -/
def memoP (v : Value) : List Value → Mem → Option (Value × Mem) := fun args M => match args with
  | [] => some (v, M)
  | _ => none

theorem memo_ok {call : CallT} {f : Nat} (hc : CallOk P K call) (h : isTrue (call f [] M0) = true) : CallOk P K (fun g args M => if g = f then memoP (.bool true) args M else none) := by
  cases hq : call f [] M0 with
  | none => rw [hq] at h; cases h
  | some p =>
    obtain ⟨v, M1⟩ := p
    rw [hq] at h
    cases v with
    | bool b =>
      have hb : b = true := h
      subst hb
      intro g args M v M' h ρ L w rs hrs hW
      by_cases hg : g = f
      · subst hg
        have h : memoP (.bool true) args M = some (v, M') := by simpa using h
        cases hrs with
        | cons _ _ => cases h
        | nil =>
          cases h
          obtain ⟨ids, C, hM, hS⟩ := hW
          obtain ⟨h1, h2⟩ := hc _ _ _ _ _ hq ρ0 (C ++ L) w [] .nil ⟨[], [], ⟨List.nodup_nil, .nil, (fun i x h => by rw [show M0.m = Tr.e from rfl, Tr.get_e] at h; cases h), (fun i r h => by cases h)⟩, hS⟩
          refine ⟨h1, h2.mono fun e w' he => ?_⟩
          cases e with
          | returned u =>
            obtain ⟨ρ', h3, h4, ids2, C2, _, h5⟩ := he
            exact ⟨ρ, .same (Nat.le_refl _), by rw [h4.bool]; exact .c (.s (.plain rfl)), ids, C, hM, h5.sub (L' := C ++ L) (R := C2) List.perm_append_comm⟩
          | panicked _ => exact he.elim
          | outgrown => exact he.elim
      · simp only [if_neg hg] at h; cases h
    | _ => cases h

theorem primsOne {f : Nat} {p : List Value → Mem → Option (Value × Mem)} (h : CallOk P K (fun g args M => if g = f then p args M else none)) : PrimsOk P K (fun g => bif Nat.beq g f then some p else none) := fun g q hq => by
  have hq : (bif Nat.beq g f then some p else none) = some q := hq
  cases hb : Nat.beq g f with
  | false => rw [hb] at hq; cases hq
  | true =>
    rw [hb] at hq
    have e : p = q := Option.some.inj hq
    have := Nat.eq_of_beq_eq_true hb
    rw [← e, this]
    exact h

/-- several functions told by hand -/
def primL : List (Nat × (List Value → Mem → Option (Value × Mem))) → Nat → Option (List Value → Mem → Option (Value × Mem))
  | [], _ => none
  | (f, p) :: r, g => bif Nat.beq g f then some p else primL r g
theorem primL_ok : ∀ {l : List (Nat × (List Value → Mem → Option (Value × Mem)))}, AllL (fun f p => CallOk P K (fun g args M => if g = f then p args M else none)) l → PrimsOk P K (primL l)
  | [], _, f, p, h => by cases h
  | (f, p) :: r, hl, g, q, hq => by
    have hq : (bif Nat.beq g f then some p else primL r g) = some q := hq
    cases hb : Nat.beq g f with
    | true =>
      rw [hb] at hq
      have e : p = q := Option.some.inj hq
      have := Nat.eq_of_beq_eq_true hb
      rw [← e, this]
      exact hl.1
    | false =>
      rw [hb] at hq
      exact primL_ok hl.2 g q hq

theorem primsTwo {f f' : Nat} {p p' : List Value → Mem → Option (Value × Mem)} (h : CallOk P K (fun g args M => if g = f then p args M else none)) (h' : CallOk P K (fun g args M => if g = f' then p' args M else none)) :
    PrimsOk P K (fun g => bif Nat.beq g f then some p else bif Nat.beq g f' then some p' else none) := fun g q hq => by
  have hq : (bif Nat.beq g f then some p else bif Nat.beq g f' then some p' else none) = some q := hq
  cases hb : Nat.beq g f with
  | true =>
    rw [hb] at hq
    have e : p = q := Option.some.inj hq
    have := Nat.eq_of_beq_eq_true hb
    rw [← e, this]
    exact h
  | false =>
    rw [hb] at hq
    exact primsOne h' g q hq

theorem RV.symI {i : Nat} {u : Value} (h : Sym.rel i u) (hp : plainV u = true) : RV ρ0 (.chan (some i)) u := .c (.s (.sym h hp))
theorem RV.boolI {b : Bool} : RV ρ0 (.bool b) (.bool b) := .c (.s (.plain rfl))
end
end Go.Ev
