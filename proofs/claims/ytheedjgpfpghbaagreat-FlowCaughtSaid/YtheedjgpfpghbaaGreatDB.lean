/- A deterministic evaluator: what its values mean. -/
import Derived.Test.YtheedjgpfpghbaaGreatDA
set_option linter.unusedVariables false
set_option linter.unusedSectionVars false
set_option linter.unusedSimpArgs false
namespace Go.Ev
open Go Go.Fw

inductive All2 {α β : Type} (R : α → β → Prop) : List α → List β → Prop
  | nil : All2 R [] []
  | cons {a : α} {b : β} {l : List α} {m : List β} (h : R a b) (t : All2 R l m) : All2 R (a :: l) (b :: m)

section
variable {α β : Type} {R S : α → β → Prop}
theorem All2.imp (h : ∀ a b, R a b → S a b) {l : List α} {m : List β} (hl : All2 R l m) : All2 S l m := by
  induction hl with
  | nil => exact .nil
  | cons h1 _ ih => exact .cons (h _ _ h1) ih
theorem All2.len {l : List α} {m : List β} (hl : All2 R l m) : l.length = m.length := by
  induction hl with
  | nil => rfl
  | cons _ _ ih => simp [ih]
theorem All2.append {l l' : List α} {m m' : List β} (h : All2 R l m) (h' : All2 R l' m') : All2 R (l ++ l') (m ++ m') := by
  induction h with
  | nil => exact h'
  | cons h1 _ ih => exact .cons h1 ih
theorem All2.take {l : List α} {m : List β} (h : All2 R l m) : ∀ n, All2 R (l.take n) (m.take n) := by
  induction h with
  | nil => intro n; simp; exact .nil
  | cons h1 _ ih => intro n; cases n with
    | zero => exact .nil
    | succ n => exact .cons h1 (ih n)
theorem All2.drop {l : List α} {m : List β} (h : All2 R l m) : ∀ n, All2 R (l.drop n) (m.drop n) := by
  induction h with
  | nil => intro n; simp; exact .nil
  | cons h1 h2 ih => intro n; cases n with
    | zero => exact .cons h1 h2
    | succ n => exact ih n
theorem All2.get {l : List α} {m : List β} (h : All2 R l m) : ∀ {n : Nat} {a : α}, l[n]? = some a → ∃ b, m[n]? = some b ∧ R a b := by
  induction h with
  | nil => intro n a h; simp at h
  | cons h1 _ ih => intro n a h; cases n with
    | zero => simp at h; subst h; exact ⟨_, rfl, h1⟩
    | succ n => exact ih (by simpa using h)
end

/-- where an abstract block lies: the block, how far in, how long it is -/
abbrev Rho := Nat → Option (Nat × Nat × Nat)
def Rho.le (ρ ρ' : Rho) : Prop := ∀ b r, ρ b = some r → ρ' b = some r

/-- what the numbers are that aren't known -/
class Sym extends SymT where
  get : Nat → Option (IntKind × Int)

variable [Sym]

inductive RS (ρ : Rho) : Value → Value → Prop
  | plain {v : Value} (h : plainV v = true) : RS ρ v v
  | ptr {b o b' s n : Nat} (h : ρ b = some (b', s, n)) : RS ρ (.pointer (some ⟨b, o, none⟩)) (.pointer (some ⟨b', s + o, none⟩))
  | sl {b o n c b' s m : Nat} (h : ρ b = some (b', s, m)) (hc : Nat.ble unk c = false) (hn : n ≤ c) (hm : c ≤ maxLen) : RS ρ (.slice (some ⟨b, o, none⟩) n c) (.slice (some ⟨b', s + o, none⟩) n c)
  | slu {b o n z c' b' s m : Nat} (h : ρ b = some (b', s, m)) (ht : s + o + c' * z = m) (hn : n ≤ c') (hm : c' ≤ maxLen) : RS ρ (.slice (some ⟨b, o, none⟩) n (unk + z)) (.slice (some ⟨b', s + o, none⟩) n c')
  | slz {b o z b' o' : Nat} : RS ρ (.slice (some ⟨b, o, none⟩) 0 (unk + z)) (.slice (some ⟨b', o', none⟩) 0 0)
  | map {b b' m : Nat} (h : ρ b = some (b', 0, m)) : RS ρ (.map (some b)) (.map (some b'))
  | sym {i : Nat} {k : IntKind} {x : Int} (h : Sym.get i = some (k, x)) : RS ρ (.chan (some i)) (.int k x)

theorem RS.mono {ρ ρ' : Rho} (hl : Rho.le ρ ρ') {a b : Value} (h : RS ρ a b) : RS ρ' a b := by
  cases h with
  | plain h => exact .plain h
  | ptr h => exact .ptr (hl _ _ h)
  | sl h hc hn hm => exact .sl (hl _ _ h) hc hn hm
  | slu h ht hn hm => exact .slu (hl _ _ h) ht hn hm
  | slz => exact .slz
  | map h => exact .map (hl _ _ h)
  | sym h => exact .sym h

/-- one cell, or a struct's, or a function's -/
inductive RC (ρ : Rho) : Value → Value → Prop
  | s {a b : Value} (h : RS ρ a b) : RC ρ a b
  | agg {l m : List Value} (h : All2 (RS ρ) l m) : RC ρ (.agg l.toArray) (.agg m.toArray)
  | fn {f : Fn} {l m : List Value} (h : All2 (RS ρ) l m) : RC ρ (.func f #[] l.toArray) (.func f #[] m.toArray)

inductive RV (ρ : Rho) : Value → Value → Prop
  | c {a b : Value} (h : RC ρ a b) : RV ρ a b
  | tup {l m : List Value} (h : All2 (RC ρ) l m) : RV ρ (.tuple l.toArray) (.tuple m.toArray)

/-- what they are told to become they become -/
structure SymOk : Prop where
  bin : ∀ (o : BinOp) i k b v, SymT.bin o i k b = some v → ∀ k0 x, Sym.get i = some (k0, x) → k0 = k ∧ ∃ u, intOp o k x b = some u ∧ ∀ ρ, RS ρ v u
  binl : ∀ (o : BinOp) i k b v, SymT.binl o k b i = some v → ∀ k0 x, Sym.get i = some (k0, x) → k0 = k ∧ ∃ u, intOp o k b x = some u ∧ ∀ ρ, RS ρ v u
  conv : ∀ i k v, SymT.conv i k = some v → ∀ k0 x, Sym.get i = some (k0, x) → ∀ ρ, RS ρ v (.int k (k.wrap x))

theorem RV.sym {ρ : Rho} {i : Nat} {u : Value} (h : RV ρ (.chan (some i)) u) : ∃ k x, Sym.get i = some (k, x) ∧ u = .int k x := by
  cases h with | c h => cases h with | s h => cases h with
    | plain h => cases h
    | sym h => exact ⟨_, _, h, rfl⟩

theorem RC.mono {ρ ρ' : Rho} (hl : Rho.le ρ ρ') {a b : Value} (h : RC ρ a b) : RC ρ' a b := by
  cases h with
  | s h => exact .s (h.mono hl)
  | agg h => exact .agg (h.imp fun _ _ h => h.mono hl)
  | fn h => exact .fn (h.imp fun _ _ h => h.mono hl)
theorem RV.mono {ρ ρ' : Rho} (hl : Rho.le ρ ρ') {a b : Value} (h : RV ρ a b) : RV ρ' a b := by
  cases h with
  | c h => exact .c (h.mono hl)
  | tup h => exact .tup (h.imp fun _ _ h => h.mono hl)

section
variable {ρ : Rho} {v' : Value}
theorem RV.int {k : IntKind} {n : Int} (h : RV ρ (.int k n) v') : v' = .int k n := by
  cases h with | c h => cases h with | s h => cases h; rfl
theorem RV.bool {b : Bool} (h : RV ρ (.bool b) v') : v' = .bool b := by
  cases h with | c h => cases h with | s h => cases h; rfl
theorem RV.string {s : ByteArray} (h : RV ρ (.string s) v') : v' = .string s := by
  cases h with | c h => cases h with | s h => cases h; rfl
theorem RV.nilp (h : RV ρ (.pointer none) v') : v' = .pointer none := by
  cases h with | c h => cases h with | s h => cases h; rfl
theorem RV.agg {l : Array Value} (h : RV ρ (.agg l) v') : ∃ m : Array Value, v' = .agg m ∧ All2 (RS ρ) l.toList m.toList := by
  cases h with
  | c h => cases h with
    | s h => cases h with | plain h => cases h
    | agg h => exact ⟨_, rfl, by simpa using h⟩
theorem RV.ptr {b o : Nat} (h : RV ρ (.pointer (some ⟨b, o, none⟩)) v') : ∃ b' s n, ρ b = some (b', s, n) ∧ v' = .pointer (some ⟨b', s + o, none⟩) := by
  cases h with | c h => cases h with | s h => cases h with
    | plain h => cases h
    | ptr h => exact ⟨_, _, _, h, rfl⟩
theorem RV.tuple {l : Array Value} (h : RV ρ (.tuple l) v') : ∃ m : Array Value, v' = .tuple m ∧ All2 (RC ρ) l.toList m.toList := by
  cases h with
  | c h => cases h with
    | s h => cases h with | plain h => cases h
  | tup h => exact ⟨_, rfl, by simpa using h⟩
end

/-! ### tries -/
omit [Sym] in
theorem Tr.get_put {α : Type} {x : Option α} : ∀ (f : Nat) (t : Tr α) (k j : Nat), k + 1 < 2 ^ f → (Tr.put x f t k).get j = if k = j then x else t.get j := by
  intro f
  induction f with
  | zero => intro t k j h; simp at h
  | succ f ih =>
    have key : ∀ (l r : Tr α) (v : Option α) (k j : Nat), k + 1 < 2 ^ (f + 1) →
        (bif Nat.beq k 0 then Tr.n l x r else bif Nat.beq (Nat.mod k 2) 1 then .n (Tr.put x f l (Nat.div k 2)) v r else .n l v (Tr.put x f r (Nat.sub (Nat.div k 2) 1))).get j = if k = j then x else (Tr.n l v r).get j := by
      intro l r v k j h
      have hd : Nat.div k 2 = k / 2 := rfl
      have hm : Nat.mod k 2 = k % 2 := rfl
      have hd' : Nat.div j 2 = j / 2 := rfl
      have hm' : Nat.mod j 2 = j % 2 := rfl
      rw [Nat.pow_succ] at h
      by_cases h0 : k = 0
      · subst h0
        have hb0 : Nat.beq 0 0 = true := rfl
        simp only [hb0, cond_true, Tr.get]
        by_cases hj : j = 0
        · subst hj; rfl
        · rw [if_neg (Ne.symm hj)]
          have : Nat.beq j 0 = false := by cases hb : Nat.beq j 0 with
            | false => rfl
            | true => exact absurd (Nat.eq_of_beq_eq_true hb) hj
          rw [this]; rfl
      · have hk0 : Nat.beq k 0 = false := by cases hb : Nat.beq k 0 with
          | false => rfl
          | true => exact absurd (Nat.eq_of_beq_eq_true hb) h0
        simp only [hk0, cond_false]
        rcases Nat.mod_two_eq_zero_or_one k with h2 | h2
        · have hb : Nat.beq (Nat.mod k 2) 1 = false := by rw [hm, h2]; rfl
          simp only [hb, cond_false, Tr.get]
          by_cases hj : j = 0
          · subst hj; rw [if_neg h0]; rfl
          · have hj0 : Nat.beq j 0 = false := by cases hb : Nat.beq j 0 with
              | false => rfl
              | true => exact absurd (Nat.eq_of_beq_eq_true hb) hj
            simp only [hj0, cond_false]
            rcases Nat.mod_two_eq_zero_or_one j with h3 | h3
            · have hb' : Nat.beq (Nat.mod j 2) 1 = false := by rw [hm', h3]; rfl
              simp only [hb', cond_false]
              rw [ih _ _ _ (by rw [hd]; show k / 2 - 1 + 1 < _; omega)]
              have : (Nat.sub (Nat.div k 2) 1 = Nat.sub (Nat.div j 2) 1) ↔ k = j := by
                show k / 2 - 1 = j / 2 - 1 ↔ _
                omega
              by_cases e : k = j
              · rw [if_pos (this.2 e), if_pos e]
              · rw [if_neg (fun h => e (this.1 h)), if_neg e]
            · have hb' : Nat.beq (Nat.mod j 2) 1 = true := by rw [hm', h3]; rfl
              simp only [hb', cond_true]
              rw [if_neg (by omega)]
        · have hb : Nat.beq (Nat.mod k 2) 1 = true := by rw [hm, h2]; rfl
          simp only [hb, cond_true, Tr.get]
          by_cases hj : j = 0
          · subst hj; rw [if_neg h0]; rfl
          · have hj0 : Nat.beq j 0 = false := by cases hb : Nat.beq j 0 with
              | false => rfl
              | true => exact absurd (Nat.eq_of_beq_eq_true hb) hj
            simp only [hj0, cond_false]
            rcases Nat.mod_two_eq_zero_or_one j with h3 | h3
            · have hb' : Nat.beq (Nat.mod j 2) 1 = false := by rw [hm', h3]; rfl
              simp only [hb', cond_false]
              rw [if_neg (by omega)]
            · have hb' : Nat.beq (Nat.mod j 2) 1 = true := by rw [hm', h3]; rfl
              simp only [hb', cond_true]
              rw [ih _ _ _ (by rw [hd]; omega)]
              have : (Nat.div k 2 = Nat.div j 2) ↔ k = j := by
                show k / 2 = j / 2 ↔ _
                omega
              by_cases e : k = j
              · rw [if_pos (this.2 e), if_pos e]
              · rw [if_neg (fun h => e (this.1 h)), if_neg e]
    intro t k j h
    cases t with
    | e =>
      have := key .e .e none k j h
      have e0 : (Tr.n (.e : Tr α) none .e).get j = (Tr.e : Tr α).get j := by
        simp only [Tr.get]
        cases Nat.beq j 0 <;> cases Nat.beq (Nat.mod j 2) 1 <;> rfl
      rw [e0] at this
      exact this
    | n l v r => exact key l r v k j h
end Go.Ev
