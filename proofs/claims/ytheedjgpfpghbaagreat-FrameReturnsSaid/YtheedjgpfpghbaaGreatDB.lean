/- A deterministic evaluator: what its values mean. -/
import Derived.Test.YtheedjgpfpghbaaGreatDA
set_option linter.unusedVariables false
set_option linter.unusedSectionVars false
set_option linter.unusedSimpArgs false
namespace Go.Ev
open Go Go.Fw

inductive All2 {α β : Type} (R : α → β → Prop) : List α → List β → Prop
  | nil : All2 R [] []
  | cons {a : α} {b : β} {l : List α} {m : List β} (h : R a b) (t : All2 R l m) : All2 R (a :: l) (b :: m)

section
variable {α β : Type} {R S : α → β → Prop}
theorem All2.imp (h : ∀ a b, R a b → S a b) {l : List α} {m : List β} (hl : All2 R l m) : All2 S l m := by
  induction hl with
  | nil => exact .nil
  | cons h1 _ ih => exact .cons (h _ _ h1) ih
theorem All2.len {l : List α} {m : List β} (hl : All2 R l m) : l.length = m.length := by
  induction hl with
  | nil => rfl
  | cons _ _ ih => simp [ih]
theorem All2.append {l l' : List α} {m m' : List β} (h : All2 R l m) (h' : All2 R l' m') : All2 R (l ++ l') (m ++ m') := by
  induction h with
  | nil => exact h'
  | cons h1 _ ih => exact .cons h1 ih
theorem All2.take {l : List α} {m : List β} (h : All2 R l m) : ∀ n, All2 R (l.take n) (m.take n) := by
  induction h with
  | nil => intro n; simp; exact .nil
  | cons h1 _ ih => intro n; cases n with
    | zero => exact .nil
    | succ n => exact .cons h1 (ih n)
theorem All2.drop {l : List α} {m : List β} (h : All2 R l m) : ∀ n, All2 R (l.drop n) (m.drop n) := by
  induction h with
  | nil => intro n; simp; exact .nil
  | cons h1 h2 ih => intro n; cases n with
    | zero => exact .cons h1 h2
    | succ n => exact ih n
theorem All2.get {l : List α} {m : List β} (h : All2 R l m) : ∀ {n : Nat} {a : α}, l[n]? = some a → ∃ b, m[n]? = some b ∧ R a b := by
  induction h with
  | nil => intro n a h; simp at h
  | cons h1 _ ih => intro n a h; cases n with
    | zero => simp at h; subst h; exact ⟨_, rfl, h1⟩
    | succ n => exact ih (by simpa using h)
end

/-- where an abstract block lies: the block, how far in, how long it is -/
abbrev Rho := Nat → Option (Nat × Nat × Nat)
def Rho.le (ρ ρ' : Rho) : Prop := ∀ b r, ρ b = some r → ρ' b = some r

/-- what the values are that aren't known -/
class Sym extends SymT where
  rel : Nat → Value → Prop

/-- it is one cell -/
noncomputable def cellV : Value → Bool
  | .agg _ => false
  | .tuple _ => false
  | _ => true

variable [Sym]

/-- one cell, but a function -/
inductive RS0 (ρ : Rho) : Value → Value → Prop
  | plain {v : Value} (h : plainV v = true) : RS0 ρ v v
  | ptr {b o b' s n : Nat} (h : ρ b = some (b', s, n)) : RS0 ρ (.pointer (some ⟨b, o, none⟩)) (.pointer (some ⟨b', s + o, none⟩))
  | sl {b o n c b' s m : Nat} (h : ρ b = some (b', s, m)) (hc : Nat.ble unk c = false) (hn : n ≤ c) (hm : c ≤ maxLen) : RS0 ρ (.slice (some ⟨b, o, none⟩) n c) (.slice (some ⟨b', s + o, none⟩) n c)
  | slu {b o n z c' b' s m : Nat} (h : ρ b = some (b', s, m)) (ht : s + o + c' * z = m) (hn : n ≤ c') (hm : c' ≤ maxLen) : RS0 ρ (.slice (some ⟨b, o, none⟩) n (unk + z)) (.slice (some ⟨b', s + o, none⟩) n c')
  | slz {b o z b' o' : Nat} : RS0 ρ (.slice (some ⟨b, o, none⟩) 0 (unk + z)) (.slice (some ⟨b', o', none⟩) 0 0)
  | map {b b' m : Nat} (h : ρ b = some (b', 0, m)) : RS0 ρ (.map (some b)) (.map (some b'))
  | sym {i : Nat} {u : Value} (h : Sym.rel i u) (hp : plainV u = true) : RS0 ρ (.chan (some i)) u
  | any {u : Value} (hc : cellV u = true) : RS0 ρ (.chan none) u

inductive RS (ρ : Rho) : Value → Value → Prop
  | plain {v : Value} (h : plainV v = true) : RS ρ v v
  | ptr {b o b' s n : Nat} (h : ρ b = some (b', s, n)) : RS ρ (.pointer (some ⟨b, o, none⟩)) (.pointer (some ⟨b', s + o, none⟩))
  | sl {b o n c b' s m : Nat} (h : ρ b = some (b', s, m)) (hc : Nat.ble unk c = false) (hn : n ≤ c) (hm : c ≤ maxLen) : RS ρ (.slice (some ⟨b, o, none⟩) n c) (.slice (some ⟨b', s + o, none⟩) n c)
  | slu {b o n z c' b' s m : Nat} (h : ρ b = some (b', s, m)) (ht : s + o + c' * z = m) (hn : n ≤ c') (hm : c' ≤ maxLen) : RS ρ (.slice (some ⟨b, o, none⟩) n (unk + z)) (.slice (some ⟨b', s + o, none⟩) n c')
  | slz {b o z b' o' : Nat} : RS ρ (.slice (some ⟨b, o, none⟩) 0 (unk + z)) (.slice (some ⟨b', o', none⟩) 0 0)
  | map {b b' m : Nat} (h : ρ b = some (b', 0, m)) : RS ρ (.map (some b)) (.map (some b'))
  | sym {i : Nat} {u : Value} (h : Sym.rel i u) (hp : plainV u = true) : RS ρ (.chan (some i)) u
  | any {u : Value} (hc : cellV u = true) : RS ρ (.chan none) u
  | fn {f : Fn} {l m : List Value} (h : All2 (RS0 ρ) l m) : RS ρ (.func f #[] l.toArray) (.func f #[] m.toArray)

theorem RS0.up {ρ : Rho} {a b : Value} (h : RS0 ρ a b) : RS ρ a b := by
  cases h with
  | plain h => exact .plain h
  | ptr h => exact .ptr h
  | sl h hc hn hm => exact .sl h hc hn hm
  | slu h ht hn hm => exact .slu h ht hn hm
  | slz => exact .slz
  | map h => exact .map h
  | sym h hp => exact .sym h hp
  | any hc => exact .any hc

theorem RS.down {ρ : Rho} {a b : Value} (h : RS ρ a b) (hs : scalarV a = true) : RS0 ρ a b := by
  cases h with
  | plain h => exact .plain h
  | ptr h => exact .ptr h
  | sl h hc hn hm => exact .sl h hc hn hm
  | slu h ht hn hm => exact .slu h ht hn hm
  | slz => exact .slz
  | map h => exact .map h
  | sym h hp => exact .sym h hp
  | any hc => exact .any hc
  | fn h => cases hs

theorem RS0.mono {ρ ρ' : Rho} (hl : Rho.le ρ ρ') {a b : Value} (h : RS0 ρ a b) : RS0 ρ' a b := by
  cases h with
  | plain h => exact .plain h
  | ptr h => exact .ptr (hl _ _ h)
  | sl h hc hn hm => exact .sl (hl _ _ h) hc hn hm
  | slu h ht hn hm => exact .slu (hl _ _ h) ht hn hm
  | slz => exact .slz
  | map h => exact .map (hl _ _ h)
  | sym h hp => exact .sym h hp
  | any hc => exact .any hc

theorem RS.mono {ρ ρ' : Rho} (hl : Rho.le ρ ρ') {a b : Value} (h : RS ρ a b) : RS ρ' a b := by
  cases h with
  | plain h => exact .plain h
  | ptr h => exact .ptr (hl _ _ h)
  | sl h hc hn hm => exact .sl (hl _ _ h) hc hn hm
  | slu h ht hn hm => exact .slu (hl _ _ h) ht hn hm
  | slz => exact .slz
  | map h => exact .map (hl _ _ h)
  | sym h hp => exact .sym h hp
  | any hc => exact .any hc
  | fn h => exact .fn (h.imp fun _ _ h => h.mono hl)

/-- one cell, or a struct's, or a function's -/
inductive RC (ρ : Rho) : Value → Value → Prop
  | s {a b : Value} (h : RS ρ a b) : RC ρ a b
  | agg {l m : List Value} (h : All2 (RS ρ) l m) : RC ρ (.agg l.toArray) (.agg m.toArray)

inductive RV (ρ : Rho) : Value → Value → Prop
  | c {a b : Value} (h : RC ρ a b) : RV ρ a b
  | tup {l m : List Value} (h : All2 (RC ρ) l m) : RV ρ (.tuple l.toArray) (.tuple m.toArray)

/-- what they are told to become they become -/
structure SymOk : Prop where
  bin : ∀ (o : BinOp) i k b v, SymT.bin o i k b = some v → ∀ z, Sym.rel i z → ∃ x u, z = .int k x ∧ intOp o k x b = some u ∧ ∀ ρ, RS ρ v u
  binl : ∀ (o : BinOp) i k b v, SymT.binl o k b i = some v → ∀ z, Sym.rel i z → ∃ x u, z = .int k x ∧ intOp o k b x = some u ∧ ∀ ρ, RS ρ v u
  bins : ∀ (o : BinOp) i j v, SymT.bins o i j = some v → ∀ z y, Sym.rel i z → Sym.rel j y → ∃ k a b u, z = .int k a ∧ y = .int k b ∧ intOp o k a b = some u ∧ ∀ ρ, RS ρ v u
  conv : ∀ i k v, SymT.conv i k = some v → ∀ z, Sym.rel i z → ∃ k0 x, z = .int k0 x ∧ ∀ ρ, RS ρ v (.int k (k.wrap x))
  ub : ∀ i, SymT.ub i = true → ∀ z, Sym.rel i z → ∃ b, z = .bool b

theorem RV.sym {ρ : Rho} {i : Nat} {u : Value} (h : RV ρ (.chan (some i)) u) : Sym.rel i u := by
  cases h with | c h => cases h with | s h => cases h with
    | plain h => cases h
    | sym h _ => exact h

theorem plain_cell {v : Value} (h : plainV v = true) : cellV v = true := by cases v <;> first | rfl | (simp [plainV] at h)
theorem RS.cell {ρ : Rho} {v u : Value} (h : RS ρ v u) : cellV u = true := by
  cases h with
  | plain h => exact plain_cell h
  | sym _ hp => exact plain_cell hp
  | any hc => exact hc
  | _ => rfl

theorem RC.mono {ρ ρ' : Rho} (hl : Rho.le ρ ρ') {a b : Value} (h : RC ρ a b) : RC ρ' a b := by
  cases h with
  | s h => exact .s (h.mono hl)
  | agg h => exact .agg (h.imp fun _ _ h => h.mono hl)
theorem RV.mono {ρ ρ' : Rho} (hl : Rho.le ρ ρ') {a b : Value} (h : RV ρ a b) : RV ρ' a b := by
  cases h with
  | c h => exact .c (h.mono hl)
  | tup h => exact .tup (h.imp fun _ _ h => h.mono hl)

section
variable {ρ : Rho} {v' : Value}
theorem RV.int {k : IntKind} {n : Int} (h : RV ρ (.int k n) v') : v' = .int k n := by
  cases h with | c h => cases h with | s h => cases h; rfl
theorem RV.bool {b : Bool} (h : RV ρ (.bool b) v') : v' = .bool b := by
  cases h with | c h => cases h with | s h => cases h; rfl
theorem RV.string {s : ByteArray} (h : RV ρ (.string s) v') : v' = .string s := by
  cases h with | c h => cases h with | s h => cases h; rfl
theorem RV.nilp (h : RV ρ (.pointer none) v') : v' = .pointer none := by
  cases h with | c h => cases h with | s h => cases h; rfl
theorem RV.agg {l : Array Value} (h : RV ρ (.agg l) v') : ∃ m : Array Value, v' = .agg m ∧ All2 (RS ρ) l.toList m.toList := by
  cases h with
  | c h => cases h with
    | s h => cases h with | plain h => cases h
    | agg h => exact ⟨_, rfl, by simpa using h⟩
theorem RV.ptr {b o : Nat} (h : RV ρ (.pointer (some ⟨b, o, none⟩)) v') : ∃ b' s n, ρ b = some (b', s, n) ∧ v' = .pointer (some ⟨b', s + o, none⟩) := by
  cases h with | c h => cases h with | s h => cases h with
    | plain h => cases h
    | ptr h => exact ⟨_, _, _, h, rfl⟩
theorem RV.tuple {l : Array Value} (h : RV ρ (.tuple l) v') : ∃ m : Array Value, v' = .tuple m ∧ All2 (RC ρ) l.toList m.toList := by
  cases h with
  | c h => cases h with
    | s h => cases h with | plain h => cases h
  | tup h => exact ⟨_, rfl, by simpa using h⟩
end

/-! ### tries -/
section
omit [Sym]
theorem pick_upd {β : Type} (i j : Nat) (h : β → β) (x : O8 β) (hi : i < 8) (hj : j < 8) : (pickC j).un ((updC i).un h x) = if i = j then h ((pickC j).un x) else (pickC j).un x := by
  have : i = 0 ∨ i = 1 ∨ i = 2 ∨ i = 3 ∨ i = 4 ∨ i = 5 ∨ i = 6 ∨ i = 7 := by omega
  have : j = 0 ∨ j = 1 ∨ j = 2 ∨ j = 3 ∨ j = 4 ∨ j = 5 ∨ j = 6 ∨ j = 7 := by omega
  rcases ‹i = 0 ∨ _› with rfl | rfl | rfl | rfl | rfl | rfl | rfl | rfl <;> rcases ‹j = 0 ∨ _› with rfl | rfl | rfl | rfl | rfl | rfl | rfl | rfl <;> rfl
theorem getC_succ {α : Type} (n k : Nat) (x : Td α (n + 1)) : (getC (n + 1) k).un x = (getC n (k / 8)).un ((pickC (β := Td α n) (k % 8)).un x) := rfl
theorem putC_succ {α : Type} (n k : Nat) (v : Option α) (x : Td α (n + 1)) : (putC (n + 1) k).un v x = (updC (β := Td α n) (k % 8)).un ((putC n (k / 8)).un v) x := rfl
theorem get_putC {α : Type} {v : Option α} : ∀ (n k j : Nat) (x : Td α n), k < 8 ^ n → j < 8 ^ n → (getC n j).un ((putC n k).un v x) = if k = j then v else (getC n j).un x
  | 0, k, j, x, hk, hj => by
    have h1 : k = 0 := by simpa using hk
    have h2 : j = 0 := by simpa using hj
    subst h1; subst h2; rfl
  | n + 1, k, j, x, hk, hj => by
    rw [Nat.pow_succ] at hk hj
    rw [getC_succ, putC_succ, pick_upd _ _ _ _ (Nat.mod_lt _ (by decide)) (Nat.mod_lt _ (by decide)), getC_succ]
    by_cases h : k % 8 = j % 8
    · rw [if_pos h, get_putC n _ _ _ (by omega) (by omega)]
      by_cases h2 : k = j
      · subst h2; rw [if_pos rfl, if_pos rfl]
      · rw [if_neg h2, if_neg (by omega)]
    · rw [if_neg h, if_neg (fun e => h (by rw [e]))]
theorem pick_emp {β : Type} (i : Nat) (e : β) : (pickC i).un (⟨e, e, e, e, e, e, e, e⟩ : O8 β) = e := by
  have key : ∀ b : Bool, ∀ (x y : Bx (O8 β → β)), x.un ⟨e, e, e, e, e, e, e, e⟩ = e → y.un ⟨e, e, e, e, e, e, e, e⟩ = e → (bif b then x else y).un ⟨e, e, e, e, e, e, e, e⟩ = e := by
    intro b x y h1 h2; cases b <;> assumption
  unfold pickC
  exact key _ _ _ rfl (key _ _ _ rfl (key _ _ _ rfl (key _ _ _ rfl (key _ _ _ rfl (key _ _ _ rfl (key _ _ _ rfl rfl))))))
theorem get_empC {α : Type} : ∀ (n k : Nat), (getC n k).un (empT α n) = none
  | 0, _ => rfl
  | n + 1, k => by
    rw [getC_succ]
    show (getC n (k / 8)).un ((pickC (β := Td α n) (k % 8)).un ⟨empT α n, empT α n, empT α n, empT α n, empT α n, empT α n, empT α n, empT α n⟩) = none
    rw [pick_emp, get_empC n]
theorem Tr.get_e {α : Type} (k : Nat) : (Tr.e : Tr α).get k = none := by
  unfold Tr.get trG
  cases Nat.blt k 512
  · cases Nat.blt k 2097152
    · rfl
    · exact get_empC 7 k
  · exact get_empC 3 k
theorem Tr.get_lo {α : Type} (T : Tr α) (k : Nat) (h : k < 512) : T.get k = (getC 3 k).un T.1 := by
  have hb : Nat.blt k 512 = true := by simpa using h
  unfold Tr.get trG
  rw [hb]; rfl
theorem Tr.get_hi {α : Type} (T : Tr α) (k : Nat) (h : ¬ k < 512) (h2 : k < 2097152) : T.get k = (getC 7 k).un T.2 := by
  have hb : Nat.blt k 512 = false := by
    cases hq : Nat.blt k 512 with
    | false => rfl
    | true => exact absurd (by simpa using hq) h
  have hc : Nat.blt k 2097152 = true := by simpa using h2
  unfold Tr.get trG
  rw [hb, hc]; rfl
theorem Tr.get_far {α : Type} (T : Tr α) (k : Nat) (h2 : ¬ k < 2097152) : T.get k = none := by
  have hb : Nat.blt k 512 = false := by
    cases hq : Nat.blt k 512 with
    | false => rfl
    | true => have : k < 512 := by simpa using hq
              omega
  have hc : Nat.blt k 2097152 = false := by
    cases hq : Nat.blt k 2097152 with
    | false => rfl
    | true => exact absurd (by simpa using hq) h2
  unfold Tr.get trG
  rw [hb, hc]; rfl
theorem Tr.put_lo {α : Type} {x : Option α} (f : Nat) (T : Tr α) (k : Nat) (h : k < 512) : T.put x f k = ⟨(putC 3 k).un x T.1, T.2⟩ := by
  have hb : Nat.blt k 512 = true := by simpa using h
  unfold Tr.put trP
  rw [hb]; rfl
theorem Tr.put_hi {α : Type} {x : Option α} (f : Nat) (T : Tr α) (k : Nat) (h : ¬ k < 512) : T.put x f k = ⟨T.1, (putC 7 k).un x T.2⟩ := by
  have hb : Nat.blt k 512 = false := by
    cases hq : Nat.blt k 512 with
    | false => rfl
    | true => exact absurd (by simpa using hq) h
  unfold Tr.put trP
  rw [hb]; rfl
theorem Tr.get_put {α : Type} {x : Option α} (f : Nat) (t : Tr α) (k j : Nat) (h : k + 1 < 2 ^ 20) : (Tr.put x f t k).get j = if k = j then x else t.get j := by
  have e7 : (8:Nat) ^ 7 = 2097152 := by decide
  have e3 : (8:Nat) ^ 3 = 512 := by decide
  by_cases hf : j < 2097152
  · by_cases hk : k < 512
    · rw [Tr.put_lo f t k hk]
      by_cases hj2 : j < 512
      · rw [Tr.get_lo _ j hj2, Tr.get_lo _ j hj2]
        exact get_putC 3 k j _ (by omega) (by omega)
      · rw [Tr.get_hi _ j hj2 hf, Tr.get_hi _ j hj2 hf, if_neg (by omega)]
    · rw [Tr.put_hi f t k hk]
      by_cases hj2 : j < 512
      · rw [Tr.get_lo _ j hj2, Tr.get_lo _ j hj2, if_neg (by omega)]
      · rw [Tr.get_hi _ j hj2 hf, Tr.get_hi _ j hj2 hf]
        exact get_putC 7 k j _ (by omega) (by omega)
  · rw [Tr.get_far _ j hf, Tr.get_far _ j hf, if_neg (by omega)]
end
end Go.Ev
