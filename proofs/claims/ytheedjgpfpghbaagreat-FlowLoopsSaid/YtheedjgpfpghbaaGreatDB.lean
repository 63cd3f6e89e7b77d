/- A deterministic evaluator: what its values mean. -/
import Derived.Test.YtheedjgpfpghbaaGreatDA
set_option linter.unusedVariables false
set_option linter.unusedSectionVars false
set_option linter.unusedSimpArgs false
namespace Go.Ev
open Go Go.Fw

inductive All2 {α β : Type} (R : α → β → Prop) : List α → List β → Prop
  | nil : All2 R [] []
  | cons {a : α} {b : β} {l : List α} {m : List β} (h : R a b) (t : All2 R l m) : All2 R (a :: l) (b :: m)

section
variable {α β : Type} {R S : α → β → Prop}
theorem All2.imp (h : ∀ a b, R a b → S a b) {l : List α} {m : List β} (hl : All2 R l m) : All2 S l m := by
  induction hl with
  | nil => exact .nil
  | cons h1 _ ih => exact .cons (h _ _ h1) ih
theorem All2.len {l : List α} {m : List β} (hl : All2 R l m) : l.length = m.length := by
  induction hl with
  | nil => rfl
  | cons _ _ ih => simp [ih]
theorem All2.append {l l' : List α} {m m' : List β} (h : All2 R l m) (h' : All2 R l' m') : All2 R (l ++ l') (m ++ m') := by
  induction h with
  | nil => exact h'
  | cons h1 _ ih => exact .cons h1 ih
theorem All2.take {l : List α} {m : List β} (h : All2 R l m) : ∀ n, All2 R (l.take n) (m.take n) := by
  induction h with
  | nil => intro n; simp; exact .nil
  | cons h1 _ ih => intro n; cases n with
    | zero => exact .nil
    | succ n => exact .cons h1 (ih n)
theorem All2.drop {l : List α} {m : List β} (h : All2 R l m) : ∀ n, All2 R (l.drop n) (m.drop n) := by
  induction h with
  | nil => intro n; simp; exact .nil
  | cons h1 h2 ih => intro n; cases n with
    | zero => exact .cons h1 h2
    | succ n => exact ih n
theorem All2.get {l : List α} {m : List β} (h : All2 R l m) : ∀ {n : Nat} {a : α}, l[n]? = some a → ∃ b, m[n]? = some b ∧ R a b := by
  induction h with
  | nil => intro n a h; simp at h
  | cons h1 _ ih => intro n a h; cases n with
    | zero => simp at h; subst h; exact ⟨_, rfl, h1⟩
    | succ n => exact ih (by simpa using h)
end

/-- where an abstract block lies: the block, how far in, how long it is -/
abbrev Rho := Nat → Option (Nat × Nat × Nat)
def Rho.le (ρ ρ' : Rho) : Prop := ∀ b r, ρ b = some r → ρ' b = some r

/-- what the numbers are that aren't known -/
class Sym extends SymT where
  get : Nat → Option (IntKind × Int)

variable [Sym]

/-- one cell, but a function -/
inductive RS0 (ρ : Rho) : Value → Value → Prop
  | plain {v : Value} (h : plainV v = true) : RS0 ρ v v
  | ptr {b o b' s n : Nat} (h : ρ b = some (b', s, n)) : RS0 ρ (.pointer (some ⟨b, o, none⟩)) (.pointer (some ⟨b', s + o, none⟩))
  | sl {b o n c b' s m : Nat} (h : ρ b = some (b', s, m)) (hc : Nat.ble unk c = false) (hn : n ≤ c) (hm : c ≤ maxLen) : RS0 ρ (.slice (some ⟨b, o, none⟩) n c) (.slice (some ⟨b', s + o, none⟩) n c)
  | slu {b o n z c' b' s m : Nat} (h : ρ b = some (b', s, m)) (ht : s + o + c' * z = m) (hn : n ≤ c') (hm : c' ≤ maxLen) : RS0 ρ (.slice (some ⟨b, o, none⟩) n (unk + z)) (.slice (some ⟨b', s + o, none⟩) n c')
  | slz {b o z b' o' : Nat} : RS0 ρ (.slice (some ⟨b, o, none⟩) 0 (unk + z)) (.slice (some ⟨b', o', none⟩) 0 0)
  | map {b b' m : Nat} (h : ρ b = some (b', 0, m)) : RS0 ρ (.map (some b)) (.map (some b'))
  | sym {i : Nat} {k : IntKind} {x : Int} (h : Sym.get i = some (k, x)) : RS0 ρ (.chan (some i)) (.int k x)

inductive RS (ρ : Rho) : Value → Value → Prop
  | plain {v : Value} (h : plainV v = true) : RS ρ v v
  | ptr {b o b' s n : Nat} (h : ρ b = some (b', s, n)) : RS ρ (.pointer (some ⟨b, o, none⟩)) (.pointer (some ⟨b', s + o, none⟩))
  | sl {b o n c b' s m : Nat} (h : ρ b = some (b', s, m)) (hc : Nat.ble unk c = false) (hn : n ≤ c) (hm : c ≤ maxLen) : RS ρ (.slice (some ⟨b, o, none⟩) n c) (.slice (some ⟨b', s + o, none⟩) n c)
  | slu {b o n z c' b' s m : Nat} (h : ρ b = some (b', s, m)) (ht : s + o + c' * z = m) (hn : n ≤ c') (hm : c' ≤ maxLen) : RS ρ (.slice (some ⟨b, o, none⟩) n (unk + z)) (.slice (some ⟨b', s + o, none⟩) n c')
  | slz {b o z b' o' : Nat} : RS ρ (.slice (some ⟨b, o, none⟩) 0 (unk + z)) (.slice (some ⟨b', o', none⟩) 0 0)
  | map {b b' m : Nat} (h : ρ b = some (b', 0, m)) : RS ρ (.map (some b)) (.map (some b'))
  | sym {i : Nat} {k : IntKind} {x : Int} (h : Sym.get i = some (k, x)) : RS ρ (.chan (some i)) (.int k x)
  | fn {f : Fn} {l m : List Value} (h : All2 (RS0 ρ) l m) : RS ρ (.func f #[] l.toArray) (.func f #[] m.toArray)

theorem RS0.up {ρ : Rho} {a b : Value} (h : RS0 ρ a b) : RS ρ a b := by
  cases h with
  | plain h => exact .plain h
  | ptr h => exact .ptr h
  | sl h hc hn hm => exact .sl h hc hn hm
  | slu h ht hn hm => exact .slu h ht hn hm
  | slz => exact .slz
  | map h => exact .map h
  | sym h => exact .sym h

theorem RS.down {ρ : Rho} {a b : Value} (h : RS ρ a b) (hs : scalarV a = true) : RS0 ρ a b := by
  cases h with
  | plain h => exact .plain h
  | ptr h => exact .ptr h
  | sl h hc hn hm => exact .sl h hc hn hm
  | slu h ht hn hm => exact .slu h ht hn hm
  | slz => exact .slz
  | map h => exact .map h
  | sym h => exact .sym h
  | fn h => cases hs

theorem RS0.mono {ρ ρ' : Rho} (hl : Rho.le ρ ρ') {a b : Value} (h : RS0 ρ a b) : RS0 ρ' a b := by
  cases h with
  | plain h => exact .plain h
  | ptr h => exact .ptr (hl _ _ h)
  | sl h hc hn hm => exact .sl (hl _ _ h) hc hn hm
  | slu h ht hn hm => exact .slu (hl _ _ h) ht hn hm
  | slz => exact .slz
  | map h => exact .map (hl _ _ h)
  | sym h => exact .sym h

theorem RS.mono {ρ ρ' : Rho} (hl : Rho.le ρ ρ') {a b : Value} (h : RS ρ a b) : RS ρ' a b := by
  cases h with
  | plain h => exact .plain h
  | ptr h => exact .ptr (hl _ _ h)
  | sl h hc hn hm => exact .sl (hl _ _ h) hc hn hm
  | slu h ht hn hm => exact .slu (hl _ _ h) ht hn hm
  | slz => exact .slz
  | map h => exact .map (hl _ _ h)
  | sym h => exact .sym h
  | fn h => exact .fn (h.imp fun _ _ h => h.mono hl)

/-- one cell, or a struct's, or a function's -/
inductive RC (ρ : Rho) : Value → Value → Prop
  | s {a b : Value} (h : RS ρ a b) : RC ρ a b
  | agg {l m : List Value} (h : All2 (RS ρ) l m) : RC ρ (.agg l.toArray) (.agg m.toArray)

inductive RV (ρ : Rho) : Value → Value → Prop
  | c {a b : Value} (h : RC ρ a b) : RV ρ a b
  | tup {l m : List Value} (h : All2 (RC ρ) l m) : RV ρ (.tuple l.toArray) (.tuple m.toArray)

/-- what they are told to become they become -/
structure SymOk : Prop where
  bin : ∀ (o : BinOp) i k b v, SymT.bin o i k b = some v → ∀ k0 x, Sym.get i = some (k0, x) → k0 = k ∧ ∃ u, intOp o k x b = some u ∧ ∀ ρ, RS ρ v u
  binl : ∀ (o : BinOp) i k b v, SymT.binl o k b i = some v → ∀ k0 x, Sym.get i = some (k0, x) → k0 = k ∧ ∃ u, intOp o k b x = some u ∧ ∀ ρ, RS ρ v u
  conv : ∀ i k v, SymT.conv i k = some v → ∀ k0 x, Sym.get i = some (k0, x) → ∀ ρ, RS ρ v (.int k (k.wrap x))

theorem RV.sym {ρ : Rho} {i : Nat} {u : Value} (h : RV ρ (.chan (some i)) u) : ∃ k x, Sym.get i = some (k, x) ∧ u = .int k x := by
  cases h with | c h => cases h with | s h => cases h with
    | plain h => cases h
    | sym h => exact ⟨_, _, h, rfl⟩

theorem RC.mono {ρ ρ' : Rho} (hl : Rho.le ρ ρ') {a b : Value} (h : RC ρ a b) : RC ρ' a b := by
  cases h with
  | s h => exact .s (h.mono hl)
  | agg h => exact .agg (h.imp fun _ _ h => h.mono hl)
theorem RV.mono {ρ ρ' : Rho} (hl : Rho.le ρ ρ') {a b : Value} (h : RV ρ a b) : RV ρ' a b := by
  cases h with
  | c h => exact .c (h.mono hl)
  | tup h => exact .tup (h.imp fun _ _ h => h.mono hl)

section
variable {ρ : Rho} {v' : Value}
theorem RV.int {k : IntKind} {n : Int} (h : RV ρ (.int k n) v') : v' = .int k n := by
  cases h with | c h => cases h with | s h => cases h; rfl
theorem RV.bool {b : Bool} (h : RV ρ (.bool b) v') : v' = .bool b := by
  cases h with | c h => cases h with | s h => cases h; rfl
theorem RV.string {s : ByteArray} (h : RV ρ (.string s) v') : v' = .string s := by
  cases h with | c h => cases h with | s h => cases h; rfl
theorem RV.nilp (h : RV ρ (.pointer none) v') : v' = .pointer none := by
  cases h with | c h => cases h with | s h => cases h; rfl
theorem RV.agg {l : Array Value} (h : RV ρ (.agg l) v') : ∃ m : Array Value, v' = .agg m ∧ All2 (RS ρ) l.toList m.toList := by
  cases h with
  | c h => cases h with
    | s h => cases h with | plain h => cases h
    | agg h => exact ⟨_, rfl, by simpa using h⟩
theorem RV.ptr {b o : Nat} (h : RV ρ (.pointer (some ⟨b, o, none⟩)) v') : ∃ b' s n, ρ b = some (b', s, n) ∧ v' = .pointer (some ⟨b', s + o, none⟩) := by
  cases h with | c h => cases h with | s h => cases h with
    | plain h => cases h
    | ptr h => exact ⟨_, _, _, h, rfl⟩
theorem RV.tuple {l : Array Value} (h : RV ρ (.tuple l) v') : ∃ m : Array Value, v' = .tuple m ∧ All2 (RC ρ) l.toList m.toList := by
  cases h with
  | c h => cases h with
    | s h => cases h with | plain h => cases h
  | tup h => exact ⟨_, rfl, by simpa using h⟩
end

/-! ### tries -/
section
omit [Sym]
theorem Tr.gp_e {α : Type} (p : Pos) : Tr.gp p (.e : Tr α) = none := by cases p <;> rfl
theorem Tr.get_e {α : Type} (k : Nat) : (Tr.e : Tr α).get k = none := Tr.gp_e _
theorem Tr.gp_pp {α : Type} {x : Option α} : ∀ (p q : Pos) (T : Tr α), Tr.gp q (Tr.pp x p T) = if p = q then x else Tr.gp q T
  | .z, q, T => by
    cases q with
    | z => cases T <;> rfl
    | a q => cases T with
      | e => show Tr.gp q (.e : Tr α) = _; rw [Tr.gp_e, Tr.gp_e]; simp
      | n l v r => show Tr.gp q l = if Pos.z = Pos.a q then x else Tr.gp q l; simp
    | b q => cases T with
      | e => show Tr.gp q (.e : Tr α) = _; rw [Tr.gp_e, Tr.gp_e]; simp
      | n l v r => show Tr.gp q r = if Pos.z = Pos.b q then x else Tr.gp q r; simp
  | .a p, q, T => by
    cases T with
    | e =>
      cases q with
      | z => rfl
      | a q =>
        have h := Tr.gp_pp (x := x) p q (.e : Tr α)
        show Tr.gp q (Tr.pp x p .e) = _
        rw [h, Tr.gp_e, Tr.gp_e]
        simp
      | b q => show Tr.gp q (.e : Tr α) = _; rw [Tr.gp_e, Tr.gp_e]; simp
    | n l v r =>
      cases q with
      | z => rfl
      | a q =>
        have h := Tr.gp_pp (x := x) p q l
        show Tr.gp q (Tr.pp x p l) = _
        rw [h]
        show _ = if Pos.a p = Pos.a q then x else Tr.gp q l
        simp
      | b q => show Tr.gp q r = if Pos.a p = Pos.b q then x else Tr.gp q r; simp
  | .b p, q, T => by
    cases T with
    | e =>
      cases q with
      | z => rfl
      | b q =>
        have h := Tr.gp_pp (x := x) p q (.e : Tr α)
        show Tr.gp q (Tr.pp x p .e) = _
        rw [h, Tr.gp_e, Tr.gp_e]
        simp
      | a q => show Tr.gp q (.e : Tr α) = _; rw [Tr.gp_e, Tr.gp_e]; simp
    | n l v r =>
      cases q with
      | z => rfl
      | b q =>
        have h := Tr.gp_pp (x := x) p q r
        show Tr.gp q (Tr.pp x p r) = _
        rw [h]
        show _ = if Pos.b p = Pos.b q then x else Tr.gp q r
        simp
      | a q => show Tr.gp q l = if Pos.b p = Pos.a q then x else Tr.gp q l; simp

theorem pthF_succ (f k : Nat) : pthF (f + 1) k = if k = 0 then .z else if k % 2 = 1 then .a (pthF f (k / 2)) else .b (pthF f (k / 2 - 1)) := by
  show (bif Nat.beq k 0 then Pos.z else bif Nat.beq (Nat.mod k 2) 1 then .a (pthF f (Nat.div k 2)) else .b (pthF f (Nat.sub (Nat.div k 2) 1))) = _
  have hm : Nat.mod k 2 = k % 2 := rfl
  have hd : Nat.div k 2 = k / 2 := rfl
  have hs : Nat.sub (k / 2) 1 = k / 2 - 1 := rfl
  rw [hm, hd, hs]
  cases hb : Nat.beq k 0 with
  | true => rw [if_pos (Nat.eq_of_beq_eq_true hb)]; rfl
  | false =>
    rw [if_neg (Nat.ne_of_beq_eq_false hb)]
    cases hc : Nat.beq (k % 2) 1 with
    | true => rw [if_pos (Nat.eq_of_beq_eq_true hc)]; rfl
    | false => rw [if_neg (Nat.ne_of_beq_eq_false hc)]; rfl

theorem pthF_inj : ∀ (f k j : Nat), k + 1 < 2 ^ f → (pthF f k = pthF f j ↔ k = j)
  | 0, k, j, h => by simp at h
  | f + 1, k, j, h => by
    rw [Nat.pow_succ] at h
    rw [pthF_succ, pthF_succ]
    by_cases h0 : k = 0
    · subst h0
      rw [if_pos rfl]
      by_cases hj : j = 0
      · subst hj; simp
      · rw [if_neg hj]
        split <;> simp [Ne.symm hj]
    · rw [if_neg h0]
      by_cases hj : j = 0
      · subst hj
        rw [if_pos rfl]
        split <;> simp [h0]
      · rw [if_neg hj]
        by_cases h1 : k % 2 = 1
        · rw [if_pos h1]
          by_cases h2 : j % 2 = 1
          · rw [if_pos h2, Pos.a.injEq, pthF_inj f _ _ (by omega)]
            omega
          · rw [if_neg h2]
            constructor
            · intro e; cases e
            · intro e; subst e; exact absurd h1 h2
        · rw [if_neg h1]
          by_cases h2 : j % 2 = 1
          · rw [if_pos h2]
            constructor
            · intro e; cases e
            · intro e; subst e; exact absurd h2 h1
          · rw [if_neg h2, Pos.b.injEq, pthF_inj f _ _ (by omega)]
            omega

theorem Tr.get_put {α : Type} {x : Option α} (f : Nat) (t : Tr α) (k j : Nat) (h : k + 1 < 2 ^ 20) : (Tr.put x f t k).get j = if k = j then x else t.get j := by
  unfold Tr.put Tr.get
  rw [Tr.gp_pp]
  have : pth k = pth j ↔ k = j := pthF_inj 20 k j h
  by_cases e : k = j
  · subst e; rw [if_pos rfl, if_pos rfl]
  · rw [if_neg e, if_neg (fun h => e (this.1 h))]
end
end Go.Ev
