/- Words for what is reckoned: a computation that comes to something of a kind. -/
import Derived.Test.YtdgpckcphkpclaaFwL
set_option linter.unusedVariables false
namespace Go.Fw
open Go

/-- it comes to something, and that is so -/
def Ok {α : Type} (P : α → Prop) (x : Option α) : Prop := ∃ v, x = some v ∧ P v

theorem Ok.some {α : Type} {P : α → Prop} {v : α} (h : P v) : Ok P (some v) := ⟨v, rfl, h⟩
theorem Ok.mono {α : Type} {P Q : α → Prop} {x : Option α} (h : Ok P x) (hq : ∀ v, P v → Q v) : Ok Q x := by
  obtain ⟨v, h1, h2⟩ := h; exact ⟨v, h1, hq v h2⟩
theorem Ok.bind {α β : Type} {P : α → Prop} {Q : β → Prop} {x : Option α} {f : α → Option β} (h : Ok P x) (hf : ∀ v, P v → Ok Q (f v)) : Ok Q (x.bind f) := by
  obtain ⟨v, rfl, hv⟩ := h; exact hf v hv
theorem Ok.bif {α : Type} {P : α → Prop} {b : Bool} {x y : Option α} (h1 : b = true → Ok P x) (h2 : b = false → Ok P y) : Ok P (bif b then x else y) := by
  cases b
  · exact h2 rfl
  · exact h1 rfl
theorem Ok.guard {α : Type} {P : α → Prop} {b : Bool} {x : Option α} (hb : b = true) (h : Ok P x) : Ok P (guardB b x) := by
  subst hb; exact h

/-- a loop's end, or the function's -/
def LRp {σ ρ : Type} (S : σ → Prop) (R : ρ → Prop) : LR σ ρ → Prop
  | .brk s => S s
  | .ret r => R r

theorem Ok.lthen {σ ρ : Type} {S : σ → Prop} {P : ρ → Prop} {x : Option (LR σ ρ)} {f : σ → Option ρ} (h : Ok (LRp S P) x) (hf : ∀ s, S s → Ok P (f s)) : Ok P (LR.then x f) := by
  obtain ⟨v, rfl, hv⟩ := h
  cases v with
  | brk s => exact hf s hv
  | ret r => exact ⟨r, rfl, hv⟩
theorem Ok.lesc {σ ρ : Type} {S : σ → Prop} {P : ρ → Prop} {x : Option ρ} (h : Ok P x) : Ok (LRp S P) (LR.esc x) := by
  obtain ⟨v, rfl, hv⟩ := h; exact ⟨.ret v, rfl, hv⟩

/-- as the library's, but no laws that hold by reckoning: the kernel needn't reckon -/
theorem obs {α β : Type} (x : α) (f : α → Option β) : (some x).bind f = f x := by simp
theorem ctr {α : Sort _} (x y : α) : (bif true then x else y) = x := by simp
theorem cfl {α : Sort _} (x y : α) : (bif false then x else y) = y := by simp

theorem idx_of {α : Type} {l : List α} {i : Int} (h0 : 0 ≤ i) (h1 : i < l.length) : Ok (fun x => l[i.toNat]? = .some x ∧ x ∈ l) (idx l i) := by
  have hlt : i.toNat < l.length := by omega
  refine ⟨l[i.toNat], ?_, List.getElem?_eq_getElem hlt, List.getElem_mem hlt⟩
  unfold idx
  rw [if_pos h0, List.getElem?_eq_getElem hlt]

theorem idx_nat {α : Type} (l : List α) (i : Nat) : idx l (i : Int) = l[i]? := by
  unfold idx; rw [if_pos (Int.natCast_nonneg i)]; rfl

theorem w64_eq {x : Int} (h1 : -9223372036854775808 ≤ x) (h2 : x ≤ 9223372036854775807) : w64 x = x := by
  unfold w64 IntKind.wrap
  simp only [IntKind.bits, IntKind.signed]
  have e1 : (2 : Int) ^ 64 = 18446744073709551616 := by decide
  have e2 : (2 : Int) ^ (64 - 1) = 9223372036854775808 := by decide
  simp only [e1, e2]
  split
  · rename_i h; simp only [Bool.and_eq_true, decide_eq_true_eq, ge_iff_le] at h; omega
  · rename_i h; simp only [Bool.and_eq_true, decide_eq_true_eq, ge_iff_le, not_and, true_implies] at h; omega

theorem roomy_of {n m b : Nat} (h : (n + m) * b ≤ 140737488355328) : roomy n m b = true := Nat.ble_eq_true_of_le h
theorem mayMake_of {n : Int} {b : Nat} (h0 : 0 ≤ n) (h : n * (b : Int) ≤ 281474976710656) : mayMake n b = true := by
  simp only [mayMake, Bool.and_eq_true, decide_eq_true_eq]; exact ⟨h0, h⟩

theorem u8_bounds {n : Int} (h : (Lit.int .u8 n).wf = true) : 0 ≤ n ∧ n ≤ 255 := by
  simp only [Lit.wf, Bool.and_eq_true, decide_eq_true_eq] at h
  exact ⟨Int.le_trans (by decide) h.1, Int.le_trans h.2 (by decide)⟩

theorem tmod_nn {a b : Int} (h : 0 ≤ a) (hb : 0 < b) : 0 ≤ Int.tmod a b ∧ Int.tmod a b < b := by
  rw [Int.tmod_eq_emod_of_nonneg h]
  exact ⟨Int.emod_nonneg _ (by omega), Int.emod_lt_of_pos _ hb⟩

end Go.Fw
