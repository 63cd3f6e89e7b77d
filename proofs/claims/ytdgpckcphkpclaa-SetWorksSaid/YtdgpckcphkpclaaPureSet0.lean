/- Rows that rise, rows as sets: what the proofs on sets lean on. -/
import Derived.Test.YtdgpckcphkpclaaFwQ
import Derived.Test.YtdgpckcphkpclaaPureBase
set_option linter.unusedVariables false
set_option linter.unusedSimpArgs false
set_option linter.unusedSectionVars false
namespace Go.Fw
open Go
section
variable {α : Type}

theorem nodup_len : ∀ (s l : List α), s.Nodup → (∀ y ∈ s, y ∈ l) → s.length ≤ l.length
  | [], l, _, _ => Nat.zero_le _
  | x :: s, l, hd, h => by
    obtain ⟨a, b, rfl⟩ := List.append_of_mem (h x (List.mem_cons_self ..))
    have hd' := List.nodup_cons.1 hd
    have := nodup_len s (a ++ b) hd'.2 (fun y hy => by
      have h1 := h y (List.mem_cons_of_mem _ hy)
      have hne : y ≠ x := fun e => hd'.1 (e ▸ hy)
      simp only [List.mem_append, List.mem_cons] at h1 ⊢
      rcases h1 with h1 | h1 | h1
      · exact .inl h1
      · exact absurd h1 hne
      · exact .inr h1)
    simp only [List.length_append, List.length_cons] at this ⊢; omega

/-- has what a row has, each once -/
def IsSet (s l : List α) : Prop := s.Nodup ∧ ∀ y, y ∈ s ↔ y ∈ l
theorem IsSet.len {s l : List α} (h : IsSet s l) : s.length ≤ l.length := nodup_len s l h.1 (fun y hy => (h.2 y).1 hy)
theorem IsSet.nil : IsSet ([] : List α) [] := ⟨List.nodup_nil, fun _ => Iff.rfl⟩
theorem IsSet.congr {s l m : List α} (h : IsSet s l) (e : ∀ y, y ∈ l ↔ y ∈ m) : IsSet s m := ⟨h.1, fun y => (h.2 y).trans (e y)⟩
theorem IsSet.again {s l : List α} {x : α} (h : IsSet s l) (hx : x ∈ l) : IsSet s (x :: l) := h.congr fun y => by
  constructor
  · exact fun h => List.mem_cons_of_mem _ h
  · intro h; rcases List.mem_cons.1 h with rfl | h
    · exact hx
    · exact h
theorem IsSet.add {s l : List α} {x : α} (h : IsSet s l) (hx : x ∉ l) : IsSet (s ++ [x]) (x :: l) := by
  refine ⟨List.nodup_append.2 ⟨h.1, by simp, fun a ha b hb => ?_⟩, fun y => ?_⟩
  · rw [List.mem_singleton] at hb; subst hb; intro e; subst e; exact hx ((h.2 _).1 ha)
  · rw [List.mem_append, List.mem_singleton, List.mem_cons, h.2 y]; exact Or.comm

theorem take_step {l : List α} {i : Nat} (h : i < l.length) (y : α) : y ∈ l[i] :: l.take i ↔ y ∈ l.take (i + 1) := by
  rw [List.take_succ_eq_append_getElem h, List.mem_append, List.mem_singleton, List.mem_cons]; exact Or.comm
end
section
variable {α : Type} [Scal α] [DecidableEq α]

theorem lt_asym {x y : α} (h : Scal.lt x y = true) : Scal.lt y x = false := by
  cases h2 : Scal.lt y x with
  | false => rfl
  | true => have := Scal.tra x y x h h2; rw [Scal.irr] at this; cases this
theorem lt_ne {x y : α} (h : Scal.lt x y = true) : x ≠ y := fun e => by subst e; rw [Scal.irr] at h; cases h
theorem lt_or {x y : α} (h : Scal.lt x y = false) (hne : x ≠ y) : Scal.lt y x = true := by
  cases h2 : Scal.lt y x with
  | true => rfl
  | false => exact absurd (Scal.tot x y h h2) hne
theorem rising_nodup {l : List α} (h : rising l) : l.Nodup := List.Pairwise.imp (fun {x y} h => lt_ne h) h
theorem rising_eq {s t : List α} (hs : rising s) (ht : rising t) (h : ∀ y, y ∈ s ↔ y ∈ t) : s = t := by
  refine List.Perm.eq_of_pairwise (le := fun x y : α => Scal.lt y x = false) (fun a b _ _ h1 h2 => Scal.tot a b h2 h1) (List.Pairwise.imp (fun {x y} h => lt_asym h) hs) (List.Pairwise.imp (fun {x y} h => lt_asym h) ht) ?_
  exact (List.perm_ext_iff_of_nodup (rising_nodup hs) (rising_nodup ht)).2 h
theorem srt_mem {s : List α} (y : α) : y ∈ srt s ↔ y ∈ s := (srt_perm s).mem_iff
theorem srt_len (s : List α) : (srt s).length = s.length := (srt_perm s).length_eq
theorem srt_of {s t : List α} (hs : s.Nodup) (ht : rising t) (h : ∀ y, y ∈ s ↔ y ∈ t) : srt s = t := rising_eq (srt_rising hs) ht fun y => (srt_mem y).trans (h y)

theorem rising_at {l : List α} (h : rising l) {i j : Nat} (hij : i < j) {x y : α} (hx : l[i]? = some x) (hy : l[j]? = some y) : Scal.lt x y = true := by
  obtain ⟨h1, rfl⟩ := List.getElem?_eq_some_iff.1 hx
  obtain ⟨h2, rfl⟩ := List.getElem?_eq_some_iff.1 hy
  exact List.pairwise_iff_getElem.1 h i j h1 h2 hij

/-- work, told by the rows of all that was put and of all that is to be done -/
def IsWork (w : WorkV α) (e t : List α) : Prop := rising w.todo ∧ (∀ y, y ∈ w.todo ↔ y ∈ t) ∧ IsSet w.ever e
theorem IsWork.len {w : WorkV α} {e t : List α} (h : IsWork w e t) : w.todo.length ≤ t.length := nodup_len _ _ (rising_nodup h.1) fun y hy => (h.2.1 y).1 hy
theorem IsWork.congr {w : WorkV α} {e t e' t' : List α} (h : IsWork w e t) (he : ∀ y, y ∈ e ↔ y ∈ e') (ht : ∀ y, y ∈ t ↔ y ∈ t') : IsWork w e' t' := ⟨h.1, fun y => (h.2.1 y).trans (ht y), h.2.2.congr he⟩

/-- a row that rises, and one more in its place -/
theorem rising_mid {a b : List α} {x : α} (h : rising (a ++ b)) (ha : ∀ y ∈ a, Scal.lt y x = true) (hb : ∀ y ∈ b, Scal.lt x y = true) : rising (a ++ x :: b) := by
  have h' := List.pairwise_append.1 h
  refine List.pairwise_append.2 ⟨h'.1, List.pairwise_cons.2 ⟨hb, h'.2.1⟩, fun p hp q hq => ?_⟩
  rcases List.mem_cons.1 hq with rfl | hq
  · exact ha p hp
  · exact h'.2.2 p hp q hq
end

theorem bytes_cmp (x y : ByteArray) : (x.toList == y.toList) = decide (x = y) := by
  cases h : (x.toList == y.toList) with
  | true => rw [beq_iff_eq] at h; rw [decide_eq_true (bytes_eq h)]
  | false => 
    have : x ≠ y := fun e => by subst e; simp at h
    rw [decide_eq_false this]
end Go.Fw
