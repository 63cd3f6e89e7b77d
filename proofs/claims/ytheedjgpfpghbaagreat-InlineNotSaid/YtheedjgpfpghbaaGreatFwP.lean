/- A small logic of walks: sets and work of whole numbers or texts. -/
import Derived.Test.YtheedjgpfpghbaaGreatFwO
import Derived.Laws.IdiomCopy
import Derived.Sort.Grow
import Derived.Sort.LotA
import Derived.Sort.Walk0
import Derived.Deep.Draws
set_option linter.unusedVariables false
set_option linter.unusedSimpArgs false
set_option linter.unusedSectionVars false
namespace Go.Fw
open Go

/-- what is one cell, and may be a key; in order -/
class Scal (α : Type) where
  enc : α → Value
  dk : TypeDesc
  key : ∀ x, MapKept.IsKey dk (enc x)
  same : ∀ [DecidableEq α] (x y : α), Instr.sameNow dk (enc x) (enc y) = some (decide (x = y))
  one : ∀ x, (enc x).oneCell' = true
  lt : α → α → Bool
  irr : ∀ x, lt x x = false
  tra : ∀ x y z, lt x y = true → lt y z = true → lt x z = true
  tot : ∀ x y, lt x y = false → lt y x = false → x = y

instance scalInt : Scal Int where
  enc x := .int .i64 x
  dk := .int .i64
  key _ := rfl
  same x y := by simp only [Instr.sameNow, if_true]; congr 1; by_cases h : x = y <;> simp [h]
  one _ := rfl
  lt x y := decide (x < y)
  irr x := by simp
  tra x y z h1 h2 := by simp at *; omega
  tot x y h1 h2 := by simp at *; omega

theorem bytes_eq {a b : ByteArray} (h : a.toList = b.toList) : a = b := by
  rw [ByteArray.toList_eq, ByteArray.toList_eq] at h
  exact ByteArray.ext (Array.toList_inj.1 h)

theorem bytes_beq (x y : ByteArray) : (x == y) = true ↔ x = y := by
  show (x.data == y.data) = true ↔ _
  rw [beq_iff_eq]; exact ⟨fun h => ByteArray.ext h, fun h => h ▸ rfl⟩
instance : LawfulBEq ByteArray where
  rfl {x} := (bytes_beq x x).2 rfl
  eq_of_beq {x y} h := (bytes_beq x y).1 h

instance scalStr : Scal ByteArray where
  enc x := .string x
  dk := .string
  key _ := trivial
  same x y := by
    simp only [Instr.sameNow]
    congr 1
    have key : (x == y) = true ↔ x = y := by
      show (x.data == y.data) = true ↔ _
      rw [beq_iff_eq]; exact ⟨fun h => ByteArray.ext h, fun h => h ▸ rfl⟩
    by_cases h : x = y
    · rw [key.2 h]; simp [h]
    · cases hb : (x == y) with
      | true => exact absurd (key.1 hb) h
      | false => simp [h]
  one _ := rfl
  lt x y := Op.bytesLess x.toList y.toList
  irr x := by rw [Go.Proofs.bytesLess_eq]; simp [List.lt_irrefl]
  tra x y z h1 h2 := by rw [Go.Proofs.bytesLess_eq] at *; simp only [decide_eq_true_eq] at *; exact List.lt_trans h1 h2
  tot x y h1 h2 := by
    rw [Go.Proofs.bytesLess_eq] at *
    simp only [decide_eq_false_iff_not, List.not_lt] at *
    exact bytes_eq (List.le_antisymm h2 h1)

section
variable {α : Type} [Scal α] [DecidableEq α]

/-- a set's entries -/
def entsFrom : Nat → List α → List MapEntry
  | _, [] => []
  | i, x :: r => ⟨Scal.enc x, .bool true, i⟩ :: entsFrom (i + 1) r

theorem ents_len : ∀ (s : List α) (i : Nat), (entsFrom i s).length = s.length := by
  intro s
  induction s with
  | nil => intro i; rfl
  | cons x r ih => intro i; simp [entsFrom, ih]

theorem ents_push : ∀ (s : List α) (x : α) (i : Nat), entsFrom i s ++ [⟨Scal.enc x, .bool true, i + s.length⟩] = entsFrom i (s ++ [x]) := by
  intro s
  induction s with
  | nil => intro x i; simp [entsFrom]
  | cons y r ih => intro x i; simp only [entsFrom, List.cons_append, List.length_cons]; rw [← ih]; simp; omega

theorem ents_find : ∀ (s : List α) (x : α) (i off : Nat), (x ∈ s → ∃ j, Instr.findNow (Scal.dk α) (Scal.enc x) (entsFrom i s) off = some (some (j, .bool true))) ∧ (x ∉ s → Instr.findNow (Scal.dk α) (Scal.enc x) (entsFrom i s) off = some none) := by
  intro s
  induction s with
  | nil => intro x i off; exact ⟨fun h => absurd h (by simp), fun _ => rfl⟩
  | cons y r ih =>
    intro x i off
    simp only [entsFrom, Instr.findNow, Scal.same]
    by_cases e : x = y
    · subst e; simp
    · have := ih x (i + 1) (off + 1)
      simp only [e, decide_false, List.mem_cons, false_or]
      exact this

theorem ents_mem : ∀ (s : List α) (i : Nat) (e : MapEntry), e ∈ entsFrom i s → ∃ j, i ≤ e.born ∧ e.born = i + j ∧ ∃ x, s[j]? = some x ∧ e.key = Scal.enc x ∧ e.val = .bool true := by
  intro s
  induction s with
  | nil => intro i e h; cases h
  | cons y r ih =>
    intro i e h
    rcases List.mem_cons.1 h with rfl | h
    · exact ⟨0, Nat.le_refl _, rfl, y, rfl, rfl, rfl⟩
    · obtain ⟨j, h1, h2, x, h3, h4, h5⟩ := ih (i + 1) e h
      exact ⟨j + 1, by omega, by omega, x, by simpa using h3, h4, h5⟩

theorem ents_at : ∀ (s : List α) (i j : Nat) (x : α), s[j]? = some x → (⟨Scal.enc x, .bool true, i + j⟩ : MapEntry) ∈ entsFrom i s := by
  intro s
  induction s with
  | nil => intro i j x h; simp at h
  | cons y r ih =>
    intro i j x h
    cases j with
    | zero => simp at h; subst h; exact List.mem_cons_self ..
    | succ j =>
      have := ih (i + 1) j x (by simpa using h)
      rw [show i + 1 + j = i + (j + 1) by omega] at this
      exact List.mem_cons_of_mem _ this

/-- what lies behind a set's pointer -/
def SetO (tS : TypeId) (K : KM) (b : Nat) (s : List α) (C : Chunks) : Prop :=
  s.Nodup ∧ s.length ≤ maxLen ∧ ∃ r, C = flat [[(b, Cl [.map (some r)] tS)], [(r, .map (entsFrom 0 s).toArray s.length)]]

theorem SetO.mono {tS : TypeId} {K K' : KM} {b : Nat} {s : List α} {C : Chunks} (h : SetO tS K b s C) (_ : KM.le K K') : SetO tS K' b s C := h

/-- a row that may begin within its block -/
def TodoR (e : TypeId) (v : Value) (xs : List α) (C : Chunks) : Prop :=
  ∃ a c, v = .slice a xs.length c ∧ xs.length ≤ c ∧ c ≤ maxLen ∧ ((a = none ∧ c = 0 ∧ C = []) ∨
    ∃ b pre post, a = some ⟨b, pre.length, none⟩ ∧ C = [(b, Cl (pre ++ (xs.map Scal.enc ++ post)) e)] ∧ c ≤ xs.length + post.length ∧ (pre ++ (xs.map Scal.enc ++ post)) ≠ [])

theorem TodoR.nil {e : TypeId} : TodoR (α := α) e (.slice none 0 0) [] [] := ⟨none, 0, rfl, Nat.le_refl _, Nat.zero_le _, .inl ⟨rfl, rfl, rfl⟩⟩

/-- work: what is to be done, rising; all that was ever put -/
structure WorkV (α : Type) where
  todo : List α
  ever : List α

def rising (l : List α) : Prop := l.Pairwise (fun x y => Scal.lt x y = true)

def WorkO (tW tS e : TypeId) (K : KM) (b : Nat) (x : WorkV α) (C : Chunks) : Prop :=
  rising x.todo ∧ ∃ a c be Ct Cs, TodoR e (.slice a x.todo.length c) x.todo Ct ∧ SetO tS K be x.ever Cs ∧ C = flat [[(b, Cl [.slice a x.todo.length c, .pointer (some ⟨be, 0, none⟩)] tW)], Ct, Cs]

theorem WorkO.mono {tW tS e : TypeId} {K K' : KM} {b : Nat} {x : WorkV α} {C : Chunks} (h : WorkO tW tS e K b x C) (_ : KM.le K K') : WorkO tW tS e K' b x C := h

end

/-! ### worlds -/
section
variable {w : World} {K : KM} {L : Chunks}

theorem Sat.setCells {t : TypeId} {b : Nat} : ∀ (vs : List Value) (o : Nat) (cs : List Value) (w : World), Sat w K ((b, Cl cs t) :: L) → o + vs.length ≤ cs.length → Sat (w.setCells b o vs) K ((b, Cl (cs.take o ++ (vs ++ cs.drop (o + vs.length))) t) :: L) := by
  intro vs
  induction vs with
  | nil => intro o cs w h _; simpa [World.setCells] using h
  | cons v r ih =>
    intro o cs w h hle
    simp only [List.length_cons] at hle
    have h1 := Sat.setCell (off := o) h v
    rw [show (cs.toArray.setIfInBounds o v) = (cs.set o v).toArray by simp] at h1
    have h2 := ih (o + 1) (cs.set o v) _ h1 (by simp; omega)
    have e : (cs.set o v).take (o + 1) ++ (r ++ (cs.set o v).drop (o + 1 + r.length)) = cs.take o ++ (v :: r ++ cs.drop (o + (v :: r).length)) := by
      rw [List.set_eq_take_append_cons_drop, if_pos (by omega)]
      have hl : (cs.take o).length = o := by simp; omega
      rw [List.take_append, List.drop_append, hl, show o + 1 - o = 1 by omega, show o + 1 + r.length - o = r.length + 1 by omega]
      rw [List.take_of_length_le (by omega), List.drop_of_length_le (show (cs.take o).length ≤ o + 1 + r.length by omega)]
      simp only [List.take_succ_cons, List.take_zero, List.drop_succ_cons, List.nil_append, List.drop_drop, List.length_cons, List.append_assoc, List.cons_append]
      congr 4
      omega
    rw [e] at h2
    exact h2

theorem Sat.grow (os : Array Obj) (h : Sat w K L) : Sat (Go.Sort.grow w os) K L := by
  have hold : ∀ b x, w.heap[b]? = some x → (Go.Sort.grow w os).heap[b]? = some x := fun b x hb => by
    have hlt := (Array.getElem?_eq_some_iff.1 hb).1
    show (w.heap ++ os)[b]? = _
    rw [Array.getElem?_append_left hlt]; exact hb
  exact ⟨fun b x hb => hold b x (h.kept b x hb), fun p hp => hold _ _ (h.owned p hp), h.apart, h.nodup, h.os, h.tape, h.output⟩

theorem Sat.ahead (n : Nat) (h : Sat w K L) : Sat (Go.Sort.ahead w n) K L := ⟨h.kept, h.owned, h.apart, h.nodup, h.os, h.tape, h.output⟩
theorem Sat.drewN (n : Nat) (h : Sat w K L) : Sat (w.drewN n) K L := ⟨h.kept, h.owned, h.apart, h.nodup, h.os, h.tape, h.output⟩
theorem Sat.drew' (h : Sat w K L) : Sat w.drew K L := ⟨h.kept, h.owned, h.apart, h.nodup, h.os, h.tape, h.output⟩

theorem putCells_eq {α : Type} [Inhabited α] (enc : α → Value) (pre post : List Value) (xs : List α) (d : Array α) (hd : d.size = xs.length) :
    Go.Sort.putCells enc pre.length d (pre ++ (xs.map enc ++ post)).toArray = (pre ++ (d.toList.map enc ++ post)).toArray := by
  apply Array.ext'
  apply List.ext_getElem?
  intro i
  unfold Go.Sort.putCells
  simp only [Array.toList_mapIdx, List.getElem?_mapIdx]
  rcases Nat.lt_or_ge i pre.length with h1 | h1
  · rw [List.getElem?_append_left h1, List.getElem?_append_left h1]
    have : ¬ (pre.length ≤ i ∧ i < pre.length + d.size) := by omega
    simp only [this, if_false]
    cases pre[i]? <;> rfl
  · rw [List.getElem?_append_right h1, List.getElem?_append_right h1]
    rcases Nat.lt_or_ge (i - pre.length) xs.length with h2 | h2
    · rw [List.getElem?_append_left (by simpa using h2), List.getElem?_append_left (by simp; omega)]
      have : pre.length ≤ i ∧ i < pre.length + d.size := by omega
      simp only [this, and_self, if_true, List.getElem?_map, List.getElem?_eq_getElem h2, Option.map_some]
      have h3 : i - pre.length < d.size := by omega
      simp [h3]
    · rw [List.getElem?_append_right (by simpa using h2), List.getElem?_append_right (by simp; omega)]
      have : ¬ (pre.length ≤ i ∧ i < pre.length + d.size) := by omega
      simp only [this, if_false, List.length_map, Array.length_toList]; rw [← hd]
      cases post[i - pre.length - d.size]? <;> rfl

theorem Sat.putRow {α : Type} [Inhabited α] (enc : α → Value) {b : Nat} {t : TypeId} {pre post : List Value} {xs : List α} {d : Array α} (hd : d.size = xs.length) (h : Sat w K ((b, Cl (pre ++ (xs.map enc ++ post)) t) :: L)) :
    Sat (Go.Sort.putRow enc w b pre.length d) K ((b, Cl (pre ++ (d.toList.map enc ++ post)) t) :: L) := by
  have ho := h.owned _ (List.mem_cons_self ..)
  refine h.turn (fun k hk => ?_) ?_ rfl rfl rfl
  · unfold Go.Sort.putRow Go.Sort.mapBlock
    simp only [Array.getElem?_modify]; rw [if_neg (by omega)]
  · unfold Go.Sort.putRow Go.Sort.mapBlock
    simp only [Array.getElem?_modify, if_true]
    rw [show w.heap[b]? = some (Cl (pre ++ (xs.map enc ++ post)) t) from ho]
    simp only [Option.map_some, Go.Sort.onCells]
    rw [putCells_eq enc pre post xs d hd]

end
end Go.Fw
