/- A small logic of walks: data. -/
import Derived.Test.YtheedjgpfpghbaaGreatFwF
set_option linter.unusedVariables false
set_option linter.unusedSimpArgs false
set_option linter.unusedSectionVars false
namespace Go.Fw
open Go

/-- how a datum lies in cells -/
class GoData (e : TypeId) (α : Type) where
  size : Nat
  cells : KM → α → List Value → Prop
  len : ∀ {K x cs}, cells K x cs → cs.length = size
  mono : ∀ {K K' x cs}, KM.le K K' → cells K x cs → cells K' x cs
  one : ∀ {K x cs}, cells K x cs → cs.all (·.oneCell') = true

/-- a list of data, one behind the other -/
def Cat (e : TypeId) {α : Type} [GoData e α] (K : KM) : List α → List Value → Prop
  | [], l => l = []
  | x :: xs, l => ∃ a b, l = a ++ b ∧ GoData.cells e K x a ∧ Cat e K xs b

section
variable {e : TypeId} {α : Type} [GoData e α] {K K' : KM}

theorem Cat.len {xs : List α} {l : List Value} (h : Cat e K xs l) : l.length = xs.length * GoData.size e α := by
  induction xs generalizing l with
  | nil => simp [Cat] at h; simp [h]
  | cons x xs ih =>
    obtain ⟨a, b, rfl, h1, h2⟩ := h
    rw [List.length_append, GoData.len h1, ih h2, List.length_cons, Nat.add_mul]
    omega

theorem Cat.mono {xs : List α} {l : List Value} (h : Cat e K xs l) (hk : KM.le K K') : Cat e K' xs l := by
  induction xs generalizing l with
  | nil => exact h
  | cons x xs ih =>
    obtain ⟨a, b, rfl, h1, h2⟩ := h
    exact ⟨a, b, rfl, GoData.mono hk h1, ih h2⟩

theorem Cat.one {xs : List α} {l : List Value} (h : Cat e K xs l) : l.all (·.oneCell') = true := by
  induction xs generalizing l with
  | nil => simp [Cat] at h; simp [h]
  | cons x xs ih =>
    obtain ⟨a, b, rfl, h1, h2⟩ := h
    rw [List.all_append, GoData.one h1, ih h2]; rfl

theorem Cat.append {xs ys : List α} {l m : List Value} (h : Cat e K xs l) (h' : Cat e K ys m) : Cat e K (xs ++ ys) (l ++ m) := by
  induction xs generalizing l with
  | nil => simp [Cat] at h; simp [h]; exact h'
  | cons x xs ih =>
    obtain ⟨a, b, rfl, h1, h2⟩ := h
    exact ⟨a, b ++ m, by simp, h1, ih h2⟩

theorem Cat.single {x : α} {l : List Value} (h : GoData.cells e K x l) : Cat e K [x] l := ⟨l, [], by simp, h, rfl⟩

theorem Cat.nil : Cat (α := α) e K [] [] := rfl

/-- one of them -/
theorem Cat.at {xs : List α} {l : List Value} (h : Cat e K xs l) {i : Nat} {x : α} (hi : xs[i]? = some x) :
    ∃ l1 cs l2, l = l1 ++ (cs ++ l2) ∧ l1.length = i * GoData.size e α ∧ GoData.cells e K x cs ∧ Cat e K (xs.take i) l1 ∧ Cat e K (xs.drop (i + 1)) l2 := by
  induction xs generalizing l i with
  | nil => simp at hi
  | cons y xs ih =>
    obtain ⟨a, b, rfl, h1, h2⟩ := h
    cases i with
    | zero =>
      simp at hi; subst hi
      exact ⟨[], a, b, by simp, by simp, h1, rfl, h2⟩
    | succ i =>
      obtain ⟨l1, cs, l2, rfl, hl, hc, ht, hd⟩ := ih h2 (by simpa using hi)
      refine ⟨a ++ l1, cs, l2, by simp, ?_, hc, ⟨a, l1, rfl, h1, ht⟩, by simpa using hd⟩
      rw [List.length_append, GoData.len h1, hl, Nat.add_mul]; omega

theorem Cat.split {xs ys : List α} {l : List Value} (h : Cat e K (xs ++ ys) l) : ∃ l1 l2, l = l1 ++ l2 ∧ Cat e K xs l1 ∧ Cat e K ys l2 := by
  induction xs generalizing l with
  | nil => exact ⟨[], l, rfl, rfl, h⟩
  | cons x xs ih =>
    obtain ⟨a, b, rfl, h1, h2⟩ := h
    obtain ⟨l1, l2, rfl, h3, h4⟩ := ih h2
    exact ⟨a ++ l1, l2, by simp, ⟨a, l1, rfl, h1, h3⟩, h4⟩

/-- what stood at i is another one now -/
theorem Cat.put {xs : List α} {l1 cs' l2 : List Value} {i : Nat} {x x' : α} (hi : xs[i]? = some x) (h1 : Cat e K (xs.take i) l1) (h2 : Cat e K (xs.drop (i + 1)) l2) (hc : GoData.cells e K x' cs') :
    Cat e K (xs.set i x') (l1 ++ (cs' ++ l2)) := by
  have hlt : i < xs.length := (List.getElem?_eq_some_iff.1 hi).1
  rw [List.set_eq_take_append_cons_drop, if_pos hlt]
  exact h1.append ⟨cs', l2, rfl, hc, h2⟩

/-- a slice's elements, in what stays as it is -/
def SlK (e : TypeId) {α : Type} [GoData e α] (K : KM) (a : Option Addr) (cap : Nat) (xs : List α) : Prop :=
  xs.length ≤ cap ∧ (xs = [] ∨ ∃ b o l, a = some ⟨b, o, none⟩ ∧ Cat e K xs l ∧ KCells K b o l)

theorem SlK.mono {a : Option Addr} {cap : Nat} {xs : List α} (h : SlK e K a cap xs) (hk : KM.le K K') : SlK e K' a cap xs := by
  refine ⟨h.1, ?_⟩
  rcases h.2 with h | ⟨b, o, l, h1, h2, h3⟩
  · exact .inl h
  · exact .inr ⟨b, o, l, h1, h2.mono hk, h3.mono hk⟩

theorem SlK.nil {a : Option Addr} {cap : Nat} : SlK (α := α) e K a cap [] := ⟨Nat.zero_le _, .inl rfl⟩

/-- a slice's value -/
def RepS (e : TypeId) {α : Type} [GoData e α] (K : KM) (v : Value) (xs : List α) : Prop := ∃ a cap, v = .slice a xs.length cap ∧ SlK e K a cap xs

theorem RepS.mono {v : Value} {xs : List α} (h : RepS e K v xs) (hk : KM.le K K') : RepS e K' v xs := by
  obtain ⟨a, cap, h1, h2⟩ := h
  exact ⟨a, cap, h1, h2.mono hk⟩

theorem RepS.one {v : Value} {xs : List α} (h : RepS e K v xs) : v.oneCell' = true := by
  obtain ⟨a, cap, rfl, _⟩ := h; rfl

/-- a row of the call's own is given away -/
theorem OwnR.freeze {w : World} {v : Value} {xs : List α} {l : List Value} {C : Chunks} {G : List Chunks} (h : OwnR e (GoData.size e α) v xs.length l C) (hc : Cat e K xs l) (hS : Sat w K (flat (C :: G))) :
    ∃ K', KM.le K K' ∧ RepS e K' v xs ∧ Sat w K' (flat G) := by
  rcases h with ⟨rfl, hn, rfl, rfl⟩ | ⟨b, cap, r, rfl, rfl, hnc, hm, _, hcs⟩
  · have : xs = [] := List.eq_nil_of_length_eq_zero hn
    subst this
    exact ⟨K, .refl K, ⟨none, 0, rfl, SlK.nil⟩, hS⟩
  · refine ⟨K.with (b, Cl (l ++ r) e), Sat.leG hS, ⟨some ⟨b, 0, none⟩, cap, rfl, hnc, ?_⟩, Sat.freezeG hS⟩
    refine .inr ⟨b, 0, l, rfl, hc.mono (Sat.leG hS), (l ++ r).toArray, e, (0, 0), KM.with_self K (b, _), fun j v hj => ?_⟩
    rw [nth_eq] at hj
    have hlt : j < l.length := (List.getElem?_eq_some_iff.1 hj).1
    simp [List.getElem?_append_left hlt, hj]

/-- a[i] -/
def idx (xs : List α) (i : Int) : Option α := if 0 ≤ i then xs[i.toNat]? else none

theorem idx_lt {xs : List α} {i : Int} {x : α} (h : idx xs i = some x) : 0 ≤ i ∧ i < xs.length ∧ xs[i.toNat]? = some x := by
  unfold idx at h
  split at h
  · rename_i h0
    have := (List.getElem?_eq_some_iff.1 h).1
    exact ⟨h0, by omega, h⟩
  · cases h

theorem KCells.at_ {b o : Nat} {l1 cs l2 : List Value} (h : KCells K b o (l1 ++ (cs ++ l2))) : KCells K b (o + l1.length) cs := by
  obtain ⟨all, t, fr, hk, hc⟩ := h
  refine ⟨all, t, fr, hk, fun j v hj => ?_⟩
  rw [Nat.add_assoc]
  refine hc _ _ ?_
  rw [nth_eq] at hj ⊢
  have hlt : j < cs.length := (List.getElem?_eq_some_iff.1 hj).1
  rw [List.getElem?_append_right (by omega), show l1.length + j - l1.length = j by omega, List.getElem?_append_left hlt]
  exact hj

end

section
variable {P : Program} {T : Tab} {N : Nat} {σ : Slots} {w : World} {l : List Oper} {Q : Exit → Act → World → Prop} {rest : List Oper} {g : Option (Nat × Bool)}
  {ty : TypeId} {pos : String} {af : Array Edge} {op : Op} {d : Tmp} {K : KM} {L : Chunks} {G : List Chunks} {e : TypeId} {α : Type} [GoData e α]

theorem ix_run [hT : TabC P T] {t : TypeId} {i : TI} (ht : tk T t = some i) (hd : i.kind = .slice e) {a : Addr} {n cap : Nat} {k : IntKind} {z : Int} (h0 : 0 ≤ z) (h1 : z < n) (w : World) :
    (Instr.indexAt t (.slice (some a) n cap) (.int k z)).run P w = .ok (.pointer (some (a.add (z.toNat * i.esize)))) w := by
  obtain ⟨d0, hu, hk0, _, _, _, he⟩ := entry_spec (hT.all.get ht)
  have hd1 := kind_slice (hk0.trans hd)
  rw [hd1] at hu
  obtain ⟨⟨j, hj, hjs, hjb, z, hz, hzz⟩, _⟩ := he e (by rw [hd]; rfl)
  simp [Instr.indexAt, asIntOf, underlying_run hu, h0, h1, sizeOf, typeInfo, hj, hjs]

/-- the place of an element of a slice that stays as it is -/
theorem s_ixk [hT : TabC P T] {t : TypeId} {i : TI} {x y : Operand} {a : Option Addr} {cap n : Nat} {xs : List α} {k : IntKind} {z : Int} {u : α} (h : SlK e K a cap xs) (hn : xs.length = n) (hu : idx xs z = some u) (ht : tk T t = some i) (hd : i.kind = .slice e)
    (hsz : i.esize = GoData.size e α) (hx : ev σ x = some (.slice a n cap)) (hy : ev σ y = some (.int k z)) (hg : gd l σ g = some true) (hdN : Nat.blt d N = true)
    (next : ∀ b o cs, GoData.cells e K u cs → KCells K b o cs → Rg P l Q N rest ((d, .pointer (some ⟨b, o, none⟩)) :: σ) w) :
    Rg P l Q N (⟨some d, .indexAddr t x y, ty, pos, af, g⟩ :: rest) σ w := by
  subst hn
  obtain ⟨h0, h1, h2⟩ := idx_lt hu
  rcases h.2 with rfl | ⟨b, o, c, rfl, hc, hkc⟩
  · simp at h2
  · obtain ⟨l1, cs, l2, rfl, hl, hcs, _, _⟩ := hc.at h2
    refine rg_value rfl hg hdN (fun a' ha => ?_) (next b (o + l1.length) cs hcs hkc.at_)
    simp only [execOp, ha.ev hx, ha.ev hy, Sem.run_bind]
    rw [ix_run ht hd h0 h1, add_addr, hsz, ← hl]
    rfl

variable {fuel : Nat} {listed : Array Bool} {C : Chunks} {δ : List (Nat × List Nat)}

theorem d_ixk [hT : TabC P T] {t : TypeId} {i : TI} {x y : Operand} {a : Option Addr} {cap n : Nat} {xs : List α} {k : IntKind} {z : Int} {u : α} (m : Nat) (hQ : PanicOk Q) (π : List Nat) (hS : Sat w K (flat G)) (h : SlK e K a cap xs) (hn : xs.length = n) (hu : idx xs z = some u)
    (ht : tk T t = some i) (hd : i.kind = .slice e) (hi : nthO l m = some ⟨some d, .indexAddr t x y, ty, pos, af, g⟩)
    (hsz : i.esize = GoData.size e α) (hx : ev σ x = some (.slice a n cap)) (hy : ev σ y = some (.int k z)) (hg : gd l σ g = some true) (hok : okTake l listed m = true) (hdN : Nat.blt d N = true) (hnk : noKey (heldG G δ) m = true)
    (next : ∀ b o cs, GoData.cells e K u cs → KCells K b o cs → Dg P l Q N K (flat (selG G π)) (heldG G δ) fuel (listed.setIfInBounds m true) ((d, .pointer (some ⟨b, o, none⟩)) :: σ) w) :
    Dg P l Q N K (flat (selG G π)) (heldG G δ) (fuel + 1) listed σ w := by
  subst hn
  obtain ⟨h0, h1, h2⟩ := idx_lt hu
  rcases h.2 with rfl | ⟨b, o, c, rfl, hc, hkc⟩
  · simp at h2
  · obtain ⟨l1, cs, l2, rfl, hl, hcs, _, _⟩ := hc.at h2
    refine d_take m hQ hi rfl hok hdN hnk (hS.hold π (heldG_mem δ G) _) (fun a' ha => .inl ⟨gd_sound hg ha, fun w1 _ => ?_⟩) (next b (o + l1.length) cs hcs hkc.at_)
    simp only [execOp, ha.ev hx, ha.ev hy, Sem.run_bind]
    rw [ix_run ht hd h0 h1, add_addr, hsz, ← hl]
    rfl

/-- the place of an element of an owned block: its cells part there -/
theorem ld_mid {t : TypeId} {l1 cs l2 : List Value} {j : Nat} {v : Value} (h : ldv T t cs j = some v) : ldv T t (l1 ++ (cs ++ l2)) (l1.length + j) = some v := by
  unfold ldv at h ⊢
  split at h
  · rename_i i ht
    cases hb : i.agg with
    | true =>
      rw [hb] at h
      simp only [cond_true] at h ⊢
      cases hle : Nat.ble (j + i.size) cs.length with
      | false => rw [hle] at h; cases h
      | true =>
        rw [hle] at h
        have hle' := Nat.le_of_ble_eq_true hle
        rw [show Nat.ble (l1.length + j + i.size) (l1 ++ (cs ++ l2)).length = true from Nat.ble_eq_true_of_le (by simp; omega)]
        simp only [cond_true, Option.some.injEq] at h ⊢
        rw [← h, cut_eq, cut_eq, ← List.drop_drop, List.drop_left]
        rw [List.drop_append_of_le_length (by omega), List.take_append_of_le_length (by simp; omega)]
    | false =>
      rw [hb] at h
      simp only [cond_false, nth_eq] at h ⊢
      have hlt : j < cs.length := (List.getElem?_eq_some_iff.1 h).1
      rw [List.getElem?_append_right (by omega), show l1.length + j - l1.length = j by omega, List.getElem?_append_left hlt]
      exact h
  · cases h

theorem st_mid {t : TypeId} {l1 cs l2 cs' : List Value} {j : Nat} {v : Value} (h : stv T t cs j v = some cs') : stv T t (l1 ++ (cs ++ l2)) (l1.length + j) v = some (l1 ++ (cs' ++ l2)) := by
  unfold stv at h ⊢
  split at h
  · rename_i i ht
    cases hb : (Nat.beq v.cells.toList.length i.size && Nat.ble (j + i.size) cs.length && v.cells.toList.all (·.oneCell')) with
    | false => rw [hb] at h; cases h
    | true =>
      rw [hb] at h
      simp only [cond_true, Option.some.injEq] at h
      simp only [Bool.and_eq_true] at hb
      have h2 := Nat.le_of_ble_eq_true hb.1.2
      rw [hb.1.1, hb.2, show Nat.ble (l1.length + j + i.size) (l1 ++ (cs ++ l2)).length = true from Nat.ble_eq_true_of_le (by simp; omega)]
      simp only [Bool.and_self, cond_true, Option.some.injEq]
      rw [← h, Nat.add_assoc, List.take_append, ← List.drop_drop, List.drop_left]
      simp [List.take_append_of_le_length (show j ≤ cs.length by omega), List.drop_append_of_le_length h2, List.take_of_length_le (show l1.length ≤ l1.length + j by omega)]
  · cases h

end
end Go.Fw
