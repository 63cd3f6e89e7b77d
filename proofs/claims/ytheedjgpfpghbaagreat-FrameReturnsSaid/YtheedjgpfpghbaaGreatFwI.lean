/- A small logic of walks: structs held against one another. -/
import Derived.Test.YtheedjgpfpghbaaGreatFwH
set_option linter.unusedVariables false
set_option linter.unusedSimpArgs false
set_option linter.unusedSectionVars false
namespace Go.Fw
open Go

def eqVal : TK → Value → Value → Option Bool
  | .int _, .int k a, .int k' b => if k = k' then some (a == b) else none
  | .string, .string a, .string b => some (a.toList == b.toList)
  | .bool, .bool a, .bool b => some (a == b)
  | _, _, _ => none

def eqCells : List TK → List Value → List Value → Option Bool
  | [], [], [] => some true
  | k :: ks, x :: xs, y :: ys => match eqVal k x y, eqCells ks xs ys with
    | some a, some b => some (a && b)
    | _, _ => none
  | _, _, _ => none

theorem eqCells_len : ∀ {ks : List TK} {xs ys : List Value} {b : Bool}, eqCells ks xs ys = some b → xs.length = ks.length ∧ ys.length = ks.length := by
  intro ks
  induction ks with
  | nil => intro xs ys b h; cases xs <;> cases ys <;> simp_all [eqCells]
  | cons k ks ih =>
    intro xs ys b h
    cases xs with
    | nil => cases ys <;> simp [eqCells] at h
    | cons x xs =>
      cases ys with
      | nil => simp [eqCells] at h
      | cons y ys =>
        simp only [eqCells] at h
        split at h
        · rename_i a c ha hc
          have := ih hc
          simp [this.1, this.2]
        · cases h

theorem eqCells_split : ∀ {ks ls : List TK} {xs ys : List Value} {b : Bool}, eqCells (ks ++ ls) xs ys = some b →
    ∃ b1 b2, eqCells ks (xs.take ks.length) (ys.take ks.length) = some b1 ∧ eqCells ls (xs.drop ks.length) (ys.drop ks.length) = some b2 ∧ b = (b1 && b2) := by
  intro ks
  induction ks with
  | nil => intro ls xs ys b h; exact ⟨true, b, by simp [eqCells], by simpa using h, by simp⟩
  | cons k ks ih =>
    intro ls xs ys b h
    cases xs with
    | nil => cases ys <;> simp [eqCells] at h
    | cons x xs =>
      cases ys with
      | nil => simp [eqCells] at h
      | cons y ys =>
        simp only [List.cons_append, eqCells] at h
        split at h
        · rename_i a c ha hc
          cases h
          obtain ⟨b1, b2, h1, h2, rfl⟩ := ih hc
          exact ⟨a && b1, b2, by simp [eqCells, ha, h1], by simpa using h2, by simp [Bool.and_assoc]⟩
        · cases h

/-- fields that lie one behind the other and may be held against one another: the kinds of their cells -/
def eqFs (sh : TypeId → Option (List TK)) (P : Program) : List Field → Nat → Option (List TK)
  | [], _ => some []
  | f :: fs, o => match sh f.type with
    | some ks => if f.name ≠ "_" ∧ f.offset = o ∧ P.cellsOf f.type = ks.length ∧ 0 < ks.length then (eqFs sh P fs (o + ks.length)).map (ks ++ ·) else none
    | none => none

def eqShape (P : Program) : Nat → TypeId → Option (List TK)
  | 0, _ => none
  | d + 1, t => match P.underlying t with
    | some (.int k) => some [.int k]
    | some .string => some [.string]
    | some .bool => some [.bool]
    | some (.struct fs) => if P.stoodInHeld t then none else eqFs (eqShape P d) P fs.toList 0
    | _ => none

section
variable {P : Program} {w : World}

theorem eqVal_cells {k : TK} {x y : Value} {b : Bool} (h : eqVal k x y = some b) : x.cells = #[x] ∧ y.cells = #[y] := by
  cases k <;> cases x <;> cases y <;> simp [eqVal] at h <;> exact ⟨rfl, rfl⟩

def EqIh (P : Program) (w : World) (D : Nat) (t : TypeId) (ks : List TK) : Prop :=
  (∃ dd, P.underlying t = some dd ∧ (aggB (some dd) = false → ks.length = 1)) ∧ ∀ (x y : Value) b, (aggB (P.underlying t) = true → (∃ c, x = .agg c) ∧ ∃ c, y = .agg c) → (aggB (P.underlying t) = false → x.cells = #[x] ∧ y.cells = #[y]) → eqCells ks x.cells.toList y.cells.toList = some b → (Op.equalIn D t x y).run P w = .ok b w

theorem part_cell {t : TypeId} {l : List Value} {o : Nat} {dd : TypeDesc} {v : Value} (hdd : P.underlying t = some dd) (ha : aggB (some dd) = false) (h : l[o]? = some v) : (part t l.toArray o).run P w = .ok v w := by
  unfold part
  rw [Sem.run_bind, aggB_run hdd, ha]
  simp [h]

theorem eqFields_run {D : Nat} {sh : TypeId → Option (List TK)} (ih : ∀ t ks, sh t = some ks → EqIh P w D t ks)
    (xs ys : List Value) : ∀ (fs : List Field) (o : Nat) (ks : List TK) (b : Bool), eqFs sh P fs o = some ks → eqCells ks (xs.drop o) (ys.drop o) = some b →
      (Op.eqFields D xs.toArray ys.toArray fs).run P w = .ok b w := by
  intro fs
  induction fs with
  | nil =>
    intro o m b h he
    simp only [eqFs, Option.some.injEq] at h
    subst h
    have hl := eqCells_len he
    have e1 : xs.drop o = [] := List.eq_nil_of_length_eq_zero hl.1
    have e2 : ys.drop o = [] := List.eq_nil_of_length_eq_zero hl.2
    rw [e1, e2] at he
    simp [eqCells] at he
    subst he
    simp [Op.eqFields]
  | cons f fs ihf =>
    intro o m b h he
    simp only [eqFs] at h
    split at h
    · rename_i ks hn
      split at h
      · rename_i hc
        obtain ⟨hname, hoff, hcells, hpos⟩ := hc
        obtain ⟨ls, hls, rfl⟩ := Option.map_eq_some_iff.1 h
        obtain ⟨⟨dd, hdd, h1n⟩, hrun⟩ := ih f.type ks hn
        have hlen := eqCells_len he
        have hle : o + ks.length ≤ xs.length := by have := hlen.1; simp at this; omega
        have hys : o + ks.length ≤ ys.length := by have := hlen.2; simp at this; omega
        obtain ⟨b1, b2, h1, h2, rfl⟩ := eqCells_split he
        rw [List.drop_drop, List.drop_drop] at h2
        have key : ∃ x y, (part f.type xs.toArray f.offset).run P w = .ok x w ∧ (part f.type ys.toArray f.offset).run P w = .ok y w ∧ (Op.equalIn D f.type x y).run P w = .ok b1 w := by
          cases ha : aggB (some dd) with
          | true =>
            obtain ⟨k, hk⟩ : ∃ k, ks.length = k + 1 := ⟨ks.length - 1, by omega⟩
            refine ⟨.agg ((xs.drop o).take ks.length).toArray, .agg ((ys.drop o).take ks.length).toArray, ?_, ?_, ?_⟩
            · refine part_run (size := k) hdd (by rw [hcells, hk]) ?_
              rw [ha, partOf, cond_true, cut_eq, hoff, hk]
            · refine part_run (size := k) hdd (by rw [hcells, hk]) ?_
              rw [ha, partOf, cond_true, cut_eq, hoff, hk]
            · exact hrun _ _ _ (fun _ => ⟨⟨_, rfl⟩, ⟨_, rfl⟩⟩) (fun h => by rw [hdd, ha] at h; cases h) (by simpa [Value.cells] using h1)
          | false =>
            have hn1 := h1n ha
            have hx : xs[o]? = some (xs[o]'(by omega)) := List.getElem?_eq_getElem (by omega)
            have hy : ys[o]? = some (ys[o]'(by omega)) := List.getElem?_eq_getElem (by omega)
            have e1 : (xs.drop o).take 1 = [xs[o]'(by omega)] := by
              rw [List.take_one, List.head?_drop, hx]; rfl
            have e2 : (ys.drop o).take 1 = [ys[o]'(by omega)] := by
              rw [List.take_one, List.head?_drop, hy]; rfl
            rw [hn1, e1, e2] at h1
            obtain ⟨k, rfl⟩ := List.length_eq_one_iff.1 hn1
            have hv : ∃ c, eqVal k (xs[o]'(by omega)) (ys[o]'(by omega)) = some c := by
              simp only [eqCells] at h1
              split at h1
              · rename_i a c hac _; exact ⟨a, hac⟩
              · cases h1
            obtain ⟨c, hv⟩ := hv
            obtain ⟨c1, c2⟩ := eqVal_cells hv
            refine ⟨_, _, part_cell hdd ha (by rw [hoff]; exact hx), part_cell hdd ha (by rw [hoff]; exact hy), ?_⟩
            exact hrun _ _ _ (fun h => by rw [hdd, ha] at h; cases h) (fun _ => ⟨c1, c2⟩) (by rw [c1, c2]; exact h1)
        obtain ⟨x, y, hx, hy, hxy⟩ := key
        simp only [Op.eqFields, if_pos hname, Sem.run_bind, hx, hy, hxy, Result.andThen_ok]
        cases b1 with
        | false => simp
        | true =>
          simp only [Bool.not_true, Bool.false_eq_true, if_false, Bool.true_and]
          exact ihf _ _ _ hls h2
      · cases h
    · cases h

theorem eqOne {k : TK} {x y : Value} {b : Bool} (h : eqCells [k] [x] [y] = some b) : eqVal k x y = some b := by
  simp only [eqCells] at h
  split at h
  · rename_i a c ha hc
    cases hc; cases h
    simpa using ha
  · cases h

theorem eqShape_run : ∀ (d : Nat) (t : TypeId) (ks : List TK), eqShape P d t = some ks → ∀ D, d ≤ D → EqIh P w D t ks := by
  intro d
  induction d with
  | zero => intro t n h; cases h
  | succ d ih =>
    intro t n h D hD
    obtain ⟨D, rfl⟩ : ∃ D', D = D' + 1 := ⟨D - 1, by omega⟩
    simp only [eqShape] at h
    split at h
    · rename_i k hu
      cases h
      refine ⟨⟨_, hu, fun _ => rfl⟩, fun x y b _ hf he => ?_⟩
      obtain ⟨c1, c2⟩ := hf (by rw [hu]; rfl)
      rw [c1, c2] at he
      have hv := eqOne he
      cases x <;> cases y <;> simp [eqVal] at hv
      obtain ⟨rfl, rfl⟩ := hv
      exact run_equalIn_int w D t _ _ _ _ hu
    · rename_i hu
      cases h
      refine ⟨⟨_, hu, fun _ => rfl⟩, fun x y b _ hf he => ?_⟩
      obtain ⟨c1, c2⟩ := hf (by rw [hu]; rfl)
      rw [c1, c2] at he
      have hv := eqOne he
      cases x <;> cases y <;> simp [eqVal] at hv
      subst hv
      rw [run_equalIn_string w D t _ _ hu]
    · rename_i hu
      cases h
      refine ⟨⟨_, hu, fun _ => rfl⟩, fun x y b _ hf he => ?_⟩
      obtain ⟨c1, c2⟩ := hf (by rw [hu]; rfl)
      rw [c1, c2] at he
      have hv := eqOne he
      cases x <;> cases y <;> simp [eqVal] at hv
      subst hv
      rw [run_equalIn_bool' w D t _ _ hu]
    · rename_i fs hu
      split at h
      · cases h
      · rename_i hst
        refine ⟨⟨_, hu, fun h => by cases h⟩, fun x y b ha _ he => ?_⟩
        obtain ⟨⟨cx, rfl⟩, ⟨cy, rfl⟩⟩ := ha (by rw [hu]; rfl)
        have hfo : P.fieldsOf t = fs := by simp [Program.fieldsOf, hu]
        rw [run_equalIn_struct w D t cx cy (by rw [hfo]; exact hu) (by simpa using hst), hfo]
        have := eqFields_run (w := w) (D := D) (sh := eqShape P d) (fun t n h => ih t n h D (by omega)) cx.toList cy.toList fs.toList 0 n b h (by simpa [Value.cells] using he)
        simpa using this
    · cases h

/-- a struct type whose values may be held against one another -/
structure EqT (P : Program) (t : TypeId) (ks : List TK) : Prop where
  shape : eqShape P 8 t = some ks
  agg : aggB (P.underlying t) = true
  plain : P.eqGuardType P.depth t = false

variable {T : Tab} {N : Nat} {σ : Slots} {l : List Oper} {Q : Exit → Act → World → Prop} {rest : List Oper} {g : Option (Nat × Bool)}
  {ty : TypeId} {pos : String} {af : Array Edge} {op : Op} {d : Tmp} {K : KM} {L : Chunks} {G : List Chunks}

theorem eq_run {t t' : TypeId} {ks : List TK} (h : EqT P t ks) {x y : Operand} {xs ys : Array Value} {b : Bool} (hb : eqCells ks xs.toList ys.toList = some b) {a : Act} (ha : Fits N a σ)
    (hx : ev σ x = some (.agg xs)) (hy : ev σ y = some (.agg ys)) (dd : Option Tmp) (w : World) : (execOp a.eval ⟨dd, .binOp .eql t x y t', ty, pos, af, g⟩).run P w = .ok (.value (.bool b)) w := by
  have := (eqShape_run (w := w) 8 t ks h.shape 10000 (by omega)).2 (.agg xs) (.agg ys) b (fun _ => ⟨⟨_, rfl⟩, ⟨_, rfl⟩⟩) (fun hf => by rw [h.agg] at hf; cases hf) hb
  simp only [execOp, ha.ev hx, ha.ev hy, Sem.run_bind, run_eqGuard_agg w .eql t x y xs ys h.plain, Result.andThen_ok, run_eql_struct, this, Sem.run_pure]

theorem ne_run {t t' : TypeId} {ks : List TK} (h : EqT P t ks) {x y : Operand} {xs ys : Array Value} {b : Bool} (hb : eqCells ks xs.toList ys.toList = some b) {a : Act} (ha : Fits N a σ)
    (hx : ev σ x = some (.agg xs)) (hy : ev σ y = some (.agg ys)) (dd : Option Tmp) (w : World) : (execOp a.eval ⟨dd, .binOp .neq t x y t', ty, pos, af, g⟩).run P w = .ok (.value (.bool (!b))) w := by
  have := (eqShape_run (w := w) 8 t ks h.shape 10000 (by omega)).2 (.agg xs) (.agg ys) b (fun _ => ⟨⟨_, rfl⟩, ⟨_, rfl⟩⟩) (fun hf => by rw [h.agg] at hf; cases hf) hb
  simp only [execOp, ha.ev hx, ha.ev hy, Sem.run_bind, run_eqGuard_agg w .neq t x y xs ys h.plain, Result.andThen_ok, run_neq_struct, this, Sem.run_pure]

theorem s_eqs {t t' : TypeId} {ks : List TK} (h : EqT P t ks) {x y : Operand} {xs ys : Array Value} {b : Bool} (hx : ev σ x = some (.agg xs)) (hy : ev σ y = some (.agg ys)) (hb : eqCells ks xs.toList ys.toList = some b)
    (hg : gd l σ g = some true) (hdN : Nat.blt d N = true) (next : Rg P l Q N rest ((d, .bool b) :: σ) w) : Rg P l Q N (⟨some d, .binOp .eql t x y t', ty, pos, af, g⟩ :: rest) σ w :=
  rg_value rfl hg hdN (fun a ha => eq_run h hb ha hx hy _ w) next

theorem s_nes {t t' : TypeId} {ks : List TK} (h : EqT P t ks) {x y : Operand} {xs ys : Array Value} {b : Bool} (hx : ev σ x = some (.agg xs)) (hy : ev σ y = some (.agg ys)) (hb : eqCells ks xs.toList ys.toList = some b)
    (hg : gd l σ g = some true) (hdN : Nat.blt d N = true) (next : Rg P l Q N rest ((d, .bool (!b)) :: σ) w) : Rg P l Q N (⟨some d, .binOp .neq t x y t', ty, pos, af, g⟩ :: rest) σ w :=
  rg_value rfl hg hdN (fun a ha => ne_run h hb ha hx hy _ w) next

variable {fuel : Nat} {listed : Array Bool} {C : Chunks} {δ : List (Nat × List Nat)}

theorem d_eqs {t t' : TypeId} {ks : List TK} (i : Nat) (hQ : PanicOk Q) (π : List Nat) (hS : Sat w K (flat G)) (h : EqT P t ks) {x y : Operand} {xs ys : Array Value} {b : Bool} (hi : nthO l i = some ⟨some d, .binOp .eql t x y t', ty, pos, af, g⟩)
    (hx : ev σ x = some (.agg xs)) (hy : ev σ y = some (.agg ys)) (hb : eqCells ks xs.toList ys.toList = some b)
    (hg : gd l σ g = some true) (hok : okTake l listed i = true) (hd : Nat.blt d N = true) (hnk : noKey (heldG G δ) i = true) (next : Dg P l Q N K (flat (selG G π)) (heldG G δ) fuel (listed.setIfInBounds i true) ((d, .bool b) :: σ) w) : Dg P l Q N K (flat (selG G π)) (heldG G δ) (fuel + 1) listed σ w :=
  d_take i hQ hi rfl hok hd hnk (hS.hold π (heldG_mem δ G) _) (fun a ha => .inl ⟨gd_sound (o := ⟨some d, .binOp .eql t x y t', ty, pos, af, g⟩) hg ha, fun w1 _ => eq_run h hb ha hx hy _ w1⟩) next

theorem d_nes {t t' : TypeId} {ks : List TK} (i : Nat) (hQ : PanicOk Q) (π : List Nat) (hS : Sat w K (flat G)) (h : EqT P t ks) {x y : Operand} {xs ys : Array Value} {b : Bool} (hi : nthO l i = some ⟨some d, .binOp .neq t x y t', ty, pos, af, g⟩)
    (hx : ev σ x = some (.agg xs)) (hy : ev σ y = some (.agg ys)) (hb : eqCells ks xs.toList ys.toList = some b)
    (hg : gd l σ g = some true) (hok : okTake l listed i = true) (hd : Nat.blt d N = true) (hnk : noKey (heldG G δ) i = true) (next : Dg P l Q N K (flat (selG G π)) (heldG G δ) fuel (listed.setIfInBounds i true) ((d, .bool (!b)) :: σ) w) : Dg P l Q N K (flat (selG G π)) (heldG G δ) (fuel + 1) listed σ w :=
  d_take i hQ hi rfl hok hd hnk (hS.hold π (heldG_mem δ G) _) (fun a ha => .inl ⟨gd_sound (o := ⟨some d, .binOp .neq t x y t', ty, pos, af, g⟩) hg ha, fun w1 _ => ne_run h hb ha hx hy _ w1⟩) next

end
end Go.Fw
