/- A small logic of walks: the steps. -/
import Derived.Test.YtheedjgpfpghbaaGreatFwB
import Derived.Laws.CopyRow
set_option linter.unusedVariables false
set_option linter.unusedSimpArgs false
namespace Go.Fw
open Go

/-! ### guards -/
def nthO : List Oper → Nat → Option Oper
  | [], _ => none
  | v :: _, 0 => some v
  | _ :: r, n + 1 => nthO r n

theorem nthO_eq (l : List Oper) : ∀ n, nthO l n = l[n]? := by
  induction l with
  | nil => intro n; simp [nthO]
  | cons v r ih => intro n; cases n <;> simp [nthO, ih]

/-- is an operation wanted? -/
def gd (l : List Oper) (σ : Slots) : Option (Nat × Bool) → Option Bool
  | none => some true
  | some (j, want) => match nthO l j with
    | some o => match o.dst with
      | some t => match lk σ t with
        | some (.bool b) => some (b == want)
        | some _ => some false
        | none => none
      | none => none
    | none => none

theorem gd_sound {l : List Oper} {σ : Slots} {N : Nat} {a : Act} {o : Oper} {b : Bool} (h : gd l σ o.guard = some b) (ha : Fits N a σ) :
    Region.wanted o (yielded l.toArray a.tmps) = b := by
  unfold gd at h
  split at h
  · rename_i hg; cases h; simp [Region.wanted, hg]
  · rename_i j want hg
    split at h
    · rename_i o' ho
      split at h
      · rename_i t ht
        split at h
        · rename_i c hc
          cases h
          have h1 := ha.slot _ _ hc
          have h2 : l.toArray[j]? = some o' := by rw [nthO_eq] at ho; simpa using ho
          simp only [Region.wanted, hg, yielded, h2, Option.bind_some, ht, h1]
          cases c <;> cases want <;> rfl
        · rename_i v hnb hv
          cases h
          have h1 := ha.slot _ _ hv
          have h2 : l.toArray[j]? = some o' := by rw [nthO_eq] at ho; simpa using ho
          simp only [Region.wanted, hg, yielded, h2, Option.bind_some, ht, h1]
          cases v <;> first | rfl | exact absurd rfl (hnb _)
        · cases h
      · cases h
    · cases h

section
variable {P : Program} {T : Tab} {N : Nat} {σ : Slots} {w : World} {l : List Oper} {Q : Exit → Act → World → Prop} {rest : List Oper} {g : Option (Nat × Bool)}
  {ty : TypeId} {pos : String} {af : Array Edge} {op : Op} {d : Tmp} {K : KM} {L : Chunks} {G : List Chunks}

/-- the rest of a region, in whatever frame fits -/
abbrev Rg (P : Program) (l : List Oper) (Q : Exit → Act → World → Prop) (N : Nat) (rest : List Oper) (σ : Slots) (w : World) : Prop :=
  At N σ fun a => wpList P l.toArray Q rest a w

theorem rg_wp {o : Oper} (hg : gd l σ o.guard = some true) (h : ∀ a, Fits N a σ → o.wp P a w (wpList P l.toArray Q rest) Q) : Rg P l Q N (o :: rest) σ w := fun a ha => by
  show wpList P l.toArray Q (o :: rest) a w
  unfold wpList
  rw [gd_sound hg ha]
  exact .inl (h a ha)

theorem rg_value {o : Oper} {w' : World} {v : Value} (ho : o.dst = some d) (hg : gd l σ o.guard = some true) (hd : Nat.blt d N = true) (hrun : ∀ a, Fits N a σ → (execOp a.eval o).run P w = .ok (.value v) w')
    (next : Rg P l Q N rest ((d, v) :: σ) w') : Rg P l Q N (o :: rest) σ w :=
  rg_wp hg fun a ha => by
    unfold Oper.wp
    rw [hrun a ha, Oper.upon_value, ho]
    exact next _ (ha.put hd v)

theorem rg_skip {o : Oper} {w' : World} (ho : o.dst = none) (hg : gd l σ o.guard = some true) (hrun : ∀ a, Fits N a σ → (execOp a.eval o).run P w = .ok .skip w')
    (next : Rg P l Q N rest σ w') : Rg P l Q N (o :: rest) σ w :=
  rg_wp hg fun a ha => by
    unfold Oper.wp
    rw [hrun a ha, Oper.upon_skip, ho]
    exact next _ ha

/-- an operation that isn't wanted -/
theorem s_no (hg : gd l σ g = some false) (hd : Nat.blt d N = true) (next : Rg P l Q N rest ((d, undef) :: σ) w) : Rg P l Q N (⟨some d, op, ty, pos, af, g⟩ :: rest) σ w := fun a ha => by
  show wpList P l.toArray Q (_ :: rest) a w
  unfold wpList
  rw [gd_sound (o := ⟨some d, op, ty, pos, af, g⟩) hg ha]
  exact next _ (ha.put hd undef)

theorem s_no' (hg : gd l σ g = some false) (next : Rg P l Q N rest σ w) : Rg P l Q N (⟨none, op, ty, pos, af, g⟩ :: rest) σ w := fun a ha => by
  show wpList P l.toArray Q (_ :: rest) a w
  unfold wpList
  rw [gd_sound (o := ⟨none, op, ty, pos, af, g⟩) hg ha]
  exact next _ ha

/-- what only reckons -/
theorem s_v [hT : TabC P T] {v : Value} (hv : opv T op σ = some v) (hg : gd l σ g = some true) (hd : Nat.blt d N = true) (next : Rg P l Q N rest ((d, v) :: σ) w) :
    Rg P l Q N (⟨some d, op, ty, pos, af, g⟩ :: rest) σ w :=
  rg_value rfl hg hd (fun a ha => opv_sound hv ha _ _ _ _ _ _) next

/-- the end of a region -/
theorem s_nil (next : At N σ fun a => Q .normal a w) : Rg P l Q N [] σ w := fun a ha => next a ha

/-! ### loads -/

abbrev Cl (cs : List Value) (t : TypeId) : Obj := .cells cs.toArray t (0, 0)

def ldv (T : Tab) (t : TypeId) (cs : List Value) (o : Nat) : Option Value :=
  match tk T t with
  | some i => bif i.agg then (bif Nat.ble (o + i.size) cs.length then some (.agg (cut cs o i.size).toArray) else none) else nth cs o
  | none => none

/-- these cells lie there -/
def Cells (w : World) (b o : Nat) (cs : List Value) : Prop := ∀ j v, nth cs j = some v → w.cell? ⟨b, o + j, none⟩ = some v

theorem ld_run [hT : TabC P T] {t : TypeId} {b o k : Nat} {cs : List Value} {v : Value} (hc : Cells w b o cs) (h : ldv T t cs k = some v) : (Instr.loadAt t (.pointer (some ⟨b, o + k, none⟩))).run P w = .ok v w := by
  unfold ldv at h
  split at h
  · rename_i i ht
    obtain ⟨d0, hd, _, ⟨j, hj, hjs, _⟩, ha, _⟩ := entry_spec (hT.all.get ht)
    simp only [Instr.loadAt, Sem.run_bind, Instr.sureAddr, Sem.run_pure, Result.andThen_ok, loadVar, aggB_run hd, ← ha]
    cases hb : i.agg with
    | true =>
      rw [hb] at h
      simp only [cond_true] at h
      cases hle : Nat.ble (k + i.size) cs.length with
      | false => rw [hle] at h; cases h
      | true =>
        rw [hle] at h
        simp only [cond_true, Option.some.injEq] at h
        have hle' := Nat.le_of_ble_eq_true hle
        have hlen : (cut cs k i.size).length = i.size := by rw [cut_eq]; simp; omega
        simp only [if_true, Sem.run_bind, sizeOf, typeInfo, run_program, Result.andThen_ok, hj, Sem.run_pure, hjs]
        have := run_loadCells_list (P := P) w ⟨b, o + k, none⟩ (cut cs k i.size) (fun q u hq => by
          rw [cut_eq] at hq
          rw [add_addr, Nat.add_assoc]
          refine hc _ _ ?_
          rw [nth_eq]
          have hq' : q < i.size := by
            have := (List.getElem?_eq_some_iff.1 hq).1
            simp at this; omega
          rw [List.getElem?_take_of_lt hq', List.getElem?_drop] at hq
          exact hq)
        rw [hlen] at this
        rw [this, ← h]
        rfl
    | false =>
      rw [hb] at h
      simp only [cond_false] at h
      simp only [Bool.false_eq_true, if_false, run_load]
      rw [hc _ _ h]
  · cases h

/-- groups of chunks -/
def flat : List Chunks → Chunks
  | [] => []
  | g :: r => g ++ flat r

/-- the k-th group -/
def nthG : List Chunks → Nat → Option Chunks
  | [], _ => none
  | p :: _, 0 => some p
  | _ :: r, n + 1 => nthG r n

def setG : List Chunks → Nat → Chunks → List Chunks
  | [], _, _ => []
  | _ :: r, 0, x => x :: r
  | p :: r, n + 1, x => p :: setG r n x

theorem nthG_perm {G : List Chunks} {k : Nat} {C : Chunks} (h : nthG G k = some C) : ∃ R, (flat G).Perm (C ++ R) ∧ ∀ X, (flat (setG G k X)).Perm (X ++ R) := by
  induction G generalizing k with
  | nil => cases h
  | cons q r ih => cases k with
    | zero => simp [nthG] at h; subst h; exact ⟨flat r, .refl _, fun _ => .refl _⟩
    | succ k =>
      obtain ⟨R, h1, h2⟩ := ih h
      refine ⟨q ++ R, ?_, fun X => ?_⟩
      · exact (h1.append_left q).trans ((List.perm_append_comm_assoc q C R))
      · exact ((h2 X).append_left q).trans ((List.perm_append_comm_assoc q X R))

theorem nthG_mem {G : List Chunks} {k : Nat} {C : Chunks} (h : nthG G k = some C) {p : Nat × Obj} (hp : p ∈ C) : p ∈ flat G := by
  obtain ⟨R, h1, _⟩ := nthG_perm h
  exact h1.mem_iff.2 (List.mem_append_left _ hp)

theorem cells_of_heap {b : Nat} {cs : List Value} {t : TypeId} {fr : Nat × Nat} (h : w.heap[b]? = some (.cells cs.toArray t fr)) : Cells w b 0 cs := fun j v hj => by
  simp only [World.cell?, h, Nat.zero_add]
  rw [nth_eq] at hj
  simpa using hj

/-- a load out of an owned block -/
theorem s_ld [hT : TabC P T] {t t' : TypeId} {x : Operand} {b o : Nat} {cs : List Value} {v : Value} (k : Nat) (hS : Sat w K (flat G)) (hx : ev σ x = some (.pointer (some ⟨b, o, none⟩))) (hk : nthG G k = some [(b, Cl cs t')])
    (hv : ldv T t cs o = some v) (hg : gd l σ g = some true) (hd : Nat.blt d N = true) (next : Rg P l Q N rest ((d, v) :: σ) w) : Rg P l Q N (⟨some d, .load t x, ty, pos, af, g⟩ :: rest) σ w :=
  rg_value rfl hg hd (fun a ha => by
    simp only [execOp, ha.ev hx, Sem.run_bind]
    have := ld_run (P := P) (cells_of_heap (hS.owned _ (nthG_mem hk (List.mem_cons_self ..)))) hv
    simp only [Nat.zero_add] at this
    rw [this]; rfl) next

/-! ### what stays as it is -/

/-- K tells these cells, from a place on -/
def KCells (K : KM) (b o : Nat) (cs : List Value) : Prop := ∃ all t fr, K.at_ b = some (.cells all t fr) ∧ ∀ j v, nth cs j = some v → all[o + j]? = some v

theorem KCells.cells {b o : Nat} {cs : List Value} (h : KCells K b o cs) (hS : Sat w K L) : Cells w b o cs := by
  obtain ⟨all, t, fr, hk, hc⟩ := h
  intro j v hj
  simp only [World.cell?, hS.kept _ _ hk]
  exact hc j v hj

theorem KCells.mono {K' : KM} {b o : Nat} {cs : List Value} (h : KCells K b o cs) (hk : KM.le K K') : KCells K' b o cs := by
  obtain ⟨all, t, fr, h1, h2⟩ := h
  exact ⟨all, t, fr, hk.at_ _ _ h1, h2⟩

/-- a load out of what stays as it is -/
theorem s_ldk [hT : TabC P T] {t : TypeId} {x : Operand} {b o : Nat} {cs : List Value} {v : Value} (k : Nat) (hS : Sat w K L) (h : KCells K b o cs) (hx : ev σ x = some (.pointer (some ⟨b, o + k, none⟩)))
    (hv : ldv T t cs k = some v) (hg : gd l σ g = some true) (hd : Nat.blt d N = true) (next : Rg P l Q N rest ((d, v) :: σ) w) : Rg P l Q N (⟨some d, .load t x, ty, pos, af, g⟩ :: rest) σ w :=
  rg_value rfl hg hd (fun a ha => by
    simp only [execOp, ha.ev hx, Sem.run_bind]
    rw [ld_run (P := P) (h.cells hS) hv]; rfl) next

/-! ### stores -/

def stv (T : Tab) (t : TypeId) (cs : List Value) (o : Nat) (v : Value) : Option (List Value) :=
  match tk T t with
  | some i => bif Nat.beq v.cells.toList.length i.size && Nat.ble (o + i.size) cs.length && v.cells.toList.all (·.oneCell') then
      some (cs.take o ++ (v.cells.toList ++ cs.drop (o + i.size))) else none
  | none => none

theorem Sat.setRow {b : Nat} {cs cs' : List Value} {t : TypeId} (hS : Sat w K ((b, Cl cs t) :: L)) : Sat (w.setRow b cs'.toArray) K ((b, Cl cs' t) :: L) := by
  have ho := hS.owned _ (List.mem_cons_self ..)
  refine hS.turn (fun k hk => ?_) ?_ rfl rfl rfl
  · simp only [World.setRow, Array.getElem?_modify]; rw [if_neg (by omega)]
  · simp only [World.setRow, Array.getElem?_modify, if_true]
    rw [show w.heap[b]? = some (Cl cs t) from ho]
    rfl

theorem st_run [hT : TabC P T] {t t' : TypeId} {b o k : Nat} {cs cs' : List Value} {v : Value} (hS : Sat w K (flat G)) (hk : nthG G k = some [(b, Cl cs t')]) (h : stv T t cs o v = some cs') :
    ∃ w', (Instr.storeAt t (.pointer (some ⟨b, o, none⟩)) v).run P w = .ok () w' ∧ Sat w' K (flat (setG G k [(b, Cl cs' t')])) := by
  unfold stv at h
  split at h
  · rename_i i ht
    obtain ⟨d0, hd, _, ⟨j, hj, hjs, _⟩, _⟩ := entry_spec (hT.all.get ht)
    cases hb : (Nat.beq v.cells.toList.length i.size && Nat.ble (o + i.size) cs.length && v.cells.toList.all (·.oneCell')) with
    | false => rw [hb] at h; cases h
    | true =>
      rw [hb] at h
      simp only [cond_true, Option.some.injEq] at h
      simp only [Bool.and_eq_true] at hb
      obtain ⟨⟨h1, h2⟩, h3⟩ := hb
      have h1 := Nat.eq_of_beq_eq_true h1
      have h2 := Nat.le_of_ble_eq_true h2
      obtain ⟨R, hp1, hp2⟩ := nthG_perm hk
      have hS1 := hS.perm hp1
      have ho := hS1.owned _ (List.mem_cons_self ..)
      refine ⟨w.setRow b cs'.toArray, ?_, (hS1.setRow).perm (hp2 [(b, Cl cs' t')]).symm⟩
      simp only [Instr.storeAt, Sem.run_bind, Instr.sureAddr, Sem.run_pure, Result.andThen_ok, storeVar, sizeOf, typeInfo, run_program, hj, hjs]
      rw [if_neg (by simp at h1; simp [h1])]
      have := run_storeCells_at (P := P) b o t' v.cells.toList 0 cs.toArray w ho (by simp at h1 ⊢; omega) (List.all_eq_true.1 h3)
      rw [this, ← h, h1]
      simp
  · cases h

/-- a store into an owned block -/
theorem s_st [hT : TabC P T] {t t' : TypeId} {x y : Operand} {b o : Nat} {cs cs' : List Value} {v : Value} (k : Nat) (hS : Sat w K (flat G)) (hx : ev σ x = some (.pointer (some ⟨b, o, none⟩))) (hy : ev σ y = some v) (hk : nthG G k = some [(b, Cl cs t')])
    (hv : stv T t cs o v = some cs') (hg : gd l σ g = some true) (next : ∀ w', Sat w' K (flat (setG G k [(b, Cl cs' t')])) → Rg P l Q N rest σ w') : Rg P l Q N (⟨none, .store t x y, ty, pos, af, g⟩ :: rest) σ w := by
  obtain ⟨w', hr, hS'⟩ := st_run (P := P) hS hk hv
  exact rg_skip rfl hg (fun a ha => by simp only [execOp, ha.ev hx, ha.ev hy, Sem.run_bind, hr]; rfl) (next w' hS')

/-! ### new blocks -/

/-- a new variable -/
theorem s_al [hT : TabC P T] {t : TypeId} {i : TI} (hS : Sat w K (flat G)) (ht : tk T t = some i) (hg : gd l σ g = some true) (hd : Nat.blt d N = true)
    (next : ∀ b w', Sat w' K (flat ([(b, Cl i.zero t)] :: G)) → Rg P l Q N rest ((d, .pointer (some ⟨b, 0, none⟩)) :: σ) w') : Rg P l Q N (⟨some d, .alloc t, ty, pos, af, g⟩ :: rest) σ w := by
  obtain ⟨d0, hu, _, ⟨j, hj, hjs, hjb, z, hz, hzz⟩, _⟩ := entry_spec (hT.all.get ht)
  have h := hS.alloc (.cells z.cells t)
  rw [show z.cells = i.zero.toArray by rw [← hzz]] at h
  refine rg_value (w' := w.alloc (.cells z.cells t)) rfl hg hd (fun a ha => ?_) (next w.heap.size _ (by rw [show z.cells = i.zero.toArray by rw [← hzz]]; exact h))
  simp [execOp, Instr.alloc, zeroValue, typeInfo, hj, hz, newVar, newRow]

/-- a variable of a value -/
theorem s_bx {t : TypeId} {x : Operand} {v : Value} (hS : Sat w K (flat G)) (hx : ev σ x = some v) (hg : gd l σ g = some true) (hd : Nat.blt d N = true)
    (next : ∀ b w', Sat w' K (flat ([(b, Cl v.cells.toList t)] :: G)) → Rg P l Q N rest ((d, .pointer (some ⟨b, 0, none⟩)) :: σ) w') : Rg P l Q N (⟨some d, .box t x, ty, pos, af, g⟩ :: rest) σ w := by
  have h := hS.alloc (.cells v.cells t)
  refine rg_value (w' := w.alloc (.cells v.cells t)) rfl hg hd (fun a ha => ?_) (next w.heap.size _ h)
  simp [execOp, Instr.box, ha.ev hx, newVar, newRow]

end
end Go.Fw
