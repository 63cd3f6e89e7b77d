/- A deterministic evaluator: code and calls. -/
import Derived.Test.YtheedjgpfpghbaaGreatDP
set_option linter.unusedVariables false
set_option linter.unusedSectionVars false
set_option linter.unusedSimpArgs false
namespace Go.Ev
open Go Go.Fw
variable [Sym]

def exitOf : DX → Exit
  | .normal => .normal
  | .exit n => .exit n
  | .ret => .ret

/-- code comes to that; a loop's round is about to begin -/
def wpc (P : Program) (Q : Exit → Act → World → Prop) (a : Act) (w : World) : Code → Prop
  | .loop c => wpl P c Q a w
  | c => c.wp P Q a w

theorem wpc.wp {P : Program} {Q : Exit → Act → World → Prop} {a : Act} {w : World} {c : Code} (h : wpc P Q a w c) : c.wp P Q a w := by
  cases c <;> try exact h
  rename_i c
  intro b k cs
  obtain ⟨e, a', w', hq, harr⟩ := (show wpl P c Q a w from h) b k cs
  exact ⟨e, a', w', hq, .of_steps (.one step_loop) harr⟩

theorem wpl_round {P : Program} {Q : Exit → Act → World → Prop} {a : Act} {w : World} {c : Code} (h : c.wp P (Exit.then (fun a w => wpl P c Q a w) Q) a w) : wpl P c Q a w := by
  intro b k cs
  obtain ⟨e, a₁, w₁, hq, harr⟩ := h b (.inLoop c :: k) cs
  cases e with
  | normal =>
    obtain ⟨e₂, a₂, w₂, hq₂, harr₂⟩ := hq b k cs
    exact ⟨e₂, a₂, w₂, hq₂, .of_steps (Steps.trans harr (.one step_inLoop)) harr₂⟩
  | exit id => exact ⟨_, a₁, w₁, hq, .pass (x := .inLoop c) rfl (fun _ _ => .inl (by simp)) harr⟩
  | goto l => exact ⟨_, a₁, w₁, hq, .pass (x := .inLoop c) rfl (fun _ _ => .inl (by simp)) harr⟩
  | ret => exact ⟨_, a₁, w₁, hq, .pass (x := .inLoop c) rfl (fun _ _ => .inl (by simp)) harr⟩
  | panic ch => exact ⟨_, a₁, w₁, hq, .pass (x := .inLoop c) rfl (fun _ _ => .inl (by simp)) harr⟩
  | outgrown => exact ⟨_, a₁, w₁, hq, .pass (x := .inLoop c) rfl (fun _ _ => .inl (by simp)) harr⟩

/-! ### where two ways meet -/
section
omit [Sym]
theorem pick_join {β : Type} (f : β → β → β) (x y : O8 β) (i : Nat) : (pickC i).un (⟨f x.1 y.1, f x.2 y.2, f x.3 y.3, f x.4 y.4, f x.5 y.5, f x.6 y.6, f x.7 y.7, f x.8 y.8⟩ : O8 β) = f ((pickC i).un x) ((pickC i).un y) := by
  have key : ∀ (b : Bool) (p q : Bx (O8 β → β)), p.un ⟨f x.1 y.1, f x.2 y.2, f x.3 y.3, f x.4 y.4, f x.5 y.5, f x.6 y.6, f x.7 y.7, f x.8 y.8⟩ = f (p.un x) (p.un y) → q.un ⟨f x.1 y.1, f x.2 y.2, f x.3 y.3, f x.4 y.4, f x.5 y.5, f x.6 y.6, f x.7 y.7, f x.8 y.8⟩ = f (q.un x) (q.un y) → (bif b then p else q).un ⟨f x.1 y.1, f x.2 y.2, f x.3 y.3, f x.4 y.4, f x.5 y.5, f x.6 y.6, f x.7 y.7, f x.8 y.8⟩ = f ((bif b then p else q).un x) ((bif b then p else q).un y) := by
    intro b p q h1 h2; cases b <;> assumption
  unfold pickC
  exact key _ _ _ rfl (key _ _ _ rfl (key _ _ _ rfl (key _ _ _ rfl (key _ _ _ rfl (key _ _ _ rfl (key _ _ _ rfl rfl))))))
theorem get_joinTd {α : Type} (f : α → α → Option α) : ∀ (n k : Nat) (x y : Td α n), (getC n k).un (joinTd f n x y) = jo f ((getC n k).un x) ((getC n k).un y)
  | 0, _, _, _ => rfl
  | n + 1, k, x, y => by
    rw [getC_succ, getC_succ, getC_succ]
    show (getC n (k / 8)).un ((pickC (β := Td α n) (k % 8)).un ⟨joinTd f n x.1 y.1, joinTd f n x.2 y.2, joinTd f n x.3 y.3, joinTd f n x.4 y.4, joinTd f n x.5 y.5, joinTd f n x.6 y.6, joinTd f n x.7 y.7, joinTd f n x.8 y.8⟩) = _
    rw [pick_join (joinTd f n), get_joinTd f n]
theorem Tr.get_join {α : Type} (f : α → α → Option α) (x y : Tr α) (k : Nat) : (Tr.join f x y).get k = jo f (x.get k) (y.get k) := by
  by_cases h : k < 512
  · rw [Tr.get_lo _ _ h, Tr.get_lo _ _ h, Tr.get_lo _ _ h]; exact get_joinTd f 3 k x.1 y.1
  · by_cases h2 : k < 2097152
    · rw [Tr.get_hi _ _ h h2, Tr.get_hi _ _ h h2, Tr.get_hi _ _ h h2]; exact get_joinTd f 7 k x.2 y.2
    · rw [Tr.get_far _ _ h2, Tr.get_far _ _ h2, Tr.get_far _ _ h2]; rfl
theorem jo_some {α : Type} {f : α → α → Option α} {a b : Option α} {z : α} (h : jo f a b = some z) : ∃ x y, a = some x ∧ b = some y ∧ f x y = some z := by
  cases a with
  | none => cases h
  | some x => cases b with
    | none => cases h
    | some y => exact ⟨x, y, rfl, rfl, h⟩
end

theorem sameE_eq : ∀ {a b : List (Value × Value)}, sameE a b = true → a = b
  | [], [], _ => rfl
  | (a, x) :: r, (b, y) :: q, h => by
    simp only [sameE, Bool.and_eq_true] at h
    rw [sameS_eq h.1, sameV_eq h.2.1, sameE_eq h.2.2]
  | [], _ :: _, h => by cases h
  | _ :: _, [], h => by cases h

section
variable {ρ : Rho}
theorem joinC_l {x y u : Value} (h : RS ρ x u) : RS ρ (joinC x y) u := by
  unfold joinC
  cases hb : sameS x y with
  | true => exact h
  | false => exact .any h.cell
theorem joinC_r {x y u : Value} (h : RS ρ y u) : RS ρ (joinC x y) u := by
  unfold joinC
  cases hb : sameS x y with
  | true => rw [sameS_eq hb]; exact h
  | false => exact .any h.cell
theorem joinL_l : ∀ {l r q m : List Value}, joinL l r = some q → All2 (RS ρ) l m → All2 (RS ρ) q m
  | [], [], q, m, h, hl => by cases h; exact hl
  | a :: l, b :: r, q, m, h, hl => by
    simp only [joinL] at h
    split at h
    · rename_i q' hq
      cases h
      cases hl with
      | cons h1 h2 => exact .cons (joinC_l h1) (joinL_l hq h2)
    · cases h
  | [], _ :: _, q, m, h, hl => by cases h
  | _ :: _, [], q, m, h, hl => by cases h
theorem joinL_r : ∀ {l r q m : List Value}, joinL l r = some q → All2 (RS ρ) r m → All2 (RS ρ) q m
  | [], [], q, m, h, hl => by cases h; exact hl
  | a :: l, b :: r, q, m, h, hl => by
    simp only [joinL] at h
    split at h
    · rename_i q' hq
      cases h
      cases hl with
      | cons h1 h2 => exact .cons (joinC_r h1) (joinL_r hq h2)
    · cases h
  | [], _ :: _, q, m, h, hl => by cases h
  | _ :: _, [], q, m, h, hl => by cases h

theorem RV.flat {x u : Value} (h : RV ρ x u) (h1 : ∀ l, x ≠ .agg l) (h2 : ∀ l, x ≠ .tuple l) : RS ρ x u := by
  cases h with
  | tup _ => exact absurd rfl (h2 _)
  | c h => cases h with
    | agg _ => exact absurd rfl (h1 _)
    | s h => exact h

theorem joinV_R {x y z u : Value} (h : joinV x y = some z) : (RV ρ x u → RV ρ z u) ∧ (RV ρ y u → RV ρ z u) := by
  unfold joinV at h
  cases hb : sameV x y with
  | true =>
    rw [hb] at h; cases h
    have := sameV_eq hb; subst this
    exact ⟨id, id⟩
  | false =>
    rw [hb] at h
    simp only [cond_false] at h
    split at h
    · rename_i a b
      split at h
      · rename_i l hl
        cases h
        refine ⟨fun hx => ?_, fun hy => ?_⟩
        · obtain ⟨m, rfl, h2⟩ := hx.agg
          exact .c (.agg (joinL_l hl h2))
        · obtain ⟨m, rfl, h2⟩ := hy.agg
          exact .c (.agg (joinL_r hl h2))
      · cases h
    · cases h
    · cases h
    · cases h
    · cases h
    · cases h
      rename_i h1 h2 h3 h4 h5
      refine ⟨fun hx => .c (.s (.any (hx.flat (fun l e => ?_) (fun l e => ?_)).cell)), fun hy => .c (.s (.any (hy.flat (fun l e => ?_) (fun l e => ?_)).cell))⟩
      · first | exact h1 _ e | exact h2 _ e | exact h3 _ e | exact h4 _ e | exact h5 _ e
      · first | exact h1 _ e | exact h2 _ e | exact h3 _ e | exact h4 _ e | exact h5 _ e
      · first | exact h1 _ e | exact h2 _ e | exact h3 _ e | exact h4 _ e | exact h5 _ e
      · first | exact h1 _ e | exact h2 _ e | exact h3 _ e | exact h4 _ e | exact h5 _ e

theorem joinB_R {x y z : ABlk} {i : Nat} {p : Nat × Obj} (h : joinB x y = some z) : (BlkR ρ i x p → BlkR ρ i z p) ∧ (BlkR ρ i y p → BlkR ρ i z p) := by
  unfold joinB at h
  split at h
  · rename_i cs t o ds u q
    cases hb : (Nat.beq t u && ((o && q) || (!o && !q))) with
    | false => rw [hb] at h; cases h
    | true =>
      rw [hb] at h
      simp only [Bool.and_eq_true] at hb
      have e1 := Nat.eq_of_beq_eq_true hb.1
      subst e1
      have e2 : o = q := by
        have := hb.2
        cases o <;> cases q <;> simp_all
      subst e2
      simp only [cond_true] at h
      split at h
      · rename_i l hl
        cases h
        refine ⟨fun hx => ?_, fun hy => ?_⟩
        · cases hx with
          | cells h1 hc hn ho => exact .cells h1 (joinL_l hl hc) hn ho
        · cases hy with
          | cells h1 hc hn ho => exact .cells h1 (joinL_r hl hc) hn ho
      · cases h
  · rename_i es fs
    cases hb : sameE es fs with
    | false => rw [hb] at h; cases h
    | true =>
      rw [hb] at h; cases h
      have := sameE_eq hb; subst this
      exact ⟨id, id⟩
  · cases h

theorem weak_each {M M' : Mem} (hw : ∀ i y, M'.m.get i = some y → ∃ x, M.m.get i = some x ∧ ∀ p, BlkR ρ i x p → BlkR ρ i y p) : ∀ {ids : List Nat} {C : Chunks}, All2 (fun i p => ∃ x, M.m.get i = some x ∧ BlkR ρ i x p) ids C →
    ∃ ids' C' Cx, C.Perm (C' ++ Cx) ∧ All2 (fun i p => ∃ x, M'.m.get i = some x ∧ BlkR ρ i x p) ids' C' ∧ ids'.Sublist ids ∧ ∀ i ∈ ids, ∀ y, M'.m.get i = some y → i ∈ ids'
  | _, _, .nil => ⟨[], [], [], .refl _, .nil, List.Sublist.refl _, fun i h => by cases h⟩
  | _, _, .cons (a := i) (b := p) (l := ids) (m := C) h t => by
    obtain ⟨ids', C', Cx, h1, h2, h3, h4⟩ := weak_each hw t
    cases hg : M'.m.get i with
    | none =>
      refine ⟨ids', C', p :: Cx, (h1.cons p).trans List.perm_middle.symm, h2, h3.cons i, fun j hj y hy => ?_⟩
      rcases List.mem_cons.1 hj with rfl | hj
      · rw [hg] at hy; cases hy
      · exact h4 j hj y hy
    | some y =>
      obtain ⟨x, hx, hb⟩ := h
      obtain ⟨x', hx', hb'⟩ := hw i y hg
      rw [hx] at hx'; cases hx'
      refine ⟨i :: ids', p :: C', Cx, h1.cons p, .cons ⟨y, hg, hb' p hb⟩ h2, h3.cons_cons i, fun j hj z hz => ?_⟩
      rcases List.mem_cons.1 hj with rfl | hj
      · exact List.mem_cons_self ..
      · exact List.mem_cons_of_mem _ (h4 j hj z hz)

theorem World.weak {w : World} {K : KM} {L : Chunks} {M M' : Mem} (h : World.Is w K L ρ M) (hn : M.nx ≤ M'.nx) (hw : ∀ i y, M'.m.get i = some y → ∃ x, M.m.get i = some x ∧ ∀ p, BlkR ρ i x p → BlkR ρ i y p) : World.Is w K L ρ M' := by
  obtain ⟨ids, C, hM, hS⟩ := h
  obtain ⟨ids', C', Cx, h1, h2, h3, h4⟩ := weak_each hw hM.each
  refine ⟨ids', C', ⟨h3.nodup hM.nodup, h2, fun i y hy => ?_, fun i r hr => Nat.lt_of_lt_of_le (hM.low i r hr) hn⟩, hS.sub (R := Cx) ?_⟩
  · obtain ⟨x, hx, _⟩ := hw i y hy
    exact h4 i (hM.all i x hx) y hy
  · have : ((C' ++ Cx) ++ L).Perm ((C' ++ L) ++ Cx) := by
      rw [List.append_assoc, List.append_assoc]
      exact (List.perm_append_comm (l₁ := Cx) (l₂ := L)).append_left C'
    exact (h1.append_right L).trans this

theorem FrR.weak {N : Nat} {S S' : Tr Value} {a : Act} (h : FrR ρ N S a) (hw : ∀ t v', S'.get t = some v' → ∃ v, S.get t = some v ∧ ∀ u, RV ρ v u → RV ρ v' u) : FrR ρ N S' a :=
  ⟨h.size, h.defers, fun t v' ht => by
    obtain ⟨v, h1, h2⟩ := hw t v' ht
    obtain ⟨u, h3, h4⟩ := h.slot t v h1
    exact ⟨u, h3, h2 u h4⟩⟩
end

theorem sameX_eq {d e : DX} (h : sameX d e = true) : d = e := by
  cases d <;> cases e <;> first | rfl | (cases h; done) | skip
  exact congrArg DX.exit (Nat.eq_of_beq_eq_true h)

theorem joinR_some {r q : Option (DX × Tr Value × Mem)} {d : DX} {T : Tr Value} {M : Mem} (h : joinR r q = some (d, T, M)) : ∃ T1 M1 T2 M2, r = some (d, T1, M1) ∧ q = some (d, T2, M2) ∧ T = Tr.join joinV T1 T2 ∧ M = ⟨Tr.join joinB M1.m M2.m, Nat.max M1.nx M2.nx⟩ := by
  unfold joinR at h
  split at h
  · rename_i d1 T1 M1 d2 T2 M2
    cases hb : sameX d1 d2 with
    | false => rw [hb] at h; cases h
    | true =>
      rw [hb] at h; cases h
      exact ⟨T1, M1, T2, M2, rfl, by rw [sameX_eq hb], rfl, rfl⟩
  · cases h

abbrev RunT := Nat → Code → Tr Value → Mem → Option (DX × Tr Value × Mem)

def GoodR (P : Program) (K : KM) (ih : RunT) : Prop := ∀ N c S M x S' M', ih N c S M = some (x, S', M') → N ≤ 1000000 → ∀ ρ a w L Q, FrR ρ N S a → World.Is w K L ρ M →
  (∀ a' w' ρ', Rho.up M M' ρ ρ' → FrR ρ' N S' a' → World.Is w' K L ρ' M' → Q (exitOf x) a' w') → wpc P Q a w c

section
variable {P : Program} {T : Tab} {ρ ρ' : Rho} {tab : Nat → Option TI} {eqs : Nat → Option (List TK)} {zt : Nat → Option Value} {N : Nat} {a : Act} {S S' : Tr Value} {w : World} {K : KM} {L : Chunks} {M M' : Mem}
  {call : CallT} {e : Operand → Option Value} {v : Value} {l : List Oper} {Q : Exit → Act → World → Prop} {fns : Nat → Option Func} {prims : Nat → Option (List Value → Mem → Option (Value × Mem))} {ih : RunT}

/-! ### results -/
theorem ld_at [hT : TabC P T] {t : TypeId} {b o : Nat} {cs : List Value} {u : TypeId} {opn : Bool} {z : Value} (hS : SubT tab T) (hW : World.Is w K L ρ M) (hb : M.m.get b = some (.cells cs u opn)) (hz : ldD tab t cs o = some v) (h2 : RV ρ (.pointer (some ⟨b, o, none⟩)) z) :
    ∃ v', (Instr.loadAt t z).run P w = .ok v' w ∧ RV ρ v v' := by
  obtain ⟨ids, C, hM, hw⟩ := hW
  obtain ⟨p, C', ids', hp, hblk, hrest⟩ := hM.pull hb
  obtain ⟨b', s, n, h3, rfl⟩ := h2.ptr
  cases hblk with
  | @cells _ cs' pre post _ _ b2 n2 hρ hc hn =>
  rw [h3] at hρ; cases hρ
  obtain ⟨z', h4, h5⟩ := ldD_R (T := T) hS hc hz
  have hsat := hw.perm ((hp.append_right L).trans (.refl _))
  have ho : w.heap[b']? = some (Cl (pre ++ (cs' ++ post)) u) := hsat.owned _ (List.mem_cons_self ..)
  have hcell : Cells w b' pre.length cs' := fun j y hj => by
    rw [nth_eq] at hj
    have hlt := (List.getElem?_eq_some_iff.1 hj).1
    have := cells_of_heap ho (pre.length + j) y (by
      rw [nth_eq, List.getElem?_append_right (by omega), Nat.add_sub_cancel_left, List.getElem?_append_left hlt]; exact hj)
    simpa using this
  exact ⟨z', ld_run (P := P) hcell h4, h5⟩

theorem resD_R [hT : TabC P T] (hS : SubT tab T) (ha : FrR ρ N S a) (hW : World.Is w K L ρ M) : ∀ {rs : List ResultVar} {r : List Value}, resD tab S M rs = some r → ∃ vs, (∀ a', Fits N a' (slotsOf a) → (rs.mapM (rvRun a'.tmps)).run P w = .ok vs w) ∧ All2 (RV ρ) r vs
  | [], r, h => by cases h; exact ⟨[], fun _ _ => rfl, .nil⟩
  | .tmp t :: rs, r, h => by
    simp only [resD] at h
    split at h
    · rename_i v q hv hq
      cases h
      obtain ⟨vs, h1, h2⟩ := resD_R hS ha hW hq
      obtain ⟨u, h3, h4⟩ := ha.slot _ _ hv
      refine ⟨u :: vs, fun a' ha' => ?_, .cons h4 h2⟩
      have h5 := ha'.ev (x := .tmp t) (v := u) (by simp only [Fw.ev, lk_slotsOf]; exact h3)
      simp only [Act.eval] at h5
      rw [List.mapM_cons]
      simp only [Sem.run_bind, rvRun, h5, Sem.run_pure, Result.andThen_ok, h1 a' ha']
    · cases h
  | .cell c t :: rs, r, h => by
    simp only [resD] at h
    split at h
    · rename_i b o q hv hq
      split at h
      · rename_i cs u opn hb
        split at h
        · rename_i z hz
          cases h
          obtain ⟨vs, h1, h2⟩ := resD_R hS ha hW hq
          obtain ⟨u', h3, h4⟩ := ha.slot _ _ hv
          obtain ⟨z', h6, h7⟩ := ld_at (P := P) (T := T) hS hW hb hz h4
          refine ⟨z' :: vs, fun a' ha' => ?_, .cons h7 h2⟩
          have h5 := ha'.ev (x := .tmp c) (v := u') (by simp only [Fw.ev, lk_slotsOf]; exact h3)
          simp only [Act.eval] at h5
          obtain ⟨b', s, n, _, rfl⟩ := h4.ptr
          simp only [Instr.loadAt, Instr.sureAddr, Sem.run_bind, Sem.run_pure, Result.andThen_ok] at h6
          rw [List.mapM_cons]
          simp only [Sem.run_bind, rvRun, h5, asAddr, Sem.run_pure, Result.andThen_ok, h6, h1 a' ha']
        · cases h
      · cases h
    · cases h

theorem RV.rc {x y : Value} (h : RV ρ x y) (ho : okC x = true) : RC ρ x y := by
  cases h with
  | c h => exact h
  | tup h => cases ho

theorem tup_R {r vs : List Value} (h : All2 (RV ρ) r vs) (ho : r.all okC = true) : RV ρ (tup r) (if h : vs.length = 1 then vs[0] else .tuple vs.toArray) := by
  have hc : ∀ {r vs : List Value}, All2 (RV ρ) r vs → r.all okC = true → All2 (RC ρ) r vs := by
    intro r vs h
    induction h with
    | nil => intro _; exact .nil
    | cons h _ ih => intro ho; simp only [List.all_cons, Bool.and_eq_true] at ho; exact .cons (h.rc ho.1) (ih ho.2)
  cases h with
  | nil => exact .tup .nil
  | cons h t => cases t with
    | nil => simpa [tup] using h
    | cons h' t => 
      have := hc (.cons h (.cons h' t)) ho
      simp only [List.length_cons]
      rw [dif_neg (by omega)]
      exact .tup this

theorem argT_get : ∀ (args : List Value) (n : Nat) (S : Tr Value) (t : Nat) (v : Value), n + args.length ≤ 1000000 → (argT args n S).get t = some v → (n ≤ t ∧ args[t - n]? = some v) ∨ S.get t = some v
  | [], n, S, t, v, hl, h => .inr h
  | x :: r, n, S, t, v, hl, h => by
    simp only [List.length_cons] at hl
    simp only [argT] at h
    rcases argT_get r (n + 1) _ t v (by omega) h with ⟨h1, h2⟩ | h1
    · refine .inl ⟨by omega, ?_⟩
      rw [show t - n = (t - (n + 1)) + 1 by omega]; simpa using h2
    · rw [Tr.get_put 20 S n t (by omega)] at h1
      split at h1
      · rename_i e; subst e; cases h1; exact .inl ⟨Nat.le_refl _, by simp⟩
      · exact .inr h1

theorem argFr {args rs : List Value} {n : Nat} (h : All2 (RV ρ) args rs) (hn : args.length ≤ n) (hN : n ≤ 1000000) : FrR ρ n (argT args 0 .e) { tmps := rs.toArray ++ Array.replicate (n - rs.toArray.size) undef, defers := [] } := by
  have hl := h.len
  refine ⟨by simp; omega, rfl, fun t v ht => ?_⟩
  rcases argT_get args 0 .e t v (by omega) ht with ⟨_, h1⟩ | h1
  · obtain ⟨u, h2, h3⟩ := h.get h1
    refine ⟨u, ?_, h3⟩
    have hlt := (List.getElem?_eq_some_iff.1 h2).1
    show (rs.toArray ++ _)[t]? = _
    rw [Array.getElem?_append_left (by simpa using hlt)]
    simpa using h2
  · rw [Tr.get_e] at h1; cases h1

/-- the functions told are the program's -/
def FnsOk (P : Program) (fns : Nat → Option Func) : Prop := ∀ f fn, fns f = some fn → P.funcs[f]? = some fn ∧ (fn.name == "runtime.NumGoroutine") = false

theorem callB_ok [hT : TabC P T] (hX : Ctx P T tab eqs zt) (hf : FnsOk P fns) (hg : GoodR P K ih) : CallOk P K (callB tab fns ih) := by
  intro f args M v M' h ρ L w rs hrs hW
  unfold callB at h
  split at h
  · rename_i fn hfn
    split at h
    · rename_i c hbody
      cases hb : (Nat.ble args.length fn.ntmps && Nat.ble fn.ntmps 1000000) with
      | false => rw [hb] at h; cases h
      | true =>
        rw [hb] at h
        simp only [Bool.and_eq_true] at hb
        have hb1 := Nat.le_of_ble_eq_true hb.1
        have hb2 := Nat.le_of_ble_eq_true hb.2
        simp only [cond_true] at h
        obtain ⟨h1, h2⟩ := hf _ _ hfn
        have hI : IsFn P f fn c := ⟨h1, hbody, h2⟩
        refine ⟨hI.call _ _, calls_of_wp h1 hbody ?_⟩
        cases hr : ih fn.ntmps c (argT args 0 .e) M with
        | none => rw [hr] at h; cases h
        | some q =>
          obtain ⟨x, S', M1⟩ := q
          rw [hr] at h
          refine (hg _ _ _ _ _ _ _ hr hb2 ρ _ w L _ (argFr hrs hb1 hb2) hW fun a' w' ρ' h3 h4 h5 => ?_).wp
          have key : (match resD tab S' M1 fn.results.toList with
              | some l => bif l.all okC then some (tup l, M1) else none
              | none => none) = some (v, M') → a'.defers = [] ∧ ∃ u, (results fn a'.tmps).run P w' = .ok u w' ∧ RetR K L ρ M v M' (.returned u) w' := fun hk => by
            split at hk
            · rename_i r hres
              cases ho : r.all okC with
              | false => rw [ho] at hk; cases hk
              | true =>
                rw [ho] at hk
                cases hk
                obtain ⟨vs, h6, h7⟩ := resD_R (P := P) (T := T) hX.sub h4 h5 hres
                have h8 := results_run (P := P) (fn := fn) (rs := fn.results.toList) (vs := vs) (w := w') (N := fn.ntmps) (σ := slotsOf a') (by simp) h6 h4.fits
                exact ⟨h4.defers, _, h8, ρ', h3, tup_R h7 ho, h5⟩
            · cases hk
          cases x with
          | normal => exact key h
          | exit n => cases h
          | ret => exact key h
    · cases h
  · cases h

/-- what is told of some functions by hand -/
def PrimsOk (P : Program) (K : KM) (prims : Nat → Option (List Value → Mem → Option (Value × Mem))) : Prop := ∀ f p, prims f = some p → CallOk P K (fun g args M => if g = f then p args M else none)

theorem callP_ok [hT : TabC P T] (hX : Ctx P T tab eqs zt) (hf : FnsOk P fns) (hp : PrimsOk P K prims) (hg : GoodR P K ih) : CallOk P K (callP tab fns prims ih) := by
  intro f args M v M' h ρ L w rs hrs hW
  unfold callP at h
  split at h
  · rename_i p hpf
    exact hp f p hpf f args M v M' (by show (if f = f then p args M else none) = _; rw [if_pos rfl]; exact h) ρ L w rs hrs hW
  · exact callB_ok hX hf hg f args M v M' h ρ L w rs hrs hW

theorem regB_good [hT : TabC P T] (hX : Ctx P T tab eqs zt) (hf : FnsOk P fns) (hp : PrimsOk P K prims) (hg : GoodR P K ih) {id : Nat} {ops : Array Oper} {dr : Bool} (h : regB tab eqs zt fns prims ih N ops dr S M = some (S', M')) (hN : N ≤ 1000000) (ha : FrR ρ N S a) (hW : World.Is w K L ρ M)
    (next : ∀ a' w' ρ', Rho.up M M' ρ ρ' → FrR ρ' N S' a' → World.Is w' K L ρ' M' → Q .normal a' w') : (Code.region id ops dr).wp P Q a w := by
  have hcall := callP_ok (T := T) hX hf hp hg
  unfold regB at h
  have e1 : ops = ops.toList.toArray := by simp
  cases dr with
  | true =>
    simp only [cond_true] at h
    rw [e1]
    exact opsH_sound hX hcall hN ha hW h next
  | false =>
    simp only [cond_false] at h
    rw [e1]
    exact wp_region_lit (opsD_sound hX hcall hN _ ρ S M a w ha hW h next)

theorem runA_good [hT : TabC P T] (hX : Ctx P T tab eqs zt) (hf : FnsOk P fns) (hp : PrimsOk P K prims) (hg : GoodR P K ih) : GoodR P K (runA tab eqs zt fns prims ih) := by
  intro N c S M x S' M' h hN ρ a w L Q ha hW next
  unfold runA at h
  split at h
  · split at h
    · rename_i S0 M0 h0
      cases h
      exact regB_good hX hf hp hg h0 hN ha hW next
    · cases h
  · exact hg _ _ _ _ _ _ _ h hN ρ a w L Q ha hW next

theorem runB_good [hT : TabC P T] (hX : Ctx P T tab eqs zt) (hf : FnsOk P fns) (hp : PrimsOk P K prims) (hg : GoodR P K ih) : GoodR P K (runB tab eqs zt fns prims ih) := by
  intro N c S M x S' M' h hN ρ a w L Q ha hW next
  have hcall := callP_ok (T := T) hX hf hp hg
  cases c with
  | skip =>
    cases h
    exact wp_skip (next a w ρ (.same (Nat.le_refl _)) ha hW)
  | region id ops dr =>
    simp only [runB] at h
    show (Code.region id ops dr).wp P Q a w
    split at h
    · rename_i S0 M0 h0
      cases h
      exact regB_good hX hf hp hg h0 hN ha hW next
    · cases h
  | seq c1 c2 =>
    simp only [runB] at h
    show (Code.seq c1 c2).wp P Q a w
    refine wp_seq ?_
    split at h
    · rename_i S0 M0 h0
      refine (runA_good hX hf hp hg _ _ _ _ _ _ _ h0 hN ρ a w L _ ha hW fun a' w' ρ' h1 h2 h3 => ?_).wp
      exact (hg _ _ _ _ _ _ _ h hN ρ' a' w' L _ h2 h3 fun a'' w'' ρ'' h4 => next a'' w'' ρ'' (h1.trans h4)).wp
    · rename_i hne
      refine (runA_good hX hf hp hg _ _ _ _ _ _ _ h hN ρ a w L _ ha hW fun a' w' ρ' h1 h2 h3 => ?_).wp
      have := next a' w' ρ' h1 h2 h3
      cases x with
      | normal => exact absurd h (hne _ _)
      | exit n => exact this
      | ret => exact this
  | cond c x1 y1 =>
    simp only [runB] at h
    show (Code.cond c x1 y1).wp P Q a w
    split at h
    · rename_i hcv
      obtain ⟨u, h1, h2⟩ := ha.ev _ _ hcv
      rw [h2.bool] at h1
      exact wp_cond_true (ha.fits.ev h1) (hg _ _ _ _ _ _ _ h hN ρ a w L _ ha hW next).wp
    · rename_i hcv
      obtain ⟨u, h1, h2⟩ := ha.ev _ _ hcv
      rw [h2.bool] at h1
      exact wp_cond_false (ha.fits.ev h1) (hg _ _ _ _ _ _ _ h hN ρ a w L _ ha hW next).wp
    · rename_i i hcv
      cases hub : SymT.ub i with
      | false => rw [hub] at h; cases h
      | true =>
        rw [hub] at h
        obtain ⟨u, h1, h2⟩ := ha.ev _ _ hcv
        obtain ⟨b, rfl⟩ := hX.sym.ub _ hub _ h2.sym
        obtain ⟨T1, M1, T2, M2, e1, e2, rfl, rfl⟩ := joinR_some h
        cases b with
        | true =>
          refine wp_cond_true (ha.fits.ev h1) (hg _ _ _ _ _ _ _ e1 hN ρ a w L _ ha hW fun a' w' ρ' h3 h4 h5 => next a' w' ρ' ⟨h3.le, h3.keep, Nat.le_trans h3.nx (Nat.le_max_left ..)⟩ (h4.weak fun t v' ht => ?_) (World.weak h5 (Nat.le_max_left ..) fun i y hy => ?_)).wp
          · rw [Tr.get_join] at ht
            obtain ⟨x, y, hx, hy, hz⟩ := jo_some ht
            exact ⟨x, hx, fun u hu => (joinV_R hz).1 hu⟩
          · have hy : (Tr.join joinB M1.m M2.m).get i = some y := hy
            rw [Tr.get_join] at hy
            obtain ⟨x, z, hx, hz, hj⟩ := jo_some hy
            exact ⟨x, hx, fun p hp => (joinB_R hj).1 hp⟩
        | false =>
          refine wp_cond_false (ha.fits.ev h1) (hg _ _ _ _ _ _ _ e2 hN ρ a w L _ ha hW fun a' w' ρ' h3 h4 h5 => next a' w' ρ' ⟨h3.le, h3.keep, Nat.le_trans h3.nx (Nat.le_max_right ..)⟩ (h4.weak fun t v' ht => ?_) (World.weak h5 (Nat.le_max_right ..) fun i y hy => ?_)).wp
          · rw [Tr.get_join] at ht
            obtain ⟨x, y, hx, hy, hz⟩ := jo_some ht
            exact ⟨y, hy, fun u hu => (joinV_R hz).2 hu⟩
          · have hy : (Tr.join joinB M1.m M2.m).get i = some y := hy
            rw [Tr.get_join] at hy
            obtain ⟨x, z, hx, hz, hj⟩ := jo_some hy
            exact ⟨z, hz, fun p hp => (joinB_R hj).2 hp⟩
    · cases h
  | block id c =>
    simp only [runB] at h
    show (Code.block id c).wp P Q a w
    refine wp_block ?_
    split at h
    · rename_i k S0 M0 h0
      refine (hg _ _ _ _ _ _ _ h0 hN ρ a w L _ ha hW fun a' w' ρ' h1 h2 h3 => ?_).wp
      cases hb : Nat.beq k id with
      | true =>
        rw [hb] at h
        cases h
        have := Nat.eq_of_beq_eq_true hb
        subst this
        simp only [exitOf, Exit.inBlock, if_true]
        exact next a' w' ρ' h1 h2 h3
      | false =>
        rw [hb] at h
        cases h
        simp only [exitOf, Exit.inBlock]
        rw [if_neg (Nat.ne_of_beq_eq_false hb)]
        exact next a' w' ρ' h1 h2 h3
    · rename_i hne
      refine (hg _ _ _ _ _ _ _ h hN ρ a w L _ ha hW fun a' w' ρ' h1 h2 h3 => ?_).wp
      have := next a' w' ρ' h1 h2 h3
      cases x with
      | normal => exact this
      | exit n => exact absurd h (hne _ _ _)
      | ret => exact this
  | loop c =>
    simp only [runB] at h
    show wpl P c Q a w
    refine wpl_round ?_
    split at h
    · rename_i S0 M0 h0
      refine (hg _ _ _ _ _ _ _ h0 hN ρ a w L _ ha hW fun a' w' ρ' h1 h2 h3 => ?_).wp
      exact hg _ _ _ _ _ _ _ h hN ρ' a' w' L _ h2 h3 fun a'' w'' ρ'' h4 => next a'' w'' ρ'' (h1.trans h4)
    · rename_i hne
      refine (hg _ _ _ _ _ _ _ h hN ρ a w L _ ha hW fun a' w' ρ' h1 h2 h3 => ?_).wp
      have := next a' w' ρ' h1 h2 h3
      cases x with
      | normal => exact absurd h (hne _ _)
      | exit n => exact this
      | ret => exact this
  | exit id =>
    cases h
    exact wp_exit (next a w ρ (.same (Nat.le_refl _)) ha hW)
  | ret =>
    cases h
    exact wp_ret (next a w ρ (.same (Nat.le_refl _)) ha hW)
  | _ => cases h

theorem run_good [hT : TabC P T] (hX : Ctx P T tab eqs zt) (hf : FnsOk P fns) (hp : PrimsOk P K prims) : ∀ n, GoodR P K (run tab eqs zt fns prims n)
  | 0 => fun N c S M x S' M' h => by cases h
  | n + 1 => runB_good hX hf hp (run_good hX hf hp n)

/-- a call by the evaluator -/
theorem callD_ok [hT : TabC P T] (hX : Ctx P T tab eqs zt) (hf : FnsOk P fns) (hp : PrimsOk P K prims) (n : Nat) : CallOk P K (callD tab eqs zt fns prims n) := callB_ok hX hf (run_good hX hf hp n)
end
end Go.Ev
