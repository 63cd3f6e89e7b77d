/- A deterministic evaluator: operations that only reckon. -/
import Derived.Test.YtheedjgpfpghbaaGreatDB
set_option linter.unusedVariables false
set_option linter.unusedSectionVars false
set_option linter.unusedSimpArgs false
namespace Go.Ev
open Go Go.Fw
variable [Sym]

/-- all slots of a frame -/
def slotsOf (a : Act) : Slots := go a.tmps.toList 0
where go : List Value → Nat → Slots
  | [], _ => []
  | v :: r, n => (n, v) :: go r (n + 1)

theorem slotsOf_go : ∀ (l : List Value) (n t : Nat), lk (slotsOf.go l n) t = if n ≤ t then l[t - n]? else none
  | [], n, t => by simp [slotsOf.go, lk]
  | v :: r, n, t => by
    simp only [slotsOf.go, lk]
    cases hb : Nat.beq n t with
    | true => have := Nat.eq_of_beq_eq_true hb; subst this; simp
    | false =>
      have hne := Nat.ne_of_beq_eq_false hb
      rw [cond_false, slotsOf_go r (n + 1) t]
      by_cases h : n + 1 ≤ t
      · rw [if_pos h, if_pos (by omega), show t - n = (t - (n + 1)) + 1 by omega]; rfl
      · rw [if_neg h, if_neg (by omega)]

theorem lk_slotsOf (a : Act) (t : Nat) : lk (slotsOf a) t = a.tmps[t]? := by
  unfold slotsOf
  rw [slotsOf_go]; simp

theorem fits_slotsOf {N : Nat} {a : Act} (h1 : a.tmps.size = N) (h2 : a.defers = []) : Fits N a (slotsOf a) := ⟨h1, h2, fun t v h => by rw [lk_slotsOf] at h; exact h⟩

/-- what operands are, told and really -/
def EvR (ρ : Rho) (e : Operand → Option Value) (σ : Slots) : Prop := ∀ x v, e x = some v → ∃ v', ev σ x = some v' ∧ RV ρ v v'

def SubT (tab : Nat → Option TI) (T : Tab) : Prop := ∀ t i, tab t = some i → tk T t = some i

theorem RC.refl {ρ : Rho} {v : Value} (h : plainC v = true) : RC ρ v v := by
  unfold plainC at h
  split at h
  · rename_i cs
    have : All2 (RS ρ) cs.toList cs.toList := by
      have h' := List.all_eq_true.1 h
      generalize cs.toList = l at h'
      clear h
      induction l with
      | nil => exact .nil
      | cons x r ih => exact .cons (.plain (h' x (List.mem_cons_self ..))) (ih fun y hy => h' y (List.mem_cons_of_mem _ hy))
    have := RC.agg this
    simpa using this
  · exact .s (.plain h)

section
variable {P : Program} {T : Tab} {ρ : Rho} {tab : Nat → Option TI} {eqs : Nat → Option (List TK)} {e : Operand → Option Value} {σ : Slots} {v : Value}

theorem evD_R {S : Tr Value} (h : ∀ t v, S.get t = some v → ∃ v', lk σ t = some v' ∧ RV ρ v v') : EvR ρ (evD S) σ := by
  intro x v hv
  cases x with
  | tmp t => exact h t v hv
  | const c =>
    simp only [evD] at hv
    cases hp : plainC c with
    | false => rw [hp] at hv; cases hv
    | true => rw [hp] at hv; cases hv; exact ⟨_, rfl, .c (.refl hp)⟩
  | global g => cases hv
  | func f => cases hv; exact ⟨_, rfl, .c (.s (.fn .nil))⟩

theorem partOf_R {l m : List Value} {off n : Nat} {b : Bool} (hl : All2 (RS ρ) l m) (h : partOf l off n b = some v) : ∃ v', partOf m off n b = some v' ∧ RV ρ v v' := by
  unfold partOf at h ⊢
  cases b with
  | true =>
    cases h
    refine ⟨_, rfl, .c (.agg ?_)⟩
    rw [cut_eq, cut_eq]; exact (hl.drop _).take _
  | false =>
    simp only [cond_false, nth_eq] at h ⊢
    obtain ⟨u, h1, h2⟩ := hl.get h
    exact ⟨u, h1, .c (.s h2)⟩

theorem nthF_eq : ∀ (l : List (Nat × Nat × Bool)) (n : Nat), opw.nthF l n = l[n]?
  | [], n => by simp [opw.nthF]
  | v :: r, 0 => rfl
  | v :: r, n + 1 => by simp [opw.nthF, nthF_eq r n]

theorem strOpD_eq {o : BinOp} {a b : ByteArray} (h : strOpD o a.data.toList b.data.toList = some v) (hne : o ≠ .add) : strOp o a b = some v := by
  unfold strOp
  unfold strOpD at h
  rw [ByteArray.toList_eq, ByteArray.toList_eq]
  cases o <;> first | exact h | (exact absurd rfl hne) | cases h

/-- the operations that the logic of walks knows -/
theorem opw_move {x : Operand} (hE : EvR ρ e σ) (h : opw tab eqs (.move x) e = some v) : ∃ v', opv T (.move x) σ = some v' ∧ RV ρ v v' := hE x v h
theorem opw_assign {x : Operand} (hE : EvR ρ e σ) (h : opw tab eqs (.assign x) e = some v) : ∃ v', opv T (.assign x) σ = some v' ∧ RV ρ v v' := hE x v h
theorem opw_pick {c x y : Operand} (hE : EvR ρ e σ) (h : opw tab eqs (.pick c x y) e = some v) : ∃ v', opv T (.pick c x y) σ = some v' ∧ RV ρ v v' := by
  simp only [opw, opwBin, opwConvert, opwFieldAddr, opwField, opwIndex, opwIndexAddr, opwBuild, opwSlice, opwLen, opwCap, opwData, opwMax, opwMin] at h
  simp only [opv]
  split at h
  · rename_i hc; obtain ⟨u, h1, h2⟩ := hE _ _ hc; rw [h1, h2.bool]; exact hE _ _ h
  · rename_i hc; obtain ⟨u, h1, h2⟩ := hE _ _ hc; rw [h1, h2.bool]; exact hE _ _ h
  · cases h
theorem opw_nilCheck {x : Operand} (hE : EvR ρ e σ) (h : opw tab eqs (.nilCheck x) e = some v) : ∃ v', opv T (.nilCheck x) σ = some v' ∧ RV ρ v v' := by
  simp only [opw, opwBin, opwConvert, opwFieldAddr, opwField, opwIndex, opwIndexAddr, opwBuild, opwSlice, opwLen, opwCap, opwData, opwMax, opwMin] at h
  simp only [opv]
  split at h
  · rename_i a hc
    cases h
    obtain ⟨u, h1, h2⟩ := hE _ _ hc
    cases h2 with | c h2 => cases h2 with | s h2 => cases h2 with
      | plain h => cases h
      | ptr h => rw [h1]; exact ⟨_, rfl, .c (.s (.ptr h))⟩
  · cases h
theorem opw_not {t : TypeId} {x : Operand} (hE : EvR ρ e σ) (h : opw tab eqs (.unOp .not t x) e = some v) : ∃ v', opv T (.unOp .not t x) σ = some v' ∧ RV ρ v v' := by
  simp only [opw, opwBin, opwConvert, opwFieldAddr, opwField, opwIndex, opwIndexAddr, opwBuild, opwSlice, opwLen, opwCap, opwData, opwMax, opwMin] at h
  simp only [opv]
  split at h
  · rename_i hc; obtain ⟨u, h1, h2⟩ := hE _ _ hc; rw [h1, h2.bool]; cases h; exact ⟨_, rfl, .c (.s (.plain rfl))⟩
  · cases h
theorem opw_neg {t : TypeId} {x : Operand} (hE : EvR ρ e σ) (h : opw tab eqs (.unOp .neg t x) e = some v) : ∃ v', opv T (.unOp .neg t x) σ = some v' ∧ RV ρ v v' := by
  simp only [opw, opwBin, opwConvert, opwFieldAddr, opwField, opwIndex, opwIndexAddr, opwBuild, opwSlice, opwLen, opwCap, opwData, opwMax, opwMin] at h
  simp only [opv]
  split at h
  · rename_i hc; obtain ⟨u, h1, h2⟩ := hE _ _ hc; rw [h1, h2.int]; cases h; exact ⟨_, rfl, .c (.s (.plain rfl))⟩
  · cases h
theorem intOp_plain {o : BinOp} {k : IntKind} {a b : Int} (h : intOp o k a b = some v) : RV ρ v v := by
  refine .c (.s (.plain ?_))
  unfold intOp at h
  cases o <;> first | (cases h; rfl) | (cases h) | (simp only at h; split at h <;> first | (cases h; rfl) | cases h)
theorem strOp_plain {o : BinOp} {a b : ByteArray} (h : strOp o a b = some v) : RV ρ v v := by
  refine .c (.s (.plain ?_))
  unfold strOp at h
  cases o <;> first | (cases h; rfl) | cases h
theorem opw_field {s f : Nat} {x : Operand} (hT : SubT tab T) (hE : EvR ρ e σ) (h : opw tab eqs (.field s x f) e = some v) : ∃ v', opv T (.field s x f) σ = some v' ∧ RV ρ v v' := by
  simp only [opw, opwBin, opwConvert, opwFieldAddr, opwField, opwIndex, opwIndexAddr, opwBuild, opwSlice, opwLen, opwCap, opwData, opwMax, opwMin] at h
  simp only [opv]
  split at h
  · rename_i cs i hc ht
    split at h
    · rename_i off n b hf
      obtain ⟨u, h1, h2⟩ := hE _ _ hc
      obtain ⟨m, rfl, h3⟩ := h2.agg
      have hfa : fieldAt T s f = some (off, n + 1, b) := by
        unfold fieldAt; rw [hT _ _ ht]; rw [nthF_eq] at hf; exact hf
      rw [h1, hfa]
      exact partOf_R h3 h
    · cases h
  · cases h
theorem opw_fieldAddr {s f : Nat} {x : Operand} (hT : SubT tab T) (hE : EvR ρ e σ) (h : opw tab eqs (.fieldAddr s x f) e = some v) : ∃ v', opv T (.fieldAddr s x f) σ = some v' ∧ RV ρ v v' := by
  simp only [opw, opwBin, opwConvert, opwFieldAddr, opwField, opwIndex, opwIndexAddr, opwBuild, opwSlice, opwLen, opwCap, opwData, opwMax, opwMin] at h
  simp only [opv]
  split at h
  · rename_i b o i hc ht
    split at h
    · rename_i off n bb hf
      cases h
      obtain ⟨u, h1, h2⟩ := hE _ _ hc
      obtain ⟨b', s', n', h3, rfl⟩ := h2.ptr
      have hfa : fieldAt T s f = some (off, n + 1, bb) := by
        unfold fieldAt; rw [hT _ _ ht]; rw [nthF_eq] at hf; exact hf
      rw [h1, hfa]
      refine ⟨_, rfl, .c (.s ?_)⟩
      rw [Nat.add_assoc]; exact .ptr h3
    · cases h
  · cases h
theorem opw_extract {x : Operand} {i : Nat} (hE : EvR ρ e σ) (h : opw tab eqs (.extract x i) e = some v) : ∃ v', opv T (.extract x i) σ = some v' ∧ RV ρ v v' := by
  simp only [opw, opwBin, opwConvert, opwFieldAddr, opwField, opwIndex, opwIndexAddr, opwBuild, opwSlice, opwLen, opwCap, opwData, opwMax, opwMin] at h
  simp only [opv]
  split at h
  · rename_i vs hc
    obtain ⟨u, h1, h2⟩ := hE _ _ hc
    obtain ⟨m, rfl, h3⟩ := h2.tuple
    rw [h1]
    rw [nth_eq] at h
    obtain ⟨z, h4, h5⟩ := h3.get h
    refine ⟨z, ?_, .c h5⟩
    simp only [nth_eq]; exact h4
  · cases h
theorem opw_convert {s d : TypeId} {x : Operand} (hSy : SymOk) (hT : SubT tab T) (hE : EvR ρ e σ) (h : opw tab eqs (.convert s d x) e = some v) : ∃ v', opv T (.convert s d x) σ = some v' ∧ RV ρ v v' := by
  simp only [opw, opwBin, opwConvert, opwFieldAddr, opwField, opwIndex, opwIndexAddr, opwBuild, opwSlice, opwLen, opwCap, opwData, opwMax, opwMin] at h
  simp only [opv]
  split at h
  · rename_i k n i hc ht
    split at h
    · rename_i k' hk
      split at h
      · rename_i j hj
        cases h
        obtain ⟨u, h1, h2⟩ := hE _ _ hc
        obtain ⟨k0, s0, b0, z0, a0, f0, e0, eb0, ez0, ea0⟩ := i
        simp only at hk; subst hk
        rw [h1, h2.int, hT _ _ ht, hT _ _ hj]
        exact ⟨_, rfl, .c (.s (.plain rfl))⟩
      · cases h
    · cases h
  · rename_i j i hc ht
    split at h
    · rename_i k' hk
      split at h
      · rename_i j' hj
        obtain ⟨u, h1, h2⟩ := hE _ _ hc
        obtain ⟨k0, x0, rfl, h4⟩ := hSy.conv _ _ _ h _ h2.sym
        obtain ⟨kk, s0, b0, z0, a0, f0, e0, eb0, ez0, ea0⟩ := i
        simp only at hk; subst hk
        rw [h1, hT _ _ ht, hT _ _ hj]
        exact ⟨_, rfl, .c (.s (h4 ρ))⟩
      · cases h
    · cases h
  · cases h

theorem cellEq_R {k : TK} {a b a' b' : Value} {p : Bool} (h : cellEq k a b = some p) (ha : RS ρ a a') (hb : RS ρ b b') : eqVal k a' b' = some p := by
  unfold cellEq at h
  split at h
  · cases ha; cases hb; unfold eqVal; exact h
  · cases ha; cases hb; simp only [eqVal]; rw [ByteArray.toList_eq, ByteArray.toList_eq]; exact h
  · cases ha; cases hb; unfold eqVal; exact h
  · cases h
theorem cellsEq_R : ∀ {ks : List TK} {l m l' m' : List Value} {p : Bool}, cellsEq ks l m = some p → All2 (RS ρ) l l' → All2 (RS ρ) m m' → eqCells ks l' m' = some p := by
  intro ks
  induction ks with
  | nil =>
    intro l m l' m' p h hl hm
    cases hl with
    | nil => cases hm with
      | nil => exact h
      | cons _ _ => simp [cellsEq] at h
    | cons _ _ => cases hm <;> simp [cellsEq] at h
  | cons k ks ih =>
    intro l m l' m' p h hl hm
    cases hl with
    | nil => cases hm <;> simp [cellsEq] at h
    | cons h1 hl => cases hm with
      | nil => simp [cellsEq] at h
      | cons h2 hm =>
        simp only [cellsEq] at h
        split at h
        · rename_i x y hx hy
          cases h
          simp only [eqCells, cellEq_R hx h1 h2, ih hy hl hm]
        · cases h

/-- what an operation comes to, in whatever world -/
def RunsTo (P : Program) (a : Act) (op : Op) (v' : Value) : Prop := ∀ d ty pos af g w, (execOp a.eval ⟨d, op, ty, pos, af, g⟩).run P w = .ok (.value v') w

variable {N : Nat} {a : Act}
theorem of_opv [hT : TabC P T] {op : Op} (ha : Fits N a σ) (h : ∃ v', opv T op σ = some v' ∧ RV ρ v v') : ∃ v', RunsTo P a op v' ∧ RV ρ v v' := by
  obtain ⟨v', h1, h2⟩ := h
  exact ⟨v', fun d ty pos af g w => opv_sound h1 ha d ty pos af g w, h2⟩

theorem RV.boolv {b : Bool} : RV ρ (.bool b) (.bool b) := .c (.s (.plain rfl))

theorem opw_bin [hT : TabC P T] {o : BinOp} {t t' : TypeId} {x y : Operand} (hSy : SymOk) (hS : SubT tab T) (hq : ∀ t ks, eqs t = some ks → EqT P t ks) (ha : Fits N a σ) (hE : EvR ρ e σ) (h : opw tab eqs (.binOp o t x y t') e = some v) :
    ∃ v', RunsTo P a (.binOp o t x y t') v' ∧ RV ρ v v' := by
  simp only [opw, opwBin, opwConvert, opwFieldAddr, opwField, opwIndex, opwIndexAddr, opwBuild, opwSlice, opwLen, opwCap, opwData, opwMax, opwMin] at h
  split at h
  · rename_i k p hx
    split at h
    · rename_i k' q hy
      unfold opwInt at h
      obtain ⟨u1, h1, h2⟩ := hE _ _ hx
      obtain ⟨u2, h3, h4⟩ := hE _ _ hy
      rw [h2.int] at h1; rw [h4.int] at h3
      split at h
      · rename_i p q
        cases h
        refine ⟨.int k (.ofNat (Nat.div p (2 ^ min q k.bits))), fun d ty pos af g w => ?_, .c (.s (.plain rfl))⟩
        have e := shift_shr_any k k' (Int.ofNat p) (Int.ofNat q) (Int.natCast_nonneg q)
        simp only [execOp, ha.ev h1, ha.ev h3, Sem.run_bind, eqGuard, binOp_shr, e]
        simp
        show (p : Int) / 2 ^ min q k.bits = ((p / 2 ^ min q k.bits : Nat) : Int)
        rw [Int.natCast_ediv, Int.natCast_pow]; rfl
      · refine of_opv ha ⟨v, ?_, ?_⟩
        · simp only [opv, h1, h3]; exact h
        · split at h
          · exact intOp_plain h
          · cases h
    · rename_i i hy
      obtain ⟨u1, h1, h2⟩ := hE _ _ hx
      obtain ⟨u2, h3, h4⟩ := hE _ _ hy
      rw [h2.int] at h1
      obtain ⟨x0, u, rfl, h6, h7⟩ := hSy.binl _ _ _ _ _ h _ h4.sym
      refine of_opv ha ⟨u, ?_, .c (.s (h7 ρ))⟩
      simp only [opv, h1, h3, if_true]; exact h6
    · cases h
  · rename_i p hx
    split at h
    · rename_i q hy
      obtain ⟨u1, h1, h2⟩ := hE _ _ hx
      obtain ⟨u2, h3, h4⟩ := hE _ _ hy
      rw [h2.string] at h1; rw [h4.string] at h3
      by_cases hadd : o = .add
      · subst hadd
        simp only [strOpD] at h
        cases hb : Nat.ble (p.data.toList.length + q.data.toList.length) 9223372036854775807 with
        | false => rw [hb] at h; cases h
        | true =>
          rw [hb] at h; cases h
          have hle := Nat.le_of_ble_eq_true hb
          have hsz : ((p.size : Int) + (q.size : Int) ≤ 9223372036854775807) := by
            have e1 : p.data.toList.length = p.size := rfl
            have e2 : q.data.toList.length = q.size := rfl
            rw [e1, e2] at hle
            omega
          refine ⟨.string (p ++ q), fun d ty pos af g w => ?_, ?_⟩
          · simp only [execOp, ha.ev h1, ha.ev h3, Sem.run_bind, eqGuard]
            simp [binOp, Op.stringOp, hsz, IntKind.max, IntKind.signed, IntKind.bits]
          · have e : (⟨(p.data.toList ++ q.data.toList).toArray⟩ : ByteArray) = p ++ q := by
              apply ByteArray.ext; simp
            rw [e]; exact .c (.s (.plain rfl))
      · have h' := strOpD_eq h hadd
        exact of_opv ha ⟨v, by simp only [opv, h1, h3]; exact h', strOp_plain h'⟩
    · cases h
  · rename_i p hx
    split at h
    · rename_i q hy
      unfold opwBool at h
      obtain ⟨u1, h1, h2⟩ := hE _ _ hx
      obtain ⟨u2, h3, h4⟩ := hE _ _ hy
      rw [h2.bool] at h1; rw [h4.bool] at h3
      split at h
      · rename_i ht; cases h
        exact of_opv ha ⟨_, by simp only [opv, h1, h3, hS _ _ ht], RV.boolv⟩
      · rename_i ht; cases h
        exact of_opv ha ⟨_, by simp only [opv, h1, h3, hS _ _ ht], RV.boolv⟩
      · cases h
    · cases h
  · rename_i p hx
    split at h
    · rename_i q hy
      unfold opwAgg at h
      obtain ⟨u1, h1, h2⟩ := hE _ _ hx
      obtain ⟨u2, h3, h4⟩ := hE _ _ hy
      obtain ⟨m1, rfl, h5⟩ := h2.agg
      obtain ⟨m2, rfl, h6⟩ := h4.agg
      split at h
      · rename_i ks hk
        split at h
        · rename_i b hb; cases h
          exact ⟨_, fun d ty pos af g w => eq_run (hq _ _ hk) (cellsEq_R hb h5 h6) ha h1 h3 d w, RV.boolv⟩
        · cases h
      · rename_i ks hk
        split at h
        · rename_i b hb; cases h
          exact ⟨_, fun d ty pos af g w => ne_run (hq _ _ hk) (cellsEq_R hb h5 h6) ha h1 h3 d w, RV.boolv⟩
        · cases h
      · cases h
    · cases h
  · rename_i p hx
    split at h
    · rename_i  hy
      unfold opwPtr at h
      obtain ⟨u1, h1, h2⟩ := hE _ _ hx
      obtain ⟨u2, h3, h4⟩ := hE _ _ hy
      rw [h4.nilp] at h3
      have hu : ∃ p', u1 = .pointer p' ∧ p'.isNone = p.isNone ∧ p'.isSome = p.isSome := by
        cases h2 with | c h2 => cases h2 with | s h2 => cases h2 with
          | plain h => exact ⟨_, rfl, rfl, rfl⟩
          | ptr h => exact ⟨_, rfl, rfl, rfl⟩
      obtain ⟨p', rfl, hp1, hp2⟩ := hu
      split at h
      · rename_i ht; cases h
        obtain ⟨d1, hd, hk1, _⟩ := entry_spec (hT.all.get (hS _ _ ht))
        have := kind_pointer hk1; subst this
        have hp : P.underlying t = some (.pointer (P.pointee t)) := by simp [Program.pointee, hd]
        refine ⟨.bool p'.isNone, fun d ty pos af g w => ?_, by rw [hp1]; exact RV.boolv⟩
        simp only [execOp, ha.ev h1, ha.ev h3, Sem.run_bind, eqGuard]
        simp [run_eql_pointer_nil _ t p' hp]
      · rename_i ht; cases h
        obtain ⟨d1, hd, hk1, _⟩ := entry_spec (hT.all.get (hS _ _ ht))
        have := kind_pointer hk1; subst this
        have hp : P.underlying t = some (.pointer (P.pointee t)) := by simp [Program.pointee, hd]
        refine ⟨.bool p'.isSome, fun d ty pos af g w => ?_, by rw [hp2]; exact RV.boolv⟩
        simp only [execOp, ha.ev h1, ha.ev h3, Sem.run_bind, eqGuard]
        simp [run_neq_pointer_nil _ t p' hp]
      · cases h
    · cases h
  · rename_i p n c hx
    split at h
    · rename_i  hy
      unfold opwSl at h
      obtain ⟨u1, h1, h2⟩ := hE _ _ hx
      obtain ⟨u2, h3, h4⟩ := hE _ _ hy
      have hy2 : u2 = .slice none 0 0 := by
        cases h4 with | c h4 => cases h4 with | s h4 => cases h4; rfl
      have hu : ∃ p' n' c', u1 = .slice p' n' c' ∧ p'.isNone = p.isNone := by
        cases h2 with | c h2 => cases h2 with | s h2 => cases h2 with
          | plain h => exact ⟨_, _, _, rfl, rfl⟩
          | sl h => exact ⟨_, _, _, rfl, rfl⟩
          | slu h => exact ⟨_, _, _, rfl, rfl⟩
          | slz => exact ⟨_, _, _, rfl, rfl⟩
      obtain ⟨p', n', c', rfl, hp1⟩ := hu
      subst hy2
      split at h
      · rename_i ht; cases h
        obtain ⟨d0, hu, hk0, _⟩ := entry_spec (hT.all.get (hS _ _ ht))
        have hd1 := kind_slice hk0; subst hd1
        refine ⟨.bool p'.isNone, fun d ty pos af g w => ?_, by rw [hp1]; exact RV.boolv⟩
        simp only [execOp, ha.ev h1, ha.ev h3, Sem.run_bind, eqGuard, Lib.run_eql_slice_nil w _ _ p' n' c' 0 0 hu]
        simp [Lib.run_eql_slice_nil w _ _ p' n' c' 0 0 hu]
      · cases h
    · cases h
  · rename_i i hx
    split at h
    · rename_i k b hy
      obtain ⟨u1, h1, h2⟩ := hE _ _ hx
      obtain ⟨u2, h3, h4⟩ := hE _ _ hy
      rw [h4.int] at h3
      obtain ⟨x0, u, rfl, h6, h7⟩ := hSy.bin _ _ _ _ _ h _ h2.sym
      refine of_opv ha ⟨u, ?_, .c (.s (h7 ρ))⟩
      simp only [opv, h1, h3, if_true]; exact h6
    · rename_i j hy
      obtain ⟨u1, h1, h2⟩ := hE _ _ hx
      obtain ⟨u2, h3, h4⟩ := hE _ _ hy
      obtain ⟨k0, a0, b0, u, rfl, rfl, h6, h7⟩ := hSy.bins _ _ _ _ h _ _ h2.sym h4.sym
      refine of_opv ha ⟨u, ?_, .c (.s (h7 ρ))⟩
      simp only [opv, h1, h3, if_true]; exact h6
    · cases h
  · cases h

theorem RV.sl {b o n c : Nat} {u : Value} (h : RV ρ (.slice (some ⟨b, o, none⟩) n c) u) : ∃ b' o' c', u = .slice (some ⟨b', o', none⟩) n c' ∧ n ≤ c' ∧ (n = 0 ∨ ∃ s m, ρ b = some (b', s, m) ∧ o' = s + o) := by
  cases h with | c h => cases h with | s h => cases h with
    | plain h => cases h
    | sl h hc hn hm => exact ⟨_, _, _, rfl, hn, .inr ⟨_, _, h, rfl⟩⟩
    | slu h ht hn hm => exact ⟨_, _, _, rfl, hn, .inr ⟨_, _, h, rfl⟩⟩
    | slz => exact ⟨_, _, _, rfl, Nat.le_refl _, .inl rfl⟩

theorem ofNat_int {k : IntKind} {i : Nat} {u : Value} (h : RV ρ (.int k (.ofNat i)) u) : u = .int k (i : Int) := h.int

theorem opw_indexAddr [hT : TabC P T] {t : TypeId} {x y : Operand} (hS : SubT tab T) (ha : Fits N a σ) (hE : EvR ρ e σ) (h : opw tab eqs (.indexAddr t x y) e = some v) : ∃ v', RunsTo P a (.indexAddr t x y) v' ∧ RV ρ v v' := by
  simp only [opw, opwBin, opwConvert, opwFieldAddr, opwField, opwIndex, opwIndexAddr, opwBuild, opwSlice, opwLen, opwCap, opwData, opwMax, opwMin] at h
  split at h
  · rename_i b o k i n ee s1 s2 s3 s4 s5 es s6 s7 s8 hx hy ht
    obtain ⟨u1, h1, h2⟩ := hE _ _ hx
    obtain ⟨u2, h3, h4⟩ := hE _ _ hy
    obtain ⟨b', s', n', h5, rfl⟩ := h2.ptr
    rw [ofNat_int h4] at h3
    cases hb : Nat.blt i n with
    | false => rw [hb] at h; cases h
    | true =>
      rw [hb] at h; cases h
      refine of_opv ha ⟨.pointer (some ⟨b', s' + o + i * es, none⟩), ?_, ?_⟩
      · simp only [opv, h1, h3, hS _ _ ht]
        show (bif Nat.blt i n then _ else _) = _
        rw [hb]; rfl
      · rw [Nat.add_assoc]; exact .c (.s (.ptr h5))
  · rename_i b o n c k i ee s1 s2 s3 s4 s5 es s6 s7 s8 hx hy ht
    obtain ⟨u1, h1, h2⟩ := hE _ _ hx
    obtain ⟨u2, h3, h4⟩ := hE _ _ hy
    obtain ⟨b', o', c', rfl, hnc, hlk⟩ := h2.sl
    rw [ofNat_int h4] at h3
    cases hb : Nat.blt i n with
    | false => rw [hb] at h; cases h
    | true =>
      rw [hb] at h; cases h
      have hlt : i < n := by simpa using hb
      rcases hlk with h0 | ⟨s', m, h5, rfl⟩
      · omega
      refine ⟨.pointer (some ⟨b', s' + o + i * es, none⟩), fun d ty pos af g w => ?_, by rw [Nat.add_assoc]; exact .c (.s (.ptr h5))⟩
      simp only [execOp, ha.ev h1, ha.ev h3, Sem.run_bind]
      rw [ix_run (hS _ _ ht) rfl (by omega) (by omega), add_addr]
      rfl
  · cases h

theorem slE_run [hT : TabC P T] {t ee : TypeId} {i : TI} {x : Operand} {lo hi : Option Operand} {zl zh : Int} {p : Option Addr} {n cap : Nat} (ht : tk T t = some i) (hd : i.kind = .slice ee) (hx : ev σ x = some (.slice p n cap)) (hnc : n ≤ cap)
    (hlo : bdOk σ lo zl 0) (hhi : bdOk σ hi zh n) (hk : subOk n zl zh = true) (ha : Fits N a σ) :
    RunsTo P a (.slice t x lo hi none) (.slice (if cap = zl.toNat then p else p.map (·.add (zl.toNat * i.esize))) (zh.toNat - zl.toNat) (cap - zl.toNat)) := fun dd ty pos af g w => by
  obtain ⟨d0, hu, hk0, _, _, _, he⟩ := entry_spec (hT.all.get ht)
  have hd1 := kind_slice (hk0.trans hd)
  rw [hd1] at hu
  obtain ⟨⟨j, hj, hjs, _⟩, _⟩ := he ee (by rw [hd]; rfl)
  obtain ⟨h0, h1, h2⟩ := subOk_le hk
  have hzh : 0 ≤ zh := by omega
  have hzc : zh ≤ (cap : Int) := by omega
  have e1 : ((zh.toNat : Nat) : Int) = zh := Int.toNat_of_nonneg hzh
  cases lo with
  | none =>
    have hlo : zl = 0 := hlo
    subst hlo
    cases hi with
    | none =>
      have hhi : zh = (n : Int) := hhi
      subst hhi
      simp [execOp, ha.ev hx, Instr.sliceAt, Instr.slice, underlying_run hu, Instr.sliceBounds, sizeOf, typeInfo, hj, hjs]
    | some y =>
      obtain ⟨k, hy⟩ := hhi
      simp [execOp, ha.ev hx, ha.ev hy, Instr.sliceAt, Instr.slice, underlying_run hu, Instr.sliceBounds, Instr.sliceBound, asIntOf, sizeOf, typeInfo, hj, hjs, hzh, hzc]
  | some q =>
    obtain ⟨kq, hq⟩ := hlo
    cases hi with
    | none =>
      have hhi : zh = (n : Int) := hhi
      subst hhi
      simp [execOp, ha.ev hx, ha.ev hq, Instr.sliceAt, Instr.slice, underlying_run hu, Instr.sliceBounds, Instr.sliceBound, asIntOf, sizeOf, typeInfo, hj, hjs, h0, h1]
    | some y =>
      obtain ⟨k, hy⟩ := hhi
      simp [execOp, ha.ev hx, ha.ev hy, ha.ev hq, Instr.sliceAt, Instr.slice, underlying_run hu, Instr.sliceBounds, Instr.sliceBound, asIntOf, sizeOf, typeInfo, hj, hjs, hzh, hzc, h0, e1, h1]

theorem bnd_R {o : Option Operand} {d k : Nat} (hE : EvR ρ e σ) (h : opw.bnd e o d = some k) : bdOk σ o (k : Int) (d : Int) := by
  unfold opw.bnd at h
  unfold bdOk
  split at h
  · cases h; rfl
  · split at h
    · rename_i y q z hy
      cases h
      obtain ⟨u, h1, h2⟩ := hE _ _ hy
      rw [ofNat_int h2] at h1
      exact ⟨_, h1⟩
    · cases h

theorem plain_nil {n c : Nat} (h : plainV (.slice none n c) = true) : n = 0 ∧ c = 0 := by
  cases n <;> cases c <;> simp_all [plainV]

theorem opw_slice [hT : TabC P T] {t : TypeId} {x : Operand} {lo hi : Option Operand} (hS : SubT tab T) (ha : Fits N a σ) (hE : EvR ρ e σ) {p : Option Addr} {n c : Nat} (hx : e x = some (.slice p n c)) (h : opw tab eqs (.slice t x lo hi none) e = some v) :
    ∃ v', RunsTo P a (.slice t x lo hi none) v' ∧ RV ρ v v' := by
  simp only [opw, opwBin, opwConvert, opwFieldAddr, opwField, opwIndex, opwIndexAddr, opwBuild, opwSlice, opwLen, opwCap, opwData, opwMax, opwMin, hx] at h
  split at h
  · rename_i l hh ee s1 s2 s3 s4 s5 es s6 s7 s8 hlo hhi ht
    cases hb : (Nat.ble l hh && Nat.ble hh n) with
    | false => rw [hb] at h; cases h
    | true =>
      rw [hb] at h
      simp only [cond_true] at h
      simp only [Bool.and_eq_true] at hb
      have hb1 := Nat.le_of_ble_eq_true hb.1
      have hb2 := Nat.le_of_ble_eq_true hb.2
      obtain ⟨u, h1, h2⟩ := hE _ _ hx
      have hsub : subOk n (l : Int) (hh : Int) = true := by simp [subOk]; omega
      have hl' := bnd_R hE hlo
      have hh' := bnd_R hE hhi
      split at h
      · rename_i b o
        have hr : ∀ (b' o' c' : Nat), u = .slice (some ⟨b', o', none⟩) n c' → n ≤ c' → RunsTo P a (.slice t x lo hi none) (.slice (some ⟨b', if c' = l then o' else o' + l * es, none⟩) (hh - l) (c' - l)) := by
          intro b' o' c' hu hnc
          subst hu
          have := slE_run (P := P) (hS _ _ ht) rfl h1 hnc hl' hh' hsub ha
          simp only [Int.toNat_natCast] at this
          have e3 : (if c' = l then some (⟨b', o', none⟩ : Addr) else (some (⟨b', o', none⟩ : Addr)).map (·.add (l * es))) = some ⟨b', if c' = l then o' else o' + l * es, none⟩ := by
            split <;> simp [add_addr]
          rw [e3] at this
          exact this
        cases h2 with | c h2 => cases h2 with | s h2 => cases h2 with
          | plain h => cases h
          | sl hρ hc hn hm =>
            rw [hc] at h
            simp only [cond_false, Option.some.injEq] at h
            subst h
            refine ⟨_, hr _ _ _ rfl hn, .c (.s ?_)⟩
            by_cases hcl : c = l
            · have : Nat.beq c l = true := by subst hcl; simp
              rw [if_pos hcl, this]
              refine .sl hρ ?_ (by omega) (by omega)
              cases hq : Nat.ble unk (c - l) with
              | false => rfl
              | true => have := Nat.le_of_ble_eq_true hq; have h9 : ¬ unk ≤ c := fun h => by rw [Nat.ble_eq_true_of_le h] at hc; cases hc
                        omega
            · have : Nat.beq c l = false := by cases hq : Nat.beq c l with
                | false => rfl
                | true => exact absurd (Nat.eq_of_beq_eq_true hq) hcl
              rw [if_neg hcl, this, Nat.add_assoc]
              refine .sl hρ ?_ (by omega) (by omega)
              cases hq : Nat.ble unk (c - l) with
              | false => rfl
              | true => have := Nat.le_of_ble_eq_true hq; have h9 : ¬ unk ≤ c := fun h => by rw [Nat.ble_eq_true_of_le h] at hc; cases hc
                        omega
          | @slu _ _ _ z c' b' s m hρ htot hn hm =>
            rw [Nat.ble_eq_true_of_le (Nat.le_add_right _ _)] at h
            simp only [cond_true] at h
            cases hz : Nat.beq (unk + z) (unk + es) with
            | false => rw [hz] at h; cases h
            | true =>
              rw [hz] at h
              simp only [cond_true, Option.some.injEq] at h
              subst h
              have hz' : z = es := by have := Nat.eq_of_beq_eq_true hz; omega
              subst hz'
              refine ⟨_, hr _ _ _ rfl hn, .c (.s ?_)⟩
              by_cases hcl : c' = l
              · rw [if_pos hcl, show hh - l = 0 by omega, show c' - l = 0 by omega]
                exact .slz
              · rw [if_neg hcl, Nat.add_assoc]
                refine .slu hρ ?_ (by omega) (by omega)
                have : (c' - l) * z + l * z = c' * z := by rw [← Nat.add_mul]; congr 1; omega
                omega
          | @slz _ _ z b' o' =>
            rw [Nat.ble_eq_true_of_le (Nat.le_add_right _ _)] at h
            simp only [cond_true] at h
            cases hz : Nat.beq (unk + z) (unk + es) with
            | false => rw [hz] at h; cases h
            | true =>
              rw [hz] at h
              simp only [cond_true, Option.some.injEq] at h
              subst h
              have e0 : l = 0 := by omega
              refine ⟨_, hr _ _ _ rfl (Nat.le_refl _), .c (.s ?_)⟩
              rw [show hh - l = 0 by omega, show 0 - l = 0 by omega]
              exact .slz
      · cases hq : Nat.beq c 0 with
        | false => rw [hq] at h; cases h
        | true =>
          rw [hq] at h
          cases h
          have hu : u = .slice none 0 0 ∧ n = 0 ∧ c = 0 := by
            cases h2 with | c h2 => cases h2 with | s h2 => cases h2 with
              | plain h => obtain ⟨rfl, rfl⟩ := plain_nil h; exact ⟨rfl, rfl, rfl⟩
          obtain ⟨rfl, rfl, rfl⟩ := hu
          have := slE_run (P := P) (hS _ _ ht) rfl h1 (Nat.le_refl _) hl' hh' hsub ha
          have e0 : l = 0 := by omega
          have e1 : hh = 0 := by omega
          subst e0; subst e1
          exact ⟨_, this, .c (.s (.plain rfl))⟩
      · cases h
  · cases h
end
end Go.Ev
