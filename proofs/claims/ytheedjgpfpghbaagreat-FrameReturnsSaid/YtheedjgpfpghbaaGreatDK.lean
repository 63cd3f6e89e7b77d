/- A deterministic evaluator: regions that draw nothing. -/
import Derived.Test.YtheedjgpfpghbaaGreatDJ
set_option linter.unusedVariables false
set_option linter.unusedSectionVars false
set_option linter.unusedSimpArgs false
namespace Go.Ev
open Go Go.Fw
variable [Sym]

/-- the tables tell of the program -/
structure Ctx (P : Program) (T : Tab) (tab : Nat → Option TI) (eqs : Nat → Option (List TK)) (zt : Nat → Option Value) : Prop where
  sym : SymOk
  sub : SubT tab T
  eqt : ∀ t ks, eqs t = some ks → EqT P t ks
  zero : ∀ t i, tab t = some i → i.zero.all plainV = true
  ezero : ∀ t i, tab t = some i → i.ezero.all plainV = true
  zt : ∀ t z, zt t = some z → (∀ w : World, (zeroValue t).run P w = .ok z w) ∧ plainC z = true

abbrev CallT := Nat → List Value → Mem → Option (Value × Mem)

/-- what a call comes to -/
def RetR (K : KM) (L : Chunks) (ρ : Rho) (M : Mem) (v : Value) (M' : Mem) : Ending → World → Prop := Ret fun u w' => ∃ ρ', Rho.up M M' ρ ρ' ∧ RV ρ' v u ∧ World.Is w' K L ρ' M'

/-- calls are what they are told to be -/
def CallOk (P : Program) (K : KM) (call : CallT) : Prop := ∀ f args M v M', call f args M = some (v, M') → ∀ ρ L w (rs : List Value), All2 (RV ρ) args rs → World.Is w K L ρ M →
  (callFunc f rs.toArray).run P w = .ok (.enter f rs.toArray) w ∧ Calls P f rs.toArray w (RetR K L ρ M v M')

section
variable {P : Program} {T : Tab} {ρ ρ' : Rho} {tab : Nat → Option TI} {eqs : Nat → Option (List TK)} {zt : Nat → Option Value} {N : Nat} {a : Act} {S S' : Tr Value} {w : World} {K : KM} {L : Chunks} {M M' : Mem}
  {call : CallT} {e : Operand → Option Value} {v : Value} {l : List Oper} {Q : Exit → Act → World → Prop} {σ : Slots} {X : Act → World → Prop}

theorem RV.undef : RV ρ Go.undef Go.undef := .tup .nil

theorem wp_mrun {o : Oper} (h : MRun P a o.op w K L ρ M v M') (next : ∀ u w' ρ', Rho.up M M' ρ ρ' → RV ρ' v u → World.Is w' K L ρ' M' → X (a.put o.dst u) w') : o.wp P a w X Q := by
  obtain ⟨u, w', ρ', h1, h2, h3, h4⟩ := h
  unfold Oper.wp
  rw [show o = ⟨o.dst, o.op, o.type, o.pos, o.after, o.guard⟩ from rfl, h1, Oper.upon_value]
  exact next u w' ρ' h2 h3 h4

theorem wp_mskip {o : Oper} (h : MSkip P a o.op w K L ρ M M') (next : ∀ u w' ρ', Rho.up M M' ρ ρ' → RV ρ' Go.undef u → World.Is w' K L ρ' M' → X (a.put o.dst u) w') : o.wp P a w X Q := by
  obtain ⟨w', ρ', h1, h2, h4⟩ := h
  unfold Oper.wp
  rw [show o = ⟨o.dst, o.op, o.type, o.pos, o.after, o.guard⟩ from rfl, h1, Oper.upon_skip]
  exact next _ w' ρ' h2 .undef h4

theorem wp_runs {o : Oper} {u : Value} (h : RunsTo P a o.op u) (next : X (a.put o.dst u) w) : o.wp P a w X Q := by
  unfold Oper.wp
  rw [show o = ⟨o.dst, o.op, o.type, o.pos, o.after, o.guard⟩ from rfl, h, Oper.upon_value]
  exact next

theorem RV.func {f : Fn} {u : Value} {first caps : Array Value} (h : RV ρ (.func f first caps) u) : ∃ m : List Value, u = .func f #[] m.toArray ∧ All2 (RS ρ) caps.toList m ∧ first = #[] := by
  cases h with
  | c h => cases h with
    | s h => cases h with
      | plain h => cases h
      | fn h => exact ⟨_, rfl, by simpa using h.imp fun _ _ h => h.up, rfl⟩

theorem wp_call {o : Oper} {f : Operand} {args : Array Operand} {ts : Array TypeId} (ho : o.op = .call ⟨.value f, args, ts⟩) (hc : CallOk P K call) (ha : Fits N a σ) (hE : EvR ρ e σ) (hW : World.Is w K L ρ M)
    (h : opm tab zt call (.call ⟨.value f, args, ts⟩) e M = some (v, M')) (next : ∀ u w' ρ', Rho.up M M' ρ ρ' → RV ρ' v u → World.Is w' K L ρ' M' → X (a.put o.dst u) w') : o.wp P a w X Q := by
  simp only [opm, opmLoad, opmStore, opmBuildSlice, opmMakeSlice, opmUpdate, opmInsert, opmLookup, opmAppend, opmClear, opmCopy] at h
  split at h
  · rename_i g first caps vs hf hvs
    obtain ⟨u, h1, h2⟩ := hE _ _ hf
    obtain ⟨m, rfl, hm, hfi⟩ := h2.func
    have hr := (evsD_R ha hE hvs).append (hm.imp fun _ _ h => RV.c (.s h))
    obtain ⟨h3, h4⟩ := hc _ _ _ _ _ h ρ L w _ hr hW
    unfold Oper.wp
    have e : (execOp a.eval o).run P w = .ok (.enter g (args.toList.map a.eval ++ m).toArray) w := by
      unfold execOp
      rw [ho]
      have e3 : args.map a.eval ++ m.toArray = (args.toList.map a.eval ++ m).toArray := by apply Array.ext'; simp
      simp only [resolve, ha.ev h1, Deferred.ofValue, invoke, Sem.run_bind, Sem.run_pure, Result.andThen_ok, Array.empty_append, e3, h3]
    rw [e, Oper.upon_enter]
    refine h4.mono fun en w' hen => ?_
    cases en with
    | returned u =>
      obtain ⟨ρ', h5, h6, h7⟩ := hen
      exact next u w' ρ' h5 h6 h7
    | panicked _ => exact hen.elim
    | outgrown => exact hen.elim
  · cases h

/-- one operation comes to what it is told to come to -/
theorem step_op [hT : TabC P T] (hX : Ctx P T tab eqs zt) (hc : CallOk P K call) {o : Oper} (ha : Fits N a σ) (hE : EvR ρ e σ) (hW : World.Is w K L ρ M)
    (h : opD tab eqs zt call o.op e M = some (v, M')) (next : ∀ u w' ρ', Rho.up M M' ρ ρ' → RV ρ' v u → World.Is w' K L ρ' M' → X (a.put o.dst u) w') : o.wp P a w X Q := by
  unfold opD at h
  cases hm : isMem o.op with
  | false =>
    rw [hm] at h
    simp only [cond_false] at h
    split at h
    · rename_i v0 hv
      cases h
      obtain ⟨u, h1, h2⟩ := opw_sound hX.sym hX.sub hX.eqt hX.zero ha hE hv
      exact wp_runs h1 (next u w ρ (.same (Nat.le_refl _)) h2 hW)
    · cases h
  | true =>
    rw [hm] at h
    simp only [cond_true] at h
    cases hb : Nat.blt M.nx 1000000 with
    | false => rw [hb] at h; cases h
    | true =>
      rw [hb] at h
      simp only [cond_true] at h
      have hlim : M.nx < 1000000 := by simpa using hb
      split at h
      · rename_i v0 M0 h0
        cases h
        revert h0 next
        generalize hop : o.op = op at hm ⊢
        intro next h0
        have run : isSkip op = false → MRun P a o.op w K L ρ M v0 M' → o.wp P a w X Q := fun hs hr => wp_mrun hr (by rw [hs] at next; exact next)
        have skip : isSkip op = true → MSkip P a o.op w K L ρ M M' → o.wp P a w X Q := fun hs hr => wp_mskip hr (by rw [hs] at next; exact next)
        rw [hop] at run skip
        cases op with
        | load t x => exact run rfl ((opm_load hX.sub ha hE hW h0).run hW)
        | store t x y => exact skip rfl (opm_store hlim hX.sub ha hE hW h0)
        | alloc t => exact run rfl (opm_alloc hlim hX.sub hX.zero ha hW h0)
        | box t x => exact run rfl (opm_box hlim ha hE hW h0)
        | buildSlice t n ps => exact run rfl (opm_buildSlice hlim hX.sub ha hE hW h0)
        | makeSlice t x y => exact run rfl (opm_makeSlice hlim hX.sub hX.ezero ha hE hW h0)
        | makeMap t x =>
          cases x with
          | none => exact run rfl (opm_makeMap hlim hW h0)
          | some x => simp only [opm, opmLoad, opmStore, opmBuildSlice, opmMakeSlice, opmUpdate, opmInsert, opmLookup, opmAppend, opmClear, opmCopy] at h0; cases h0
        | mapUpdate t m k x => exact skip rfl (opm_mapUpdate hlim hX.sub ha hE hW h0)
        | insert t m k x => exact skip rfl (opm_insert hlim hX.sub ha hE hW h0)
        | lookup t m k ok => exact run rfl ((opm_lookup hX.sub hX.zt ha hE hW h0).run hW)
        | makeFunc f fi cs => exact run rfl ((opm_makeFunc ha hE hW h0).run hW)
        | call c =>
          obtain ⟨cal, args, ts⟩ := c
          cases cal with
          | value f => exact wp_call hop hc ha hE hW h0 next
          | invoke r m => cases hm
          | builtin b =>
            cases b with
            | append => exact run rfl (opm_append hlim hX.sub ha hE hW h0)
            | clear => exact run rfl (opm_clear hlim hX.sub hX.ezero ha hE hW h0)
            | copy => exact run rfl (opm_copy hlim hX.sub ha hE hW h0)
            | unsafeString => exact run rfl (opm_text hlim hX.sub ha hE hW h0)
            | _ => cases hm
        | _ => cases hm
      · cases h

theorem RV.bool' {b : Bool} {x : Value} (h : RV ρ x (.bool b)) (hn : ∀ r, x ≠ .chan r) : x = .bool b := by
  cases h with | c h => cases h with | s h => cases h with
    | plain h => rfl
    | sym _ _ => exact absurd rfl (hn _)
    | any _ => exact absurd rfl (hn _)

theorem gdD_gd {b : Bool} {g : Option (Nat × Bool)} (ha : FrR ρ N S a) (h : gdD l S g = some b) : gd l (slotsOf a) g = some b := by
  unfold gdD at h
  unfold gd
  split at h
  · exact h
  · rename_i j want
    simp only
    split at h
    · rename_i o ho
      rw [ho]
      simp only
      split at h
      · rename_i t ht
        rw [ht]
        simp only
        split at h
        · rename_i c hv
          obtain ⟨u, h1, h2⟩ := ha.slot _ _ hv
          rw [h2.bool] at h1
          rw [lk_slotsOf, h1]; exact h
        · cases h
        · rename_i x hnb hnc hv
          obtain ⟨u, h1, h2⟩ := ha.slot _ _ hv
          rw [lk_slotsOf, h1]
          cases u with
          | bool c => exact absurd (h2.bool' fun r e => hnc r e) (hnb c)
          | _ => exact h
        · cases h
      · cases h
    · cases h

/-- a region in its textual order -/
theorem opsD_sound [hT : TabC P T] (hX : Ctx P T tab eqs zt) (hc : CallOk P K call) (hN : N ≤ 1000000) : ∀ (r : List Oper) (ρ : Rho) (S : Tr Value) (M : Mem) (a : Act) (w : World), FrR ρ N S a → World.Is w K L ρ M → opsD tab eqs zt N call l r S M = some (S', M') →
    (∀ a' w' ρ', Rho.up M M' ρ ρ' → FrR ρ' N S' a' → World.Is w' K L ρ' M' → Q .normal a' w') → wpList P l.toArray Q r a w
  | [], ρ, S, M, a, w, ha, hW, h, next => by
    cases h
    exact next a w ρ (.same (Nat.le_refl _)) ha hW
  | o :: r, ρ, S, M, a, w, ha, hW, h, next => by
    rw [show opsD tab eqs zt N call l (o :: r) S M = stepD tab eqs zt N call l o (opsD tab eqs zt N call l r) S M from rfl] at h
    unfold stepD at h
    unfold wpList
    split at h
    · rename_i hg
      rw [gd_sound (gdD_gd ha hg) ha.fits, if_pos rfl]
      split at h
      · rename_i v0 M0 h0
        split at h
        · rename_i S0 hS0
          refine .inl (step_op hX hc ha.fits ha.ev hW h0 fun u w' ρ' h1 h2 h3 => ?_)
          exact opsD_sound hX hc hN r ρ' S0 M0 _ w' ((ha.mono h1.le).put hN h2 hS0) h3 h fun a' w'' ρ'' h4 => next a' w'' ρ'' (h1.trans h4)
        · cases h
      · cases h
    · rename_i hg
      rw [gd_sound (gdD_gd ha hg) ha.fits]
      split at h
      · rename_i S0 hS0
        exact opsD_sound hX hc hN r ρ S0 M _ w (ha.put hN .undef hS0) hW h next
      · cases h
    · cases h
end
end Go.Ev
