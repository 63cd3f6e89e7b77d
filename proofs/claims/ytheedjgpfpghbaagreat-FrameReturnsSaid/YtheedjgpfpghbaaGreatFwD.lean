/- A small logic of walks: control, calls, slices. -/
import Derived.Test.YtheedjgpfpghbaaGreatFwC
import Derived.Laws.AppendOwn
import Derived.Laws.MakeOwn
set_option linter.unusedVariables false
set_option linter.unusedSimpArgs false
namespace Go.Fw
open Go

/-! ### groups: pick, drop, bring forward -/

def selG (G : List Chunks) : List Nat → List Chunks
  | [] => []
  | k :: r => match nthG G k with
    | some C => C :: selG G r
    | none => selG G r

def memN (k : Nat) : List Nat → Bool
  | [] => false
  | j :: r => Nat.beq k j || memN k r

def nodupN : List Nat → Bool
  | [] => true
  | k :: r => !memN k r && nodupN r

theorem memN_eq (k : Nat) (l : List Nat) : memN k l = true ↔ k ∈ l := by
  induction l with
  | nil => simp [memN]
  | cons j r ih => simp [memN, ih, Nat.beq_eq]

theorem nodupN_eq (l : List Nat) : nodupN l = true ↔ l.Nodup := by
  induction l with
  | nil => simp [nodupN]
  | cons j r ih => simp [nodupN, ih, List.nodup_cons, ← memN_eq]

def clearG : List Chunks → Nat → List Chunks
  | [], _ => []
  | _ :: r, 0 => [] :: r
  | p :: r, n + 1 => p :: clearG r n

theorem nthG_clear_ne {G : List Chunks} {k j : Nat} (h : j ≠ k) : nthG (clearG G k) j = nthG G j := by
  induction G generalizing k j with
  | nil => cases k <;> rfl
  | cons q r ih => cases k with
    | zero => cases j with
      | zero => exact absurd rfl h
      | succ j => rfl
    | succ k => cases j with
      | zero => rfl
      | succ j => exact ih (fun e => h (by rw [e]))

theorem clearG_perm {G : List Chunks} {k : Nat} {C : Chunks} (h : nthG G k = some C) : (flat G).Perm (C ++ flat (clearG G k)) := by
  induction G generalizing k with
  | nil => cases h
  | cons q r ih => cases k with
    | zero => simp [nthG] at h; subst h; exact .refl _
    | succ k => exact ((ih h).append_left q).trans (List.perm_append_comm_assoc q C _)

theorem sel_split : ∀ (π : List Nat) (G : List Chunks), π.Nodup → ∃ R, (flat G).Perm (flat (selG G π) ++ R) := by
  intro π
  induction π with
  | nil => intro G _; exact ⟨flat G, .refl _⟩
  | cons k r ih =>
    intro G hn
    have hn' := List.nodup_cons.1 hn
    cases h : nthG G k with
    | none => simp only [selG, h]; exact ih G hn'.2
    | some C =>
      simp only [selG, h]
      obtain ⟨R, hR⟩ := ih (clearG G k) hn'.2
      have e : selG (clearG G k) r = selG G r := by
        clear hR ih
        induction r with
        | nil => rfl
        | cons j r ihr =>
          have hne : j ≠ k := fun e => hn'.1 (e ▸ List.mem_cons_self ..)
          simp only [selG, nthG_clear_ne hne]
          have hn2 := List.nodup_cons.1 hn'.2
          rw [ihr (List.nodup_cons.2 ⟨fun h => hn'.1 (List.mem_cons_of_mem _ h), hn2.2⟩) ⟨fun h => hn'.1 (List.mem_cons_of_mem _ h), hn2.2⟩]
      rw [e] at hR
      exact ⟨R, (clearG_perm h).trans (by rw [flat, List.append_assoc]; exact hR.append_left C)⟩

theorem Sat.sub {w : World} {K : KM} {L L' R : Chunks} (h : Sat w K L) (hp : L.Perm (L' ++ R)) : Sat w K L' := by
  have h' := h.perm hp
  refine ⟨h'.kept, fun p hm => h'.owned p (List.mem_append_left _ hm), fun p hm => h'.apart p (List.mem_append_left _ hm), ?_, h'.os, h'.tape, h'.output⟩
  have := h'.nodup
  rw [List.map_append] at this
  exact (List.nodup_append.1 this).1

/-- pick groups by their numbers; the others are let go -/
theorem Sat.sel {w : World} {K : KM} {G : List Chunks} (h : Sat w K (flat G)) (π : List Nat) (hn : nodupN π = true) : Sat w K (flat (selG G π)) := by
  obtain ⟨R, hR⟩ := sel_split π G ((nodupN_eq π).1 hn)
  exact h.sub hR

theorem flat_append (G H : List Chunks) : flat (G ++ H) = flat G ++ flat H := by
  induction G with
  | nil => rfl
  | cons g r ih => simp [flat, ih]

/-- a group's groups -/
theorem Sat.open {w : World} {K : KM} {G H : List Chunks} (h : Sat w K (flat (flat G :: H))) : Sat w K (flat (G ++ H)) := by
  rw [flat_append]; exact h

theorem Sat.shut {w : World} {K : KM} (G : List Chunks) {H : List Chunks} (h : Sat w K (flat (G ++ H))) : Sat w K (flat (flat G :: H)) := by
  rw [flat_append] at h; exact h

theorem Sat.freezeG {w : World} {K : KM} {p : Nat × Obj} {G : List Chunks} (h : Sat w K (flat ([p] :: G))) : Sat w (K.with p) (flat G) := Sat.freeze h

theorem Sat.leG {w : World} {K : KM} {p : Nat × Obj} {G : List Chunks} (h : Sat w K (flat ([p] :: G))) : KM.le K (K.with p) := KM.le.with (h.apart p (List.mem_cons_self ..))

/-! ### contracts -/

def Ret (R : Value → World → Prop) : Ending → World → Prop
  | .returned v, w => R v w
  | _, _ => False

/-- what a call comes to: it takes the chunks A, K stays, and whatever else is owned stays -/
def Sp (P : Program) (f : FuncId) (args : List Value) (K : KM) (A : Chunks) (R : KM → Chunks → Value → Prop) : Prop :=
  ∀ w L, Sat w K (flat [A, L]) → Calls P f args.toArray w (Ret fun v w' => ∃ K' C, KM.le K K' ∧ R K' C v ∧ Sat w' K' (flat [C, L]))

/-- a function of the program -/
structure IsFn (P : Program) (f : FuncId) (fn : Func) (c : Code) : Prop where
  func : P.funcs[f]? = some fn
  body : fn.body = some c
  name : (fn.name == "runtime.NumGoroutine") = false

theorem IsFn.call {P : Program} {f : FuncId} {fn : Func} {c : Code} (h : IsFn P f fn c) (args : Array Value) (w : World) : (callFunc f args).run P w = .ok (.enter f args) w := by
  unfold callFunc
  simp only [Sem.run_bind, run_program, Result.andThen_ok, h.func, h.name, Bool.false_eq_true, if_false, h.body, Option.isNone_some]
  rfl

def argSlots : List Value → Nat → Slots
  | [], _ => []
  | v :: r, n => (n, v) :: argSlots r (n + 1)

theorem argSlots_lk (l : List Value) : ∀ n t v, lk (argSlots l n) t = some v → n ≤ t ∧ l[t - n]? = some v := by
  induction l with
  | nil => intro n t v h; cases h
  | cons u r ih =>
    intro n t v h
    simp only [argSlots, lk] at h
    cases hb : Nat.beq n t with
    | true =>
      rw [hb] at h
      have := Nat.eq_of_beq_eq_true hb; subst this
      simp at h; subst h
      simp
    | false =>
      rw [hb] at h
      have hne := Nat.ne_of_beq_eq_false hb
      obtain ⟨h1, h2⟩ := ih (n + 1) t v (by simpa using h)
      refine ⟨by omega, ?_⟩
      rw [show t - n = (t - (n + 1)) + 1 by omega]
      simpa using h2

section
variable {P : Program} {T : Tab} {N : Nat} {σ : Slots} {w : World} {l : List Oper} {Q : Exit → Act → World → Prop} {rest : List Oper} {g : Option (Nat × Bool)}
  {ty : TypeId} {pos : String} {af : Array Edge} {op : Op} {d : Tmp} {K : KM} {L : Chunks} {G : List Chunks}

/-- a function is entered -/
theorem spec_enter {f : FuncId} {fn : Func} {c : Code} {args : List Value} {A : Chunks} {R : KM → Chunks → Value → Prop} (hf : IsFn P f fn c) (hn : Nat.ble args.length fn.ntmps = true)
    (h : ∀ w L, Sat w K (flat [A, L]) → At fn.ntmps (argSlots args 0) fun a => c.wp P (bodyPost P fn (Ret fun v w' => ∃ K' C, KM.le K K' ∧ R K' C v ∧ Sat w' K' (flat [C, L]))) a w) : Sp P f args K A R := by
  intro w L hS
  refine calls_of_wp hf.func hf.body (h w L hS _ ⟨?_, rfl, fun t v ht => ?_⟩)
  · have := Nat.le_of_ble_eq_true hn
    simp; omega
  · obtain ⟨_, h2⟩ := argSlots_lk args 0 t v ht
    have hlt := (List.getElem?_eq_some_iff.1 h2).1
    simp only [Nat.sub_zero] at h2 hlt
    show (args.toArray ++ _)[t]? = _
    rw [Array.getElem?_append_left (by simpa using hlt)]
    simpa using h2

/-! ### control -/

theorem s_seq {x y : Code} (h : At N σ fun a => x.wp P (Exit.then (y.wp P Q) Q) a w) : At N σ fun a => (Code.seq x y).wp P Q a w := fun a ha => wp_seq (h a ha)

theorem s_reg {id : Nat} (h : Rg P l Q N l σ w) : At N σ fun a => (Code.region id l.toArray false).wp P Q a w := fun a ha => wp_region_lit (h a ha)

/-- a region, and what stands behind it -/
theorem s_rs {id : Nat} {y : Code} (h : Rg P l (Exit.then (y.wp P Q) Q) N l σ w) : At N σ fun a => (Code.seq (Code.region id l.toArray false) y).wp P Q a w := fun a ha => wp_seq (wp_region_lit (h a ha))

/-- the end of a region with something behind it -/
theorem s_end {y : Act → World → Prop} (next : At N σ fun a => y a w) : Rg P l (Exit.then y Q) N [] σ w := fun a ha => next a ha

theorem s_if {c : Operand} {x y : Code} {b : Bool} (hc : ev σ c = some (.bool b)) (h1 : b = true → At N σ fun a => x.wp P Q a w) (h2 : b = false → At N σ fun a => y.wp P Q a w) :
    At N σ fun a => (Code.cond c x y).wp P Q a w := fun a ha => wp_cond_split (ha.ev hc) (fun h => h1 h a ha) (fun h => h2 h a ha)

theorem s_skip (h : At N σ fun a => Q .normal a w) : At N σ fun a => Code.skip.wp P Q a w := fun a ha => wp_skip (h a ha)
theorem s_skipt {y : Act → World → Prop} (h : At N σ fun a => y a w) : At N σ fun a => Code.skip.wp P (Exit.then y Q) a w := fun a ha => wp_skip (h a ha)

theorem s_block {id : Nat} {c : Code} (h : At N σ fun a => c.wp P (Exit.inBlock id Q) a w) : At N σ fun a => (Code.block id c).wp P Q a w := fun a ha => wp_block (h a ha)
theorem s_exit {id : Nat} (h : At N σ fun a => Q (.exit id) a w) : At N σ fun a => (Code.exit id).wp P Q a w := fun a ha => wp_exit (h a ha)

/-! ### the way out of what stands around -/
theorem qn {y : Act → World → Prop} (h : At N σ fun a => y a w) : At N σ fun a => Exit.then y Q .normal a w := h
theorem qbn {id : Nat} (h : At N σ fun a => Q .normal a w) : At N σ fun a => Exit.inBlock id Q .normal a w := h
theorem qxt {y : Act → World → Prop} {id : Nat} (h : At N σ fun a => Q (.exit id) a w) : At N σ fun a => Exit.then y Q (.exit id) a w := h
theorem qxb {id : Nat} (h : At N σ fun a => Q .normal a w) : At N σ fun a => Exit.inBlock id Q (.exit id) a w := fun a ha => by
  simp only [Exit.inBlock, if_true]; exact h a ha
theorem qxn {id j : Nat} (hne : Nat.beq j id = false) (h : At N σ fun a => Q (.exit j) a w) : At N σ fun a => Exit.inBlock id Q (.exit j) a w := fun a ha => by
  simp only [Exit.inBlock]; rw [if_neg (Nat.ne_of_beq_eq_false hne)]; exact h a ha
theorem qrt {y : Act → World → Prop} (h : At N σ fun a => Q .ret a w) : At N σ fun a => Exit.then y Q .ret a w := h
theorem qrb {id : Nat} (h : At N σ fun a => Q .ret a w) : At N σ fun a => Exit.inBlock id Q .ret a w := h

/-! ### results -/

/-- what a result variable tells -/
def rvRun (tmps : Array Value) (r : ResultVar) : Sem Value :=
  match r with
  | .tmp t => pure (tmps.getD t undef)
  | .cell c t => do loadVar t (← asAddr (tmps.getD c undef))

theorem results_eq (fn : Func) (tmps : Array Value) : results fn tmps = (fn.results.mapM (rvRun tmps) >>= fun vs => pure (if h : vs.size = 1 then vs[0] else .tuple vs)) := by
  have e : rvRun tmps = (fun | .tmp t => pure (tmps.getD t undef) | .cell a t => do loadVar t (← asAddr (tmps.getD a undef))) := by
    funext r; cases r <;> rfl
  rw [e]; rfl

/-- what a result variable holds -/
def RV (P : Program) (σ : Slots) (w : World) (r : ResultVar) (v : Value) : Prop :=
  ∀ N a, Fits N a σ → (rvRun a.tmps r).run P w = .ok v w

theorem rv_t {t : Tmp} {v : Value} (h : lk σ t = some v) : RV P σ w (.tmp t) v := fun N a ha => by
  have := ha.ev (x := .tmp t) h
  simp only [Act.eval] at this
  simp [rvRun, this]

theorem rv_c [hT : TabC P T] {t t' : TypeId} {c : Tmp} {b o : Nat} {cs : List Value} {v : Value} (k : Nat) (hS : Sat w K (flat G)) (h : lk σ c = some (.pointer (some ⟨b, o, none⟩))) (hk : nthG G k = some [(b, Cl cs t')])
    (hv : ldv T t cs o = some v) : RV P σ w (.cell c t) v := fun N a ha => by
  have h1 := ha.ev (x := .tmp c) h
  simp only [Act.eval] at h1
  have := ld_run (P := P) (cells_of_heap (hS.owned _ (nthG_mem hk (List.mem_cons_self ..)))) hv
  simp only [Nat.zero_add, Instr.loadAt, Instr.sureAddr, Sem.run_bind, Sem.run_pure, Result.andThen_ok] at this
  simp only [rvRun, h1, asAddr, Sem.run_bind, Sem.run_pure, Result.andThen_ok, this]

theorem results_run {fn : Func} {rs : List ResultVar} {vs : List Value} (hr : fn.results = rs.toArray) (h : ∀ a, Fits N a σ → (rs.mapM (rvRun a.tmps)).run P w = .ok vs w)
    {a : Act} (ha : Fits N a σ) : (results fn a.tmps).run P w = .ok (if h : vs.length = 1 then vs[0] else .tuple vs.toArray) w := by
  rw [results_eq]
  have e : (fn.results.mapM (rvRun a.tmps)).run P w = .ok vs.toArray w := by
    rw [hr, List.mapM_toArray, Sem.run_map, h a ha]; rfl
  rw [Sem.run_bind, e]
  simp only [Result.andThen_ok, Sem.run_pure, List.size_toArray, List.getElem_toArray]

/-- a return of one result, of two, of three -/
theorem s_ret1 {fn : Func} {R : Value → World → Prop} {r : ResultVar} {v : Value} (hr : fn.results = #[r]) (h1 : RV P σ w r v) (hR : R v w) : At N σ fun a => bodyPost P fn (Ret R) .ret a w := fun a ha =>
  ⟨ha.defers, v, by
    have := results_run (P := P) (rs := [r]) (vs := [v]) (w := w) (fn := fn) hr (fun a ha => by rw [List.mapM_cons]; simp only [Sem.run_bind, h1 N a ha, Result.andThen_ok]; rfl) ha
    simpa using this, hR⟩

theorem s_ret0 {fn : Func} {R : Value → World → Prop} (hr : fn.results = #[]) (hR : R (.tuple #[]) w) : At N σ fun a => bodyPost P fn (Ret R) .ret a w := fun a ha =>
  ⟨ha.defers, .tuple #[], by
    have := results_run (P := P) (rs := []) (vs := []) (w := w) (fn := fn) hr (fun a ha => by rfl) ha
    simpa using this, hR⟩

theorem s_fall0 {fn : Func} {R : Value → World → Prop} (hr : fn.results = #[]) (hR : R (.tuple #[]) w) : At N σ fun a => bodyPost P fn (Ret R) .normal a w := s_ret0 hr hR

theorem s_ret2 {fn : Func} {R : Value → World → Prop} {r1 r2 : ResultVar} {v1 v2 : Value} (hr : fn.results = #[r1, r2]) (h1 : RV P σ w r1 v1) (h2 : RV P σ w r2 v2) (hR : R (.tuple #[v1, v2]) w) :
    At N σ fun a => bodyPost P fn (Ret R) .ret a w := fun a ha =>
  ⟨ha.defers, .tuple #[v1, v2], by
    have := results_run (P := P) (rs := [r1, r2]) (vs := [v1, v2]) (w := w) (fn := fn) hr (fun a ha => by
      rw [List.mapM_cons]; simp only [Sem.run_bind, h1 N a ha, Result.andThen_ok]
      rw [List.mapM_cons]; simp only [Sem.run_bind, h2 N a ha, Result.andThen_ok]; rfl) ha
    simpa using this, hR⟩

theorem s_ret3 {fn : Func} {R : Value → World → Prop} {r1 r2 r3 : ResultVar} {v1 v2 v3 : Value} (hr : fn.results = #[r1, r2, r3]) (h1 : RV P σ w r1 v1) (h2 : RV P σ w r2 v2) (h3 : RV P σ w r3 v3) (hR : R (.tuple #[v1, v2, v3]) w) :
    At N σ fun a => bodyPost P fn (Ret R) .ret a w := fun a ha =>
  ⟨ha.defers, .tuple #[v1, v2, v3], by
    have := results_run (P := P) (rs := [r1, r2, r3]) (vs := [v1, v2, v3]) (w := w) (fn := fn) hr (fun a ha => by
      rw [List.mapM_cons]; simp only [Sem.run_bind, h1 N a ha, Result.andThen_ok]
      rw [List.mapM_cons]; simp only [Sem.run_bind, h2 N a ha, Result.andThen_ok]
      rw [List.mapM_cons]; simp only [Sem.run_bind, h3 N a ha, Result.andThen_ok]; rfl) ha
    simpa using this, hR⟩

/-- the code 'return' -/
theorem s_rets (h : At N σ fun a => Q .ret a w) : At N σ fun a => Code.ret.wp P Q a w := fun a ha => wp_ret (h a ha)

/-! ### calls -/

def evs (σ : Slots) : List Operand → Option (List Value)
  | [] => some []
  | x :: r => match ev σ x, evs σ r with
    | some v, some l => some (v :: l)
    | _, _ => none

theorem evs_spec {a : Act} (ha : Fits N a σ) : ∀ {xs : List Operand} {vs : List Value}, evs σ xs = some vs → xs.map a.eval = vs := by
  intro xs
  induction xs with
  | nil => intro vs h; simp [evs] at h; simp [h]
  | cons x r ih =>
    intro vs h
    simp only [evs] at h
    split at h
    · rename_i v l hv hl
      cases h
      simp [ha.ev hv, ih hl]
    · cases h

/-- a call of a function of the program by its contract -/
theorem rg_call {o : Oper} {f : FuncId} {fn : Func} {c : Code} {args : List Operand} {ts : Array TypeId} {vs : List Value} {A : Chunks} {R : KM → Chunks → Value → Prop}
    (ho : o.op = .call ⟨.value (.func f), args.toArray, ts⟩) (hf : IsFn P f fn c) (hS : Sat w K (flat (A :: G))) (hx : evs σ args = some vs) (hs : Sp P f vs K A R) (hg : gd l σ o.guard = some true)
    (next : ∀ v K' C w', KM.le K K' → R K' C v → Sat w' K' (flat (C :: G)) → ∀ a, Fits N a σ → wpList P l.toArray Q rest (a.put o.dst v) w') : Rg P l Q N (o :: rest) σ w :=
  rg_wp hg fun a ha => by
    unfold Oper.wp
    have e : (execOp a.eval o).run P w = .ok (.enter f vs.toArray) w := by
      unfold execOp
      rw [ho]
      have e2 : args.toArray.map a.eval = vs.toArray := by simpa using evs_spec ha hx
      simp only [resolve, Act.eval, Deferred.ofValue, invoke, e2, Sem.run_bind, Sem.run_pure, Result.andThen_ok]
      have := hf.call vs.toArray w
      simpa using this
    rw [e, Oper.upon_enter]
    refine (hs w (flat G) (by simpa [flat] using hS)).mono fun en w' hen => ?_
    cases en with
    | returned v =>
      obtain ⟨K', C, h1, h2, h3⟩ := hen
      exact next v K' C w' h1 h2 (by simpa [flat] using h3) a ha
    | panicked _ => exact hen.elim
    | outgrown => exact hen.elim

theorem s_call {f : FuncId} {fn : Func} {c : Code} {args : List Operand} {ts : Array TypeId} {vs : List Value} {A : Chunks} {R : KM → Chunks → Value → Prop}
    (hf : IsFn P f fn c) (hS : Sat w K (flat (A :: G))) (hs : Sp P f vs K A R) (hx : evs σ args = some vs) (hg : gd l σ g = some true) (hd : Nat.blt d N = true)
    (next : ∀ v K' C w', KM.le K K' → R K' C v → Sat w' K' (flat (C :: G)) → Rg P l Q N rest ((d, v) :: σ) w') :
    Rg P l Q N (⟨some d, .call ⟨.value (.func f), args.toArray, ts⟩, ty, pos, af, g⟩ :: rest) σ w :=
  rg_call rfl hf hS hx hs hg fun v K' C w' h1 h2 h3 a ha => next v K' C w' h1 h2 h3 _ (ha.put hd v)

theorem s_call' {f : FuncId} {fn : Func} {c : Code} {args : List Operand} {ts : Array TypeId} {vs : List Value} {A : Chunks} {R : KM → Chunks → Value → Prop}
    (hf : IsFn P f fn c) (hS : Sat w K (flat (A :: G))) (hs : Sp P f vs K A R) (hx : evs σ args = some vs) (hg : gd l σ g = some true)
    (next : ∀ v K' C w', KM.le K K' → R K' C v → Sat w' K' (flat (C :: G)) → Rg P l Q N rest σ w') :
    Rg P l Q N (⟨none, .call ⟨.value (.func f), args.toArray, ts⟩, ty, pos, af, g⟩ :: rest) σ w :=
  rg_call rfl hf hS hx hs hg fun v K' C w' h1 h2 h3 a ha => next v K' C w' h1 h2 h3 _ ha

/-- nothing is taken -/
theorem Sat.nilG (h : Sat w K (flat G)) : Sat w K (flat ([] :: G)) := h

end
end Go.Fw
