/- A deterministic evaluator: what its memory means. -/
import Derived.Test.YtheedjgpfpghbaaGreatDD
set_option linter.unusedVariables false
set_option linter.unusedSectionVars false
set_option linter.unusedSimpArgs false
namespace Go.Ev
open Go Go.Fw
variable [Sym]

/-- a map's entries -/
inductive EntR (ρ : Rho) : Nat → List (Value × Value) → List MapEntry → Prop
  | nil {i : Nat} : EntR ρ i [] []
  | cons {i : Nat} {k v u : Value} {es : List (Value × Value)} {ms : List MapEntry} (hk : plainV k = true) (hv : RC ρ v u) (t : EntR ρ (i + 1) es ms) : EntR ρ i ((k, v) :: es) (⟨k, u, i⟩ :: ms)

theorem EntR.mono {ρ ρ' : Rho} (hl : Rho.le ρ ρ') {i : Nat} {es : List (Value × Value)} {ms : List MapEntry} (h : EntR ρ i es ms) : EntR ρ' i es ms := by
  induction h with
  | nil => exact .nil
  | cons hk hv _ ih => exact .cons hk (hv.mono hl) ih

/-- what a block is -/
inductive BlkR (ρ : Rho) (i : Nat) : ABlk → Nat × Obj → Prop
  | cells {cs cs' pre post : List Value} {t : TypeId} {opn : Bool} {b' n : Nat} (h : ρ i = some (b', pre.length, n)) (hc : All2 (RS ρ) cs cs') (hn : pre.length + (cs'.length + post.length) = n) (ho : opn = false → pre = [] ∧ post = [] := by simp) : BlkR ρ i (.cells cs t opn) (b', Cl (pre ++ (cs' ++ post)) t)
  | map {es : List (Value × Value)} {ms : List MapEntry} {b' : Nat} (h : ρ i = some (b', 0, 0)) (hm : EntR ρ 0 es ms) : BlkR ρ i (.map es) (b', .map ms.toArray es.length)

theorem BlkR.mono {ρ ρ' : Rho} (hl : Rho.le ρ ρ') {i : Nat} {x : ABlk} {p : Nat × Obj} (h : BlkR ρ i x p) : BlkR ρ' i x p := by
  cases h with
  | cells h hc hn ho => exact .cells (hl _ _ h) (hc.imp fun _ _ h => h.mono hl) hn ho
  | map h hm => exact .map (hl _ _ h) (hm.mono hl)

structure MemR (ρ : Rho) (M : Mem) (ids : List Nat) (C : Chunks) : Prop where
  nodup : ids.Nodup
  each : All2 (fun i p => ∃ x, M.m.get i = some x ∧ BlkR ρ i x p) ids C
  all : ∀ i x, M.m.get i = some x → i ∈ ids
  low : ∀ i r, ρ i = some r → i < M.nx

theorem all2_pull {α β : Type} {R : α → β → Prop} : ∀ {l : List α} {m : List β} {a : α}, All2 R l m → a ∈ l → ∃ b l' m', l.Perm (a :: l') ∧ m.Perm (b :: m') ∧ R a b ∧ All2 R l' m'
  | _, _, a, .nil, h => by cases h
  | _, _, a, .cons (a := x) (b := y) (l := l) (m := m) h t, hm => by
    rcases List.mem_cons.1 hm with rfl | hm
    · exact ⟨_, _, _, .refl _, .refl _, h, t⟩
    · obtain ⟨b, l', m', h1, h2, h3, h4⟩ := all2_pull t hm
      exact ⟨b, x :: l', y :: m', ((h1.cons x).trans (List.Perm.swap ..)), ((h2.cons y).trans (List.Perm.swap ..)), h3, .cons h h4⟩

section
variable {ρ ρ' : Rho} {M : Mem} {ids : List Nat} {C : Chunks} {i : Nat} {x : ABlk}

/-- the others -/
structure RestR (ρ : Rho) (M : Mem) (i : Nat) (ids : List Nat) (C : Chunks) : Prop where
  nodup : (i :: ids).Nodup
  each : All2 (fun i p => ∃ x, M.m.get i = some x ∧ BlkR ρ i x p) ids C
  all : ∀ j x, M.m.get j = some x → j ≠ i → j ∈ ids
  low : ∀ j r, ρ j = some r → j < M.nx
  lt : i < M.nx

theorem MemR.pull (h : MemR ρ M ids C) (hg : M.m.get i = some x) : ∃ p C' ids', C.Perm (p :: C') ∧ BlkR ρ i x p ∧ RestR ρ M i ids' C' := by
  obtain ⟨p, ids', C', h1, h2, ⟨y, h3, h4⟩, h5⟩ := all2_pull h.each (h.all _ _ hg)
  rw [hg] at h3; cases h3
  refine ⟨p, C', ids', h2, h4, (h1.nodup_iff.1 h.nodup), h5, fun j y hy hne => ?_, h.low, ?_⟩
  · have := h1.mem_iff.1 (h.all _ _ hy)
    rcases List.mem_cons.1 this with e | e
    · exact absurd e hne
    · exact e
  · cases h4 with
    | cells h _ _ => exact ‹MemR ρ M ids C›.low _ _ h
    | map h _ => exact ‹MemR ρ M ids C›.low _ _ h

theorem each_keep {M' : Mem} {ids' : List Nat} {C' : Chunks} (hl : Rho.le ρ ρ') (he : All2 (fun i p => ∃ x, M.m.get i = some x ∧ BlkR ρ i x p) ids' C') (hs : ∀ j, j ∈ ids' → M'.m.get j = M.m.get j) : All2 (fun i p => ∃ x, M'.m.get i = some x ∧ BlkR ρ' i x p) ids' C' := by
  induction he with
  | nil => exact .nil
  | cons h t ih =>
    obtain ⟨y, h1, h2⟩ := h
    exact .cons ⟨y, by rw [hs _ (List.mem_cons_self ..)]; exact h1, h2.mono hl⟩ (ih fun j hj => hs j (List.mem_cons_of_mem _ hj))

theorem RestR.set (h : RestR ρ M i ids C) (hlim : M.nx < 1000000) (hl : Rho.le ρ ρ') (hlow : ∀ j r, ρ' j = some r → j < M.nx) {y : ABlk} {p : Nat × Obj} (hb : BlkR ρ' i y p) : MemR ρ' (M.set i y) (i :: ids) (p :: C) := by
  have hlt := h.lt
  have hg : ∀ j, (M.set i y).m.get j = if i = j then some y else M.m.get j := fun j => Tr.get_put 20 M.m i j (by omega)
  refine ⟨h.nodup, .cons ⟨y, by rw [hg, if_pos rfl], hb⟩ (each_keep hl h.each fun j hj => ?_), fun j z hz => ?_, hlow⟩
  · rw [hg, if_neg (show ¬ i = j from fun e => (List.nodup_cons.1 h.nodup).1 (by rw [e]; exact hj))]
  · rw [hg] at hz
    split at hz
    · rename_i e; subst e; exact List.mem_cons_self ..
    · rename_i e; exact List.mem_cons_of_mem _ (h.all _ _ hz (Ne.symm e))

theorem RestR.kill (h : RestR ρ M i ids C) (hlim : M.nx < 1000000) : MemR ρ (M.kill i) ids C := by
  have hlt := h.lt
  have hg : ∀ j, (M.kill i).m.get j = if i = j then none else M.m.get j := fun j => Tr.get_put 20 M.m i j (by omega)
  refine ⟨(List.nodup_cons.1 h.nodup).2, each_keep (fun _ _ h => h) h.each fun j hj => ?_, fun j z hz => ?_, h.low⟩
  · rw [hg, if_neg (show ¬ i = j from fun e => (List.nodup_cons.1 h.nodup).1 (by rw [e]; exact hj))]
  · rw [hg] at hz
    split at hz
    · cases hz
    · rename_i e; exact h.all _ _ hz (Ne.symm e)

/-- one more block -/
def Rho.with (ρ : Rho) (i : Nat) (r : Nat × Nat × Nat) : Rho := fun j => if j = i then some r else ρ j
theorem Rho.le_with {r : Nat × Nat × Nat} (h : ρ i = none) : Rho.le ρ (ρ.with i r) := fun b q hb => by
  unfold Rho.with
  split
  · rename_i e; subst e; rw [h] at hb; cases hb
  · exact hb

/-- more blocks, behind those that there were -/
structure Rho.up (M M' : Mem) (ρ ρ' : Rho) : Prop where
  le : Rho.le ρ ρ'
  keep : ∀ j, j < M.nx → ρ' j = ρ j
  nx : M.nx ≤ M'.nx
theorem Rho.up.same {M M' : Mem} (h : M.nx ≤ M'.nx) : Rho.up M M' ρ ρ := ⟨fun _ _ h => h, fun _ _ => rfl, h⟩
theorem Rho.up.trans {M M' M'' : Mem} {ρ'' : Rho} (h : Rho.up M M' ρ ρ') (h' : Rho.up M' M'' ρ' ρ'') : Rho.up M M'' ρ ρ'' :=
  ⟨fun b q hb => h'.le b q (h.le b q hb), fun j hj => (h'.keep j (Nat.lt_of_lt_of_le hj h.nx)).trans (h.keep j hj), Nat.le_trans h.nx h'.nx⟩
theorem Rho.up.with {M M' : Mem} {i : Nat} {r : Nat × Nat × Nat} (h : M.nx ≤ M'.nx) (hf : ρ i = none) (hi : M.nx ≤ i) : Rho.up M M' ρ (ρ.with i r) :=
  ⟨Rho.le_with hf, fun j hj => by
    unfold Rho.with
    rw [if_neg (by omega)], h⟩

theorem MemR.fresh (h : MemR ρ M ids C) : ρ M.nx = none := by
  cases e : ρ M.nx with
  | none => rfl
  | some r => exact absurd (h.low _ _ e) (Nat.lt_irrefl _)

theorem MemR.new (h : MemR ρ M ids C) (hlim : M.nx < 1000000) {r : Nat × Nat × Nat} {y : ABlk} {p : Nat × Obj} (hb : BlkR (ρ.with M.nx r) M.nx y p) : MemR (ρ.with M.nx r) (M.new y).2 (M.nx :: ids) (p :: C) := by
  have hf := h.fresh
  have hni : M.nx ∉ ids := fun hm => by
    obtain ⟨q, _, _, _, _, ⟨z, h1, h2⟩, _⟩ := all2_pull h.each hm
    cases h2 with
    | cells h _ _ => rw [hf] at h; cases h
    | map h _ => rw [hf] at h; cases h
  have hg : ∀ j, (M.new y).2.m.get j = if M.nx = j then some y else M.m.get j := fun j => Tr.get_put 20 M.m M.nx j (by omega)
  refine ⟨List.nodup_cons.2 ⟨hni, h.nodup⟩, .cons ⟨y, by rw [hg, if_pos rfl], hb⟩ (each_keep (Rho.le_with hf) h.each fun j hj => ?_), fun j z hz => ?_, fun j q hq => ?_⟩
  · rw [hg, if_neg (show ¬ M.nx = j from fun e => hni (by rw [e]; exact hj))]
  · rw [hg] at hz
    split at hz
    · rename_i e; subst e; exact List.mem_cons_self ..
    · exact List.mem_cons_of_mem _ (h.all _ _ hz)
  · show j < M.nx + 1
    unfold Rho.with at hq
    split at hq
    · omega
    · have := h.low _ _ hq; omega
end

/-- memory, told and real -/
def World.Is (w : World) (K : KM) (L : Chunks) (ρ : Rho) (M : Mem) : Prop := ∃ ids C, MemR ρ M ids C ∧ Sat w K (C ++ L)

/-- an operation on memory comes to that -/
def MRun (P : Program) (a : Act) (op : Op) (w : World) (K : KM) (L : Chunks) (ρ : Rho) (M : Mem) (v : Value) (M' : Mem) : Prop :=
  ∃ u w' ρ', (∀ d ty pos af g, (execOp a.eval ⟨d, op, ty, pos, af, g⟩).run P w = .ok (.value u) w') ∧ Rho.up M M' ρ ρ' ∧ RV ρ' v u ∧ World.Is w' K L ρ' M'

/-- what only reads -/
def RRun (P : Program) (a : Act) (op : Op) (w : World) (ρ : Rho) (M : Mem) (v : Value) (M' : Mem) : Prop :=
  ∃ u, (∀ d ty pos af g, (execOp a.eval ⟨d, op, ty, pos, af, g⟩).run P w = .ok (.value u) w) ∧ RV ρ v u ∧ M' = M

theorem RRun.run {P : Program} {a : Act} {op : Op} {w : World} {K : KM} {L : Chunks} {ρ : Rho} {M : Mem} {v : Value} {M' : Mem} (h : RRun P a op w ρ M v M') (hW : World.Is w K L ρ M) : MRun P a op w K L ρ M v M' := by
  obtain ⟨u, h1, h2, rfl⟩ := h
  exact ⟨u, w, ρ, h1, .same (Nat.le_refl _), h2, hW⟩

def MSkip (P : Program) (a : Act) (op : Op) (w : World) (K : KM) (L : Chunks) (ρ : Rho) (M M' : Mem) : Prop :=
  ∃ w' ρ', (∀ d ty pos af g, (execOp a.eval ⟨d, op, ty, pos, af, g⟩).run P w = .ok .skip w') ∧ Rho.up M M' ρ ρ' ∧ World.Is w' K L ρ' M'

section
variable {P : Program} {T : Tab} {ρ : Rho} {tab : Nat → Option TI} {eqs : Nat → Option (List TK)} {zt : Nat → Option Value} {e : Operand → Option Value} {σ : Slots} {v : Value} {N : Nat} {a : Act} {w : World} {K : KM} {L : Chunks} {M M' : Mem}
  {call : Nat → List Value → Mem → Option (Value × Mem)}

theorem ldD_R {t : TypeId} {l m : List Value} {o : Nat} (hS : SubT tab T) (hl : All2 (RS ρ) l m) (h : ldD tab t l o = some v) : ∃ v', ldv T t m o = some v' ∧ RV ρ v v' := by
  unfold ldD at h
  unfold ldv
  split at h
  · rename_i i hi
    rw [hS _ _ hi]
    simp only
    cases hb : i.agg with
    | true =>
      rw [hb] at h
      simp only [cond_true] at h ⊢
      rw [← hl.len]
      cases hle : Nat.ble (o + i.size) l.length with
      | false => rw [hle] at h; cases h
      | true =>
        rw [hle] at h
        simp only [cond_true, Option.some.injEq] at h ⊢
        subst h
        refine ⟨_, rfl, .c (.agg ?_)⟩
        rw [cut_eq, cut_eq]; exact (hl.drop _).take _
    | false =>
      rw [hb] at h
      simp only [cond_false, nth_eq] at h ⊢
      obtain ⟨u, h1, h2⟩ := hl.get h
      exact ⟨u, h1, .c (.s h2)⟩
  · cases h

theorem opm_load [hT : TabC P T] {t : TypeId} {x : Operand} (hS : SubT tab T) (ha : Fits N a σ) (hE : EvR ρ e σ) (hW : World.Is w K L ρ M) (h : opm tab zt call (.load t x) e M = some (v, M')) : RRun P a (.load t x) w ρ M v M' := by
  simp only [opm, opmLoad, opmStore, opmBuildSlice, opmMakeSlice, opmUpdate, opmInsert, opmLookup, opmAppend, opmClear, opmCopy, opmText] at h
  split at h
  · rename_i b o hx
    split at h
    · rename_i cs u opn hb
      split at h
      · rename_i z hz
        cases h
        obtain ⟨ids, C, hM, hw⟩ := hW
        obtain ⟨p, C', ids', hp, hblk, hrest⟩ := hM.pull hb
        obtain ⟨q, h1, h2⟩ := hE _ _ hx
        obtain ⟨b', s, n, h3, rfl⟩ := h2.ptr
        cases hblk with
        | @cells _ cs' pre post _ _ b2 n2 hρ hc hn =>
        rw [h3] at hρ; cases hρ
        obtain ⟨z', h4, h5⟩ := ldD_R (T := T) hS hc hz
        have hsat := hw.perm ((hp.append_right L).trans (.refl _))
        have ho : w.heap[b']? = some (Cl (pre ++ (cs' ++ post)) u) := hsat.owned _ (List.mem_cons_self ..)
        have hcell : Cells w b' pre.length cs' := fun j y hj => by
          rw [nth_eq] at hj
          have hlt := (List.getElem?_eq_some_iff.1 hj).1
          have := cells_of_heap ho (pre.length + j) y (by
            rw [nth_eq, List.getElem?_append_right (by omega), Nat.add_sub_cancel_left, List.getElem?_append_left hlt]; exact hj)
          simpa using this
        refine ⟨z', fun d ty pos af g => ?_, h5, rfl⟩
        simp only [execOp, ha.ev h1, Sem.run_bind]
        rw [ld_run (P := P) hcell h4]; rfl
      · cases h
    · cases h
  · cases h

theorem RS.one {x y : Value} (h : RS ρ x y) : y.oneCell' = true := by
  cases h with
  | plain h => cases x <;> first | rfl | (simp [plainV] at h)
  | sym _ h => cases y <;> first | rfl | (simp [plainV] at h)
  | any h => cases y <;> first | rfl | (simp [cellV] at h)
  | _ => rfl

theorem All2.ones {l m : List Value} (h : All2 (RS ρ) l m) : m.all (·.oneCell') = true := by
  induction h with
  | nil => rfl
  | cons h _ ih => simp only [List.all_cons, h.one, ih, Bool.and_self]

theorem stD_R {t : TypeId} {l m pre post q : List Value} {o : Nat} {u u' : Value} (hS : SubT tab T) (hl : All2 (RS ρ) l m) (hu : RV ρ u u') (h : stD tab t l o u = some q) :
    ∃ q', stv T t (pre ++ (m ++ post)) (pre.length + o) u' = some (pre ++ (q' ++ post)) ∧ All2 (RS ρ) q q' ∧ q'.length = m.length := by
  unfold stD at h
  unfold stv
  split at h
  · rename_i i hi
    rw [hS _ _ hi]
    simp only
    cases hb : (storable u && (Nat.beq u.cells.toList.length i.size && Nat.ble (o + i.size) l.length)) with
    | false => rw [hb] at h; cases h
    | true =>
      rw [hb] at h
      simp only [cond_true, Option.some.injEq] at h
      subst h
      simp only [Bool.and_eq_true] at hb
      have h1 := Nat.eq_of_beq_eq_true hb.2.1
      have h2 := Nat.le_of_ble_eq_true hb.2.2
      have hc := hu.cells hb.1
      have e1 := hc.len
      have e2 := hl.len
      have hcond : (Nat.beq u'.cells.toList.length i.size && Nat.ble (pre.length + o + i.size) (pre ++ (m ++ post)).length && u'.cells.toList.all (·.oneCell')) = true := by
        rw [← e1, hc.ones]
        simp only [Bool.and_eq_true, Bool.and_true]
        refine ⟨by rw [h1]; exact Nat.beq_refl _, Nat.ble_eq_true_of_le ?_⟩
        simp only [List.length_append]; omega
      rw [hcond]
      simp only [cond_true, Option.some.injEq]
      refine ⟨m.take o ++ (u'.cells.toList ++ m.drop (o + i.size)), ?_, (hl.take o).append (hc.append (hl.drop _)), ?_⟩
      · rw [List.take_append, List.drop_append, List.take_of_length_le (by omega), List.drop_of_length_le (by omega : pre.length ≤ pre.length + o + i.size), Nat.add_sub_cancel_left, show pre.length + o + i.size - pre.length = o + i.size by omega, List.take_append_of_le_length (by omega), List.drop_append_of_le_length (by omega)]
        simp
      · simp only [List.length_append, List.length_take, List.length_drop]; omega
  · cases h

theorem opm_store [hT : TabC P T] {t : TypeId} {x y : Operand} (hlim : M.nx < 1000000) (hS : SubT tab T) (ha : Fits N a σ) (hE : EvR ρ e σ) (hW : World.Is w K L ρ M) (h : opm tab zt call (.store t x y) e M = some (v, M')) : MSkip P a (.store t x y) w K L ρ M M' := by
  simp only [opm, opmLoad, opmStore, opmBuildSlice, opmMakeSlice, opmUpdate, opmInsert, opmLookup, opmAppend, opmClear, opmCopy, opmText] at h
  split at h
  · rename_i b o u hx hy
    split at h
    · rename_i cs tt opn hb
      split at h
      · rename_i q hq
        cases h
        obtain ⟨ids, C, hM, hw⟩ := hW
        obtain ⟨p, C', ids', hp, hblk, hrest⟩ := hM.pull hb
        obtain ⟨z, h1, h2⟩ := hE _ _ hx
        obtain ⟨u', h6, h7⟩ := hE _ _ hy
        obtain ⟨b', s, n, h3, rfl⟩ := h2.ptr
        cases hblk with
        | @cells _ cs' pre post _ _ b2 n2 hρ hc hn ho =>
        have hρ0 := hρ
        rw [h3] at hρ; cases hρ
        obtain ⟨q', h4, h5, h8⟩ := stD_R (T := T) (pre := pre) (post := post) hS hc h7 hq
        have hsat : Sat w K (flat [[(b', Cl (pre ++ (cs' ++ post)) tt)], C' ++ L]) := by
          have := hw.perm (hp.append_right L)
          simpa [flat] using this
        obtain ⟨w', hr, hS'⟩ := st_run (P := P) (k := 0) hsat rfl h4
        refine ⟨w', ρ, fun d ty pos af g => by simp only [execOp, ha.ev h1, ha.ev h6, Sem.run_bind, hr]; rfl, .same (Nat.le_refl _), _, _, hrest.set hlim (fun _ _ h => h) hM.low (.cells (post := post) hρ0 h5 (by rw [h8]; exact hn) ho), ?_⟩
        simpa [flat, setG] using hS'
      · cases h
    · cases h
  · cases h

theorem World.new (hW : World.Is w K L ρ M) (hlim : M.nx < 1000000) {cs cs' : List Value} {t : TypeId} {opn : Bool} {w' : World} {post : List Value} (hc : All2 (RS ρ) cs cs')
    (hw : ∀ C, Sat w K (C ++ L) → Sat w' K ((w.heap.size, Cl (cs' ++ post) t) :: (C ++ L))) (hp : opn = false → post = [] := by simp) : ∃ ρ', Rho.up M (M.new (.cells cs t opn)).2 ρ ρ' ∧ ρ' M.nx = some (w.heap.size, 0, cs'.length + post.length) ∧ World.Is w' K L ρ' (M.new (.cells cs t opn)).2 := by
  obtain ⟨ids, C, hM, hs⟩ := hW
  have hle := Rho.le_with (r := (w.heap.size, 0, cs'.length + post.length)) hM.fresh
  have hself : (ρ.with M.nx (w.heap.size, 0, cs'.length + post.length)) M.nx = some (w.heap.size, 0, cs'.length + post.length) := if_pos rfl
  have hb : BlkR (ρ.with M.nx (w.heap.size, 0, cs'.length + post.length)) M.nx (.cells cs t opn) (w.heap.size, Cl ([] ++ (cs' ++ post)) t) := .cells hself (hc.imp fun _ _ h => h.mono hle) (Nat.zero_add _) (fun h => ⟨rfl, hp h⟩)
  exact ⟨_, .with (Nat.le_succ _) hM.fresh (Nat.le_refl _), hself, _, _, hM.new hlim hb, hw _ hs⟩

theorem opm_alloc [hT : TabC P T] {t : TypeId} (hlim : M.nx < 1000000) (hS : SubT tab T) (hz : ∀ t i, tab t = some i → i.zero.all plainV = true) (ha : Fits N a σ) (hW : World.Is w K L ρ M) (h : opm tab zt call (.alloc t) e M = some (v, M')) : MRun P a (.alloc t) w K L ρ M v M' := by
  simp only [opm, opmLoad, opmStore, opmBuildSlice, opmMakeSlice, opmUpdate, opmInsert, opmLookup, opmAppend, opmClear, opmCopy, opmText] at h
  split at h
  · rename_i i hi
    cases h
    obtain ⟨d0, hu, _, ⟨j, hj, hjs, hjb, z, hz1, hzz⟩, _⟩ := entry_spec (hT.all.get (hS _ _ hi))
    have ez : z.cells = i.zero.toArray := by rw [← hzz]
    obtain ⟨ρ', h1, h2, h3⟩ := World.new (w' := w.alloc (.cells z.cells t)) (t := t) (opn := false) (post := []) hW hlim (plains_R (ρ := ρ) (hz _ _ hi)) (fun C hs => by
      have := hs.alloc (.cells z.cells t)
      rw [ez] at this
      simpa [ez] using this)
    refine ⟨.pointer (some ⟨w.heap.size, 0, none⟩), w.alloc (.cells z.cells t), ρ', fun d ty pos af g => ?_, h1, .c (.s ?_), h3⟩
    · simp [execOp, Instr.alloc, zeroValue, typeInfo, hj, hz1, newVar, newRow]
    · exact RS.ptr (o := 0) h2
  · cases h

theorem opm_box {t : TypeId} {x : Operand} (hlim : M.nx < 1000000) (ha : Fits N a σ) (hE : EvR ρ e σ) (hW : World.Is w K L ρ M) (h : opm tab zt call (.box t x) e M = some (v, M')) : MRun P a (.box t x) w K L ρ M v M' := by
  simp only [opm, opmLoad, opmStore, opmBuildSlice, opmMakeSlice, opmUpdate, opmInsert, opmLookup, opmAppend, opmClear, opmCopy, opmText] at h
  split at h
  · rename_i u hx
    cases hb : storable u with
    | false => rw [hb] at h; cases h
    | true =>
      rw [hb] at h
      cases h
      obtain ⟨u', h4, h5⟩ := hE _ _ hx
      obtain ⟨ρ', h1, h2, h3⟩ := World.new (w' := w.alloc (.cells u'.cells t)) (t := t) (opn := false) (post := []) hW hlim (h5.cells hb) (fun C hs => by
        have := hs.alloc (.cells u'.cells t)
        simpa using this)
      refine ⟨.pointer (some ⟨w.heap.size, 0, none⟩), w.alloc (.cells u'.cells t), ρ', fun d ty pos af g => ?_, h1, .c (.s ?_), h3⟩
      · simp [execOp, Instr.box, ha.ev h4, newVar, newRow]
      · exact RS.ptr (o := 0) h2
  · cases h
end
end Go.Ev
