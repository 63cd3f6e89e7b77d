/- A small logic of walks: maps of the call's own whose keys are whole numbers or texts. -/
import Derived.Test.YtheedjgpfpghbaaGreatFwN
import Derived.MapKept
import Derived.Laws.IdiomRangeMap
import Derived.Maps.RangeRun
set_option linter.unusedVariables false
set_option linter.unusedSimpArgs false
set_option linter.unusedSectionVars false
namespace Go.Fw
open Go

section
variable {P : Program} {T : Tab} {N : Nat} {σ : Slots} {w : World} {l : List Oper} {Q : Exit → Act → World → Prop} {rest : List Oper} {g : Option (Nat × Bool)}
  {ty : TypeId} {pos : String} {af : Array Edge} {op : Op} {d : Tmp} {K : KM} {L : Chunks} {G : List Chunks}

/-- the object of a block in a group turns -/
theorem Sat.turnG {w w' : World} {K : KM} {G : List Chunks} {k b : Nat} {o o' : Obj} (hS : Sat w K (flat G)) (hk : nthG G k = some [(b, o)]) (hs : ∀ j, j ≠ b → w'.heap[j]? = w.heap[j]?) (hb : w'.heap[b]? = some o')
    (h1 : w'.os = w.os) (h2 : w'.tape = w.tape) (h3 : w'.output = w.output) : Sat w' K (flat (setG G k [(b, o')])) := by
  obtain ⟨R, hp1, hp2⟩ := nthG_perm hk
  exact ((hS.perm hp1).turn hs hb h1 h2 h3).perm (hp2 [(b, o')]).symm

theorem Sat.heapG {w : World} {K : KM} {G : List Chunks} {k b : Nat} {o : Obj} (hS : Sat w K (flat G)) (hk : nthG G k = some [(b, o)]) : w.heap[b]? = some o :=
  hS.owned _ (nthG_mem hk (List.mem_cons_self ..))

theorem set_heap_ne {h : Array Obj} {b j : Nat} {o : Obj} (hne : j ≠ b) : (h.setIfInBounds b o)[j]? = h[j]? := by
  rw [Array.getElem?_setIfInBounds_ne (by omega)]
theorem set_heap_eq {h : Array Obj} {b : Nat} {o o' : Obj} (hb : h[b]? = some o) : (h.setIfInBounds b o')[b]? = some o' := by
  have := (Array.getElem?_eq_some_iff.1 hb).1
  rw [Array.getElem?_setIfInBounds_self_of_lt this]

/-- a new map -/
theorem s_mkm {t : TypeId} (hS : Sat w K (flat G)) (hg : gd l σ g = some true) (hd : Nat.blt d N = true)
    (next : ∀ r w', Sat w' K (flat ([(r, .map #[] 0)] :: G)) → Rg P l Q N rest ((d, .map (some r)) :: σ) w') : Rg P l Q N (⟨some d, .makeMap t none, ty, pos, af, g⟩ :: rest) σ w := by
  have h := hS.alloc (.map #[] 0)
  refine rg_value (w' := w.alloc (.map #[] 0)) rfl hg hd (fun a ha => ?_) (next w.heap.size _ h)
  simp [execOp, Instr.makeMap]

/-- what was found, or what stands for none -/
def lkOr (a : Option (Nat × Value)) (v : Value) : Value :=
  match a with
  | some p => p.2
  | none => v

/-- a look into a map of one's own -/
theorem s_lku {t kt et : TypeId} {dk : TypeDesc} {m x : Operand} {r c : Nat} {es : Array MapEntry} {key v : Value} {a : Option (Nat × Value)} (k : Nat) (hS : Sat w K (flat G)) (hk : nthG G k = some [(r, .map es c)])
    (hx : ev σ m = some (.map (some r))) (hy : ev σ x = some key) (ht : P.underlying t = some (.map kt et)) (hd : P.underlying kt = some dk) (hkey : MapKept.IsKey dk key) (hf : Instr.findNow dk key es.toList 0 = some a)
    (hz : (zeroValue et).run P w = .ok v w) (hg : gd l σ g = some true) (hdN : Nat.blt d N = true)
    (next : Rg P l Q N rest ((d, lkOr a v) :: σ) w) : Rg P l Q N (⟨some d, .lookup t m x false, ty, pos, af, g⟩ :: rest) σ w :=
  rg_value rfl hg hdN (fun a' ha => by
    simp only [execOp, ha.ev hx, ha.ev hy, Sem.run_bind, Instr.lookup, underlying_run ht, Result.andThen_ok, MapKept.run_getObj_map (hS.heapG hk), Sem.run_pure, MapKept.run_checkKey hd hkey, MapKept.run_findKey hd hf]
    cases a with
    | none => simp [hz, lkOr]
    | some p => obtain ⟨j, u⟩ := p; simp [lkOr]) next

/-- how many a map has -/
theorem s_lenm {t kt et : TypeId} {m : Operand} {r c : Nat} {es : Array MapEntry} (k : Nat) (hS : Sat w K (flat G)) (hk : nthG G k = some [(r, .map es c)])
    (hx : ev σ m = some (.map (some r))) (ht : P.underlying t = some (.map kt et)) (hg : gd l σ g = some true) (hdN : Nat.blt d N = true)
    (next : Rg P l Q N rest ((d, .int .i64 (es.size : Int)) :: σ) w) : Rg P l Q N (⟨some d, .call ⟨.builtin .len, #[m], #[t]⟩, ty, pos, af, g⟩ :: rest) σ w :=
  rg_value rfl hg hdN (fun a' ha => by
    simp [execOp, resolve, invoke, builtin, Builtin.len_, ha.ev hx, underlying_run ht, MapKept.run_getObj_map (hS.heapG hk), goInt]) next

/-- one more comes into a map of one's own -/
theorem s_mup {t kt et : TypeId} {dk : TypeDesc} {m x y : Operand} {r c : Nat} {es : Array MapEntry} {key v : Value} (k : Nat) (hS : Sat w K (flat G)) (hk : nthG G k = some [(r, .map es c)])
    (hx : ev σ m = some (.map (some r))) (hy : ev σ x = some key) (hv : ev σ y = some v) (ht : P.underlying t = some (.map kt et)) (hd : P.underlying kt = some dk) (hkey : MapKept.IsKey dk key) (hf : Instr.findNow dk key es.toList 0 = some none)
    (hg : gd l σ g = some true)
    (next : ∀ w', Sat w' K (flat (setG G k [(r, .map (es.push ⟨key, v, c⟩) (c + 1))])) → Rg P l Q N rest σ w') : Rg P l Q N (⟨none, .mapUpdate t m x y, ty, pos, af, g⟩ :: rest) σ w := by
  have hh := hS.heapG hk
  refine rg_skip (w' := { w with heap := w.heap.setIfInBounds r (.map (es.push ⟨key, v, c⟩) (c + 1)) }) rfl hg (fun a' ha => ?_) (next _ ?_)
  · simp only [execOp, ha.ev hx, ha.ev hy, ha.ev hv, Sem.run_bind, Instr.mapUpdate, underlying_run ht, Result.andThen_ok, MapKept.run_getObj_map hh, Sem.run_pure, MapKept.run_checkKey hd hkey, MapKept.run_findKey hd hf]
    rw [MapKept.run_setObj_map _ hh]
    rfl
  · exact hS.turnG hk (fun j hj => set_heap_ne hj) (set_heap_eq hh) rfl rfl rfl

/-- a walk through a map begins -/
theorem s_rng {t kt et : TypeId} {m : Operand} {r c : Nat} {es : Array MapEntry} (k : Nat) (hS : Sat w K (flat G)) (hk : nthG G k = some [(r, .map es c)])
    (hx : ev σ m = some (.map (some r))) (ht : P.underlying t = some (.map kt et)) (hg : gd l σ g = some true) (hdN : Nat.blt d N = true)
    (next : ∀ b w', Sat w' K (flat ([(b, .mapIter (some r) c #[] c)] :: G)) → Rg P l Q N rest ((d, .pointer (some ⟨b, 0, none⟩)) :: σ) w') : Rg P l Q N (⟨some d, .range t m, ty, pos, af, g⟩ :: rest) σ w :=
  rg_value (w' := w.alloc (.mapIter (some r) c #[] c)) rfl hg hdN (fun a' ha => by
    simp only [execOp, ha.ev hx, Sem.run_bind]
    rw [run_range_map w t kt et r es c ht (hS.heapG hk)]; rfl) (next w.heap.size _ (hS.alloc _))

/-- the next one of a map, whichever; or none is left -/
theorem s_nxt {it : Operand} {r c since c0 b : Nat} {seen : Array Nat} {es : Array MapEntry} (k j : Nat) (hS : Sat w K (flat G)) (hk : nthG G k = some [(b, .mapIter (some r) since seen c0)]) (hj : nthG G j = some [(r, .map es c)])
    (hx : ev σ it = some (.pointer (some ⟨b, 0, none⟩))) (hold : ∀ x ∈ es.toList, x.born < since) (hsc : since ≤ c0) (hg : gd l σ g = some true) (hdN : Nat.blt d N = true)
    (done : (∀ x ∈ es.toList, x.born ∈ seen) → Rg P l Q N rest ((d, .tuple #[.bool false]) :: σ) w)
    (next : ∀ x ∈ es.toList, x.born ∉ seen → ∀ w', Sat w' K (flat (setG G k [(b, .mapIter (some r) since (seen.push x.born) c)])) → Rg P l Q N rest ((d, .tuple #[.bool true, x.key, x.val]) :: σ) w') :
    Rg P l Q N (⟨some d, .next it false, ty, pos, af, g⟩ :: rest) σ w := by
  have hh := hS.heapG hk
  have hm := hS.heapG hj
  have key : ((leftOf es seen).size = 0 ∧ (Instr.next (.pointer (some ⟨b, 0, none⟩)) false ty).run P w = .ok (.tuple #[.bool false]) w) ∨
      ∃ e ∈ (leftOf es seen).toList, ∃ w1 : World, (w1 = w ∨ w1 = { w with drawn := w.drawn + 1 }) ∧ (Instr.next (.pointer (some ⟨b, 0, none⟩)) false ty).run P w = .ok (.tuple #[.bool true, e.key, e.val]) { w1 with heap := w.heap.setIfInBounds b (.mapIter (some r) since (seen.push e.born) c) } := by
    simp only [Instr.next, getObj, Sem.run_bind, Sem.run, hh, hm, Result.andThen, next_test_false seen es since c0 hold hsc, Bool.false_eq_true, if_false]
    unfold leftOf
    have hmem : ∀ x ∈ (Array.filter (fun e => !seen.contains e.born) es).toList, x.born < since := fun x hx => hold x (by simp at hx ⊢; exact hx.1)
    generalize Array.filter (fun e => !seen.contains e.born) es = L at hmem ⊢
    have e1 : L.filter (fun x => decide (x.born < since)) = L := Array.filter_eq_self.2 (fun x hx => by simpa using hmem x (by simpa using hx))
    have e2 : L.filter (fun x => decide (x.born ≥ since)) = #[] := by
      rw [Array.filter_eq_empty_iff]
      intro x hx
      have := hmem x (by simpa using hx)
      simp
      omega
    simp only [e1, e2, Array.append_empty]
    by_cases h0 : L.size = 0
    · left
      have : L = #[] := Array.eq_empty_of_size_eq_zero h0
      subst this
      refine ⟨rfl, ?_⟩
      simp [choose, Sem.run, Question.forced]
    · right
      have hne : L.isEmpty = false := by simp [Array.isEmpty, h0]
      simp only [hne, Bool.false_eq_true, if_false, Array.empty_append, Array.size_map]
      have hch : ∃ (j : Nat) (w1 : World), j < L.size ∧ (w1 = w ∨ w1 = { w with drawn := w.drawn + 1 }) ∧ (choose (Question.mapNext L.size)).run P w = .ok j w1 := by
        by_cases hf : L.size ≤ 1
        · exact ⟨0, w, by omega, .inl rfl, by simp [choose, Sem.run, Question.forced, hf]⟩
        · exact ⟨_, { w with drawn := w.drawn + 1 }, Nat.mod_lt _ (by omega), .inr rfl, by
            simp only [choose, Sem.run, Question.forced, decide_eq_true_eq, hf, if_false, Question.cut]
            rfl⟩
      obtain ⟨j, w1, hj, hal, hrun⟩ := hch
      refine ⟨L[j], by simp, w1, hal, ?_⟩
      have hw1 : w1.heap = w.heap := by rcases hal with rfl | rfl <;> rfl
      have hset : ∀ (o' : Obj), (setObj b o').run P w1 = .ok () { w1 with heap := w.heap.setIfInBounds b o' } := fun o' => by
        simp only [setObj, Sem.run, hw1, hh]
      simp only [hrun, Array.getElem?_map, Array.getElem?_eq_getElem hj, Option.map_some, Sem.run_bind, hset, Result.andThen]
      rfl
  rcases key with ⟨h0, hr⟩ | ⟨e, he, w1, hw1, hr⟩
  · refine rg_value rfl hg hdN (fun a' ha => by simp only [execOp, ha.ev hx, Sem.run_bind, hr]; rfl) (done (fun x hx => ?_))
    have : leftOf es seen = #[] := Array.eq_empty_of_size_eq_zero h0
    unfold leftOf at this
    rw [Array.filter_eq_empty_iff] at this
    have := this x (by simpa using hx)
    simpa using this
  · unfold leftOf at he
    simp at he
    refine rg_value rfl hg hdN (fun a' ha => by simp only [execOp, ha.ev hx, Sem.run_bind, hr]; rfl) (next e (by simpa using he.1) he.2 _ ?_)
    refine hS.turnG hk (fun j hj => ?_) ?_ ?_ ?_ ?_
    · exact set_heap_ne hj
    · exact set_heap_eq hh
    · rcases hw1 with rfl | rfl <;> rfl
    · rcases hw1 with rfl | rfl <;> rfl
    · rcases hw1 with rfl | rfl <;> rfl

/-- the entry that a walk through a map came to last -/
theorem s_ent {it : Operand} {r c since stamp b : Nat} {seen : Array Nat} {es : Array MapEntry} {e : MapEntry} (k j : Nat) (hS : Sat w K (flat G)) (hk : nthG G k = some [(b, .mapIter (some r) since (seen.push stamp) c)]) (hj : nthG G j = some [(r, .map es c)])
    (hx : ev σ it = some (.pointer (some ⟨b, 0, none⟩))) (hf : es.toList.find? (·.born == stamp) = some e) (hg : gd l σ g = some true) (hdN : Nat.blt d N = true)
    (next : Rg P l Q N rest ((d, .tuple #[e.key, e.val]) :: σ) w) : Rg P l Q N (⟨some d, .entry it, ty, pos, af, g⟩ :: rest) σ w := by
  have hh := hS.heapG hk
  have hm := hS.heapG hj
  have hf' : es.find? (·.born == stamp) = some e := by rw [← Array.find?_toList]; exact hf
  refine rg_value rfl hg hdN (fun a' ha => ?_) next
  have key : (Instr.entry (.pointer (some ⟨b, 0, none⟩))).run P w = .ok (.tuple #[e.key, e.val]) w := by
    simp only [Instr.entry, getObj, Sem.run_bind, Sem.run, hh, hm, Result.andThen, Array.back?_push, bne_self_eq_false, Bool.false_eq_true, if_false, hf']
    rfl
  simp only [execOp, ha.ev hx, Sem.run_bind, key]; rfl

end
end Go.Fw
