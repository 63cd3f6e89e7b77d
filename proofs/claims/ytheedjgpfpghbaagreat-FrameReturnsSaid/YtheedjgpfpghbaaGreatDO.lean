/- A deterministic evaluator: the pass over a region that draws its order. -/
import Derived.Test.YtheedjgpfpghbaaGreatDN
set_option linter.unusedVariables false
set_option linter.unusedSectionVars false
set_option linter.unusedSimpArgs false
namespace Go.Ev
open Go Go.Fw
variable [Sym]

/-- a stage: what was handed over, the memory -/
def stg (f : PS) (q : Nat) : Option (Nat × Mem) :=
  match f.hs[q]? with
  | some h => some (h.1, h.2.1)
  | none => if q = f.hs.length then some (f.cp, f.M) else none

theorem stg_hs {f : PS} {q : Nat} {h : Nat × Mem × Nat} (hq : f.hs[q]? = some h) : stg f q = some (h.1, h.2.1) := by unfold stg; rw [hq]
theorem stg_cur (f : PS) : stg f f.hs.length = some (f.cp, f.M) := by
  unfold stg
  rw [List.getElem?_eq_none (Nat.le_refl _), if_pos rfl]

structure Ext (s f : PS) : Prop where
  V : ∀ i v, s.V.get i = some v → f.V.get i = some v
  B : ∀ x, x ∈ s.B → x ∈ f.B
  Bn : ∀ x, x ∈ f.B → x ∈ s.B ∨ tb s.dn x.1 = false
  hs : ∀ (q : Nat) (h : Nat × Mem × Nat), s.hs[q]? = some h → f.hs[q]? = some h
  cur : stg f s.hs.length = some (s.cp, s.M)
  dn : ∀ i, tb s.dn i = true → tb f.dn i = true

theorem Ext.refl (s : PS) : Ext s s := ⟨fun _ _ h => h, fun _ h => h, fun _ h => .inl h, fun _ _ h => h, stg_cur s, fun _ h => h⟩
theorem Ext.stg {s f : PS} (h : Ext s f) {q : Nat} {x : Nat × Mem} (hq : stg s q = some x) : stg f q = some x := by
  unfold Ev.stg at hq
  split at hq
  · rename_i y hy; cases hq; exact stg_hs (h.hs _ _ hy)
  · split at hq
    · rename_i e; cases hq; rw [e]; exact h.cur
    · cases hq
theorem Ext.trans {s t f : PS} (h : Ext s t) (h' : Ext t f) : Ext s f := by
  refine ⟨fun i v hv => h'.V i v (h.V i v hv), fun x hx => h'.B x (h.B x hx), fun x hx => ?_, fun q y hy => h'.hs q y (h.hs q y hy), h'.stg h.cur, fun i hi => h'.dn i (h.dn i hi)⟩
  rcases h'.Bn x hx with h1 | h1
  · exact h.Bn x h1
  · right
    cases hb : tb s.dn x.1 with
    | false => rfl
    | true => rw [h.dn _ hb] at h1; cases h1

section
variable {P : Program} {T : Tab} {tab : Nat → Option TI} {eqs : Nat → Option (List TK)} {zt : Nat → Option Value} {N b0 : Nat} {S : Tr Value} {ms : Tr Nat} {l : List Oper} {call : CallT} {V V' : Tr Value}

theorem gdG_mono (hV : ∀ i v, V.get i = some v → V'.get i = some v) {i : Nat} {g : Option (Nat × Bool)} {b : Bool} (h : gdG l ms V i g = some b) : gdG l ms V' i g = some b := by
  cases g with
  | none => exact h
  | some p =>
    obtain ⟨j, want⟩ := p
    simp only [gdG] at h ⊢
    cases ho : nthO l j with
    | none => rw [ho] at h; cases h
    | some o =>
      rw [ho] at h
      simp only at h ⊢
      cases ht : o.dst with
      | none => rw [ht] at h; cases h
      | some t =>
        rw [ht] at h
        simp only at h ⊢
        cases hb : tb (getN ms i) j with
        | false => rw [hb] at h; cases h
        | true =>
          rw [hb] at h
          simp only [cond_true] at h ⊢
          cases hv : V.get j with
          | none => rw [hv] at h; cases h
          | some x =>
            rw [hv] at h
            rw [hV _ _ hv]; exact h

theorem evG_mono (hV : ∀ i v, V.get i = some v → V'.get i = some v) {i : Nat} : ∀ y v, evG l S ms V i y = some v → evG l S ms V' i y = some v := by
  intro y v h
  cases y with
  | tmp t =>
    simp only [evG] at h ⊢
    split at h
    · exact h
    · rename_i j hj
      cases hb : tb (getN ms i) j with
      | false => rw [hb] at h; exact h
      | true => rw [hb] at h; exact hV _ _ h
  | _ => exact h

structure PInv (l : List Oper) (ms : Tr Nat) (s : PS) : Prop where
  V : ∀ i v, s.V.get i = some v → tb s.dn i = true
  B : ∀ x ∈ s.B, tb s.dn x.1 = true ∧ ∃ o, nthO l x.1 = some o ∧ isNew o.op = true ∧ gdG l ms s.V x.1 o.guard = some true
  Bd : (s.B.map (·.1)).Nodup
  hs : ∀ h ∈ s.hs, tb s.dn h.2.2 = true ∧ ∃ o, nthO l h.2.2 = some o ∧ isNew o.op = false ∧ isRead o.op = false ∧ isMem o.op = true ∧ gdG l ms s.V h.2.2 o.guard = some true
  hd : (s.hs.map (·.2.2)).Nodup

inductive Good (tab : Nat → Option TI) (eqs : Nat → Option (List TK)) (zt : Nat → Option Value) (call : CallT) (l : List Oper) (S : Tr Value) (ms : Tr Nat) (b0 : Nat) (f : PS) (i : Nat) (o : Oper) : Prop
  | skip (hg : gdG l ms f.V i o.guard = some false) (hv : f.V.get i = some Go.undef)
  | new {x : ABlk} {mk : Nat → Value} {e : Operand → Option Value} (hg : gdG l ms f.V i o.guard = some true) (hk : isNew o.op = true) (he : ∀ y v, e y = some v → evG l S ms f.V i y = some v) (h : newD tab o.op e = some (x, mk)) (hb : (i, x) ∈ f.B) (hv : f.V.get i = some (mk (b0 + i)))
  | read {v : Value} (hg : gdG l ms f.V i o.guard = some true) (hk1 : isNew o.op = false) (hk : isRead o.op = true) (hv : f.V.get i = some v)
  | chain {q cp : Nat} {M M' : Mem} {e : Operand → Option Value} {v : Value} {B' : List (Nat × ABlk)} (hg : gdG l ms f.V i o.guard = some true) (hk1 : isNew o.op = false) (hk2 : isRead o.op = false) (hk3 : isMem o.op = true)
      (hq : f.hs[q]? = some (cp, M, i)) (hq' : stg f (q + 1) = some (Nat.lor cp (getN ms i), M')) (he : ∀ y v, e y = some v → evG l S ms f.V i y = some v)
      (hB1 : ∀ x ∈ f.B, tb (getN ms i) x.1 = true → x ∈ B') (hB2 : ∀ x ∈ B', x ∈ f.B) (hB3 : (B'.map (·.1)).Nodup) (h : opD tab eqs zt call o.op e (extM b0 (getN ms i) cp B' M) = some (v, M'))
      (hp : ∀ q' h', q' < q → f.hs[q']? = some h' → tb (getN ms i) h'.2.2 = true) (hv : f.V.get i = some v)
  | pure {e : Operand → Option Value} {v : Value} (hg : gdG l ms f.V i o.guard = some true) (hk1 : isNew o.op = false) (hk2 : isRead o.op = false) (hk : isMem o.op = false) (he : ∀ y v, e y = some v → evG l S ms f.V i y = some v) (h : opw tab eqs o.op e = some v) (hv : f.V.get i = some v)

theorem dn_lor {d i j : Nat} (h : tb d j = true) : tb (Nat.lor d (bit i)) j = true := by rw [tb_lor, h, Bool.true_or]
theorem dn_self {d i : Nat} : tb (Nat.lor d (bit i)) i = true := by rw [tb_lor, tb_bit_self, Bool.or_true]
theorem dn_ne {d i j : Nat} (h : tb (Nat.lor d (bit i)) j = true) : tb d j = true ∨ i = j := by
  rw [tb_lor, tb_bit, Bool.or_eq_true] at h
  rcases h with h | h
  · exact .inl h
  · exact .inr (by simpa using h)

theorem passOp_spec {s s' : PS} {i : Nat} {o : Oper} (hI : PInv l ms s) (ho : nthO l i = some o) (hi : tb s.dn i = false) (hlt : i < 1000) (hpre : ∀ j, tb (getN ms i) j = true → tb s.dn j = true)
    (h : passOp tab eqs zt call l S ms b0 i o s = some s') : PInv l ms s' ∧ Ext s s' ∧ s'.dn = Nat.lor s.dn (bit i) ∧ ∀ f, Ext s' f → Good tab eqs zt call l S ms b0 f i o := by
  have hput : ∀ v j, (s.V.put (some v) 20 i).get j = if i = j then some v else s.V.get j := fun v j => Tr.get_put 20 s.V i j (by omega)
  have hself : ∀ v, (s.V.put (some v) 20 i).get i = some v := fun v => by rw [hput, if_pos rfl]
  have hVe : ∀ v j x, s.V.get j = some x → (s.V.put (some v) 20 i).get j = some x := fun v j x hx => by
    rw [hput]
    split
    · rename_i e; subst e; rw [hI.V _ _ hx] at hi; cases hi
    · exact hx
  have hVd : ∀ v j x, (s.V.put (some v) 20 i).get j = some x → tb (Nat.lor s.dn (bit i)) j = true := fun v j x hx => by
    rw [hput] at hx
    split at hx
    · rename_i e; subst e; exact dn_self
    · exact dn_lor (hI.V _ _ hx)
  have hBk : ∀ v, ∀ x ∈ s.B, tb (Nat.lor s.dn (bit i)) x.1 = true ∧ ∃ o, nthO l x.1 = some o ∧ isNew o.op = true ∧ gdG l ms (s.V.put (some v) 20 i) x.1 o.guard = some true := fun v x hx => by
    obtain ⟨h1, o', h2, h3, h4⟩ := hI.B x hx
    exact ⟨dn_lor h1, o', h2, h3, gdG_mono (hVe v) h4⟩
  have hHk : ∀ v, ∀ h ∈ s.hs, tb (Nat.lor s.dn (bit i)) h.2.2 = true ∧ ∃ o, nthO l h.2.2 = some o ∧ isNew o.op = false ∧ isRead o.op = false ∧ isMem o.op = true ∧ gdG l ms (s.V.put (some v) 20 i) h.2.2 o.guard = some true := fun v x hx => by
    obtain ⟨h1, o', h2, h3, h4, h5, h6⟩ := hI.hs x hx
    exact ⟨dn_lor h1, o', h2, h3, h4, h5, gdG_mono (hVe v) h6⟩
  have hE : ∀ v, Ext s ⟨s.V.put (some v) 20 i, s.B, s.hs, s.cp, s.M, Nat.lor s.dn (bit i)⟩ := fun v => ⟨hVe v, fun _ h => h, fun _ h => .inl h, fun _ _ h => h, stg_cur _, fun _ h => dn_lor h⟩
  have hP : ∀ v, PInv l ms ⟨s.V.put (some v) 20 i, s.B, s.hs, s.cp, s.M, Nat.lor s.dn (bit i)⟩ := fun v => ⟨hVd v, hBk v, hI.Bd, hHk v, hI.hd⟩
  unfold passOp at h
  split at h
  · rename_i hg
    cases h
    exact ⟨hP _, hE _, rfl, fun f hf => .skip (gdG_mono hf.V (gdG_mono (hVe _) hg)) (hf.V _ _ (hself _))⟩
  · rename_i hg
    cases hk1 : isNew o.op with
    | true =>
      rw [hk1] at h
      simp only [cond_true] at h
      split at h
      · rename_i x mk hx
        cases h
        have hni : ∀ y ∈ s.B, y.1 ≠ i := fun y hy e => by
          have := (hI.B y hy).1
          rw [e, hi] at this; cases this
        refine ⟨⟨hVd _, fun y hy => ?_, ?_, hHk _, hI.hd⟩, ⟨hVe _, fun y hy => List.mem_append_left _ hy, fun y hy => ?_, fun _ _ h => h, stg_cur _, fun _ h => dn_lor h⟩, rfl, fun f hf => ?_⟩
        · rcases List.mem_append.1 hy with hy | hy
          · exact hBk _ y hy
          · rw [List.mem_singleton] at hy
            subst hy
            exact ⟨dn_self, o, ho, hk1, gdG_mono (hVe _) hg⟩
        · rw [List.map_append, List.nodup_append]
          refine ⟨hI.Bd, by simp, fun a ha b hb => ?_⟩
          simp only [List.map_cons, List.map_nil, List.mem_singleton] at hb
          subst hb
          obtain ⟨y, hy, rfl⟩ := List.mem_map.1 ha
          exact hni y hy
        · rcases List.mem_append.1 hy with hy | hy
          · exact .inl hy
          · rw [List.mem_singleton] at hy
            subst hy
            exact .inr hi
        · exact .new (gdG_mono hf.V (gdG_mono (hVe _) hg)) hk1 (fun y v hv => evG_mono hf.V y v (evG_mono (hVe _) y v hv)) hx (hf.B _ (List.mem_append_right _ (List.mem_singleton.2 rfl))) (hf.V _ _ (hself _))
      · cases h
    | false =>
      rw [hk1] at h
      simp only [cond_false] at h
      cases hk2 : isRead o.op with
      | true =>
        rw [hk2] at h
        simp only [cond_true] at h
        split at h
        · rename_i v _ hv
          cases h
          exact ⟨hP _, hE _, rfl, fun f hf => .read (gdG_mono hf.V (gdG_mono (hVe _) hg)) hk1 hk2 (hf.V _ _ (hself _))⟩
        · cases h
      | false =>
        rw [hk2] at h
        simp only [cond_false] at h
        cases hk3 : isMem o.op with
        | true =>
          rw [hk3] at h
          simp only [cond_true] at h
          cases hall : s.hs.all (fun h => tb (getN ms i) h.2.2) with
          | false => rw [hall] at h; cases h
          | true =>
            rw [hall] at h
            simp only [cond_true] at h
            split at h
            · rename_i v M' hv
              cases h
              have hni : ∀ y ∈ s.hs, y.2.2 ≠ i := fun y hy e => by
                have := (hI.hs y hy).1
                rw [e, hi] at this; cases this
              refine ⟨⟨hVd _, hBk _, hI.Bd, fun y hy => ?_, ?_⟩, ⟨hVe _, fun y hy => hy, fun y hy => .inl hy, fun q y hy => ?_, ?_, fun _ h => dn_lor h⟩, rfl, fun f hf => ?_⟩
              · rcases List.mem_append.1 hy with hy | hy
                · exact hHk _ y hy
                · rw [List.mem_singleton] at hy
                  subst hy
                  exact ⟨dn_self, o, ho, hk1, hk2, hk3, gdG_mono (hVe _) hg⟩
              · rw [List.map_append, List.nodup_append]
                refine ⟨hI.hd, by simp, fun a ha b hb => ?_⟩
                simp only [List.map_cons, List.map_nil, List.mem_singleton] at hb
                subst hb
                obtain ⟨y, hy, rfl⟩ := List.mem_map.1 ha
                exact hni y hy
              · have hlt := (List.getElem?_eq_some_iff.1 hy).1
                show (s.hs ++ [(s.cp, s.M, i)])[q]? = some y
                rw [List.getElem?_append_left hlt]; exact hy
              · refine stg_hs (h := (s.cp, s.M, i)) ?_
                show (s.hs ++ [(s.cp, s.M, i)])[s.hs.length]? = _
                simp
              · have hq : f.hs[s.hs.length]? = some (s.cp, s.M, i) := hf.hs _ _ (by
                  show (s.hs ++ [(s.cp, s.M, i)])[s.hs.length]? = _
                  simp)
                have hq' : stg f (s.hs.length + 1) = some (Nat.lor s.cp (getN ms i), M') := by
                  have := hf.cur
                  simpa using this
                refine .chain (gdG_mono hf.V (gdG_mono (hVe _) hg)) hk1 hk2 hk3 hq hq' (fun y v hv => evG_mono hf.V y v (evG_mono (hVe _) y v hv)) (fun x hx ht => ?_) (fun x hx => hf.B _ hx) hI.Bd hv (fun q' h' hlt hq0 => ?_) (hf.V _ _ (hself _))
                · rcases hf.Bn x hx with h1 | h1
                  · exact h1
                  · rw [dn_lor (hpre _ ht)] at h1; cases h1
                · have h1 : s.hs[q']? = some s.hs[q'] := List.getElem?_eq_getElem hlt
                  have h2 := hf.hs q' s.hs[q'] (by
                    show (s.hs ++ [(s.cp, s.M, i)])[q']? = _
                    rw [List.getElem?_append_left hlt]; exact h1)
                  rw [h2] at hq0
                  cases hq0
                  exact List.all_eq_true.1 hall _ (List.getElem_mem hlt)
            · cases h
        | false =>
          rw [hk3] at h
          simp only [cond_false] at h
          split at h
          · rename_i v hv
            cases h
            exact ⟨hP _, hE _, rfl, fun f hf => .pure (gdG_mono hf.V (gdG_mono (hVe _) hg)) hk1 hk2 hk3 (fun y v hv => evG_mono hf.V y v (evG_mono (hVe _) y v hv)) hv (hf.V _ _ (hself _))⟩
          · cases h
  · cases h

/-- is it listed? -/
def lst (L : Array Bool) (i : Nat) : Prop := L.getD i false = true

/-- what the pass tells -/
structure Told (tab : Nat → Option TI) (eqs : Nat → Option (List TK)) (zt : Nat → Option Value) (call : CallT) (l : List Oper) (S : Tr Value) (ms : Tr Nat) (b0 : Nat) (s f : PS) : Prop where
  inv : PInv l ms f
  ext : Ext s f
  good : ∀ i o, nthO l i = some o → tb f.dn i = true → tb s.dn i = true ∨ Good tab eqs zt call l S ms b0 f i o
  pre : ∀ i o, nthO l i = some o → tb f.dn i = true → tb s.dn i = true ∨ preOf ms o = getN ms i
  all : ∀ L : Array Bool, Region.ready .any l.toArray L = [] → L.size = l.length → (∀ i, tb s.dn i = true → lst L i) → ∀ i, tb f.dn i = true → lst L i

theorem passD_spec : ∀ (ord : List Nat) (s f : PS), PInv l ms s → passD tab eqs zt call l S ms b0 ord s = some f → Told tab eqs zt call l S ms b0 s f
  | [], s, f, hI, h => by
    cases h
    exact ⟨hI, .refl _, fun i o _ h => .inl h, fun i o _ h => .inl h, fun L _ _ h => h⟩
  | i :: r, s, f, hI, h => by
    rw [show passD tab eqs zt call l S ms b0 (i :: r) s = stepP tab eqs zt call l S ms b0 i (passD tab eqs zt call l S ms b0 r) s from rfl] at h
    unfold stepP at h
    split at h
    · rename_i o ho
      cases hb : ((Nat.beq (preOf ms o) (getN ms i) && Nat.beq (Nat.land (getN ms i) s.dn) (getN ms i)) && (!(tb s.dn i) && Nat.blt i 1000)) with
      | false => rw [hb] at h; cases h
      | true =>
        rw [hb] at h
        simp only [cond_true] at h
        simp only [Bool.and_eq_true, Bool.not_eq_true'] at hb
        obtain ⟨⟨h1, h2⟩, h3, h4⟩ := hb
        have h1 := Nat.eq_of_beq_eq_true h1
        have h4 : i < 1000 := by simpa using h4
        have hpre : ∀ j, tb (getN ms i) j = true → tb s.dn j = true := fun j hj => tb_land h2 hj
        split at h
        · rename_i s1 hs1
          obtain ⟨h5, h6, h7, h8⟩ := passOp_spec hI ho h3 h4 hpre hs1
          have hR := passD_spec r s1 f h5 h
          have hdn : ∀ j, tb s1.dn j = true → tb s.dn j = true ∨ i = j := fun j hj => by rw [h7] at hj; exact dn_ne hj
          refine ⟨hR.inv, h6.trans hR.ext, fun j o' ho' hj => ?_, fun j o' ho' hj => ?_, fun L hL hsz hs => hR.all L hL hsz fun j hj => ?_⟩
          · rcases hR.good j o' ho' hj with h9 | h9
            · rcases hdn j h9 with h10 | rfl
              · exact .inl h10
              · rw [ho] at ho'; cases ho'
                exact .inr (h8 f hR.ext)
            · exact .inr h9
          · rcases hR.pre j o' ho' hj with h9 | h9
            · rcases hdn j h9 with h10 | rfl
              · exact .inl h10
              · rw [ho] at ho'; cases ho'
                exact .inr h1
            · exact .inr h9
          · rcases hdn j hj with h10 | rfl
            · exact hs j h10
            · have hlt : i < l.length := by
                rw [nthO_eq] at ho
                exact (List.getElem?_eq_some_iff.1 ho).1
              cases hc : L.getD i false with
              | true => exact hc
              | false =>
                exfalso
                have hrd : i ∈ Region.ready .any l.toArray L := by
                  refine mem_ready.2 ⟨?_, o, by rw [nthO_eq] at ho; simpa using ho, fun e he hb => ?_⟩
                  · simp [hsz, hlt] at hc ⊢; exact hc
                  · refine hs _ (hpre _ ?_)
                    rw [← h1]
                    exact preGo_dir hb (by simpa using he)
                rw [hL] at hrd; cases hrd
        · cases h
    · cases h
end
end Go.Ev
