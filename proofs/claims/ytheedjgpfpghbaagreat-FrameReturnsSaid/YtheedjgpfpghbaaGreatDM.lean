/- A deterministic evaluator: regions that draw their order. -/
import Derived.Test.YtheedjgpfpghbaaGreatDO
set_option linter.unusedVariables false
set_option linter.unusedSectionVars false
set_option linter.unusedSimpArgs false
namespace Go.Ev
open Go Go.Fw
variable [Sym]

theorem lst_set {L : Array Bool} {i j : Nat} (h : i < L.size) : lst (L.setIfInBounds i true) j ↔ (j = i ∨ lst L j) := by
  unfold lst
  by_cases e : i = j
  · subst e; simp [h]
  · rw [getD_set_ne false e]
    constructor
    · exact .inr
    · rintro (rfl | h)
      · exact absurd rfl e
      · exact h

section
variable {P : Program} {T : Tab} {ρ ρ' ρ0 : Rho} {tab : Nat → Option TI} {eqs : Nat → Option (List TK)} {zt : Nat → Option Value} {N b0 : Nat} {a : Act} {S S' V : Tr Value} {w w' : World} {K : KM} {L0 C Pc : Chunks} {M M' Mk : Mem} {ms : Tr Nat}
  {call : CallT} {v : Value} {l : List Oper} {Q : Exit → Act → World → Prop} {f s0 : PS} {L : Array Bool} {k cp : Nat} {ids pd : List Nat} {B : List (Nat × ABlk)}

/-! ### the frame -/
structure Fr (N : Nat) (l : List Oper) (S V : Tr Value) (ρ : Rho) (L : Array Bool) (a : Act) : Prop where
  size : a.tmps.size = N
  defers : a.defers = []
  s0 : ∀ t v, wrF t l 0 = none → S.get t = some v → ∃ u, a.tmps[t]? = some u ∧ RV ρ v u
  s1 : ∀ t j v, wrF t l 0 = some j → lst L j → V.get j = some v → ∃ u, a.tmps[t]? = some u ∧ RV ρ v u
  s2 : ∀ t j v, wrF t l 0 = some j → ¬ lst L j → S.get t = some v → ∃ u, a.tmps[t]? = some u ∧ RV ρ v u

theorem Fr.fits (h : Fr N l S V ρ L a) : Fits N a (slotsOf a) := fits_slotsOf h.size h.defers

theorem Fr.put (hd : dstOk N l 0 = true) (h : Fr N l S V ρ L a) {i : Nat} {o : Oper} (hi : l[i]? = some o) (hL : i < L.size) {u : Value} (hv : V.get i = some v) (hu : RV ρ' v u) (hle : Rho.le ρ ρ') :
    Fr N l S V ρ' (L.setIfInBounds i true) (a.put o.dst u) := by
  have up : ∀ {t : Nat} {v : Value}, (∃ u, a.tmps[t]? = some u ∧ RV ρ v u) → ∃ u, a.tmps[t]? = some u ∧ RV ρ' v u := fun ⟨u, h1, h2⟩ => ⟨u, h1, h2.mono hle⟩
  cases hdst : o.dst with
  | none =>
    have hne : ∀ t j, wrF t l 0 = some j → j ≠ i := fun t j ht e => by
      obtain ⟨q, o', h1, h2, h3⟩ := wrF_dst ht
      have : q = i := by omega
      rw [this, hi] at h2; cases h2
      rw [hdst] at h3; cases h3
    refine ⟨h.size, h.defers, fun t v ht hs => up (h.s0 t v ht hs), fun t j v ht hl hs => ?_, fun t j v ht hl hs => ?_⟩
    · rcases (lst_set hL).1 hl with e | hl
      · exact absurd e (hne t j ht)
      · exact up (h.s1 t j v ht hl hs)
    · exact up (h.s2 t j v ht (fun h => hl ((lst_set hL).2 (.inr h))) hs)
  | some d =>
    obtain ⟨h1, h2⟩ := wrF_of (i := 0) hd hi hdst
    rw [Nat.zero_add] at h1
    have hdN : d < N := by simpa using h2
    have hne : ∀ t j, wrF t l 0 = some j → j = i → t = d := fun t j ht e => by
      obtain ⟨q, o', h1, h2, h3⟩ := wrF_dst ht
      have : q = i := by omega
      rw [this, hi] at h2; cases h2
      rw [hdst] at h3; cases h3; rfl
    have hat : ∀ t, ((a.put (some d) u).tmps)[t]? = if d = t then some u else a.tmps[t]? := fun t => by
      show (a.tmps.setIfInBounds d u)[t]? = _
      rw [Array.getElem?_setIfInBounds]
      split
      · rw [if_pos (by rw [h.size]; exact hdN)]
      · rfl
    refine ⟨by simp [Act.put, h.size], h.defers, fun t v ht hs => ?_, fun t j v' ht hl hs => ?_, fun t j v ht hl hs => ?_⟩
    · rw [hat]
      split
      · rename_i e; subst e; rw [h1] at ht; cases ht
      · exact up (h.s0 t v ht hs)
    · rw [hat]
      split
      · rename_i e; subst e
        rw [h1] at ht; cases ht
        rw [hv] at hs; cases hs
        exact ⟨u, rfl, hu⟩
      · rename_i e
        rcases (lst_set hL).1 hl with e' | hl
        · exact absurd (hne t j ht e').symm e
        · exact up (h.s1 t j v' ht hl hs)
    · rw [hat]
      split
      · rename_i e; subst e
        rw [h1] at ht; cases ht
        exact absurd ((lst_set hL).2 (.inl rfl)) hl
      · exact up (h.s2 t j v ht (fun h => hl ((lst_set hL).2 (.inr h))) hs)

/-- what operands are -/
theorem Fr.ev (h : Fr N l S V ρ L a) {i : Nat} (hun : ¬ lst L i) (hpre : ∀ j, tb (getN ms i) j = true → lst L j) (hcl : ∀ j k, lst L j → tb (getN ms j) k = true → lst L k) : EvR ρ (evG l S ms V i) (slotsOf a) := by
  intro x v hx
  cases x with
  | tmp t =>
    simp only [evG] at hx
    simp only [Fw.ev, lk_slotsOf]
    split at hx
    · rename_i ht; exact h.s0 t v ht hx
    · rename_i j ht
      cases hb : tb (getN ms i) j with
      | true => rw [hb] at hx; exact h.s1 t j v ht (hpre j hb) hx
      | false =>
        rw [hb] at hx
        simp only [cond_false] at hx
        cases hb2 : tb (getN ms j) i with
        | false => rw [hb2] at hx; cases hx
        | true =>
          rw [hb2] at hx
          exact h.s2 t j v ht (fun hl => hun (hcl j i hl hb2)) hx
  | const c => exact evD_R (S := .e) (σ := slotsOf a) (fun t v h => by rw [Tr.get_e] at h; cases h) _ _ hx
  | global g => cases hx
  | func g => exact evD_R (S := .e) (σ := slotsOf a) (fun t v h => by rw [Tr.get_e] at h; cases h) _ _ hx

theorem Fr.gd (hd : dstOk N l 0 = true) (h : Fr N l S V ρ L a) {i : Nat} (hpre : ∀ j, tb (getN ms i) j = true → lst L j) {g : Option (Nat × Bool)} {b : Bool} (hg : gdG l ms V i g = some b) : gd l (slotsOf a) g = some b := by
  cases g with
  | none => exact hg
  | some p =>
    obtain ⟨j, want⟩ := p
    simp only [gdG] at hg
    simp only [Fw.gd]
    cases ho : nthO l j with
    | none => rw [ho] at hg; cases hg
    | some o =>
      rw [ho] at hg
      simp only at hg ⊢
      cases ht : o.dst with
      | none => rw [ht] at hg; cases hg
      | some t =>
        rw [ht] at hg
        simp only at hg ⊢
        cases hb : tb (getN ms i) j with
        | false => rw [hb] at hg; cases hg
        | true =>
          rw [hb] at hg
          simp only [cond_true] at hg
          have hw := (wrF_of (i := 0) hd (by rw [nthO_eq] at ho; exact ho) ht).1
          rw [Nat.zero_add] at hw
          cases hv : V.get j with
          | none => rw [hv] at hg; cases hg
          | some x =>
            rw [hv] at hg
            obtain ⟨u, h1, h2⟩ := h.s1 t j x hw (hpre j hb) hv
            rw [lk_slotsOf, h1]
            cases x with
            | bool c => rw [h2.bool]; exact hg
            | chan r => simp only at hg; cases hg
            | _ =>
              simp only at hg
              cases u with
              | bool c => have := h2.bool' (fun r e => by cases e); cases this
              | _ => exact hg

/-! ### blocks that are handed over -/
theorem BlkR.fst {id : Nat} {x : ABlk} {p : Nat × Obj} (h : BlkR ρ id x p) : ∃ r, ρ id = some r ∧ p.1 = r.1 := by
  cases h with
  | cells h _ _ => exact ⟨_, h, rfl⟩
  | map h _ => exact ⟨_, h, rfl⟩

theorem MemR.add (h : MemR ρ M ids C) {id : Nat} {x : ABlk} {p : Nat × Obj} {R : Chunks} (hb : BlkR ρ id x p) (hS : Sat w K (C ++ (p :: R))) (hlt : id < 1000000) : MemR ρ (M.set id x) (id :: ids) (p :: C) := by
  have hni : id ∉ ids := fun hm => by
    obtain ⟨b, ids', C', h1, h2, ⟨y, _, hy⟩, _⟩ := all2_pull h.each hm
    obtain ⟨r, h3, h4⟩ := hb.fst
    obtain ⟨r', h5, h6⟩ := hy.fst
    rw [h3] at h5; cases h5
    have hn := hS.nodup
    rw [List.map_append, List.nodup_append] at hn
    exact hn.2.2 b.1 (List.mem_map.2 ⟨b, h2.mem_iff.2 (List.mem_cons_self ..), rfl⟩) p.1 (List.mem_map.2 ⟨p, List.mem_cons_self .., rfl⟩) (by rw [h4, h6])
  have hg : ∀ j, (M.set id x).m.get j = if id = j then some x else M.m.get j := fun j => Tr.get_put 20 M.m id j (by omega)
  refine ⟨List.nodup_cons.2 ⟨hni, h.nodup⟩, .cons ⟨x, by rw [hg, if_pos rfl], hb⟩ (each_keep (fun _ _ h => h) h.each fun j hj => ?_), fun j z hz => ?_, h.low⟩
  · rw [hg, if_neg (fun e => hni (by rw [e]; exact hj))]
  · rw [hg] at hz
    split at hz
    · rename_i e; subst e; exact List.mem_cons_self ..
    · exact List.mem_cons_of_mem _ (h.all _ _ hz)

def Pend (ρ : Rho) (b0 : Nat) (B : List (Nat × ABlk)) (pd : List Nat) (Pc : Chunks) : Prop := All2 (fun j p => ∃ x, (j, x) ∈ B ∧ BlkR ρ (b0 + j) x p) pd Pc

theorem Pend.mono (hl : Rho.le ρ ρ') (h : Pend ρ b0 B pd Pc) : Pend ρ' b0 B pd Pc := h.imp fun j p ⟨x, h1, h2⟩ => ⟨x, h1, h2.mono hl⟩

theorem key_uniq : ∀ {B : List (Nat × ABlk)}, (B.map (·.1)).Nodup → ∀ {j : Nat} {x y : ABlk}, (j, x) ∈ B → (j, y) ∈ B → x = y
  | b :: r, hn, j, x, y, hx, hy => by
    rw [List.map_cons, List.nodup_cons] at hn
    rcases List.mem_cons.1 hx with e1 | hx'
    · rcases List.mem_cons.1 hy with e | hy'
      · rw [← e1] at e; cases e; rfl
      · exact absurd (List.mem_map.2 ⟨_, hy', by rw [← e1]⟩) hn.1
    · rcases List.mem_cons.1 hy with e | hy'
      · exact absurd (List.mem_map.2 ⟨_, hx', by rw [← e]⟩) hn.1
      · exact key_uniq hn.2 hx' hy'

theorem ext_R (hBn : (B.map (·.1)).Nodup) (pm cp : Nat) : ∀ (B' : List (Nat × ABlk)) (ids : List Nat) (C : Chunks) (pd : List Nat) (Pc : Chunks) (M : Mem), (∀ x ∈ B', x ∈ B) → (B'.map (·.1)).Nodup → MemR ρ M ids C → Pend ρ b0 B pd Pc → pd.Nodup → Sat w K (C ++ (Pc ++ L0)) →
    (∀ x ∈ B', tb pm x.1 = true → tb cp x.1 = false → x.1 ∈ pd) → (∀ x ∈ B', b0 + x.1 < 1000000) →
    ∃ ids' C' pd' Pc', MemR ρ (extM b0 pm cp B' M) ids' C' ∧ Pend ρ b0 B pd' Pc' ∧ pd'.Nodup ∧ Sat w K (C' ++ (Pc' ++ L0)) ∧ (∀ j, j ∈ pd' ↔ j ∈ pd ∧ ¬ (tb pm j = true ∧ tb cp j = false ∧ ∃ x, (j, x) ∈ B')) ∧ (extM b0 pm cp B' M).nx = M.nx
  | [], ids, C, pd, Pc, M, _, _, hM, hP, hn, hS, _, _ => ⟨ids, C, pd, Pc, hM, hP, hn, hS, fun j => ⟨fun h => ⟨h, fun ⟨_, _, x, hx⟩ => by cases hx⟩, fun h => h.1⟩, rfl⟩
  | (j, x) :: r, ids, C, pd, Pc, M, hB, hn', hM, hP, hn, hS, hh, hlt => by
    rw [List.map_cons, List.nodup_cons] at hn'
    unfold extM
    cases hb : (tb pm j && !(tb cp j)) with
    | false =>
      simp only [cond_false]
      obtain ⟨ids', C', pd', Pc', h1, h2, h3, h4, h5, h6⟩ := ext_R hBn pm cp r ids C pd Pc M (fun y hy => hB y (List.mem_cons_of_mem _ hy)) hn'.2 hM hP hn hS (fun y hy => hh y (List.mem_cons_of_mem _ hy)) (fun y hy => hlt y (List.mem_cons_of_mem _ hy))
      refine ⟨ids', C', pd', Pc', h1, h2, h3, h4, fun i => (h5 i).trans ⟨fun ⟨h7, h8⟩ => ⟨h7, fun ⟨h9, h10, y, hy⟩ => ?_⟩, fun ⟨h7, h8⟩ => ⟨h7, fun ⟨h9, h10, y, hy⟩ => h8 ⟨h9, h10, y, List.mem_cons_of_mem _ hy⟩⟩⟩, h6⟩
      rcases List.mem_cons.1 hy with e | hy
      · cases e; rw [h9, h10] at hb; cases hb
      · exact h8 ⟨h9, h10, y, hy⟩
    | true =>
      simp only [cond_true]
      simp only [Bool.and_eq_true, Bool.not_eq_true'] at hb
      have hj := hh (j, x) (List.mem_cons_self ..) hb.1 hb.2
      obtain ⟨p, pd1, Pc1, h1, h2, ⟨x', h3, h4⟩, h5⟩ := all2_pull hP hj
      have hx' := key_uniq hBn h3 (hB _ (List.mem_cons_self ..))
      subst hx'
      have hS1 : Sat w K (C ++ (p :: (Pc1 ++ L0))) := hS.perm ((h2.append_right L0).append_left C)
      have hM1 := hM.add h4 hS1 (hlt (j, x') (List.mem_cons_self ..))
      have hn1 := h1.nodup_iff.1 hn
      rw [List.nodup_cons] at hn1
      obtain ⟨ids', C', pd', Pc', g1, g2, g3, g4, g5, g6⟩ := ext_R hBn pm cp r ((b0 + j) :: ids) (p :: C) pd1 Pc1 (M.set (b0 + j) x') (fun y hy => hB y (List.mem_cons_of_mem _ hy)) hn'.2 hM1 h5 hn1.2 (hS1.perm (List.perm_middle (a := p) (l₁ := C) (l₂ := Pc1 ++ L0))) (fun y hy h6 h7 => by
          have h8 := hh y (List.mem_cons_of_mem _ hy) h6 h7
          rcases List.mem_cons.1 (h1.mem_iff.1 h8) with e | e
          · exact absurd (List.mem_map.2 ⟨y, hy, e⟩) hn'.1
          · exact e) (fun y hy => hlt y (List.mem_cons_of_mem _ hy))
      refine ⟨ids', C', pd', Pc', g1, g2, g3, g4, fun i => (g5 i).trans ⟨fun ⟨h7, h8⟩ => ⟨h1.mem_iff.2 (List.mem_cons_of_mem _ h7), fun ⟨h9, h10, y, hy⟩ => ?_⟩, fun ⟨h7, h8⟩ => ⟨?_, fun ⟨h9, h10, y, hy⟩ => h8 ⟨h9, h10, y, List.mem_cons_of_mem _ hy⟩⟩⟩, g6⟩
      · rcases List.mem_cons.1 hy with e | hy
        · cases e; exact hn1.1 h7
        · exact h8 ⟨h9, h10, y, hy⟩
      · rcases List.mem_cons.1 (h1.mem_iff.1 h7) with e | e
        · subst e; exact absurd ⟨hb.1, hb.2, x', List.mem_cons_self ..⟩ h8
        · exact e

/-! ### the memory -/
structure Mm (ms : Tr Nat) (b0 n : Nat) (f : PS) (K : KM) (L0 : Chunks) (ρ0 : Rho) (L : Array Bool) (w : World) (ρ : Rho) (k cp : Nat) (Mk : Mem) (ids : List Nat) (C : Chunks) (pd : List Nat) (Pc : Chunks) : Prop where
  stg : stg f k = some (cp, Mk)
  chain : ∀ (q : Nat) (h : Nat × Mem × Nat), f.hs[q]? = some h → (lst L h.2.2 ↔ q < k)
  cpk : ∀ j, tb cp j = true → lst L j
  mem : MemR ρ Mk ids C
  nx : b0 + n ≤ Mk.nx
  pend : Pend ρ b0 f.B pd Pc
  pdn : pd.Nodup
  pdi : ∀ j, j ∈ pd ↔ (lst L j ∧ tb cp j = false ∧ ∃ x, (j, x) ∈ f.B)
  sat : Sat w K (C ++ (Pc ++ L0))
  fresh : ∀ j, j < n → ¬ lst L j → ρ (b0 + j) = none
  le : Rho.le ρ0 ρ
  keep : ∀ j, j < b0 → ρ j = ρ0 j

/-- what stands behind an operation -/
def Inv (N : Nat) (l : List Oper) (S : Tr Value) (ms : Tr Nat) (b0 : Nat) (f : PS) (K : KM) (L0 : Chunks) (ρ0 : Rho) (L : Array Bool) (a : Act) (w : World) : Prop :=
  L.size = l.length ∧ (∀ j k, lst L j → tb (getN ms j) k = true → lst L k) ∧ ∃ ρ k cp Mk ids C pd Pc, Fr N l S f.V ρ L a ∧ Mm ms b0 l.length f K L0 ρ0 L w ρ k cp Mk ids C pd Pc

theorem Mm.pass {n : Nat} (h : Mm ms b0 n f K L0 ρ0 L w ρ k cp Mk ids C pd Pc) {i : Nat} (hL : i < L.size) (h1 : ∀ (q : Nat) (h : Nat × Mem × Nat), f.hs[q]? = some h → h.2.2 ≠ i) (h2 : ∀ x, (i, x) ∉ f.B) : Mm ms b0 n f K L0 ρ0 (L.setIfInBounds i true) w ρ k cp Mk ids C pd Pc := by
  refine ⟨h.stg, fun q y hy => ?_, fun j hj => (lst_set hL).2 (.inr (h.cpk j hj)), h.mem, h.nx, h.pend, h.pdn, fun j => ?_, h.sat, fun j hj hl => h.fresh j hj fun hh => hl ((lst_set hL).2 (.inr hh)), h.le, h.keep⟩
  · rw [lst_set hL, ← h.chain q y hy]
    exact ⟨fun hh => hh.resolve_left (h1 q y hy), .inr⟩
  · rw [h.pdi, lst_set hL]
    constructor
    · rintro ⟨h3, h4⟩; exact ⟨.inr h3, h4⟩
    · rintro ⟨h3, h4, x, hx⟩
      rcases h3 with rfl | h3
      · exact absurd hx (h2 x)
      · exact ⟨h3, h4, x, hx⟩
end
end Go.Ev
