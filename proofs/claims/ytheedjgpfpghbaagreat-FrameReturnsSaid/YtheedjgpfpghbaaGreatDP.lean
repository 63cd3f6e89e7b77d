/- A deterministic evaluator: regions that draw their order come to what they are told to come to. -/
import Derived.Test.YtheedjgpfpghbaaGreatDM
set_option linter.unusedVariables false
set_option linter.unusedSectionVars false
set_option linter.unusedSimpArgs false
namespace Go.Ev
open Go Go.Fw
variable [Sym]

theorem nodup_idx : ∀ {l : List Nat} {a b x : Nat}, l.Nodup → l[a]? = some x → l[b]? = some x → a = b
  | y :: r, 0, 0, x, _, _, _ => rfl
  | y :: r, 0, b + 1, x, hn, ha, hb => by
    rw [List.nodup_cons] at hn
    simp at ha hb; subst ha
    exact absurd (List.mem_of_getElem? hb) hn.1
  | y :: r, a + 1, 0, x, hn, ha, hb => by
    rw [List.nodup_cons] at hn
    simp at ha hb; subst hb
    exact absurd (List.mem_of_getElem? ha) hn.1
  | y :: r, a + 1, b + 1, x, hn, ha, hb => by
    rw [List.nodup_cons] at hn
    simp at ha hb
    rw [nodup_idx hn.2 ha hb]
  | [], a, b, x, _, ha, _ => by simp at ha

def cntF : List Bool → Nat
  | [] => 0
  | false :: r => cntF r + 1
  | true :: r => cntF r
theorem cntF_set : ∀ {l : List Bool} {i : Nat}, l[i]? = some false → cntF (l.set i true) + 1 = cntF l
  | b :: r, 0, h => by simp at h; subst h; rfl
  | b :: r, i + 1, h => by
    have := cntF_set (l := r) (i := i) (by simpa using h)
    cases b <;> simp only [List.set, cntF] <;> omega
  | [], i, h => by simp at h
theorem cntF_zero : ∀ {l : List Bool} {i : Nat}, cntF l = 0 → l[i]? ≠ some false
  | b :: r, 0, h => by cases b with
    | true => simp
    | false => simp [cntF] at h
  | b :: r, i + 1, h => by cases b with
    | true => simpa using cntF_zero (l := r) (i := i) h
    | false => simp [cntF] at h
  | [], i, h => by simp
theorem cntF_repl : ∀ n, cntF (List.replicate n false) = n
  | 0 => rfl
  | n + 1 => by rw [List.replicate_succ, cntF, cntF_repl n]

section
variable {P : Program} {T : Tab} {ρ ρ' ρ0 : Rho} {tab : Nat → Option TI} {eqs : Nat → Option (List TK)} {zt : Nat → Option Value} {N b0 : Nat} {a : Act} {S S' V : Tr Value} {w w' : World} {K : KM} {L0 C Pc : Chunks} {M M' Mk M0 : Mem} {ms : Tr Nat}
  {call : CallT} {v : Value} {l : List Oper} {Q : Exit → Act → World → Prop} {f s0 : PS} {L : Array Bool} {k cp : Nat} {ids pd : List Nat} {B : List (Nat × ABlk)}

theorem MemR.with (h : MemR ρ M ids C) {id : Nat} {r : Nat × Nat × Nat} (hf : ρ id = none) (hlt : id < M.nx) : MemR (ρ.with id r) M ids C := by
  refine ⟨h.nodup, each_keep (Rho.le_with hf) h.each fun _ _ => rfl, h.all, fun j q hq => ?_⟩
  unfold Rho.with at hq
  split at hq
  · rename_i e; subst e; exact hlt
  · exact h.low _ _ hq

/-- all that was looked at -/
structure Chk (tab : Nat → Option TI) (eqs : Nat → Option (List TK)) (zt : Nat → Option Value) (call : CallT) (N : Nat) (l : List Oper) (S : Tr Value) (ms : Tr Nat) (b0 : Nat) (s0 f : PS) : Prop where
  hd : dstOk N l 0 = true
  lim : b0 + l.length < 1000000
  zero : s0.dn = 0
  told : Told tab eqs zt call l S ms b0 s0 f
  rds : ∀ i o, l[i]? = some o → tb f.dn i = true ∧ rdOk tab zt call l S ms b0 f i o = true

theorem inv_op [hT : TabC P T] (hX : Ctx P T tab eqs zt) (hc : CallOk P K call) (hk : Chk tab eqs zt call N l S ms b0 s0 f) {i : Nat} (hI : Inv N l S ms b0 f K L0 ρ0 L a w) (hr : i ∈ Region.ready .any l.toArray L) :
    wpOp P l.toArray Q i (fun a' w' => Inv N l S ms b0 f K L0 ρ0 (L.setIfInBounds i true) a' w') a w := by
  obtain ⟨hsz, hcl, ρ, k, cp, Mk, ids, C, pd, Pc, hF, hM⟩ := hI
  obtain ⟨hun, o, ho, hall⟩ := mem_ready.1 hr
  have ho' : l[i]? = some o := by simpa using ho
  have hlt : i < l.length := (List.getElem?_eq_some_iff.1 ho').1
  have hL : i < L.size := by omega
  have hun' : ¬ lst L i := fun h => by
    unfold lst at h
    simp [hL] at h hun
    rw [h] at hun; cases hun
  obtain ⟨hdn, hrd⟩ := hk.rds i o ho'
  have hnO : nthO l i = some o := by rw [nthO_eq]; exact ho'
  have hz : ¬ tb s0.dn i = true := by rw [hk.zero, tb_zero]; simp
  have hpo : preOf ms o = getN ms i := (hk.told.pre i o hnO hdn).resolve_left hz
  have hpre : ∀ j, tb (getN ms i) j = true → lst L j := fun j hj => by
    rw [← hpo] at hj
    obtain ⟨e, h1, h2, h3⟩ := preGo_spec hj
    have h4 := hall e (by simpa using h1) h2
    rcases h3 with rfl | h3
    · exact h4
    · exact hcl _ _ h4 h3
  have hcl' : ∀ j k, lst (L.setIfInBounds i true) j → tb (getN ms j) k = true → lst (L.setIfInBounds i true) k := fun j q hj hq => by
    rw [lst_set hL] at hj ⊢
    rcases hj with rfl | hj
    · exact .inr (hpre _ hq)
    · exact .inr (hcl _ _ hj hq)
  have hEv := hF.ev hun' hpre hcl
  have hgood := (hk.told.good i o hnO hdn).resolve_left hz
  have hw : ∀ b, gdG l ms f.V i o.guard = some b → Region.wanted o (yielded l.toArray a.tmps) = b := fun b hg => gd_sound (hF.gd hk.hd hpre hg) hF.fits
  have hbd : ∀ x ∈ f.B, b0 + x.1 < 1000000 := fun x hx => by
    obtain ⟨_, o2, h2, _⟩ := hk.told.inv.B x hx
    rw [nthO_eq] at h2
    have := (List.getElem?_eq_some_iff.1 h2).1
    have := hk.lim
    omega
  have fin : ∀ {u v : Value} {w' : World} {ρ' : Rho} {k cp : Nat} {Mk : Mem} {ids : List Nat} {C : Chunks} {pd : List Nat} {Pc : Chunks}, f.V.get i = some v → RV ρ' v u → Rho.le ρ ρ' → Mm ms b0 l.length f K L0 ρ0 (L.setIfInBounds i true) w' ρ' k cp Mk ids C pd Pc →
      Inv N l S ms b0 f K L0 ρ0 (L.setIfInBounds i true) (a.put o.dst u) w' := fun hv hu hle hm =>
    ⟨by simp [hsz], hcl', _, _, _, _, _, _, _, _, hF.put hk.hd ho' hL hv hu hle, hm⟩
  have nhs : (gdG l ms f.V i o.guard = some false ∨ isNew o.op = true ∨ isRead o.op = true ∨ isMem o.op = false) → ∀ (q : Nat) (h : Nat × Mem × Nat), f.hs[q]? = some h → h.2.2 ≠ i := fun hor q h hq e => by
    obtain ⟨_, o2, h2, h3, h4, h5, h6⟩ := hk.told.inv.hs h (List.mem_of_getElem? hq)
    rw [e, hnO] at h2; cases h2
    rw [e] at h6
    rcases hor with h | h | h | h
    · rw [h] at h6; cases h6
    · rw [h] at h3; cases h3
    · rw [h] at h4; cases h4
    · rw [h] at h5; cases h5
  have nB : (gdG l ms f.V i o.guard = some false ∨ isNew o.op = false) → ∀ x, (i, x) ∉ f.B := fun hor x hx => by
    obtain ⟨_, o2, h2, h3, h4⟩ := hk.told.inv.B _ hx
    rw [hnO] at h2; cases h2
    rcases hor with h | h
    · rw [h] at h4; cases h4
    · rw [h] at h3; cases h3
  have hBn := hk.told.inv.Bd
  unfold wpOp
  rw [ho]
  simp only
  cases hgood with
  | skip hg hv =>
    rw [hw _ hg]
    exact fin hv RV.undef (fun _ _ h => h) (hM.pass hL (nhs (.inl hg)) (nB (.inl hg)))
  | new hg hk1 he h hb hv =>
    rename_i x mk e
    rw [hw _ hg, if_pos rfl]
    refine .inl ?_
    obtain ⟨u, w', ob, r, h1, h2, h3⟩ := newD_R (w := w) hX hF.fits (fun y v hy => hEv y v (he y v hy)) h
    have hfr := hM.fresh i hlt hun'
    obtain ⟨h4, h5⟩ := h3 (b0 + i) hfr
    unfold Oper.wp
    rw [show o = ⟨o.dst, o.op, o.type, o.pos, o.after, o.guard⟩ from rfl, h1, Oper.upon_value]
    have hnx := hM.nx
    refine fin (k := k) (cp := cp) (Mk := Mk) (ids := ids) (C := C) (pd := i :: pd) (Pc := (w.heap.size, ob) :: Pc) hv h4 (Rho.le_with hfr) ⟨hM.stg, fun q y hy => ?_, fun j hj => (lst_set hL).2 (.inr (hM.cpk j hj)), hM.mem.with hfr (by omega), hM.nx, .cons ⟨x, hb, h5⟩ (hM.pend.mono (Rho.le_with hfr)), List.nodup_cons.2 ⟨fun hm => hun' ((hM.pdi i).1 hm).1, hM.pdn⟩, fun j => ?_, ?_, fun j hj hl => ?_, fun b q hq => Rho.le_with hfr _ _ (hM.le b q hq), fun j hj => ?_⟩
    · rw [lst_set hL, ← hM.chain q y hy]
      exact ⟨fun hh => hh.resolve_left (nhs (.inr (.inl hk1)) q y hy), .inr⟩
    · rw [List.mem_cons, hM.pdi, lst_set hL]
      constructor
      · rintro (rfl | ⟨h6, h7⟩)
        · refine ⟨.inl rfl, ?_, x, hb⟩
          cases hq : tb cp j with
          | false => rfl
          | true => exact absurd (hM.cpk _ hq) hun'
        · exact ⟨.inr h6, h7⟩
      · rintro ⟨rfl | h6, h7⟩
        · exact .inl rfl
        · exact .inr ⟨h6, h7⟩
    · exact (h2 K _ hM.sat).perm (List.perm_middle (a := (w.heap.size, ob)) (l₁ := C) (l₂ := Pc ++ L0)).symm
    · have hj' : ¬ lst L j := fun hh => hl ((lst_set hL).2 (.inr hh))
      have hne : j ≠ i := fun e => hl ((lst_set hL).2 (.inl e))
      unfold Rho.with
      rw [if_neg (by omega)]
      exact hM.fresh j hj hj'
    · unfold Rho.with
      rw [if_neg (by omega)]
      exact hM.keep j hj
  | read hg hk1 hk2 hv =>
    rename_i v
    rw [hw _ hg, if_pos rfl]
    refine .inl ?_
    have hat : rdAt tab zt call o.op (evG l S ms f.V i) (extM b0 (getN ms i) cp f.B Mk) v = true := by
      unfold rdOk at hrd
      rw [hg] at hrd
      simp only [hk2, cond_true, hv, Bool.and_eq_true] at hrd
      obtain ⟨h1, h2⟩ := hrd
      have hncp : tb cp i = false := by
        cases hq : tb cp i with
        | false => rfl
        | true => exact absurd (hM.cpk _ hq) hun'
      cases hq : f.hs[k]? with
      | some y =>
        have hst := hM.stg
        rw [stg_hs hq] at hst
        cases hst
        have := List.all_eq_true.1 h1 y (List.mem_of_getElem? hq)
        rw [hncp] at this
        simp only [Bool.false_or, Bool.or_eq_true] at this
        rcases this with h3 | h3
        · exact absurd ((hM.chain k y hq).1 (hpre _ h3)) (Nat.lt_irrefl _)
        · exact h3
      | none =>
        have hst := hM.stg
        unfold stg at hst
        rw [hq] at hst
        simp only at hst
        split at hst
        · cases hst
          rw [hncp] at h2
          exact h2
        · cases hst
    obtain ⟨ids', C', pd', Pc', g1, g2, g3, g4, g5, g6⟩ := ext_R (ρ := ρ) (b0 := b0) (w := w) (K := K) (L0 := L0) hBn (getN ms i) cp f.B ids C pd Pc Mk (fun _ h => h) hBn hM.mem hM.pend hM.pdn hM.sat (fun x hx h1 h2 => (hM.pdi x.1).2 ⟨hpre _ h1, h2, x.2, hx⟩) hbd
    unfold rdAt at hat
    split at hat
    · rename_i u0 M2 h0
      have := sameV_eq hat
      subst this
      obtain ⟨u, h1, h2, _⟩ := read_R (P := P) (T := T) hX hF.fits hEv (show World.Is w K (Pc' ++ L0) ρ _ from ⟨ids', C', g1, g4⟩) hk2 h0
      unfold Oper.wp
      rw [show o = ⟨o.dst, o.op, o.type, o.pos, o.after, o.guard⟩ from rfl, h1, Oper.upon_value]
      exact fin hv h2 (fun _ _ h => h) (hM.pass hL (nhs (.inr (.inr (.inl hk2)))) (nB (.inr hk1)))
    · cases hat
  | chain hg hk1 hk2 hk3 hq hq' he hB1 hB2 hB3 h hp hv =>
    rename_i q cp1 M1 M' e v B'
    rw [hw _ hg, if_pos rfl]
    refine .inl ?_
    have hqk : q = k := by
      rcases Nat.lt_trichotomy q k with h1 | h1 | h1
      · exact absurd ((hM.chain q _ hq).2 h1) hun'
      · exact h1
      · exfalso
        have hlt2 := (List.getElem?_eq_some_iff.1 hq).1
        have hkk : f.hs[k]? = some f.hs[k] := List.getElem?_eq_getElem (by omega)
        have := (hM.chain k _ hkk).1 (hpre _ (hp k _ h1 hkk))
        omega
    subst hqk
    have hst := hM.stg
    rw [stg_hs hq] at hst
    cases hst
    obtain ⟨ids', C', pd', Pc', g1, g2, g3, g4, g5, g6⟩ := ext_R (ρ := ρ) (b0 := b0) (w := w) (K := K) (L0 := L0) hBn (getN ms i) cp1 B' ids C pd Pc M1 hB2 hB3 hM.mem hM.pend hM.pdn hM.sat (fun x hx h1 h2 => (hM.pdi x.1).2 ⟨hpre _ h1, h2, x.2, hB2 x hx⟩) (fun x hx => hbd x (hB2 x hx))
    have hnx : b0 + l.length ≤ M1.nx := hM.nx
    refine step_op hX hc hF.fits (fun y v hy => hEv y v (he y v hy)) (show World.Is w K (Pc' ++ L0) ρ _ from ⟨ids', C', g1, g4⟩) h fun u w' ρ' hup hu hW' => ?_
    obtain ⟨ids2, C2, hM2, hS2⟩ := hW'
    have hnx2 := hup.nx
    rw [g6] at hnx2
    have hkeep : ∀ j, j < M1.nx → ρ' j = ρ j := fun j hj => hup.keep j (by rw [g6]; exact hj)
    refine fin (k := q + 1) (cp := Nat.lor cp1 (getN ms i)) (Mk := M') (ids := ids2) (C := C2) (pd := pd') (Pc := Pc') hv hu hup.le ⟨hq', fun q' y hy => ?_, fun j hj => ?_, hM2, by omega, g2.mono hup.le, g3, fun j => ?_, hS2, fun j hj hl => ?_, fun b r hr => hup.le _ _ (hM.le b r hr), fun j hj => ?_⟩
    · rw [lst_set hL]
      constructor
      · rintro (e1 | h1)
        · have : q' = q := nodup_idx hk.told.inv.hd (x := i) (by rw [List.getElem?_map, hy, ← e1]; rfl) (by rw [List.getElem?_map, hq]; rfl)
          omega
        · have := (hM.chain q' y hy).1 h1
          omega
      · intro h1
        rcases Nat.lt_or_ge q' q with h2 | h2
        · exact .inr ((hM.chain q' y hy).2 h2)
        · have : q' = q := by omega
          subst this
          rw [hq] at hy; cases hy
          exact .inl rfl
    · rw [tb_lor, Bool.or_eq_true] at hj
      rcases hj with hj | hj
      · exact (lst_set hL).2 (.inr (hM.cpk j hj))
      · exact (lst_set hL).2 (.inr (hpre j hj))
    · rw [g5, hM.pdi, lst_set hL, tb_lor]
      constructor
      · rintro ⟨⟨h1, h2, x, hx⟩, h3⟩
        refine ⟨.inr h1, ?_, x, hx⟩
        rw [h2, Bool.false_or]
        cases hb : tb (getN ms i) j with
        | false => rfl
        | true => exact absurd ⟨hb, h2, x, hB1 _ hx hb⟩ h3
      · rintro ⟨h1, h2, x, hx⟩
        simp only [Bool.or_eq_false_iff] at h2
        rcases h1 with rfl | h1
        · exact absurd hx (nB (.inr hk1) x)
        · exact ⟨⟨h1, h2.1, x, hx⟩, fun hh => by rw [h2.2] at hh; cases hh.1⟩
    · rw [hkeep _ (by omega)]
      exact hM.fresh j hj fun hh => hl ((lst_set hL).2 (.inr hh))
    · rw [hkeep _ (by omega)]
      exact hM.keep j hj
  | pure hg hk1 hk2 hk3 he h hv =>
    rename_i e v
    rw [hw _ hg, if_pos rfl]
    refine .inl ?_
    obtain ⟨u, h1, h2⟩ := opw_sound hX.sym hX.sub hX.eqt hX.zero hF.fits (fun y v hy => hEv y v (he y v hy)) h
    exact wp_runs h1 (fin hv h2 (fun _ _ h => h) (hM.pass hL (nhs (.inr (.inr (.inr hk3)))) (nB (.inr hk1))))

theorem any_sound [hT : TabC P T] (hX : Ctx P T tab eqs zt) (hc : CallOk P K call) (hk : Chk tab eqs zt call N l S ms b0 s0 f)
    (next : ∀ L a w, Inv N l S ms b0 f K L0 ρ0 L a w → (∀ i, i < l.length → lst L i) → Q .normal a w) : ∀ (fuel : Nat) (L : Array Bool) (a : Act) (w : World), Inv N l S ms b0 f K L0 ρ0 L a w → cntF L.toList ≤ fuel → wpAny P .any l.toArray Q fuel L a w := by
  have done : ∀ L a w, Inv N l S ms b0 f K L0 ρ0 L a w → Region.ready .any l.toArray L = [] → Q .normal a w := fun L a w hI hr => next L a w hI fun i hi => by
    refine hk.told.all L hr hI.1 (fun j hj => ?_) i (hk.rds i l[i] (List.getElem?_eq_getElem hi)).1
    rw [hk.zero, tb_zero] at hj; cases hj
  intro fuel
  induction fuel with
  | zero =>
    intro L a w hI hcn
    have hr : Region.ready .any l.toArray L = [] := by
      cases hr : Region.ready .any l.toArray L with
      | nil => rfl
      | cons i r =>
        exfalso
        obtain ⟨hun, o, ho, _⟩ := mem_ready.1 (show i ∈ Region.ready .any l.toArray L by rw [hr]; exact List.mem_cons_self ..)
        have hlt : i < l.length := by
          have : l[i]? = some o := by simpa using ho
          exact (List.getElem?_eq_some_iff.1 this).1
        have hL : i < L.size := by rw [hI.1]; exact hlt
        refine cntF_zero (l := L.toList) (i := i) (by omega) ?_
        simp [hL] at hun ⊢
        exact hun
    exact ⟨hr, done L a w hI hr⟩
  | succ fuel ih =>
    intro L a w hI hcn
    refine ⟨fun hr => done L a w hI hr, fun i hi => wpOp_mono (fun a' w' hI' => ih _ a' w' hI' ?_) (inv_op hX hc hk hI hi)⟩
    obtain ⟨hun, o, ho, _⟩ := mem_ready.1 hi
    have hlt : i < l.length := by
      have : l[i]? = some o := by simpa using ho
      exact (List.getElem?_eq_some_iff.1 this).1
    have hL : i < L.size := by rw [hI.1]; exact hlt
    have h1 : L.toList[i]? = some false := by
      simp [hL] at hun ⊢
      exact hun
    have := cntF_set h1
    rw [Array.toList_setIfInBounds]
    omega

/-! ### the end -/
theorem putAll_get (hN : N ≤ 1000000) : ∀ {l : List Oper} {i : Nat} {S S' : Tr Value} {t : Nat} {v : Value}, putAll N V l i S = some S' → S'.get t = some v → (∃ q o, l[q]? = some o ∧ o.dst = some t ∧ V.get (i + q) = some v) ∨ (S.get t = some v ∧ ∀ o ∈ l, o.dst ≠ some t)
  | [], i, S, S', t, v, h, hv => by cases h; exact .inr ⟨hv, fun o ho => by cases ho⟩
  | o :: r, i, S, S', t, v, h, hv => by
    unfold putAll at h
    split at h
    · rename_i x hx
      split at h
      · rename_i S1 h1
        rcases putAll_get hN h hv with ⟨q, o', h2, h3, h4⟩ | ⟨h2, h3⟩
        · exact .inl ⟨q + 1, o', by simpa using h2, h3, by rw [show i + (q + 1) = i + 1 + q by omega]; exact h4⟩
        · cases hd : o.dst with
          | none =>
            rw [hd] at h1; cases h1
            exact .inr ⟨h2, fun o' ho' => by
              rcases List.mem_cons.1 ho' with rfl | ho'
              · rw [hd]; intro e; cases e
              · exact h3 o' ho'⟩
          | some d =>
            rw [hd] at h1
            simp only [putD] at h1
            cases hb : Nat.blt d N with
            | false => rw [hb] at h1; cases h1
            | true =>
              rw [hb] at h1; cases h1
              have hdN : d < N := by simpa using hb
              rw [Tr.get_put 20 S d t (Nat.lt_of_le_of_lt (Nat.le_trans hdN hN) (by decide))] at h2
              split at h2
              · rename_i e; subst e; cases h2
                exact .inl ⟨0, o, rfl, hd, hx⟩
              · rename_i e
                exact .inr ⟨h2, fun o' ho' => by
                  rcases List.mem_cons.1 ho' with rfl | ho'
                  · rw [hd]; intro e'; cases e'; exact e rfl
                  · exact h3 o' ho'⟩
      · cases h
    · cases h

theorem rdsOk_spec : ∀ {r : List Oper} {i : Nat}, rdsOk tab zt call l S ms b0 f r i = true → ∀ q o, r[q]? = some o → tb f.dn (i + q) = true ∧ rdOk tab zt call l S ms b0 f (i + q) o = true
  | o' :: r, i, h, 0, o, hq => by
    simp only [rdsOk, Bool.and_eq_true] at h
    simp at hq; subst hq
    exact h.1
  | o' :: r, i, h, q + 1, o, hq => by
    simp only [rdsOk, Bool.and_eq_true] at h
    have := rdsOk_spec h.2 q o (by simpa using hq)
    rw [show i + (q + 1) = i + 1 + q by omega]; exact this
  | [], i, h, q, o, hq => by simp at hq

theorem opsG_sound [hT : TabC P T] (hX : Ctx P T tab eqs zt) (hc : CallOk P K call) (hN : N ≤ 1000000) {id : Nat} {ord : List Nat} (ha : FrR ρ N S a) (hW : World.Is w K L0 ρ M) (h : opsG tab eqs zt N call l S M ms ord = some (S', M'))
    (next : ∀ a' w' ρ', Rho.up M M' ρ ρ' → FrR ρ' N S' a' → World.Is w' K L0 ρ' M' → Q .normal a' w') : (Code.region id l.toArray true).wp P Q a w := by
  unfold opsG at h
  cases hb : (dstOk N l 0 && Nat.blt (M.nx + l.length) 1000000) with
  | false => rw [hb] at h; cases h
  | true =>
    rw [hb] at h
    simp only [cond_true] at h
    simp only [Bool.and_eq_true] at hb
    obtain ⟨hd, hlim⟩ := hb
    have hlim : M.nx + l.length < 1000000 := by simpa using hlim
    split at h
    · rename_i f hf
      cases hrd : rdsOk tab zt call l S ms M.nx f l 0 with
      | false => rw [hrd] at h; cases h
      | true =>
        rw [hrd] at h
        simp only [cond_true] at h
        split at h
        · rename_i S1 hS1
          cases h
          have hI0 : PInv l ms ⟨.e, [], [], 0, ⟨M.m, M.nx + l.length⟩, 0⟩ := ⟨(fun i v h => by rw [Tr.get_e] at h; cases h), (fun x h => by cases h), List.nodup_nil, (fun x h => by cases h), List.nodup_nil⟩
          have hT0 := passD_spec ord _ _ hI0 hf
          have hk : Chk tab eqs zt call N l S ms M.nx ⟨.e, [], [], 0, ⟨M.m, M.nx + l.length⟩, 0⟩ f := ⟨hd, hlim, rfl, hT0, fun i o hi => by
            have := rdsOk_spec hrd i o hi
            rwa [Nat.zero_add] at this⟩
          obtain ⟨ids, C, hM, hS⟩ := hW
          have hl0 : ∀ j, ¬ lst (Array.replicate l.toArray.size false) j := fun j h => by
            unfold lst at h
            rcases Nat.lt_or_ge j l.length with h' | h'
            · simp [h'] at h
            · simp [h'] at h
          refine wp_region_any hT.mixed (any_sound (L0 := L0) (ρ0 := ρ) hX hc hk (fun L a w hI hall => ?_) _ _ _ _ ⟨by simp, fun j k hj => absurd hj (hl0 j), ρ, 0, 0, ⟨M.m, M.nx + l.length⟩, ids, C, [], [], ⟨ha.size, ha.defers, fun t v _ hs => ha.slot t v hs, fun t j v _ hl => absurd hl (hl0 j), fun t j v _ _ hs => ha.slot t v hs⟩,
            ⟨hT0.ext.cur, fun q y hy => ⟨(fun hh => absurd hh (hl0 _)), (fun hh => by omega)⟩, (fun j hj => by rw [tb_zero] at hj; cases hj), ⟨hM.nodup, each_keep (fun _ _ h => h) hM.each fun _ _ => rfl, hM.all, (fun j r hr => by
              have := hM.low j r hr
              show j < M.nx + l.length
              omega)⟩, Nat.le_refl _, .nil, List.nodup_nil, (fun j => ⟨(fun h => by cases h), (fun h => absurd h.1 (hl0 j))⟩), hS.drew, fun j hj _ => ?_, fun _ _ h => h, fun _ _ => rfl⟩⟩ ?_)
          · obtain ⟨hsz, hcl, ρ', k, cp, Mk, ids', C', pd, Pc, hF, hMm⟩ := hI
            have hkn : f.hs[k]? = none := by
              cases hq : f.hs[k]? with
              | none => rfl
              | some y =>
                exfalso
                obtain ⟨_, o2, h2, _⟩ := hT0.inv.hs y (List.mem_of_getElem? hq)
                rw [nthO_eq] at h2
                have := (hMm.chain k y hq).1 (hall _ (List.getElem?_eq_some_iff.1 h2).1)
                omega
            have hst := hMm.stg
            unfold stg at hst
            rw [hkn] at hst
            simp only at hst
            split at hst
            · cases hst
              have hbk : ∀ x ∈ f.B, x.1 < l.length := fun x hx => by
                obtain ⟨_, o2, h2, _⟩ := hT0.inv.B x hx
                rw [nthO_eq] at h2
                exact (List.getElem?_eq_some_iff.1 h2).1
              obtain ⟨ids2, C2, pd2, Pc2, g1, g2, g3, g4, g5, g6⟩ := ext_R (ρ := ρ') (b0 := M.nx) (w := w) (K := K) (L0 := L0) hT0.inv.Bd (Nat.sub (bit l.length) 1) f.cp f.B ids' C' pd Pc f.M (fun _ h => h) hT0.inv.Bd hMm.mem hMm.pend hMm.pdn hMm.sat (fun x hx h1 h2 => (hMm.pdi x.1).2 ⟨hall _ (hbk x hx), h2, x.2, hx⟩) (fun x hx => by have := hbk x hx; omega)
              have hpd : pd2 = [] := by
                cases pd2 with
                | nil => rfl
                | cons j r =>
                  exfalso
                  obtain ⟨h1, h2⟩ := (g5 j).1 (List.mem_cons_self ..)
                  obtain ⟨_, h3, x, hx⟩ := (hMm.pdi j).1 h1
                  exact h2 ⟨tb_ones (hbk _ hx), h3, x, hx⟩
              subst hpd
              have hPc : Pc2 = [] := by cases g2; rfl
              subst hPc
              have hnx := hMm.nx
              refine next a w ρ' ⟨hMm.le, hMm.keep, by rw [g6]; omega⟩ ⟨hF.size, hF.defers, fun t v hv => ?_⟩ ⟨ids2, C2, g1, g4⟩
              rcases putAll_get hN hS1 hv with ⟨q, o, h1, h2, h3⟩ | ⟨h1, h2⟩
              · rw [Nat.zero_add] at h3
                have hw := (wrF_of (i := 0) hd h1 h2).1
                rw [Nat.zero_add] at hw
                exact hF.s1 t q v hw (hall q (List.getElem?_eq_some_iff.1 h1).1) h3
              · exact hF.s0 t v (wrF_none h2) h1
            · cases hst
          · cases hq : ρ (M.nx + j) with
            | none => rfl
            | some r => have := hM.low _ _ hq; omega
          · rw [Array.toList_replicate, cntF_repl]; exact Nat.le_refl _
        · cases h
    · cases h

theorem opsH_sound [hT : TabC P T] (hX : Ctx P T tab eqs zt) (hc : CallOk P K call) (hN : N ≤ 1000000) {id : Nat} (ha : FrR ρ N S a) (hW : World.Is w K L0 ρ M) (h : opsH tab eqs zt N call l S M = some (S', M'))
    (next : ∀ a' w' ρ', Rho.up M M' ρ ρ' → FrR ρ' N S' a' → World.Is w' K L0 ρ' M' → Q .normal a' w') : (Code.region id l.toArray true).wp P Q a w := opsG_sound hX hc hN ha hW h next
end
end Go.Ev
