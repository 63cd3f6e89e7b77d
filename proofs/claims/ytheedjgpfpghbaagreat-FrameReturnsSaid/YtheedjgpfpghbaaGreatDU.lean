/- A deterministic evaluator: calls that were looked at once, with the blocks that they look at. -/
import Derived.Test.YtheedjgpfpghbaaGreatDQ
set_option linter.unusedVariables false
set_option linter.unusedSectionVars false
set_option linter.unusedSimpArgs false
namespace Go.Ev
open Go Go.Fw

noncomputable def sameVL : List Value → List Value → Bool
  | [], [] => true
  | a :: r, b :: q => sameV a b && sameVL r q
  | _, _ => false
noncomputable def sameW : Value → Value → Bool
  | .tuple a, .tuple b => sameVL a.toList b.toList
  | a, b => sameV a b
noncomputable def sameB : ABlk → ABlk → Bool
  | .cells cs t o, .cells ds u p => sameL cs ds && (Nat.beq t u && ((o && p) || (!o && !p)))
  | .map es, .map fs => sameE es fs
  | _, _ => false

/-- a call that was looked at: what it looks at (blocks by their numbers), what it tells, the blocks that are left of it -/
structure Memo where
  args : List Value
  need : List (Nat × ABlk)
  nx : Nat
  v : Value
  out : List (Nat × ABlk)
  nx' : Nat

def AllM {α : Type} (p : α → Prop) : List α → Prop
  | [] => True
  | a :: r => p a ∧ AllM p r
theorem AllM.mem {α : Type} {p : α → Prop} : ∀ {l : List α}, AllM p l → ∀ a ∈ l, p a
  | b :: r, h, a, hm => by
    rcases List.mem_cons.1 hm with e | hm
    · rw [e]; exact h.1
    · exact AllM.mem h.2 a hm

def distinct : List Nat → Bool
  | [] => true
  | k :: r => r.all (fun j => !(Nat.beq k j)) && distinct r

noncomputable def outOk (need : List (Nat × ABlk)) (nx : Nat) (M' : Mem) : List (Nat × ABlk) → Bool
  | [] => true
  | (i, x) :: r => (match M'.m.get i with | some y => sameB y x | none => false) && ((Nat.ble nx i || need.any (fun p => Nat.beq p.1 i)) && outOk need nx M' r)

/-- it comes to that -/
noncomputable def Memo.chk (call : Nat → List Value → Mem → Option (Value × Mem)) (f : Nat) (m : Memo) : Bool :=
  match call f m.args ⟨trOf m.need, m.nx⟩ with
  | some (v, M') => (sameW v m.v && Nat.beq M'.nx m.nx') && (outOk m.need m.nx M' m.out && ((distinct (m.need.map (·.1)) && distinct (m.out.map (·.1))) && (m.need.all (fun p => Nat.blt p.1 m.nx) && (Nat.blt m.nx' 1000000 && Nat.blt m.nx 1000000))))
  | none => false

noncomputable def killL : List (Nat × ABlk) → Mem → Mem
  | [], M => M
  | (i, _) :: r, M => killL r (M.kill i)
noncomputable def putL : List (Nat × ABlk) → Mem → Mem
  | [], M => M
  | (i, x) :: r, M => putL r (M.set i x)

/-- the calls that were looked at stand for themselves -/
noncomputable def memoQ : List Memo → List Value → Mem → Option (Value × Mem)
  | [], _, _ => none
  | m :: r, args, M => bif Nat.beq m.nx M.nx then
      bif sameVL args m.args && m.need.all (fun p => match M.m.get p.1 with | some y => sameB y p.2 | none => false) then
        match putL m.out (killL m.need M) with
        | M' => some (m.v, ⟨M'.m, m.nx'⟩)
      else none
    else memoQ r args M

variable [Sym]
theorem sameVL_eq : ∀ {a b : List Value}, sameVL a b = true → a = b
  | [], [], _ => rfl
  | x :: r, y :: q, h => by
    simp only [sameVL, Bool.and_eq_true] at h
    rw [sameV_eq h.1, sameVL_eq h.2]
  | [], _ :: _, h => by cases h
  | _ :: _, [], h => by cases h
theorem sameW_eq {a b : Value} (h : sameW a b = true) : a = b := by
  unfold sameW at h
  split at h
  · rename_i x y
    have := sameVL_eq h
    obtain ⟨x⟩ := x; obtain ⟨y⟩ := y
    simp only at this
    rw [this]
  · exact sameV_eq h
theorem sameB_eq {a b : ABlk} (h : sameB a b = true) : a = b := by
  unfold sameB at h
  split at h
  · rename_i cs t o ds u p
    simp only [Bool.and_eq_true] at h
    obtain ⟨h1, h2, h3⟩ := h
    rw [sameL_eq h1, Nat.eq_of_beq_eq_true h2]
    cases o <;> cases p <;> simp_all
  · rw [sameE_eq h]
  · cases h

theorem distinct_nodup : ∀ {l : List Nat}, distinct l = true → l.Nodup
  | [], _ => List.nodup_nil
  | k :: r, h => by
    simp only [distinct, Bool.and_eq_true] at h
    refine List.nodup_cons.2 ⟨fun hm => ?_, distinct_nodup h.2⟩
    have := List.all_eq_true.1 h.1 k hm
    rw [Nat.beq_refl] at this; cases this

theorem trOf_mem : ∀ {L : List (Nat × ABlk)} {t : Nat} {v : ABlk}, (∀ p ∈ L, p.1 < 1000000) → (trOf L).get t = some v → (t, v) ∈ L
  | [], t, v, _, h => by rw [trOf, Tr.get_e] at h; cases h
  | (k, x) :: r, t, v, hk, h => by
    have hlt := hk (k, x) (List.mem_cons_self ..)
    have hlt : k < 1000000 := hlt
    rw [trOf, Tr.get_put 20 _ k t (by omega)] at h
    split at h
    · rename_i e; subst e; cases h; exact List.mem_cons_self ..
    · exact List.mem_cons_of_mem _ (trOf_mem (fun p hp => hk p (List.mem_cons_of_mem _ hp)) h)
theorem trOf_get : ∀ {L : List (Nat × ABlk)} {t : Nat} {v : ABlk}, (∀ p ∈ L, p.1 < 1000000) → (L.map (·.1)).Nodup → (t, v) ∈ L → (trOf L).get t = some v
  | (k, x) :: r, t, v, hk, hn, h => by
    have hlt : k < 1000000 := hk (k, x) (List.mem_cons_self ..)
    rw [List.map_cons, List.nodup_cons] at hn
    rw [trOf, Tr.get_put 20 _ k t (by omega)]
    rcases List.mem_cons.1 h with e | h
    · cases e; rw [if_pos rfl]
    · rw [if_neg (fun e => hn.1 (List.mem_map.2 ⟨_, h, e.symm⟩))]
      exact trOf_get (fun p hp => hk p (List.mem_cons_of_mem _ hp)) hn.2 h

theorem killL_get : ∀ {l : List (Nat × ABlk)} {M : Mem} {j : Nat}, (∀ p ∈ l, p.1 < 1000000) → (killL l M).m.get j = if j ∈ l.map (·.1) then none else M.m.get j
  | [], M, j, _ => by simp [killL]
  | (i, x) :: r, M, j, hk => by
    have hlt : i < 1000000 := hk (i, x) (List.mem_cons_self ..)
    rw [killL, killL_get (fun p hp => hk p (List.mem_cons_of_mem _ hp))]
    have hg : (M.kill i).m.get j = if i = j then none else M.m.get j := Tr.get_put 20 M.m i j (by omega)
    rw [hg]
    simp only [List.map_cons, List.mem_cons]
    by_cases h1 : j ∈ r.map (·.1)
    · simp [h1]
    · by_cases h2 : i = j
      · simp [h1, h2]
      · simp [h1, h2, Ne.symm h2]
theorem set_get_same {M : Mem} {i : Nat} {y : ABlk} (h : i < 1000000) : (M.set i y).m.get i = some y := by
  have hg := Tr.get_put (x := some y) 20 M.m i i (by omega)
  rw [if_pos rfl] at hg
  exact hg
theorem set_get_ne {M : Mem} {i j : Nat} {y : ABlk} (h : i < 1000000) (hn : i ≠ j) : (M.set i y).m.get j = M.m.get j := by
  have hg := Tr.get_put (x := some y) 20 M.m i j (by omega)
  rw [if_neg hn] at hg
  exact hg
theorem kill_get {M : Mem} {i j : Nat} (h : i < 1000000) : (M.kill i).m.get j = if i = j then none else M.m.get j := Tr.get_put (x := none) 20 M.m i j (by omega)
theorem putL_ne {j : Nat} : ∀ (l : List (Nat × ABlk)) (M : Mem), (∀ p ∈ l, p.1 < 1000000) → j ∉ l.map (·.1) → (putL l M).m.get j = M.m.get j
  | [], M, _, _ => rfl
  | (i, y) :: r, M, hk, hn => by
    have hlt : i < 1000000 := hk (i, y) (List.mem_cons_self ..)
    simp only [List.map_cons, List.mem_cons, not_or] at hn
    have e1 : putL ((i, y) :: r) M = putL r (M.set i y) := rfl
    rw [e1, putL_ne r (M.set i y) (fun p hp => hk p (List.mem_cons_of_mem _ hp)) hn.2]
    exact set_get_ne hlt (fun e => hn.1 e.symm)
theorem putL_get {j : Nat} {x : ABlk} : ∀ (l : List (Nat × ABlk)) (M : Mem), (∀ p ∈ l, p.1 < 1000000) → (l.map (·.1)).Nodup → (j, x) ∈ l → (putL l M).m.get j = some x
  | [], M, hk, hn, h => by cases h
  | (i, y) :: r, M, hk, hn, h => by
    have hlt : i < 1000000 := hk (i, y) (List.mem_cons_self ..)
    have hn2 : i ∉ r.map (·.1) ∧ (r.map (·.1)).Nodup := by rw [List.map_cons, List.nodup_cons] at hn; exact hn
    have hk2 : ∀ p ∈ r, p.1 < 1000000 := fun p hp => hk p (List.mem_cons_of_mem _ hp)
    have e1 : putL ((i, y) :: r) M = putL r (M.set i y) := rfl
    rw [e1]
    rcases List.mem_cons.1 h with e | h
    · have e2 : j = i := congrArg Prod.fst e
      have e3 : x = y := congrArg Prod.snd e
      rw [e2, e3, putL_ne r (M.set i y) hk2 hn2.1]
      exact set_get_same hlt
    · exact putL_get r _ hk2 hn2.2 h

/-- some blocks and the others -/
theorem part {ρ : Rho} {M : Mem} : ∀ (need : List (Nat × ABlk)) (ids : List Nat) (C : Chunks), (need.map (·.1)).Nodup → (∀ p ∈ need, M.m.get p.1 = some p.2) → (∀ p ∈ need, p.1 ∈ ids) → ids.Nodup → All2 (fun i p => ∃ x, M.m.get i = some x ∧ BlkR ρ i x p) ids C →
    ∃ idr Cn Cr, ids.Perm (need.map (·.1) ++ idr) ∧ C.Perm (Cn ++ Cr) ∧ All2 (fun q p => BlkR ρ q.1 q.2 p) need Cn ∧ All2 (fun i p => ∃ x, M.m.get i = some x ∧ BlkR ρ i x p) idr Cr
  | [], ids, C, _, _, _, _, h => ⟨ids, [], C, .refl _, .refl _, .nil, h⟩
  | (i, x) :: r, ids, C, hn, hg, hm, hi, h => by
    obtain ⟨p, ids1, C1, h1, h2, ⟨y, h3, h4⟩, h5⟩ := all2_pull h (hm (i, x) (List.mem_cons_self ..))
    rw [List.map_cons, List.nodup_cons] at hn
    have hy : y = x := by
      have := hg (i, x) (List.mem_cons_self ..)
      rw [h3] at this; cases this; rfl
    subst hy
    have hn1 := h1.nodup_iff.1 hi
    rw [List.nodup_cons] at hn1
    obtain ⟨idr, Cn, Cr, g1, g2, g3, g4⟩ := part r ids1 C1 hn.2 (fun q hq => hg q (List.mem_cons_of_mem _ hq)) (fun q hq => by
      rcases List.mem_cons.1 (h1.mem_iff.1 (hm q (List.mem_cons_of_mem _ hq))) with e | e
      · exact absurd (List.mem_map.2 ⟨q, hq, e⟩) hn.1
      · exact e) hn1.2 h5
    exact ⟨idr, p :: Cn, Cr, h1.trans (g1.cons i), h2.trans (g2.cons p), .cons h4 g3, g4⟩

theorem memoQ_mem {args : List Value} {M : Mem} {v : Value} {M' : Mem} : ∀ {ms : List Memo}, memoQ ms args M = some (v, M') → ∃ m ∈ ms, m.nx = M.nx ∧ args = m.args ∧ (∀ p ∈ m.need, M.m.get p.1 = some p.2) ∧ v = m.v ∧ M' = ⟨(putL m.out (killL m.need M)).m, m.nx'⟩
  | [], h => by cases h
  | m :: r, h => by
    unfold memoQ at h
    cases hb : Nat.beq m.nx M.nx with
    | false =>
      rw [hb] at h
      obtain ⟨m', h1, h2⟩ := memoQ_mem (ms := r) h
      exact ⟨m', List.mem_cons_of_mem _ h1, h2⟩
    | true =>
      rw [hb] at h
      simp only [cond_true] at h
      cases hq : (sameVL args m.args && m.need.all (fun p => match M.m.get p.1 with | some y => sameB y p.2 | none => false)) with
      | false => rw [hq] at h; cases h
      | true =>
        rw [hq] at h
        simp only [Bool.and_eq_true] at hq
        cases h
        refine ⟨m, List.mem_cons_self .., Nat.eq_of_beq_eq_true hb, sameVL_eq hq.1, fun p hp => ?_, rfl, rfl⟩
        have := List.all_eq_true.1 hq.2 p hp
        split at this
        · rename_i y hy; rw [hy, sameB_eq this]
        · cases this

theorem outOk_get {need : List (Nat × ABlk)} {nx : Nat} {M' : Mem} : ∀ {out : List (Nat × ABlk)}, outOk need nx M' out = true → ∀ p ∈ out, M'.m.get p.1 = some p.2 ∧ (nx ≤ p.1 ∨ p.1 ∈ need.map (·.1))
  | (i, x) :: r, h, p, hp => by
    simp only [outOk, Bool.and_eq_true, Bool.or_eq_true] at h
    obtain ⟨h1, h2, h3⟩ := h
    rcases List.mem_cons.1 hp with rfl | hp
    · refine ⟨?_, ?_⟩
      · split at h1
        · rename_i y hy; rw [hy, sameB_eq h1]
        · cases h1
      · rcases h2 with h2 | h2
        · exact .inl (Nat.le_of_ble_eq_true h2)
        · obtain ⟨q, hq, he⟩ := List.any_eq_true.1 h2
          exact .inr (List.mem_map.2 ⟨q, hq, Nat.eq_of_beq_eq_true he⟩)
    · exact outOk_get h3 p hp
  | [], h, p, hp => by cases hp

theorem all2_app {α β : Type} {R : α → β → Prop} {l l' : List α} {m m' : List β} (h : All2 R l m) (h' : All2 R l' m') : All2 R (l ++ l') (m ++ m') := h.append h'

theorem memoQ_ok {P : Program} {K : KM} {call : CallT} {f : Nat} (hc : CallOk P K call) {ms : List Memo} (hms : ∀ m ∈ ms, m.chk call f = true) : CallOk P K (fun g args M => if g = f then memoQ ms args M else none) := by
  intro g args M v M' h ρ L w rs hrs hW
  by_cases hg : g = f
  case neg => simp only [if_neg hg] at h; cases h
  subst hg
  have h : memoQ ms args M = some (v, M') := by simpa using h
  obtain ⟨m, hm, hnx, rfl, hneed, rfl, rfl⟩ := memoQ_mem h
  have hk := hms m hm
  unfold Memo.chk at hk
  cases hcall : call g m.args ⟨trOf m.need, m.nx⟩ with
  | none => rw [hcall] at hk; cases hk
  | some q =>
  obtain ⟨v1, M1⟩ := q
  rw [hcall] at hk
  simp only [Bool.and_eq_true] at hk
  obtain ⟨⟨hv, hnx'⟩, hout, ⟨hd1, hd2⟩, hlow, hlim, hbig⟩ := hk
  have hv := sameW_eq hv
  subst hv
  have hnx' := Nat.eq_of_beq_eq_true hnx'
  have hd1 := distinct_nodup hd1
  have hd2 := distinct_nodup hd2
  have hlim : m.nx' < 1000000 := by simpa using hlim
  have hout := outOk_get hout
  have hlow : ∀ p ∈ m.need, p.1 < m.nx := fun p hp => by
    have := List.all_eq_true.1 hlow p hp
    simpa using this
  obtain ⟨ids, C, hM, hw⟩ := hW
  obtain ⟨idr, Cn, Cr, g1, g2, g3, g4⟩ := part (ρ := ρ) m.need ids C hd1 hneed (fun p hp => hM.all _ _ (hneed p hp)) hM.nodup hM.each
  have hidn := g1.nodup_iff.1 hM.nodup
  rw [List.nodup_append] at hidn
  have hbig : m.nx < 1000000 := by simpa using hbig
  have hmapd : ∀ {l : List (Nat × ABlk)} {Cx : Chunks} {ρ : Rho} {m' : Tr ABlk}, All2 (fun q p => BlkR ρ q.1 q.2 p) l Cx → (∀ p ∈ l, m'.get p.1 = some p.2) → All2 (fun i p => ∃ x, m'.get i = some x ∧ BlkR ρ i x p) (l.map (·.1)) Cx := by
    intro l Cx ρ m' hl
    induction hl with
    | nil => intro _; exact .nil
    | cons h t ih => intro hm; exact .cons ⟨_, hm _ (List.mem_cons_self ..), h⟩ (ih fun p hp => hm p (List.mem_cons_of_mem _ hp))
  -- the first world
  have hkey : ∀ p ∈ m.need, p.1 < 1000000 := fun p hp => by have := hlow p hp; omega
  have hW1 : World.Is w K (Cr ++ L) ρ ⟨trOf m.need, m.nx⟩ := by
    refine ⟨m.need.map (·.1), Cn, ⟨hd1, hmapd g3 (fun p hp => trOf_get hkey hd1 hp), fun i x hx => List.mem_map.2 ⟨_, trOf_mem hkey hx, rfl⟩, fun i r hr => ?_⟩, ?_⟩
    · show i < m.nx
      rw [hnx]; exact hM.low i r hr
    · have := hw.perm (g2.append_right L)
      simpa using this
  obtain ⟨h1, h2⟩ := hc _ _ _ _ _ hcall ρ (Cr ++ L) w rs hrs hW1
  refine ⟨h1, h2.mono fun e w' he => ?_⟩
  cases e with
  | panicked _ => exact he.elim
  | outgrown => exact he.elim
  | returned u =>
  obtain ⟨ρ', hup, hvu, ids2, C2, hM2, hw2⟩ := he
  have hok : ∀ p ∈ m.out, p.1 < 1000000 := fun p hp => by
    have h3 := hM2.all _ _ (hout p hp).1
    obtain ⟨b, _, _, _, _, ⟨y, _, h5⟩, _⟩ := all2_pull hM2.each h3
    have h6 : p.1 < M1.nx := by
      cases h5 with
      | cells h _ _ => exact hM2.low _ _ h
      | map h _ => exact hM2.low _ _ h
    omega
  obtain ⟨ido, Co, Cx, k1, k2, k3, k4⟩ := part (ρ := ρ') m.out ids2 C2 hd2 (fun p hp => (hout p hp).1) (fun p hp => hM2.all _ _ (hout p hp).1) hM2.nodup hM2.each
  have hrlow : ∀ i ∈ idr, i < m.nx := fun i hi => by
    obtain ⟨b, _, _, _, _, ⟨y, _, h5⟩, _⟩ := all2_pull g4 hi
    rw [hnx]
    cases h5 with
    | cells h _ _ => exact hM.low _ _ h
    | map h _ => exact hM.low _ _ h
  have hrn : ∀ i ∈ idr, i ∉ m.need.map (·.1) := fun i hi hn => hidn.2.2 i hn i hi rfl
  have hro : ∀ i ∈ idr, i ∉ m.out.map (·.1) := fun i hi ho => by
    obtain ⟨p, hp, rfl⟩ := List.mem_map.1 ho
    rcases (hout p hp).2 with h3 | h3
    · have := hrlow _ hi; omega
    · exact hrn _ hi h3
  have hget : ∀ i ∈ idr, (putL m.out (killL m.need M)).m.get i = M.m.get i := fun i hi => by
    rw [putL_ne _ _ hok (hro i hi), killL_get hkey, if_neg (hrn i hi)]
  refine ⟨ρ', ⟨hup.le, fun j hj => hup.keep j (by show j < m.nx; omega), ?_⟩, hvu, m.out.map (·.1) ++ idr, Co ++ Cr, ⟨?_, all2_app (hmapd k3 fun p hp => putL_get _ _ hok hd2 hp) ?_, fun i x hx => ?_, fun i r hr => ?_⟩, ?_⟩
  · have := hup.nx
    show M.nx ≤ m.nx'
    have e : m.nx ≤ M1.nx := this
    omega
  · rw [List.nodup_append]
    exact ⟨hd2, hidn.2.1, fun a ha b hb e => hro b hb (e ▸ ha)⟩
  · have hmono : ∀ {l : List Nat} {Cy : Chunks}, (∀ i ∈ l, (putL m.out (killL m.need M)).m.get i = M.m.get i) → All2 (fun i p => ∃ x, M.m.get i = some x ∧ BlkR ρ i x p) l Cy → All2 (fun i p => ∃ x, (putL m.out (killL m.need M)).m.get i = some x ∧ BlkR ρ' i x p) l Cy := by
      intro l Cy hl hh
      induction hh with
      | nil => exact .nil
      | cons h t ih =>
        obtain ⟨x, h5, h6⟩ := h
        exact .cons ⟨x, by rw [hl _ (List.mem_cons_self ..)]; exact h5, h6.mono hup.le⟩ (ih fun i hi => hl i (List.mem_cons_of_mem _ hi))
    exact hmono hget g4
  · have hx : (putL m.out (killL m.need M)).m.get i = some x := hx
    by_cases ho : i ∈ m.out.map (·.1)
    · exact List.mem_append_left _ ho
    · rw [putL_ne _ _ hok ho, killL_get hkey] at hx
      split at hx
      · cases hx
      · rename_i hn
        rcases List.mem_append.1 (g1.mem_iff.1 (hM.all _ _ hx)) with h5 | h5
        · exact absurd h5 hn
        · exact List.mem_append_right _ h5
  · show i < m.nx'
    rw [← hnx']; exact hM2.low i r hr
  · have := hw2.perm (k2.append_right (Cr ++ L))
    have h5 : Sat w' K ((Co ++ Cr ++ L) ++ Cx) := this.perm (by
      have : ((Co ++ Cx) ++ (Cr ++ L)).Perm ((Co ++ (Cr ++ L)) ++ Cx) := by
        rw [List.append_assoc, List.append_assoc]
        exact (List.perm_append_comm (l₁ := Cx) (l₂ := Cr ++ L)).append_left Co
      simpa using this)
    exact h5.sub (R := Cx) (.refl _)
end Go.Ev
