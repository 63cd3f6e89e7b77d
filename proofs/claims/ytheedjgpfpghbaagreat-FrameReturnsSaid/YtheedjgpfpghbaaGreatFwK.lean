/- A small logic of walks: operations that may come up in any order, each shown once. -/
import Derived.Test.YtheedjgpfpghbaaGreatFwJ
set_option linter.unusedVariables false
set_option linter.unusedSimpArgs false
set_option linter.unusedSectionVars false
namespace Go.Fw
open Go

/-- one of them: its number, where it puts what it comes to, what it takes, what it comes to -/
structure It where
  i : Nat
  d : Option Tmp
  pre : Chunks
  deps : List Tmp
  post : KM → (Tmp → Option Value) → Value → Chunks → Prop

/-- the slots that one may speak of -/
def vw (ds : List Tmp) (σ : Slots) : Tmp → Option Value := fun t => bif memN t ds then lk σ t else none

theorem vw_congr {ds : List Tmp} {σ τ : Slots} (h : ∀ t ∈ ds, lk σ t = lk τ t) : vw ds σ = vw ds τ := by
  funext t
  unfold vw
  cases hb : memN t ds with
  | false => rfl
  | true => simp only [cond_true]; exact h t ((memN_eq _ _).1 hb)

def exS (d : Option Tmp) (v : Value) (σ : Slots) : Slots :=
  match d with
  | some t => (t, v) :: σ
  | none => σ

def lkO (σ : Slots) (d : Option Tmp) (v : Value) : Prop :=
  match d with
  | some t => lk σ t = some v
  | none => True

def dstsI : List It → List Tmp
  | [] => []
  | it :: r => match it.d with
    | some t => t :: dstsI r
    | none => dstsI r

def idsI : List It → List Nat
  | [] => []
  | it :: r => it.i :: idsI r

def nthI : List It → Nat → Option It
  | [], _ => none
  | v :: _, 0 => some v
  | _ :: r, n + 1 => nthI r n

theorem nthI_mem {its : List It} {k : Nat} {it : It} (h : nthI its k = some it) : it ∈ its := by
  induction its generalizing k with
  | nil => cases h
  | cons q r ih => cases k with
    | zero => simp [nthI] at h; subst h; exact List.mem_cons_self ..
    | succ k => exact List.mem_cons_of_mem _ (ih h)

theorem mem_idsI {its : List It} {i : Nat} : i ∈ idsI its ↔ ∃ it ∈ its, it.i = i := by
  induction its with
  | nil => simp [idsI]
  | cons q r ih => simp [idsI, ih, eq_comm]

theorem mem_dstsI {its : List It} {it : It} (h : it ∈ its) {t : Tmp} (ht : it.d = some t) : t ∈ dstsI its := by
  induction its with
  | nil => cases h
  | cons q r ih =>
    simp only [dstsI]
    rcases List.mem_cons.1 h with rfl | h
    · rw [ht]; exact List.mem_cons_self ..
    · split
      · exact List.mem_cons_of_mem _ (ih h)
      · exact ih h

/-- how it stands when those that are listed have come up -/
def InvI (σ0 : Slots) : List It → Array Bool → KM → Slots → Chunks → Prop
  | [], _, _, σ, X => σ = σ0 ∧ X = []
  | it :: r, L, K, σ, X =>
    (L.getD it.i false = true ∧ ∃ v C σ' X' K1, σ = exS it.d v σ' ∧ X = C ++ X' ∧ KM.le K1 K ∧ it.post K1 (vw it.deps σ') v C ∧ InvI σ0 r L K σ' X') ∨
    (L.getD it.i false = false ∧ ∃ X', X = it.pre ++ X' ∧ InvI σ0 r L K σ X')

/-- how it stands when all have come up -/
def OutI (σ0 : Slots) : List It → KM → Slots → List Chunks → Prop
  | [], _, σ, X => σ = σ0 ∧ X = []
  | it :: r, K, σ, X => ∃ v C σ' X' K1, σ = exS it.d v σ' ∧ X = C :: X' ∧ KM.le K1 K ∧ it.post K1 (vw it.deps σ') v C ∧ OutI σ0 r K σ' X'

def preI : List It → List Chunks
  | [] => []
  | it :: r => it.pre :: preI r

theorem lk_exS_ne {d : Option Tmp} {v : Value} {σ : Slots} {t : Tmp} (h : d ≠ some t) : lk (exS d v σ) t = lk σ t := by
  cases d with
  | none => rfl
  | some s =>
    have hne : s ≠ t := fun e => h (by rw [e])
    simp only [exS, lk, Nat.beq_eq_false_iff_ne.2 hne, cond_false]
where
  Nat.beq_eq_false_iff_ne {a b : Nat} : Nat.beq a b = false ↔ a ≠ b := ⟨Nat.ne_of_beq_eq_false, fun h => by
    cases e : Nat.beq a b with
    | false => rfl
    | true => exact absurd (Nat.eq_of_beq_eq_true e) h⟩

theorem lk_exS_self {v : Value} {σ : Slots} {t : Tmp} : lk (exS (some t) v σ) t = some v := by
  simp [exS, lk]

theorem InvI.mono {σ0 : Slots} {L : Array Bool} {K K' : KM} (hk : KM.le K K') : ∀ {its : List It} {σ : Slots} {X : Chunks}, InvI σ0 its L K σ X → InvI σ0 its L K' σ X := by
  intro its
  induction its with
  | nil => intro σ X h; exact h
  | cons it r ih =>
    intro σ X h
    rcases h with ⟨hl, v, C, σ', X', K1, h1, h2, h3, h4, h5⟩ | ⟨hl, X', h1, h2⟩
    · exact .inl ⟨hl, v, C, σ', X', K1, h1, h2, h3.trans hk, h4, ih h5⟩
    · exact .inr ⟨hl, X', h1, ih h2⟩

/-- what was there ahead is there still -/
theorem InvI.base {σ0 : Slots} {L : Array Bool} {K : KM} {t : Tmp} : ∀ {its : List It} {σ : Slots} {X : Chunks}, InvI σ0 its L K σ X → t ∉ dstsI its → lk σ t = lk σ0 t := by
  intro its
  induction its with
  | nil => intro σ X h _; rw [h.1]
  | cons it r ih =>
    intro σ X h ht
    have hr : t ∉ dstsI r := fun hm => ht (by
      simp only [dstsI]; split
      · exact List.mem_cons_of_mem _ hm
      · exact hm)
    have hne : it.d ≠ some t := fun e => ht (mem_dstsI (List.mem_cons_self ..) e)
    rcases h with ⟨hl, v, C, σ', X', K1, rfl, _, _, _, h5⟩ | ⟨hl, X', h1, h2⟩
    · rw [lk_exS_ne hne]; exact ih h5 hr
    · exact ih h2 hr

theorem nodup_tail {it : It} {r : List It} (h : (dstsI (it :: r)).Nodup) : (dstsI r).Nodup ∧ ∀ t, it.d = some t → t ∉ dstsI r := by
  simp only [dstsI] at h
  split at h
  · rename_i t ht
    exact ⟨(List.nodup_cons.1 h).2, fun u hu => by rw [ht] at hu; cases hu; exact (List.nodup_cons.1 h).1⟩
  · rename_i ht
    exact ⟨h, fun u hu => by rw [ht] at hu; cases hu⟩

/-- what is told of slots stands behind it in the list, or was there ahead -/
def depsB (l : List Oper) : List It → List Tmp → Bool
  | [], _ => true
  | it :: r, pre =>
    let pre' := match it.d with | some t => t :: pre | none => pre
    it.deps.all (fun t => !memN t pre') && r.all (fun jt => match jt.d with | some t => !memN t it.deps || waitsB l it.i jt.i | none => true) && depsB l r pre'

theorem depsB_pre {l : List Oper} : ∀ {its : List It} {pre : List Tmp}, depsB l its pre = true → ∀ it ∈ its, ∀ t ∈ it.deps, t ∉ pre := by
  intro its
  induction its with
  | nil => intro pre _ it h; cases h
  | cons q r ih =>
    intro pre h it hm t ht
    simp only [depsB, Bool.and_eq_true] at h
    have hsub : ∀ t, t ∈ pre → t ∈ (match q.d with | some t => t :: pre | none => pre) := fun t ht => by split; exact List.mem_cons_of_mem _ ht; exact ht
    rcases List.mem_cons.1 hm with rfl | hm
    · have := List.all_eq_true.1 h.1.1 t ht
      intro hp
      rw [(memN_eq _ _).2 (hsub t hp)] at this; cases this
    · intro hp
      exact ih h.2 it hm t ht (hsub t hp)

theorem depsB_head {l : List Oper} {q : It} {r : List It} {pre : List Tmp} (h : depsB l (q :: r) pre = true) : (∀ it ∈ q :: r, ∀ t ∈ it.deps, q.d ≠ some t) ∧ (∀ jt ∈ r, ∀ t ∈ q.deps, jt.d = some t → waitsB l q.i jt.i = true) ∧ ∃ pre', depsB l r pre' = true := by
  have h0 := h
  simp only [depsB, Bool.and_eq_true] at h
  refine ⟨fun it hm t ht e => ?_, fun jt hj t ht e => ?_, _, h.2⟩
  · rcases List.mem_cons.1 hm with rfl | hm
    · have := List.all_eq_true.1 h.1.1 t ht
      rw [e] at this
      simp [memN] at this
    · have := depsB_pre h.2 it hm t ht
      rw [e] at this
      exact this (List.mem_cons_self ..)
  · have := List.all_eq_true.1 h.1.2 jt hj
    rw [e] at this
    simp only [(memN_eq _ _).2 ht, Bool.not_true, Bool.false_or] at this
    exact this

/-- what one came to -/
theorem InvI.dep {l : List Oper} {σ0 : Slots} {L : Array Bool} {K : KM} {it : It} : ∀ {its : List It} {σ : Slots} {X : Chunks} {pre : List Tmp}, (dstsI its).Nodup → depsB l its pre = true → InvI σ0 its L K σ X → it ∈ its → L.getD it.i false = true →
    ∃ v C K1, KM.le K1 K ∧ lkO σ it.d v ∧ it.post K1 (vw it.deps σ) v C := by
  intro its
  induction its with
  | nil => intro σ X _ _ _ _ h; cases h
  | cons q r ih =>
    intro σ X pre hn hdp h hm hl
    obtain ⟨hn1, hn2⟩ := nodup_tail hn
    obtain ⟨hq1, _, pre', hq3⟩ := depsB_head hdp
    rcases List.mem_cons.1 hm with rfl | hm
    · rcases h with ⟨_, v, C, σ', X', K1, rfl, _, h3, h4, h5⟩ | ⟨hl', _⟩
      · refine ⟨v, C, K1, h3, ?_, ?_⟩
        · unfold lkO
          split
          · rename_i t ht; rw [ht]; exact lk_exS_self
          · trivial
        · rw [vw_congr (fun t ht => lk_exS_ne (hq1 it (List.mem_cons_self ..) t ht))]; exact h4
      · rw [hl] at hl'; cases hl'
    · rcases h with ⟨_, v, C, σ', X', K1, rfl, _, h3, h4, h5⟩ | ⟨_, X', _, h2⟩
      · obtain ⟨v2, C2, K2, h6, h7, h8⟩ := ih hn1 hq3 h5 hm hl
        refine ⟨v2, C2, K2, h6, ?_, ?_⟩
        · unfold lkO at h7 ⊢
          split
          · rename_i t ht
            rw [ht] at h7
            rw [lk_exS_ne (fun e => hn2 t e (mem_dstsI hm ht))]; exact h7
          · trivial
        · rw [vw_congr (fun t ht => lk_exS_ne (hq1 it (List.mem_cons_of_mem _ hm) t ht))]; exact h8
      · exact ih hn1 hq3 h2 hm hl

/-- one more comes up -/
theorem InvI.step {l : List Oper} {σ0 : Slots} {L : Array Bool} {K K' : KM} {it : It} (hk : KM.le K K') (hcl : ∀ j i, L.getD j false = true → waitsB l j i = true → L.getD i false = true) : ∀ {its : List It} {σ : Slots} {X : Chunks} {pre : List Tmp}, (dstsI its).Nodup → (idsI its).Nodup → depsB l its pre = true → InvI σ0 its L K σ X → it ∈ its → L.getD it.i false = false → it.i < L.size →
    ∃ R, X.Perm (it.pre ++ R) ∧ ∀ v C, it.post K' (vw it.deps σ) v C → ∃ σ' X', X'.Perm (C ++ R) ∧ InvI σ0 its (L.setIfInBounds it.i true) K' σ' X' ∧ ∀ t, lk σ' t = lk (exS it.d v σ) t := by
  intro its
  induction its with
  | nil => intro σ X _ _ _ _ _ h; cases h
  | cons q r ih =>
    intro σ X pre hn hi hdp h hm hl hsz
    obtain ⟨hn1, hn2⟩ := nodup_tail hn
    obtain ⟨hq1, hq2, pre', hq3⟩ := depsB_head hdp
    obtain ⟨hi1, hi2⟩ := List.nodup_cons.1 (show (q.i :: idsI r).Nodup from hi)
    have same : ∀ {r : List It} {σ : Slots} {X : Chunks}, it.i ∉ idsI r → InvI σ0 r L K σ X → InvI σ0 r (L.setIfInBounds it.i true) K' σ X := by
      intro r
      induction r with
      | nil => intro σ X _ h; exact h
      | cons q r ih =>
        intro σ X hni h
        have hne : it.i ≠ q.i := fun e => hni (e ▸ List.mem_cons_self ..)
        have hni' : it.i ∉ idsI r := fun e => hni (List.mem_cons_of_mem _ e)
        rcases h with ⟨hl, v, C, σ', X', K1, h1, h2, h3, h4, h5⟩ | ⟨hl, X', h1, h2⟩
        · exact .inl ⟨by rw [getD_set_ne false hne]; exact hl, v, C, σ', X', K1, h1, h2, h3.trans hk, h4, ih hni' h5⟩
        · exact .inr ⟨by rw [getD_set_ne false hne]; exact hl, X', h1, ih hni' h2⟩
    rcases List.mem_cons.1 hm with rfl | hm
    · rcases h with ⟨hl', _⟩ | ⟨_, X', rfl, h2⟩
      · rw [hl] at hl'; cases hl'
      · refine ⟨X', .refl _, fun v C hp => ⟨exS it.d v σ, C ++ X', .refl _, .inl ⟨by simp [hsz], v, C, σ, X', K', rfl, rfl, .refl _, hp, same hi1 h2⟩, fun _ => rfl⟩⟩
    · have hne : it.i ≠ q.i := fun e => hi1 (mem_idsI.2 ⟨it, hm, e⟩)
      rcases h with ⟨hl', v, C, σ', X', K1, rfl, rfl, h3, h4, h5⟩ | ⟨hl', X', rfl, h2⟩
      · obtain ⟨R, h6, h7⟩ := ih hn1 hi2 hq3 h5 hm hl hsz
        refine ⟨C ++ R, ?_, fun u D hp => ?_⟩
        · exact (h6.append_left C).trans (List.perm_append_comm_assoc C it.pre R)
        · rw [vw_congr (fun t ht => lk_exS_ne (hq1 it (List.mem_cons_of_mem _ hm) t ht))] at hp
          obtain ⟨σ2, X2, h8, h9, h10⟩ := h7 u D hp
          have hvw : vw q.deps σ2 = vw q.deps σ' := vw_congr (fun t ht => by
            rw [h10 t]
            refine lk_exS_ne (fun e => ?_)
            have := hcl _ _ hl' (hq2 it hm t ht e)
            rw [hl] at this; cases this)
          refine ⟨exS q.d v σ2, C ++ X2, (h8.append_left C).trans (List.perm_append_comm_assoc C D R), .inl ⟨by rw [getD_set_ne false hne]; exact hl', v, C, σ2, X2, K1, rfl, rfl, h3.trans hk, by rw [hvw]; exact h4, h9⟩, fun t => ?_⟩
          cases hq : q.d with
          | none => simpa [exS] using h10 t
          | some s =>
            by_cases e : s = t
            · subst e
              rw [lk_exS_self]
              have : it.d ≠ some s := fun e => hn2 s hq (mem_dstsI hm e)
              rw [lk_exS_ne this, lk_exS_self]
            · have h1 : (some s : Option Tmp) ≠ some t := fun h => e (by simpa using h)
              rw [lk_exS_ne h1, h10 t]
              cases hi : it.d with
              | none => simp only [exS]; rw [show lk ((s, v) :: σ') t = lk (exS (some s) v σ') t from rfl, lk_exS_ne h1]
              | some u' =>
                by_cases e' : u' = t
                · subst e'; rw [lk_exS_self, lk_exS_self]
                · have h2 : (some u' : Option Tmp) ≠ some t := fun h => e' (by simpa using h)
                  rw [lk_exS_ne h2, lk_exS_ne h2, lk_exS_ne h1]
      · obtain ⟨R, h6, h7⟩ := ih hn1 hi2 hq3 h2 hm hl hsz
        refine ⟨q.pre ++ R, ?_, fun u D hp => ?_⟩
        · exact (h6.append_left q.pre).trans (List.perm_append_comm_assoc q.pre it.pre R)
        · obtain ⟨σ2, X2, h8, h9, h10⟩ := h7 u D hp
          exact ⟨σ2, q.pre ++ X2, (h8.append_left q.pre).trans (List.perm_append_comm_assoc q.pre D R), .inr ⟨by rw [getD_set_ne false hne]; exact hl', X2, rfl, h9⟩, h10⟩

theorem InvI.start {σ0 : Slots} {K : KM} {n : Nat} : ∀ (its : List It), InvI σ0 its (Array.replicate n false) K σ0 (flat (preI its)) := by
  intro its
  induction its with
  | nil => exact ⟨rfl, rfl⟩
  | cons it r ih =>
    refine .inr ⟨?_, _, rfl, ih⟩
    rcases Nat.lt_or_ge it.i n with h | h
    · simp [h]
    · simp [Array.getElem?_eq_none, h]

theorem InvI.out {σ0 : Slots} {L : Array Bool} {K : KM} : ∀ {its : List It} {σ : Slots} {X : Chunks}, (∀ it ∈ its, L.getD it.i false = true) → InvI σ0 its L K σ X → ∃ Y, X = flat Y ∧ OutI σ0 its K σ Y := by
  intro its
  induction its with
  | nil => intro σ X _ h; exact ⟨[], h.2, h.1, rfl⟩
  | cons it r ih =>
    intro σ X hall h
    rcases h with ⟨_, v, C, σ', X', K1, rfl, rfl, h3, h4, h5⟩ | ⟨hl', _⟩
    · obtain ⟨Y, rfl, h6⟩ := ih (fun q hq => hall q (List.mem_cons_of_mem _ hq)) h5
      exact ⟨C :: Y, rfl, v, C, σ', Y, K1, rfl, rfl, h3, h4, h6⟩
    · rw [hall it (List.mem_cons_self ..)] at hl'; cases hl'

/-! ### which ones may be ready -/

/-- each waits for those ahead of it alone -/
def topoB (l : List Oper) : List Nat → List Nat → Bool
  | _, [] => true
  | done, i :: r => (match nthO l i with
      | some o => o.after.all fun e => !Region.binds .any e || memN e.on done
      | none => false) && topoB l (i :: done) r

def cloB (l : List Oper) (A : List Bool) : List Bool := (List.range l.length).map fun i => A.getD i false || (List.range l.length).any fun j => A.getD j false && waitsB l j i
def iterB (l : List Oper) : Nat → List Bool → List Bool
  | 0, A => A
  | m + 1, A => iterB l m (cloB l A)

/-- one that comes behind all of S -/
def behindB (l : List Oper) (S : List Nat) (m r : Nat) : Bool :=
  memN r S || ((List.range l.length).any fun q => !memN q S && waitsB l r q) ||
    (let A := iterB l m ((List.range l.length).map fun i => waitsB l r i)
     S.all fun s => A.getD s false)

structure MakeOk (l : List Oper) (N : Nat) (its : List It) (m : Nat) : Prop where
  ids : nodupN (idsI its) = true
  dsts : nodupN (dstsI its) = true
  small : its.all (fun it => Nat.blt it.i l.length) = true
  put : (dstsI its).all (fun t => Nat.blt t N) = true
  topo : topoB l [] (idsI its).reverse = true
  deps : depsB l its [] = true
  rest : (List.range l.length).all (behindB l (idsI its) m) = true

def listI : List It → Array Bool → Array Bool
  | [], L => L
  | it :: r, L => listI r (L.setIfInBounds it.i true)

section
variable {P : Program} {T : Tab} {N : Nat} {σ : Slots} {w : World} {l : List Oper} {Q : Exit → Act → World → Prop} {rest : List Oper} {g : Option (Nat × Bool)}
  {ty : TypeId} {pos : String} {af : Array Edge} {op : Op} {d : Tmp} {K : KM} {L : Chunks} {G : List Chunks}

/-- what is to be shown of one of them -/
def ObI (P : Program) (l : List Oper) (Q : Exit → Act → World → Prop) (N : Nat) (K0 : KM) (G : List Chunks) (σ0 : Slots) (its : List It) (it : It) : Prop :=
  ∃ o, nthO l it.i = some o ∧ o.dst = it.d ∧ o.guard = none ∧
    ∀ (K : KM) (w : World) (Y : Chunks) (σ : Slots), KM.le K0 K → Sat w K (flat (it.pre :: (G ++ [Y]))) →
      (∀ k jt, nthI its k = some jt → waitsB l it.i jt.i = true → ∃ v C K1, KM.le K1 K ∧ lkO σ jt.d v ∧ jt.post K1 (vw jt.deps σ) v C) →
      (∀ t v, lk σ0 t = some v → memN t (dstsI its) = false → lk σ t = some v) →
      ∀ X : Act → World → Prop, (∀ v w' K' C τ, within τ σ → KM.le K K' → it.post K' (vw it.deps σ) v C → Sat w' K' (flat (C :: (G ++ [Y]))) → At N (exS it.d v (τ ++ σ)) fun a => X a w') →
        Rg P l (fun e a w => match e with | .normal => X a w | e => Q e a w) N [o] σ w

def AllI (F : It → Prop) : List It → Prop
  | [] => True
  | it :: r => F it ∧ AllI F r

theorem AllI.get {F : It → Prop} : ∀ {its : List It}, AllI F its → ∀ it ∈ its, F it := by
  intro its
  induction its with
  | nil => intro _ it h; cases h
  | cons q r ih =>
    intro h it hm
    rcases List.mem_cons.1 hm with rfl | hm
    · exact h.1
    · exact ih h.2 it hm

theorem lk_append {τ σ : Slots} (h : within τ σ) : ∀ t, lk (τ ++ σ) t = lk σ t := by
  induction τ with
  | nil => intro t; rfl
  | cons p r ih =>
    obtain ⟨s, u⟩ := p
    intro t
    simp only [List.cons_append, lk]
    cases hb : Nat.beq s t with
    | true => have := Nat.eq_of_beq_eq_true hb; subst this; simp [h.1]
    | false => simp [ih h.2 t]

theorem Fits.same {a : Act} {τ σ : Slots} (h : Fits N a σ) (hs : ∀ t, lk τ t = lk σ t) : Fits N a τ := h.of fun t v ht => by rw [← hs t]; exact ht

theorem rg_head {τ : Slots} {ll : List Oper} (h : within τ σ) (hr : Rg P l Q N ll (τ ++ σ) w) : Rg P l Q N ll σ w := fun a ha => hr a (ha.same (lk_append h))

/-- a step alone -/
theorem wp_of_rg {k : Nat} {o : Oper} {X : Act → World → Prop} (hi : nthO l k = some o) {a : Act}
    (h1 : wpList P l.toArray (fun e a w => match e with | .normal => X a w | e => Q e a w) [o] a w) : wpOp P l.toArray Q k X a w := by
  have hi' : l.toArray[k]? = some o := by rw [nthO_eq] at hi; simpa using hi
  unfold wpList at h1
  unfold wpOp
  rw [hi']
  simp only
  split
  · rename_i hw
    rw [if_pos hw] at h1
    rcases h1 with h1 | ⟨h1, a0, w0, h2⟩
    · refine .inl ?_
      unfold Oper.wp at h1 ⊢
      generalize (execOp a.eval o).run P w = r at h1 ⊢
      cases r with
      | ok n w' =>
        cases n <;> simp only [Oper.upon] at h1 ⊢
        case value u => exact h1
        case skip => exact h1
        case defer d => exact h1
        case enter f args =>
          refine Calls.mono h1 fun e w'' he => ?_
          cases e with
          | returned u => exact he
          | panicked c => exact he
          | outgrown => exact he
        case row row args => exact Rows.mono h1 fun u w'' he => he
      | halt x w' => cases x <;> simp only [Oper.upon] at h1 ⊢ <;> exact h1
    · exact .inr ⟨h1, a0, w0, h2⟩
  · rename_i hw
    rw [if_neg hw] at h1
    exact h1

/-- all that is listed waited for what is listed -/
def ClosedB (l : List Oper) (L : Array Bool) : Prop := ∀ j i, L.getD j false = true → waitsB l j i = true → L.getD i false = true

theorem ready_waits {L : Array Bool} {i j : Nat} (h : i ∈ Region.ready .any l.toArray L) (hw : waitsB l i j = true) : L.getD j false = true := by
  obtain ⟨_, o, ho, hall⟩ := mem_ready.1 h
  unfold waitsB at hw
  rw [nthO_eq, show l[i]? = some o by simpa using ho] at hw
  simp only at hw
  obtain ⟨e, he, hb⟩ := Array.any_eq_true'.1 hw
  simp only [Bool.and_eq_true, beq_iff_eq] at hb
  rw [← hb.2]; exact hall e he hb.1

theorem clo_listed {L : Array Bool} (hc : ClosedB l L) {A : List Bool} (hA : ∀ i, A.getD i false = true → L.getD i false = true) : ∀ i, (cloB l A).getD i false = true → L.getD i false = true := by
  intro i hi
  unfold cloB at hi
  by_cases hlt : i < l.length
  · rw [List.getD_eq_getElem?_getD, List.getElem?_map, List.getElem?_range hlt] at hi
    simp only [Option.map_some, Option.getD_some, Bool.or_eq_true] at hi
    rcases hi with hi | hi
    · exact hA i hi
    · obtain ⟨j, _, hj⟩ := List.any_eq_true.1 hi
      simp only [Bool.and_eq_true] at hj
      exact hc j i (hA j hj.1) hj.2
  · rw [List.getD_eq_getElem?_getD, List.getElem?_eq_none (by simp; omega)] at hi; cases hi

theorem iter_listed {L : Array Bool} (hc : ClosedB l L) : ∀ (m : Nat) {A : List Bool}, (∀ i, A.getD i false = true → L.getD i false = true) → ∀ i, (iterB l m A).getD i false = true → L.getD i false = true := by
  intro m
  induction m with
  | zero => intro A hA; exact hA
  | succ m ih => intro A hA; exact ih (clo_listed hc hA)

theorem first_ready {L : Array Bool} (hs : L.size = l.length) : ∀ {S done : List Nat}, topoB l done S = true → (∀ i ∈ done, L.getD i false = true) → (∀ i ∈ S, i < l.length) → (∃ i ∈ S, L.getD i false = false) → ∃ i ∈ S, i ∈ Region.ready .any l.toArray L := by
  intro S
  induction S with
  | nil => rintro done _ _ _ ⟨i, hi, _⟩; cases hi
  | cons i r ih =>
    intro done ht hd hlt hex
    simp only [topoB, Bool.and_eq_true] at ht
    cases hl : L.getD i false with
    | true =>
      obtain ⟨j, hj, hr⟩ := ih ht.2 (fun k hk => by rcases List.mem_cons.1 hk with rfl | hk; exact hl; exact hd k hk) (fun k hk => hlt k (List.mem_cons_of_mem _ hk)) (by
        obtain ⟨j, hj, hjl⟩ := hex
        rcases List.mem_cons.1 hj with rfl | hj
        · rw [hl] at hjl; cases hjl
        · exact ⟨j, hj, hjl⟩)
      exact ⟨j, List.mem_cons_of_mem _ hj, hr⟩
    | false =>
      have hi : i < l.length := hlt i (List.mem_cons_self ..)
      refine ⟨i, List.mem_cons_self .., mem_ready.2 ⟨?_, l[i], by simp [hi], fun e he hb => ?_⟩⟩
      · have : i < L.size := by omega
        simp [this] at hl ⊢; exact hl
      · have h1 := ht.1
        rw [nthO_eq, List.getElem?_eq_getElem hi] at h1
        simp only at h1
        have := (Array.all_eq_true'.1 h1) e he
        rw [hb] at this
        simp only [Bool.not_true, Bool.false_or] at this
        exact hd _ ((memN_eq _ _).1 this)

theorem listI_getD : ∀ (its : List It) (L : Array Bool) (i : Nat), (∀ it ∈ its, it.i < L.size) → ((listI its L).getD i false = true ↔ L.getD i false = true ∨ i ∈ idsI its) := by
  intro its
  induction its with
  | nil => intro L i _; simp [listI, idsI]
  | cons it r ih =>
    intro L i h
    simp only [listI, idsI, List.mem_cons]
    rw [ih _ _ (fun q hq => by simpa using h q (List.mem_cons_of_mem _ hq))]
    have hlt := h it (List.mem_cons_self ..)
    by_cases e : it.i = i
    · subst e; simp [hlt]
    · rw [getD_set_ne false e]
      constructor
      · rintro (h | h)
        · exact .inl h
        · exact .inr (.inr h)
      · rintro (h | h | h)
        · exact .inl h
        · exact absurd h.symm e
        · exact .inr h

theorem listI_size : ∀ (its : List It) (L : Array Bool), (listI its L).size = L.size := by
  intro its
  induction its with
  | nil => intro L; rfl
  | cons it r ih => intro L; simp [listI, ih]


/-- those that may come up in any order, each shown once; behind them the region goes on -/
theorem make_any {G : List Chunks} {σ0 : Slots} {its : List It} {m f : Nat} (hok : MakeOk l N its m)  (obs : AllI (ObI P l Q N K G σ0 its) its)
    (next : ∀ K' w' σ' Y, KM.le K K' → OutI σ0 its K' σ' Y → Sat w' K' (flat (Y ++ G)) → At N σ' fun a => wpAny P .any l.toArray Q f (listI its (Array.replicate l.length false)) a w') :
    ∀ (c : Nat) (L : Array Bool) (K1 : KM) (w : World) (σ : Slots) (X R : Chunks) (a : Act), L.size = l.length → ClosedB l L → (∀ i, L.getD i false = true → i ∈ idsI its) → ((idsI its).filter fun i => !L.getD i false).length = c →
      KM.le K K1 → InvI σ0 its L K1 σ X → Sat w K1 R → R.Perm (X ++ flat G) → Fits N a σ → wpAny P .any l.toArray Q (c + f) L a w := by
  have hids := (nodupN_eq _).1 hok.ids
  have hdst := (nodupN_eq _).1 hok.dsts
  have hsm : ∀ it ∈ its, it.i < l.length := fun it hm => by simpa using List.all_eq_true.1 hok.small it hm
  have hsm' : ∀ i ∈ idsI its, i < l.length := fun i hm => by obtain ⟨it, h1, rfl⟩ := mem_idsI.1 hm; exact hsm it h1
  intro c
  induction c with
  | zero =>
    intro L K1 w σ X R a hsz hcl hsub hcnt hle hinv hS hp ha
    have hall : ∀ i ∈ idsI its, L.getD i false = true := fun i hi => by
      have h0 := List.eq_nil_of_length_eq_zero hcnt
      cases e : L.getD i false with
      | true => rfl
      | false =>
        have : i ∈ (idsI its).filter fun i => !L.getD i false := List.mem_filter.2 ⟨hi, by rw [e]; rfl⟩
        rw [h0] at this; cases this
    obtain ⟨Y, rfl, hout⟩ := hinv.out (fun it hm => hall _ (mem_idsI.2 ⟨it, hm, rfl⟩))
    have hL : L = listI its (Array.replicate l.length false) := by
      apply Array.ext (by rw [listI_size]; simpa using hsz)
      intro i h1 h2
      have key := listI_getD its (Array.replicate l.length false) i (fun it hm => by simpa using hsm it hm)
      have hrep : (Array.replicate l.length false).getD i false = false := by
        by_cases h : i < l.length <;> simp [h]
      have e1 : L.getD i false = L[i] := by simp [h1]
      have e2 : (listI its (Array.replicate l.length false)).getD i false = (listI its (Array.replicate l.length false))[i] := by simp [h2]
      rw [← e1, ← e2]
      cases hb : L.getD i false with
      | true => exact (key.2 (.inr (hsub i hb))).symm
      | false =>
        cases hb2 : (listI its (Array.replicate l.length false)).getD i false with
        | false => rfl
        | true =>
          rcases key.1 hb2 with h | h
          · rw [hrep] at h; cases h
          · rw [hall i h] at hb; cases hb
    rw [hL, Nat.zero_add]
    exact next K1 w σ Y hle hout (by rw [flat_append]; exact hS.perm hp) a ha
  | succ c ih =>
    intro L K1 w σ X R a hsz hcl hsub hcnt hle hinv hS hp ha
    have hex : ∃ i ∈ idsI its, L.getD i false = false := by
      cases hne : (idsI its).filter (fun i => !L.getD i false) with
      | nil => rw [hne] at hcnt; cases hcnt
      | cons i r =>
        have : i ∈ (idsI its).filter fun i => !L.getD i false := by rw [hne]; exact List.mem_cons_self ..
        obtain ⟨h1, h2⟩ := List.mem_filter.1 this
        exact ⟨i, h1, by simpa using h2⟩
    rw [Nat.succ_add]
    refine ⟨fun h0 => ?_, fun i hi => ?_⟩
    · obtain ⟨i, _, hr⟩ := first_ready hsz hok.topo (fun i h => by cases h) (fun i hi => hsm' i (List.mem_reverse.1 hi)) (by obtain ⟨i, h1, h2⟩ := hex; exact ⟨i, List.mem_reverse.2 h1, h2⟩)
      rw [h0] at hr; cases hr
    · have hil : i < l.length := by
        have := List.mem_filter.1 hi
        simpa using List.mem_range.1 this.1
      have hmem : i ∈ idsI its := by
        have h1 := List.all_eq_true.1 hok.rest i (List.mem_range.2 hil)
        unfold behindB at h1
        simp only [Bool.or_eq_true] at h1
        rcases h1 with (h1 | h1) | h1
        · exact (memN_eq _ _).1 h1
        · obtain ⟨q, _, hq⟩ := List.any_eq_true.1 h1
          simp only [Bool.and_eq_true, Bool.not_eq_true'] at hq
          have h2 := hsub q (ready_waits hi hq.2)
          rw [(memN_eq _ _).2 h2] at hq; cases hq.1
        · exfalso
          obtain ⟨j, hj, hjl⟩ := hex
          have h2 := List.all_eq_true.1 h1 j hj
          have h3 := iter_listed hcl m (A := (List.range l.length).map fun q => waitsB l i q) (fun q hq => by
            by_cases hlt : q < l.length
            · rw [List.getD_eq_getElem?_getD, List.getElem?_map, List.getElem?_range hlt] at hq
              exact ready_waits hi (by simpa using hq)
            · rw [List.getD_eq_getElem?_getD, List.getElem?_eq_none (by simp; omega)] at hq; cases hq) j h2
          rw [h3] at hjl; cases hjl
      obtain ⟨it, him, rfl⟩ := mem_idsI.1 hmem
      have hun : L.getD it.i false = false := by
        have := (mem_ready.1 hi).1
        have hlt : it.i < L.size := by omega
        simp [hlt] at this ⊢; exact this
      obtain ⟨o, ho, hod, hog, hob⟩ := obs.get it him
      obtain ⟨R1, hR1, hstep⟩ := hinv.step (K' := K1) (.refl _) hcl hdst hids hok.deps him hun (by omega)
      refine wp_of_rg ho ?_
      have hperm : R.Perm (flat (it.pre :: (G ++ [R1]))) := by
        refine hp.trans ((hR1.append_right _).trans ?_)
        simp only [flat, flat_append, List.append_nil, List.append_assoc]
        exact (List.perm_append_comm (l₁ := R1) (l₂ := flat G)).append_left it.pre
      refine hob K1 w R1 σ hle (hS.perm hperm) (fun k jt hk hw => hinv.dep hdst hok.deps (nthI_mem hk) (ready_waits hi hw)) (fun t v ht hnt => ?_) _ (fun v w' K' C τ hτ hk hpost hS' a' ha' => ?_) a ha
      · rw [hinv.base (fun hm => by rw [(memN_eq _ _).2 hm] at hnt; cases hnt)]; exact ht
      · obtain ⟨R2, hR2, hstep2⟩ := (hinv.mono hk).step (K' := K') (.refl _) hcl hdst hids hok.deps him hun (by omega)
        obtain ⟨σ2, X2, hX2, hinv2, hlk2⟩ := hstep2 v C hpost
        refine ih (L.setIfInBounds it.i true) K' w' σ2 X2 _ a' (by simpa using hsz) ?_ ?_ ?_ (hle.trans hk) hinv2 hS' ?_ ?_
        · intro j i' hj hw
          by_cases e : it.i = j
          · subst e
            have := ready_waits hi hw
            exact getD_set_true this
          · rw [getD_set_ne false e] at hj
            exact getD_set_true (hcl j i' hj hw)
        · intro j hj
          by_cases e : it.i = j
          · subst e; exact hmem
          · rw [getD_set_ne false e] at hj; exact hsub j hj
        · have h1 : ∀ (S : List Nat), S.Nodup → it.i ∈ S → (S.filter fun i => !L.getD i false).length = (S.filter fun i => !(L.setIfInBounds it.i true).getD i false).length + 1 := by
            intro S
            induction S with
            | nil => intro _ h; cases h
            | cons q r ihS =>
              intro hn hm
              obtain ⟨hn1, hn2⟩ := List.nodup_cons.1 hn
              by_cases e : it.i = q
              · subst e
                have hlt : it.i < L.size := by omega
                have e1 : (L.setIfInBounds it.i true).getD it.i false = true := by simp [hlt]
                rw [List.filter_cons, List.filter_cons, hun, e1]
                simp only [Bool.not_false, if_true, Bool.not_true, Bool.false_eq_true, if_false, List.length_cons]
                congr 2
                apply List.filter_congr
                intro x hx
                have hne : it.i ≠ x := fun e => hn1 (e ▸ hx)
                rw [getD_set_ne false hne]
              · have hm' : it.i ∈ r := by
                  rcases List.mem_cons.1 hm with h | h
                  · exact absurd h e
                  · exact h
                rw [List.filter_cons, List.filter_cons, getD_set_ne false e]
                split
                · simp only [List.length_cons, ihS hn2 hm']
                · exact ihS hn2 hm'
          have h2 := h1 _ hids hmem
          omega
        · -- the permutation
          have hRR : R2.Perm R1 := by
            have := hR1.symm.trans hR2
            exact ((List.perm_append_left_iff it.pre).1 this).symm
          have : (flat (C :: (G ++ [R1]))).Perm (C ++ R1 ++ flat G) := by
            simp only [flat, flat_append, List.append_nil, List.append_assoc]
            exact (List.perm_append_comm (l₁ := flat G) (l₂ := R1)).append_left C
          refine this.trans (List.Perm.append_right _ ?_)
          exact (hRR.symm.append_left C).trans hX2.symm
        · refine ha'.same (fun t => ?_)
          rw [hlk2 t]
          cases hd : it.d with
          | none => simp only [exS]; rw [lk_append hτ]
          | some s =>
            simp only [exS, lk, lk_append hτ]

theorem InvI.nil_waits {l : List Oper} : ClosedB l (Array.replicate l.length false) := fun j i hj => by
  exfalso
  by_cases h : j < l.length <;> simp [h] at hj

/-- a region that draws its order, whose first operations may come up in any order -/
theorem d_make [hT : TabC P T] {id : Nat} (its : List It) (LS : Array Bool) (m f : Nat) {G : List Chunks} (hok : MakeOk l N its m) (hf : (l.length = (idsI its).length + f)) (hLS : listI its (Array.replicate l.length false) = LS) (hp : flat (preI its) = []) (hS : Sat w K (flat G)) (obs : AllI (ObI P l Q N K G σ its) its)
    (next : ∀ K' w' σ' Y, KM.le K K' → OutI σ its K' σ' Y → Sat w' K' (flat (Y ++ G)) → At N σ' fun a => wpAny P .any l.toArray Q f LS a w') :
    At N σ fun a => (Code.region id l.toArray true).wp P Q a w := fun a ha =>
  wp_region_any hT.mixed (by
    have h := make_any hok obs (by rw [hLS]; exact next) (idsI its).length (Array.replicate l.length false) K _ σ _ (flat G) a (by simp) InvI.nil_waits (fun i hi => by
        exfalso
        by_cases h : i < l.length <;> simp [h] at hi) (by
      rw [List.filter_eq_self.2]; intro i _; by_cases h : i < l.length <;> simp [h]) (.refl K) (InvI.start its) hS.drew (by rw [hp]; exact .refl _) ha
    rw [← hf] at h
    simpa using h)

theorem lnk_sl {b b' o o' : Nat} {n n' c c' : Nat} (h : some (Value.slice (some ⟨b, o, none⟩) n c) = some (Value.slice (some ⟨b', o', none⟩) n' c')) : b = b' := by
  cases h; rfl

theorem lnk_s2 {a a' : Option Addr} {n n' c c' : Nat} (h : some (Value.slice a n c) = some (Value.slice a' n' c')) : a = a' ∧ c = c' := by
  cases h; exact ⟨rfl, rfl⟩

theorem lnk_p {b b' o o' : Nat} (h : some (Value.pointer (some ⟨b, o, none⟩)) = some (Value.pointer (some ⟨b', o', none⟩))) : b = b' := by
  cases h; rfl

/-- behind those: the walk goes on -/
theorem d_on {f : Nat} {listed : Array Bool} {G : List Chunks} (π : List Nat) (δ : List (Nat × List Nat)) (hS : Sat w K (flat G)) (next : Dg P l Q N K (flat (selG G π)) (heldG G δ) f listed σ w) :
    At N σ fun a => wpAny P .any l.toArray Q f listed a w := fun a ha => wpAny_of_P _ _ _ _ (next a ha)


/-! ### rows that are written out from the first to the last -/

def catE (es : Nat) : Nat → List (Nat × Value) → Option (List Value)
  | _, [] => some []
  | k, (i, v) :: r => bif Nat.beq i k && Nat.beq v.cells.toList.length es then
      match catE es (k + 1) r with
      | some l => some (v.cells.toList ++ l)
      | none => none
    else none

theorem catE_len {es : Nat} : ∀ {vs : List (Nat × Value)} {k : Nat} {cs : List Value}, catE es k vs = some cs → cs.length = vs.length * es := by
  intro vs
  induction vs with
  | nil => intro k cs h; simp [catE] at h; simp [h]
  | cons p r ih =>
    obtain ⟨i, v⟩ := p
    intro k cs h
    simp only [catE] at h
    cases hb : (Nat.beq i k && Nat.beq v.cells.toList.length es) with
    | false => rw [hb] at h; cases h
    | true =>
      rw [hb] at h
      simp only [cond_true] at h
      simp only [Bool.and_eq_true] at hb
      have h2 := Nat.eq_of_beq_eq_true hb.2
      split at h
      · rename_i l hl
        cases h
        rw [List.length_append, ih hl, h2, List.length_cons, Nat.add_mul]; omega
      · cases h

theorem layE_cat (es : Nat) : ∀ (vs : List (Nat × Value)) (k : Nat) (pre cs post : List Value), pre.length = k * es → post.length = vs.length * es → catE es k vs = some cs →
    layE es (pre ++ post) vs = some (pre ++ cs) := by
  intro vs
  induction vs with
  | nil =>
    intro k pre cs post _ hp h
    simp [catE] at h
    have : post = [] := List.eq_nil_of_length_eq_zero (by simpa using hp)
    simp [layE, this, h]
  | cons p r ih =>
    obtain ⟨i, v⟩ := p
    intro k pre cs post hk hp h
    simp only [catE] at h
    cases hb : (Nat.beq i k && Nat.beq v.cells.toList.length es) with
    | false => rw [hb] at h; cases h
    | true =>
      rw [hb] at h
      simp only [cond_true] at h
      simp only [Bool.and_eq_true] at hb
      have h1 := Nat.eq_of_beq_eq_true hb.1
      have h2 := Nat.eq_of_beq_eq_true hb.2
      subst h1
      split at h
      · rename_i l hl
        cases h
        simp only [List.length_cons, Nat.add_mul, Nat.one_mul] at hp
        simp only [layE]
        rw [hb.2, show Nat.ble (i * es + es) (pre ++ post).length = true from Nat.ble_eq_true_of_le (by rw [List.length_append]; omega)]
        simp only [Bool.and_self, cond_true]
        rw [← hk, List.take_left' rfl, List.drop_append, List.drop_of_length_le (by omega : pre.length ≤ pre.length + es), List.nil_append, show pre.length + es - pre.length = es by omega]
        have := ih (i + 1) (pre ++ v.cells.toList) l (post.drop es) (by rw [List.length_append, h2, hk, Nat.add_mul]; omega) (by rw [List.length_drop]; omega) hl
        rw [List.append_assoc, List.append_assoc] at this
        exact this
      · cases h

/-- a slice that is written out from the first to the last -/
theorem s_bwc [hT : TabC P T] {t : TypeId} {i : TI} {e : TypeId} {n : Nat} {parts : List (Nat × Operand)} {vs : List (Nat × Value)} {cs : List Value} (hS : Sat w K (flat G)) (ht : tk T t = some i) (hd : i.kind = .slice e)
    (hv : evAll σ parts = some vs) (hsm : Nat.ble (n * i.esize) 16777216 = true) (hez : i.ezero.length = i.esize) (hep : Nat.blt 0 i.esize = true)
    (hc : catE i.esize 0 vs = some cs) (hn : vs.length = n) (hg : gd l σ g = some true) (hdN : Nat.blt d N = true)
    (next : ∀ b w', Sat w' K (flat ([(b, Cl cs e)] :: G)) → Rg P l Q N rest ((d, .slice (some ⟨b, 0, none⟩) n n) :: σ) w') :
    Rg P l Q N (⟨some d, .buildSlice t n parts.toArray, ty, pos, af, g⟩ :: rest) σ w := by
  refine s_bw hS ht hd hv hsm hez hep ?_ hg hdN next
  have := layE_cat i.esize vs 0 [] cs (List.replicate n i.ezero).flatten (by simp) (by simp [hn, hez]) hc
  simpa using this

end
end Go.Fw
