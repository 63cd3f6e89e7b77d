/- A small logic of walks: loops, regions that draw their order, data. -/
import Derived.Test.YtheedjgpfpghbaaGreatFwE
import Derived.KernelRfl
set_option linter.unusedVariables false
set_option linter.unusedSimpArgs false
namespace Go.Fw
open Go

section
variable {P : Program} {T : Tab} {N : Nat} {σ : Slots} {w : World} {l : List Oper} {Q : Exit → Act → World → Prop} {rest : List Oper} {g : Option (Nat × Bool)}
  {ty : TypeId} {pos : String} {af : Array Edge} {op : Op} {d : Tmp} {K : KM} {L : Chunks} {G : List Chunks}

/-! ### loops -/

/-- a loop's round is about to begin -/
def wpl (P : Program) (c : Code) (Q : Exit → Act → World → Prop) (a : Act) (w : World) : Prop :=
  ∀ b k cs, ∃ e a' w', Q e a' w' ∧ Arrives P (lone (b.at a (.code c :: .inLoop c :: k)) cs w) b k cs e a' w'

theorem s_loop {c : Code} (h : At N σ fun a => wpl P c Q a w) : At N σ fun a => (Code.loop c).wp P Q a w := fun a ha b k cs => by
  obtain ⟨e, a', w', hq, harr⟩ := h a ha b k cs
  exact ⟨e, a', w', hq, .of_steps (.one step_loop) harr⟩

theorem s_round {c : Code} (h : At N σ fun a => c.wp P (Exit.then (fun a w => wpl P c Q a w) Q) a w) : At N σ fun a => wpl P c Q a w := fun a ha b k cs => by
  obtain ⟨e, a₁, w₁, hq, harr⟩ := h a ha b (.inLoop c :: k) cs
  cases e with
  | normal =>
    obtain ⟨e₂, a₂, w₂, hq₂, harr₂⟩ := hq b k cs
    exact ⟨e₂, a₂, w₂, hq₂, .of_steps (Steps.trans harr (.one step_inLoop)) harr₂⟩
  | exit id => exact ⟨_, a₁, w₁, hq, .pass (x := .inLoop c) rfl (fun _ _ => .inl (by simp)) harr⟩
  | goto l => exact ⟨_, a₁, w₁, hq, .pass (x := .inLoop c) rfl (fun _ _ => .inl (by simp)) harr⟩
  | ret => exact ⟨_, a₁, w₁, hq, .pass (x := .inLoop c) rfl (fun _ _ => .inl (by simp)) harr⟩
  | panic ch => exact ⟨_, a₁, w₁, hq, .pass (x := .inLoop c) rfl (fun _ _ => .inl (by simp)) harr⟩
  | outgrown => exact ⟨_, a₁, w₁, hq, .pass (x := .inLoop c) rfl (fun _ _ => .inl (by simp)) harr⟩

/-! ### regions that draw their order: what only reads is taken as soon as it may; the others stand in a row -/

def waitsB (l : List Oper) (j i : Nat) : Bool :=
  match nthO l j with
  | some o => o.after.any fun e => Region.binds .any e && e.on == i
  | none => false

/-- whatever order is picked from here on; S holds behind every step, as long as it speaks of what hasn't come up -/
def wpAnyP (P : Program) (l : List Oper) (Q : Exit → Act → World → Prop) (S : Array Bool → World → Prop) : Nat → Array Bool → Act → World → Prop
  | 0, listed, a, w => Region.ready .any l.toArray listed = [] ∧ Q .normal a w
  | fuel + 1, listed, a, w =>
    (Region.ready .any l.toArray listed = [] → Q .normal a w) ∧
    ∀ i ∈ Region.ready .any l.toArray listed, wpOp P l.toArray Q i (fun a' w' => S (listed.setIfInBounds i true) w' ∧ wpAnyP P l Q S fuel (listed.setIfInBounds i true) a' w') a w

theorem wpAny_of_P {S : Array Bool → World → Prop} : ∀ (fuel : Nat) (listed : Array Bool) (a : Act) (w : World), wpAnyP P l Q S fuel listed a w → wpAny P .any l.toArray Q fuel listed a w
  | 0, _, _, _, h => h
  | fuel + 1, _, _, _, h => ⟨h.1, fun i hi => wpOp_mono (fun a' w' h' => wpAny_of_P fuel _ a' w' h'.2) (h.2 i hi)⟩

/-- what is listed in one is listed in the other -/
def ExtL (A B : Array Bool) : Prop := ∀ i, A.getD i false = true → B.getD i false = true

theorem wpAnyP_mono {S S' : Array Bool → World → Prop} : ∀ (fuel : Nat) (listed : Array Bool) (a : Act) (w : World), (∀ L w, ExtL listed L → S' L w → S L w) →
    wpAnyP P l Q S' fuel listed a w → wpAnyP P l Q S fuel listed a w
  | 0, _, _, _, _, h => h
  | fuel + 1, listed, _, _, hs, h => ⟨h.1, fun i hi => wpOp_mono (fun a' w' h' =>
      have he : ExtL listed (listed.setIfInBounds i true) := fun j hj => getD_set_true hj
      ⟨hs _ _ he h'.1, wpAnyP_mono fuel _ a' w' (fun L w hL => hs L w (fun j hj => hL j (he j hj))) h'.2⟩) (h.2 i hi)⟩

/-- the worlds in which number i may come up -/
def Before (l : List Oper) (S : Array Bool → World → Prop) (i : Nat) (w : World) : Prop :=
  ∃ L : Array Bool, L.getD i true = false ∧ (∀ j, waitsB l j i = true → L.getD j true = false) ∧ S L w

theorem wpAnyP_first {S : Array Bool → World → Prop} {i : Nat} {oi : Oper} {v : Value} (hi : l.toArray[i]? = some oi) (hsel : ∀ (j : Nat) (o : Oper) cs b, l.toArray[j]? = some o → o.op ≠ .select cs b)
    (hQ : ∀ c a w, Q (.panic c) (a.put oi.dst v) w → Q (.panic c) a w) (hmono : ∀ L j w, S L w → S (L.setIfInBounds j true) w) (hins : ∀ L w, S (L.setIfInBounds i true) w → S L w) :
    ∀ (fuel : Nat) (listed : Array Bool) (a : Act) (w : World),
      (∀ j oj, l.toArray[j]? = some oj → j ≠ i → listed.getD j true = false → (∀ e ∈ oj.after, Region.binds .any e = true → e.on ≠ i) → oi.apart l.toArray oj = true) →
      i ∈ Region.ready .any l.toArray listed → (∀ j, waitsB l j i = true → listed.getD j true = false) → YieldsIf P l.toArray (Before l S i) oi v a → S listed w →
      wpAnyP P l Q S fuel (listed.setIfInBounds i true) (a.put oi.dst v) w → wpAnyP P l Q S (fuel + 1) listed a w := by
  intro fuel
  induction fuel with
  | zero =>
    intro listed a w _ hr hw hy hS H
    refine ⟨fun h => (by rw [h] at hr; cases hr), fun j hj => ?_⟩
    by_cases hji : j = i
    · subst hji; exact hy.wpOp hi ⟨listed, (mem_ready.1 hr).1, hw, hS⟩ ⟨hmono _ _ _ hS, H⟩
    · have := ready_mono hj hji
      rw [H.1] at this
      cases this
  | succ fuel ih =>
    intro listed a w hfree hr hw hy hS H
    refine ⟨fun h => (by rw [h] at hr; cases hr), fun j hj => ?_⟩
    by_cases hji : j = i
    · subst hji; exact hy.wpOp hi ⟨listed, (mem_ready.1 hr).1, hw, hS⟩ ⟨hmono _ _ _ hS, H⟩
    · have h1 := H.2 j (ready_mono hj hji)
      obtain ⟨hjun, oj, hoj, hall⟩ := mem_ready.1 hj
      have hnot : ∀ e ∈ oj.after, Region.binds .any e = true → e.on ≠ i := fun e he hb heq => by
        have h2 := hall e he hb
        have h0 := (mem_ready.1 hr).1
        rw [heq] at h2
        rcases Nat.lt_or_ge i listed.size with h' | h'
        · simp [h'] at h0 h2; rw [h0] at h2; cases h2
        · simp [Array.getElem?_eq_none h'] at h2
      have h2 := wpOp_putIf hoj (hfree j oj hoj hji hjun hnot) (fun cs b => hsel i oi cs b hi) (fun cs b => hsel j oj cs b hoj) hQ hy h1
      have hfree' : ∀ k ok, l.toArray[k]? = some ok → k ≠ i → (listed.setIfInBounds j true).getD k true = false →
          (∀ e ∈ ok.after, Region.binds .any e = true → e.on ≠ i) → oi.apart l.toArray ok = true := fun k ok hk hki hun hno => by
        refine hfree k ok hk hki ?_ hno
        by_cases hjk : j = k
        · subst hjk; exact hjun
        · rw [getD_set_ne true hjk] at hun; exact hun
      have hw' : ∀ k, waitsB l k i = true → (listed.setIfInBounds j true).getD k true = false := fun k hk => by
        have hjk : j ≠ k := by
          rintro rfl
          unfold waitsB at hk
          rw [nthO_eq] at hk
          rw [show l[j]? = some oj by simpa using hoj] at hk
          simp only at hk
          obtain ⟨e, he, hb⟩ := Array.any_eq_true'.1 hk
          simp only [Bool.and_eq_true, beq_iff_eq] at hb
          exact hnot e he hb.1 hb.2
        rw [getD_set_ne true hjk]; exact hw k hk
      refine wpOp_mono (fun a' w' h3 => ?_) h2
      have hS' : S (listed.setIfInBounds j true) w' := hins _ _ (by rw [Array.setIfInBounds_comm _ _ hji]; exact h3.2.1)
      refine ⟨hS', ih (listed.setIfInBounds j true) a' w' hfree' (ready_mono hr (Ne.symm hji)) hw' h3.1 hS' ?_⟩
      rw [Array.setIfInBounds_comm _ _ hji]
      exact h3.2.2

/-- what is held till an operation comes up -/
abbrev Held := List (Nat × Chunks)

/-- these blocks are as they were -/
def Hold (K : KM) (C : Chunks) (D : Held) (L : Array Bool) (w : World) : Prop :=
  (∀ b x, K.at_ b = some x → w.heap[b]? = some x) ∧ (∀ p ∈ C, w.heap[p.1]? = some p.2) ∧ ∀ q ∈ D, L.getD q.1 true = false → ∀ p ∈ q.2, w.heap[p.1]? = some p.2

theorem getD_unset {L : Array Bool} {i j : Nat} (h : (L.setIfInBounds i true).getD j true = false) : L.getD j true = false := by
  by_cases e : i = j
  · subst e
    rcases Nat.lt_or_ge i L.size with h' | h'
    · simp [h'] at h
    · simp [Array.getElem?_eq_none h'] at h
  · rw [getD_set_ne true e] at h; exact h

theorem Hold.mono {K : KM} {C : Chunks} {D : Held} {L : Array Bool} {w : World} {j : Nat} (h : Hold K C D L w) : Hold K C D (L.setIfInBounds j true) w :=
  ⟨h.1, h.2.1, fun q hq hl => h.2.2 q hq (getD_unset hl)⟩

def noKey (D : Held) (i : Nat) : Bool := D.all fun q => !Nat.beq q.1 i

theorem Hold.ins {K : KM} {C : Chunks} {D : Held} {L : Array Bool} {w : World} {i : Nat} (hn : noKey D i = true) (h : Hold K C D (L.setIfInBounds i true) w) : Hold K C D L w :=
  ⟨h.1, h.2.1, fun q hq hl => h.2.2 q hq (by
    have := List.all_eq_true.1 hn q hq
    have hne : i ≠ q.1 := fun e => by rw [e] at this; simp at this
    rw [getD_set_ne true hne]; exact hl)⟩

theorem selG_mem (π : List Nat) (G : List Chunks) : ∀ p ∈ flat (selG G π), p ∈ flat G := by
  induction π with
  | nil => intro p h; simp [selG, flat] at h
  | cons k r ih =>
    intro p h
    simp only [selG] at h
    split at h
    · rename_i C hC
      simp only [flat] at h
      rcases List.mem_append.1 h with h | h
      · exact nthG_mem hC h
      · exact ih p h
    · exact ih p h

theorem selG_sub {ρ π : List Nat} {G : List Chunks} (h : ρ.all (fun k => memN k π) = true) : ∀ p ∈ flat (selG G ρ), p ∈ flat (selG G π) := by
  have key : ∀ (π : List Nat) k C, memN k π = true → nthG G k = some C → ∀ p ∈ C, p ∈ flat (selG G π) := by
    intro π
    induction π with
    | nil => intro k C hk; simp [memN] at hk
    | cons j r ih =>
      intro k C hk hC p hp
      simp only [selG]
      simp only [memN, Bool.or_eq_true] at hk
      by_cases e : k = j
      · subst e; rw [hC]; exact List.mem_append_left _ hp
      · have : memN k r = true := by
          rcases hk with hk | hk
          · exact absurd (Nat.eq_of_beq_eq_true hk) e
          · exact hk
        split
        · exact List.mem_append_right _ (ih k C this hC p hp)
        · exact ih k C this hC p hp
  induction ρ with
  | nil => intro p h'; simp [selG, flat] at h'
  | cons k r ih =>
    intro p hp
    simp only [List.all_cons, Bool.and_eq_true] at h
    simp only [selG] at hp
    split at hp
    · rename_i C hC
      rcases List.mem_append.1 hp with hp | hp
      · exact key π k C h.1 hC p hp
      · exact ih h.2 p hp
    · exact ih h.2 p hp

theorem Sat.hold (hS : Sat w K (flat G)) (π : List Nat) {D : Held} (hD : ∀ q ∈ D, ∀ p ∈ q.2, p ∈ flat G) (L : Array Bool) : Hold K (flat (selG G π)) D L w :=
  ⟨hS.kept, fun p hp => hS.owned p (selG_mem π G p hp), fun q hq _ p hp => hS.owned p (hD q hq p hp)⟩

/-- what is held, by the groups' numbers -/
def heldG (G : List Chunks) : List (Nat × List Nat) → Held
  | [] => []
  | (j, π) :: r => (j, flat (selG G π)) :: heldG G r

theorem heldG_mem (δ : List (Nat × List Nat)) (G : List Chunks) : ∀ q ∈ heldG G δ, ∀ p ∈ q.2, p ∈ flat G := by
  induction δ with
  | nil => intro q h; cases h
  | cons x r ih =>
    obtain ⟨j, π⟩ := x
    intro q hq p hp
    rcases List.mem_cons.1 hq with rfl | hq
    · exact selG_mem π G p hp
    · exact ih q hq p hp

abbrev Dg (P : Program) (l : List Oper) (Q : Exit → Act → World → Prop) (N : Nat) (K : KM) (C : Chunks) (D : Held) (fuel : Nat) (listed : Array Bool) (σ : Slots) (w : World) : Prop :=
  At N σ fun a => wpAnyP P l Q (Hold K C D) fuel listed a w

theorem d_start [hT : TabC P T] {id : Nat} (π : List Nat) (δ : List (Nat × List Nat)) (hS : Sat w K (flat G)) (next : ∀ w', Sat w' K (flat G) → Dg P l Q N K (flat (selG G π)) (heldG G δ) l.length (Array.replicate l.length false) σ w') :
    At N σ fun a => (Code.region id l.toArray true).wp P Q a w := fun a ha =>
  wp_region_any hT.mixed (wpAny_of_P _ _ _ _ (by
    have := next _ hS.drew a ha
    simpa using this))

/-- a panic's chain does not hang on a slot -/
def PanicOk (Q : Exit → Act → World → Prop) : Prop := ∀ (d : Tmp) v c a w, Q (.panic c) (Act.put a (some d) v) w → Q (.panic c) a w

def okTake (l : List Oper) (listed : Array Bool) (i : Nat) : Bool :=
  Region.noSelect l.toArray && Region.free .any l.toArray listed i && (Region.ready .any l.toArray listed).contains i && (List.range l.length).all fun j => !waitsB l j i || !(listed.getD j true)

variable {fuel : Nat} {listed : Array Bool} {C : Chunks} {δ : List (Nat × List Nat)}

theorem d_take {D : Held} {o : Oper} {v : Value} (i : Nat) (hQ : PanicOk Q) (hi : nthO l i = some o) (ho : o.dst = some d) (hk : okTake l listed i = true) (hd : Nat.blt d N = true) (hn : noKey D i = true) (hS : Hold K C D listed w)
    (hy : ∀ a, Fits N a σ → YieldsIf P l.toArray (Before l (Hold K C D) i) o v a) (next : Dg P l Q N K C D fuel (listed.setIfInBounds i true) ((d, v) :: σ) w) : Dg P l Q N K C D (fuel + 1) listed σ w := fun a ha => by
  unfold okTake at hk
  simp only [Bool.and_eq_true] at hk
  have hi' : l.toArray[i]? = some o := by rw [nthO_eq] at hi; simpa using hi
  refine wpAnyP_first (S := Hold K C D) hi' (Region.noSelect_spec hk.1.1.1) (fun c a w h => hQ d v _ _ _ (by rw [ho] at h; exact h)) (fun L j w h => h.mono) (fun L w h => Hold.ins hn h) fuel listed a w (Region.free_spec hi' hk.1.1.2) (by simpa using hk.1.2) (fun j hj => ?_) (hy a ha) hS ?_
  · have h1 := List.all_eq_true.1 hk.2 j
    by_cases hlt : j < l.length
    · have := h1 (List.mem_range.2 hlt)
      rw [hj] at this
      simpa using this
    · unfold waitsB at hj
      rw [nthO_eq, List.getElem?_eq_none (by omega)] at hj
      cases hj
  · rw [ho]
    exact next _ (ha.put hd v)

/-- what only reckons -/
theorem d_v [hT : TabC P T] {v : Value} (i : Nat) (hQ : PanicOk Q) (π : List Nat) (hS : Sat w K (flat G)) (hi : nthO l i = some ⟨some d, op, ty, pos, af, g⟩) (hv : opv T op σ = some v) (hg : gd l σ g = some true) (hk : okTake l listed i = true) (hd : Nat.blt d N = true) (hn : noKey (heldG G δ) i = true)
    (next : Dg P l Q N K (flat (selG G π)) (heldG G δ) fuel (listed.setIfInBounds i true) ((d, v) :: σ) w) : Dg P l Q N K (flat (selG G π)) (heldG G δ) (fuel + 1) listed σ w :=
  d_take i hQ hi rfl hk hd hn (hS.hold π (heldG_mem δ G) _) (fun a ha => .inl ⟨gd_sound hg ha, fun w _ => opv_sound hv ha _ _ _ _ _ _⟩) next

/-- what isn't wanted -/
theorem d_no (i : Nat) (hQ : PanicOk Q) (π : List Nat) (hS : Sat w K (flat G)) (hi : nthO l i = some ⟨some d, op, ty, pos, af, g⟩) (hg : gd l σ g = some false) (hk : okTake l listed i = true) (hd : Nat.blt d N = true) (hn : noKey (heldG G δ) i = true)
    (next : Dg P l Q N K (flat (selG G π)) (heldG G δ) fuel (listed.setIfInBounds i true) ((d, undef) :: σ) w) : Dg P l Q N K (flat (selG G π)) (heldG G δ) (fuel + 1) listed σ w :=
  d_take i hQ hi rfl hk hd hn (hS.hold π (heldG_mem δ G) _) (fun a ha => .inr ⟨gd_sound (o := ⟨some d, op, ty, pos, af, g⟩) hg ha, rfl⟩) next

theorem ld_cells [hT : TabC P T] {t t' : TypeId} {x : Operand} {b o : Nat} {cs : List Value} {v : Value} {a : Act} (ha : Fits N a σ) (hx : ev σ x = some (.pointer (some ⟨b, o, none⟩))) (hh : w.heap[b]? = some (Cl cs t')) (hv : ldv T t cs o = some v)
    (dd : Option Tmp) : (execOp a.eval ⟨dd, .load t x, ty, pos, af, g⟩).run P w = .ok (.value v) w := by
  simp only [execOp, ha.ev hx, Sem.run_bind]
  have := ld_run (P := P) (cells_of_heap hh) hv
  simp only [Nat.zero_add] at this
  rw [this]; rfl

/-- a load out of an owned block that nobody turns -/
theorem d_ld [hT : TabC P T] {t t' : TypeId} {x : Operand} {b o : Nat} {cs : List Value} {v : Value} (i k : Nat) (hQ : PanicOk Q) (π : List Nat) (hS : Sat w K (flat G)) (hi : nthO l i = some ⟨some d, .load t x, ty, pos, af, g⟩)
    (hx : ev σ x = some (.pointer (some ⟨b, o, none⟩))) (hk : nthG (selG G π) k = some [(b, Cl cs t')]) (hv : ldv T t cs o = some v) (hg : gd l σ g = some true) (hok : okTake l listed i = true) (hd : Nat.blt d N = true) (hn : noKey (heldG G δ) i = true)
    (next : Dg P l Q N K (flat (selG G π)) (heldG G δ) fuel (listed.setIfInBounds i true) ((d, v) :: σ) w) : Dg P l Q N K (flat (selG G π)) (heldG G δ) (fuel + 1) listed σ w :=
  d_take i hQ hi rfl hok hd hn (hS.hold π (heldG_mem δ G) _) (fun a ha => .inl ⟨gd_sound hg ha, fun w1 ⟨_, _, _, h1⟩ => ld_cells ha hx (h1.2.1 _ (nthG_mem hk (List.mem_cons_self ..))) hv _⟩) next

def nthH : Held → Nat → Option (Nat × Chunks)
  | [], _ => none
  | p :: _, 0 => some p
  | _ :: r, n + 1 => nthH r n

theorem nthH_mem {D : Held} {k : Nat} {q : Nat × Chunks} (h : nthH D k = some q) : q ∈ D := by
  induction D generalizing k with
  | nil => cases h
  | cons x r ih => cases k with
    | zero => simp [nthH] at h; subst h; exact List.mem_cons_self ..
    | succ k => exact List.mem_cons_of_mem _ (ih h)

/-- a load out of an owned block that is turned behind it -/
theorem d_ldh [hT : TabC P T] {t t' : TypeId} {x : Operand} {b o j : Nat} {cs : List Value} {v : Value} (i k : Nat) (hQ : PanicOk Q) (π : List Nat) (hS : Sat w K (flat G)) (hi : nthO l i = some ⟨some d, .load t x, ty, pos, af, g⟩)
    (hx : ev σ x = some (.pointer (some ⟨b, o, none⟩))) (hk : nthH (heldG G δ) k = some (j, [(b, Cl cs t')] ++ [])) (hj : waitsB l j i = true) (hv : ldv T t cs o = some v) (hg : gd l σ g = some true) (hok : okTake l listed i = true) (hd : Nat.blt d N = true) (hn : noKey (heldG G δ) i = true)
    (next : Dg P l Q N K (flat (selG G π)) (heldG G δ) fuel (listed.setIfInBounds i true) ((d, v) :: σ) w) : Dg P l Q N K (flat (selG G π)) (heldG G δ) (fuel + 1) listed σ w :=
  d_take i hQ hi rfl hok hd hn (hS.hold π (heldG_mem δ G) _) (fun a ha => .inl ⟨gd_sound hg ha, fun w1 ⟨_, _, h2, h1⟩ => ld_cells ha hx (h1.2.2 _ (nthH_mem hk) (h2 j hj) _ (List.mem_cons_self ..)) hv _⟩) next

theorem KCells.hold {b o : Nat} {cs : List Value} {D : Held} {L : Array Bool} (h : KCells K b o cs) (hS : Hold K C D L w) : Cells w b o cs := by
  obtain ⟨all, t, fr, hk, hc⟩ := h
  intro j v hj
  simp only [World.cell?, hS.1 _ _ hk]
  exact hc j v hj

/-- a load out of what stays as it is -/
theorem d_ldk [hT : TabC P T] {t : TypeId} {x : Operand} {b o : Nat} {cs : List Value} {v : Value} (i k : Nat) (hQ : PanicOk Q) (π : List Nat) (hS : Sat w K (flat G)) (h : KCells K b o cs) (hi : nthO l i = some ⟨some d, .load t x, ty, pos, af, g⟩)
    (hx : ev σ x = some (.pointer (some ⟨b, o + k, none⟩))) (hv : ldv T t cs k = some v) (hg : gd l σ g = some true) (hok : okTake l listed i = true) (hd : Nat.blt d N = true) (hn : noKey (heldG G δ) i = true)
    (next : Dg P l Q N K (flat (selG G π)) (heldG G δ) fuel (listed.setIfInBounds i true) ((d, v) :: σ) w) : Dg P l Q N K (flat (selG G π)) (heldG G δ) (fuel + 1) listed σ w :=
  d_take i hQ hi rfl hok hd hn (hS.hold π (heldG_mem δ G) _) (fun a ha => .inl ⟨gd_sound hg ha, fun w1 ⟨_, _, _, h1⟩ => by
    simp only [execOp, ha.ev hx, Sem.run_bind]
    rw [ld_run (P := P) (h.hold h1) hv]; rfl⟩) next

def onlyReady (l : List Oper) (listed : Array Bool) (i : Nat) : Bool :=
  match Region.ready .any l.toArray listed with
  | [j] => Nat.beq j i
  | _ => false

/-- each that was held is held on, or it was held till this one -/
def subD (i : Nat) : Held → Held → List (Option Nat) → Prop
  | [], _, _ => True
  | q :: D, D', none :: κ => Nat.beq q.1 i = true ∧ subD i D D' κ
  | q :: D, D', some m :: κ => nthH D' m = some q ∧ subD i D D' κ
  | _ :: _, _, [] => False

theorem subD_mem {i : Nat} : ∀ {D D' : Held} {κ : List (Option Nat)}, subD i D D' κ → ∀ q ∈ D, q.1 = i ∨ q ∈ D' := by
  intro D
  induction D with
  | nil => intro D' κ _ q hq; cases hq
  | cons x D ih =>
    intro D' κ h q hq
    cases κ with
    | nil => exact h.elim
    | cons y κ =>
      cases y with
      | none =>
        rcases List.mem_cons.1 hq with rfl | hq
        · exact .inl (Nat.eq_of_beq_eq_true h.1)
        · exact ih h.2 q hq
      | some m =>
        rcases List.mem_cons.1 hq with rfl | hq
        · exact .inr (nthH_mem h.1)
        · exact ih h.2 q hq

/-- a step of one that turns the world -/
structure OpB (P : Program) (l : List Oper) (Q : Exit → Act → World → Prop) (N : Nat) (K : KM) (C : Chunks) (D : Held) (fuel : Nat) (listed : Array Bool) (σ : Slots) (w : World) (i : Nat) (o : Oper) : Prop where
  at_ : nthO l i = some o
  lt : Nat.blt i listed.size = true
  step : ∀ X : Act → World → Prop,
      (∀ σ' w' K' G' ρ π' δ' κ, Sat w' K' (flat G') → KM.le K K' → C = flat (selG G' ρ) → ρ.all (fun k => memN k π') = true → subD i D (heldG G' δ') κ →
        Dg P l Q N K' (flat (selG G' π')) (heldG G' δ') fuel (listed.setIfInBounds i true) σ' w' → At N σ' fun a => X a w') →
      Rg P l (fun e a w => match e with | .normal => X a w | e => Q e a w) N [o] σ w

inductive AllB (P : Program) (l : List Oper) (Q : Exit → Act → World → Prop) (N : Nat) (K : KM) (C : Chunks) (D : Held) (fuel : Nat) (listed : Array Bool) (σ : Slots) (w : World) : List Nat → Prop
  | nil : AllB P l Q N K C D fuel listed σ w []
  | cons {i : Nat} {o : Oper} {r : List Nat} (h : OpB P l Q N K C D fuel listed σ w i o) (hr : AllB P l Q N K C D fuel listed σ w r) : AllB P l Q N K C D fuel listed σ w (i :: r)

theorem AllB.get {D : Held} {is : List Nat} (h : AllB P l Q N K C D fuel listed σ w is) : ∀ k ∈ is, ∃ o, OpB P l Q N K C D fuel listed σ w k o := by
  induction h with
  | nil => intro k hk; cases hk
  | cons h _ ih =>
    intro k hk
    rcases List.mem_cons.1 hk with rfl | hk
    · exact ⟨_, h⟩
    · exact ih k hk

theorem OpB.wp {D : Held} {k : Nat} {o : Oper} (h0 : OpB P l Q N K C D fuel listed σ w k o) {a : Act} (ha : Fits N a σ) :
    wpOp P l.toArray Q k (fun a' w' => Hold K C D (listed.setIfInBounds k true) w' ∧ wpAnyP P l Q (Hold K C D) fuel (listed.setIfInBounds k true) a' w') a w := by
  obtain ⟨hi, hlt, h⟩ := h0
  have hi' : l.toArray[k]? = some o := by rw [nthO_eq] at hi; simpa using hi
  have hlt' : k < listed.size := by simpa using hlt
  have h1 := h (fun a' w' => Hold K C D (listed.setIfInBounds k true) w' ∧ wpAnyP P l Q (Hold K C D) fuel (listed.setIfInBounds k true) a' w') (fun σ' w' K' G' ρ π' δ' κ hS hle hC hρ hκ hD a' ha' => by
    have hsub : ∀ p ∈ C, p ∈ flat (selG G' π') := by rw [hC]; exact selG_sub hρ
    have himp : ∀ L w, ExtL (listed.setIfInBounds k true) L → Hold K' (flat (selG G' π')) (heldG G' δ') L w → Hold K C D L w := fun L w hL h =>
      ⟨fun b x hb => h.1 b x (hle.at_ _ _ hb), fun p hp => h.2.1 p (hsub p hp), fun q hq hl => by
        rcases subD_mem hκ q hq with e | hq'
        · exfalso
          have h3 : (listed.setIfInBounds k true).getD k false = true := by simp [hlt']
          have h4 := hL k h3
          rw [e] at hl
          rcases Nat.lt_or_ge k L.size with h' | h'
          · simp [h'] at h4 hl; rw [h4] at hl; cases hl
          · simp [Array.getElem?_eq_none h'] at h4
        · exact h.2.2 q hq' hl⟩
    exact ⟨himp _ _ (fun _ h => h) (hS.hold π' (heldG_mem δ' G') _), wpAnyP_mono _ _ _ _ himp (hD a' ha')⟩) a ha
  unfold wpList at h1
  unfold wpOp
  rw [hi']
  simp only
  split
  · rename_i hw
    rw [if_pos hw] at h1
    rcases h1 with h1 | ⟨h1, a0, w0, h2⟩
    · refine .inl ?_
      unfold Oper.wp at h1 ⊢
      generalize (execOp a.eval o).run P w = r at h1 ⊢
      cases r with
      | ok n w' =>
        cases n <;> simp only [Oper.upon] at h1 ⊢
        case value u => exact h1
        case skip => exact h1
        case defer d => exact h1
        case enter f args =>
          refine Calls.mono h1 fun e w'' he => ?_
          cases e with
          | returned u => exact he
          | panicked c => exact he
          | outgrown => exact he
        case row row args => exact Rows.mono h1 fun u w'' he => he
      | halt x w' => cases x <;> simp only [Oper.upon] at h1 ⊢ <;> exact h1
    · exact .inr ⟨h1, a0, w0, h2⟩
  · rename_i hw
    rw [if_neg hw] at h1
    exact h1

/-- those that turn the world, in whatever order -/
theorem d_ops {D : Held} (is : List Nat) (hr : (Region.ready .any l.toArray listed == is) = true) (hne : is.isEmpty = false) (h : AllB P l Q N K C D fuel listed σ w is) : Dg P l Q N K C D (fuel + 1) listed σ w := fun a ha => by
  have hr' : Region.ready .any l.toArray listed = is := by simpa using hr
  show (Region.ready .any l.toArray listed = [] → Q .normal a w) ∧ _
  refine ⟨fun h0 => ?_, fun k hk => ?_⟩
  · rw [hr'] at h0; subst h0; cases hne
  · rw [hr'] at hk
    obtain ⟨o, ho⟩ := h.get k hk
    exact ho.wp ha

/-- one that turns the world: it stands alone. Its step is shown as in a region that draws nothing; behind it the walk goes on from K' on, with other groups -/
theorem d_op {D : Held} {o : Oper} (i : Nat) (hi : nthO l i = some o) (hlt : Nat.blt i listed.size = true) (hr : onlyReady l listed i = true)
    (h : ∀ X : Act → World → Prop,
      (∀ σ' w' K' G' ρ π' δ' κ, Sat w' K' (flat G') → KM.le K K' → C = flat (selG G' ρ) → ρ.all (fun k => memN k π') = true → subD i D (heldG G' δ') κ →
        Dg P l Q N K' (flat (selG G' π')) (heldG G' δ') fuel (listed.setIfInBounds i true) σ' w' → At N σ' fun a => X a w') →
      Rg P l (fun e a w => match e with | .normal => X a w | e => Q e a w) N [o] σ w) : Dg P l Q N K C D (fuel + 1) listed σ w := by
  refine d_ops [i] ?_ rfl (.cons ⟨hi, hlt, h⟩ .nil)
  unfold onlyReady at hr
  split at hr
  · rename_i j hj
    rw [hj, Nat.eq_of_beq_eq_true hr]; simp
  · cases hr

theorem wpAnyP_done {S : Array Bool → World → Prop} {a : Act} (hr : Region.ready .any l.toArray listed = []) (h : Q .normal a w) : ∀ fuel, wpAnyP P l Q S fuel listed a w
  | 0 => ⟨hr, h⟩
  | _ + 1 => ⟨fun _ => h, by rw [hr]; simp⟩

theorem d_end {D : Held} (hr : (Region.ready .any l.toArray listed).isEmpty = true) (next : At N σ fun a => Q .normal a w) : Dg P l Q N K C D fuel listed σ w := fun a ha =>
  wpAnyP_done (by simpa using hr) (next a ha) fuel

/-- behind one that turns the world -/
theorem d_go {D : Held} {X : Act → World → Prop} {l' : List Oper} {K' : KM} {Q' : Exit → Act → World → Prop} {i : Nat} (ρ π' : List Nat) (δ' : List (Nat × List Nat)) (κ : List (Option Nat))
    (hX : ∀ σ' w' K' G' ρ π' δ' κ, Sat w' K' (flat G') → KM.le K K' → C = flat (selG G' ρ) → ρ.all (fun k => memN k π') = true → subD i D (heldG G' δ') κ → Dg P l Q N K' (flat (selG G' π')) (heldG G' δ') fuel listed σ' w' → At N σ' fun a => X a w')
    (hS : Sat w K' (flat G)) (hle : KM.le K K') (hC : C = flat (selG G ρ)) (hρ : ρ.all (fun k => memN k π') = true) (hκ : subD i D (heldG G δ') κ) (next : Dg P l Q N K' (flat (selG G π')) (heldG G δ') fuel listed σ w) :
    Rg P l' (fun e a w => match e with | .normal => X a w | e => Q' e a w) N [] σ w := fun a ha => hX σ w K' G ρ π' δ' κ hS hle hC hρ hκ next a ha

end
end Go.Fw
