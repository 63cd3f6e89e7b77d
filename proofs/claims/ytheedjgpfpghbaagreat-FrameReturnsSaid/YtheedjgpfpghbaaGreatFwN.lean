/- A small logic of walks: a text and a row of the call's own, as a datum. -/
import Derived.Test.YtheedjgpfpghbaaGreatFwL
set_option linter.unusedVariables false
set_option linter.unusedSimpArgs false
set_option linter.unusedSectionVars false
namespace Go.Fw
open Go

/-- a text, and a row of the call's own whose elements stay -/
def Dm.named {α : Type} (e : TypeId) [GoData e α] : Dm (ByteArray × List α) where
  size := 2
  rep K x cs C := ∃ a cap, cs = [.string x.1, .slice a x.2.length cap] ∧ OwnS e K (.slice a x.2.length cap) x.2 C
  len := by rintro K x cs C ⟨a, c, rfl, _⟩; rfl
  mono := by rintro K K' x cs C hk ⟨a, c, rfl, h⟩; exact ⟨a, c, rfl, h.mono hk⟩
  one := by rintro K x cs C ⟨a, c, rfl, _⟩; rfl

/-- what was lent comes back, in another order, and a rest is dropped -/
theorem Sat.back {w : World} {K : KM} {G : List Chunks} {A B C D E : Chunks} {x : Nat × Obj} (h : Sat w K (flat (A :: B :: C :: G))) (hp : (A ++ (B ++ C)).Perm (x :: (D ++ E))) : Sat w K (flat ([x] :: D :: G)) := by
  have h1 : Sat w K (flat (E :: [x] :: D :: G)) := by
    refine h.perm ?_
    show (A ++ (B ++ (C ++ flat G))).Perm (E ++ ([x] ++ (D ++ flat G)))
    rw [show A ++ (B ++ (C ++ flat G)) = (A ++ (B ++ C)) ++ flat G by simp, show E ++ ([x] ++ (D ++ flat G)) = (E ++ (x :: D)) ++ flat G by simp]
    exact (hp.trans (show (x :: D ++ E).Perm (E ++ (x :: D)) from List.perm_append_comm)).append_right _
  exact h1.drop1

section
variable {P : Program} {N : Nat} {σ : Slots} {w : World} {l : List Oper} {Q : Exit → Act → World → Prop} {K : KM} {G : List Chunks} {fuel : Nat} {listed : Array Bool}

theorem selG_mem_of {π : List Nat} {k : Nat} {C : Chunks} (hk : memN k π = true) (hC : nthG G k = some C) : ∀ p ∈ C, p ∈ flat (selG G π) := by
  induction π with
  | nil => simp [memN] at hk
  | cons j r ih =>
    intro p hp
    simp only [selG]
    simp only [memN, Bool.or_eq_true] at hk
    by_cases e : k = j
    · subst e; rw [hC]; exact List.mem_append_left _ hp
    · have : memN k r = true := by
        rcases hk with hk | hk
        · exact absurd (Nat.eq_of_beq_eq_true hk) e
        · exact hk
      split
      · exact List.mem_append_right _ (ih this p hp)
      · exact ih this p hp

/-- one waits for the other, through others -/
def chainB (l : List Oper) : Nat → Nat → Nat → Bool
  | 0, _, _ => false
  | m + 1, j, i => waitsB l j i || (List.range l.length).any fun k => waitsB l j k && chainB l m k i

/-- who is listed, those are listed that it waits for -/
def Closed (l : List Oper) (L : Array Bool) : Prop := L.size = l.length ∧ ∀ j i, L.getD j false = true → waitsB l j i = true → L.getD i false = true

def closedB (l : List Oper) (L : Array Bool) : Bool := Nat.beq L.size l.length && (List.range l.length).all fun j => !(L.getD j false) || (List.range l.length).all fun i => !waitsB l j i || L.getD i false

theorem waits_lt {j i : Nat} (h : waitsB l j i = true) : j < l.length := by
  unfold waitsB at h
  rw [nthO_eq] at h
  rcases Nat.lt_or_ge j l.length with h' | h'
  · exact h'
  · rw [List.getElem?_eq_none h'] at h; cases h

theorem closedB_spec {L : Array Bool} (h : closedB l L = true) (hw : ∀ j i, waitsB l j i = true → i < l.length) : Closed l L := by
  simp only [closedB, Bool.and_eq_true] at h
  refine ⟨Nat.eq_of_beq_eq_true h.1, fun j i hj hji => ?_⟩
  have h1 := List.all_eq_true.1 h.2 j (List.mem_range.2 (waits_lt hji))
  rw [hj, Bool.not_true, Bool.false_or] at h1
  have h2 := List.all_eq_true.1 h1 i (List.mem_range.2 (hw j i hji))
  rw [hji, Bool.not_true, Bool.false_or] at h2
  exact h2

theorem Closed.step {L : Array Bool} {i : Nat} (h : Closed l L) (hi : i ∈ Region.ready .any l.toArray L) : Closed l (L.setIfInBounds i true) := by
  refine ⟨by simpa using h.1, fun j k hj hjk => ?_⟩
  by_cases e : i = j
  · subst e
    obtain ⟨_, oj, hoj, hall⟩ := mem_ready.1 hi
    unfold waitsB at hjk
    rw [nthO_eq, show l[i]? = some oj by simpa using hoj] at hjk
    obtain ⟨e, he, hb⟩ := Array.any_eq_true'.1 hjk
    simp only [Bool.and_eq_true, beq_iff_eq] at hb
    have := hall e he hb.1
    rw [hb.2] at this
    exact getD_set_true (by simpa using this)
  · rw [getD_set_ne false e] at hj
    exact getD_set_true (h.2 j k hj hjk)

theorem wpAnyP_monoC {S S' : Array Bool → World → Prop} : ∀ (fuel : Nat) (listed : Array Bool) (a : Act) (w : World), Closed l listed → (∀ L w, Closed l L → S' L w → S L w) →
    wpAnyP P l Q S' fuel listed a w → wpAnyP P l Q S fuel listed a w
  | 0, _, _, _, _, _, h => h
  | fuel + 1, listed, _, _, hc, hs, h => ⟨h.1, fun i hi => wpOp_mono (fun a' w' h' => ⟨hs _ _ (hc.step hi) h'.1, wpAnyP_monoC fuel _ a' w' (hc.step hi) hs h'.2⟩) (h.2 i hi)⟩

theorem Closed.chain {L : Array Bool} (h : Closed l L) : ∀ (m j i : Nat), chainB l m j i = true → L.getD j false = true → L.getD i false = true := by
  intro m
  induction m with
  | zero => intro j i hc; cases hc
  | succ m ih =>
    intro j i hc hj
    simp only [chainB, Bool.or_eq_true] at hc
    rcases hc with hc | hc
    · exact h.2 j i hj hc
    · obtain ⟨k, _, hk⟩ := List.any_eq_true.1 hc
      simp only [Bool.and_eq_true] at hk
      exact ih k i hk.2 (h.2 j k hj hk.1)

def holdB (l : List Oper) (π' : List Nat) (δ' : List (Nat × List Nat)) : List (Nat × List Nat) → Bool
  | [] => true
  | (j, ρ) :: r => (ρ.all (fun k => memN k π') || δ'.any fun q => (Nat.beq j q.1 || Nat.blt q.1 l.length && chainB l l.length q.1 j) && decide (ρ = q.2)) && holdB l π' δ' r

theorem heldG_mem_of {δ' : List (Nat × List Nat)} {j : Nat} {ρ : List Nat} (h : (j, ρ) ∈ δ') : (j, flat (selG G ρ)) ∈ heldG G δ' := by
  induction δ' with
  | nil => cases h
  | cons x r ih =>
    rcases List.mem_cons.1 h with e | h
    · subst e; exact List.mem_cons_self ..
    · exact List.mem_cons_of_mem _ (ih h)

/-- groups that were held till an operation comes up stand as they are till another one does, for it won't turn them -/
theorem d_hold {π : List Nat} {δ : List (Nat × List Nat)} (π' : List Nat) (δ' : List (Nat × List Nat)) (h : (π.all (fun k => memN k π') && holdB l π' δ' δ) = true) (hw : (List.range l.length).all (fun j => match nthO l j with | some o => o.after.all (fun e => Nat.blt e.on l.length) | none => true) = true) (hc : closedB l listed = true)
    (next : Dg P l Q N K (flat (selG G π')) (heldG G δ') fuel listed σ w) : Dg P l Q N K (flat (selG G π)) (heldG G δ) fuel listed σ w := fun a ha => by
  simp only [Bool.and_eq_true] at h
  have hw' : ∀ j i, waitsB l j i = true → i < l.length := fun j i hji => by
    have h1 := List.all_eq_true.1 hw j (List.mem_range.2 (waits_lt hji))
    unfold waitsB at hji
    split at hji
    · rename_i o ho
      rw [ho] at h1
      obtain ⟨e, he, hb⟩ := Array.any_eq_true'.1 hji
      simp only [Bool.and_eq_true, beq_iff_eq] at hb
      have := Array.all_eq_true'.1 h1 e he
      rw [hb.2] at this
      simpa using this
    · cases hji
  refine wpAnyP_monoC fuel listed a w (closedB_spec hc hw') (fun L w hL hS => ⟨hS.1, fun p hp => hS.2.1 p (selG_sub h.1 p hp), ?_⟩) (next a ha)
  have h2 := h.2
  clear h next
  induction δ with
  | nil => intro q hq; cases hq
  | cons x r ih =>
    obtain ⟨j, ρ⟩ := x
    simp only [holdB, Bool.and_eq_true, Bool.or_eq_true] at h2
    intro q hq hl p hp
    rcases List.mem_cons.1 hq with rfl | hq
    · rcases h2.1 with h3 | h3
      · exact hS.2.1 p (selG_sub h3 p hp)
      · obtain ⟨y, hy, he⟩ := List.any_eq_true.1 h3
        simp only [Bool.and_eq_true, Bool.or_eq_true, decide_eq_true_eq] at he
        obtain ⟨y1, y2⟩ := y
        simp only at he
        obtain ⟨he1, rfl⟩ := he
        refine hS.2.2 _ (heldG_mem_of hy) ?_ p hp
        rcases he1 with he1 | he1
        · have e1 := Nat.eq_of_beq_eq_true he1
          subst e1; exact hl
        · have hlt : y1 < l.length := by simpa using he1.1
          simp only
          cases hv : L.getD y1 true with
          | false => rfl
          | true =>
            have hsz : y1 < L.size := by rw [hL.1]; exact hlt
            have : L.getD y1 false = true := by simp [hsz] at hv ⊢; exact hv
            have h4 := hL.chain _ _ _ he1.2 this
            simp only at hl
            have h5 : L.getD j true = true := by
              rcases Nat.lt_or_ge j L.size with h' | h'
              · simp [h'] at h4 ⊢; exact h4
              · simp [Array.getElem?_eq_none h']
            rw [h5] at hl; cases hl
    · exact ih h2.2 q hq hl p hp
end

end Go.Fw
