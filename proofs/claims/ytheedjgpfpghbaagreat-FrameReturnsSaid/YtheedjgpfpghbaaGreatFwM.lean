/- A small logic of walks: rows of the call's own whose elements own rows. -/
import Derived.Test.YtheedjgpfpghbaaGreatFwK
set_option linter.unusedVariables false
set_option linter.unusedSimpArgs false
set_option linter.unusedSectionVars false
namespace Go.Fw
open Go

theorem bs {α β : Type} {x : Option α} {f : α → Option β} {r : β} (h : x.bind f = some r) : ∃ v, x = some v ∧ f v = some r := Option.bind_eq_some_iff.1 h
theorem gs {α : Type} {b : Bool} {x : Option α} {r : α} (h : guardB b x = some r) : b = true ∧ x = some r := guardB_some h

theorem Sat.unnil {w : World} {K : KM} {G : List Chunks} (h : Sat w K (flat ([] :: G))) : Sat w K (flat G) := h
theorem Sat.shut0 {w : World} {K : KM} {G : List Chunks} (h : Sat w K (flat (G))) : Sat w K (flat (flat [] :: G)) := Sat.shut [] h
theorem Sat.shut1 {w : World} {K : KM} {G : List Chunks} {C0 : Chunks} (h : Sat w K (flat (C0 :: G))) : Sat w K (flat (flat [C0] :: G)) := Sat.shut [C0] h
theorem Sat.shut2 {w : World} {K : KM} {G : List Chunks} {C0 C1 : Chunks} (h : Sat w K (flat (C0 :: C1 :: G))) : Sat w K (flat (flat [C0, C1] :: G)) := Sat.shut [C0, C1] h
theorem Sat.shut3 {w : World} {K : KM} {G : List Chunks} {C0 C1 C2 : Chunks} (h : Sat w K (flat (C0 :: C1 :: C2 :: G))) : Sat w K (flat (flat [C0, C1, C2] :: G)) := Sat.shut [C0, C1, C2] h
theorem Sat.shut4 {w : World} {K : KM} {G : List Chunks} {C0 C1 C2 C3 : Chunks} (h : Sat w K (flat (C0 :: C1 :: C2 :: C3 :: G))) : Sat w K (flat (flat [C0, C1, C2, C3] :: G)) := Sat.shut [C0, C1, C2, C3] h
theorem Sat.shut5 {w : World} {K : KM} {G : List Chunks} {C0 C1 C2 C3 C4 : Chunks} (h : Sat w K (flat (C0 :: C1 :: C2 :: C3 :: C4 :: G))) : Sat w K (flat (flat [C0, C1, C2, C3, C4] :: G)) := Sat.shut [C0, C1, C2, C3, C4] h
theorem Sat.shut6 {w : World} {K : KM} {G : List Chunks} {C0 C1 C2 C3 C4 C5 : Chunks} (h : Sat w K (flat (C0 :: C1 :: C2 :: C3 :: C4 :: C5 :: G))) : Sat w K (flat (flat [C0, C1, C2, C3, C4, C5] :: G)) := Sat.shut [C0, C1, C2, C3, C4, C5] h
theorem Sat.shut7 {w : World} {K : KM} {G : List Chunks} {C0 C1 C2 C3 C4 C5 C6 : Chunks} (h : Sat w K (flat (C0 :: C1 :: C2 :: C3 :: C4 :: C5 :: C6 :: G))) : Sat w K (flat (flat [C0, C1, C2, C3, C4, C5, C6] :: G)) := Sat.shut [C0, C1, C2, C3, C4, C5, C6] h
theorem Sat.shut8 {w : World} {K : KM} {G : List Chunks} {C0 C1 C2 C3 C4 C5 C6 C7 : Chunks} (h : Sat w K (flat (C0 :: C1 :: C2 :: C3 :: C4 :: C5 :: C6 :: C7 :: G))) : Sat w K (flat (flat [C0, C1, C2, C3, C4, C5, C6, C7] :: G)) := Sat.shut [C0, C1, C2, C3, C4, C5, C6, C7] h
theorem Sat.shut9 {w : World} {K : KM} {G : List Chunks} {C0 C1 C2 C3 C4 C5 C6 C7 C8 : Chunks} (h : Sat w K (flat (C0 :: C1 :: C2 :: C3 :: C4 :: C5 :: C6 :: C7 :: C8 :: G))) : Sat w K (flat (flat [C0, C1, C2, C3, C4, C5, C6, C7, C8] :: G)) := Sat.shut [C0, C1, C2, C3, C4, C5, C6, C7, C8] h
theorem Sat.shut10 {w : World} {K : KM} {G : List Chunks} {C0 C1 C2 C3 C4 C5 C6 C7 C8 C9 : Chunks} (h : Sat w K (flat (C0 :: C1 :: C2 :: C3 :: C4 :: C5 :: C6 :: C7 :: C8 :: C9 :: G))) : Sat w K (flat (flat [C0, C1, C2, C3, C4, C5, C6, C7, C8, C9] :: G)) := Sat.shut [C0, C1, C2, C3, C4, C5, C6, C7, C8, C9] h
theorem Sat.open9 {w : World} {K : KM} {G : List Chunks} {C0 C1 C2 C3 C4 C5 C6 C7 C8 : Chunks} (h : Sat w K (flat (flat [C0, C1, C2, C3, C4, C5, C6, C7, C8] :: G))) : Sat w K (flat (C0 :: C1 :: C2 :: C3 :: C4 :: C5 :: C6 :: C7 :: C8 :: G)) := h.open
theorem Sat.open10 {w : World} {K : KM} {G : List Chunks} {C0 C1 C2 C3 C4 C5 C6 C7 C8 C9 : Chunks} (h : Sat w K (flat (flat [C0, C1, C2, C3, C4, C5, C6, C7, C8, C9] :: G))) : Sat w K (flat (C0 :: C1 :: C2 :: C3 :: C4 :: C5 :: C6 :: C7 :: C8 :: C9 :: G)) := h.open
theorem Sat.open11 {w : World} {K : KM} {G : List Chunks} {C0 C1 C2 C3 C4 C5 C6 C7 C8 C9 C10 : Chunks} (h : Sat w K (flat (flat [C0, C1, C2, C3, C4, C5, C6, C7, C8, C9, C10] :: G))) : Sat w K (flat (C0 :: C1 :: C2 :: C3 :: C4 :: C5 :: C6 :: C7 :: C8 :: C9 :: C10 :: G)) := h.open
theorem Sat.open12 {w : World} {K : KM} {G : List Chunks} {C0 C1 C2 C3 C4 C5 C6 C7 C8 C9 C10 C11 : Chunks} (h : Sat w K (flat (flat [C0, C1, C2, C3, C4, C5, C6, C7, C8, C9, C10, C11] :: G))) : Sat w K (flat (C0 :: C1 :: C2 :: C3 :: C4 :: C5 :: C6 :: C7 :: C8 :: C9 :: C10 :: C11 :: G)) := h.open

/-- how a datum lies in cells, and what it owns -/
structure Dm (α : Type) where
  size : Nat
  rep : KM → α → List Value → Chunks → Prop
  len : ∀ {K x cs C}, rep K x cs C → cs.length = size
  mono : ∀ {K K' x cs C}, KM.le K K' → rep K x cs C → rep K' x cs C
  one : ∀ {K x cs C}, rep K x cs C → cs.all (·.oneCell') = true

def CatD {α : Type} (D : Dm α) (K : KM) : List α → List Value → Chunks → Prop
  | [], l, C => l = [] ∧ C = []
  | x :: xs, l, C => ∃ a b A B, l = a ++ b ∧ C = A ++ B ∧ D.rep K x a A ∧ CatD D K xs b B

section
variable {α : Type} {D : Dm α} {K K' : KM}

theorem CatD.len {xs : List α} {l : List Value} {C : Chunks} (h : CatD D K xs l C) : l.length = xs.length * D.size := by
  induction xs generalizing l C with
  | nil => simp [h.1]
  | cons x xs ih =>
    obtain ⟨a, b, A, B, rfl, rfl, h1, h2⟩ := h
    rw [List.length_append, D.len h1, ih h2, List.length_cons, Nat.add_mul]; omega

theorem CatD.mono {xs : List α} {l : List Value} {C : Chunks} (h : CatD D K xs l C) (hk : KM.le K K') : CatD D K' xs l C := by
  induction xs generalizing l C with
  | nil => exact h
  | cons x xs ih =>
    obtain ⟨a, b, A, B, rfl, rfl, h1, h2⟩ := h
    exact ⟨a, b, A, B, rfl, rfl, D.mono hk h1, ih h2⟩

theorem CatD.one {xs : List α} {l : List Value} {C : Chunks} (h : CatD D K xs l C) : l.all (·.oneCell') = true := by
  induction xs generalizing l C with
  | nil => simp [h.1]
  | cons x xs ih =>
    obtain ⟨a, b, A, B, rfl, rfl, h1, h2⟩ := h
    rw [List.all_append, D.one h1, ih h2]; rfl

theorem CatD.append {xs ys : List α} {l m : List Value} {A B : Chunks} (h : CatD D K xs l A) (h' : CatD D K ys m B) : CatD D K (xs ++ ys) (l ++ m) (A ++ B) := by
  induction xs generalizing l A with
  | nil => obtain ⟨rfl, rfl⟩ := h; exact h'
  | cons x xs ih =>
    obtain ⟨a, b, A, B, rfl, rfl, h1, h2⟩ := h
    exact ⟨a, b ++ m, A, _, by simp, by simp, h1, ih h2⟩

theorem CatD.at {xs : List α} {l : List Value} {C : Chunks} (h : CatD D K xs l C) {i : Nat} {x : α} (hi : xs[i]? = some x) :
    ∃ l1 cs l2 A Ce B, l = l1 ++ (cs ++ l2) ∧ C = A ++ (Ce ++ B) ∧ l1.length = i * D.size ∧ D.rep K x cs Ce ∧ CatD D K (xs.take i) l1 A ∧ CatD D K (xs.drop (i + 1)) l2 B := by
  induction xs generalizing l C i with
  | nil => simp at hi
  | cons y xs ih =>
    obtain ⟨a, b, A, B, rfl, rfl, h1, h2⟩ := h
    cases i with
    | zero =>
      simp at hi; subst hi
      exact ⟨[], a, b, [], A, B, by simp, by simp, by simp, h1, ⟨rfl, rfl⟩, h2⟩
    | succ i =>
      obtain ⟨l1, cs, l2, A', Ce, B', rfl, rfl, hl, hc, ht, hd⟩ := ih h2 (by simpa using hi)
      refine ⟨a ++ l1, cs, l2, A ++ A', Ce, B', by simp, by simp, ?_, hc, ⟨a, l1, A, A', rfl, rfl, h1, ht⟩, by simpa using hd⟩
      rw [List.length_append, D.len h1, hl, Nat.add_mul]; omega

theorem CatD.put {xs : List α} {l1 cs' l2 : List Value} {A Ce B : Chunks} {i : Nat} {x x' : α} (hi : xs[i]? = some x) (h1 : CatD D K (xs.take i) l1 A) (h2 : CatD D K (xs.drop (i + 1)) l2 B) (hc : D.rep K x' cs' Ce) :
    CatD D K (xs.set i x') (l1 ++ (cs' ++ l2)) (A ++ (Ce ++ B)) := by
  have hlt : i < xs.length := (List.getElem?_eq_some_iff.1 hi).1
  rw [List.set_eq_take_append_cons_drop, if_pos hlt]
  exact h1.append ⟨cs', l2, Ce, B, rfl, rfl, hc, h2⟩

theorem CatD.zeros {z : α} {zc : List Value} (hz : D.rep K z zc []) : ∀ n, CatD D K (List.replicate n z) (List.replicate n zc).flatten []
  | 0 => ⟨rfl, rfl⟩
  | n + 1 => ⟨_, _, [], [], rfl, rfl, hz, CatD.zeros hz n⟩

/-- a slice of the call's own whose elements own rows -/
def OwnD (e : TypeId) {α : Type} (D : Dm α) (K : KM) (v : Value) (xs : List α) (C : Chunks) : Prop :=
  ∃ l A B, OwnR e D.size v xs.length l A ∧ CatD D K xs l B ∧ C.Perm (A ++ B)

theorem OwnD.nil {e : TypeId} : OwnD e D K (.slice none 0 0) [] [] := ⟨[], [], [], OwnR.nil _ _, ⟨rfl, rfl⟩, .refl _⟩

theorem OwnD.mono {e : TypeId} {v : Value} {xs : List α} {C : Chunks} (h : OwnD e D K v xs C) (hk : KM.le K K') : OwnD e D K' v xs C := by
  obtain ⟨l, A, B, h1, h2, h3⟩ := h
  exact ⟨l, A, B, h1, h2.mono hk, h3⟩

theorem OwnD.val {e : TypeId} {v : Value} {xs : List α} {C : Chunks} (h : OwnD e D K v xs C) : ∃ a cap, v = .slice a xs.length cap := by
  obtain ⟨l, A, B, h1, h2, h3⟩ := h
  rcases h1 with ⟨rfl, hn, _⟩ | ⟨b, cap, r, rfl, _⟩
  · exact ⟨none, 0, by rw [hn]⟩
  · exact ⟨_, _, rfl⟩

theorem OwnD.len {e : TypeId} {a : Option Addr} {n cap : Nat} {xs : List α} {C : Chunks} (h : OwnD e D K (.slice a n cap) xs C) : xs.length = n := by
  obtain ⟨a1, c1, ev⟩ := h.val
  cases ev; rfl

theorem OwnD.norm {e : TypeId} {a : Option Addr} {n cap : Nat} {xs : List α} {C : Chunks} (h : OwnD e D K (.slice a n cap) xs C) : OwnD e D K (.slice a xs.length cap) xs C := by
  have e1 := h.len
  subst e1; exact h

/-- a row of the call's own as a datum that owns -/
def Dm.row (e : TypeId) (D : Dm α) : Dm (List α) where
  size := 1
  rep K xs cs C := ∃ a cap, cs = [.slice a xs.length cap] ∧ OwnD e D K (.slice a xs.length cap) xs C
  len := by rintro K x cs C ⟨a, c, rfl, _⟩; rfl
  mono := by rintro K K' x cs C hk ⟨a, c, rfl, h⟩; exact ⟨a, c, rfl, h.mono hk⟩
  one := by rintro K x cs C ⟨a, c, rfl, _⟩; rfl

/-- a row of the call's own whose elements stay, as a datum that owns -/
def Dm.flat (e : TypeId) [GoData e α] : Dm (List α) where
  size := 1
  rep K xs cs C := ∃ a cap, cs = [.slice a xs.length cap] ∧ OwnS e K (.slice a xs.length cap) xs C
  len := by rintro K x cs C ⟨a, c, rfl, _⟩; rfl
  mono := by rintro K K' x cs C hk ⟨a, c, rfl, h⟩; exact ⟨a, c, rfl, h.mono hk⟩
  one := by rintro K x cs C ⟨a, c, rfl, _⟩; rfl

/-- data that may be given away for good -/
class DmF (e : TypeId) {α : Type} [GoData e α] (D : Dm α) : Prop where
  size : D.size = GoData.size e α
  frz : ∀ {K : KM} {x : α} {cs : List Value} {C : Chunks} {w : World} {G : List Chunks}, D.rep K x cs C → Sat w K (Fw.flat (C :: G)) → ∃ K', KM.le K K' ∧ GoData.cells e K' x cs ∧ Sat w K' (Fw.flat G)

theorem CatD.freeze {e : TypeId} [GoData e α] [hF : DmF e D] {w : World} : ∀ {xs : List α} {l : List Value} {C : Chunks} {K : KM} {G : List Chunks}, CatD D K xs l C → Sat w K (Fw.flat (C :: G)) → ∃ K', KM.le K K' ∧ Cat e K' xs l ∧ Sat w K' (Fw.flat G) := by
  intro xs
  induction xs with
  | nil => rintro l C K G ⟨rfl, rfl⟩ hS; exact ⟨K, .refl K, rfl, hS⟩
  | cons x xs ih =>
    rintro l C K G ⟨a, b, A, B, rfl, rfl, h1, h2⟩ hS
    have hS1 : Sat w K (Fw.flat (A :: B :: G)) := by simpa [Fw.flat] using hS
    obtain ⟨K1, hk1, hc, hS2⟩ := hF.frz h1 hS1
    obtain ⟨K2, hk2, hc2, hS3⟩ := ih (h2.mono hk1) hS2
    exact ⟨K2, hk1.trans hk2, ⟨a, b, rfl, GoData.mono hk2 hc, hc2⟩, hS3⟩

theorem OwnD.freeze {e : TypeId} [GoData e α] [hF : DmF e D] {w : World} {a : Option Addr} {cap n : Nat} {xs : List α} {C : Chunks} {G : List Chunks} (h : OwnD e D K (.slice a n cap) xs C) (hS : Sat w K (Fw.flat (C :: G))) :
    ∃ K', KM.le K K' ∧ SlK e K' a cap xs ∧ Sat w K' (Fw.flat G) := by
  obtain ⟨l, A, B, h1, h2, h3⟩ := h
  have hS1 : Sat w K (Fw.flat (B :: A :: G)) := by
    refine hS.perm ?_
    show (C ++ Fw.flat G).Perm (B ++ (A ++ Fw.flat G))
    rw [← List.append_assoc]
    exact (h3.trans List.perm_append_comm).append_right _
  obtain ⟨K1, hk1, hc, hS2⟩ := CatD.freeze (e := e) h2 hS1
  obtain ⟨K2, hk2, ⟨a', c', e', hs⟩, hS3⟩ := OwnR.freeze (by rw [← hF.size]; exact h1) hc hS2
  cases e'
  exact ⟨K2, hk1.trans hk2, hs, hS3⟩

theorem Dm.flat_frz {f : TypeId} {β : Type} [GoData f β] {K : KM} {x : List β} {cs : List Value} {C : Chunks} {w : World} {G : List Chunks} (h : (Dm.flat f : Dm (List β)).rep K x cs C) (hS : Sat w K (Fw.flat (C :: G))) :
    ∃ K', KM.le K K' ∧ (∃ a c, cs = [.slice a x.length c] ∧ SlK f K' a c x) ∧ Sat w K' (Fw.flat G) := by
  obtain ⟨a, c, rfl, h⟩ := h
  obtain ⟨K', hk, hs, hS'⟩ := h.freeze hS
  exact ⟨K', hk, ⟨a, c, rfl, hs⟩, hS'⟩

end

section
variable {P : Program} {T : Tab} {N : Nat} {σ : Slots} {w : World} {l : List Oper} {Q : Exit → Act → World → Prop} {rest : List Oper} {g : Option (Nat × Bool)}
  {ty : TypeId} {pos : String} {af : Array Edge} {op : Op} {d : Tmp} {K : KM} {L : Chunks} {G : List Chunks} {e : TypeId} {α : Type} {D : Dm α}

/-- one element of such a row comes forward, and what it owns -/
theorem ix_own {a : Option Addr} {cap n : Nat} {xs : List α} {C : Chunks} {z : Int} {u : α} (hS : Sat w K (flat (C :: G))) (h : OwnD e D K (.slice a n cap) xs C) (hu : idx xs z = some u) :
    ∃ b l1 cs l2 Ce Cr, D.rep K u cs Ce ∧ a = some ⟨b, 0, none⟩ ∧ z.toNat * D.size = l1.length ∧ (0 ≤ z ∧ z < n) ∧ Sat w K (flat ([(b, Cl (l1 ++ (cs ++ l2)) e)] :: Ce :: Cr :: G)) ∧
      (∀ K' u' cs' Ce', KM.le K K' → D.rep K' u' cs' Ce' → OwnD e D K' (.slice a n cap) (xs.set z.toNat u') ([(b, Cl (l1 ++ (cs' ++ l2)) e)] ++ (Ce' ++ Cr))) := by
  obtain ⟨a1, c1, ev⟩ := h.val
  cases ev
  obtain ⟨h0, h1, h2⟩ := idx_lt hu
  obtain ⟨l0, A, B, ho, hcat, hp⟩ := h
  rcases ho with ⟨_, hn, _⟩ | ⟨b, cap', r, hv, hC, hnc, hcm, hlen, htot⟩
  · omega
  · cases hv
    obtain ⟨l1, cs, l2, A', Ce, B', rfl, rfl, hl, hcs, ht1, hd1⟩ := hcat.at h2
    refine ⟨b, l1, cs, l2 ++ r, Ce, A' ++ B', hcs, rfl, hl.symm, ⟨h0, h1⟩, ?_, ?_⟩
    · refine hS.perm ?_
      subst hC
      show (C ++ flat G).Perm ([(b, Cl (l1 ++ (cs ++ (l2 ++ r))) e)] ++ (Ce ++ ((A' ++ B') ++ flat G)))
      rw [← List.append_assoc, ← List.append_assoc]
      refine List.Perm.append_right _ (hp.trans ?_)
      rw [show l1 ++ (cs ++ l2) ++ r = l1 ++ (cs ++ (l2 ++ r)) by simp, List.append_assoc]
      exact List.Perm.append_left _ ((List.perm_append_comm_assoc A' Ce B'))
    · intro K' u' cs' Ce' hk hc'
      have hput := CatD.put (K := K') h2 (ht1.mono hk) (hd1.mono hk) hc'
      refine ⟨l1 ++ (cs' ++ l2), [(b, Cl (l1 ++ (cs' ++ (l2 ++ r))) e)], A' ++ (Ce' ++ B'), .inr ⟨b, cap, r, by simp, by simp, by simpa using hnc, hcm, by rw [hput.len], ?_⟩, hput, ?_⟩
      · have e1 := D.len hcs
        have e2 := D.len hc'
        simp only [List.length_append] at htot ⊢
        omega
      · exact List.Perm.append_left _ (List.perm_append_comm_assoc Ce' A' B')

theorem s_ixx [hT : TabC P T] {t : TypeId} {i : TI} {x y : Operand} {a : Option Addr} {cap n : Nat} {xs : List α} {C : Chunks} {k : IntKind} {z : Int} {u : α} (hS : Sat w K (flat (C :: G))) (h : OwnD e D K (.slice a n cap) xs C)
    (hu : idx xs z = some u) (ht : tk T t = some i) (hd : i.kind = .slice e)
    (hsz : i.esize = D.size) (hx : ev σ x = some (.slice a n cap)) (hy : ev σ y = some (.int k z)) (hg : gd l σ g = some true) (hdN : Nat.blt d N = true)
    (next : ∀ b l1 cs l2 Ce Cr, D.rep K u cs Ce → Sat w K (flat ([(b, Cl (l1 ++ (cs ++ l2)) e)] :: Ce :: Cr :: G)) →
      (∀ K' u' cs' Ce', KM.le K K' → D.rep K' u' cs' Ce' → OwnD e D K' (.slice a n cap) (xs.set z.toNat u') ([(b, Cl (l1 ++ (cs' ++ l2)) e)] ++ (Ce' ++ Cr))) →
      Rg P l Q N rest ((d, .pointer (some ⟨b, l1.length, none⟩)) :: σ) w) :
    Rg P l Q N (⟨some d, .indexAddr t x y, ty, pos, af, g⟩ :: rest) σ w := by
  obtain ⟨b, l1, cs, l2, Ce, Cr, h1, rfl, h3, h4, h5, h6⟩ := ix_own hS h hu
  refine rg_value rfl hg hdN (fun a' ha => ?_) (next b l1 cs l2 Ce Cr h1 h5 h6)
  simp only [execOp, ha.ev hx, ha.ev hy, Sem.run_bind]
  rw [ix_run ht hd h4.1 h4.2, add_addr, hsz, h3]
  simp

/-- where the place of an element is that came forward -/
structure FocAt (a : Option Addr) (n : Nat) (b : Nat) (m : Nat) (z : Int) (s : Nat) : Prop where
  ad : a = some ⟨b, 0, none⟩
  off : z.toNat * s = m
  lo : 0 ≤ z
  hi : z < n

theorem ix_foc {a : Option Addr} {cap n : Nat} {xs : List α} {C : Chunks} {z : Int} {u : α} (hS : Sat w K (flat (C :: G))) (h : OwnD e D K (.slice a n cap) xs C) (hu : idx xs z = some u) :
    ∃ b l1 cs l2 Ce Cr, D.rep K u cs Ce ∧ FocAt a n b l1.length z D.size ∧ Sat w K (flat ([(b, Cl (l1 ++ (cs ++ l2)) e)] :: Ce :: Cr :: G)) ∧
      (∀ K' u' cs' Ce', KM.le K K' → D.rep K' u' cs' Ce' → OwnD e D K' (.slice a n cap) (xs.set z.toNat u') ([(b, Cl (l1 ++ (cs' ++ l2)) e)] ++ (Ce' ++ Cr))) := by
  obtain ⟨b, l1, cs, l2, Ce, Cr, h1, h2, h3, h4, h5, h6⟩ := ix_own hS h hu
  exact ⟨b, l1, cs, l2, Ce, Cr, h1, ⟨h2, h3, h4.1, h4.2⟩, h5, h6⟩

theorem foc_run [hT : TabC P T] {t : TypeId} {i : TI} {x y : Operand} {a : Option Addr} {cap n b m : Nat} {k : IntKind} {z : Int} {s : Nat} (hf : FocAt a n b m z s) (ht : tk T t = some i) (hd : i.kind = .slice e) (hsz : i.esize = s)
    (hx : ev σ x = some (.slice a n cap)) (hy : ev σ y = some (.int k z)) {a' : Act} (ha : Fits N a' σ) (dd : Option Tmp) (w : World) : (execOp a'.eval ⟨dd, .indexAddr t x y, ty, pos, af, g⟩).run P w = .ok (.value (.pointer (some ⟨b, m, none⟩))) w := by
  obtain ⟨rfl, h2, h3, h4⟩ := hf
  simp only [execOp, ha.ev hx, ha.ev hy, Sem.run_bind]
  rw [ix_run ht hd h3 h4, add_addr, hsz, h2]
  simp

theorem s_ixf [hT : TabC P T] {t : TypeId} {i : TI} {x y : Operand} {a : Option Addr} {cap n b m : Nat} {k : IntKind} {z : Int} {s : Nat} (hf : FocAt a n b m z s) (ht : tk T t = some i) (hd : i.kind = .slice e) (hsz : i.esize = s)
    (hx : ev σ x = some (.slice a n cap)) (hy : ev σ y = some (.int k z)) (hg : gd l σ g = some true) (hdN : Nat.blt d N = true) (next : Rg P l Q N rest ((d, .pointer (some ⟨b, m, none⟩)) :: σ) w) :
    Rg P l Q N (⟨some d, .indexAddr t x y, ty, pos, af, g⟩ :: rest) σ w :=
  rg_value rfl hg hdN (fun a' ha => foc_run hf ht hd hsz hx hy ha _ w) next

theorem d_ixf [hT : TabC P T] {fuel : Nat} {listed : Array Bool} {δ : List (Nat × List Nat)} {t : TypeId} {i : TI} {x y : Operand} {a : Option Addr} {cap n b m : Nat} {k : IntKind} {z : Int} {s : Nat} (j : Nat) (hQ : PanicOk Q) (π : List Nat) (hS : Sat w K (flat G)) (hf : FocAt a n b m z s)
    (hi : nthO l j = some ⟨some d, .indexAddr t x y, ty, pos, af, g⟩) (ht : tk T t = some i) (hd : i.kind = .slice e) (hsz : i.esize = s) (hx : ev σ x = some (.slice a n cap)) (hy : ev σ y = some (.int k z)) (hg : gd l σ g = some true)
    (hok : okTake l listed j = true) (hdN : Nat.blt d N = true) (hnk : noKey (heldG G δ) j = true) (next : Dg P l Q N K (flat (selG G π)) (heldG G δ) fuel (listed.setIfInBounds j true) ((d, .pointer (some ⟨b, m, none⟩)) :: σ) w) :
    Dg P l Q N K (flat (selG G π)) (heldG G δ) (fuel + 1) listed σ w :=
  d_take j hQ hi rfl hok hdN hnk (hS.hold π (heldG_mem δ G) _) (fun a' ha => .inl ⟨gd_sound (o := ⟨some d, .indexAddr t x y, ty, pos, af, g⟩) hg ha, fun w1 _ => foc_run hf ht hd hsz hx hy ha _ w1⟩) next

/-- what came forward goes back -/
theorem Sat.join3 {A B C : Chunks} (h : Sat w K (flat (A :: B :: C :: G))) : Sat w K (flat ((A ++ (B ++ C)) :: G)) := by
  simpa [flat] using h

/-- a new row of zeros that own nothing -/
theorem s_mkx [hT : TabC P T] {t : TypeId} {i : TI} {x y : Operand} {k1 k2 : IntKind} {n : Int} (z : α) (zc : List Value) (hz0 : D.rep K z zc []) (hS : Sat w K (flat G)) (ht : tk T t = some i) (hd : i.kind = .slice e)
    (hx : ev σ x = some (.int k1 n)) (hy : ev σ y = some (.int k2 n)) (h0 : 0 ≤ n) (hb : n * (i.ebytes : Int) ≤ 281474976710656) (hbp : Nat.blt 0 i.ebytes = true) (hz : i.ezero = zc) (hes : i.esize = D.size) (hep : Nat.blt 0 i.esize = true)
    (hg : gd l σ g = some true) (hdN : Nat.blt d N = true)
    (next : ∀ a cap w' C, OwnD e D K (.slice a (List.replicate n.toNat z).length cap) (List.replicate n.toNat z) C → Sat w' K (flat (C :: G)) →
      Rg P l Q N rest ((d, .slice a (List.replicate n.toNat z).length cap) :: σ) w') :
    Rg P l Q N (⟨some d, .makeSlice t x y, ty, pos, af, g⟩ :: rest) σ w := by
  have hbp' : 1 ≤ (i.ebytes : Int) := by have : 0 < i.ebytes := by simpa using hbp
                                         omega
  have hn : n ≤ n * (i.ebytes : Int) := by
    have := Int.mul_le_mul_of_nonneg_left hbp' h0
    omega
  have hlz : zc.length = D.size := D.len hz0
  have hpz : 0 < zc.length := by rw [hlz, ← hes]; simpa using hep
  refine s_mk hS ht hd hx hy h0 (Int.le_refl _) (by rw [Int.mul_comm]; exact hb) (by omega) hg hdN ?_
  intro b w' cs hcs hS'
  rw [hz, hes, ← hlz, zeros_made hpz] at hcs
  have hcat := CatD.zeros hz0 n.toNat
  rw [← hcs] at hcat
  have := next (some ⟨b, 0, none⟩) n.toNat w' [(b, Cl cs e)] ⟨cs, [(b, Cl cs e)], [], .inr ⟨b, n.toNat, [], by simp, by simp, by simp, by unfold maxLen; omega, by rw [hcat.len], by
    rw [List.append_nil, hcat.len]; simp⟩, hcat, by simp⟩ hS'
  simpa using this

/-- append of what is written out: the temporary row stands in group j behind; what it owns stands in Ce -/
theorem s_appx [hT : TabC P T] {t e' : TypeId} {i : TI} {x y : Operand} (j : Nat) {v : Value} {xs ys : List α} {C Ce : Chunks} {b m c : Nat} {src : List Value} (hS : Sat w K (flat (C :: Ce :: G)))
    (hown : OwnD e D K v xs C) (hj : nthG G j = some [(b, Cl src e')]) (hc : CatD D K ys src Ce) (hm : m = ys.length) (ht : tk T t = some i) (hd : i.kind = .slice e) (hsz : Nat.blt 0 i.esize = true) (hez : i.ezero.length = i.esize)
    (hes : i.esize = D.size) (hx : ev σ x = some v) (hy : ev σ y = some (.slice (some ⟨b, 0, none⟩) m c))
    (hb : (xs.length + ys.length) * i.ebytes ≤ 140737488355328) (hbp : Nat.blt 0 i.ebytes = true) (hg : gd l σ g = some true) (hdN : Nat.blt d N = true)
    (next : ∀ a cap w' C', OwnD e D K (.slice a (xs ++ ys).length cap) (xs ++ ys) C' → Sat w' K (flat (C' :: G)) → Rg P l Q N rest ((d, .slice a (xs ++ ys).length cap) :: σ) w') :
    Rg P l Q N (⟨some d, .call ⟨.builtin .append, #[x, y], #[t, t]⟩, ty, pos, af, g⟩ :: rest) σ w := by
  subst hm
  obtain ⟨l0, A, B, h1, h2, h3⟩ := hown
  have h63 : xs.length + ys.length ≤ maxLen := by
    have hp : 0 < i.ebytes := by simpa using hbp
    have : xs.length + ys.length ≤ (xs.length + ys.length) * i.ebytes := Nat.le_mul_of_pos_right _ hp
    unfold maxLen; omega
  have hS1 : Sat w K (A ++ ((B ++ Ce) ++ flat G)) := by
    refine hS.perm ?_
    show (C ++ (Ce ++ flat G)).Perm _
    rw [← List.append_assoc, ← List.append_assoc, ← List.append_assoc]
    exact (h3.append_right Ce).append_right _
  have hcell : Cells w b 0 src := cells_of_heap (hS.owned (b, Cl src e') (by
    show _ ∈ C ++ (Ce ++ flat G)
    exact List.mem_append_right _ (List.mem_append_right _ (nthG_mem hj (List.mem_cons_self ..)))))
  obtain ⟨v', w', A', hr, ho', hS'⟩ := app_run (P := P) (ty := ty) ht hd hsz hez hS1 (by rw [hes]; exact h1) (a := ⟨b, 0, none⟩) (c := c) (m := ys.length) (news := src) (by rw [hes]; exact hc.len) (fun q u hq => by rw [add_addr]; exact hcell q u (by rw [nth_eq]; exact hq)) (List.all_eq_true.1 hc.one) hb h63
  have hos : OwnD e D K v' (xs ++ ys) (A' ++ (B ++ Ce)) := ⟨l0 ++ src, A', B ++ Ce, by rw [hes] at ho'; rw [List.length_append]; exact ho', h2.append hc, .refl _⟩
  obtain ⟨a, cap, rfl⟩ := hos.val
  refine rg_value rfl hg hdN (fun a' ha => ?_) (next a cap w' _ hos (by simpa [flat] using hS'))
  simp only [execOp, resolve, invoke, builtin, Sem.run_bind, Sem.run_pure, Result.andThen_ok, List.map_toArray, List.map_cons, List.map_nil, ha.ev hx, ha.ev hy, hr]


/-! ### a part of a slice that stays as it is -/

/-- xs[lo:hi] -/
def subl {α : Type} (xs : List α) (lo hi : Int) : List α := (xs.take hi.toNat).drop lo.toNat
def subOk (n : Nat) (lo hi : Int) : Bool := decide (0 ≤ lo) && (decide (lo ≤ hi) && decide (hi ≤ (n : Int)))
theorem subOk_le {n : Nat} {lo hi : Int} (h : subOk n lo hi = true) : 0 ≤ lo ∧ lo ≤ hi ∧ hi ≤ n := by
  simp only [subOk, Bool.and_eq_true, decide_eq_true_eq] at h; exact h
theorem subl_len {α : Type} {xs : List α} {lo hi : Int} (h : subOk xs.length lo hi = true) : (subl xs lo hi).length = hi.toNat - lo.toNat := by
  have := subOk_le h
  unfold subl; simp; omega

theorem SlK.sub [GoData e α] {a : Option Addr} {cap : Nat} {xs : List α} {lo hi : Int} (h : SlK e K a cap xs) (hk : subOk xs.length lo hi = true) :
    SlK e K (if cap = lo.toNat then a else a.map (·.add (lo.toNat * GoData.size e α))) (cap - lo.toNat) (subl xs lo hi) := by
  have hb := subOk_le hk
  refine ⟨by rw [subl_len hk]; have := h.1; omega, ?_⟩
  by_cases he : subl xs lo hi = []
  · exact .inl he
  rcases h.2 with rfl | ⟨b, o, l, rfl, hc, hkc⟩
  · exfalso; apply he; unfold subl; simp
  · right
    have hpos : 0 < (subl xs lo hi).length := by
      cases hs : subl xs lo hi with
      | nil => exact absurd hs he
      | cons _ _ => simp
    rw [subl_len hk] at hpos
    have hcap : cap ≠ lo.toNat := by have := h.1; omega
    rw [if_neg hcap]
    have hx : xs = xs.take lo.toNat ++ (subl xs lo hi ++ xs.drop hi.toNat) := by
      unfold subl
      rw [← List.append_assoc]
      have e1 : xs.take lo.toNat = (xs.take hi.toNat).take lo.toNat := by rw [List.take_take, Nat.min_eq_left (by omega)]
      rw [e1, List.take_append_drop, List.take_append_drop]
    rw [hx] at hc
    obtain ⟨l1, l2, rfl, h1, h2⟩ := hc.split
    obtain ⟨l3, l4, rfl, h3, h4⟩ := h2.split
    have hl1 : l1.length = lo.toNat * GoData.size e α := by rw [h1.len]; congr 1; simp; omega
    refine ⟨b, o + l1.length, l3, by simp only [Option.map_some, add_addr, hl1], h3, hkc.at_⟩

/-- what a bound is -/
def bdOk (σ : Slots) (o : Option Operand) (z dflt : Int) : Prop :=
  match o with
  | some y => ∃ k, ev σ y = some (.int k z)
  | none => z = dflt

theorem sl_run [hT : TabC P T] [GoData e α] {t : TypeId} {i : TI} {x : Operand} {lo hi : Option Operand} {zl zh : Int} {a : Option Addr} {n cap : Nat} (ht : tk T t = some i) (hd : i.kind = .slice e) (hsz : i.esize = GoData.size e α) (hx : ev σ x = some (.slice a n cap)) (hnc : n ≤ cap)
    (hlo : bdOk σ lo zl 0) (hhi : bdOk σ hi zh n)
    (hk : subOk n zl zh = true) {a' : Act} (ha : Fits N a' σ) (dd : Option Tmp) (w : World) :
    (execOp a'.eval ⟨dd, .slice t x lo hi none, ty, pos, af, g⟩).run P w = .ok (.value (.slice (if cap = zl.toNat then a else a.map (·.add (zl.toNat * GoData.size e α))) (zh.toNat - zl.toNat) (cap - zl.toNat))) w := by
  obtain ⟨d0, hu, hk0, _, _, _, he⟩ := entry_spec (hT.all.get ht)
  have hd1 := kind_slice (hk0.trans hd)
  rw [hd1] at hu
  obtain ⟨⟨j, hj, hjs, _⟩, _⟩ := he e (by rw [hd]; rfl)
  obtain ⟨h0, h1, h2⟩ := subOk_le hk
  have hzh : 0 ≤ zh := by omega
  have hzc : zh ≤ (cap : Int) := by omega
  have e1 : ((zh.toNat : Nat) : Int) = zh := Int.toNat_of_nonneg hzh
  cases lo with
  | none =>
    have hlo : zl = 0 := hlo
    subst hlo
    cases hi with
    | none =>
      have hhi : zh = (n : Int) := hhi
      subst hhi
      simp [execOp, ha.ev hx, Instr.sliceAt, Instr.slice, underlying_run hu, Instr.sliceBounds, sizeOf, typeInfo, hj, hjs, hsz]
    | some y =>
      obtain ⟨k, hy⟩ := hhi
      simp [execOp, ha.ev hx, ha.ev hy, Instr.sliceAt, Instr.slice, underlying_run hu, Instr.sliceBounds, Instr.sliceBound, asIntOf, sizeOf, typeInfo, hj, hjs, hsz, hzh, hzc]
  | some q =>
    obtain ⟨kq, hq⟩ := hlo
    cases hi with
    | none =>
      have hhi : zh = (n : Int) := hhi
      subst hhi
      simp [execOp, ha.ev hx, ha.ev hq, Instr.sliceAt, Instr.slice, underlying_run hu, Instr.sliceBounds, Instr.sliceBound, asIntOf, sizeOf, typeInfo, hj, hjs, hsz, h0, h1]
    | some y =>
      obtain ⟨k, hy⟩ := hhi
      simp [execOp, ha.ev hx, ha.ev hy, ha.ev hq, Instr.sliceAt, Instr.slice, underlying_run hu, Instr.sliceBounds, Instr.sliceBound, asIntOf, sizeOf, typeInfo, hj, hjs, hsz, hzh, hzc, h0, e1, h1]


theorem s_sl [hT : TabC P T] [GoData e α] {t : TypeId} {i : TI} {x : Operand} {lo hi : Option Operand} {zl zh : Int} {a : Option Addr} {n cap : Nat} {xs : List α} (h : SlK e K a cap xs) (hn : xs.length = n) (hk : subOk xs.length zl zh = true) (ht : tk T t = some i) (hd : i.kind = .slice e) (hsz : i.esize = GoData.size e α) (hx : ev σ x = some (.slice a n cap))
    (hlo : bdOk σ lo zl 0) (hhi : bdOk σ hi zh n) (hg : gd l σ g = some true) (hdN : Nat.blt d N = true)
    (next : ∀ a' c', SlK e K a' c' (subl xs zl zh) → Rg P l Q N rest ((d, .slice a' (subl xs zl zh).length c') :: σ) w) : Rg P l Q N (⟨some d, .slice t x lo hi none, ty, pos, af, g⟩ :: rest) σ w := by
  subst hn
  have h1 := next _ _ (h.sub hk)
  rw [subl_len hk] at h1
  exact rg_value rfl hg hdN (fun a' ha => sl_run ht hd hsz hx h.1 hlo hhi hk ha _ w) h1

theorem d_sl [hT : TabC P T] [GoData e α] {fuel : Nat} {listed : Array Bool} {δ : List (Nat × List Nat)} {t : TypeId} {i : TI} {x : Operand} {lo hi : Option Operand} {zl zh : Int} {a : Option Addr} {n cap : Nat} {xs : List α} (j : Nat) (hQ : PanicOk Q) (π : List Nat) (hS : Sat w K (flat G)) (h : SlK e K a cap xs) (hn : xs.length = n) (hk : subOk xs.length zl zh = true)
    (hi' : nthO l j = some ⟨some d, .slice t x lo hi none, ty, pos, af, g⟩) (ht : tk T t = some i) (hd : i.kind = .slice e) (hsz : i.esize = GoData.size e α) (hx : ev σ x = some (.slice a n cap))
    (hlo : bdOk σ lo zl 0) (hhi : bdOk σ hi zh n) (hg : gd l σ g = some true)
    (hok : okTake l listed j = true) (hdN : Nat.blt d N = true) (hnk : noKey (heldG G δ) j = true)
    (next : ∀ a' c', SlK e K a' c' (subl xs zl zh) → Dg P l Q N K (flat (selG G π)) (heldG G δ) fuel (listed.setIfInBounds j true) ((d, .slice a' (subl xs zl zh).length c') :: σ) w) :
    Dg P l Q N K (flat (selG G π)) (heldG G δ) (fuel + 1) listed σ w := by
  subst hn
  have h1 := next _ _ (h.sub hk)
  rw [subl_len hk] at h1
  exact d_take j hQ hi' rfl hok hdN hnk (hS.hold π (heldG_mem δ G) _) (fun a' ha => .inl ⟨gd_sound (o := ⟨some d, .slice t x lo hi none, ty, pos, af, g⟩) hg ha, fun w1 _ => sl_run ht hd hsz hx h.1 hlo hhi hk ha _ w1⟩) h1

end
end Go.Fw
