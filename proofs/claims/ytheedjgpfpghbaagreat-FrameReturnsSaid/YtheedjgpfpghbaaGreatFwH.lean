/- A small logic of walks: cuts, loops by a relation, typed rows of the call's own. -/
import Derived.Test.YtheedjgpfpghbaaGreatFwG
set_option linter.unusedVariables false
set_option linter.unusedSimpArgs false
set_option linter.unusedSectionVars false
namespace Go.Fw
open Go

section
variable {P : Program} {T : Tab} {N : Nat} {σ : Slots} {w : World} {l : List Oper} {Q : Exit → Act → World → Prop} {rest : List Oper} {g : Option (Nat × Bool)}
  {ty : TypeId} {pos : String} {af : Array Edge} {op : Op} {d : Tmp} {K : KM} {L : Chunks} {G : List Chunks}

/-- what stands behind is shown once, of all that meets 'pre' -/
theorem s_cut {x y : Code} (pre : Slots → World → Prop) (hx : ∀ J : Act → World → Prop, (∀ τ w', pre τ w' → At N τ fun a => J a w') → At N σ fun a => x.wp P (Exit.then J Q) a w)
    (hy : ∀ τ w', pre τ w' → At N τ fun a => y.wp P Q a w') : At N σ fun a => (Code.seq x y).wp P Q a w := fun a ha => wp_seq (hx (fun a w' => y.wp P Q a w') hy a ha)

theorem s_join {J : Act → World → Prop} {pre : Slots → World → Prop} (hJ : ∀ τ w', pre τ w' → At N τ fun a => J a w') (τ : Slots) (h : pre τ w) (hs : within τ σ) : At N σ fun a => J a w :=
  At.weaken τ hs (hJ τ w h)

/-- a cut within a region -/
theorem r_cut (A : List Oper) {B : List Oper} (pre : Slots → World → Prop) (e : rest = A ++ B)
    (hx : ∀ J : Act → World → Prop, (∀ τ w', pre τ w' → At N τ fun a => J a w') → Rg P l (fun e a w => match e with | .normal => J a w | e => Q e a w) N A σ w)
    (hy : ∀ τ w', pre τ w' → Rg P l Q N B τ w') : Rg P l Q N rest σ w := by
  subst e
  have key : ∀ (A : List Oper) (a : Act) (w : World), wpList P l.toArray (fun e a w => match e with | .normal => wpList P l.toArray Q B a w | e => Q e a w) A a w → wpList P l.toArray Q (A ++ B) a w := by
    intro A
    induction A with
    | nil => intro a w h; exact h
    | cons o A ih =>
      intro a w h
      show wpList P l.toArray Q (o :: (A ++ B)) a w
      unfold wpList at h ⊢
      split
      · rename_i hw
        rw [if_pos hw] at h
        rcases h with h | ⟨h1, a0, w0, h2⟩
        · refine .inl ?_
          have h := Oper.wp_mono (K' := wpList P l.toArray Q (A ++ B)) (fun a w h => ih a w h) h
          unfold Oper.wp at h ⊢
          generalize (execOp a.eval o).run P w = r at h ⊢
          cases r with
          | ok n w' =>
            cases n <;> simp only [Oper.upon] at h ⊢
            case value u => exact h
            case skip => exact h
            case defer d => exact h
            case enter f args =>
              refine Calls.mono h fun e w'' he => ?_
              cases e with
              | returned u => exact he
              | panicked c => exact he
              | outgrown => exact he
            case row row args => exact Rows.mono h fun u w'' he => he
          | halt x w' => cases x <;> simp only [Oper.upon] at h ⊢ <;> exact h
        · exact .inr ⟨h1, a0, w0, h2⟩
      · rename_i hw
        rw [if_neg hw] at h
        exact ih _ _ h
  exact fun a ha => key A a w (hx (fun a w' => wpList P l.toArray Q B a w') hy a ha)

theorem r_join {J : Act → World → Prop} {Q' : Exit → Act → World → Prop} {pre : Slots → World → Prop} (hJ : ∀ τ w', pre τ w' → At N τ fun a => J a w') (τ : Slots) (h : pre τ w) (hs : within τ σ) :
    Rg P l (fun e a w => match e with | .normal => J a w | e => Q' e a w) N [] σ w := At.weaken τ hs (hJ τ w h)

/-- a loop by a relation that counts rounds -/
theorem s_loopp {c : Code} (pre : Nat → Slots → World → Prop) {k : Nat} (τ : Slots) (h0 : pre k τ w) (hw : within τ σ) (zero : ∀ τ w, ¬ pre 0 τ w)
    (step : ∀ k τ w (Y : Act → World → Prop), (∀ τ' w', pre k τ' w' → At N τ' fun a => Y a w') → pre (k + 1) τ w → At N τ fun a => c.wp P (Exit.then Y Q) a w) :
    At N σ fun a => (Code.loop c).wp P Q a w := by
  have key : ∀ k τ w, pre k τ w → At N τ fun a => wpl P c Q a w := by
    intro k
    induction k with
    | zero => intro τ w h; exact absurd h (zero τ w)
    | succ k ih => intro τ w h; exact s_round (step k τ w (fun a w => wpl P c Q a w) ih h)
  exact s_loop (At.weaken τ hw (key k τ w h0))

theorem setG_self {G : List Chunks} {k : Nat} {C : Chunks} (h : nthG G k = some C) : setG G k C = G := by
  induction G generalizing k with
  | nil => cases h
  | cons q r ih => cases k with
    | zero => simp [nthG] at h; subst h; rfl
    | succ k => simp only [setG]; rw [ih (k := k) h]

/-! ### shallow words -/
abbrev w64 (n : Int) : Int := IntKind.i64.wrap n
abbrev w32 (n : Int) : Int := IntKind.i32.wrap n
abbrev w8 (n : Int) : Int := IntKind.u8.wrap n
abbrev w16 (n : Int) : Int := IntKind.u16.wrap n

/-- there is room for so many more -/
def roomy (n m b : Nat) : Bool := Nat.ble ((n + m) * b) 140737488355328
theorem roomy_le {n m b : Nat} (h : roomy n m b = true) : (n + m) * b ≤ 140737488355328 := Nat.le_of_ble_eq_true h
/-- a slice of so many may be made -/
def mayMake (n : Int) (b : Nat) : Bool := decide (0 ≤ n) && decide (n * (b : Int) ≤ 281474976710656)
theorem mayMake_le {n : Int} {b : Nat} (h : mayMake n b = true) : 0 ≤ n ∧ n * (b : Int) ≤ 281474976710656 := by
  unfold mayMake at h
  simp only [Bool.and_eq_true, decide_eq_true_eq] at h
  exact h
/-- go on where it is so -/
def guardB {α : Type} (b : Bool) (x : Option α) : Option α := bif b then x else none
theorem guardB_some {α : Type} {b : Bool} {x : Option α} {r : α} (h : guardB b x = some r) : b = true ∧ x = some r := by
  cases b
  · cases h
  · exact ⟨rfl, h⟩
theorem bif_t {α : Type} {b : Bool} {x y z : α} (hb : b = true) (h : (bif b then x else y) = z) : x = z := by subst hb; exact h
theorem bif_f {α : Type} {b : Bool} {x y z : α} (hb : b = false) (h : (bif b then x else y) = z) : y = z := by subst hb; exact h
/-- what a loop comes to: it goes on behind, or the function ends -/
inductive LR (σ ρ : Type) where
  | brk (s : σ)
  | ret (r : ρ)

def LR.elim {σ ρ : Type} (x : LR σ ρ) (f : σ → Option ρ) : Option ρ :=
  match x with
  | .brk s => f s
  | .ret r => some r
def LR.then {σ ρ : Type} (x : Option (LR σ ρ)) (f : σ → Option ρ) : Option ρ := x.bind fun y => y.elim f
def LR.esc {σ ρ : Type} (x : Option ρ) : Option (LR σ ρ) := x.bind fun g => some (.ret g)
theorem LR.then_some {σ ρ : Type} {x : Option (LR σ ρ)} {f : σ → Option ρ} {r : ρ} (h : LR.then x f = some r) : ∃ y, x = some y ∧ y.elim f = some r := Option.bind_eq_some_iff.1 h
theorem LR.esc_some {σ ρ : Type} {x : Option ρ} {res : LR σ ρ} {f : σ → Option ρ} {r : ρ} (h : LR.esc x = some res) (hm : res.elim f = some r) : x = some r := by
  obtain ⟨g, hg, hq⟩ := Option.bind_eq_some_iff.1 h
  cases hq; cases hm; exact hg
theorem LR.elim_brk {σ ρ : Type} {s : σ} {f : σ → Option ρ} {r : ρ} (h : LR.elim (.brk s) f = some r) : f s = some r := h

def iand (k : IntKind) (a b : Int) : Int := k.wrap (BitVec.ofInt k.bits a &&& BitVec.ofInt k.bits b).toNat
def ior (k : IntKind) (a b : Int) : Int := k.wrap (BitVec.ofInt k.bits a ||| BitVec.ofInt k.bits b).toNat
def ixor (k : IntKind) (a b : Int) : Int := k.wrap (BitVec.ofInt k.bits a ^^^ BitVec.ofInt k.bits b).toNat

/-- the sum of two texts' lengths is an int -/
def strRoom (a b : ByteArray) : Bool := Nat.ble (a.size + b.size) 9223372036854775807

theorem s_cat {x y : Operand} {t t' : TypeId} {a b : ByteArray} (hx : ev σ x = some (.string a)) (hy : ev σ y = some (.string b)) (hr : strRoom a b = true) (hg : gd l σ g = some true) (hdN : Nat.blt d N = true)
    (next : Rg P l Q N rest ((d, .string (a ++ b)) :: σ) w) : Rg P l Q N (⟨some d, .binOp .add t x y t', ty, pos, af, g⟩ :: rest) σ w :=
  rg_value rfl hg hdN (fun a' ha => by
    have h1 := Nat.le_of_ble_eq_true hr
    have h2 : ¬ (9223372036854775807 < (a.size : Int) + (b.size : Int)) := by omega
    simp only [execOp, ha.ev hx, ha.ev hy, Sem.run_bind, eqGuard]
    simp [binOp, Op.stringOp, h2, IntKind.max, IntKind.signed, IntKind.bits]) next

theorem s_rem {x y : Operand} {t t' : TypeId} {k : IntKind} {a b : Int} (hb : (b != 0) = true) (hx : ev σ x = some (.int k a)) (hy : ev σ y = some (.int k b)) (hg : gd l σ g = some true) (hdN : Nat.blt d N = true)
    (next : Rg P l Q N rest ((d, .int k (a.tmod b)) :: σ) w) : Rg P l Q N (⟨some d, .binOp .rem t x y t', ty, pos, af, g⟩ :: rest) σ w :=
  rg_value rfl hg hdN (fun a' ha => by
    have hb' : ¬ b = 0 := by simpa using hb
    simp only [execOp, ha.ev hx, ha.ev hy, Sem.run_bind, eqGuard]
    simp [binOp, Op.intDiv, hb']) next

theorem d_rem {fuel : Nat} {listed : Array Bool} {δ : List (Nat × List Nat)} {x y : Operand} {t t' : TypeId} {k : IntKind} {a b : Int} (i : Nat) (hQ : PanicOk Q) (π : List Nat) (hS : Sat w K (flat G)) (hb : (b != 0) = true) (hi : nthO l i = some ⟨some d, .binOp .rem t x y t', ty, pos, af, g⟩)
    (hx : ev σ x = some (.int k a)) (hy : ev σ y = some (.int k b)) (hg : gd l σ g = some true) (hok : okTake l listed i = true) (hd : Nat.blt d N = true) (hnk : noKey (heldG G δ) i = true)
    (next : Dg P l Q N K (flat (selG G π)) (heldG G δ) fuel (listed.setIfInBounds i true) ((d, .int k (a.tmod b)) :: σ) w) : Dg P l Q N K (flat (selG G π)) (heldG G δ) (fuel + 1) listed σ w :=
  d_take i hQ hi rfl hok hd hnk (hS.hold π (heldG_mem δ G) _) (fun a' ha => .inl ⟨gd_sound (o := ⟨some d, .binOp .rem t x y t', ty, pos, af, g⟩) hg ha, fun w1 _ => by
    have hb' : ¬ b = 0 := by simpa using hb
    simp only [execOp, ha.ev hx, ha.ev hy, Sem.run_bind, eqGuard]
    simp [binOp, Op.intDiv, hb']⟩) next

theorem s_quo {x y : Operand} {t t' : TypeId} {k : IntKind} {a b : Int} (hb : (b != 0) = true) (hx : ev σ x = some (.int k a)) (hy : ev σ y = some (.int k b)) (hg : gd l σ g = some true) (hdN : Nat.blt d N = true)
    (next : Rg P l Q N rest ((d, .int k (k.wrap (a.tdiv b))) :: σ) w) : Rg P l Q N (⟨some d, .binOp .quo t x y t', ty, pos, af, g⟩ :: rest) σ w :=
  rg_value rfl hg hdN (fun a' ha => by
    have hb' : ¬ b = 0 := by simpa using hb
    simp only [execOp, ha.ev hx, ha.ev hy, Sem.run_bind, eqGuard]
    simp [binOp, Op.intDiv, hb']) next

theorem Sat.drop1 {w : World} {K : KM} {C : Chunks} {G : List Chunks} (h : Sat w K (flat (C :: G))) : Sat w K (flat G) := h.sub (List.perm_append_comm)

/-! ### typed rows of the call's own -/

variable {e : TypeId} {α : Type} [GoData e α]

/-- a slice of the call's own that holds data -/
def OwnS (e : TypeId) {α : Type} [GoData e α] (K : KM) (v : Value) (xs : List α) (C : Chunks) : Prop := ∃ l, OwnR e (GoData.size e α) v xs.length l C ∧ Cat e K xs l

theorem OwnS.nil : OwnS (α := α) e K (.slice none 0 0) [] [] := ⟨[], OwnR.nil _ _, rfl⟩

theorem OwnS.mono {v : Value} {xs : List α} {C : Chunks} {K' : KM} (h : OwnS e K v xs C) (hk : KM.le K K') : OwnS e K' v xs C := by
  obtain ⟨l, h1, h2⟩ := h
  exact ⟨l, h1, h2.mono hk⟩

theorem OwnS.val {v : Value} {xs : List α} {C : Chunks} (h : OwnS e K v xs C) : ∃ a cap, v = .slice a xs.length cap := by
  obtain ⟨l, h1, h2⟩ := h
  rcases h1 with ⟨rfl, hn, _⟩ | ⟨b, cap, r, rfl, _⟩
  · exact ⟨none, 0, by rw [hn]⟩
  · exact ⟨_, _, rfl⟩

theorem OwnS.freeze {a : Option Addr} {cap n : Nat} {xs : List α} {C : Chunks} (h : OwnS e K (.slice a n cap) xs C) (hS : Sat w K (flat (C :: G))) :
    ∃ K', KM.le K K' ∧ SlK e K' a cap xs ∧ Sat w K' (flat G) := by
  obtain ⟨a1, c1, ev⟩ := h.val
  cases ev
  obtain ⟨l, h1, h2⟩ := h
  obtain ⟨K', hk, ⟨a', cap', e', hs⟩, hS'⟩ := h1.freeze h2 hS
  cases e'
  exact ⟨K', hk, hs, hS'⟩

theorem SlK.cells {a : Option Addr} {cap : Nat} {xs : List α} (h : SlK e K a cap xs) : xs = [] ∨ ∃ b o l, a = some ⟨b, o, none⟩ ∧ Cat e K xs l ∧ KCells K b o l := h.2

/-- append of what is written out: the temporary row stands in group j -/
theorem s_appv [hT : TabC P T] {t e' : TypeId} {i : TI} {x y : Operand} (k j : Nat) {v : Value} {xs ys : List α} {C : Chunks} {b m c : Nat} {src : List Value} (hS : Sat w K (flat G)) (hk : nthG G k = some C)
    (hown : OwnS e K v xs C) (hj : nthG G j = some [(b, Cl src e')]) (hc : Cat e K ys src) (hm : m = ys.length) (ht : tk T t = some i) (hd : i.kind = .slice e) (hsz : Nat.blt 0 i.esize = true) (hez : i.ezero.length = i.esize)
    (hes : i.esize = GoData.size e α) (hx : ev σ x = some v) (hy : ev σ y = some (.slice (some ⟨b, 0, none⟩) m c))
    (hb : (xs.length + ys.length) * i.ebytes ≤ 140737488355328) (hbp : Nat.blt 0 i.ebytes = true) (hg : gd l σ g = some true) (hdN : Nat.blt d N = true)
    (next : ∀ a cap w' C', OwnS e K (.slice a (xs ++ ys).length cap) (xs ++ ys) C' → Sat w' K (flat (setG G k C')) → Rg P l Q N rest ((d, .slice a (xs ++ ys).length cap) :: σ) w') :
    Rg P l Q N (⟨some d, .call ⟨.builtin .append, #[x, y], #[t, t]⟩, ty, pos, af, g⟩ :: rest) σ w := by
  subst hm
  obtain ⟨l0, h1, h2⟩ := hown
  have h63 : xs.length + ys.length ≤ maxLen := by
    have hp : 0 < i.ebytes := by simpa using hbp
    have : xs.length + ys.length ≤ (xs.length + ys.length) * i.ebytes := Nat.le_mul_of_pos_right _ hp
    unfold maxLen; omega
  refine s_app k hS hk (n := xs.length) (xs := l0) (news := src) (by rw [hes]; exact h1) (cells_of_heap (hS.owned _ (nthG_mem hj (List.mem_cons_self ..)))) ht hd hsz hez hx hy (by rw [hes]; exact hc.len) hc.one hb h63 hg hdN ?_
  intro v' w' C' ho hS'
  have hos : OwnS e K v' (xs ++ ys) C' := ⟨l0 ++ src, by rw [hes] at ho; rw [List.length_append]; exact ho, h2.append hc⟩
  obtain ⟨a, cap, rfl⟩ := hos.val
  exact next a cap w' C' hos hS'

/-- append of what stays as it is -/
theorem s_appk [hT : TabC P T] {t : TypeId} {i : TI} {x y : Operand} (k : Nat) {v : Value} {xs ys : List α} {C : Chunks} {a2 : Option Addr} {c : Nat} (hS : Sat w K (flat G)) (hk : nthG G k = some C)
    (hown : OwnS e K v xs C) (hs : SlK e K a2 c ys) (ht : tk T t = some i) (hd : i.kind = .slice e) (hsz : Nat.blt 0 i.esize = true) (hez : i.ezero.length = i.esize)
    (hes : i.esize = GoData.size e α) (hx : ev σ x = some v) (hy : ev σ y = some (.slice a2 ys.length c))
    (hb : (xs.length + ys.length) * i.ebytes ≤ 140737488355328) (hbp : Nat.blt 0 i.ebytes = true) (hg : gd l σ g = some true) (hdN : Nat.blt d N = true)
    (next : ∀ a cap w' C', OwnS e K (.slice a (xs ++ ys).length cap) (xs ++ ys) C' → Sat w' K (flat (setG G k C')) → Rg P l Q N rest ((d, .slice a (xs ++ ys).length cap) :: σ) w') :
    Rg P l Q N (⟨some d, .call ⟨.builtin .append, #[x, y], #[t, t]⟩, ty, pos, af, g⟩ :: rest) σ w := by
  obtain ⟨l0, h1, h2⟩ := hown
  rcases hs.2 with rfl | ⟨b, o, src, rfl, hc, hkc⟩
  · rcases h1 with ⟨rfl, hn, rfl, rfl⟩ | ⟨b, cap, r, rfl, hC, hnc, hcm, hlen, htot⟩
    · have : xs = [] := List.eq_nil_of_length_eq_zero hn
      subst this
      refine s_app0 ht (by rw [hd]) hx (Nat.le_refl _) hy hg hdN ?_
      have hG : setG G k [] = G := setG_self hk
      have := next none 0 w [] OwnS.nil (by rw [hG]; exact hS)
      exact this
    · refine s_app0 ht (by rw [hd]) hx hnc hy hg hdN ?_
      have hG : setG G k C = G := setG_self hk
      have := next (some ⟨b, 0, none⟩) cap w C ⟨l0, .inr ⟨b, cap, r, by simp, hC, by simpa using hnc, hcm, by simpa using hlen, htot⟩, by simpa using h2⟩ (by rw [hG]; exact hS)
      simpa using this
  · have h63 : xs.length + ys.length ≤ maxLen := by
      have hp : 0 < i.ebytes := by simpa using hbp
      have : xs.length + ys.length ≤ (xs.length + ys.length) * i.ebytes := Nat.le_mul_of_pos_right _ hp
      unfold maxLen; omega
    refine s_app k hS hk (n := xs.length) (xs := l0) (news := src) (by rw [hes]; exact h1) (hkc.cells hS) ht hd hsz hez hx hy (by rw [hes]; exact hc.len) hc.one hb h63 hg hdN ?_
    intro v' w' C' ho hS'
    have hos : OwnS e K v' (xs ++ ys) C' := ⟨l0 ++ src, by rw [hes] at ho; rw [List.length_append]; exact ho, h2.append hc⟩
    obtain ⟨a, cap, rfl⟩ := hos.val
    exact next a cap w' C' hos hS'

/-- one element of a row of one's own comes forward -/
theorem s_ixo [hT : TabC P T] {t : TypeId} {i : TI} {x y : Operand} (q : Nat) {a : Option Addr} {cap n : Nat} {xs : List α} {C : Chunks} {k : IntKind} {z : Int} {u : α} (hS : Sat w K (flat G)) (hq : nthG G q = some C) (h : OwnS e K (.slice a n cap) xs C)
    (hu : idx xs z = some u) (ht : tk T t = some i) (hd : i.kind = .slice e)
    (hsz : i.esize = GoData.size e α) (hx : ev σ x = some (.slice a n cap)) (hy : ev σ y = some (.int k z)) (hg : gd l σ g = some true) (hdN : Nat.blt d N = true)
    (next : ∀ b l1 cs l2, GoData.cells e K u cs → C = [(b, Cl (l1 ++ (cs ++ l2)) e)] → (∀ K' u' cs', KM.le K K' → GoData.cells e K' u' cs' → OwnS e K' (.slice a n cap) (xs.set z.toNat u') [(b, Cl (l1 ++ (cs' ++ l2)) e)]) →
      Rg P l Q N rest ((d, .pointer (some ⟨b, l1.length, none⟩)) :: σ) w) :
    Rg P l Q N (⟨some d, .indexAddr t x y, ty, pos, af, g⟩ :: rest) σ w := by
  obtain ⟨a1, c1, ev⟩ := h.val
  cases ev
  obtain ⟨h0, h1, h2⟩ := idx_lt hu
  obtain ⟨l0, ho, hcat⟩ := h
  rcases ho with ⟨_, hn, _⟩ | ⟨b, cap', r, hv, hC, hnc, hcm, hlen, htot⟩
  · omega
  · cases hv
    obtain ⟨l1, cs, l2, rfl, hl, hcs, ht1, hd1⟩ := hcat.at h2
    refine rg_value rfl hg hdN (fun a' ha => ?_) (next b l1 cs (l2 ++ r) hcs (by rw [hC]; simp) (fun K' u' cs' hk hc' => ?_))
    · simp only [execOp, ha.ev hx, ha.ev hy, Sem.run_bind]
      rw [ix_run ht hd h0 h1, add_addr, hsz, ← hl]
      simp
    · have hput := Cat.put (K := K') h2 (ht1.mono hk) (hd1.mono hk) hc'
      refine ⟨l1 ++ (cs' ++ l2), .inr ⟨b, cap, r, by simp, by simp, by simpa using hnc, hcm, by rw [hput.len], ?_⟩, hput⟩
      have e1 := GoData.len hcs
      have e2 := GoData.len hc'
      simp only [List.length_append] at htot ⊢
      omega

theorem d_ixo [hT : TabC P T] {fuel : Nat} {listed : Array Bool} {δ : List (Nat × List Nat)} {t : TypeId} {i : TI} {x y : Operand} (m q : Nat) (hQ : PanicOk Q) (π : List Nat) {a : Option Addr} {cap n : Nat} {xs : List α} {C : Chunks} {k : IntKind} {z : Int} {u : α} (hS : Sat w K (flat G)) (hq : nthG G q = some C) (h : OwnS e K (.slice a n cap) xs C)
    (hu : idx xs z = some u) (ht : tk T t = some i) (hd : i.kind = .slice e) (hi : nthO l m = some ⟨some d, .indexAddr t x y, ty, pos, af, g⟩)
    (hsz : i.esize = GoData.size e α) (hx : ev σ x = some (.slice a n cap)) (hy : ev σ y = some (.int k z)) (hg : gd l σ g = some true) (hok : okTake l listed m = true) (hdN : Nat.blt d N = true) (hnk : noKey (heldG G δ) m = true)
    (next : ∀ b l1 cs l2, GoData.cells e K u cs → C = [(b, Cl (l1 ++ (cs ++ l2)) e)] → (∀ K' u' cs', KM.le K K' → GoData.cells e K' u' cs' → OwnS e K' (.slice a n cap) (xs.set z.toNat u') [(b, Cl (l1 ++ (cs' ++ l2)) e)]) →
      Dg P l Q N K (flat (selG G π)) (heldG G δ) fuel (listed.setIfInBounds m true) ((d, .pointer (some ⟨b, l1.length, none⟩)) :: σ) w) :
    Dg P l Q N K (flat (selG G π)) (heldG G δ) (fuel + 1) listed σ w := by
  obtain ⟨a1, c1, ev⟩ := h.val
  cases ev
  obtain ⟨h0, h1, h2⟩ := idx_lt hu
  obtain ⟨l0, ho, hcat⟩ := h
  rcases ho with ⟨_, hn, _⟩ | ⟨b, cap', r, hv, hC, hnc, hcm, hlen, htot⟩
  · omega
  · cases hv
    obtain ⟨l1, cs, l2, rfl, hl, hcs, ht1, hd1⟩ := hcat.at h2
    refine d_take m hQ hi rfl hok hdN hnk (hS.hold π (heldG_mem δ G) _) (fun a' ha => .inl ⟨gd_sound hg ha, fun w1 _ => ?_⟩) (next b l1 cs (l2 ++ r) hcs (by rw [hC]; simp) (fun K' u' cs' hk hc' => ?_))
    · simp only [execOp, ha.ev hx, ha.ev hy, Sem.run_bind]
      rw [ix_run ht hd h0 h1, add_addr, hsz, ← hl]
      simp
    · have hput := Cat.put (K := K') h2 (ht1.mono hk) (hd1.mono hk) hc'
      refine ⟨l1 ++ (cs' ++ l2), .inr ⟨b, cap, r, by simp, by simp, by simpa using hnc, hcm, by rw [hput.len], ?_⟩, hput⟩
      have e1 := GoData.len hcs
      have e2 := GoData.len hc'
      simp only [List.length_append] at htot ⊢
      omega

theorem d_ldm [hT : TabC P T] {fuel : Nat} {listed : Array Bool} {δ : List (Nat × List Nat)} {t t' : TypeId} {x : Operand} {b : Nat} {l1 cs l2 : List Value} {v : Value} (i k j : Nat) (hQ : PanicOk Q) (π : List Nat) (hS : Sat w K (flat G)) (hi : nthO l i = some ⟨some d, .load t x, ty, pos, af, g⟩)
    (hx : ev σ x = some (.pointer (some ⟨b, l1.length + j, none⟩))) (hk : nthG (selG G π) k = some [(b, Cl (l1 ++ (cs ++ l2)) t')]) (hv : ldv T t cs j = some v) (hg : gd l σ g = some true) (hok : okTake l listed i = true) (hd : Nat.blt d N = true) (hnk : noKey (heldG G δ) i = true)
    (next : Dg P l Q N K (flat (selG G π)) (heldG G δ) fuel (listed.setIfInBounds i true) ((d, v) :: σ) w) : Dg P l Q N K (flat (selG G π)) (heldG G δ) (fuel + 1) listed σ w :=
  d_ld i k hQ π hS hi hx hk (ld_mid hv) hg hok hd hnk next

/-- a load at the place that came forward -/
theorem s_ldm [hT : TabC P T] {t t' : TypeId} {x : Operand} {b : Nat} {l1 cs l2 : List Value} {v : Value} (k j : Nat) (hS : Sat w K (flat G)) (hk : nthG G k = some [(b, Cl (l1 ++ (cs ++ l2)) t')]) (hx : ev σ x = some (.pointer (some ⟨b, l1.length + j, none⟩)))
    (hv : ldv T t cs j = some v) (hg : gd l σ g = some true) (hd : Nat.blt d N = true) (next : Rg P l Q N rest ((d, v) :: σ) w) : Rg P l Q N (⟨some d, .load t x, ty, pos, af, g⟩ :: rest) σ w :=
  s_ld k hS hx hk (ld_mid hv) hg hd next

/-- a store at the place that came forward -/
theorem s_stm [hT : TabC P T] {t t' : TypeId} {x y : Operand} {b : Nat} {l1 cs l2 cs' : List Value} {v : Value} (k j : Nat) (hS : Sat w K (flat G)) (hk : nthG G k = some [(b, Cl (l1 ++ (cs ++ l2)) t')]) (hx : ev σ x = some (.pointer (some ⟨b, l1.length + j, none⟩)))
    (hy : ev σ y = some v) (hv : stv T t cs j v = some cs') (hg : gd l σ g = some true) (next : ∀ w', Sat w' K (flat (setG G k [(b, Cl (l1 ++ (cs' ++ l2)) t')])) → Rg P l Q N rest σ w') :
    Rg P l Q N (⟨none, .store t x y, ty, pos, af, g⟩ :: rest) σ w :=
  s_st k hS hx hy hk (st_mid hv) hg next

theorem OwnS.len {a : Option Addr} {n cap : Nat} {xs : List α} {C : Chunks} (h : OwnS e K (.slice a n cap) xs C) : xs.length = n := by
  obtain ⟨a1, c1, ev⟩ := h.val
  cases ev; rfl

/-- a row that is written out is one's own -/
theorem OwnS.lit {b n : Nat} {ys : List α} {cs : List Value} (h : Cat e K ys cs) (hn : n = ys.length) (hm : Nat.ble n 16777216 = true) : OwnS e K (.slice (some ⟨b, 0, none⟩) n n) ys [(b, Cl cs e)] := by
  subst hn
  have := Nat.le_of_ble_eq_true hm
  exact ⟨cs, .inr ⟨b, ys.length, [], rfl, by simp, Nat.le_refl _, by unfold maxLen; omega, h.len, by simp [h.len]⟩, h⟩

/-- a new slice's zeros -/
class GoZero (e : TypeId) (α : Type) [GoData e α] where
  zero : α
  cells : List Value
  ok : ∀ K, GoData.cells e K zero cells

theorem Cat.zeros [hZ : GoZero e α] (K : KM) : ∀ n, Cat e K (List.replicate n (GoZero.zero e (α := α))) (List.replicate n (GoZero.cells e α)).flatten
  | 0 => rfl
  | n + 1 => ⟨_, _, rfl, hZ.ok K, Cat.zeros K n⟩

/-- make of a slice of one's own -/
theorem s_mks [hT : TabC P T] [hZ : GoZero e α] {t : TypeId} {i : TI} {x y : Operand} {k1 k2 : IntKind} {n : Int} (hS : Sat w K (flat G)) (ht : tk T t = some i) (hd : i.kind = .slice e)
    (hx : ev σ x = some (.int k1 n)) (hy : ev σ y = some (.int k2 n)) (h0 : 0 ≤ n) (hb : n * (i.ebytes : Int) ≤ 281474976710656) (hbp : Nat.blt 0 i.ebytes = true) (hz : i.ezero = GoZero.cells e α) (hes : i.esize = GoData.size e α) (hep : Nat.blt 0 i.esize = true)
    (hg : gd l σ g = some true) (hdN : Nat.blt d N = true)
    (next : ∀ a cap w' C, OwnS e K (.slice a (List.replicate n.toNat (GoZero.zero e (α := α))).length cap) (List.replicate n.toNat (GoZero.zero e (α := α))) C → Sat w' K (flat (C :: G)) →
      Rg P l Q N rest ((d, .slice a (List.replicate n.toNat (GoZero.zero e (α := α))).length cap) :: σ) w') :
    Rg P l Q N (⟨some d, .makeSlice t x y, ty, pos, af, g⟩ :: rest) σ w := by
  have hbp' : 1 ≤ (i.ebytes : Int) := by have : 0 < i.ebytes := by simpa using hbp
                                         omega
  have hn : n ≤ n * (i.ebytes : Int) := by
    have := Int.mul_le_mul_of_nonneg_left hbp' h0
    omega
  have hlz : (GoZero.cells e α).length = GoData.size e α := GoData.len (hZ.ok K)
  have hpz : 0 < (GoZero.cells e α).length := by rw [hlz, ← hes]; simpa using hep
  refine s_mk hS ht hd hx hy h0 (Int.le_refl _) (by rw [Int.mul_comm]; exact hb) (by omega) hg hdN ?_
  intro b w' cs hcs hS'
  rw [hz, hes, ← hlz, zeros_made hpz] at hcs
  have hcat := Cat.zeros (e := e) (α := α) K n.toNat
  rw [← hcs] at hcat
  have := next (some ⟨b, 0, none⟩) n.toNat w' [(b, Cl cs e)] ⟨cs, .inr ⟨b, n.toNat, [], by simp, by simp, by simp, by unfold maxLen; omega, by rw [hcat.len], by
    rw [List.append_nil, hcat.len]; simp⟩, hcat⟩ hS'
  simpa using this

end
end Go.Fw
