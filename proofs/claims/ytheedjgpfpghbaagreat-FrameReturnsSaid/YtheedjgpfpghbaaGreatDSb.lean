/- The evaluator, quicker: operations on memory, regions that draw nothing, code, calls. -/
import Derived.Test.YtheedjgpfpghbaaGreatDSa
set_option linter.unusedVariables false
set_option linter.unusedSectionVars false
set_option linter.unusedSimpArgs false
namespace Go.Ev
open Go Go.Fw
/-- the cells of a value that may lie in cells -/
noncomputable def cellsK : Value → Value → (List Value → RR) → RR := @Value.rec (fun _ => Value → (List Value → RR) → RR) (fun _ => Unit) (fun _ => Unit) (fun _ v k => k [v]) (fun _ _ v k => k [v]) (fun _ _ v k => k [v]) (fun _ _ _ v k => k [v]) (fun _ v k => k [v]) (fun _ v k => k [v]) (fun _ _ _ v k => k [v]) (fun _ v k => k [v]) (fun _ v k => k [v]) (fun _ _ _ _ _ v k => k [v]) (fun v k => k [v]) (fun _ _ _ v k => k [v]) (fun v k => k [v]) (fun a _ _ k => @Array.rec Value (fun _ => RR) (fun l => k l) a) (fun _ _ _ _ => none) (fun _ _ => ()) () (fun _ _ _ _ => ())
noncomputable def gvK (want : Bool) : Value → RR → RR → RR → RR := @Value.rec (fun _ => RR → RR → RR → RR) (fun _ => Unit) (fun _ => Unit) (fun b y n _ => @Bool.rec (fun _ => RR) (@Bool.rec (fun _ => RR) y n want) (@Bool.rec (fun _ => RR) n y want) b) (fun _ _ _ n _ => n) (fun _ _ _ n _ => n) (fun _ _ _ _ n _ => n) (fun _ _ n _ => n) (fun _ _ n _ => n) (fun _ _ _ _ n _ => n) (fun _ _ n _ => n) (fun _ _ _ d => d) (fun _ _ _ _ _ _ n _ => n) (fun _ n _ => n) (fun _ _ _ _ n _ => n) (fun _ n _ => n) (fun _ _ _ n _ => n) (fun _ _ _ n _ => n) (fun _ _ => ()) () (fun _ _ _ _ => ())
/-- a bool, or one that is not known -/
noncomputable def condK : Value → (Bool → RR) → (Nat → RR) → RR := @Value.rec (fun _ => (Bool → RR) → (Nat → RR) → RR) (fun _ => Unit) (fun _ => Unit) (fun b k _ => k b) (fun _ _ _ _ => none) (fun _ _ _ _ => none) (fun _ _ _ _ _ => none) (fun _ _ _ => none) (fun _ _ _ => none) (fun _ _ _ _ _ => none) (fun _ _ _ => none) (fun r _ j => @Option.rec Nat (fun _ => RR) none (fun i => j i) r) (fun _ _ _ _ _ _ _ => none) (fun _ _ => none) (fun _ _ _ _ _ => none) (fun _ _ => none) (fun _ _ _ _ => none) (fun _ _ _ _ => none) (fun _ _ => ()) () (fun _ _ _ _ => ())
abbrev CallT1 := Nat → List Value → Mem → Option (Value × Mem)
abbrev LK := List Value → (List Value → RR) → RR
/-- the first n cells -/
noncomputable def takeS (n : Nat) : Bx LK := @Nat.rec (fun _ => Bx LK) ⟨fun _ k => k []⟩ (fun _ ih => match ih with | ⟨f⟩ => ⟨fun l k => @List.rec Value (fun _ => RR) none (fun v r _ => f r (fun q => k (v :: q))) l⟩) n
/-- n cells from a place on -/
noncomputable def cutS (n : Nat) (o : Nat) : Bx LK := @Nat.rec (fun _ => Bx LK) (takeS n) (fun _ ih => match ih with | ⟨f⟩ => ⟨fun l k => @List.rec Value (fun _ => RR) none (fun _ r _ => f r k) l⟩) o
theorem takeS_eq : ∀ (n : Nat) (l : List Value) (k : List Value → RR), (takeS n).un l k = if n ≤ l.length then k (l.take n) else none
  | 0, l, k => by rw [if_pos (Nat.zero_le _), List.take_zero]; rfl
  | n + 1, l, k => by
    have ih := fun r k => takeS_eq n r k
    show (match takeS n with | ⟨f⟩ => (⟨fun l k => @List.rec Value (fun _ => RR) none (fun v r _ => f r (fun q => k (v :: q))) l⟩ : Bx LK)).un l k = _
    revert ih
    rcases takeS n with ⟨f⟩
    intro ih
    cases l with
    | nil => rw [if_neg (by simp)]
    | cons v r =>
      have h : f r (fun q => k (v :: q)) = if n ≤ r.length then k (v :: r.take n) else none := ih r _
      show f r (fun q => k (v :: q)) = _
      rw [h]
      simp only [List.length_cons, List.take_succ_cons, Nat.add_le_add_iff_right]
theorem cutS_eq (n : Nat) : ∀ (o : Nat) (l : List Value) (k : List Value → RR), (cutS n o).un l k = if o + n ≤ l.length then k (cut l o n) else none
  | 0, l, k => by
    have h := takeS_eq n l k
    rw [Nat.zero_add, cut_eq, List.drop_zero]; exact h
  | o + 1, l, k => by
    have ih := fun r k => cutS_eq n o r k
    show (match cutS n o with | ⟨f⟩ => (⟨fun l k => @List.rec Value (fun _ => RR) none (fun _ r _ => f r k) l⟩ : Bx LK)).un l k = _
    revert ih
    rcases cutS n o with ⟨f⟩
    intro ih
    cases l with
    | nil => rw [if_neg (by simp)]
    | cons v r =>
      have h : f r k = if o + n ≤ r.length then k (cut r o n) else none := ih r _
      show f r k = _
      rw [h]
      by_cases hc : o + n ≤ r.length
      · rw [if_pos hc, if_pos (by simp only [List.length_cons]; omega)]; rfl
      · rw [if_neg hc, if_neg (by simp only [List.length_cons]; omega)]

abbrev PK := List Value → List Value → (List Value → RR) → RR
/-- n cells are replaced -/
noncomputable def repS (n : Nat) : Bx PK := @Nat.rec (fun _ => Bx PK) ⟨fun w l k => @List.rec Value (fun _ => RR) (k l) (fun _ _ _ => none) w⟩ (fun _ ih => match ih with | ⟨f⟩ => ⟨fun w l k => @List.rec Value (fun _ => RR) none (fun v s _ => @List.rec Value (fun _ => RR) none (fun _ r _ => f s r (fun q => k (v :: q))) l) w⟩) n
noncomputable def putS (n : Nat) (o : Nat) : Bx PK := @Nat.rec (fun _ => Bx PK) (repS n) (fun _ ih => match ih with | ⟨f⟩ => ⟨fun w l k => @List.rec Value (fun _ => RR) none (fun x r _ => f w r (fun q => k (x :: q))) l⟩) o
theorem repS_eq : ∀ (n : Nat) (w l : List Value) (k : List Value → RR), (repS n).un w l k = if w.length = n ∧ n ≤ l.length then k (w ++ l.drop n) else none
  | 0, w, l, k => by
    cases w with
    | nil => rw [if_pos ⟨rfl, Nat.zero_le _⟩, List.nil_append, List.drop_zero]; rfl
    | cons v s => rw [if_neg (by simp)]; rfl
  | n + 1, w, l, k => by
    have ih := fun w r k => repS_eq n w r k
    show (match repS n with | ⟨f⟩ => (⟨fun w l k => @List.rec Value (fun _ => RR) none (fun v s _ => @List.rec Value (fun _ => RR) none (fun _ r _ => f s r (fun q => k (v :: q))) l) w⟩ : Bx PK)).un w l k = _
    revert ih
    rcases repS n with ⟨f⟩
    intro ih
    cases w with
    | nil => rw [if_neg (by simp)]
    | cons v s => cases l with
      | nil => rw [if_neg (by simp)]
      | cons x r =>
        have h : f s r (fun q => k (v :: q)) = if s.length = n ∧ n ≤ r.length then k (v :: (s ++ r.drop n)) else none := ih s r _
        show f s r (fun q => k (v :: q)) = _
        rw [h]
        simp only [List.length_cons, Nat.add_right_cancel_iff, Nat.add_le_add_iff_right, List.cons_append, List.drop_succ_cons]
theorem putS_eq (n : Nat) : ∀ (o : Nat) (w l : List Value) (k : List Value → RR), (putS n o).un w l k = if w.length = n ∧ o + n ≤ l.length then k (l.take o ++ (w ++ l.drop (o + n))) else none
  | 0, w, l, k => by
    have h := repS_eq n w l k
    rw [Nat.zero_add, List.take_zero, List.nil_append]; exact h
  | o + 1, w, l, k => by
    have ih := fun w r k => putS_eq n o w r k
    show (match putS n o with | ⟨f⟩ => (⟨fun w l k => @List.rec Value (fun _ => RR) none (fun x r _ => f w r (fun q => k (x :: q))) l⟩ : Bx PK)).un w l k = _
    revert ih
    rcases putS n o with ⟨f⟩
    intro ih
    cases l with
    | nil => rw [if_neg (by simp)]
    | cons x r =>
      have h : f w r (fun q => k (x :: q)) = if w.length = n ∧ o + n ≤ r.length then k (x :: (r.take o ++ (w ++ r.drop (o + n)))) else none := ih w r _
      show f w r (fun q => k (x :: q)) = _
      rw [h]
      by_cases hc : w.length = n ∧ o + n ≤ r.length
      · rw [if_pos hc, if_pos ⟨hc.1, by simp only [List.length_cons]; omega⟩, List.take_succ_cons, show o + 1 + n = (o + n) + 1 by omega, List.drop_succ_cons]; rfl
      · rw [if_neg hc, if_neg (fun e => hc ⟨e.1, by have := e.2; simp only [List.length_cons] at this; omega⟩)]

theorem cellsK_eq (v : Value) (k : List Value → RR) : cellsK v v k = bif storable v then k v.cells.toList else none := by
  cases v <;> rfl
theorem gvK_bool (want b : Bool) (y n d : RR) : gvK want (.bool b) y n d = bif b == want then y else n := by cases b <;> cases want <;> rfl
theorem boolRec_eq {α : Type} (b : Bool) (x y : α) : @Bool.rec (fun _ => α) y x b = bif b then x else y := by cases b <;> rfl

section
variable [SymT] (tab : Nat → Option TI) (eqs : Nat → Option (List TK)) (zt : Nat → Option Value) {σ : Type} (ev : Operand → Bx (σ → Option Value))
abbrev MK (σ : Type) := CallT1 → σ → Mem → (Value → Mem → RR) → RR

/-- cells of a block -/
noncomputable def blkK (x : Option ABlk) (k : List Value → TypeId → Bool → RR) : RR := @Option.rec ABlk (fun _ => RR) none (fun x => @ABlk.rec (fun _ => RR) (fun cs t o => k cs t o) (fun _ => none) (fun _ _ => none) x) x

noncomputable def ldS (t : TypeId) : Bx (List Value → Nat → (Value → RR) → RR) := match tab t with
  | some i => bif i.agg then ⟨fun cs o k => (cutS i.size o).un cs (fun q => k (.agg ⟨q⟩))⟩ else ⟨fun cs o k => (nthS o).un cs k⟩
  | none => ⟨fun _ _ _ => none⟩
theorem ldS_eq (t : TypeId) (cs : List Value) (o : Nat) (k : Value → RR) : (ldS tab t).un cs o k = bV (ldD tab t cs o) k := by
  unfold ldS ldD
  cases tab t with
  | none => rfl
  | some i =>
    simp only
    cases i.agg with
    | true =>
      show (cutS i.size o).un cs _ = bV (bif Nat.ble (o + i.size) cs.length then _ else none) k
      rw [cutS_eq, ble_dec]
      by_cases h : o + i.size ≤ cs.length
      · rw [if_pos h, decide_eq_true h]; rfl
      · rw [if_neg h, decide_eq_false h]; rfl
    | false => exact nthS_eq o cs k

theorem blt_succ (a b : Nat) : Nat.ble (Nat.succ a) b = Nat.blt a b := rfl

noncomputable def loadS (t : TypeId) (x : Operand) : Bx (MK σ) := match ev x, ldS tab t with
  | ⟨f⟩, ⟨h⟩ => ⟨fun call T M k => @Bool.rec (fun _ => RR) none (@Option.rec Value (fun _ => RR) none (fun v => ptrK v (fun b o => canonN b (fun b => blkK ((trG ABlk b).un M.1) (fun cs _ _ => h cs o (fun u => k u M))))) (f T)) (Nat.ble (Nat.succ M.2) 1000000)⟩
theorem ptrK_eq (v : Value) (k : Nat → Nat → RR) : ptrK v k = match v with | .pointer (some ⟨b, o, none⟩) => k b o | _ => none := by
  cases v <;> try rfl
  rename_i a; rcases a with _ | ⟨b, o, s⟩
  · rfl
  · cases s <;> rfl
theorem loadS_eq (t : TypeId) (x : Operand) (call : CallT1) (T : σ) (e : Operand → Option Value) (he : ∀ x, (ev x).un T = e x) (M : Mem) (k : Value → Mem → RR) : (loadS tab ev t x).un call T M k = bM (opD tab eqs zt call (.load t x) e M) k := by
  have h1 := he x
  have h2 := ldS_eq tab t
  unfold loadS opD
  revert h1 h2
  rcases ev x with ⟨f⟩; rcases ldS tab t with ⟨h⟩
  intro h1 h2
  have h1 : f T = e x := h1
  show @Bool.rec (fun _ => RR) none (@Option.rec Value (fun _ => RR) none (fun v => ptrK v (fun b o => canonN b (fun b => blkK (M.m.get b) (fun cs _ _ => h cs o (fun u => k u M))))) (f T)) (Nat.blt M.nx 1000000) = bM (bif Nat.blt M.nx 1000000 then (match opmLoad tab t x e M with | some (v, M) => some (v, M) | none => none) else none) k
  cases Nat.blt M.nx 1000000 with
  | false => rfl
  | true =>
    simp only [cond_true]
    unfold opmLoad
    rw [h1]
    cases e x with
    | none => rfl
    | some v =>
      simp only [ptrK_eq]
      cases v <;> try rfl
      rename_i a; rcases a with _ | ⟨b, o, s⟩
      · rfl
      · cases s with
        | some s => rfl
        | none =>
          simp only [canonN_eq]
          cases M.m.get b with
          | none => rfl
          | some z =>
            cases z with
            | cells cs u opn =>
              have h3 : h cs o (fun u => k u M) = bV (ldD tab t cs o) (fun u => k u M) := h2 cs o _
              show h cs o (fun u => k u M) = _
              rw [h3]
              simp only
              cases ldD tab t cs o <;> rfl
            | map _ => rfl
            | iter _ _ => rfl

noncomputable def storeS (t : TypeId) (x y : Operand) : Bx (MK σ) := match ev x, ev y, tab t with
  | ⟨f⟩, ⟨g⟩, some i => ⟨fun call T M k => @Bool.rec (fun _ => RR) none (@Option.rec Value (fun _ => RR) none (fun v => @Option.rec Value (fun _ => RR) none (fun u => ptrK v (fun b o => canonN b (fun b => blkK ((trG ABlk b).un M.1) (fun cs t' p => cellsK u u (fun w => (putS i.size o).un w cs (fun q => k undef ⟨(trP ABlk b).un (some (.cells q t' p)) M.1, M.2⟩)))))) (g T)) (f T)) (Nat.ble (Nat.succ M.2) 1000000)⟩
  | _, _, none => ⟨fun _ _ _ _ => none⟩
theorem storeS_eq (t : TypeId) (x y : Operand) (call : CallT1) (T : σ) (e : Operand → Option Value) (he : ∀ x, (ev x).un T = e x) (M : Mem) (k : Value → Mem → RR) : (storeS tab ev t x y).un call T M k = bM (opD tab eqs zt call (.store t x y) e M) k := by
  have h1 := he x
  have h2 := he y
  unfold storeS opD
  revert h1 h2
  rcases ev x with ⟨f⟩; rcases ev y with ⟨g⟩
  intro h1 h2
  have h1 : f T = e x := h1
  have h2 : g T = e y := h2
  show _ = bM (bif Nat.blt M.nx 1000000 then (match opmStore tab t x y e M with | some (v, M) => some (undef, M) | none => none) else none) k
  unfold opmStore stD
  rw [← h1, ← h2]
  cases ht : tab t with
  | none =>
    show none = _
    cases Nat.blt M.nx 1000000 with
    | false => rfl
    | true =>
      simp only [cond_true]
      cases f T with
      | none => rfl
      | some v => cases g T with
        | none => cases v <;> try rfl
                  rename_i a; rcases a with _ | ⟨b, o, s⟩
                  · rfl
                  · cases s <;> rfl
        | some u =>
          cases v <;> try rfl
          rename_i a; rcases a with _ | ⟨b, o, s⟩
          · rfl
          · cases s with
            | some s => rfl
            | none =>
              simp only
              cases M.m.get b with
              | none => rfl
              | some z => cases z <;> rfl
  | some i =>
    show @Bool.rec (fun _ => RR) none (@Option.rec Value (fun _ => RR) none (fun v => @Option.rec Value (fun _ => RR) none (fun u => ptrK v (fun b o => canonN b (fun b => blkK (M.m.get b) (fun cs t' p => cellsK u u (fun w => (putS i.size o).un w cs (fun q => k undef (M.set b (.cells q t' p)))))))) (g T)) (f T)) (Nat.blt M.nx 1000000) = _
    cases Nat.blt M.nx 1000000 with
    | false => rfl
    | true =>
      simp only [cond_true]
      cases f T with
      | none => rfl
      | some v => cases g T with
        | none => cases v <;> try rfl
                  rename_i a; rcases a with _ | ⟨b, o, s⟩
                  · rfl
                  · cases s <;> rfl
        | some u =>
          simp only [ptrK_eq]
          cases v <;> try rfl
          rename_i a; rcases a with _ | ⟨b, o, s⟩
          · rfl
          · cases s with
            | some s => rfl
            | none =>
              simp only [canonN_eq]
              cases M.m.get b with
              | none => rfl
              | some z =>
                cases z with
                | cells cs u' opn =>
                  simp only [blkK, cellsK_eq, putS_eq]
                  cases storable u with
                  | false => rfl
                  | true =>
                    simp only [cond_true, Bool.true_and]
                    by_cases h3 : u.cells.toList.length = i.size ∧ o + i.size ≤ cs.length
                    · have h4 : (Nat.beq u.cells.toList.length i.size && Nat.ble (o + i.size) cs.length) = true := by
                        rw [h3.1, Nat.beq_refl, Nat.ble_eq_true_of_le h3.2]; rfl
                      rw [if_pos h3, h4]; rfl
                    · have h4 : (Nat.beq u.cells.toList.length i.size && Nat.ble (o + i.size) cs.length) = false := by
                        cases hb : (Nat.beq u.cells.toList.length i.size && Nat.ble (o + i.size) cs.length) with
                        | false => rfl
                        | true =>
                          simp only [Bool.and_eq_true] at hb
                          exact absurd ⟨Nat.eq_of_beq_eq_true hb.1, Nat.le_of_ble_eq_true hb.2⟩ h3
                      rw [if_neg h3, h4]; rfl
                | map _ => rfl
                | iter _ _ => rfl

/-- a new block -/
noncomputable def newS (M : Mem) (x : ABlk) (k : Nat → Mem → RR) : RR := canonN M.2 (fun b => k b ⟨(trP ABlk b).un (some x) M.1, Nat.add b 1⟩)
theorem newS_eq (M : Mem) (x : ABlk) (k : Nat → Mem → RR) : newS M x k = k (M.new x).1 (M.new x).2 := by
  unfold newS; rw [canonN_eq]; rfl

noncomputable def allocS (t : TypeId) : Bx (MK σ) := match tab t with
  | some i => ⟨fun call T M k => @Bool.rec (fun _ => RR) none (newS M (.cells i.zero t false) (fun b M => k (.pointer (some ⟨b, 0, none⟩)) M)) (Nat.ble (Nat.succ M.2) 1000000)⟩
  | none => ⟨fun _ _ _ _ => none⟩
theorem allocS_eq (t : TypeId) (call : CallT1) (T : σ) (e : Operand → Option Value) (M : Mem) (k : Value → Mem → RR) : (allocS (σ := σ) tab t).un call T M k = bM (opD tab eqs zt call (.alloc t) e M) k := by
  unfold allocS opD
  show _ = bM (bif Nat.blt M.nx 1000000 then (match (match tab t with | some i => (match M.new (.cells i.zero t false) with | (b, M) => some (.pointer (some ⟨b, 0, none⟩), M)) | none => none) with | some (v, M) => some (v, M) | none => none) else none) k
  cases tab t with
  | none => cases Nat.blt M.nx 1000000 <;> rfl
  | some i =>
    show @Bool.rec (fun _ => RR) none _ (Nat.blt M.nx 1000000) = _
    cases Nat.blt M.nx 1000000 with
    | false => rfl
    | true => exact newS_eq M _ _

noncomputable def boxS (t : TypeId) (x : Operand) : Bx (MK σ) := match ev x with
  | ⟨f⟩ => ⟨fun call T M k => @Bool.rec (fun _ => RR) none (@Option.rec Value (fun _ => RR) none (fun v => cellsK v v (fun w => newS M (.cells w t false) (fun b M => k (.pointer (some ⟨b, 0, none⟩)) M))) (f T)) (Nat.ble (Nat.succ M.2) 1000000)⟩
theorem boxS_eq (t : TypeId) (x : Operand) (call : CallT1) (T : σ) (e : Operand → Option Value) (he : ∀ x, (ev x).un T = e x) (M : Mem) (k : Value → Mem → RR) : (boxS ev t x).un call T M k = bM (opD tab eqs zt call (.box t x) e M) k := by
  have h1 := he x
  unfold boxS opD
  revert h1
  rcases ev x with ⟨f⟩
  intro h1
  have h1 : f T = e x := h1
  show @Bool.rec (fun _ => RR) none (@Option.rec Value (fun _ => RR) none _ (f T)) (Nat.blt M.nx 1000000) = bM (bif Nat.blt M.nx 1000000 then (match (match e x with | some v => (bif storable v then (match M.new (.cells v.cells.toList t false) with | (b, M) => some (.pointer (some ⟨b, 0, none⟩), M)) else none) | none => none) with | some (v, M) => some (v, M) | none => none) else none) k
  rw [h1]
  cases Nat.blt M.nx 1000000 with
  | false => rfl
  | true =>
    cases e x with
    | none => rfl
    | some v =>
      simp only [cond_true, cellsK_eq]
      cases storable v with
      | false => rfl
      | true => exact newS_eq M _ _

noncomputable def evsS : List Operand → Bx (σ → (List Value → RR) → RR)
  | [] => ⟨fun T k => k []⟩
  | x :: r => match ev x, evsS r with
    | ⟨f⟩, ⟨g⟩ => ⟨fun T k => @Option.rec Value (fun _ => RR) none (fun v => g T (fun l => k (v :: l))) (f T)⟩
noncomputable def bL (o : Option (List Value)) (k : List Value → RR) : RR := @Option.rec (List Value) (fun _ => RR) none k o
theorem evsS_eq (T : σ) (e : Operand → Option Value) (he : ∀ x, (ev x).un T = e x) : ∀ (l : List Operand) (k : List Value → RR), (evsS ev l).un T k = bL (evsD e l) k
  | [], k => rfl
  | x :: r, k => by
    have h1 := he x
    have h2 := fun k => evsS_eq T e he r k
    unfold evsS evsD
    revert h1 h2
    rcases ev x with ⟨f⟩; rcases evsS ev r with ⟨g⟩
    intro h1 h2
    have h1 : f T = e x := h1
    have h2 : ∀ k, g T k = bL (evsD e r) k := h2
    show @Option.rec Value (fun _ => RR) none (fun v => g T (fun l => k (v :: l))) (f T) = _
    rw [h1]
    cases e x with
    | none => rfl
    | some v =>
      show g T _ = _
      rw [h2]
      cases evsD e r <;> rfl

noncomputable def callS (g : Nat) (args : Array Operand) : Bx (MK σ) := match evsS ev args.toList with
  | ⟨f⟩ => ⟨fun call T M k => @Bool.rec (fun _ => RR) none (f T (fun vs => bM (call g vs M) k)) (Nat.ble (Nat.succ M.2) 1000000)⟩
theorem callS_eq (g : Nat) (args : Array Operand) (ts : Array TypeId) (call : CallT1) (T : σ) (e : Operand → Option Value) (he : ∀ x, (ev x).un T = e x) (hf : ∀ g, e (.func g) = some (.func (.func g) #[] #[])) (M : Mem) (k : Value → Mem → RR) : (callS ev g args).un call T M k = bM (opD tab eqs zt call (.call ⟨.value (.func g), args, ts⟩) e M) k := by
  have h1 := evsS_eq ev T e he args.toList
  unfold callS opD
  have ho : opm tab zt call (.call ⟨.value (.func g), args, ts⟩) e M = (match (some (Value.func (.func g) #[] #[]) : Option Value), evsD e args.toList with | some (.func (.func g) _ caps), some vs => call g (vs ++ caps.toList) M | _, _ => none) := by
    rw [← hf g]; rfl
  rw [ho]
  revert h1
  rcases evsS ev args.toList with ⟨f⟩
  intro h1
  have h1 : ∀ k, f T k = bL (evsD e args.toList) k := h1
  show @Bool.rec (fun _ => RR) none (f T (fun vs => bM (call g vs M) k)) (Nat.blt M.nx 1000000) = bM (bif Nat.blt M.nx 1000000 then (match (match (some (Value.func (.func g) #[] #[]) : Option Value), evsD e args.toList with | some (.func (.func g) _ caps), some vs => call g (vs ++ caps.toList) M | _, _ => none) with | some (v, M) => some (v, M) | none => none) else none) k
  rw [h1]
  cases Nat.blt M.nx 1000000 with
  | false => rfl
  | true =>
    cases evsD e args.toList with
    | none => rfl
    | some vs =>
      show bM (call g vs M) k = bM (match call g (vs ++ []) M with | some (v, M) => some (v, M) | none => none) k
      rw [List.append_nil]
      cases call g vs M <;> rfl

noncomputable def memS (op : Op) : Bx (MK σ) := match op with
  | .load t x => loadS tab ev t x
  | .store t x y => storeS tab ev t x y
  | .alloc t => allocS tab t
  | .box t x => boxS ev t x
  | .call ⟨.value (.func g), args, _⟩ => callS ev g args
  | op => ⟨fun call T M k => bM (opD tab eqs zt call op (fun x => (ev x).un T) M) k⟩
theorem memS_eq (op : Op) (call : CallT1) (T : σ) (e : Operand → Option Value) (he : ∀ x, (ev x).un T = e x) (hf : ∀ g, e (.func g) = some (.func (.func g) #[] #[])) (M : Mem) (k : Value → Mem → RR) : (memS tab eqs zt ev op).un call T M k = bM (opD tab eqs zt call op e M) k := by
  unfold memS
  split
  · exact loadS_eq tab eqs zt ev _ _ call T e he M k
  · exact storeS_eq tab eqs zt ev _ _ _ call T e he M k
  · exact allocS_eq tab eqs zt _ call T e M k
  · exact boxS_eq tab eqs zt ev _ _ call T e he M k
  · exact callS_eq tab eqs zt ev _ _ _ call T e he hf M k
  · obtain rfl : (fun x => (ev x).un T) = e := funext he
    rfl

/-- an operation -/
noncomputable def coreS (op : Op) : Bx (MK σ) := bif isMem op then memS tab eqs zt ev op else match opS tab eqs ev op with
  | ⟨h⟩ => ⟨fun call T M k => h T (fun v => k v M)⟩
theorem coreS_eq (op : Op) (call : CallT1) (T : σ) (e : Operand → Option Value) (he : ∀ x, (ev x).un T = e x) (hf : ∀ g, e (.func g) = some (.func (.func g) #[] #[])) (M : Mem) (k : Value → Mem → RR) : (coreS tab eqs zt ev op).un call T M k = bM (opD tab eqs zt call op e M) k := by
  unfold coreS
  cases hm : isMem op with
  | true => exact memS_eq tab eqs zt ev op call T e he hf M k
  | false =>
    have h1 := opS_eq tab eqs ev op T e he
    unfold opD
    rw [hm]
    revert h1
    rcases opS tab eqs ev op with ⟨h⟩
    intro h1
    have h1 : ∀ k, h T k = bV (opw tab eqs op e) k := h1
    show h T (fun v => k v M) = _
    rw [h1]
    simp only [cond_false]
    cases opw tab eqs op e <;> rfl

end
section
variable [SymT] (tab : Nat → Option TI) (eqs : Nat → Option (List TK)) (zt : Nat → Option Value)
noncomputable def dstS (N : Nat) (d : Option Nat) : Bx (Value → Tr Value → (Tr Value → RR) → RR) := match d with
  | none => ⟨fun v T k => k T⟩
  | some d => bif Nat.blt d N then (match trP Value d with | ⟨p⟩ => ⟨fun v T k => k (p (some v) T)⟩) else ⟨fun _ _ _ => none⟩
noncomputable def bS (o : Option (Tr Value)) (k : Tr Value → RR) : RR := @Option.rec (Tr Value) (fun _ => RR) none k o
theorem dstS_eq (N : Nat) (d : Option Nat) (v : Value) (T : Tr Value) (k : Tr Value → RR) : (dstS N d).un v T k = bS (putD N T d v) k := by
  unfold dstS putD
  cases d with
  | none => rfl
  | some d =>
    simp only
    cases Nat.blt d N with
    | false => rfl
    | true => rfl

noncomputable def gdS (l : List Oper) (j : Nat) (want : Bool) : Bx (Tr Value → RR → RR → RR) := match nthO l j with
  | some o => match o.dst with
    | some t => match trG Value t with
      | ⟨f⟩ => ⟨fun T y n => @Option.rec Value (fun _ => RR) none (fun v => gvK want v y n none) (f T)⟩
    | none => ⟨fun _ _ _ => none⟩
  | none => ⟨fun _ _ _ => none⟩
theorem gdS_eq (l : List Oper) (j : Nat) (want : Bool) (T : Tr Value) (y n : RR) : (gdS l j want).un T y n = match gdD l T (some (j, want)) with | some true => y | some false => n | none => none := by
  unfold gdS gdD
  simp only
  cases nthO l j with
  | none => rfl
  | some o =>
    simp only
    cases o.dst with
    | none => rfl
    | some t =>
      simp only
      show @Option.rec Value (fun _ => RR) none (fun v => gvK want v y n none) (T.get t) = _
      cases T.get t with
      | none => rfl
      | some v =>
        cases v with
        | bool b => show gvK want (.bool b) y n none = _; rw [gvK_bool]; cases b <;> cases want <;> rfl
        | _ => rfl

abbrev SK := CallT1 → (Tr Value → Mem → RR) → Tr Value → Mem → RR
noncomputable def stepS (N : Nat) (l : List Oper) (o : Oper) : Bx SK := match coreS tab eqs zt evS o.op, dstS N o.dst with
  | ⟨c⟩, ⟨d⟩ => match o.guard with
    | none => ⟨fun call kk T M => c call T M (fun v M => d v T (fun T => kk T M))⟩
    | some (j, want) => match gdS l j want with
      | ⟨g⟩ => ⟨fun call kk T M => g T (c call T M (fun v M => d v T (fun T => kk T M))) (d undef T (fun T => kk T M))⟩
theorem stepS_eq (N : Nat) (l : List Oper) (o : Oper) (call : CallT1) (ih : Tr Value → Mem → Option (Tr Value × Mem)) (kk k : Tr Value → Mem → RR) (hk : ∀ T M, kk T M = bT (ih T M) k) (T : Tr Value) (M : Mem) :
    (stepS tab eqs zt N l o).un call kk T M = bT (stepD tab eqs zt N call l o ih T M) k := by
  have h1 := coreS_eq tab eqs zt evS o.op call T (evD T) (fun x => evS_eq x T) (fun _ => rfl) M
  have h2 := dstS_eq N o.dst
  unfold stepS stepD
  revert h1 h2
  rcases coreS tab eqs zt evS o.op with ⟨c⟩; rcases dstS N o.dst with ⟨d⟩
  intro h1 h2
  have h1 : ∀ k, c call T M k = bM (opD tab eqs zt call o.op (evD T) M) k := h1
  have h2 : ∀ v T k, d v T k = bS (putD N T o.dst v) k := h2
  have hyes : c call T M (fun v M => d v T (fun T => kk T M)) = bT (match opD tab eqs zt call o.op (evD T) M with
    | some (v, M) => match putD N T o.dst v with
      | some T => ih T M
      | none => none
    | none => none) k := by
    rw [h1]
    cases opD tab eqs zt call o.op (evD T) M with
    | none => rfl
    | some q =>
      obtain ⟨v, M'⟩ := q
      show d v T _ = _
      rw [h2]
      simp only
      cases putD N T o.dst v with
      | none => rfl
      | some T' => exact hk T' M'
  have hno : d undef T (fun T => kk T M) = bT (match putD N T o.dst undef with
    | some T => ih T M
    | none => none) k := by
    rw [h2]
    cases putD N T o.dst undef with
    | none => rfl
    | some T' => exact hk T' M
  cases hg : o.guard with
  | none => exact hyes
  | some q =>
    obtain ⟨j, want⟩ := q
    have h3 := gdS_eq l j want T
    revert h3
    show _ → (match gdS l j want with | ⟨g⟩ => (⟨fun call kk T M => g T (c call T M (fun v M => d v T (fun T => kk T M))) (d undef T (fun T => kk T M))⟩ : Bx SK)).un call kk T M = _
    rcases gdS l j want with ⟨g⟩
    intro h3
    have h3 : ∀ y n, g T y n = match gdD l T (some (j, want)) with | some true => y | some false => n | none => none := h3
    show g T (c call T M (fun v M => d v T (fun T => kk T M))) (d undef T (fun T => kk T M)) = _
    rw [h3, hyes, hno]
    cases gdD l T (some (j, want)) with
    | none => rfl
    | some b => cases b <;> rfl

noncomputable def regS (N : Nat) (l : List Oper) : List Oper → Bx SK := fun r => @List.rec Oper (fun _ => Bx SK) ⟨fun call kk T M => kk T M⟩ (fun o _ ih => match stepS tab eqs zt N l o, ih with
  | ⟨f⟩, ⟨g⟩ => ⟨fun call kk T M => f call (g call kk) T M⟩) r
theorem regS_eq (N : Nat) (l : List Oper) (call : CallT1) (k : Tr Value → Mem → RR) : ∀ (r : List Oper) (T : Tr Value) (M : Mem), (regS tab eqs zt N l r).un call k T M = bT (opsD tab eqs zt N call l r T M) k
  | [], T, M => rfl
  | o :: r, T, M => by
    have ih := regS_eq N l call k r
    have h1 := stepS_eq tab eqs zt N l o call (opsD tab eqs zt N call l r)
    show (match stepS tab eqs zt N l o, regS tab eqs zt N l r with
      | ⟨f⟩, ⟨g⟩ => (⟨fun call kk T M => f call (g call kk) T M⟩ : Bx SK)).un call k T M = bT (stepD tab eqs zt N call l o (opsD tab eqs zt N call l r) T M) k
    revert ih h1
    rcases stepS tab eqs zt N l o with ⟨f⟩; rcases regS tab eqs zt N l r with ⟨g⟩
    intro ih h1
    exact h1 (g call k) k ih T M
end
end Go.Ev
