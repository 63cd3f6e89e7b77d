/- The evaluator: calls that were looked at once; what is told of them may be less than what they come to. -/
import Derived.Test.YtheedjgpfpghbaaGreatDSe
set_option linter.unusedVariables false
set_option linter.unusedSectionVars false
set_option linter.unusedSimpArgs false
namespace Go.Ev
open Go Go.Fw

noncomputable def isAny : Value → Bool
  | .chan none => true
  | _ => false
/-- the second one says no more -/
noncomputable def leC (x y : Value) : Bool := sameS x y || isAny y
noncomputable def leL : List Value → List Value → Bool
  | [], [] => true
  | a :: r, b :: q => leC a b && leL r q
  | _, _ => false
noncomputable def leV : Value → Value → Bool
  | .agg a, .agg b => leL a.toList b.toList
  | .agg _, _ => false
  | .tuple a, .tuple b => leV.all a.toList b.toList
  | .tuple _, _ => false
  | a, b => leC a b
where all : List Value → List Value → Bool
  | [], [] => true
  | a :: r, b :: q => (match a, b with
    | .agg a, .agg b => leL a.toList b.toList
    | .agg _, _ => false
    | .tuple _, _ => false
    | a, b => leC a b) && leV.all r q
  | _, _ => false
noncomputable def leB : ABlk → ABlk → Bool
  | .cells cs t o, .cells ds u p => Nat.beq t u && (((o && p) || (!o && !p)) && leL cs ds)
  | .map es, .map fs => sameE es fs
  | _, _ => false
/-- other numbers of blocks -/
noncomputable def renN (π : Tr Nat) (j : Nat) : Nat := match π.get j with
  | some i => i
  | none => j
noncomputable def renA (π : Tr Nat) : Option Addr → Option Addr
  | some ⟨b, o, s⟩ => some ⟨renN π b, o, s⟩
  | none => none
noncomputable def ren0 (π : Tr Nat) : Value → Value
  | .pointer a => .pointer (renA π a)
  | .slice a n c => .slice (renA π a) n c
  | .map (some b) => .map (some (renN π b))
  | v => v
noncomputable def ren1 (π : Tr Nat) : Value → Value
  | .func f a cs => .func f a ⟨cs.toList.map (ren0 π)⟩
  | v => ren0 π v
noncomputable def ren2 (π : Tr Nat) : Value → Value
  | .agg cs => .agg ⟨cs.toList.map (ren1 π)⟩
  | v => ren1 π v
noncomputable def renV (π : Tr Nat) : Value → Value
  | .tuple cs => .tuple ⟨cs.toList.map (ren2 π)⟩
  | v => ren2 π v
noncomputable def renB (π : Tr Nat) : ABlk → ABlk
  | .cells cs t o => .cells (cs.map (ren1 π)) t o
  | .map es => .map (es.map fun p => (p.1, ren2 π p.2))
  | b => b
noncomputable def outLe (π : Tr Nat) (M' : Mem) : List (Nat × ABlk) → Bool
  | [] => true
  | (i, x) :: r => (match M'.m.get (renN π i) with | some y => leB y (renB π x) | none => false) && outLe π M' r

/-- of some args it comes to that, the blocks numbered otherwise -/
noncomputable def Memo.come (call : Nat → List Value → Mem → Option (Value × Mem)) (f : Nat) (m : Memo) (a : List Value × List (Nat × Nat)) : Bool :=
  match call f a.1 ⟨trOf m.need, m.nx⟩ with
  | some (v, M') => (a.2.all (fun p => Nat.ble m.nx p.1 && Nat.blt p.1 1000000) && distinct (m.out.map fun p => renN (trOf a.2) p.1)) && (leV v (renV (trOf a.2) m.v) && outLe (trOf a.2) M' m.out)
  | none => false
/-- its numbers are in order -/
noncomputable def Memo.ord (m : Memo) : Bool :=
  m.out.all (fun p => Nat.ble m.nx p.1 || m.need.any (fun q => Nat.beq q.1 p.1)) && ((distinct (m.need.map (·.1)) && distinct (m.out.map (·.1))) && ((m.need.all (fun p => Nat.blt p.1 m.nx) && m.out.all (fun p => Nat.blt p.1 1000000)) && (Nat.blt m.nx' 1000000 && Nat.ble m.nx m.nx')))

/-- the calls that were looked at stand for themselves; of the others it is told by hand -/
noncomputable def memoR (d : List Value → Mem → Option (Value × Mem)) : List Memo → List Value → Mem → Option (Value × Mem)
  | [], args, M => d args M
  | m :: r, args, M => bif Nat.ble M.nx m.nx && (sameVL args m.args && m.need.all (fun p => match M.m.get p.1 with | some y => sameB y p.2 | none => false)) then some (m.v, ⟨(putL m.out (killL m.need M)).m, m.nx'⟩)
    else memoR d r args M
noncomputable def noD : List Value → Mem → Option (Value × Mem) := fun _ _ => none

section
variable [Sym] {ρ : Rho}
theorem isAny_eq {y : Value} (h : isAny y = true) : y = .chan none := by
  unfold isAny at h
  split at h
  · rfl
  · cases h
theorem leC_R {x y u : Value} (h : leC x y = true) (hx : RS ρ x u) : RS ρ y u := by
  unfold leC at h
  cases hb : sameS x y with
  | true => rw [← sameS_eq hb]; exact hx
  | false =>
    rw [hb] at h
    rw [isAny_eq h]; exact .any hx.cell
theorem leL_R : ∀ {l r m : List Value}, leL l r = true → All2 (RS ρ) l m → All2 (RS ρ) r m
  | [], [], m, _, h => h
  | a :: l, b :: r, m, h, hl => by
    simp only [leL, Bool.and_eq_true] at h
    cases hl with
    | cons h1 h2 => exact .cons (leC_R h.1 h1) (leL_R h.2 h2)
  | [], _ :: _, m, h, _ => by cases h
  | _ :: _, [], m, h, _ => by cases h
theorem RC.flat {x u : Value} (h : RC ρ x u) (h1 : ∀ l, x ≠ .agg l) : RS ρ x u := by
  cases h with
  | agg _ => exact absurd rfl (h1 _)
  | s h => exact h
theorem leVall_R : ∀ {l r m : List Value}, leV.all l r = true → All2 (RC ρ) l m → All2 (RC ρ) r m
  | [], [], m, _, h => h
  | a :: l, b :: r, m, h, hl => by
    simp only [leV.all, Bool.and_eq_true] at h
    cases hl with
    | cons h1 h2 =>
      refine .cons ?_ (leVall_R h.2 h2)
      have h3 := h.1
      split at h3
      · cases h1 with
        | agg h1 =>
          have h4 := leL_R h3 h1
          exact RC.agg h4
        | s h1 => cases h1 with | plain h1 => cases h1
      · cases h3
      · cases h3
      · rename_i hna _ _
        exact .s (leC_R h3 (h1.flat fun l e => by first | exact hna _ e | (subst e; simp_all)))
  | [], _ :: _, m, h, _ => by cases h
  | _ :: _, [], m, h, _ => by cases h
theorem leV_R {x y u : Value} (h : leV x y = true) (hx : RV ρ x u) : RV ρ y u := by
  unfold leV at h
  split at h
  · rename_i a b
    obtain ⟨m, rfl, h2⟩ := hx.agg
    exact .c (.agg (l := b.toList) (leL_R h h2))
  · cases h
  · rename_i a b
    obtain ⟨m, rfl, h2⟩ := hx.tuple
    exact .tup (l := b.toList) (leVall_R h h2)
  · cases h
  · rename_i h1 h2 h3 h4
    exact .c (.s (leC_R h (hx.flat (fun l e => by first | exact h2 _ e | exact h1 _ e | exact h3 _ e | exact h4 _ e) (fun l e => by first | exact h2 _ e | exact h1 _ e | exact h3 _ e | exact h4 _ e))))
theorem leB_R {x y : ABlk} {i : Nat} {p : Nat × Obj} (h : leB x y = true) (hx : BlkR ρ i x p) : BlkR ρ i y p := by
  unfold leB at h
  split at h
  · rename_i cs t o ds u q
    simp only [Bool.and_eq_true] at h
    have e1 := Nat.eq_of_beq_eq_true h.1
    subst e1
    have e2 : o = q := by
      have := h.2.1
      cases o <;> cases q <;> simp_all
    subst e2
    cases hx with
    | cells h1 hc hn ho => exact .cells h1 (leL_R h.2.2 hc) hn ho
  · rw [← sameE_eq h]; exact hx
  · cases h

variable {P : Program} {K : KM} {call : CallT}

/-- what is told of it is so -/
def MemoOk (P : Program) (K : KM) (f : Nat) (m : Memo) : Prop := ∀ ρ L w rs, All2 (RV ρ) m.args rs → World.Is w K L ρ ⟨trOf m.need, m.nx⟩ →
  (callFunc f rs.toArray).run P w = .ok (.enter f rs.toArray) w ∧ Calls P f rs.toArray w (RetR K L ρ ⟨trOf m.need, m.nx⟩ m.v ⟨trOf m.out, m.nx'⟩)

theorem outLe_get {π : Tr Nat} {M' : Mem} : ∀ {out : List (Nat × ABlk)}, outLe π M' out = true → ∃ qs : List (Nat × ABlk), qs.map (·.1) = out.map (fun p => renN π p.1) ∧ (∀ q ∈ qs, M'.m.get q.1 = some q.2) ∧ All2 (fun q p => q.1 = renN π p.1 ∧ leB q.2 (renB π p.2) = true) qs out
  | [], _ => ⟨[], rfl, (fun q h => by cases h), .nil⟩
  | (i, x) :: r, h => by
    simp only [outLe, Bool.and_eq_true] at h
    obtain ⟨qs, h1, h2, h3⟩ := outLe_get h.2
    have h4 := h.1
    split at h4
    · rename_i y hy
      refine ⟨(renN π i, y) :: qs, by simp [h1], fun q hq => ?_, .cons ⟨rfl, h4⟩ h3⟩
      rcases List.mem_cons.1 hq with rfl | hq
      · exact hy
      · exact h2 q hq
    · cases h4

/-- places by other numbers -/
noncomputable def Rho.re (ρ : Rho) (π : Tr Nat) (nx' : Nat) : Rho := fun j => if j < nx' then ρ (renN π j) else none
section
variable {π : Tr Nat} {nx' : Nat}
/-- all numbers of blocks are below one -/
noncomputable def below0 (n : Nat) : Value → Bool
  | .pointer (some ⟨b, _, _⟩) => Nat.blt b n
  | .slice (some ⟨b, _, _⟩) _ _ => Nat.blt b n
  | .map (some b) => Nat.blt b n
  | _ => true
noncomputable def below1 (n : Nat) : Value → Bool
  | .func _ _ cs => cs.toList.all (below0 n)
  | v => below0 n v
noncomputable def below2 (n : Nat) : Value → Bool
  | .agg cs => cs.toList.all (below1 n)
  | v => below1 n v
noncomputable def belowV (n : Nat) : Value → Bool
  | .tuple cs => cs.toList.all (below2 n)
  | v => below2 n v
noncomputable def belowB (n : Nat) : ABlk → Bool
  | .cells cs _ _ => cs.all (below1 n)
  | .map es => es.all fun p => below2 n p.2
  | _ => true

theorem re_at {j : Nat} {r : Nat × Nat × Nat} (h : ρ (renN π j) = some r) (hj : j < nx') : ρ.re π nx' j = some r := by
  unfold Rho.re; rw [if_pos hj]; exact h

theorem ren0_R {y u : Value} (h : RS0 ρ (ren0 π y) u) (hb : below0 nx' y = true) : RS0 (ρ.re π nx') y u := by
  cases y with
  | pointer a =>
    rcases a with _ | ⟨b, o, s⟩
    · cases h with | plain h => exact .plain h
    · replace hb : b < nx' := by simpa [below0] using hb
      replace h : RS0 ρ (.pointer (some ⟨renN π b, o, s⟩)) u := h
      cases h with
      | plain h => cases h
      | ptr h => exact .ptr (re_at h hb)
  | slice a n c =>
    rcases a with _ | ⟨b, o, s⟩
    · replace h : RS0 ρ (.slice none n c) u := h
      cases h with | plain h => exact .plain h
    · replace hb : b < nx' := by simpa [below0] using hb
      replace h : RS0 ρ (.slice (some ⟨renN π b, o, s⟩) n c) u := h
      cases h with
      | plain h => cases h
      | sl h hc hn hm => exact .sl (re_at h hb) hc hn hm
      | slu h ht hn hm => exact .slu (re_at h hb) ht hn hm
      | slz => exact .slz
  | map r =>
    cases r with
    | none => cases h with | plain h => exact .plain h
    | some b =>
      replace hb : b < nx' := by simpa [below0] using hb
      replace h : RS0 ρ (.map (some (renN π b))) u := h
      cases h with
      | plain h => cases h
      | map h => exact .map (re_at h hb)
  | chan r =>
    replace h : RS0 ρ (.chan r) u := h
    cases h with
    | plain h => cases h
    | sym h hp => exact .sym h hp
    | any h => exact .any h
  | bool _ => cases h with | plain h => exact .plain h
  | int _ _ => cases h with | plain h => exact .plain h
  | float _ _ => cases h with | plain h => cases h
  | complex _ _ _ => cases h with | plain h => cases h
  | string _ => cases h with | plain h => exact .plain h
  | func _ _ _ => cases h with | plain h => cases h
  | nilFunc => cases h with | plain h => exact .plain h
  | iface _ _ => cases h with | plain h => cases h
  | nilIface => cases h with | plain h => exact .plain h
  | agg _ => cases h with | plain h => cases h
  | tuple _ => cases h with | plain h => cases h

theorem ren_all {R S : Value → Value → Prop} {f : Value → Value} {b : Value → Bool} (hf : ∀ y u, R (f y) u → b y = true → S y u) : ∀ {l m : List Value}, All2 R (l.map f) m → l.all b = true → All2 S l m
  | [], _, .nil, _ => .nil
  | x :: r, _, .cons h t, hb => by
    simp only [List.all_cons, Bool.and_eq_true] at hb
    exact .cons (hf _ _ h hb.1) (ren_all hf t hb.2)

theorem flat1 {y : Value} (h1 : ∀ f a l, y ≠ .func f a l) : ren1 π y = ren0 π y ∧ below1 nx' y = below0 nx' y := by
  cases y <;> first | exact ⟨rfl, rfl⟩ | exact absurd rfl (h1 _ _ _)
theorem ren1_R {y u : Value} (h : RS ρ (ren1 π y) u) (hb : below1 nx' y = true) : RS (ρ.re π nx') y u := by
  by_cases hf : ∃ f a l, y = .func f a l
  · obtain ⟨f, a, cs, rfl⟩ := hf
    replace h : RS ρ (.func f a ⟨cs.toList.map (ren0 π)⟩) u := h
    generalize hq : (⟨cs.toList.map (ren0 π)⟩ : Array Value) = q at h
    cases h with
    | plain h => cases h
    | @fn f l m h =>
      have e : cs.toList.map (ren0 π) = l := by have := congrArg Array.toList hq; simpa using this
      rw [← e] at h
      have := ren_all (f := ren0 π) (R := RS0 ρ) (S := RS0 (ρ.re π nx')) (b := below0 nx') (fun y u h hb => ren0_R h hb) h hb
      obtain ⟨cs⟩ := cs
      exact RS.fn this
  · have hn : ∀ f a l, y ≠ .func f a l := fun f a l e => hf ⟨f, a, l, e⟩
    obtain ⟨e1, e2⟩ := flat1 (π := π) (nx' := nx') hn
    rw [e1] at h; rw [e2] at hb
    by_cases hs : scalarV (ren0 π y) = true
    · exact (ren0_R (h.down hs) hb).up
    · exfalso
      cases y with
      | agg _ => cases h with | plain h => cases h
      | tuple _ => cases h with | plain h => cases h
      | func f a l => exact hn _ _ _ rfl
      | map r => cases r <;> exact hs rfl
      | _ => exact hs rfl

theorem flat2 {y : Value} (h1 : ∀ l, y ≠ .agg l) : ren2 π y = ren1 π y ∧ below2 nx' y = below1 nx' y := by
  cases y <;> first | exact ⟨rfl, rfl⟩ | exact absurd rfl (h1 _)
theorem ren1_agg {y : Value} (h1 : ∀ l, y ≠ .agg l) : ∀ l, ren1 π y ≠ .agg l := by
  intro l e
  cases y <;> try (cases e; done)
  · rename_i r; cases r <;> cases e
  · exact h1 _ rfl
theorem ren2_R {y u : Value} (h : RC ρ (ren2 π y) u) (hb : below2 nx' y = true) : RC (ρ.re π nx') y u := by
  by_cases ha : ∃ l, y = .agg l
  · obtain ⟨cs, rfl⟩ := ha
    replace h : RC ρ (.agg ⟨cs.toList.map (ren1 π)⟩) u := h
    obtain ⟨m, rfl, h2⟩ := (RV.c h).agg
    have := ren_all (f := ren1 π) (R := RS ρ) (S := RS (ρ.re π nx')) (b := below1 nx') (fun y u h hb => ren1_R h hb) h2 hb
    obtain ⟨cs⟩ := cs
    exact RC.agg this
  · have hn : ∀ l, y ≠ .agg l := fun l e => ha ⟨l, e⟩
    obtain ⟨e1, e2⟩ := flat2 (π := π) (nx' := nx') hn
    rw [e1] at h; rw [e2] at hb
    exact .s (ren1_R (h.flat (ren1_agg hn)) hb)
theorem ren2_tup {y : Value} (h1 : ∀ l, y ≠ .tuple l) : ∀ l, ren2 π y ≠ .tuple l := by
  intro l e
  cases y <;> try (cases e; done)
  · rename_i r; cases r <;> cases e
  · exact h1 _ rfl
theorem RV.notTup {x u : Value} (h : RV ρ x u) (h1 : ∀ l, x ≠ .tuple l) : RC ρ x u := by
  cases h with
  | tup _ => exact absurd rfl (h1 _)
  | c h => exact h
theorem renV_R {y u : Value} (h : RV ρ (renV π y) u) (hb : belowV nx' y = true) : RV (ρ.re π nx') y u := by
  by_cases ha : ∃ l, y = .tuple l
  · obtain ⟨cs, rfl⟩ := ha
    have h : RV ρ (.tuple ⟨cs.toList.map (ren2 π)⟩) u := h
    obtain ⟨m, rfl, h2⟩ := h.tuple
    have hall : ∀ {l m : List Value}, All2 (RC ρ) (l.map (ren2 π)) m → l.all (below2 nx') = true → All2 (RC (ρ.re π nx')) l m := by
      intro l
      induction l with
      | nil => intro m h _; cases h; exact .nil
      | cons x r ih =>
        intro m h hb
        simp only [List.all_cons, Bool.and_eq_true] at hb
        cases h with
        | cons h t => exact .cons (ren2_R h hb.1) (ih t hb.2)
    obtain ⟨cs⟩ := cs
    exact RV.tup (hall h2 hb)
  · have hn : ∀ l, y ≠ .tuple l := fun l e => ha ⟨l, e⟩
    have e1 : renV π y = ren2 π y := by cases y <;> first | rfl | exact absurd rfl (hn _)
    have e2 : belowV nx' y = below2 nx' y := by cases y <;> first | rfl | exact absurd rfl (hn _)
    rw [e1] at h; rw [e2] at hb
    replace h : RC ρ (ren2 π y) u := h.notTup (ren2_tup hn)
    exact .c (ren2_R h hb)
theorem renB_R {i : Nat} {x : ABlk} {p : Nat × Obj} (h : BlkR ρ (renN π i) (renB π x) p) (hi : i < nx') (hb : belowB nx' x = true) : BlkR (ρ.re π nx') i x p := by
  cases x with
  | cells cs t o =>
    replace h : BlkR ρ (renN π i) (.cells (cs.map (ren1 π)) t o) p := h
    cases h with
    | cells h1 hc hn ho => exact .cells (re_at h1 hi) (ren_all (f := ren1 π) (R := RS ρ) (S := RS (ρ.re π nx')) (b := below1 nx') (fun y u h hb => ren1_R h hb) hc hb) hn ho
  | map es =>
    replace h : BlkR ρ (renN π i) (.map (es.map fun p => (p.1, ren2 π p.2))) p := h
    generalize hq : (es.map fun p => (p.1, ren2 π p.2)) = q at h
    cases h with
    | map h1 hm =>
      have hlen : q.length = es.length := by rw [← hq]; simp
      rw [hlen]
      refine .map (re_at h1 hi) ?_
      have key : ∀ {es : List (Value × Value)} {n : Nat} {ms : List MapEntry}, EntR ρ n (es.map fun p => (p.1, ren2 π p.2)) ms → (es.all fun p => below2 nx' p.2) = true → EntR (ρ.re π nx') n es ms := by
        intro es
        induction es with
        | nil => intro n ms h _; cases h; exact .nil
        | cons e r ih =>
          intro n ms h hb
          obtain ⟨k, v⟩ := e
          simp only [List.all_cons, Bool.and_eq_true] at hb
          cases h with
          | cons hk hv t => exact .cons hk (ren2_R hv hb.1) (ih t hb.2)
      rw [← hq] at hm
      exact key hm hb
  | iter es c => 
    replace h : BlkR ρ (renN π i) (.iter es c) p := h
    cases h
end

/-- its blocks' numbers are below one -/
noncomputable def Memo.low (m : Memo) : Bool := belowV m.nx' m.v && m.out.all (fun p => Nat.blt p.1 m.nx' && belowB m.nx' p.2)

/-- by the ways that its args may be -/
theorem memoOk {f : Nat} {m : Memo} (hc : CallOk P K call) (ho : m.ord = true) (hlw : m.low = true) {ways : List (List Value × List (Nat × Nat))} (hw : ∀ ρ rs, All2 (RV ρ) m.args rs → ∃ a ∈ ways, All2 (RV ρ) a.1 rs) (h : ways.all (fun a => m.come call f a) = true) : MemoOk P K f m := by
  intro ρ L w rs hrs hW
  obtain ⟨a, ha, hra⟩ := hw ρ rs hrs
  have h1 := List.all_eq_true.1 h a ha
  unfold Memo.come at h1
  cases hcall : call f a.1 ⟨trOf m.need, m.nx⟩ with
  | none => rw [hcall] at h1; cases h1
  | some q =>
    obtain ⟨v, M1⟩ := q
    rw [hcall] at h1
    simp only [Bool.and_eq_true] at h1
    obtain ⟨⟨hπ, hdis⟩, hv, hout⟩ := h1
    simp only [Memo.ord, Bool.and_eq_true] at ho
    obtain ⟨_, ⟨hd1, hd2⟩, ⟨hlow, hok⟩, hlim, hle⟩ := ho
    have hle := Nat.le_of_ble_eq_true hle
    have hd2 := distinct_nodup hd2
    simp only [Memo.low, Bool.and_eq_true] at hlw
    obtain ⟨hvl, hol⟩ := hlw
    have hok : ∀ p ∈ m.out, p.1 < 1000000 := fun p hp => by have := List.all_eq_true.1 hok p hp; simpa using this
    have hid : ∀ j, j < m.nx → renN (trOf a.2) j = j := fun j hj => by
      unfold renN
      cases hg : (trOf a.2).get j with
      | none => rfl
      | some i =>
        exfalso
        have hm : ∀ (l : List (Nat × Nat)), (l.all (fun p => Nat.ble m.nx p.1 && Nat.blt p.1 1000000)) = true → (trOf l).get j = some i → m.nx ≤ j := by
          intro l
          induction l with
          | nil => intro _ h; rw [trOf, Tr.get_e] at h; cases h
          | cons p r ih =>
            obtain ⟨k, x⟩ := p
            intro hl h
            simp only [List.all_cons, Bool.and_eq_true, Nat.blt_eq] at hl
            rw [trOf, Tr.get_put 20 _ k j (by omega)] at h
            split at h
            · rename_i e; subst e; exact Nat.le_of_ble_eq_true hl.1.1
            · exact ih hl.2 h
        have := hm _ hπ hg
        omega
    obtain ⟨h2, h3⟩ := hc _ _ _ _ _ hcall ρ L w rs hra hW
    refine ⟨h2, h3.mono fun e w' he => ?_⟩
    cases e with
    | panicked _ => exact he.elim
    | outgrown => exact he.elim
    | returned u =>
      obtain ⟨ρ', h4, h5, ids, C, hM, hS⟩ := he
      obtain ⟨qs, q1, q2, q3⟩ := outLe_get hout
      have hqn : (qs.map (·.1)).Nodup := by rw [q1]; exact distinct_nodup hdis
      obtain ⟨idr, Cn, Cr, g1, g2, g3, g4⟩ := part (ρ := ρ') qs ids C hqn q2 (fun q hq => hM.all _ _ (q2 q hq)) hM.nodup hM.each
      refine ⟨ρ'.re (trOf a.2) m.nx', ⟨fun b r hb => ?_, fun j hj => ?_, hle⟩, renV_R (leV_R hv h5) hvl, m.out.map (·.1), Cn, ⟨hd2, ?_, fun i x hx => List.mem_map.2 ⟨_, trOf_mem hok hx, rfl⟩, fun i r hr => ?_⟩, ?_⟩
      · have hbn : b < m.nx := by
          obtain ⟨ids0, C0, hM0, _⟩ := hW
          exact hM0.low b r hb
        have := h4.le b r hb
        unfold Rho.re
        rw [if_pos (by omega), hid b hbn]; exact this
      · have hj : j < m.nx := hj
        unfold Rho.re
        rw [if_pos (by omega), hid j hj]; exact h4.keep j hj
      · have key : ∀ {qs out : List (Nat × ABlk)} {Cn : Chunks}, All2 (fun q p => BlkR ρ' q.1 q.2 p) qs Cn → All2 (fun q p => q.1 = renN (trOf a.2) p.1 ∧ leB q.2 (renB (trOf a.2) p.2) = true) qs out → (∀ p ∈ out, (trOf m.out).get p.1 = some p.2 ∧ p.1 < m.nx' ∧ belowB m.nx' p.2 = true) → All2 (fun i p => ∃ x, (trOf m.out).get i = some x ∧ BlkR (ρ'.re (trOf a.2) m.nx') i x p) (out.map (·.1)) Cn := by
          intro qs out Cn hh
          induction hh generalizing out with
          | nil => intro h _; cases h; exact .nil
          | cons h t ih =>
            intro hq hp
            cases hq with
            | cons hq1 hq2 =>
              obtain ⟨p1, p2, p3⟩ := hp _ (List.mem_cons_self ..)
              refine .cons ⟨_, p1, renB_R (leB_R hq1.2 ?_) p2 p3⟩ (ih hq2 fun p hp' => hp p (List.mem_cons_of_mem _ hp'))
              rw [← hq1.1]; exact h
        exact key g3 q3 fun p hp => ⟨trOf_get hok hd2 hp, by
          have := List.all_eq_true.1 hol p hp
          simp only [Bool.and_eq_true, Nat.blt_eq] at this
          exact this⟩
      · show i < m.nx'
        unfold Rho.re at hr
        split at hr
        · assumption
        · cases hr
      · have : ((Cn ++ Cr) ++ L).Perm ((Cn ++ L) ++ Cr) := by
          rw [List.append_assoc, List.append_assoc]
          exact (List.perm_append_comm (l₁ := Cr) (l₂ := L)).append_left Cn
        exact hS.sub (R := Cr) ((g2.append_right L).trans this)

theorem memoOk1 {f : Nat} {m : Memo} (hc : CallOk P K call) (ho : m.ord = true) (hlw : m.low = true) (h : m.come call f (m.args, []) = true) : MemoOk P K f m :=
  memoOk hc ho hlw (ways := [(m.args, [])]) (fun ρ rs h => ⟨_, List.mem_singleton.2 rfl, h⟩) (by simp [h])

theorem memoR_mem {args : List Value} {M : Mem} {v : Value} {M' : Mem} {d : List Value → Mem → Option (Value × Mem)} : ∀ {ms : List Memo}, memoR d ms args M = some (v, M') → d args M = some (v, M') ∨ ∃ m ∈ ms, M.nx ≤ m.nx ∧ args = m.args ∧ (∀ p ∈ m.need, M.m.get p.1 = some p.2) ∧ v = m.v ∧ M' = ⟨(putL m.out (killL m.need M)).m, m.nx'⟩
  | [], h => .inl h
  | m :: r, h => by
    unfold memoR at h
    cases hb : (Nat.ble M.nx m.nx && (sameVL args m.args && m.need.all (fun p => match M.m.get p.1 with | some y => sameB y p.2 | none => false))) with
    | false =>
      rw [hb] at h
      rcases memoR_mem (ms := r) h with h1 | ⟨m', h1, h2⟩
      · exact .inl h1
      · exact .inr ⟨m', List.mem_cons_of_mem _ h1, h2⟩
    | true =>
      rw [hb] at h
      simp only [Bool.and_eq_true] at hb
      cases h
      refine .inr ⟨m, List.mem_cons_self .., Nat.le_of_ble_eq_true hb.1, sameVL_eq hb.2.1, fun p hp => ?_, rfl, rfl⟩
      have := List.all_eq_true.1 hb.2.2 p hp
      split at this
      · rename_i y hy; rw [hy, sameB_eq this]
      · cases this

/-- the calls that were looked at stand for themselves -/
theorem memoR_ok {f : Nat} {ms : List Memo} {d : List Value → Mem → Option (Value × Mem)} (hms : ∀ m ∈ ms, m.ord = true ∧ MemoOk P K f m) (hd : CallOk P K (fun g args M => if g = f then d args M else none)) : CallOk P K (fun g args M => if g = f then memoR d ms args M else none) := by
  intro g args M v M' h ρ L w rs hrs hW
  by_cases hg : g = f
  case neg => simp only [if_neg hg] at h; cases h
  subst hg
  have h : memoR d ms args M = some (v, M') := by simpa using h
  rcases memoR_mem h with h | ⟨m, hm, hnx, rfl, hneed, rfl, rfl⟩
  · exact hd g args M v M' (by simpa using h) ρ L w rs hrs hW
  obtain ⟨ho, hc⟩ := hms m hm
  simp only [Memo.ord, Bool.and_eq_true] at ho
  obtain ⟨hout, ⟨hd1, hd2⟩, ⟨hlow, hok⟩, hlim, hle⟩ := ho
  have hd1 := distinct_nodup hd1
  have hd2 := distinct_nodup hd2
  have hlim : m.nx' < 1000000 := by simpa using hlim
  have hle := Nat.le_of_ble_eq_true hle
  have hok : ∀ p ∈ m.out, p.1 < 1000000 := fun p hp => by have := List.all_eq_true.1 hok p hp; simpa using this
  have hlow : ∀ p ∈ m.need, p.1 < m.nx := fun p hp => by
    have := List.all_eq_true.1 hlow p hp
    simpa using this
  have hout : ∀ p ∈ m.out, m.nx ≤ p.1 ∨ p.1 ∈ m.need.map (·.1) := fun p hp => by
    have := List.all_eq_true.1 hout p hp
    simp only [Bool.or_eq_true] at this
    rcases this with h | h
    · exact .inl (Nat.le_of_ble_eq_true h)
    · obtain ⟨q, hq, he⟩ := List.any_eq_true.1 h
      exact .inr (List.mem_map.2 ⟨q, hq, Nat.eq_of_beq_eq_true he⟩)
  obtain ⟨ids, C, hM, hw⟩ := hW
  obtain ⟨idr, Cn, Cr, g1, g2, g3, g4⟩ := part (ρ := ρ) m.need ids C hd1 hneed (fun p hp => hM.all _ _ (hneed p hp)) hM.nodup hM.each
  have hidn := g1.nodup_iff.1 hM.nodup
  rw [List.nodup_append] at hidn
  have hmapd : ∀ {l : List (Nat × ABlk)} {Cx : Chunks} {ρ : Rho} {m' : Tr ABlk}, All2 (fun q p => BlkR ρ q.1 q.2 p) l Cx → (∀ p ∈ l, m'.get p.1 = some p.2) → All2 (fun i p => ∃ x, m'.get i = some x ∧ BlkR ρ i x p) (l.map (·.1)) Cx := by
    intro l Cx ρ m' hl
    induction hl with
    | nil => intro _; exact .nil
    | cons h t ih => intro hm; exact .cons ⟨_, hm _ (List.mem_cons_self ..), h⟩ (ih fun p hp => hm p (List.mem_cons_of_mem _ hp))
  have hkey : ∀ p ∈ m.need, p.1 < 1000000 := fun p hp => by have := hlow p hp; omega
  have hW1 : World.Is w K (Cr ++ L) ρ ⟨trOf m.need, m.nx⟩ := by
    refine ⟨m.need.map (·.1), Cn, ⟨hd1, hmapd g3 (fun p hp => trOf_get hkey hd1 hp), fun i x hx => List.mem_map.2 ⟨_, trOf_mem hkey hx, rfl⟩, fun i r hr => ?_⟩, ?_⟩
    · show i < m.nx
      exact Nat.lt_of_lt_of_le (hM.low i r hr) hnx
    · have := hw.perm (g2.append_right L)
      simpa using this
  obtain ⟨h1, h2⟩ := hc ρ (Cr ++ L) w rs hrs hW1
  refine ⟨h1, h2.mono fun e w' he => ?_⟩
  cases e with
  | panicked _ => exact he.elim
  | outgrown => exact he.elim
  | returned u =>
  obtain ⟨ρ', hup, hvu, ids2, C2, hM2, hw2⟩ := he
  obtain ⟨ido, Co, Cx, k1, k2, k3, k4⟩ := part (ρ := ρ') (M := ⟨trOf m.out, m.nx'⟩) m.out ids2 C2 hd2 (fun p hp => trOf_get hok hd2 hp) (fun p hp => hM2.all _ _ (trOf_get hok hd2 hp)) hM2.nodup hM2.each
  have hrlow : ∀ i ∈ idr, i < m.nx := fun i hi => by
    obtain ⟨b, _, _, _, _, ⟨y, _, h5⟩, _⟩ := all2_pull g4 hi
    cases h5 with
    | cells h _ _ => exact Nat.lt_of_lt_of_le (hM.low _ _ h) hnx
    | map h _ => exact Nat.lt_of_lt_of_le (hM.low _ _ h) hnx
  have hrn : ∀ i ∈ idr, i ∉ m.need.map (·.1) := fun i hi hn => hidn.2.2 i hn i hi rfl
  have hro : ∀ i ∈ idr, i ∉ m.out.map (·.1) := fun i hi ho => by
    obtain ⟨p, hp, rfl⟩ := List.mem_map.1 ho
    rcases hout p hp with h3 | h3
    · have := hrlow _ hi; omega
    · exact hrn _ hi h3
  have hget : ∀ i ∈ idr, (putL m.out (killL m.need M)).m.get i = M.m.get i := fun i hi => by
    rw [putL_ne _ _ hok (hro i hi), killL_get hkey, if_neg (hrn i hi)]
  refine ⟨ρ', ⟨hup.le, fun j hj => hup.keep j (by show j < m.nx; omega), ?_⟩, hvu, m.out.map (·.1) ++ idr, Co ++ Cr, ⟨?_, all2_app (hmapd k3 fun p hp => putL_get _ _ hok hd2 hp) ?_, fun i x hx => ?_, fun i r hr => hM2.low i r hr⟩, ?_⟩
  · show M.nx ≤ m.nx'
    omega
  · rw [List.nodup_append]
    exact ⟨hd2, hidn.2.1, fun a ha b hb e => hro b hb (e ▸ ha)⟩
  · have hmono : ∀ {l : List Nat} {Cy : Chunks}, (∀ i ∈ l, (putL m.out (killL m.need M)).m.get i = M.m.get i) → All2 (fun i p => ∃ x, M.m.get i = some x ∧ BlkR ρ i x p) l Cy → All2 (fun i p => ∃ x, (putL m.out (killL m.need M)).m.get i = some x ∧ BlkR ρ' i x p) l Cy := by
      intro l Cy hl hh
      induction hh with
      | nil => exact .nil
      | cons h t ih =>
        obtain ⟨x, h5, h6⟩ := h
        exact .cons ⟨x, by rw [hl _ (List.mem_cons_self ..)]; exact h5, h6.mono hup.le⟩ (ih fun i hi => hl i (List.mem_cons_of_mem _ hi))
    exact hmono hget g4
  · have hx : (putL m.out (killL m.need M)).m.get i = some x := hx
    by_cases ho : i ∈ m.out.map (·.1)
    · exact List.mem_append_left _ ho
    · rw [putL_ne _ _ hok ho, killL_get hkey] at hx
      split at hx
      · cases hx
      · rename_i hn
        rcases List.mem_append.1 (g1.mem_iff.1 (hM.all _ _ hx)) with h5 | h5
        · exact absurd h5 hn
        · exact List.mem_append_right _ h5
  · have := hw2.perm (k2.append_right (Cr ++ L))
    have h5 : Sat w' K ((Co ++ Cr ++ L) ++ Cx) := this.perm (by
      have : ((Co ++ Cx) ++ (Cr ++ L)).Perm ((Co ++ (Cr ++ L)) ++ Cx) := by
        rw [List.append_assoc, List.append_assoc]
        exact (List.perm_append_comm (l₁ := Cx) (l₂ := Cr ++ L)).append_left Co
      simpa using this)
    exact h5.sub (R := Cx) (.refl _)
theorem noD_ok {f : Nat} : CallOk P K (fun g args M => if g = f then noD args M else none) := by
  intro g args M v M' h
  have h : (if g = f then (none : Option (Value × Mem)) else none) = some (v, M') := h
  by_cases hg : g = f
  · rw [if_pos hg] at h; cases h
  · rw [if_neg hg] at h; cases h
theorem only_ok {f : Nat} (h : CallOk P K call) : CallOk P K (fun g args M => if g = f then call f args M else none) := by
  intro g args M v M' h1
  by_cases hg : g = f
  · subst hg; exact h g args M v M' (by simpa using h1)
  · simp only [if_neg hg] at h1; cases h1
end
end Go.Ev
