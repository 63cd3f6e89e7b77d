/- The evaluator, quicker: regions that draw their order. -/
import Derived.Test.YtheedjgpfpghbaaGreatDSb
set_option linter.unusedVariables false
set_option linter.unusedSectionVars false
set_option linter.unusedSimpArgs false
namespace Go.Ev
open Go Go.Fw

structure TV where
  t : Tr Value
  v : Tr Value
section
variable [SymT] (tab : Nat → Option TI) (eqs : Nat → Option (List TK)) (zt : Nat → Option Value)

noncomputable def evR (l : List Oper) (ms : Tr Nat) (i : Nat) (x : Operand) : Bx (TV → Option Value) := match x with
  | .tmp t => match wrF t l 0 with
    | none => (match trG Value t with | ⟨f⟩ => ⟨fun s => f s.1⟩)
    | some j => bif tb (getN ms i) j then (match trG Value j with | ⟨f⟩ => ⟨fun s => f s.2⟩) else bif tb (getN ms j) i then (match trG Value t with | ⟨f⟩ => ⟨fun s => f s.1⟩) else ⟨fun _ => none⟩
  | x => match evS x with | ⟨f⟩ => ⟨fun s => f .e⟩
theorem evR_eq (l : List Oper) (ms : Tr Nat) (i : Nat) (x : Operand) (s : TV) : (evR l ms i x).un s = evG l s.t ms s.v i x := by
  unfold evR evG
  have hx : ∀ x : Operand, (match evS x with | ⟨f⟩ => (⟨fun s => f .e⟩ : Bx (TV → Option Value))).un s = evD .e x := fun x => by
    rw [← evS_eq]
  cases x with
  | tmp t =>
    simp only
    cases wrF t l 0 with
    | none => rfl
    | some j =>
      simp only
      cases tb (getN ms i) j with
      | true => rfl
      | false =>
        simp only [cond_false]
        cases tb (getN ms j) i <;> rfl
  | const v => exact hx _
  | global g => exact hx _
  | func f => exact hx _

/-- a guard: yes, no, cannot be told -/
noncomputable def gR (l : List Oper) (ms : Tr Nat) (i j : Nat) (want : Bool) : Bx (Tr Value → RR → RR → RR → RR) := match nthO l j with
  | some o => match o.dst with
    | some t => bif tb (getN ms i) j then (match trG Value j with | ⟨f⟩ => ⟨fun V y n d => @Option.rec Value (fun _ => RR) d (fun v => gvK want v y n d) (f V)⟩) else ⟨fun _ _ _ d => d⟩
    | none => ⟨fun _ _ _ d => d⟩
  | none => ⟨fun _ _ _ d => d⟩
theorem gR_eq (l : List Oper) (ms : Tr Nat) (i j : Nat) (want : Bool) (V : Tr Value) (y n d : RR) : (gR l ms i j want).un V y n d = match gdG l ms V i (some (j, want)) with | some true => y | some false => n | none => d := by
  unfold gR gdG
  simp only
  cases nthO l j with
  | none => rfl
  | some o =>
    simp only
    cases o.dst with
    | none => rfl
    | some t =>
      simp only
      cases tb (getN ms i) j with
      | false => rfl
      | true =>
        show @Option.rec Value (fun _ => RR) d (fun v => gvK want v y n d) (V.get j) = _
        simp only [cond_true]
        cases V.get j with
        | none => rfl
        | some v =>
          cases v with
          | bool b => show gvK want (.bool b) y n d = _; rw [gvK_bool]; cases b <;> cases want <;> rfl
          | _ => rfl

/-- new blocks that something waits for -/
noncomputable def extR (b0 pm cp : Nat) (B : List (Nat × ABlk)) : Mem → (Mem → RR) → RR := @List.rec (Nat × ABlk) (fun _ => Mem → (Mem → RR) → RR) (fun M k => k M) (fun p _ ih M k => @Prod.rec Nat ABlk (fun _ => RR) (fun j x => @Bool.rec (fun _ => RR) (ih M k) (@Bool.rec (fun _ => RR) (canonN (Nat.add b0 j) (fun b => ih ⟨(trP ABlk b).un (some x) M.1, M.2⟩ k)) (ih M k) (tb cp j)) (tb pm j)) p) B
theorem extR_eq (b0 pm cp : Nat) : ∀ (B : List (Nat × ABlk)) (M : Mem) (k : Mem → RR), extR b0 pm cp B M k = k (extM b0 pm cp B M)
  | [], M, k => rfl
  | (j, x) :: r, M, k => by
    show @Bool.rec (fun _ => RR) (extR b0 pm cp r M k) (@Bool.rec (fun _ => RR) (canonN (Nat.add b0 j) (fun b => extR b0 pm cp r (M.set b x) k)) (extR b0 pm cp r M k) (tb cp j)) (tb pm j) = k (extM b0 pm cp r (bif tb pm j && !(tb cp j) then M.set (Nat.add b0 j) x else M))
    rw [canonN_eq]
    cases tb pm j with
    | false => exact extR_eq b0 pm cp r M k
    | true => cases tb cp j with
      | true => exact extR_eq b0 pm cp r M k
      | false => exact extR_eq b0 pm cp r _ k

/-! ### one operation -/
noncomputable def bN (o : Option (ABlk × (Nat → Value))) (k : ABlk → (Nat → Value) → RR) : RR := @Option.rec (ABlk × (Nat → Value)) (fun _ => RR) none (fun p => @Prod.rec ABlk (Nat → Value) (fun _ => RR) k p) o
noncomputable def newR (ev : Operand → Bx (TV → Option Value)) (op : Op) : Bx (TV → (ABlk → (Nat → Value) → RR) → RR) := match op with
  | .alloc t => (match tab t with
    | some i => ⟨fun s k => k (.cells i.zero t false) (fun b => .pointer (some ⟨b, 0, none⟩))⟩
    | none => ⟨fun _ _ => none⟩)
  | .box t x => (match ev x with
    | ⟨f⟩ => ⟨fun s k => @Option.rec Value (fun _ => RR) none (fun v => cellsK v v (fun w => k (.cells w t false) (fun b => .pointer (some ⟨b, 0, none⟩)))) (f s)⟩)
  | op => ⟨fun s k => bN (newD tab op (fun x => (ev x).un s)) k⟩
theorem newR_eq (ev : Operand → Bx (TV → Option Value)) (op : Op) (s : TV) (e : Operand → Option Value) (he : ∀ x, (ev x).un s = e x) (k : ABlk → (Nat → Value) → RR) : (newR tab ev op).un s k = bN (newD tab op e) k := by
  unfold newR
  split
  · unfold newD; simp only; cases tab _ <;> rfl
  · rename_i t x
    unfold newD; simp only
    rw [← he x]
    rcases ev x with ⟨f⟩
    simp only
    cases f s with
    | none => rfl
    | some v =>
      simp only [cellsK_eq]
      cases storable v <;> rfl
  · obtain rfl : (fun x => (ev x).un s) = e := funext he
    rfl

noncomputable def readR (ev : Operand → Bx (TV → Option Value)) (op : Op) : Bx (CallT1 → TV → Mem → (Value → RR) → RR) := match op with
  | .load t x => (match ev x, ldS tab t with
    | ⟨f⟩, ⟨h⟩ => ⟨fun call s M k => @Option.rec Value (fun _ => RR) none (fun v => ptrK v (fun b o => canonN b (fun b => blkK ((trG ABlk b).un M.1) (fun cs _ _ => h cs o k)))) (f s)⟩)
  | op => ⟨fun call s M k => bM (opm tab zt call op (fun x => (ev x).un s) M) (fun v _ => k v)⟩
theorem readR_eq (ev : Operand → Bx (TV → Option Value)) (op : Op) (call : CallT1) (s : TV) (e : Operand → Option Value) (he : ∀ x, (ev x).un s = e x) (M : Mem) (k : Value → RR) : (readR tab zt ev op).un call s M k = bM (opm tab zt call op e M) (fun v _ => k v) := by
  unfold readR
  split
  · rename_i t x
    have h2 := ldS_eq tab t
    show _ = bM (opmLoad tab t x e M) _
    unfold opmLoad
    rw [← he x]
    revert h2
    rcases ev x with ⟨f⟩; rcases ldS tab t with ⟨h⟩
    intro h2
    simp only
    show @Option.rec Value (fun _ => RR) none (fun v => ptrK v (fun b o => canonN b (fun b => blkK (M.m.get b) (fun cs _ _ => h cs o k)))) (f s) = _
    cases f s with
    | none => rfl
    | some v =>
      simp only [ptrK_eq]
      cases v <;> try rfl
      rename_i a; rcases a with _ | ⟨b, o, s⟩
      · rfl
      · cases s with
        | some s => rfl
        | none =>
          simp only [canonN_eq]
          cases M.m.get b with
          | none => rfl
          | some z =>
            cases z with
            | cells cs u opn =>
              have h3 : h cs o k = bV (ldD tab t cs o) k := h2 cs o _
              show h cs o k = _
              rw [h3]
              simp only
              cases ldD tab t cs o <;> rfl
            | map _ => rfl
            | iter _ _ => rfl
  · obtain rfl : (fun x => (ev x).un s) = e := funext he
    rfl

/-! ### the pass -/
abbrev PA := Tr Value → List (Nat × ABlk) → List (Nat × Mem × Nat) → Nat → Mem → RR
abbrev PB := CallT1 → Tr Value → Nat → PA → PA
noncomputable def bP (o : Option PS) (k : PS → RR) : RR := @Option.rec PS (fun _ => RR) none k o

noncomputable def hsOk (pm : Nat) (hs : List (Nat × Mem × Nat)) : Bool := @List.rec (Nat × Mem × Nat) (fun _ => Bool) true (fun h _ ih => @Bool.rec (fun _ => Bool) false ih (tb pm h.2.2)) hs
theorem hsOk_eq (pm : Nat) : ∀ hs : List (Nat × Mem × Nat), hsOk pm hs = hs.all (fun h => tb pm h.2.2)
  | [] => rfl
  | h :: r => by
    show @Bool.rec (fun _ => Bool) false (hsOk pm r) (tb pm h.2.2) = _
    rw [hsOk_eq pm r, List.all_cons]
    cases tb pm h.2.2 <;> rfl

noncomputable def doR (l : List Oper) (ms : Tr Nat) (i : Nat) (op : Op) : Bx PB := match trP Value i with
  | ⟨p⟩ => bif isNew op then (match newR tab (evR l ms i) op with
      | ⟨f⟩ => ⟨fun call T b0 kk V B hs cp M => f ⟨T, V⟩ (fun x mk => canonN (Nat.add b0 i) (fun b => kk (p (some (mk b)) V) (B ++ [(i, x)]) hs cp M))⟩)
    else bif isRead op then (match readR tab zt (evR l ms i) op with
      | ⟨f⟩ => ⟨fun call T b0 kk V B hs cp M => extR b0 (getN ms i) cp B M (fun M' => f call ⟨T, V⟩ M' (fun v => kk (p (some v) V) B hs cp M))⟩)
    else bif isMem op then (match memS tab eqs zt (evR l ms i) op with
      | ⟨f⟩ => ⟨fun call T b0 kk V B hs cp M => @Bool.rec (fun _ => RR) none (extR b0 (getN ms i) cp B M (fun M' => f call ⟨T, V⟩ M' (fun v M1 => kk (p (some v) V) B (hs ++ [(cp, M, i)]) (Nat.lor cp (getN ms i)) M1))) (hsOk (getN ms i) hs)⟩)
    else (match opS tab eqs (evR l ms i) op with
      | ⟨f⟩ => ⟨fun call T b0 kk V B hs cp M => f ⟨T, V⟩ (fun v => kk (p (some v) V) B hs cp M)⟩)
noncomputable def passR (l : List Oper) (ms : Tr Nat) (i : Nat) (o : Oper) : Bx PB := match o.guard with
  | none => doR tab eqs zt l ms i o.op
  | some (j, want) => match gR l ms i j want, doR tab eqs zt l ms i o.op, trP Value i with
    | ⟨g⟩, ⟨f⟩, ⟨p⟩ => ⟨fun call T b0 kk V B hs cp M => g V (f call T b0 kk V B hs cp M) (kk (p (some undef) V) B hs cp M) none⟩

theorem doR_eq (l : List Oper) (ms : Tr Nat) (i : Nat) (op : Op) (call : CallT1) (T : Tr Value) (b0 : Nat) (dn : Nat) (ih : PS → Option PS) (kk : PA) (k : PS → RR) (hk : ∀ V B hs cp M, kk V B hs cp M = bP (ih ⟨V, B, hs, cp, M, Nat.lor dn (bit i)⟩) k) (V : Tr Value) (B : List (Nat × ABlk)) (hs : List (Nat × Mem × Nat)) (cp : Nat) (M : Mem) (o : Oper) (ho : o.op = op) (hg : gdG l ms V i o.guard = some true) :
    (doR tab eqs zt l ms i op).un call T b0 kk V B hs cp M = bP (match passOp tab eqs zt call l T ms b0 i o ⟨V, B, hs, cp, M, dn⟩ with | some s => ih s | none => none) k := by
  have he : ∀ x, (evR l ms i x).un ⟨T, V⟩ = evG l T ms V i x := fun x => evR_eq l ms i x ⟨T, V⟩
  have hf : ∀ g, evG l T ms V i (.func g) = some (.func (.func g) #[] #[]) := fun _ => rfl
  unfold passOp
  simp only [hg, ho]
  unfold doR
  have hp : ∀ v, (trP Value i).un (some v) V = V.put (some v) 20 i := fun _ => rfl
  revert hp
  rcases trP Value i with ⟨p⟩
  intro hp
  have hp : ∀ v, p (some v) V = V.put (some v) 20 i := hp
  simp only
  cases h1 : isNew op with
  | true =>
    simp only [cond_true]
    have h := newR_eq tab (evR l ms i) op ⟨T, V⟩ _ he
    revert h
    rcases newR tab (evR l ms i) op with ⟨f⟩
    intro h
    have h : ∀ k, f ⟨T, V⟩ k = bN (newD tab op (evG l T ms V i)) k := h
    show f ⟨T, V⟩ _ = _
    rw [h]
    cases newD tab op (evG l T ms V i) with
    | none => rfl
    | some q =>
      obtain ⟨x, mk⟩ := q
      show canonN (Nat.add b0 i) (fun b => kk (p (some (mk b)) V) (B ++ [(i, x)]) hs cp M) = _
      rw [canonN_eq, hp, hk]
  | false =>
    simp only [cond_false]
    cases h2 : isRead op with
    | true =>
      simp only [cond_true]
      have h := readR_eq tab zt (evR l ms i) op call ⟨T, V⟩ _ he
      revert h
      rcases readR tab zt (evR l ms i) op with ⟨f⟩
      intro h
      have h : ∀ M k, f call ⟨T, V⟩ M k = bM (opm tab zt call op (evG l T ms V i) M) (fun v _ => k v) := h
      show extR b0 (getN ms i) cp B M _ = _
      rw [extR_eq]
      show f call ⟨T, V⟩ (extM b0 (getN ms i) cp B M) (fun v => kk (p (some v) V) B hs cp M) = _
      rw [h]
      cases opm tab zt call op (evG l T ms V i) (extM b0 (getN ms i) cp B M) with
      | none => rfl
      | some q =>
        obtain ⟨v, M'⟩ := q
        show kk (p (some v) V) B hs cp M = _
        rw [hp, hk]
    | false =>
      simp only [cond_false]
      cases h3 : isMem op with
      | true =>
        simp only [cond_true]
        have h := fun M k => memS_eq tab eqs zt (evR l ms i) op call ⟨T, V⟩ _ he hf M k
        revert h
        rcases memS tab eqs zt (evR l ms i) op with ⟨f⟩
        intro h
        have h : ∀ M k, f call ⟨T, V⟩ M k = bM (opD tab eqs zt call op (evG l T ms V i) M) k := h
        show @Bool.rec (fun _ => RR) none (extR b0 (getN ms i) cp B M _) (hsOk (getN ms i) hs) = _
        rw [hsOk_eq]
        cases hs.all (fun h => tb (getN ms i) h.2.2) with
        | false => rfl
        | true =>
          show extR b0 (getN ms i) cp B M _ = _
          rw [extR_eq]
          show f call ⟨T, V⟩ (extM b0 (getN ms i) cp B M) (fun v M1 => kk (p (some v) V) B (hs ++ [(cp, M, i)]) (Nat.lor cp (getN ms i)) M1) = _
          rw [h]
          simp only [cond_true]
          cases opD tab eqs zt call op (evG l T ms V i) (extM b0 (getN ms i) cp B M) with
          | none => rfl
          | some q =>
            obtain ⟨v, M'⟩ := q
            show kk (p (some v) V) B _ _ M' = _
            rw [hp, hk]
      | false =>
        simp only [cond_false]
        have h := fun k => opS_eq tab eqs (evR l ms i) op ⟨T, V⟩ _ he k
        revert h
        rcases opS tab eqs (evR l ms i) op with ⟨f⟩
        intro h
        have h : ∀ k, f ⟨T, V⟩ k = bV (opw tab eqs op (evG l T ms V i)) k := h
        show f ⟨T, V⟩ _ = _
        rw [h]
        cases opw tab eqs op (evG l T ms V i) with
        | none => rfl
        | some v =>
          show kk (p (some v) V) B hs cp M = _
          rw [hp, hk]

theorem passR_eq (l : List Oper) (ms : Tr Nat) (i : Nat) (o : Oper) (call : CallT1) (T : Tr Value) (b0 : Nat) (dn : Nat) (ih : PS → Option PS) (kk : PA) (k : PS → RR) (hk : ∀ V B hs cp M, kk V B hs cp M = bP (ih ⟨V, B, hs, cp, M, Nat.lor dn (bit i)⟩) k) (V : Tr Value) (B : List (Nat × ABlk)) (hs : List (Nat × Mem × Nat)) (cp : Nat) (M : Mem) :
    (passR tab eqs zt l ms i o).un call T b0 kk V B hs cp M = bP (match passOp tab eqs zt call l T ms b0 i o ⟨V, B, hs, cp, M, dn⟩ with | some s => ih s | none => none) k := by
  have hd := doR_eq tab eqs zt l ms i o.op call T b0 dn ih kk k hk V B hs cp M o rfl
  unfold passR
  cases hgu : o.guard with
  | none => exact hd (by rw [hgu]; rfl)
  | some q =>
    obtain ⟨j, want⟩ := q
    simp only
    have hp : ∀ v, (trP Value i).un (some v) V = V.put (some v) 20 i := fun _ => rfl
    have hq := gR_eq l ms i j want V
    revert hp hq hd
    rcases gR l ms i j want with ⟨g⟩
    rcases doR tab eqs zt l ms i o.op with ⟨f⟩
    rcases trP Value i with ⟨p⟩
    intro hd hp hq
    have hp : ∀ v, p (some v) V = V.put (some v) 20 i := hp
    have hq : ∀ y n d, g V y n d = match gdG l ms V i (some (j, want)) with | some true => y | some false => n | none => d := hq
    have hd : gdG l ms V i o.guard = some true → f call T b0 kk V B hs cp M = _ := hd
    show g V (f call T b0 kk V B hs cp M) (kk (p (some undef) V) B hs cp M) none = _
    rw [hq]
    cases hgd : gdG l ms V i (some (j, want)) with
    | none => unfold passOp; simp only [hgu, hgd]; rfl
    | some b =>
      cases b with
      | true => exact hd (by rw [hgu]; exact hgd)
      | false =>
        unfold passOp; simp only [hgu, hgd]
        rw [hp, hk]

noncomputable def stepR (l : List Oper) (ms : Tr Nat) (i dn : Nat) : Bx PB := match nthO l i with
  | some o => bif (Nat.beq (preOf ms o) (getN ms i) && Nat.beq (Nat.land (getN ms i) dn) (getN ms i)) && (!(tb dn i) && Nat.blt i 1000) then passR tab eqs zt l ms i o else ⟨fun _ _ _ _ _ _ _ _ _ => none⟩
  | none => ⟨fun _ _ _ _ _ _ _ _ _ => none⟩
noncomputable def passL (l : List Oper) (ms : Tr Nat) (ord : List Nat) : Nat → Bx PB := @List.rec Nat (fun _ => Nat → Bx PB) (fun dn => ⟨fun call T b0 kk => kk⟩) (fun i _ ih dn => match stepR tab eqs zt l ms i dn, ih (Nat.lor dn (bit i)) with
  | ⟨f⟩, ⟨g⟩ => ⟨fun call T b0 kk V B hs cp M => f call T b0 (g call T b0 kk) V B hs cp M⟩) ord
noncomputable def dnL (ord : List Nat) : Nat → Nat := @List.rec Nat (fun _ => Nat → Nat) (fun dn => dn) (fun i _ ih dn => ih (Nat.lor dn (bit i))) ord
theorem passL_eq (l : List Oper) (ms : Tr Nat) (call : CallT1) (T : Tr Value) (b0 : Nat) (k : PS → RR) : ∀ (ord : List Nat) (dn : Nat) (kk : PA) (hk : ∀ V B hs cp M, kk V B hs cp M = k ⟨V, B, hs, cp, M, dnL ord dn⟩) (V : Tr Value) (B : List (Nat × ABlk)) (hs : List (Nat × Mem × Nat)) (cp : Nat) (M : Mem),
    (passL tab eqs zt l ms ord dn).un call T b0 kk V B hs cp M = bP (passD tab eqs zt call l T ms b0 ord ⟨V, B, hs, cp, M, dn⟩) k
  | [], dn, kk, hk, V, B, hs, cp, M => hk V B hs cp M
  | i :: r, dn, kk, hk, V, B, hs, cp, M => by
    have ih := passL_eq l ms call T b0 k r (Nat.lor dn (bit i)) kk hk
    show (match stepR tab eqs zt l ms i dn, passL tab eqs zt l ms r (Nat.lor dn (bit i)) with
      | ⟨f⟩, ⟨g⟩ => (⟨fun call T b0 kk V B hs cp M => f call T b0 (g call T b0 kk) V B hs cp M⟩ : Bx PB)).un call T b0 kk V B hs cp M = bP (stepP tab eqs zt call l T ms b0 i (passD tab eqs zt call l T ms b0 r) ⟨V, B, hs, cp, M, dn⟩) k
    unfold stepR stepP
    revert ih
    rcases passL tab eqs zt l ms r (Nat.lor dn (bit i)) with ⟨g⟩
    intro ih
    have ih : ∀ V B hs cp M, g call T b0 kk V B hs cp M = bP (passD tab eqs zt call l T ms b0 r ⟨V, B, hs, cp, M, Nat.lor dn (bit i)⟩) k := ih
    cases nthO l i with
    | none => rfl
    | some o =>
      simp only
      cases (Nat.beq (preOf ms o) (getN ms i) && Nat.beq (Nat.land (getN ms i) dn) (getN ms i)) && (!(tb dn i) && Nat.blt i 1000) with
      | false => rfl
      | true =>
        simp only [cond_true]
        have h := passR_eq tab eqs zt l ms i o call T b0 dn (passD tab eqs zt call l T ms b0 r) (g call T b0 kk) k ih V B hs cp M
        revert h
        rcases passR tab eqs zt l ms i o with ⟨f⟩
        intro h
        exact h

/-! ### what is read is the same at each stage -/
noncomputable def hsR (rd : Mem → (Value → RR) → RR) (b0 pm i : Nat) (B : List (Nat × ABlk)) (v : Value) (next : RR) (hs : List (Nat × Mem × Nat)) : RR := @List.rec (Nat × Mem × Nat) (fun _ => RR) next (fun h _ ih => @Bool.rec (fun _ => RR) (@Bool.rec (fun _ => RR) (extR b0 pm h.1 B h.2.1 (fun M' => rd M' (fun u => @Bool.rec (fun _ => RR) none ih (sameV u v)))) ih (tb pm h.2.2)) ih (tb h.1 i)) hs
theorem hsR_eq (rd : Mem → (Value → RR) → RR) (at_ : Mem → Option Value) (hrd : ∀ M k, rd M k = bV (at_ M) k) (b0 pm i : Nat) (B : List (Nat × ABlk)) (v : Value) (next : RR) : ∀ hs : List (Nat × Mem × Nat), hsR rd b0 pm i B v next hs = bif hs.all (fun h => tb h.1 i || (tb pm h.2.2 || (match at_ (extM b0 pm h.1 B h.2.1) with | some u => sameV u v | none => false))) then next else none
  | [] => rfl
  | h :: r => by
    show @Bool.rec (fun _ => RR) (@Bool.rec (fun _ => RR) (extR b0 pm h.1 B h.2.1 (fun M' => rd M' (fun u => @Bool.rec (fun _ => RR) none (hsR rd b0 pm i B v next r) (sameV u v)))) (hsR rd b0 pm i B v next r) (tb pm h.2.2)) (hsR rd b0 pm i B v next r) (tb h.1 i) = _
    rw [hsR_eq rd at_ hrd b0 pm i B v next r, List.all_cons, extR_eq, hrd]
    cases tb h.1 i with
    | true => rfl
    | false => cases tb pm h.2.2 with
      | true => rfl
      | false =>
        simp only [Bool.false_or]
        cases at_ (extM b0 pm h.1 B h.2.1) with
        | none => rfl
        | some u => show @Bool.rec (fun _ => RR) none _ (sameV u v) = _
                    simp only
                    cases sameV u v <;> rfl

abbrev RB := CallT1 → Tr Value → Nat → Tr Value → List (Nat × ABlk) → List (Nat × Mem × Nat) → Nat → Mem → RR → RR
noncomputable def rdR (l : List Oper) (ms : Tr Nat) (i : Nat) (op : Op) : Bx RB := match readR tab zt (evR l ms i) op, trG Value i with
  | ⟨f⟩, ⟨g⟩ => ⟨fun call T b0 V B hs cp M next => @Option.rec Value (fun _ => RR) none (fun v => hsR (fun M' k => f call ⟨T, V⟩ M' k) b0 (getN ms i) i B v (@Bool.rec (fun _ => RR) (extR b0 (getN ms i) cp B M (fun M' => f call ⟨T, V⟩ M' (fun u => @Bool.rec (fun _ => RR) none next (sameV u v)))) next (tb cp i)) hs) (g V)⟩
noncomputable def rdO (l : List Oper) (ms : Tr Nat) (i : Nat) (o : Oper) : Bx RB := bif isRead o.op then (match o.guard with
    | none => rdR tab zt l ms i o.op
    | some (j, want) => match gR l ms i j want, rdR tab zt l ms i o.op with
      | ⟨g⟩, ⟨f⟩ => ⟨fun call T b0 V B hs cp M next => g V (f call T b0 V B hs cp M next) next next⟩)
  else ⟨fun call T b0 V B hs cp M next => next⟩
noncomputable def rdsR (l : List Oper) (ms : Tr Nat) (dn : Nat) : List Oper → Nat → Bx RB := fun r => @List.rec Oper (fun _ => Nat → Bx RB) (fun _ => ⟨fun call T b0 V B hs cp M next => next⟩) (fun o _ ih i => match bif tb dn i then rdO tab zt l ms i o else ⟨fun call T b0 V B hs cp M next => none⟩, ih (i + 1) with
  | ⟨f⟩, ⟨g⟩ => ⟨fun call T b0 V B hs cp M next => f call T b0 V B hs cp M (g call T b0 V B hs cp M next)⟩) r

theorem rdR_eq (l : List Oper) (ms : Tr Nat) (i : Nat) (o : Oper) (call : CallT1) (T : Tr Value) (b0 : Nat) (s : PS) (next : RR) (hg : gdG l ms s.V i o.guard = some true) (hr : isRead o.op = true) : (rdR tab zt l ms i o.op).un call T b0 s.V s.B s.hs s.cp s.M next = bif rdOk tab zt call l T ms b0 s i o then next else none := by
  have he : ∀ x, (evR l ms i x).un ⟨T, s.V⟩ = evG l T ms s.V i x := fun x => evR_eq l ms i x ⟨T, s.V⟩
  have h := readR_eq tab zt (evR l ms i) o.op call ⟨T, s.V⟩ _ he
  unfold rdR rdOk
  simp only [hg, hr, cond_true]
  revert h
  rcases readR tab zt (evR l ms i) o.op with ⟨f⟩
  intro h
  have h : ∀ M k, f call ⟨T, s.V⟩ M k = bM (opm tab zt call o.op (evG l T ms s.V i) M) (fun v _ => k v) := h
  show @Option.rec Value (fun _ => RR) none _ (s.V.get i) = _
  cases s.V.get i with
  | none => rfl
  | some v =>
    have h' : ∀ M k, (fun M' k => f call ⟨T, s.V⟩ M' k) M k = bV ((opm tab zt call o.op (evG l T ms s.V i) M).map (·.1)) k := fun M k => by
      show f call ⟨T, s.V⟩ M k = _
      rw [h]
      cases opm tab zt call o.op (evG l T ms s.V i) M <;> rfl
    have hat : ∀ M, (match (opm tab zt call o.op (evG l T ms s.V i) M).map (·.1) with | some u => sameV u v | none => false) = rdAt tab zt call o.op (evG l T ms s.V i) M v := fun M => by
      unfold rdAt
      cases opm tab zt call o.op (evG l T ms s.V i) M with
      | none => rfl
      | some q => obtain ⟨u, M1⟩ := q; rfl
    show hsR _ b0 (getN ms i) i s.B v _ s.hs = _
    rw [hsR_eq _ _ h' b0 (getN ms i) i s.B v]
    simp only [hat]
    show (bif _ then @Bool.rec (fun _ => RR) (extR b0 (getN ms i) s.cp s.B s.M (fun M' => f call ⟨T, s.V⟩ M' (fun u => @Bool.rec (fun _ => RR) none next (sameV u v)))) next (tb s.cp i) else none) = _
    have hlast : (@Bool.rec (fun _ => RR) (extR b0 (getN ms i) s.cp s.B s.M (fun M' => f call ⟨T, s.V⟩ M' (fun u => @Bool.rec (fun _ => RR) none next (sameV u v)))) next (tb s.cp i)) = bif tb s.cp i || rdAt tab zt call o.op (evG l T ms s.V i) (extM b0 (getN ms i) s.cp s.B s.M) v then next else none := by
      rw [extR_eq, h]
      cases tb s.cp i with
      | true => rfl
      | false =>
        simp only [Bool.false_or]
        unfold rdAt
        cases opm tab zt call o.op (evG l T ms s.V i) (extM b0 (getN ms i) s.cp s.B s.M) with
        | none => rfl
        | some q =>
          obtain ⟨u, M1⟩ := q
          show @Bool.rec (fun _ => RR) none next (sameV u v) = _
          simp only
          cases sameV u v <;> rfl
    rw [hlast]
    cases (s.hs.all fun h => tb h.1 i || (tb (getN ms i) h.2.2 || rdAt tab zt call o.op (evG l T ms s.V i) (extM b0 (getN ms i) h.1 s.B h.2.1) v)) <;> rfl

theorem rdO_eq (l : List Oper) (ms : Tr Nat) (i : Nat) (o : Oper) (call : CallT1) (T : Tr Value) (b0 : Nat) (s : PS) (next : RR) : (rdO tab zt l ms i o).un call T b0 s.V s.B s.hs s.cp s.M next = bif rdOk tab zt call l T ms b0 s i o then next else none := by
  have h := rdR_eq tab zt l ms i o call T b0 s next
  unfold rdO
  cases hr : isRead o.op with
  | false =>
    simp only [cond_false]
    unfold rdOk
    rw [hr]
    cases gdG l ms s.V i o.guard with
    | none => rfl
    | some b => cases b <;> rfl
  | true =>
    simp only [cond_true]
    cases hgu : o.guard with
    | none => exact h (by rw [hgu]; rfl) hr
    | some q =>
      obtain ⟨j, want⟩ := q
      simp only
      have hq := gR_eq l ms i j want s.V
      revert hq h
      rcases gR l ms i j want with ⟨g⟩
      rcases rdR tab zt l ms i o.op with ⟨f⟩
      intro h hq
      have hq : ∀ y n d, g s.V y n d = match gdG l ms s.V i (some (j, want)) with | some true => y | some false => n | none => d := hq
      show g s.V (f call T b0 s.V s.B s.hs s.cp s.M next) next next = _
      rw [hq]
      cases hgd : gdG l ms s.V i (some (j, want)) with
      | none => unfold rdOk; rw [hgu, hgd]; rfl
      | some b =>
        cases b with
        | true => exact h (by rw [hgu]; exact hgd) hr
        | false => unfold rdOk; rw [hgu, hgd]; rfl

theorem rdsR_eq (l : List Oper) (ms : Tr Nat) (call : CallT1) (T : Tr Value) (b0 : Nat) (s : PS) (next : RR) : ∀ (r : List Oper) (i : Nat), (rdsR tab zt l ms s.dn r i).un call T b0 s.V s.B s.hs s.cp s.M next = bif rdsOk tab zt call l T ms b0 s r i then next else none
  | [], i => rfl
  | o :: r, i => by
    have ih := rdsR_eq l ms call T b0 s next r (i + 1)
    have h := rdO_eq tab zt l ms i o call T b0 s
    show (match bif tb s.dn i then rdO tab zt l ms i o else ⟨fun call T b0 V B hs cp M next => none⟩, rdsR tab zt l ms s.dn r (i + 1) with
      | ⟨f⟩, ⟨g⟩ => (⟨fun call T b0 V B hs cp M next => f call T b0 V B hs cp M (g call T b0 V B hs cp M next)⟩ : Bx RB)).un call T b0 s.V s.B s.hs s.cp s.M next = bif (tb s.dn i && rdOk tab zt call l T ms b0 s i o) && rdsOk tab zt call l T ms b0 s r (i + 1) then next else none
    revert ih
    rcases rdsR tab zt l ms s.dn r (i + 1) with ⟨g⟩
    intro ih
    have ih : g call T b0 s.V s.B s.hs s.cp s.M next = _ := ih
    cases tb s.dn i with
    | false => rfl
    | true =>
      simp only [cond_true, Bool.true_and]
      revert h
      rcases rdO tab zt l ms i o with ⟨f⟩
      intro h
      have h : ∀ next, f call T b0 s.V s.B s.hs s.cp s.M next = _ := h
      show f call T b0 s.V s.B s.hs s.cp s.M (g call T b0 s.V s.B s.hs s.cp s.M next) = _
      rw [h, ih]
      cases rdOk tab zt call l T ms b0 s i o <;> rfl

/-! ### the frame behind it -/
noncomputable def puR (N : Nat) : List Oper → Nat → Bx (Tr Value → Tr Value → (Tr Value → RR) → RR) := fun r => @List.rec Oper (fun _ => Nat → Bx (Tr Value → Tr Value → (Tr Value → RR) → RR)) (fun _ => ⟨fun V T k => k T⟩) (fun o _ ih i => match trG Value i, dstS N o.dst, ih (i + 1) with
  | ⟨g⟩, ⟨d⟩, ⟨f⟩ => ⟨fun V T k => @Option.rec Value (fun _ => RR) none (fun v => d v T (fun T => f V T k)) (g V)⟩) r
theorem puR_eq (N : Nat) (V : Tr Value) (k : Tr Value → RR) : ∀ (r : List Oper) (i : Nat) (T : Tr Value), (puR N r i).un V T k = bS (putAll N V r i T) k
  | [], i, T => rfl
  | o :: r, i, T => by
    have ih := puR_eq N V k r (i + 1)
    have h := dstS_eq N o.dst
    show (match trG Value i, dstS N o.dst, puR N r (i + 1) with
      | ⟨g⟩, ⟨d⟩, ⟨f⟩ => (⟨fun V T k => @Option.rec Value (fun _ => RR) none (fun v => d v T (fun T => f V T k)) (g V)⟩ : Bx (Tr Value → Tr Value → (Tr Value → RR) → RR))).un V T k = _
    unfold putAll
    show _ = bS (match (trG Value i).un V with | some v => (match putD N T o.dst v with | some T => putAll N V r (i + 1) T | none => none) | none => none) k
    revert ih h
    rcases trG Value i with ⟨g⟩; rcases dstS N o.dst with ⟨d⟩; rcases puR N r (i + 1) with ⟨f⟩
    intro ih h
    have h : ∀ v T k, d v T k = bS (putD N T o.dst v) k := h
    have ih : ∀ T, f V T k = bS (putAll N V r (i + 1) T) k := ih
    show @Option.rec Value (fun _ => RR) none (fun v => d v T (fun T => f V T k)) (g V) = _
    simp only
    cases g V with
    | none => rfl
    | some v =>
      simp only
      rw [h]
      cases putD N T o.dst v with
      | none => rfl
      | some T' => exact ih T'

theorem passOp_dn {call : CallT1} {l : List Oper} {T : Tr Value} {ms : Tr Nat} {b0 i : Nat} {o : Oper} {s s1 : PS} (h : passOp tab eqs zt call l T ms b0 i o s = some s1) : s1.dn = Nat.lor s.dn (bit i) := by
  unfold passOp at h
  cases hg : gdG l ms s.V i o.guard with
  | none => rw [hg] at h; cases h
  | some b => cases b with
    | false => rw [hg] at h; cases h; rfl
    | true =>
      rw [hg] at h; simp only at h
      cases h1 : isNew o.op with
      | true =>
        rw [h1] at h; simp only [cond_true] at h
        split at h
        · cases h; rfl
        · cases h
      | false =>
        rw [h1] at h; simp only [cond_false] at h
        cases h2 : isRead o.op with
        | true =>
          rw [h2] at h; simp only [cond_true] at h
          split at h
          · cases h; rfl
          · cases h
        | false =>
          rw [h2] at h; simp only [cond_false] at h
          cases h3 : isMem o.op with
          | true =>
            rw [h3] at h; simp only [cond_true] at h
            cases h4 : s.hs.all (fun h => tb (getN ms i) h.2.2) with
            | false => rw [h4] at h; cases h
            | true =>
              rw [h4] at h; simp only [cond_true] at h
              split at h
              · cases h; rfl
              · cases h
          | false =>
            rw [h3] at h; simp only [cond_false] at h
            split at h
            · cases h; rfl
            · cases h

/-- a region that draws its order -/
noncomputable def drawG (N : Nat) (l : List Oper) (ms : Tr Nat) (ord : List Nat) : Bx SK := bif dstOk N l 0 then (match passL tab eqs zt l ms ord 0, rdsR tab zt l ms (dnL ord 0) l 0, puR N l 0 with
    | ⟨p⟩, ⟨r⟩, ⟨q⟩ => ⟨fun call k T M => canonN (Nat.add M.2 l.length) (fun n => @Bool.rec (fun _ => RR) none (p call T M.2 (fun V B hs cp M1 => r call T M.2 V B hs cp M1 (q V T (fun T1 => extR M.2 (Nat.sub (bit l.length) 1) cp B M1 (fun M2 => k T1 M2)))) .e [] [] 0 ⟨M.1, n⟩) (Nat.ble (Nat.succ n) 1000000))⟩)
  else ⟨fun _ _ _ _ => none⟩
theorem drawG_eq (N : Nat) (l : List Oper) (ms : Tr Nat) (ord : List Nat) (call : CallT1) (k : Tr Value → Mem → RR) (T : Tr Value) (M : Mem) : (drawG tab eqs zt N l ms ord).un call k T M = bT (opsG tab eqs zt N call l T M ms ord) k := by
  unfold drawG opsG
  cases dstOk N l 0 with
  | false => rfl
  | true =>
    simp only [cond_true, Bool.true_and]
    have h1 := fun kk k hk => passL_eq tab eqs zt l ms call T M.2 k ord 0 kk hk .e [] [] 0 ⟨M.1, Nat.add M.2 l.length⟩
    have h2 := fun (s : PS) (hs : s.dn = dnL ord 0) next => by have := rdsR_eq tab zt l ms call T M.2 s next l 0; rw [hs] at this; exact this
    have h3 := fun V k => puR_eq N V k l 0 T
    revert h1 h2 h3
    rcases passL tab eqs zt l ms ord 0 with ⟨p⟩; rcases rdsR tab zt l ms (dnL ord 0) l 0 with ⟨r⟩; rcases puR N l 0 with ⟨q⟩
    intro h1 h2 h3
    show canonN (Nat.add M.2 l.length) _ = _
    rw [canonN_eq]
    show @Bool.rec (fun _ => RR) none _ (Nat.blt (M.nx + l.length) 1000000) = _
    cases Nat.blt (M.nx + l.length) 1000000 with
    | false => rfl
    | true =>
      simp only [cond_true]
      show p call T M.2 (fun V B hs cp M1 => r call T M.2 V B hs cp M1 (q V T (fun T1 => extR M.2 (Nat.sub (bit l.length) 1) cp B M1 (fun M2 => k T1 M2)))) .e [] [] 0 ⟨M.1, Nat.add M.2 l.length⟩ = _
      have h := h1 (fun V B hs cp M1 => r call T M.2 V B hs cp M1 (q V T (fun T1 => extR M.2 (Nat.sub (bit l.length) 1) cp B M1 (fun M2 => k T1 M2)))) (fun s => bif rdsOk tab zt call l T ms M.2 ⟨s.V, s.B, s.hs, s.cp, s.M, dnL ord 0⟩ l 0 then bT (match putAll N s.V l 0 T with | some T => some (T, extM M.2 (Nat.sub (bit l.length) 1) s.cp s.B s.M) | none => none) k else none) (fun V B hs cp M1 => by
        have e2 := h2 ⟨V, B, hs, cp, M1, dnL ord 0⟩ rfl (q V T (fun T1 => extR M.2 (Nat.sub (bit l.length) 1) cp B M1 (fun M2 => k T1 M2)))
        have e2 : r call T M.2 V B hs cp M1 (q V T (fun T1 => extR M.2 (Nat.sub (bit l.length) 1) cp B M1 (fun M2 => k T1 M2))) = _ := e2
        have e3 : q V T (fun T1 => extR M.2 (Nat.sub (bit l.length) 1) cp B M1 (fun M2 => k T1 M2)) = _ := h3 V _
        show r call T M.2 V B hs cp M1 _ = _
        rw [e2, e3]
        have e4 : bS (putAll N V l 0 T) (fun T1 => extR M.2 (Nat.sub (bit l.length) 1) cp B M1 (fun M2 => k T1 M2)) = bT (match putAll N V l 0 T with | some T => some (T, extM M.2 (Nat.sub (bit l.length) 1) cp B M1) | none => none) k := by
          cases putAll N V l 0 T with
          | none => rfl
          | some T1 => exact extR_eq _ _ _ B M1 _
        rw [e4])
      have h : p call T M.2 _ .e [] [] 0 ⟨M.1, Nat.add M.2 l.length⟩ = _ := h
      rw [h]
      show _ = bT (match passD tab eqs zt call l T ms M.2 ord ⟨.e, [], [], 0, ⟨M.1, Nat.add M.2 l.length⟩, 0⟩ with
        | some s => bif rdsOk tab zt call l T ms M.2 s l 0 then (match putAll N s.V l 0 T with
          | some T => some (T, extM M.2 (Nat.sub (bit l.length) 1) s.cp s.B s.M)
          | none => none) else none
        | none => none) k
      cases hpd : passD tab eqs zt call l T ms M.2 ord ⟨.e, [], [], 0, ⟨M.1, Nat.add M.2 l.length⟩, 0⟩ with
      | none => rfl
      | some s =>
        have hdn : ∀ (ord : List Nat) (s s' : PS), passD tab eqs zt call l T ms M.2 ord s = some s' → s'.dn = dnL ord s.dn := by
          intro ord
          induction ord with
          | nil => intro s s' h; cases h; rfl
          | cons i rr ih =>
            intro s s' h
            have h : stepP tab eqs zt call l T ms M.2 i (passD tab eqs zt call l T ms M.2 rr) s = some s' := h
            have hpo : ∀ o s1, passOp tab eqs zt call l T ms M.2 i o s = some s1 → s1.dn = Nat.lor s.dn (bit i) := fun o s1 ho => passOp_dn tab eqs zt ho
            unfold stepP at h
            split at h
            · rename_i o hn
              cases hb : ((Nat.beq (preOf ms o) (getN ms i) && Nat.beq (Nat.land (getN ms i) s.dn) (getN ms i)) && (!(tb s.dn i) && Nat.blt i 1000)) with
              | false => rw [hb] at h; cases h
              | true =>
                rw [hb] at h
                simp only [cond_true] at h
                split at h
                · rename_i s1 h1
                  have := ih s1 s' h
                  rw [this, hpo o s1 h1]; rfl
                · cases h
            · cases h
        have e5 := hdn ord _ s hpd
        have e5 : s.dn = dnL ord 0 := e5
        show (bif rdsOk tab zt call l T ms M.2 ⟨s.V, s.B, s.hs, s.cp, s.M, dnL ord 0⟩ l 0 then _ else none) = _
        rw [← e5]
        show (bif rdsOk tab zt call l T ms M.2 s l 0 then _ else none) = bT (bif rdsOk tab zt call l T ms M.2 s l 0 then _ else none) k
        cases rdsOk tab zt call l T ms M.2 s l 0 <;> rfl

noncomputable def drawS (N : Nat) (l : List Oper) : Bx SK := drawG tab eqs zt N l (msD l (ordD l.length (dirL l 0) 0) .e) (ordD l.length (dirL l 0) 0)
theorem drawS_eq (N : Nat) (l : List Oper) (call : CallT1) (k : Tr Value → Mem → RR) (T : Tr Value) (M : Mem) : (drawS tab eqs zt N l).un call k T M = bT (opsH tab eqs zt N call l T M) k := drawG_eq tab eqs zt N l _ _ call k T M
end
end Go.Ev
