/- The evaluator: bytes of which no more is known than a set that they are in, numbers and bools of which nothing is known. -/
import Derived.Test.YtheedjgpfpghbaaGreatDSf
import Derived.KernelRfl
set_option linter.unusedVariables false
set_option linter.unusedSectionVars false
set_option linter.unusedSimpArgs false
namespace Go.Ev
open Go Go.Fw

noncomputable def kNo : IntKind → Nat := @IntKind.rec (fun _ => Nat) 0 1 2 3 4 5 6 7
/-- a number of which its kind is known -/
noncomputable def anyI (k : IntKind) : Value := .chan (some (Nat.add 10 (kNo k)))
noncomputable def anyBo : Value := .chan (some 20)
noncomputable def kOf (i : Nat) : Option IntKind := match i with
  | 10 => some .i8 | 11 => some .i16 | 12 => some .i32 | 13 => some .i64 | 14 => some .u8 | 15 => some .u16 | 16 => some .u32 | 17 => some .u64
  | i => bif Nat.ble 100 i then some .u8 else none
noncomputable def anyR (o : BinOp) (k : IntKind) (b : Int) : Option Value := match o with
  | .eql | .neq | .lss | .leq | .gtr | .geq => some anyBo
  | .add | .sub | .mul | .and | .or | .xor => some (anyI k)
  | .quo | .rem => match b with
    | .ofNat (n + 1) => some (anyI k)
    | _ => none
  | _ => none
noncomputable def anyS (o : BinOp) (k : IntKind) : Option Value := match o with
  | .eql | .neq | .lss | .leq | .gtr | .geq => some anyBo
  | .add | .sub | .mul | .and | .or | .xor => some (anyI k)
  | _ => none

section
variable (A : Nat → Nat → Bool) (ders : List (BinOp × Nat × Nat × Nat))
noncomputable def resU (o : BinOp) (x c : Nat) : Option Value := intOp o .u8 (.ofNat x) (.ofNat c)
noncomputable def sameO : Option Value → Option Value → Bool
  | some a, some b => sameS0 a b
  | _, _ => false
noncomputable def leastU (i : Nat) : Nat → Nat → Nat
  | 0, x => x
  | n + 1, x => bif A i x then x else leastU i n (x + 1)
/-- all in a set come to the same -/
noncomputable def oneR (o : BinOp) (i c : Nat) : Option Value := match resU o (leastU A i 255 0) c with
  | some v => bif plainV v && allN 256 (fun x => !(A i x) || sameO (resU o x c) (some v)) then some v else none
  | none => none
noncomputable def opNo : BinOp → Nat
  | .quo => 1 | .rem => 2 | .and => 3 | .add => 4 | .sub => 5 | _ => 0
noncomputable def derOf (o : BinOp) (i c : Nat) : List (BinOp × Nat × Nat × Nat) → Option Nat
  | [] => none
  | (o', i', c', j) :: r => bif Nat.blt 0 (opNo o) && (Nat.beq (opNo o) (opNo o') && (Nat.beq i i' && Nat.beq c c')) then some j else derOf o i c r
noncomputable def derOk : List (BinOp × Nat × Nat × Nat) → Bool
  | [] => true
  | (o, i, c, j) :: r => (Nat.ble 100 j && allN 256 (fun x => !(A i x) || (match resU o x c with | some (.int .u8 (.ofNat y)) => Nat.blt y 256 && A j y | _ => false))) && derOk r
noncomputable def binG (o : BinOp) (i : Nat) (k : IntKind) (b : Int) : Option Value := match kOf i with
  | some k' => bif (isK k').un k then anyR o k b else none
  | none => none
noncomputable def binU (o : BinOp) (i : Nat) (c : Nat) : Option Value := match derOf o i c ders with
  | some j => some (.chan (some j))
  | none => match oneR A o i c with
    | some v => some v
    | none => binG o i .u8 (.ofNat c)
noncomputable def binA (o : BinOp) (i : Nat) (k : IntKind) (b : Int) : Option Value := match k, b with
  | .u8, .ofNat c => bif Nat.ble 100 i then binU A ders o i c else binG o i .u8 (.ofNat c)
  | k, b => binG o i k b
noncomputable def binsA (o : BinOp) (i j : Nat) : Option Value := match kOf i, kOf j with
  | some k, some k' => bif (isK k').un k then anyS o k else none
  | _, _ => none
noncomputable def convA (i : Nat) (k : IntKind) : Option Value := match kOf i with
  | some _ => some (anyI k)
  | none => none
@[reducible] noncomputable def symA : SymT := { bin := binA A ders, conv := convA, bins := binsA, ub := fun i => Nat.beq i 20 }

/-- what they may be -/
inductive RelA : Nat → Value → Prop
  | i {k : IntKind} {x : Int} : RelA (Nat.add 10 (kNo k)) (.int k x)
  | b {b : Bool} : RelA 20 (.bool b)
  | u {i x : Nat} (h : 100 ≤ i) (hx : x < 256) (ha : A i x = true) : RelA i (.int .u8 (.ofNat x))
@[reducible] noncomputable def symS : Sym := { toSymT := symA A ders, rel := RelA A }

theorem RelA.plain {A : Nat → Nat → Bool} {i : Nat} {v : Value} (h : RelA A i v) : plainV v = true := by cases h <;> rfl
theorem kNo_lt (k : IntKind) : kNo k < 8 := by cases k <;> decide
theorem kOf_of {A : Nat → Nat → Bool} {i : Nat} {v : Value} {k : IntKind} (hk : kOf i = some k) (h : RelA A i v) : ∃ x, v = .int k x := by
  cases h with
  | @i k0 x => cases k0 <;> (cases hk; exact ⟨x, rfl⟩)
  | b => cases hk
  | @u i x h hx ha =>
    have : kOf i = some .u8 := by
      unfold kOf
      split <;> first | omega | skip
      have hb : Nat.ble 100 i = true := Nat.ble_eq_true_of_le h
      rw [hb]; rfl
    rw [this] at hk; cases hk
    exact ⟨_, rfl⟩

theorem sameO_eq {A : Nat → Nat → Bool} {ders : List (BinOp × Nat × Nat × Nat)} {a : Option Value} {v : Value} (h : sameO a (some v) = true) : a = some v := by
  letI := symS A ders
  cases a with
  | none => cases h
  | some x => rw [sameS0_eq h]

theorem anyI_R {A : Nat → Nat → Bool} {ders : List (BinOp × Nat × Nat × Nat)} {k : IntKind} {x : Int} : ∀ ρ, @RS (symS A ders) ρ (anyI k) (.int k x) := fun ρ => @RS.sym (symS A ders) ρ _ _ RelA.i rfl
theorem anyBo_R {A : Nat → Nat → Bool} {ders : List (BinOp × Nat × Nat × Nat)} {b : Bool} : ∀ ρ, @RS (symS A ders) ρ anyBo (.bool b) := fun ρ => @RS.sym (symS A ders) ρ _ _ RelA.b rfl

theorem anyR_ok {A : Nat → Nat → Bool} {ders : List (BinOp × Nat × Nat × Nat)} {o : BinOp} {k : IntKind} {b : Int} {v : Value} (h : anyR o k b = some v) (x : Int) : ∃ u, intOp o k x b = some u ∧ ∀ ρ, @RS (symS A ders) ρ v u := by
  cases o <;> simp only [anyR] at h <;> first | (cases h; done) | (cases h; exact ⟨_, rfl, anyI_R⟩) | (cases h; exact ⟨_, rfl, anyBo_R⟩) | skip
  · cases b with
    | negSucc n => cases h
    | ofNat n => cases n with
      | zero => cases h
      | succ n => cases h; exact ⟨_, rfl, anyI_R⟩
  · cases b with
    | negSucc n => cases h
    | ofNat n => cases n with
      | zero => cases h
      | succ n => cases h; exact ⟨_, rfl, anyI_R⟩
theorem anyS_ok {A : Nat → Nat → Bool} {ders : List (BinOp × Nat × Nat × Nat)} {o : BinOp} {k : IntKind} {v : Value} (h : anyS o k = some v) (x b : Int) : ∃ u, intOp o k x b = some u ∧ ∀ ρ, @RS (symS A ders) ρ v u := by
  cases o <;> simp only [anyS] at h <;> first | (cases h; done) | (cases h; exact ⟨_, rfl, anyI_R⟩) | (cases h; exact ⟨_, rfl, anyBo_R⟩)

theorem binG_ok {A : Nat → Nat → Bool} {ders : List (BinOp × Nat × Nat × Nat)} {o : BinOp} {i : Nat} {k : IntKind} {b : Int} {v z : Value} (h : binG o i k b = some v) (hz : RelA A i z) : ∃ x u, z = .int k x ∧ intOp o k x b = some u ∧ ∀ ρ, @RS (symS A ders) ρ v u := by
  letI := symS A ders
  unfold binG at h
  split at h
  · rename_i k' hk
    rw [isK_eq] at h
    by_cases e : k' = k
    · subst e
      rw [decide_eq_true rfl] at h
      obtain ⟨x, rfl⟩ := kOf_of hk hz
      obtain ⟨u, h1, h2⟩ := anyR_ok (A := A) (ders := ders) h x
      exact ⟨x, u, rfl, h1, h2⟩
    · rw [decide_eq_false e] at h; cases h
  · cases h

theorem derOf_ok {A : Nat → Nat → Bool} {o : BinOp} {i c j : Nat} : ∀ {l : List (BinOp × Nat × Nat × Nat)}, derOk A l = true → derOf o i c l = some j → 100 ≤ j ∧ ∀ x, x < 256 → A i x = true → ∃ y, y < 256 ∧ A j y = true ∧ resU o x c = some (.int .u8 (.ofNat y))
  | (o', i', c', j') :: r, hk, h => by
    simp only [derOk, Bool.and_eq_true] at hk
    obtain ⟨⟨hj, ha⟩, hr⟩ := hk
    unfold derOf at h
    cases hb : (Nat.blt 0 (opNo o) && (Nat.beq (opNo o) (opNo o') && (Nat.beq i i' && Nat.beq c c'))) with
    | false => rw [hb] at h; exact derOf_ok hr h
    | true =>
      rw [hb] at h
      cases h
      simp only [Bool.and_eq_true] at hb
      obtain ⟨h0, h1, h2, h3⟩ := hb
      have e2 := Nat.eq_of_beq_eq_true h2
      have e3 := Nat.eq_of_beq_eq_true h3
      have e1 := Nat.eq_of_beq_eq_true h1
      subst e2; subst e3
      have eo : o = o' := by
        cases o <;> simp [opNo] at h0 <;> cases o' <;> simp [opNo] at e1 <;> rfl
      subst eo
      refine ⟨Nat.le_of_ble_eq_true hj, fun x hx hax => ?_⟩
      have := allN_get ha x hx
      rw [hax] at this
      simp only [Bool.not_true, Bool.false_or] at this
      split at this
      · rename_i y hy
        simp only [Bool.and_eq_true, Nat.blt_eq] at this
        exact ⟨y, this.1, this.2, hy⟩
      · cases this

theorem symOkA {A : Nat → Nat → Bool} {ders : List (BinOp × Nat × Nat × Nat)} (hd : derOk A ders = true) : @SymOk (symS A ders) := by
  letI := symS A ders
  refine ⟨fun o i k b v h z hz => ?_, fun o i k b v h z hz => ?_, fun o i j v h z y hz hy => ?_, fun i k v h z hz => ?_, fun i h z hz => ?_⟩
  · have h : binA A ders o i k b = some v := h
    have hz : RelA A i z := hz
    unfold binA at h
    split at h
    · rename_i c
      cases hb : Nat.ble 100 i with
      | false => rw [hb] at h; exact binG_ok h hz
      | true =>
        rw [hb] at h
        simp only [cond_true] at h
        have hi := Nat.le_of_ble_eq_true hb
        unfold binU at h
        split at h
        · rename_i j hj
          cases h
          obtain ⟨h1, h2⟩ := derOf_ok hd hj
          cases hz with
          | @i k0 x => have := kNo_lt k0; have e : Nat.add 10 (kNo k0) = 10 + kNo k0 := rfl; omega
          | b => omega
          | @u i x _ hx ha =>
            obtain ⟨y, h3, h4, h5⟩ := h2 x hx ha
            exact ⟨_, _, rfl, h5, fun ρ => @RS.sym (symS A ders) ρ _ _ (RelA.u h1 h3 h4) rfl⟩
        · split at h
          · rename_i w hw
            cases h
            unfold oneR at hw
            split at hw
            · rename_i w' _
              revert hw
              generalize hb2 : (plainV w' && allN 256 _) = q
              intro hw
              cases q with
              | false => cases hw
              | true =>
                cases hw
                simp only [Bool.and_eq_true] at hb2
                obtain ⟨hpl, hb2⟩ := hb2
                cases hz with
                | @i k0 x => have := kNo_lt k0; have e : Nat.add 10 (kNo k0) = 10 + kNo k0 := rfl; omega
                | b => omega
                | @u i x _ hx ha =>
                  have := allN_get hb2 x hx
                  rw [ha] at this
                  simp only [Bool.not_true, Bool.false_or] at this
                  have h5 := sameO_eq (A := A) (ders := ders) this
                  have h5 : intOp o .u8 (.ofNat x) (.ofNat _) = some v := h5
                  exact ⟨_, _, rfl, h5, fun ρ => .plain hpl⟩
            · cases hw
          · exact binG_ok h hz
    · exact binG_ok h hz
  · cases h
  · have h : binsA o i j = some v := h
    unfold binsA at h
    split at h
    · rename_i k k' hk hk'
      rw [isK_eq] at h
      by_cases e : k' = k
      · subst e
        rw [decide_eq_true rfl] at h
        obtain ⟨x, rfl⟩ := kOf_of hk hz
        obtain ⟨b, rfl⟩ := kOf_of hk' hy
        obtain ⟨u, h1, h2⟩ := anyS_ok (A := A) (ders := ders) h x b
        exact ⟨_, _, _, u, rfl, rfl, h1, h2⟩
      · rw [decide_eq_false e] at h; cases h
    · cases h
  · have h : convA i k = some v := h
    unfold convA at h
    split at h
    · rename_i k' hk
      cases h
      obtain ⟨x, rfl⟩ := kOf_of hk hz
      exact ⟨_, _, rfl, anyI_R⟩
    · cases h
  · have h : Nat.beq i 20 = true := h
    have := Nat.eq_of_beq_eq_true h
    subst this
    have hz : RelA A 20 z := hz
    generalize h20 : 20 = j at hz
    cases hz with
    | b => exact ⟨_, rfl⟩
    | @i k0 x => have := kNo_lt k0; have e : Nat.add 10 (kNo k0) = 10 + kNo k0 := rfl; omega
    | u h _ _ => omega
/-- a set's parts -/
noncomputable def parts (A : Nat → Nat → Bool) (i : Nat) (js : List Nat) : Bool := Nat.ble 100 i && (js.all (fun j => Nat.ble 100 j) && allN 256 (fun x => !(A i x) || js.any (fun j => A j x)))
theorem relA_parts {A : Nat → Nat → Bool} {i : Nat} {js : List Nat} (h : parts A i js = true) {u : Value} (hu : RelA A i u) : ∃ j ∈ js, RelA A j u := by
  simp only [parts, Bool.and_eq_true] at h
  obtain ⟨h1, h2, h3⟩ := h
  have h1 := Nat.le_of_ble_eq_true h1
  cases hu with
  | @i k0 x => have := kNo_lt k0; have e : Nat.add 10 (kNo k0) = 10 + kNo k0 := rfl; omega
  | b => omega
  | @u i x _ hx ha =>
    have := allN_get h3 x hx
    rw [ha] at this
    simp only [Bool.not_true, Bool.false_or] at this
    obtain ⟨j, hj, hja⟩ := List.any_eq_true.1 this
    exact ⟨j, hj, .u (Nat.le_of_ble_eq_true (List.all_eq_true.1 h2 j hj)) hx hja⟩
theorem rs_parts {A : Nat → Nat → Bool} {ders : List (BinOp × Nat × Nat × Nat)} {ρ : Rho} {i : Nat} {js : List Nat} (h : parts A i js = true) {u : Value} (hu : @RS (symS A ders) ρ (.chan (some i)) u) : ∃ j ∈ js, @RS (symS A ders) ρ (.chan (some j)) u := by
  letI := symS A ders
  cases hu with
  | plain h => cases h
  | sym hr hp =>
    obtain ⟨j, hj, h2⟩ := relA_parts h hr
    exact ⟨j, hj, .sym h2 hp⟩
theorem rv_parts {A : Nat → Nat → Bool} {ders : List (BinOp × Nat × Nat × Nat)} {ρ : Rho} {i : Nat} {js : List Nat} (h : parts A i js = true) {u : Value} (hu : @RV (symS A ders) ρ (.chan (some i)) u) : ∃ j ∈ js, @RV (symS A ders) ρ (.chan (some j)) u := by
  letI := symS A ders
  obtain ⟨j, hj, h2⟩ := relA_parts h hu.sym
  exact ⟨j, hj, .c (.s (.sym h2 h2.plain))⟩
/-- a byte is in one of a set's parts -/
theorem inPart {A : Nat → Nat → Bool} {js : List Nat} (h : parts A 100 js = true) (h0 : ∀ x, x < 256 → A 100 x = true) {x : Int} (hx : 0 ≤ x ∧ x ≤ 255) : ∃ j ∈ js, RelA A j (.int .u8 x) := by
  obtain ⟨n, rfl⟩ := Int.eq_ofNat_of_zero_le hx.1
  exact relA_parts h (.u (Nat.le_refl _) (by omega) (h0 n (by omega)))
end
end Go.Ev
