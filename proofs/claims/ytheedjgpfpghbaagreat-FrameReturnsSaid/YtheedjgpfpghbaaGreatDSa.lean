/- The evaluator, quicker: what hangs on the program's text alone is reckoned once. -/
import Derived.Test.YtheedjgpfpghbaaGreatDA
set_option linter.unusedVariables false
set_option linter.unusedSectionVars false
set_option linter.unusedSimpArgs false
namespace Go.Ev
open Go Go.Fw

abbrev RR := Option (DX × Tr Value × Mem)
/-- a bool -/
noncomputable def boolK : Value → (Bool → RR) → RR := @Value.rec (fun _ => (Bool → RR) → RR) (fun _ => Unit) (fun _ => Unit) (fun b k => k b) (fun _ _ _ => none) (fun _ _ _ => none) (fun _ _ _ _ => none) (fun _ _ => none) (fun _ _ => none) (fun _ _ _ _ => none) (fun _ _ => none) (fun _ _ => none) (fun _ _ _ _ _ _ => none) (fun _ => none) (fun _ _ _ _ => none) (fun _ => none) (fun _ _ _ => none) (fun _ _ _ => none) (fun _ _ => ()) () (fun _ _ _ _ => ())
/-- an int -/
noncomputable def intK : Value → (IntKind → Int → RR) → RR := @Value.rec (fun _ => (IntKind → Int → RR) → RR) (fun _ => Unit) (fun _ => Unit) (fun _ _ => none) (fun i n k => k i n) (fun _ _ _ => none) (fun _ _ _ _ => none) (fun _ _ => none) (fun _ _ => none) (fun _ _ _ _ => none) (fun _ _ => none) (fun _ _ => none) (fun _ _ _ _ _ _ => none) (fun _ => none) (fun _ _ _ _ => none) (fun _ => none) (fun _ _ _ => none) (fun _ _ _ => none) (fun _ _ => ()) () (fun _ _ _ _ => ())
/-- a place -/
noncomputable def ptrK : Value → (Nat → Nat → RR) → RR := @Value.rec (fun _ => (Nat → Nat → RR) → RR) (fun _ => Unit) (fun _ => Unit) (fun _ _ => none) (fun _ _ _ => none) (fun _ _ _ => none) (fun _ _ _ _ => none) (fun _ _ => none) (fun a k => @Option.rec Addr (fun _ => RR) none (fun d => @Addr.rec (fun _ => RR) (fun b o s => @Option.rec Nat (fun _ => RR) (k b o) (fun _ => none) s) d) a) (fun _ _ _ _ => none) (fun _ _ => none) (fun _ _ => none) (fun _ _ _ _ _ _ => none) (fun _ => none) (fun _ _ _ _ => none) (fun _ => none) (fun _ _ _ => none) (fun _ _ _ => none) (fun _ _ => ()) () (fun _ _ _ _ => ())
/-- a row that lies somewhere -/
noncomputable def slK : Value → (Nat → Nat → Nat → Nat → RR) → RR := @Value.rec (fun _ => (Nat → Nat → Nat → Nat → RR) → RR) (fun _ => Unit) (fun _ => Unit) (fun _ _ => none) (fun _ _ _ => none) (fun _ _ _ => none) (fun _ _ _ _ => none) (fun _ _ => none) (fun _ _ => none) (fun a n c k => @Option.rec Addr (fun _ => RR) none (fun d => @Addr.rec (fun _ => RR) (fun b o s => @Option.rec Nat (fun _ => RR) (k b o n c) (fun _ => none) s) d) a) (fun _ _ => none) (fun _ _ => none) (fun _ _ _ _ _ _ => none) (fun _ => none) (fun _ _ _ _ => none) (fun _ => none) (fun _ _ _ => none) (fun _ _ _ => none) (fun _ _ => ()) () (fun _ _ _ _ => ())
/-- a tuple -/
noncomputable def tupK : Value → (List Value → RR) → RR := @Value.rec (fun _ => (List Value → RR) → RR) (fun _ => Unit) (fun _ => Unit) (fun _ _ => none) (fun _ _ _ => none) (fun _ _ _ => none) (fun _ _ _ _ => none) (fun _ _ => none) (fun _ _ => none) (fun _ _ _ _ => none) (fun _ _ => none) (fun _ _ => none) (fun _ _ _ _ _ _ => none) (fun _ => none) (fun _ _ _ _ => none) (fun _ => none) (fun _ _ _ => none) (fun a _ k => @Array.rec Value (fun _ => RR) (fun l => k l) a) (fun _ _ => ()) () (fun _ _ _ _ => ())
/-- a struct -/
noncomputable def aggK : Value → (List Value → RR) → RR := @Value.rec (fun _ => (List Value → RR) → RR) (fun _ => Unit) (fun _ => Unit) (fun _ _ => none) (fun _ _ _ => none) (fun _ _ _ => none) (fun _ _ _ _ => none) (fun _ _ => none) (fun _ _ => none) (fun _ _ _ _ => none) (fun _ _ => none) (fun _ _ => none) (fun _ _ _ _ _ _ => none) (fun _ => none) (fun _ _ _ _ => none) (fun _ => none) (fun a _ k => @Array.rec Value (fun _ => RR) (fun l => k l) a) (fun _ _ _ => none) (fun _ _ => ()) () (fun _ _ _ _ => ())
/-- a row -/
noncomputable def lenK : Value → (Nat → RR) → RR := @Value.rec (fun _ => (Nat → RR) → RR) (fun _ => Unit) (fun _ => Unit) (fun _ _ => none) (fun _ _ _ => none) (fun _ _ _ => none) (fun _ _ _ _ => none) (fun _ _ => none) (fun _ _ => none) (fun _ n _ k => k n) (fun _ _ => none) (fun _ _ => none) (fun _ _ _ _ _ _ => none) (fun _ => none) (fun _ _ _ _ => none) (fun _ => none) (fun _ _ _ => none) (fun _ _ _ => none) (fun _ _ => ()) () (fun _ _ _ _ => ())
/-- an int, or else -/
noncomputable def intQ : Value → (IntKind → Int → RR) → RR → RR := @Value.rec (fun _ => (IntKind → Int → RR) → RR → RR) (fun _ => Unit) (fun _ => Unit) (fun _ _ d => d) (fun i n k _ => k i n) (fun _ _ _ d => d) (fun _ _ _ _ d => d) (fun _ _ d => d) (fun _ _ d => d) (fun _ _ _ _ d => d) (fun _ _ d => d) (fun _ _ d => d) (fun _ _ _ _ _ _ d => d) (fun _ d => d) (fun _ _ _ _ d => d) (fun _ d => d) (fun _ _ _ d => d) (fun _ _ _ d => d) (fun _ _ => ()) () (fun _ _ _ _ => ())
/-- a place that is one -/
noncomputable def ptrY : Value → RR → RR := @Value.rec (fun _ => RR → RR) (fun _ => Unit) (fun _ => Unit) (fun _ _ => none) (fun _ _ _ => none) (fun _ _ _ => none) (fun _ _ _ _ => none) (fun _ _ => none) (fun a r => @Option.rec Addr (fun _ => RR) none (fun _ => r) a) (fun _ _ _ _ => none) (fun _ _ => none) (fun _ _ => none) (fun _ _ _ _ _ _ => none) (fun _ => none) (fun _ _ _ _ => none) (fun _ => none) (fun _ _ _ => none) (fun _ _ _ => none) (fun _ _ => ()) () (fun _ _ _ _ => ())
noncomputable def isK (k : IntKind) : Bx (IntKind → Bool) := match k with
  | .i8 => ⟨@IntKind.rec (fun _ => Bool) true false false false false false false false⟩
  | .i16 => ⟨@IntKind.rec (fun _ => Bool) false true false false false false false false⟩
  | .i32 => ⟨@IntKind.rec (fun _ => Bool) false false true false false false false false⟩
  | .i64 => ⟨@IntKind.rec (fun _ => Bool) false false false true false false false false⟩
  | .u8 => ⟨@IntKind.rec (fun _ => Bool) false false false false true false false false⟩
  | .u16 => ⟨@IntKind.rec (fun _ => Bool) false false false false false true false false⟩
  | .u32 => ⟨@IntKind.rec (fun _ => Bool) false false false false false false true false⟩
  | .u64 => ⟨@IntKind.rec (fun _ => Bool) false false false false false false false true⟩
noncomputable def eqInt (x y : Int) : Bool := @Int.rec (fun _ => Bool) (fun m => @Int.rec (fun _ => Bool) (fun n => Nat.beq m n) (fun _ => false) y) (fun m => @Int.rec (fun _ => Bool) (fun _ => false) (fun n => Nat.beq m n) y) x
noncomputable def lessInt (x y : Int) : Bool := @Int.rec (fun _ => Bool) (fun m => @Int.rec (fun _ => Bool) (fun n => Nat.ble (Nat.succ m) n) (fun _ => false) y) (fun m => @Int.rec (fun _ => Bool) (fun _ => true) (fun n => Nat.ble (Nat.succ n) m) y) x
noncomputable def nat2 (x y : Int) (f : Nat → Nat → RR) (d : RR) : RR := @Int.rec (fun _ => RR) (fun m => @Int.rec (fun _ => RR) (fun n => f m n) (fun _ => d) y) (fun _ => d) x
noncomputable def natK (x : Int) (f : Nat → RR) : RR := @Int.rec (fun _ => RR) (fun m => f m) (fun _ => none) x
noncomputable def canonN (n : Nat) (k : Nat → RR) : RR := @Nat.rec (fun _ => RR) (k 0) (fun m _ => k (Nat.succ m)) n

theorem canonN_eq (n : Nat) (k : Nat → RR) : canonN n k = k n := by cases n <;> rfl
theorem eqInt_eq (x y : Int) : eqInt x y = (x == y) := by
  cases x with
  | ofNat m => cases y with
    | ofNat n =>
      show Nat.beq m n = _
      cases h : Nat.beq m n with
      | true => have := Nat.eq_of_beq_eq_true h; subst this; simp
      | false => have := Nat.ne_of_beq_eq_false h; simp; omega
    | negSucc n => show false = _; symm; simp
  | negSucc m => cases y with
    | ofNat n => show false = _; symm; simp
    | negSucc n =>
      show Nat.beq m n = _
      cases h : Nat.beq m n with
      | true => have := Nat.eq_of_beq_eq_true h; subst this; simp
      | false => have := Nat.ne_of_beq_eq_false h; simp; omega
theorem ble_dec (m n : Nat) : Nat.ble m n = decide (m ≤ n) := by
  cases h : Nat.ble m n with
  | true => have := Nat.le_of_ble_eq_true h; simp [this]
  | false => have : ¬ m ≤ n := fun e => by rw [Nat.ble_eq_true_of_le e] at h; cases h
             simp; omega
theorem lessInt_eq (x y : Int) : lessInt x y = decide (x < y) := by
  cases x with
  | ofNat m => cases y with
    | ofNat n => show Nat.ble (m + 1) n = _; rw [ble_dec]; simp only [Int.ofNat_eq_natCast]; congr 1; apply propext; omega
    | negSucc n => show false = _; symm; simp; omega
  | negSucc m => cases y with
    | ofNat n => show true = _; symm; simp only [decide_eq_true_eq, Int.ofNat_eq_natCast]; omega
    | negSucc n => show Nat.ble (n + 1) m = _; rw [ble_dec]; congr 1; apply propext; omega

section
variable [SymT]
abbrev VK (σ : Type) := σ → (Value → RR) → RR
/-- what comes of a value, if there is one -/
noncomputable def bV (o : Option Value) (k : Value → RR) : RR := @Option.rec Value (fun _ => RR) none k o
noncomputable def bM (o : Option (Value × Mem)) (k : Value → Mem → RR) : RR := @Option.rec (Value × Mem) (fun _ => RR) none (fun p => @Prod.rec Value Mem (fun _ => RR) k p) o
noncomputable def bT (o : Option (Tr Value × Mem)) (k : Tr Value → Mem → RR) : RR := @Option.rec (Tr Value × Mem) (fun _ => RR) none (fun p => @Prod.rec (Tr Value) Mem (fun _ => RR) k p) o
theorem bV_none (k : Value → RR) : bV none k = none := rfl
theorem bV_some (v : Value) (k : Value → RR) : bV (some v) k = k v := rfl
theorem bM_none (k : Value → Mem → RR) : bM none k = none := rfl
theorem bM_some (v : Value) (M : Mem) (k : Value → Mem → RR) : bM (some (v, M)) k = k v M := rfl

noncomputable def evS (x : Operand) : Bx (Tr Value → Option Value) := match x with
  | .tmp t => trG Value t
  | .const v => bif plainC v then ⟨fun _ => some v⟩ else ⟨fun _ => none⟩
  | .func f => ⟨fun _ => some (.func (.func f) #[] #[])⟩
  | .global _ => ⟨fun _ => none⟩
theorem evS_eq (x : Operand) (T : Tr Value) : (evS x).un T = evD T x := by
  cases x with
  | const v => show (bif plainC v then (⟨fun _ => some v⟩ : Bx (Tr Value → Option Value)) else ⟨fun _ => none⟩).un T = (bif plainC v then some v else none); cases plainC v <;> rfl
  | _ => rfl

variable (tab : Nat → Option TI) (eqs : Nat → Option (List TK)) {σ : Type} (ev : Operand → Bx (σ → Option Value))

noncomputable def moveS (x : Operand) : Bx (VK σ) := match ev x with
  | ⟨f⟩ => ⟨fun T k => @Option.rec Value (fun _ => RR) none k (f T)⟩
theorem moveS_eq (x : Operand) (T : σ) (e : Operand → Option Value) (he : ∀ x, (ev x).un T = e x) (k : Value → RR) : (moveS ev x).un T k = bV (e x) k := by
  unfold moveS; rw [← he]; cases ev x; rfl

noncomputable def nilS (x : Operand) : Bx (VK σ) := match ev x with
  | ⟨f⟩ => ⟨fun T k => @Option.rec Value (fun _ => RR) none (fun v => ptrY v (k v)) (f T)⟩
theorem nilS_eq (x : Operand) (T : σ) (e : Operand → Option Value) (he : ∀ x, (ev x).un T = e x) (k : Value → RR) : (nilS ev x).un T k = bV (opw tab eqs (.nilCheck x) e) k := by
  unfold nilS opw; simp only; rw [← he]
  rcases ev x with ⟨f⟩
  show @Option.rec Value (fun _ => RR) none (fun v => ptrY v (k v)) (f T) = bV (match f T with | some (.pointer (some a)) => some (.pointer (some a)) | _ => none) k
  cases f T with
  | none => rfl
  | some v =>
    cases v <;> try rfl
    rename_i a; cases a <;> rfl

noncomputable def pickS (c x y : Operand) : Bx (VK σ) := match ev c, ev x, ev y with
  | ⟨f⟩, ⟨g⟩, ⟨h⟩ => ⟨fun T k => @Option.rec Value (fun _ => RR) none (fun v => boolK v (fun b => @Bool.rec (fun _ => RR) (@Option.rec Value (fun _ => RR) none k (h T)) (@Option.rec Value (fun _ => RR) none k (g T)) b)) (f T)⟩
theorem pickS_eq (c x y : Operand) (T : σ) (e : Operand → Option Value) (he : ∀ x, (ev x).un T = e x) (k : Value → RR) : (pickS ev c x y).un T k = bV (opw tab eqs (.pick c x y) e) k := by
  unfold pickS opw; simp only; rw [← he, ← he, ← he]
  rcases ev c with ⟨f⟩; rcases ev x with ⟨g⟩; rcases ev y with ⟨h⟩
  show @Option.rec Value (fun _ => RR) none _ (f T) = bV (match f T with | some (.bool true) => g T | some (.bool false) => h T | _ => none) k
  cases f T with
  | none => rfl
  | some v => 
    cases v <;> try rfl
    rename_i b; cases b <;> rfl

noncomputable def notS (x : Operand) : Bx (VK σ) := match ev x with
  | ⟨f⟩ => ⟨fun T k => @Option.rec Value (fun _ => RR) none (fun v => boolK v (fun b => k (.bool (@Bool.rec (fun _ => Bool) true false b)))) (f T)⟩
theorem notS_eq (t : TypeId) (x : Operand) (T : σ) (e : Operand → Option Value) (he : ∀ x, (ev x).un T = e x) (k : Value → RR) : (notS ev x).un T k = bV (opw tab eqs (.unOp .not t x) e) k := by
  unfold notS opw; simp only; rw [← he]
  rcases ev x with ⟨f⟩
  show @Option.rec Value (fun _ => RR) none _ (f T) = bV (match f T with | some (.bool b) => some (.bool !b) | _ => none) k
  cases f T with
  | none => rfl
  | some v => 
    cases v <;> try rfl
    rename_i b; cases b <;> rfl

/-! ### two operands -/
/-- of two values -/
noncomputable def binV (o : BinOp) (t : TypeId) (a b : Value) : Option Value := opwBin tab eqs o t (.const a) (.const b) (fun | .const v => some v | _ => none)
theorem binV_eq (o : BinOp) (t : TypeId) (x y : Operand) (e : Operand → Option Value) (a b : Value) (hx : e x = some a) (hy : e y = some b) : opwBin tab eqs o t x y e = binV tab eqs o t a b := by
  unfold binV opwBin; simp only [hx, hy]
theorem bin_none (o : BinOp) (t : TypeId) (x y : Operand) (e : Operand → Option Value) (hx : e x = none) : opwBin tab eqs o t x y e = none := by
  unfold opwBin; simp only [hx]
theorem bin_none' (o : BinOp) (t : TypeId) (x y : Operand) (e : Operand → Option Value) (hy : e y = none) : opwBin tab eqs o t x y e = none := by
  unfold opwBin; simp only [hy]
  split <;> rfl

/-- ints that are held against one another -/
noncomputable def cmpS (o : BinOp) (t : TypeId) (f : Int → Int → Bool) : Bx (Value → Value → (Value → RR) → RR) :=
  ⟨fun a b k => intQ a (fun ka x => intQ b (fun kb y => @Bool.rec (fun _ => RR) none (k (.bool (f x y))) ((isK ka).un kb)) (bV (binV tab eqs o t a b) k)) (bV (binV tab eqs o t a b) k)⟩
/-- sums below 2 ^ 62 -/
noncomputable def addS (o : BinOp) (t : TypeId) : Bx (Value → Value → (Value → RR) → RR) :=
  ⟨fun a b k => intQ a (fun ka x => intQ b (fun kb y => nat2 x y (fun m n => @Bool.rec (fun _ => RR) (bV (binV tab eqs o t a b) k) (k (.int .i64 (.ofNat (Nat.add m n)))) (@Bool.rec (fun _ => Bool) false (Nat.ble (Nat.add m n) 4611686018427387904) (@Bool.rec (fun _ => Bool) false ((isK .i64).un kb) ((isK .i64).un ka)))) (bV (binV tab eqs o t a b) k)) (bV (binV tab eqs o t a b) k)) (bV (binV tab eqs o t a b) k)⟩
noncomputable def binS (o : BinOp) (t : TypeId) : Bx (Value → Value → (Value → RR) → RR) := match o with
  | .eql => cmpS tab eqs .eql t eqInt
  | .neq => cmpS tab eqs .neq t (fun x y => @Bool.rec (fun _ => Bool) true false (eqInt x y))
  | .lss => cmpS tab eqs .lss t lessInt
  | .gtr => cmpS tab eqs .gtr t (fun x y => lessInt y x)
  | .leq => cmpS tab eqs .leq t (fun x y => @Bool.rec (fun _ => Bool) true false (lessInt y x))
  | .geq => cmpS tab eqs .geq t (fun x y => @Bool.rec (fun _ => Bool) true false (lessInt x y))
  | .add => addS tab eqs .add t
  | o => ⟨fun a b k => bV (binV tab eqs o t a b) k⟩

theorem isK_eq (a b : IntKind) : (isK a).un b = decide (a = b) := by cases a <;> cases b <;> rfl
theorem intQ_int (i : IntKind) (n : Int) (k : IntKind → Int → RR) (d : RR) : intQ (.int i n) k d = k i n := rfl
theorem intQ_not (v : Value) (k : IntKind → Int → RR) (d : RR) (h : ∀ i n, v ≠ .int i n) : intQ v k d = d := by
  cases v <;> first | rfl | exact absurd rfl (h _ _)
theorem binV_int (o : BinOp) (t : TypeId) (i j : IntKind) (x y : Int) : binV tab eqs o t (.int i x) (.int j y) = opwInt o i x j y := rfl

theorem cmpS_eq (o : BinOp) (t : TypeId) (f : Int → Int → Bool) (hf : ∀ i x y, intOp o i x y = some (.bool (f x y))) (ho : o ≠ .shr) (a b : Value) (k : Value → RR) : (cmpS tab eqs o t f).un a b k = bV (binV tab eqs o t a b) k := by
  show intQ a _ _ = _
  cases a with
  | int i x =>
    rw [intQ_int]
    cases b with
    | int j y =>
      rw [intQ_int, binV_int, isK_eq]
      have : opwInt o i x j y = if i = j then intOp o i x y else none := by
        unfold opwInt
        split
        · exact absurd rfl ho
        · rfl
      rw [this]
      by_cases h : i = j
      · rw [if_pos h, hf, decide_eq_true h]; rfl
      · rw [if_neg h, decide_eq_false h]; rfl
    | _ => exact intQ_not _ _ _ (fun _ _ e => by cases e)
  | _ => exact intQ_not _ _ _ (fun _ _ e => by cases e)

theorem addS_eq (t : TypeId) (a b : Value) (k : Value → RR) : (addS tab eqs .add t).un a b k = bV (binV tab eqs .add t a b) k := by
  show intQ a _ _ = _
  cases a with
  | int i x =>
    rw [intQ_int]
    cases b with
    | int j y =>
      rw [intQ_int]
      cases x with
      | negSucc m => rfl
      | ofNat m => cases y with
        | negSucc n => rfl
        | ofNat n =>
          show @Bool.rec (fun _ => RR) _ _ (@Bool.rec (fun _ => Bool) false (Nat.ble (Nat.add m n) 4611686018427387904) (@Bool.rec (fun _ => Bool) false ((isK .i64).un j) ((isK .i64).un i))) = _
          rw [isK_eq, isK_eq]
          by_cases h1 : IntKind.i64 = i
          · subst h1
            by_cases h2 : IntKind.i64 = j
            · subst h2
              cases h3 : Nat.ble (Nat.add m n) 4611686018427387904 with
              | false => rfl
              | true =>
                have h4 : m + n ≤ 4611686018427387904 := Nat.le_of_ble_eq_true h3
                have h5 : binV tab eqs .add t (.int .i64 (.ofNat m)) (.int .i64 (.ofNat n)) = some (.int .i64 (.ofNat (m + n))) := by
                  show (some (Value.int .i64 (IntKind.wrap .i64 (Int.ofNat m + Int.ofNat n)))) = _
                  congr 2
                  show IntKind.wrap .i64 (Int.ofNat (m + n)) = _
                  have e1 : (Int.ofNat (m + n)) % (2 ^ IntKind.bits .i64 : Int) = Int.ofNat (m + n) := by
                    have : (2 ^ IntKind.bits .i64 : Int) = 18446744073709551616 := by decide
                    rw [this]; simp only [Int.ofNat_eq_natCast]; omega
                  unfold IntKind.wrap
                  simp only [e1]
                  have e2 : (2 ^ (IntKind.bits .i64 - 1) : Int) = 9223372036854775808 := by decide
                  rw [if_neg]
                  rw [e2]; simp only [Int.ofNat_eq_natCast, Bool.and_eq_true, decide_eq_true_eq]; omega
                rw [h5]; rfl
            · rw [decide_eq_true rfl, decide_eq_false h2]
          · rw [decide_eq_false h1]
    | _ => exact intQ_not _ _ _ (fun _ _ e => by cases e)
  | _ => exact intQ_not _ _ _ (fun _ _ e => by cases e)

theorem binS_eq (o : BinOp) (t : TypeId) (a b : Value) (k : Value → RR) : (binS tab eqs o t).un a b k = bV (binV tab eqs o t a b) k := by
  have hn : ∀ b : Bool, (@Bool.rec (fun _ => Bool) true false b : Bool) = !b := fun b => by cases b <;> rfl
  cases o <;> try rfl
  · exact addS_eq tab eqs t a b k
  · exact cmpS_eq tab eqs .eql t _ (fun i x y => by rw [eqInt_eq]; rfl) (by intro h; cases h) a b k
  · exact cmpS_eq tab eqs .neq t _ (fun i x y => by rw [hn, eqInt_eq]; rfl) (by intro h; cases h) a b k
  · exact cmpS_eq tab eqs .lss t _ (fun i x y => by rw [lessInt_eq]; rfl) (by intro h; cases h) a b k
  · exact cmpS_eq tab eqs .leq t _ (fun i x y => by
      rw [hn, lessInt_eq]
      show some (Value.bool (decide (x ≤ y))) = some (Value.bool (!decide (y < x)))
      congr 2
      by_cases h : x ≤ y
      · rw [decide_eq_true h, decide_eq_false (by omega)]; rfl
      · rw [decide_eq_false h, decide_eq_true (by omega)]; rfl) (by intro h; cases h) a b k
  · exact cmpS_eq tab eqs .gtr t _ (fun i x y => by rw [lessInt_eq]; rfl) (by intro h; cases h) a b k
  · exact cmpS_eq tab eqs .geq t _ (fun i x y => by
      rw [hn, lessInt_eq]
      show some (Value.bool (decide (x ≥ y))) = some (Value.bool (!decide (x < y)))
      congr 2
      by_cases h : x < y
      · rw [decide_eq_true h, decide_eq_false (by omega)]; rfl
      · rw [decide_eq_false h, decide_eq_true (by omega)]; rfl) (by intro h; cases h) a b k

noncomputable def bopS (o : BinOp) (t : TypeId) (x y : Operand) : Bx (VK σ) := match ev x, ev y, binS tab eqs o t with
  | ⟨f⟩, ⟨g⟩, ⟨h⟩ => ⟨fun T k => @Option.rec Value (fun _ => RR) none (fun a => @Option.rec Value (fun _ => RR) none (fun b => h a b k) (g T)) (f T)⟩
theorem bopS_eq (o : BinOp) (t : TypeId) (x y : Operand) (T : σ) (e : Operand → Option Value) (he : ∀ x, (ev x).un T = e x) (k : Value → RR) : (bopS tab eqs ev o t x y).un T k = bV (opwBin tab eqs o t x y e) k := by
  have h1 := he x
  have h2 := he y
  have h3 := binS_eq tab eqs o t
  unfold bopS
  revert h1 h2 h3
  rcases ev x with ⟨f⟩; rcases ev y with ⟨g⟩; rcases binS tab eqs o t with ⟨h⟩
  intro h1 h2 h3
  show @Option.rec Value (fun _ => RR) none (fun a => @Option.rec Value (fun _ => RR) none (fun b => h a b k) (g T)) (f T) = _
  have h1 : f T = e x := h1
  have h2 : g T = e y := h2
  rw [h1, h2]
  cases hx : e x with
  | none => rw [bin_none tab eqs o t x y _ hx]; rfl
  | some a => cases hy : e y with
    | none => rw [bin_none' tab eqs o t x y _ hy]; rfl
    | some b => rw [binV_eq tab eqs o t x y _ a b hx hy]; exact h3 a b k

/-! ### places, parts -/
noncomputable def faS (s : TypeId) (x : Operand) (i : Nat) : Bx (VK σ) := match ev x with
  | ⟨f⟩ => match tab s with
    | some j => match opw.nthF j.fields i with
      | some (off, _ + 1, _) => ⟨fun T k => @Option.rec Value (fun _ => RR) none (fun v => ptrK v (fun b o => k (.pointer (some ⟨b, Nat.add o off, none⟩)))) (f T)⟩
      | _ => ⟨fun _ _ => none⟩
    | none => ⟨fun _ _ => none⟩
theorem ptrK_none (v : Value) : ptrK v (fun _ _ => none) = none := by
  cases v <;> try rfl
  rename_i a
  rcases a with _ | ⟨b, o, s⟩
  · rfl
  · cases s <;> rfl
theorem faS_eq (s : TypeId) (x : Operand) (i : Nat) (T : σ) (e : Operand → Option Value) (he : ∀ x, (ev x).un T = e x) (k : Value → RR) : (faS tab ev s x i).un T k = bV (opwFieldAddr tab s x i e) k := by
  unfold faS opwFieldAddr; rw [← he]
  rcases ev x with ⟨f⟩
  show ((match tab s with
    | some j => match opw.nthF j.fields i with
      | some (off, _ + 1, _) => ⟨fun T k => @Option.rec Value (fun _ => RR) none (fun v => ptrK v (fun b o => k (.pointer (some ⟨b, Nat.add o off, none⟩)))) (f T)⟩
      | _ => ⟨fun _ _ => none⟩
    | none => ⟨fun _ _ => none⟩ : Bx (VK σ)).un T k) = bV (match f T, tab s with | some (.pointer (some ⟨b, o, none⟩)), some i_1 => _ | _, _ => none) k
  cases tab s with
  | none =>
    show none = _
    cases f T with
    | none => rfl
    | some v => cases v <;> try rfl
                rename_i a; rcases a with _ | ⟨b, o, s⟩
                · rfl
                · cases s <;> first | rfl | (simp only [hq]; rfl)
  | some j =>
    cases hq : opw.nthF j.fields i with
    | none => 
      simp only [hq]
      cases f T with
      | none => rfl
      | some v => cases v <;> try rfl
                  rename_i a; rcases a with _ | ⟨b, o, s⟩
                  · rfl
                  · cases s <;> first | rfl | (simp only [hq]; rfl)
    | some q =>
      obtain ⟨off, size, agg⟩ := q
      cases size with
      | zero =>
        simp only [hq]
        cases f T with
        | none => rfl
        | some v => cases v <;> try rfl
                    rename_i a; rcases a with _ | ⟨b, o, s⟩
                    · rfl
                    · cases s <;> first | rfl | (simp only [hq]; rfl)
      | succ size =>
        simp only [hq]
        cases f T with
        | none => rfl
        | some v => cases v <;> try rfl
                    rename_i a; rcases a with _ | ⟨b, o, s⟩
                    · rfl
                    · cases s <;> first | rfl | (simp only [hq]; rfl)

noncomputable def nthS (i : Nat) : Bx (List Value → (Value → RR) → RR) := @Nat.rec (fun _ => Bx (List Value → (Value → RR) → RR)) ⟨fun l k => @List.rec Value (fun _ => RR) none (fun v _ _ => k v) l⟩ (fun _ ih => match ih with | ⟨f⟩ => ⟨fun l k => @List.rec Value (fun _ => RR) none (fun _ r _ => f r k) l⟩) i
theorem nthS_eq : ∀ (i : Nat) (l : List Value) (k : Value → RR), (nthS i).un l k = bV (nth l i) k
  | 0, l, k => by cases l <;> rfl
  | i + 1, l, k => by
    have ih := fun r => nthS_eq i r k
    show (match nthS i with | ⟨f⟩ => (⟨fun l k => @List.rec Value (fun _ => RR) none (fun _ r _ => f r k) l⟩ : Bx (List Value → (Value → RR) → RR))).un l k = _
    revert ih
    rcases nthS i with ⟨f⟩
    intro ih
    cases l with
    | nil => rfl
    | cons v r => exact ih r

noncomputable def extS (x : Operand) (i : Nat) : Bx (VK σ) := match ev x, nthS i with
  | ⟨f⟩, ⟨h⟩ => ⟨fun T k => @Option.rec Value (fun _ => RR) none (fun v => tupK v (fun l => h l k)) (f T)⟩
theorem extS_eq (x : Operand) (i : Nat) (T : σ) (e : Operand → Option Value) (he : ∀ x, (ev x).un T = e x) (k : Value → RR) : (extS ev x i).un T k = bV (opw tab eqs (.extract x i) e) k := by
  have h3 := nthS_eq i
  unfold extS opw; simp only; rw [← he]
  revert h3
  rcases ev x with ⟨f⟩; rcases nthS i with ⟨h⟩
  intro h3
  show @Option.rec Value (fun _ => RR) none (fun v => tupK v (fun l => h l k)) (f T) = bV (match f T with | some (.tuple vs) => nth vs.toList i | _ => none) k
  cases f T with
  | none => rfl
  | some v =>
    cases v <;> try rfl
    rename_i a; exact h3 a.toList k

/-- a place in a row -/
noncomputable def iaS (t : TypeId) (x y : Operand) : Bx (VK σ) := match tab t with
  | some ⟨.slice _, _, _, _, _, _, es, _, _, _⟩ => match ev x, ev y with
    | ⟨f⟩, ⟨g⟩ => ⟨fun T k => @Option.rec Value (fun _ => RR) none (fun v => @Option.rec Value (fun _ => RR) none (fun u => slK v (fun b o n c => intK u (fun _ z => natK z (fun i => @Bool.rec (fun _ => RR) none (k (.pointer (some ⟨b, Nat.add o (Nat.mul i es), none⟩))) (Nat.ble (Nat.succ i) n))))) (g T)) (f T)⟩
  | _ => ⟨fun T k => bV (opwIndexAddr tab t x y (fun x => (ev x).un T)) k⟩
theorem iaS_eq (t : TypeId) (x y : Operand) (T : σ) (e : Operand → Option Value) (he : ∀ x, (ev x).un T = e x) (k : Value → RR) : (iaS tab ev t x y).un T k = bV (opwIndexAddr tab t x y e) k := by
  unfold iaS
  split
  · rename_i et _ _ _ _ _ es _ _ _ ht
    have h1 := he x
    have h2 := he y
    revert h1 h2
    rcases ev x with ⟨f⟩; rcases ev y with ⟨g⟩
    intro h1 h2
    have h1 : f T = e x := h1
    have h2 : g T = e y := h2
    show @Option.rec Value (fun _ => RR) none _ (f T) = _
    unfold opwIndexAddr
    rw [← h1, ← h2, ht]
    cases f T with
    | none => rfl
    | some v => cases g T with
      | none =>
        cases v <;> try rfl
        · rename_i a; rcases a with _ | ⟨b, o, s⟩
          · rfl
          · cases s <;> rfl
        · rename_i a n c; rcases a with _ | ⟨b, o, s⟩
          · rfl
          · cases s <;> rfl
      | some u => 
        cases v <;> try rfl
        · rename_i a; rcases a with _ | ⟨b, o, s⟩
          · rfl
          · cases s <;> try rfl
            cases u <;> try rfl
            rename_i i z; cases z <;> rfl
        · rename_i a n c; rcases a with _ | ⟨b, o, s⟩
          · rfl
          · cases s with
            | some s => rfl
            | none =>
              cases u <;> try rfl
              rename_i i z
              cases z with
              | negSucc z => rfl
              | ofNat z =>
                show @Bool.rec (fun _ => RR) none _ (Nat.ble (Nat.succ z) n) = bV (bif Nat.blt z n then _ else _) k
                show _ = bV (bif Nat.ble (Nat.succ z) n then _ else _) k
                cases Nat.ble (Nat.succ z) n <;> rfl
  · obtain rfl : (fun x => (ev x).un T) = e := funext he
    rfl

noncomputable def lenS (args : Array Operand) (ts : Array TypeId) : Bx (VK σ) := match args.toList, ts.toList with
  | [x], [t] => match ev x, tab t with
    | ⟨f⟩, some ⟨.slice _, _, _, _, _, _, _, _, _, _⟩ => ⟨fun T k => @Option.rec Value (fun _ => RR) none (fun v => lenK v (fun n => k (.int .i64 (.ofNat n)))) (f T)⟩
    | _, _ => ⟨fun T k => bV (opwLen tab args ts (fun x => (ev x).un T)) k⟩
  | _, _ => ⟨fun T k => bV (opwLen tab args ts (fun x => (ev x).un T)) k⟩
theorem lenS_eq (args : Array Operand) (ts : Array TypeId) (T : σ) (e : Operand → Option Value) (he : ∀ x, (ev x).un T = e x) (k : Value → RR) : (lenS tab ev args ts).un T k = bV (opwLen tab args ts e) k := by
  unfold lenS
  split
  · rename_i x t hx ht
    have h1 := he x
    revert h1
    rcases ev x with ⟨f⟩
    intro h1
    have h1 : f T = e x := h1
    split
    · rename_i f' _ _ _ _ _ _ _ _ _ _ e h2
      cases e
      show @Option.rec Value (fun _ => RR) none _ (f T) = _
      unfold opwLen
      rw [hx, ht]
      simp only
      rw [← h1, h2]
      cases f T with
      | none => rfl
      | some v => cases v <;> rfl
    · obtain rfl : (fun x => (ev x).un T) = e := funext he
      rfl
  · obtain rfl : (fun x => (ev x).un T) = e := funext he
    rfl

/-- what only reckons -/
noncomputable def opS (op : Op) : Bx (VK σ) := match op with
  | .move x => moveS ev x
  | .assign x => moveS ev x
  | .nilCheck x => nilS ev x
  | .pick c x y => pickS ev c x y
  | .binOp o t x y _ => bopS tab eqs ev o t x y
  | .unOp .not _ x => notS ev x
  | .fieldAddr s x f => faS tab ev s x f
  | .indexAddr t x y => iaS tab ev t x y
  | .extract x i => extS ev x i
  | .call ⟨.builtin .len, args, ts⟩ => lenS tab ev args ts
  | op => ⟨fun T k => bV (opw tab eqs op (fun x => (ev x).un T)) k⟩
theorem opS_eq (op : Op) (T : σ) (e : Operand → Option Value) (he : ∀ x, (ev x).un T = e x) (k : Value → RR) : (opS tab eqs ev op).un T k = bV (opw tab eqs op e) k := by
  unfold opS
  split
  · exact moveS_eq ev _ T e he k
  · exact moveS_eq ev _ T e he k
  · exact nilS_eq tab eqs ev _ T e he k
  · exact pickS_eq tab eqs ev _ _ _ T e he k
  · exact bopS_eq tab eqs ev _ _ _ _ T e he k
  · exact notS_eq tab eqs ev _ _ T e he k
  · exact faS_eq tab ev _ _ _ T e he k
  · exact iaS_eq tab ev _ _ _ T e he k
  · exact extS_eq tab eqs ev _ _ T e he k
  · exact lenS_eq tab ev _ _ T e he k
  · obtain rfl : (fun x => (ev x).un T) = e := funext he
    rfl
end
end Go.Ev
