/- A small logic of walks: the table of types, operations that only reckon. -/
import Derived.Test.YtheedjgpfpghbaaGreatFwA
set_option linter.unusedVariables false
set_option linter.unusedSimpArgs false
namespace Go.Fw
open Go

/-- what the walks ask of a type: its shape, cells, bytes, zero; of a struct its fields (offset, cells, many?); of a slice or an array its elements' cells, bytes, zero -/
inductive TK where
  | slice (e : TypeId) | array (n : Nat) (e : TypeId) | int (k : IntKind) | string | bool | struct | map (k e : TypeId) | pointer (e : TypeId) | other

def kindOf : TypeDesc → TK
  | .slice e => .slice e
  | .array n e => .array n e
  | .int k => .int k
  | .string => .string
  | .bool => .bool
  | .struct _ => .struct
  | .map k e => .map k e
  | .pointer e => .pointer e
  | _ => .other

theorem kind_slice {d : TypeDesc} {e : TypeId} (h : kindOf d = .slice e) : d = .slice e := by cases d <;> simp_all [kindOf]
theorem kind_array {d : TypeDesc} {n : Nat} {e : TypeId} (h : kindOf d = .array n e) : d = .array n e := by cases d <;> simp_all [kindOf]
theorem kind_int {d : TypeDesc} {k : IntKind} (h : kindOf d = .int k) : d = .int k := by cases d <;> simp_all [kindOf]
theorem kind_string {d : TypeDesc} (h : kindOf d = .string) : d = .string := by cases d <;> simp_all [kindOf]
theorem kind_bool {d : TypeDesc} (h : kindOf d = .bool) : d = .bool := by cases d <;> simp_all [kindOf]
theorem kind_struct {d : TypeDesc} (h : kindOf d = .struct) : ∃ fs, d = .struct fs := by cases d <;> simp_all [kindOf]
theorem kind_map {d : TypeDesc} {k e : TypeId} (h : kindOf d = .map k e) : d = .map k e := by cases d <;> simp_all [kindOf]
theorem kind_pointer {d : TypeDesc} {e : TypeId} (h : kindOf d = .pointer e) : d = .pointer e := by cases d <;> simp_all [kindOf]

structure TI where
  kind : TK
  size : Nat
  bytes : Nat
  zero : List Value
  agg : Bool
  fields : List (Nat × Nat × Bool) := []
  esize : Nat := 0
  ebytes : Nat := 0
  ezero : List Value := []
  eagg : Bool := false

def aggB : Option TypeDesc → Bool
  | some (.struct _) => true
  | some (.array _ _) => true
  | _ => false

def elemId : TK → Option TypeId
  | .slice e => some e
  | .array _ e => some e
  | _ => none

def aggK : TK → Bool
  | .struct => true
  | .array _ _ => true
  | _ => false

theorem aggK_eq (d : TypeDesc) : aggK (kindOf d) = aggB (some d) := by cases d <;> rfl

def fieldsOf (P : Program) : TypeDesc → List (Nat × Nat × Bool)
  | .struct fs => fs.toList.map fun f => (f.offset, bif (P.underlying f.type).isSome then P.cellsOf f.type else 0, aggB (P.underlying f.type))
  | _ => []

/-- the row of a type, out of the program -/
def entry (P : Program) (t : TypeId) : Option TI :=
  match P.info? t, P.underlying t with
  | some i, some d =>
    match i.zero with
    | some z =>
      match elemId (kindOf d) with
      | some e =>
        match P.info? e with
        | some j => match (bif (P.underlying e).isSome then j.zero else none) with
          | some y => some ⟨kindOf d, i.size, i.bytes, z.cells.toList, aggB (some d), fieldsOf P d, j.size, j.bytes, y.cells.toList, aggB (P.underlying e)⟩
          | none => none
        | none => none
      | none => some ⟨kindOf d, i.size, i.bytes, z.cells.toList, aggB (some d), fieldsOf P d, 0, 0, [], false⟩
    | none => none
  | _, _ => none

abbrev Tab := List (Nat × TI)
def tk : Tab → Nat → Option TI
  | [], _ => none
  | (t, v) :: r, n => bif Nat.beq t n then some v else tk r n

def TabAll (P : Program) : Tab → Prop
  | [] => True
  | (t, i) :: r => entry P t = some i ∧ TabAll P r

theorem TabAll.get {P : Program} {T : Tab} (h : TabAll P T) {t : Nat} {i : TI} (ht : tk T t = some i) : entry P t = some i := by
  induction T with
  | nil => cases ht
  | cons p r ih =>
    obtain ⟨s, u⟩ := p
    simp only [tk] at ht
    cases hb : Nat.beq s t with
    | true => rw [hb] at ht; have := Nat.eq_of_beq_eq_true hb; subst this; simp at ht; subst ht; exact h.1
    | false => rw [hb] at ht; exact ih h.2 (by simpa using ht)

class TabC (P : Program) (T : outParam Tab) : Prop where
  all : TabAll P T
  mixed : P.follows .mixedOrders = true

theorem entry_spec {P : Program} {t : TypeId} {i : TI} (h : entry P t = some i) :
    ∃ d, P.underlying t = some d ∧ kindOf d = i.kind ∧ (∃ j, P.info? t = some j ∧ j.size = i.size ∧ j.bytes = i.bytes ∧ ∃ z, j.zero = some z ∧ z.cells.toList = i.zero) ∧ i.agg = aggB (some d) ∧ i.fields = fieldsOf P d ∧
    ∀ e, elemId i.kind = some e → (∃ j, P.info? e = some j ∧ j.size = i.esize ∧ j.bytes = i.ebytes ∧ ∃ z, j.zero = some z ∧ z.cells.toList = i.ezero) ∧ i.eagg = aggB (P.underlying e) ∧ (P.underlying e).isSome = true := by
  unfold entry at h
  split at h
  · rename_i j d hj hd
    split at h
    · rename_i z hz
      split at h
      · rename_i e he
        split at h
        · rename_i k hk
          split at h
          · rename_i y hy
            cases h
            refine ⟨d, hd, rfl, ⟨j, hj, rfl, rfl, z, hz, rfl⟩, rfl, rfl, fun e' he' => ?_⟩
            rw [he] at he'; cases he'
            cases hse : (P.underlying e).isSome with
            | false => rw [hse] at hy; cases hy
            | true => rw [hse] at hy; exact ⟨⟨k, hk, rfl, rfl, y, hy, rfl⟩, rfl, rfl⟩
          · cases h
        · cases h
      · rename_i he
        cases h
        refine ⟨d, hd, rfl, ⟨j, hj, rfl, rfl, z, hz, rfl⟩, rfl, rfl, fun e' he' => ?_⟩
        rw [he] at he'; cases he'
    · cases h
  · cases h

/-! ### operations that only reckon -/

def nth : List Value → Nat → Option Value
  | [], _ => none
  | v :: _, 0 => some v
  | _ :: r, n + 1 => nth r n

theorem nth_eq (l : List Value) : ∀ n, nth l n = l[n]? := by
  induction l with
  | nil => intro n; simp [nth]
  | cons v r ih => intro n; cases n <;> simp [nth, ih]

/-- cells from off on, so many -/
def cut : List Value → Nat → Nat → List Value
  | l, 0, n => l.take n
  | [], _ + 1, _ => []
  | _ :: r, k + 1, n => cut r k n

theorem cut_eq (l : List Value) : ∀ k n, cut l k n = (l.drop k).take n := by
  induction l with
  | nil => intro k n; cases k <;> simp [cut]
  | cons v r ih => intro k n; cases k <;> simp [cut, ih]

def intOp (op : BinOp) (k : IntKind) (a b : Int) : Option Value :=
  match op with
  | .add => some (.int k (k.wrap (a + b)))
  | .sub => some (.int k (k.wrap (a - b)))
  | .mul => some (.int k (k.wrap (a * b)))
  | .eql => some (.bool (a == b))
  | .neq => some (.bool (a != b))
  | .lss => some (.bool (a < b))
  | .leq => some (.bool (a ≤ b))
  | .gtr => some (.bool (a > b))
  | .geq => some (.bool (a ≥ b))
  | .quo => match b with
    | .ofNat 0 => none
    | _ => some (.int k (k.wrap (a.tdiv b)))
  | .rem => match b with
    | .ofNat 0 => none
    | _ => some (.int k (a.tmod b))
  | .and => some (.int k (k.wrap (BitVec.ofInt k.bits a &&& BitVec.ofInt k.bits b).toNat))
  | .or => some (.int k (k.wrap (BitVec.ofInt k.bits a ||| BitVec.ofInt k.bits b).toNat))
  | .xor => some (.int k (k.wrap (BitVec.ofInt k.bits a ^^^ BitVec.ofInt k.bits b).toNat))
  | _ => none

def strOp (op : BinOp) (a b : ByteArray) : Option Value :=
  match op with
  | .eql => some (.bool (a.toList == b.toList))
  | .neq => some (.bool !(a.toList == b.toList))
  | .lss => some (.bool (Op.bytesLess a.toList b.toList))
  | .leq => some (.bool (Op.bytesLess a.toList b.toList || a.toList == b.toList))
  | .gtr => some (.bool !(Op.bytesLess a.toList b.toList || a.toList == b.toList))
  | .geq => some (.bool !(Op.bytesLess a.toList b.toList))
  | _ => none

theorem intOp_run {P : Program} {w : World} {op : BinOp} {t : TypeId} {k : IntKind} {a b : Int} {v : Value} {x y : Operand} (h : intOp op k a b = some v) :
    (do eqGuard op t x y (.int k a) (.int k b); binOp op t (.int k a) (.int k b) : Sem Value).run P w = .ok v w := by
  have hg : (eqGuard op t x y (.int k a) (.int k b)).run P w = .ok () w := by
    unfold eqGuard; cases op <;> simp
  rw [Sem.run_bind, hg]
  cases op <;> simp only [intOp] at h <;> first | (cases h; simp [binOp, Op.intArith, Op.intCmp, Op.intBits]; done) | (cases h; done) | skip
  all_goals
    split at h
    · cases h
    · rename_i hne
      cases h
      have hb : ¬ b = 0 := fun e => hne (by rw [e]; rfl)
      simp [binOp, Op.intDiv, hb]

theorem strOp_run {P : Program} {w : World} {op : BinOp} {t : TypeId} {a b : ByteArray} {v : Value} {x y : Operand} (h : strOp op a b = some v) :
    (do eqGuard op t x y (.string a) (.string b); binOp op t (.string a) (.string b) : Sem Value).run P w = .ok v w := by
  have hg : (eqGuard op t x y (.string a) (.string b)).run P w = .ok () w := by
    unfold eqGuard; cases op <;> simp
  rw [Sem.run_bind, hg]
  cases op <;> simp only [strOp] at h <;> first | (cases h; simp [binOp, Op.stringOp]) | cases h

/-- a part of a struct's or an array's cells -/
def partOf (cs : List Value) (off size : Nat) (agg : Bool) : Option Value :=
  bif agg then some (.agg (cut cs off size).toArray) else nth cs off

def fieldAt (T : Tab) (s f : Nat) : Option (Nat × Nat × Bool) := (tk T s).bind fun i => i.fields[f]?

/-- parts laid into cells -/
def lay (fs : List (Nat × Nat × Bool)) : List Value → List (Nat × Value) → Option (List Value)
  | cells, [] => some cells
  | cells, (i, v) :: r =>
    match fs[i]? with
    | none => none
    | some (_, 0, _) => none
    | some (off, size + 1, _) =>
      bif Nat.beq v.cells.toList.length (size + 1) && Nat.ble (off + (size + 1)) cells.length then
        lay fs (cells.take off ++ (v.cells.toList ++ cells.drop (off + (size + 1)))) r
      else none

def evAll (σ : Slots) : List (Nat × Operand) → Option (List (Nat × Value))
  | [] => some []
  | (i, x) :: r => match ev σ x, evAll σ r with
    | some v, some l => some ((i, v) :: l)
    | _, _ => none

/-- the value of an operation that only reckons -/
def opv (T : Tab) (op : Op) (σ : Slots) : Option Value :=
  match op with
  | .move x => ev σ x
  | .assign x => ev σ x
  | .nilCheck x => match ev σ x with
    | some (.pointer (some a)) => some (.pointer (some a))
    | _ => none
  | .pick c x y => match ev σ c with
    | some (.bool true) => ev σ x
    | some (.bool false) => ev σ y
    | _ => none
  | .binOp o t x y _ => match ev σ x, ev σ y with
    | some (.int k a), some (.int k' b) => if k = k' then intOp o k a b else none
    | some (.string a), some (.string b) => strOp o a b
    | some (.bool a), some (.bool b) => match o, tk T t with
      | .eql, some ⟨.bool, _, _, _, _, _, _, _, _, _⟩ => some (.bool (a == b))
      | .neq, some ⟨.bool, _, _, _, _, _, _, _, _, _⟩ => some (.bool (!(a == b)))
      | _, _ => none
    | some (.pointer (some _)), some (.pointer none) => match o, tk T t with
      | .eql, some ⟨.pointer _, _, _, _, _, _, _, _, _, _⟩ => some (.bool false)
      | .neq, some ⟨.pointer _, _, _, _, _, _, _, _, _, _⟩ => some (.bool true)
      | _, _ => none
    | _, _ => none
  | .unOp .not _ x => match ev σ x with
    | some (.bool b) => some (.bool !b)
    | _ => none
  | .unOp .neg _ x => match ev σ x with
    | some (.int k n) => some (.int k (k.wrap (0 - n)))
    | _ => none
  | .convert src dst x => match ev σ x, tk T dst, tk T src with
    | some (.int _ n), some ⟨.int k, _, _, _, _, _, _, _, _, _⟩, some _ => some (.int k (k.wrap n))
    | _, _, _ => none
  | .fieldAddr s x f => match ev σ x, fieldAt T s f with
    | some (.pointer (some ⟨b, o, none⟩)), some (off, _ + 1, _) => some (.pointer (some ⟨b, o + off, none⟩))
    | _, _ => none
  | .field s x f => match ev σ x, fieldAt T s f with
    | some (.agg cs), some (off, size + 1, agg) => partOf cs.toList off (size + 1) agg
    | _, _ => none
  | .index t x y => match ev σ x, ev σ y, tk T t with
    | some (.agg cs), some (.int _ (.ofNat i)), some ⟨.array n _, _, _, _, _, _, es, _, _, ea⟩ =>
      bif Nat.blt i n && Nat.blt 0 es then partOf cs.toList (i * es) es ea else none
    | _, _, _ => none
  | .indexAddr t x y => match ev σ x, ev σ y, tk T t with
    | some (.pointer (some ⟨b, o, none⟩)), some (.int _ (.ofNat i)), some ⟨.array n _, _, _, _, _, _, es, _, _, _⟩ =>
      bif Nat.blt i n then some (.pointer (some ⟨b, o + i * es, none⟩)) else none
    | _, _, _ => none
  | .build t parts => match tk T t, evAll σ parts.toList with
    | some ⟨.struct, _, _, zero, _, fs, _, _, _, _⟩, some l => match (bif fs.all (fun f => !Nat.beq f.2.1 0) then lay fs zero l else none) with
      | some cs => some (.agg cs.toArray)
      | none => none
    | _, _ => none
  | .extract x i => match ev σ x with
    | some (.tuple vs) => nth vs.toList i
    | _ => none
  | .call ⟨.builtin .len, args, ts⟩ => match args.toList, ts.toList with
    | [x], [t] => match ev σ x, tk T t with
      | some (.slice _ n _), some ⟨.slice _, _, _, _, _, _, _, _, _, _⟩ => some (.int .i64 n)
      | some (.string s), some ⟨.string, _, _, _, _, _, _, _, _, _⟩ => some (.int .i64 s.size)
      | _, _ => none
    | _, _ => none
  | .call ⟨.builtin .max, args, _⟩ => match args.toList with
    | [x, y] => match ev σ x, ev σ y with
      | some (.int k a), some (.int _ b) => some (.int k (if b > a then b else a))
      | _, _ => none
    | _ => none
  | .call ⟨.builtin .min, args, _⟩ => match args.toList with
    | [x, y] => match ev σ x, ev σ y with
      | some (.int k a), some (.int _ b) => some (.int k (if b < a then b else a))
      | _, _ => none
    | _ => none
  | _ => none

theorem fieldAt_spec {P : Program} {T : Tab} [hT : TabC P T] {s f off size : Nat} {agg : Bool} (h : fieldAt T s f = some (off, size + 1, agg)) :
    ∃ fs : Array Field, P.underlying s = some (.struct fs) ∧ ∃ g d, fs[f]? = some g ∧ g.offset = off ∧ P.cellsOf g.type = size + 1 ∧ P.underlying g.type = some d ∧ aggB (some d) = agg := by
  unfold fieldAt at h
  cases ht : tk T s with
  | none => rw [ht] at h; cases h
  | some i =>
    rw [ht] at h
    obtain ⟨dd, hd, _, _, _, hf, _⟩ := entry_spec (hT.all.get ht)
    simp only [Option.bind_some] at h
    rw [hf] at h
    cases hdd : dd with
    | struct fs =>
      rw [hdd] at h hd
      refine ⟨fs, hd, ?_⟩
      simp only [fieldsOf, List.getElem?_map] at h
      cases hg : fs.toList[f]? with
      | none => rw [hg] at h; cases h
      | some g =>
        rw [hg] at h
        simp only [Option.map_some, Option.some.injEq, Prod.mk.injEq] at h
        cases hu : P.underlying g.type with
        | none => rw [hu] at h; simp at h
        | some d => rw [hu] at h; exact ⟨g, d, by simpa using hg, h.1, by simpa using h.2.1, hu, h.2.2⟩
    | _ => rw [hdd] at h; simp [fieldsOf] at h

theorem cellsOf_run {P : Program} {t : TypeId} {n : Nat} {w : World} (h : P.cellsOf t = n) (hn : n ≠ 0) : (sizeOf t).run P w = .ok n w := by
  unfold Program.cellsOf at h
  cases hi : P.info? t with
  | none => rw [hi] at h; simp at h; omega
  | some i =>
    rw [hi] at h
    simp at h
    simp [sizeOf, typeInfo, hi, h]

theorem underlying_run {P : Program} {t : TypeId} {d : TypeDesc} {w : World} (h : P.underlying t = some d) : (underlying t).run P w = .ok d w := by
  simp [underlying, h]

theorem aggB_run {P : Program} {t : TypeId} {d : TypeDesc} {w : World} (h : P.underlying t = some d) : (isAgg t).run P w = .ok (aggB (some d)) w := by
  cases d <;> simp [isAgg, underlying, h, aggB]

theorem add_addr (b o k : Nat) : Addr.add ⟨b, o, none⟩ k = ⟨b, o + k, none⟩ := by
  unfold Addr.add; split
  · rename_i h; subst h; rfl
  · rfl

theorem part_run {P : Program} {t : TypeId} {d : TypeDesc} {off size : Nat} {cs : Array Value} {v : Value} {w : World} (hd : P.underlying t = some d) (hs : P.cellsOf t = size + 1)
    (h : partOf cs.toList off (size + 1) (aggB (some d)) = some v) : (part t cs off).run P w = .ok v w := by
  unfold part
  rw [Sem.run_bind, aggB_run hd]
  unfold partOf at h
  cases ha : aggB (some d) with
  | true =>
    rw [ha] at h
    simp only [cond_true, Option.some.injEq] at h
    simp only [Result.andThen_ok, if_true, Sem.run_bind, cellsOf_run hs (by omega), Sem.run_pure, ← h]
    congr 2
    rw [cut_eq]
    apply Array.ext'
    simp [List.extract_eq_take_drop]
  | false =>
    rw [ha] at h
    simp only [cond_false, nth_eq] at h
    simp only [Result.andThen_ok, Bool.false_eq_true, if_false]
    have : cs[off]? = some v := by simpa using h
    rw [this]; rfl

theorem lay_fold (vs : List Value) : ∀ (cs : Array Value) (off k : Nat), off + k + vs.length ≤ cs.size →
    ((vs.zipIdx k).foldl (fun cs (c, j) => cs.setIfInBounds (off + j) c) cs).toList = cs.toList.take (off + k) ++ (vs ++ cs.toList.drop (off + k + vs.length)) := by
  induction vs with
  | nil => intro cs off k h; simp
  | cons v r ih =>
    intro cs off k h
    simp only [List.zipIdx_cons, List.foldl_cons]
    simp only [List.length_cons] at h
    rw [ih _ off (k + 1) (by simp; omega)]
    simp only [Array.toList_setIfInBounds, List.length_cons]
    have hlt : off + k < cs.toList.length := by simp; omega
    rw [show off + (k + 1) = off + k + 1 by omega, show off + k + 1 + r.length = off + k + (r.length + 1) by omega, List.drop_set, if_pos (by omega)]
    rw [List.take_succ_eq_append_getElem (by simpa using hlt), List.take_set_of_le (Nat.le_refl _)]
    simp

theorem lay_fill (fs : List (Nat × Nat × Bool)) : ∀ (l : List (Nat × Value)) (cs : Array Value) (r : List Value), lay fs cs.toList l = some r →
    Instr.fill (fun i => (fs.map fun f => (f.1, f.2.1)).toArray[i]?) cs l = some r.toArray := by
  intro l
  induction l with
  | nil => intro cs r h; simp [lay] at h; subst h; simp [Instr.fill]
  | cons p l ih =>
    obtain ⟨i, v⟩ := p
    intro cs r h
    simp only [lay] at h
    split at h
    · cases h
    · cases h
    · rename_i off size ag hf
      cases hb : (Nat.beq v.cells.toList.length (size + 1) && Nat.ble (off + (size + 1)) cs.toList.length) with
      | false => rw [hb] at h; cases h
      | true =>
        rw [hb] at h
        simp only [Bool.and_eq_true] at hb
        obtain ⟨h1, h2⟩ := hb
        have h1 := Nat.eq_of_beq_eq_true h1
        have h2 := Nat.le_of_ble_eq_true h2
        have h1' : v.cells.size = size + 1 := by simpa using h1
        have h2' : off + (size + 1) ≤ cs.size := by simpa using h2
        have hpl : (fs.map fun f => (f.1, f.2.1)).toArray[i]? = some (off, size + 1) := by simp [hf]
        simp only [Instr.fill, hpl]
        rw [if_neg (by simp [h1']; omega)]
        refine ih _ _ ?_
        have := lay_fold v.cells.toList cs off 0 (by simp [h1']; omega)
        simp only [Nat.add_zero] at this
        have e2 : (Array.foldl (fun cs (x : Value × Nat) => cs.setIfInBounds (off + x.2) x.1) cs v.cells.zipIdx).toList = cs.toList.take off ++ (v.cells.toList ++ cs.toList.drop (off + (size + 1))) := by
          rw [← Array.foldl_toList]
          simp only [Array.toList_zipIdx]
          rw [this, h1]
        rw [show (Array.foldl (fun cs (x : Value × Nat) => match x with | (c, j) => cs.setIfInBounds (off + j) c) cs v.cells.zipIdx).toList = _ from e2]
        exact h

theorem evAll_spec {N : Nat} {a : Act} {σ : Slots} (ha : Fits N a σ) : ∀ (l : List (Nat × Operand)) (r : List (Nat × Value)), evAll σ l = some r → l.map (fun p => (p.1, a.eval p.2)) = r := by
  intro l
  induction l with
  | nil => intro r h; simp [evAll] at h; simp [h]
  | cons p l ih =>
    obtain ⟨i, x⟩ := p
    intro r h
    simp only [evAll] at h
    split at h
    · rename_i v l' hv hl
      cases h
      simp [ha.ev hv, ih _ hl]
    · cases h

theorem mapM_sizes {P : Program} (w : World) : ∀ (fs : List Field), (∀ f ∈ fs, P.cellsOf f.type ≠ 0) →
    (fs.mapM (fun f => do pure (f.offset, ← sizeOf f.type) : Field → Sem (Nat × Nat))).run P w = .ok (fs.map fun f => (f.offset, P.cellsOf f.type)) w := by
  intro fs
  induction fs with
  | nil => intro _; simp
  | cons f r ih =>
    intro h
    have hs := cellsOf_run (P := P) (w := w) rfl (h f (List.mem_cons_self ..))
    have := ih (fun g hg => h g (List.mem_cons_of_mem _ hg))
    simp only [List.mapM_cons, Sem.run_bind, hs, Result.andThen_ok, Sem.run_pure, this, List.map_cons]

theorem build_run {P : Program} {T : Tab} [hT : TabC P T] {t : TypeId} {i : TI} (ht : tk T t = some i) (hd0 : i.kind = .struct) (hpos : i.fields.all (fun f => !Nat.beq f.2.1 0) = true)
    {l : List (Nat × Value)} {cs : List Value} (hl : lay i.fields i.zero l = some cs) (w : World) : (Instr.build t l.toArray).run P w = .ok (.agg cs.toArray) w := by
  obtain ⟨dd, hu, hk, ⟨j, hj, hjs, hjb, z, hz, hzz⟩, _, hf, _⟩ := entry_spec (hT.all.get ht)
  obtain ⟨fs, hd⟩ := kind_struct (hk.trans hd0)
  have hzv : (zeroValue t).run P w = .ok z w := by simp [zeroValue, typeInfo, hj, hz]
  unfold Instr.build
  rw [Sem.run_bind, hzv]
  simp only [Result.andThen_ok, Sem.run_bind, underlying_run hu]
  rw [hd]
  simp only [Sem.run_bind]
  rw [hd] at hf
  simp only [fieldsOf] at hf
  have hall : ∀ f ∈ fs.toList, (P.underlying f.type).isSome = true ∧ P.cellsOf f.type ≠ 0 := by
    intro f hm
    rw [hf, List.all_eq_true] at hpos
    have := hpos _ (List.mem_map.2 ⟨f, hm, rfl⟩)
    cases hu : (P.underlying f.type).isSome with
    | true => rw [hu] at this; refine ⟨rfl, ?_⟩; intro h0; rw [h0] at this; simp at this
    | false => rw [hu] at this; simp at this
  have hmap : (fs.mapM (fun f => do pure (f.offset, ← sizeOf f.type) : Field → Sem (Nat × Nat))).run P w = .ok (fs.toList.map fun f => (f.offset, P.cellsOf f.type)).toArray w := by
    rw [← Array.toArray_toList (xs := fs), List.mapM_toArray, Sem.run_map, mapM_sizes w fs.toList (fun f hm => (hall f hm).2)]
    rfl
  rw [hmap]
  simp only [Result.andThen_ok]
  have := lay_fill i.fields l z.cells cs (by rw [hzz]; exact hl)
  have e : (i.fields.map fun f => (f.1, f.2.1)) = fs.toList.map fun f => (f.offset, P.cellsOf f.type) := by
    rw [hf, List.map_map]
    apply List.map_congr_left
    intro f hm
    simp [(hall f hm).1]
  rw [e] at this
  rw [this]
  rfl

theorem opv_sound {P : Program} {T : Tab} [hT : TabC P T] {N : Nat} {a : Act} {σ : Slots} {op : Op} {v : Value} (h : opv T op σ = some v) (ha : Fits N a σ)
    (d : Option Tmp) (ty : TypeId) (pos : String) (af : Array Edge) (g : Option (Nat × Bool)) (w : World) : (execOp a.eval ⟨d, op, ty, pos, af, g⟩).run P w = .ok (.value v) w := by
  cases op with
  | move x => simp only [opv] at h; simp [execOp, ha.ev h]
  | assign x => simp only [opv] at h; simp [execOp, ha.ev h]
  | nilCheck x =>
    simp only [opv] at h
    split at h
    · rename_i p hp; cases h; simp [execOp, ha.ev hp]
    · cases h
  | binOp o t x y yt =>
    simp only [opv] at h
    split at h
    · rename_i k p k' q hx hy
      split at h
      · rename_i hk; subst hk
        simp only [execOp, ha.ev hx, ha.ev hy]
        rw [Sem.run_bind, intOp_run h]; rfl
      · cases h
    · rename_i p q hx hy
      simp only [execOp, ha.ev hx, ha.ev hy]
      rw [Sem.run_bind, strOp_run h]; rfl
    · rename_i p q hx hy
      split at h
      · rename_i ht
        cases h
        obtain ⟨d1, hd, hk1, _⟩ := entry_spec (hT.all.get ht)
        have := kind_bool hk1; subst this
        simp only [execOp, ha.ev hx, ha.ev hy, Sem.run_bind, eqGuard]
        simp [run_eql_bool _ t p q hd]
      · rename_i ht
        cases h
        obtain ⟨d1, hd, hk1, _⟩ := entry_spec (hT.all.get ht)
        have := kind_bool hk1; subst this
        simp only [execOp, ha.ev hx, ha.ev hy, Sem.run_bind, eqGuard]
        simp [run_neq_bool _ t p q hd]
      · cases h
    · rename_i p hx hy
      split at h
      · rename_i ht
        cases h
        obtain ⟨d1, hd, hk1, _⟩ := entry_spec (hT.all.get ht)
        have := kind_pointer hk1; subst this
        have hp : P.underlying t = some (.pointer (P.pointee t)) := by simp [Program.pointee, hd]
        simp only [execOp, ha.ev hx, ha.ev hy, Sem.run_bind, eqGuard]
        simp [run_eql_pointer_nil _ t (some p) hp]
      · rename_i ht
        cases h
        obtain ⟨d1, hd, hk1, _⟩ := entry_spec (hT.all.get ht)
        have := kind_pointer hk1; subst this
        have hp : P.underlying t = some (.pointer (P.pointee t)) := by simp [Program.pointee, hd]
        simp only [execOp, ha.ev hx, ha.ev hy, Sem.run_bind, eqGuard]
        simp [run_neq_pointer_nil _ t (some p) hp]
      · cases h
    · cases h
  | pick c x y =>
    simp only [opv] at h
    split at h
    · rename_i hc; simp [execOp, ha.ev hc, asBool, ha.ev h]
    · rename_i hc; simp [execOp, ha.ev hc, asBool, ha.ev h]
    · cases h
  | unOp o t x =>
    cases o with
    | not =>
      simp only [opv] at h
      split at h
      · rename_i b hb; cases h; simp [execOp, ha.ev hb, Op.unary]
      · cases h
    | neg =>
      simp only [opv] at h
      split at h
      · rename_i k n hb; cases h; simp [execOp, ha.ev hb, Op.unary, Op.intArith]
      · cases h
    | _ => simp [opv] at h
  | convert src dst x =>
    simp only [opv] at h
    split at h
    · rename_i kk n k s1 s2 s3 s4 s5 s6 s7 s8 s9 s0 hx ht hs
      cases h
      obtain ⟨d1, hd, hk1, _⟩ := entry_spec (hT.all.get ht)
      obtain ⟨d2, hd', _⟩ := entry_spec (hT.all.get hs)
      have := kind_int hk1; subst this
      simp only [execOp, ha.ev hx, convert, Sem.run_bind, underlying_run hd, underlying_run hd', Result.andThen_ok, Conv.intToInt, Sem.run_pure]
    · cases h
  | fieldAddr s x f =>
    simp only [opv] at h
    split at h
    · rename_i b o off n ag hx hf
      cases h
      obtain ⟨fs, hu, g, dd, hg, rfl, hc, hd, _⟩ := fieldAt_spec (P := P) hf
      simp only [execOp, ha.ev hx, Instr.fieldAt, Sem.run_bind, underlying_run hu, Result.andThen_ok, hg, Instr.sureAddr, Sem.run_pure, fieldPlace, cellsOf_run hc (by omega)]
      simp [add_addr]
    · cases h
  | field s x f =>
    simp only [opv] at h
    split at h
    · rename_i cs off n ag hx hf
      obtain ⟨fs, hu, g, dd, hg, rfl, hc, hd, rfl⟩ := fieldAt_spec (P := P) hf
      simp only [execOp, ha.ev hx, Instr.field, Sem.run_bind, underlying_run hu, Result.andThen_ok, hg, asAgg, Sem.run_pure, part_run hd hc h]
    · cases h
  | index t x y =>
    simp only [opv] at h
    split at h
    · rename_i cs k i n e s1 s2 s3 s4 s5 es s6 s7 ea hx hy ht
      cases hb : (Nat.blt i n && Nat.blt 0 es) with
      | false => rw [hb] at h; cases h
      | true =>
        rw [hb] at h
        simp only [cond_true] at h
        simp only [Bool.and_eq_true] at hb
        have h1 : i < n := by simpa using hb.1
        have h2 : 0 < es := by simpa using hb.2
        obtain ⟨d1, hd, hk1, _, _, _, he⟩ := entry_spec (hT.all.get ht)
        have := kind_array hk1; subst this
        obtain ⟨⟨j, hj, hjs, _⟩, hea, hse⟩ := he e rfl
        simp only at hjs hea
        subst hjs; subst hea
        cases hu : P.underlying e with
        | none =>
          rw [hu] at hse; cases hse
        | some dd =>
          rw [hu] at h
          obtain ⟨m, hm⟩ : ∃ m, j.size = m + 1 := ⟨j.size - 1, by omega⟩
          rw [hm] at h
          have hp := part_run (P := P) (w := w) hu (by simp [Program.cellsOf, hj, hm]) h
          simp only [execOp, ha.ev hx, ha.ev hy, Instr.index, asIntOf, Sem.run_bind, underlying_run hd, Result.andThen_ok, Sem.run_pure]
          rw [if_pos ⟨Int.natCast_nonneg i, by simpa using h1⟩]
          simp only [Sem.run_bind, sizeOf, typeInfo, run_program, Result.andThen_ok, hj, Sem.run_pure]
          rw [hm]
          have e1 : (Int.ofNat i).toNat = i := rfl
          rw [e1, hp]
          rfl
    · cases h
  | indexAddr t x y =>
    simp only [opv] at h
    split at h
    · rename_i b o k i n e s1 s2 s3 s4 s5 es s6 s7 ea hx hy ht
      cases hb : (Nat.blt i n) with
      | false => rw [hb] at h; cases h
      | true =>
        rw [hb] at h
        simp only [cond_true, Option.some.injEq] at h
        have h1 : i < n := by simpa using hb
        obtain ⟨d1, hd, hk1, _, _, _, he⟩ := entry_spec (hT.all.get ht)
        have := kind_array hk1; subst this
        obtain ⟨⟨j, hj, hjs, _⟩, _⟩ := he e rfl
        simp only at hjs
        simp only [execOp, ha.ev hx, ha.ev hy, Instr.indexAt, asIntOf, Sem.run_bind, underlying_run hd, Result.andThen_ok, Sem.run_pure, Instr.sureAddr]
        rw [if_pos ⟨Int.natCast_nonneg i, by simpa using h1⟩]
        have e1 : (Int.ofNat i).toNat = i := rfl
        simp only [Sem.run_bind, sizeOf, typeInfo, run_program, Result.andThen_ok, hj, Sem.run_pure, add_addr, hjs, ← h, e1]
    · cases h
  | build t parts =>
    simp only [opv] at h
    split at h
    · rename_i s1 s2 zero s3 fl s4 s5 s6 s7 l ht hl
      split at h
      · rename_i cs hcs
        cases h
        cases hpos : fl.all (fun f => !Nat.beq f.2.1 0) with
        | false => rw [hpos] at hcs; cases hcs
        | true =>
          rw [hpos] at hcs
          have h1 := evAll_spec ha _ _ hl
          have e : (parts.map fun (i, x) => (i, a.eval x)) = l.toArray := by
            rw [← h1]; apply Array.ext'; simp
          simp only [execOp]
          rw [e, Sem.run_bind, build_run ht rfl hpos hcs]
          rfl
      · cases h
    · cases h
  | extract x i =>
    simp only [opv] at h
    split at h
    · rename_i vs hx
      rw [nth_eq] at h
      have h' : vs[i]? = some v := by simpa using h
      simp only [execOp, ha.ev hx, Instr.extract, h', Sem.run_bind, Sem.run_pure, Result.andThen_ok]
    · cases h
  | call c =>
    obtain ⟨callee, args, ts⟩ := c
    cases callee with
    | builtin b =>
      cases b with
      | len =>
        simp only [opv] at h
        split at h
        · rename_i x t hargs hts
          have ea : args = #[x] := by rw [← Array.toArray_toList (xs := args), hargs]
          have et : ts = #[t] := by rw [← Array.toArray_toList (xs := ts), hts]
          subst ea; subst et
          split at h
          · rename_i p n c e s1 s2 s3 s4 s5 s6 s7 s8 s9 hx ht
            cases h
            obtain ⟨d1, hd, hk1, _⟩ := entry_spec (hT.all.get ht)
            have := kind_slice hk1; subst this
            simp [execOp, resolve, invoke, builtin, Builtin.len_, ha.ev hx, underlying_run hd, goInt]
          · rename_i str s1 s2 s3 s4 s5 s6 s7 s8 s9 hx ht
            cases h
            obtain ⟨d1, hd, hk1, _⟩ := entry_spec (hT.all.get ht)
            have := kind_string hk1; subst this
            simp [execOp, resolve, invoke, builtin, Builtin.len_, ha.ev hx, underlying_run hd, goInt]
          · cases h
        · cases h
      | max =>
        simp only [opv] at h
        split at h
        · rename_i x y hargs
          have ea : args = #[x, y] := by rw [← Array.toArray_toList (xs := args), hargs]
          subst ea
          split at h
          · rename_i hx hy
            cases h
            simp [execOp, resolve, invoke, builtin, Builtin.max_, Builtin.max2, ha.ev hx, ha.ev hy]
          · cases h
        · cases h
      | min =>
        simp only [opv] at h
        split at h
        · rename_i x y hargs
          have ea : args = #[x, y] := by rw [← Array.toArray_toList (xs := args), hargs]
          subst ea
          split at h
          · rename_i hx hy
            cases h
            simp [execOp, resolve, invoke, builtin, Builtin.min_, Builtin.min2, ha.ev hx, ha.ev hy]
          · cases h
        · cases h
      | _ => simp [opv] at h
    | _ => simp [opv] at h
  | _ => simp [opv] at h

end Go.Fw
