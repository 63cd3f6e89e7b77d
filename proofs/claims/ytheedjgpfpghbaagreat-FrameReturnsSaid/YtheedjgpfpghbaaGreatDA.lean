/- A deterministic evaluator of the program's code: what it is. -/
import Derived.Test.YtheedjgpfpghbaaGreatFwM
set_option linter.unusedVariables false
set_option linter.unusedSectionVars false
namespace Go.Ev
open Go Go.Fw

/-! ### tries -/
/-- what is reckoned once (the kernel keeps it) -/
structure Bx (α : Type) where
  un : α
structure O8 (β : Type) where
  (a0 a1 a2 a3 a4 a5 a6 a7 : β)
abbrev Td (α : Type) (n : Nat) : Type := Nat.rec (Option α) (fun _ t => O8 t) n
noncomputable def pickC {β : Type} (i : Nat) : Bx (O8 β → β) := bif Nat.beq i 0 then ⟨fun x => x.1⟩ else bif Nat.beq i 1 then ⟨fun x => x.2⟩ else bif Nat.beq i 2 then ⟨fun x => x.3⟩ else bif Nat.beq i 3 then ⟨fun x => x.4⟩ else bif Nat.beq i 4 then ⟨fun x => x.5⟩ else bif Nat.beq i 5 then ⟨fun x => x.6⟩ else bif Nat.beq i 6 then ⟨fun x => x.7⟩ else ⟨fun x => x.8⟩
noncomputable def updC {β : Type} (i : Nat) : Bx ((β → β) → O8 β → O8 β) := bif Nat.beq i 0 then ⟨fun h x => ⟨h x.1, x.2, x.3, x.4, x.5, x.6, x.7, x.8⟩⟩ else bif Nat.beq i 1 then ⟨fun h x => ⟨x.1, h x.2, x.3, x.4, x.5, x.6, x.7, x.8⟩⟩ else bif Nat.beq i 2 then ⟨fun h x => ⟨x.1, x.2, h x.3, x.4, x.5, x.6, x.7, x.8⟩⟩ else bif Nat.beq i 3 then ⟨fun h x => ⟨x.1, x.2, x.3, h x.4, x.5, x.6, x.7, x.8⟩⟩ else bif Nat.beq i 4 then ⟨fun h x => ⟨x.1, x.2, x.3, x.4, h x.5, x.6, x.7, x.8⟩⟩ else bif Nat.beq i 5 then ⟨fun h x => ⟨x.1, x.2, x.3, x.4, x.5, h x.6, x.7, x.8⟩⟩ else bif Nat.beq i 6 then ⟨fun h x => ⟨x.1, x.2, x.3, x.4, x.5, x.6, h x.7, x.8⟩⟩ else ⟨fun h x => ⟨x.1, x.2, x.3, x.4, x.5, x.6, x.7, h x.8⟩⟩
noncomputable def getC {α : Type} (n : Nat) : Nat → Bx (Td α n → Option α) := Nat.rec (motive := fun n => Nat → Bx (Td α n → Option α)) (fun _ => ⟨fun x => x⟩) (fun n ih k => match ih (Nat.div k 8), pickC (β := Td α n) (Nat.mod k 8) with | ⟨f⟩, ⟨g⟩ => ⟨fun x => f (g x)⟩) n
noncomputable def putC {α : Type} (n : Nat) : Nat → Bx (Option α → Td α n → Td α n) := Nat.rec (motive := fun n => Nat → Bx (Option α → Td α n → Td α n)) (fun _ => ⟨fun v _ => v⟩) (fun n ih k => match ih (Nat.div k 8), updC (β := Td α n) (Nat.mod k 8) with | ⟨f⟩, ⟨g⟩ => ⟨fun v x => g (f v) x⟩) n
noncomputable def empT (α : Type) (n : Nat) : Td α n := Nat.rec (motive := fun n => Td α n) none (fun _ e => ⟨e, e, e, e, e, e, e, e⟩) n
/-- a table of what has a number -/
structure Tr (α : Type) where
  lo : Td α 3
  hi : Td α 7
noncomputable def Tr.e {α : Type} : Tr α := ⟨empT α 3, empT α 7⟩
noncomputable def trG (α : Type) (k : Nat) : Bx (Tr α → Option α) := bif Nat.blt k 512 then (match getC (α := α) 3 k with | ⟨f⟩ => ⟨fun T => f T.1⟩) else bif Nat.blt k 2097152 then (match getC (α := α) 7 k with | ⟨f⟩ => ⟨fun T => f T.2⟩) else ⟨fun _ => none⟩
noncomputable def trP (α : Type) (k : Nat) : Bx (Option α → Tr α → Tr α) := bif Nat.blt k 512 then (match putC (α := α) 3 k with | ⟨f⟩ => ⟨fun v T => ⟨f v T.1, T.2⟩⟩) else (match putC (α := α) 7 k with | ⟨f⟩ => ⟨fun v T => ⟨T.1, f v T.2⟩⟩)
noncomputable def Tr.get {α : Type} (T : Tr α) (k : Nat) : Option α := (trG α k).un T
noncomputable def Tr.put {α : Type} (x : Option α) (f : Nat) (T : Tr α) (k : Nat) : Tr α := (trP α k).un x T

/-- values that aren't known (told as .chan (some i)): what becomes of them. (.chan none: of which nothing is known) -/
class SymT where
  bin : BinOp → Nat → IntKind → Int → Option Value := fun _ _ _ _ => none
  binl : BinOp → IntKind → Int → Nat → Option Value := fun _ _ _ _ => none
  conv : Nat → IntKind → Option Value := fun _ _ => none
  bins : BinOp → Nat → Nat → Option Value := fun _ _ _ => none
  ub : Nat → Bool := fun _ => false
variable [SymT]

/-! ### memory -/
inductive ABlk where
  | cells (cs : List Value) (t : TypeId) (opn : Bool)
  | map (es : List (Value × Value))
  | iter (es : List (Value × Value)) (cur : Option (Value × Value))

structure Mem where
  m : Tr ABlk
  nx : Nat

/-- caps that are drawn -/
noncomputable def unk : Nat := 9223372036854775808

noncomputable def Mem.new (M : Mem) (b : ABlk) : Nat × Mem := (M.nx, ⟨M.m.put (some b) 20 M.nx, Nat.add M.nx 1⟩)
noncomputable def Mem.set (M : Mem) (i : Nat) (b : ABlk) : Mem := ⟨M.m.put (some b) 20 i, M.nx⟩
noncomputable def Mem.kill (M : Mem) (i : Nat) : Mem := ⟨M.m.put none 20 i, M.nx⟩

section
variable (tab : Nat → Option TI)

noncomputable def ldD (t : TypeId) (cs : List Value) (o : Nat) : Option Value :=
  match tab t with
  | some i => bif i.agg then (bif Nat.ble (o + i.size) cs.length then some (.agg (cut cs o i.size).toArray) else none) else nth cs o
  | none => none

noncomputable def vcells : Value → List Value
  | .agg cs => cs.toList
  | v => [v]

noncomputable def putAt : List Value → Nat → List Value → Option (List Value)
  | l, _, [] => some l
  | _ :: r, 0, v :: s => match putAt r 0 s with
    | some q => some (v :: q)
    | none => none
  | x :: r, o + 1, s => match putAt r o s with
    | some q => some (x :: q)
    | none => none
  | [], _, _ :: _ => none

noncomputable def strEq (a b : ByteArray) : Bool := a.data.toList == b.data.toList

noncomputable def keyEq : Value → Value → Bool
  | .string a, .string b => strEq a b
  | .int _ a, .int _ b => a == b
  | _, _ => false

noncomputable def keySame : Value → Value → Option Bool
  | .string a, .string b => some (strEq a b)
  | .int .i64 a, .int .i64 b => some (a == b)
  | _, _ => none

/-- what a map has for a key; none where it cannot tell -/
noncomputable def findD (k : Value) : List (Value × Value) → Option (Option Value)
  | [] => some none
  | (q, v) :: r => match keySame k q with
    | some true => some (some v)
    | some false => findD k r
    | none => none

noncomputable def keyOk : TK → Value → Bool
  | .string, .string _ => true
  | .int .i64, .int .i64 _ => true
  | _, _ => false

noncomputable def strOpD (op : BinOp) (a b : List UInt8) : Option Value :=
  match op with
  | .eql => some (.bool (a == b))
  | .neq => some (.bool !(a == b))
  | .lss => some (.bool (Op.bytesLess a b))
  | .leq => some (.bool (Op.bytesLess a b || a == b))
  | .gtr => some (.bool !(Op.bytesLess a b || a == b))
  | .geq => some (.bool !(Op.bytesLess a b))
  | .add => bif Nat.ble (a.length + b.length) 9223372036854775807 then some (.string ⟨(a ++ b).toArray⟩) else none
  | _ => none

noncomputable def cellEq : TK → Value → Value → Option Bool
  | .int _, .int k a, .int k' b => if k = k' then some (a == b) else none
  | .string, .string a, .string b => some (a.data.toList == b.data.toList)
  | .bool, .bool a, .bool b => some (a == b)
  | _, _, _ => none

noncomputable def cellsEq : List TK → List Value → List Value → Option Bool
  | [], [], [] => some true
  | k :: r, a :: l, b :: m => match cellEq k a b, cellsEq r l m with
    | some p, some q => some (p && q)
    | _, _ => none
  | _, _, _ => none

variable (eqs : Nat → Option (List TK))

/-- it may lie in cells -/
noncomputable def storable : Value → Bool
  | .tuple _ => false
  | _ => true

noncomputable def opw.bnd (e : Operand → Option Value) (o : Option Operand) (d : Nat) : Option Nat := match o with
  | none => some d
  | some y => match e y with
    | some (.int _ (.ofNat k)) => some k
    | _ => none
noncomputable def opw.nthF : List (Nat × Nat × Bool) → Nat → Option (Nat × Nat × Bool)
  | [], _ => none
  | v :: _, 0 => some v
  | _ :: r, n + 1 => opw.nthF r n
noncomputable def opw.evA (e : Operand → Option Value) : List (Nat × Operand) → Option (List (Nat × Value))
  | [] => some []
  | (i, x) :: r => match e x, opw.evA e r with
    | some v, some l => some ((i, v) :: l)
    | _, _ => none
noncomputable def opwInt (o : BinOp) (k : IntKind) (a : Int) (k' : IntKind) (b : Int) : Option Value :=
  match o, a, b with
  | .shr, .ofNat p, .ofNat q => some (.int k (.ofNat (Nat.div p (2 ^ min q k.bits))))
  | _, _, _ => if k = k' then intOp o k a b else none
noncomputable def opwAgg (o : BinOp) (t : TypeId) (a b : Array Value) : Option Value :=
  match o, eqs t with
  | .eql, some ks => match cellsEq ks a.toList b.toList with
    | some p => some (.bool p)
    | none => none
  | .neq, some ks => match cellsEq ks a.toList b.toList with
    | some p => some (.bool (!p))
    | none => none
  | _, _ => none
noncomputable def opwBool (o : BinOp) (t : TypeId) (a b : Bool) : Option Value :=
  match o, tab t with
  | .eql, some ⟨.bool, _, _, _, _, _, _, _, _, _⟩ => some (.bool (a == b))
  | .neq, some ⟨.bool, _, _, _, _, _, _, _, _, _⟩ => some (.bool (!(a == b)))
  | _, _ => none
noncomputable def opwPtr (o : BinOp) (t : TypeId) (a : Option Addr) : Option Value :=
  match o, tab t with
  | .eql, some ⟨.pointer _, _, _, _, _, _, _, _, _, _⟩ => some (.bool a.isNone)
  | .neq, some ⟨.pointer _, _, _, _, _, _, _, _, _, _⟩ => some (.bool a.isSome)
  | _, _ => none
noncomputable def opwSl (o : BinOp) (t : TypeId) (a : Option Addr) : Option Value :=
  match o, tab t with
  | .eql, some ⟨.slice _, _, _, _, _, _, _, _, _, _⟩ => some (.bool a.isNone)
  | _, _ => none
noncomputable def opwBin (o : BinOp) (t : TypeId) (x y : Operand) (e : Operand → Option Value) : Option Value :=
  match e x with
  | some (.int k a) => match e y with
    | some (.int k' b) => opwInt o k a k' b
    | some (.chan (some i)) => SymT.binl o k a i
    | _ => none
  | some (.string a) => match e y with
    | some (.string b) => strOpD o a.data.toList b.data.toList
    | _ => none
  | some (.bool a) => match e y with
    | some (.bool b) => opwBool tab o t a b
    | _ => none
  | some (.agg a) => match e y with
    | some (.agg b) => opwAgg eqs o t a b
    | _ => none
  | some (.pointer a) => match e y with
    | some (.pointer none) => opwPtr tab o t a
    | _ => none
  | some (.slice a _ _) => match e y with
    | some (.slice none 0 0) => opwSl tab o t a
    | _ => none
  | some (.chan (some i)) => match e y with
    | some (.int k b) => SymT.bin o i k b
    | some (.chan (some j)) => SymT.bins o i j
    | _ => none
  | _ => none
noncomputable def opwConvert (src dst : TypeId) (x : Operand) (e : Operand → Option Value) : Option Value :=
  match e x, tab dst with
    | some (.int _ n), some i => match i.kind with
      | .int k => match tab src with
        | some _ => some (.int k (k.wrap n))
        | none => none
      | _ => none
    | some (.chan (some j)), some i => match i.kind with
      | .int k => match tab src with
        | some _ => SymT.conv j k
        | none => none
      | _ => none
    | _, _ => none
noncomputable def opwFieldAddr (s : TypeId) (x : Operand) (f : Nat) (e : Operand → Option Value) : Option Value :=
  match e x, tab s with
    | some (.pointer (some ⟨b, o, none⟩)), some i => match opw.nthF i.fields f with
      | some (off, _ + 1, _) => some (.pointer (some ⟨b, o + off, none⟩))
      | _ => none
    | _, _ => none
noncomputable def opwField (s : TypeId) (x : Operand) (f : Nat) (e : Operand → Option Value) : Option Value :=
  match e x, tab s with
    | some (.agg cs), some i => match opw.nthF i.fields f with
      | some (off, size + 1, agg) => partOf cs.toList off (size + 1) agg
      | _ => none
    | _, _ => none
noncomputable def opwIndex (t : TypeId) (x y : Operand) (e : Operand → Option Value) : Option Value :=
  match e x, e y, tab t with
    | some (.agg cs), some (.int _ (.ofNat i)), some ⟨.array n _, _, _, _, _, _, es, _, _, ea⟩ => bif Nat.blt i n && Nat.blt 0 es then partOf cs.toList (i * es) es ea else none
    | some (.string s), some (.int _ (.ofNat i)), some ⟨.string, _, _, _, _, _, _, _, _, _⟩ => match s.data.toList[i]? with
      | some c => some (.int .u8 c.toNat)
      | none => none
    | _, _, _ => none
noncomputable def opwIndexAddr (t : TypeId) (x y : Operand) (e : Operand → Option Value) : Option Value :=
  match e x, e y, tab t with
    | some (.pointer (some ⟨b, o, none⟩)), some (.int _ (.ofNat i)), some ⟨.array n _, _, _, _, _, _, es, _, _, _⟩ => bif Nat.blt i n then some (.pointer (some ⟨b, o + i * es, none⟩)) else none
    | some (.slice (some ⟨b, o, none⟩) n _), some (.int _ (.ofNat i)), some ⟨.slice _, _, _, _, _, _, es, _, _, _⟩ => bif Nat.blt i n then some (.pointer (some ⟨b, o + i * es, none⟩)) else none
    | _, _, _ => none
noncomputable def opwBuild (t : TypeId) (parts : Array (Nat × Operand)) (e : Operand → Option Value) : Option Value :=
  match tab t, opw.evA e parts.toList with
    | some ⟨.struct, _, _, zero, _, fs, _, _, _, _⟩, some l => match (bif l.all (fun p => storable p.2) && fs.all (fun f => !Nat.beq f.2.1 0) then lay fs zero l else none) with
      | some cs => some (.agg cs.toArray)
      | none => none
    | some ⟨.array _ _, _, _, zero, _, _, _, _, _, _⟩, some [] => some (.agg zero.toArray)
    | _, _ => none
noncomputable def opwSlice (t : TypeId) (x : Operand) (lo hi : Option Operand) (e : Operand → Option Value) : Option Value :=
  match e x with
    | some (.slice a n c) =>
      match opw.bnd e lo 0, opw.bnd e hi n, tab t with
      | some l, some h, some ⟨.slice _, _, _, _, _, _, es, _, _, _⟩ =>
        bif Nat.ble l h && Nat.ble h n then match a with
          | some ⟨b, o, none⟩ => bif Nat.ble unk c then (bif Nat.beq c (unk + es) then some (.slice (some ⟨b, o + l * es, none⟩) (h - l) c) else none) else some (.slice (some ⟨b, bif Nat.beq c l then o else o + l * es, none⟩) (h - l) (c - l))
          | none => bif Nat.beq c 0 then some (.slice none 0 0) else none
          | _ => none
        else none
      | _, _, _ => none
    | some (.string s) =>
      match opw.bnd e lo 0, opw.bnd e hi s.data.toList.length, tab t with
      | some l, some h, some ⟨.string, _, _, _, _, _, _, _, _, _⟩ => bif Nat.ble l h && Nat.ble h s.data.toList.length then some (.string ⟨((s.data.toList.drop l).take (h - l)).toArray⟩) else none
      | _, _, _ => none
    | _ => none
noncomputable def opwLen (args : Array Operand) (ts : Array TypeId) (e : Operand → Option Value) : Option Value :=
  match args.toList, ts.toList with
    | [x], [t] => match e x, tab t with
      | some (.slice _ n _), some ⟨.slice _, _, _, _, _, _, _, _, _, _⟩ => some (.int .i64 n)
      | some (.string s), some ⟨.string, _, _, _, _, _, _, _, _, _⟩ => some (.int .i64 s.data.toList.length)
      | _, _ => none
    | _, _ => none
noncomputable def opwCap (args : Array Operand) (ts : Array TypeId) (e : Operand → Option Value) : Option Value :=
  match args.toList, ts.toList with
  | [x], [t] => match e x, tab t with
    | some (.slice _ _ c), some ⟨.slice _, _, _, _, _, _, _, _, _, _⟩ => bif Nat.ble unk c then none else some (.int .i64 c)
    | _, _ => none
  | _, _ => none
noncomputable def opwData (args : Array Operand) (e : Operand → Option Value) : Option Value :=
  match args.toList with
  | [x] => match e x with
    | some (.slice (some ⟨b, o, none⟩) n _) => bif Nat.beq n 0 then none else some (.pointer (some ⟨b, o, none⟩))
    | some (.slice none 0 0) => some (.pointer none)
    | _ => none
  | _ => none
noncomputable def opwMax (args : Array Operand) (e : Operand → Option Value) : Option Value :=
  match args.toList with
    | [x, y] => match e x, e y with
      | some (.int k a), some (.int _ b) => some (.int k (if b > a then b else a))
      | _, _ => none
    | _ => none
noncomputable def opwMin (args : Array Operand) (e : Operand → Option Value) : Option Value :=
  match args.toList with
    | [x, y] => match e x, e y with
      | some (.int k a), some (.int _ b) => some (.int k (if b < a then b else a))
      | _, _ => none
    | _ => none
/-- what only reckons -/
noncomputable def opw (op : Op) (e : Operand → Option Value) : Option Value :=
  match op with
  | .move x => e x
  | .assign x => e x
  | .nilCheck x => match e x with
    | some (.pointer (some a)) => some (.pointer (some a))
    | _ => none
  | .pick c x y => match e c with
    | some (.bool true) => e x
    | some (.bool false) => e y
    | _ => none
  | .binOp o t x y _ => opwBin tab eqs o t x y e
  | .unOp .not _ x => match e x with
    | some (.bool b) => some (.bool !b)
    | _ => none
  | .unOp .neg _ x => match e x with
    | some (.int k n) => some (.int k (k.wrap (0 - n)))
    | _ => none
  | .convert src dst x => opwConvert tab src dst x e
  | .fieldAddr s x f => opwFieldAddr tab s x f e
  | .field s x f => opwField tab s x f e
  | .index t x y => opwIndex tab t x y e
  | .indexAddr t x y => opwIndexAddr tab t x y e
  | .build t parts => opwBuild tab t parts e
  | .extract x i => match e x with
    | some (.tuple vs) => nth vs.toList i
    | _ => none
  | .slice t x lo hi none => opwSlice tab t x lo hi e
  | .call ⟨.builtin .len, args, ts⟩ => opwLen tab args ts e
  | .call ⟨.builtin .cap, args, ts⟩ => opwCap tab args ts e
  | .call ⟨.builtin .unsafeSliceData, args, _⟩ => opwData args e
  | .call ⟨.builtin .max, args, _⟩ => opwMax args e
  | .call ⟨.builtin .min, args, _⟩ => opwMin args e
  | _ => none

noncomputable def layR (es : Nat) : List Value → List (Nat × Value) → Option (List Value)
  | cells, [] => some cells
  | cells, (i, v) :: r => match putAt cells (i * es) (vcells v) with
    | some q => layR es q r
    | none => none

noncomputable def repl (z : List Value) : Nat → List Value
  | 0 => []
  | n + 1 => z ++ repl z n

/-- nothing in it leads to memory -/
noncomputable def plainV : Value → Bool
  | .bool _ => true
  | .int _ _ => true
  | .string _ => true
  | .pointer none => true
  | .slice none 0 0 => true
  | .map none => true
  | .nilFunc => true
  | .nilIface => true
  | _ => false

noncomputable def plainC : Value → Bool
  | .agg cs => cs.toList.all plainV
  | v => plainV v

noncomputable def evD (T : Tr Value) : Operand → Option Value
  | .tmp t => T.get t
  | .const v => bif plainC v then some v else none
  | .func f => some (.func (.func f) #[] #[])
  | .global _ => none

noncomputable def evsD (e : Operand → Option Value) : List Operand → Option (List Value)
  | [] => some []
  | x :: r => match e x, evsD e r with
    | some v, some l => some (v :: l)
    | _, _ => none

/-- append of n > 0 elements -/
noncomputable def appD (M : Mem) (j : TI) (x : Value) (ys : List Value) (n : Nat) : Option (Value × Mem) :=
  match j.kind with
  | .slice et =>
    bif (Nat.beq j.ezero.length j.esize && Nat.blt 0 j.esize) && (Nat.beq ys.length (n * j.esize) && Nat.blt 0 n) then
      match x with
      | .slice none 0 0 =>
        bif Nat.ble (n * j.ebytes) 140737488355328 && Nat.ble n 16777216 then match M.new (.cells ys et true) with
          | (b, M) => some (.slice (some ⟨b, 0, none⟩) n (unk + j.esize), M)
        else none
      | .slice (some ⟨b, o, none⟩) m c => match M.m.get b with
        | some (.cells cs t opn) =>
          bif (Nat.ble ((m + n) * j.ebytes) 140737488355328 && Nat.ble (m + n) 16777216) && (Nat.ble (o + m * j.esize) cs.length && Nat.beq t et) then
            bif Nat.ble unk c then bif Nat.beq c (unk + j.esize) then match (M.kill b).new (.cells (cut cs o (m * j.esize) ++ ys) et true) with
                | (b', M) => some (.slice (some ⟨b', 0, none⟩) (m + n) (unk + j.esize), M)
              else none
            else bif Nat.ble (m + n) c then
              bif Nat.ble (o + (m + n) * j.esize) cs.length then some (.slice (some ⟨b, o, none⟩) (m + n) c, M.set b (.cells (cs.take (o + m * j.esize) ++ (ys ++ cs.drop (o + (m + n) * j.esize))) et opn))
              else none
            else match M.new (.cells (cut cs o (m * j.esize) ++ ys) et true) with
              | (b', M) => some (.slice (some ⟨b', 0, none⟩) (m + n) (unk + j.esize), M)
          else none
        | _ => none
      | _ => none
    else none
  | _ => none

noncomputable def scalarV : Value → Bool
  | .agg _ => false
  | .func _ _ _ => false
  | .tuple _ => false
  | _ => true

noncomputable def okC : Value → Bool
  | .tuple _ => false
  | _ => true

noncomputable def stD (t : TypeId) (cs : List Value) (o : Nat) (v : Value) : Option (List Value) :=
  match tab t with
  | some i => bif storable v && (Nat.beq v.cells.toList.length i.size && Nat.ble (o + i.size) cs.length) then some (cs.take o ++ (v.cells.toList ++ cs.drop (o + i.size))) else none
  | none => none

variable (zt : Nat → Option Value)

noncomputable def opmLoad (t : TypeId) (x : Operand) (e : Operand → Option Value) (M : Mem) : Option (Value × Mem) :=
  match e x with
    | some (.pointer (some ⟨b, o, none⟩)) => match M.m.get b with
      | some (.cells cs _ _) => match ldD tab t cs o with
        | some v => some (v, M)
        | none => none
      | _ => none
    | _ => none
noncomputable def opmStore (t : TypeId) (x y : Operand) (e : Operand → Option Value) (M : Mem) : Option (Value × Mem) :=
  match e x, e y with
    | some (.pointer (some ⟨b, o, none⟩)), some v => match M.m.get b with
      | some (.cells cs u opn) => match stD tab t cs o v with
        | some q => some (.bool false, M.set b (.cells q u opn))
        | none => none
      | _ => none
    | _, _ => none
noncomputable def opmBuildSlice (t : TypeId) (n : Nat) (parts : Array (Nat × Operand)) (e : Operand → Option Value) (M : Mem) : Option (Value × Mem) :=
  match tab t, opw.evA e parts.toList with
    | some i, some l => match i.kind with
      | .slice et => bif (l.all (fun p => storable p.2) && (Nat.beq i.ezero.length i.esize && Nat.blt 0 i.esize)) && (Nat.ble (n * i.esize) 16777216 && Nat.beq l.length n) then match catE i.esize 0 l with
        | some cs => match M.new (.cells cs et false) with
          | (b, M) => some (.slice (some ⟨b, 0, none⟩) n n, M)
        | none => none
        else none
      | _ => none
    | _, _ => none
noncomputable def opmMakeSlice (t : TypeId) (x y : Operand) (e : Operand → Option Value) (M : Mem) : Option (Value × Mem) :=
  match tab t, e x, e y with
    | some i, some (.int _ (.ofNat n)), some (.int _ (.ofNat m)) => match i.kind with
      | .slice et => bif (Nat.beq n m && (Nat.beq i.ezero.length i.esize && Nat.blt 0 i.esize)) && (Nat.ble (i.ebytes * n) 281474976710656 && Nat.ble n 16777216) then match M.new (.cells (List.replicate n i.ezero).flatten et false) with
        | (b, M) => some (.slice (some ⟨b, 0, none⟩) n n, M)
        else none
      | _ => none
    | _, _, _ => none
noncomputable def opmUpdate (t : TypeId) (m k v : Operand) (e : Operand → Option Value) (M : Mem) : Option (Value × Mem) :=
  match e m, e k, e v, tab t with
    | some (.map (some b)), some k, some v, some i => match M.m.get b, i.kind with
      | some (.map es), .map kt _ => match tab kt with
        | some j => bif keyOk j.kind k && okC v then match findD k es with
            | some none => some (.bool false, M.set b (.map (es ++ [(k, v)])))
            | _ => none
          else none
        | none => none
      | _, _ => none
    | _, _, _, _ => none
noncomputable def opmInsert (t : TypeId) (m k v : Operand) (e : Operand → Option Value) (M : Mem) : Option (Value × Mem) :=
  match e m, e k, e v, tab t with
    | some (.map (some b)), some k, some v, some i => match M.m.get b, i.kind with
      | some (.map es), .map kt _ => match tab kt with
        | some j => bif keyOk j.kind k && okC v then match findD k es with
            | some none => some (.bool false, M.set b (.map (es ++ [(k, v)])))
            | _ => none
          else none
        | none => none
      | _, _ => none
    | _, _, _, _ => none
noncomputable def opmLookup (t : TypeId) (m k : Operand) (ok : Bool) (e : Operand → Option Value) (M : Mem) : Option (Value × Mem) :=
  match e m, e k, tab t with
    | some (.map (some b)), some k, some i => match M.m.get b, i.kind with
      | some (.map es), .map kt et => match tab kt with
        | some jk => bif keyOk jk.kind k then match findD k es with
            | some (some v) => some (bif ok then .tuple #[v, .bool true] else v, M)
            | some none => match zt et with
              | some z => some (bif ok then .tuple #[z, .bool false] else z, M)
              | none => none
            | none => none
          else none
        | none => none
      | _, _ => none
    | _, _, _ => none
noncomputable def bytesV (s : ByteArray) : List Value := s.data.toList.map fun b => Value.int .u8 b.toNat
noncomputable def opmAppend (args : Array Operand) (ts : Array TypeId) (e : Operand → Option Value) (M : Mem) : Option (Value × Mem) :=
  match args.toList, ts.toList with
    | [x, y], [t, t'] => bif Nat.beq t t' then match e x, e y, tab t with
        | some (.slice p m c), some (.slice q n d), some i => match i.kind with
          | .slice _ => bif Nat.beq n 0 then some (.slice p m c, M) else match q with
            | some ⟨b, o, none⟩ => match M.m.get b with
              | some (.cells cs _ _) => appD M i (.slice p m c) (cut cs o (n * i.esize)) n
              | _ => none
            | _ => none
          | _ => none
        | _, _, _ => none
      else match e x, e y, tab t, tab t' with
      | some (.slice p m c), some (.string s), some i, some ⟨.string, _, _, _, _, _, _, _, _, _⟩ => match i.kind with
        | .slice _ => bif Nat.beq s.data.toList.length 0 then some (.slice p m c, M) else bif Nat.beq i.esize 1 then appD M i (.slice p m c) (bytesV s) s.data.toList.length else none
        | _ => none
      | _, _, _, _ => none
    | _, _ => none
noncomputable def opmClear (args : Array Operand) (ts : Array TypeId) (e : Operand → Option Value) (M : Mem) : Option (Value × Mem) :=
  match args.toList, ts.toList with
  | [x], [t] => match e x, tab t with
    | some (.slice p n c), some i => match i.kind with
      | .slice _ => bif Nat.beq n 0 then some (.tuple #[], M) else match p with
        | some ⟨b, o, none⟩ => match M.m.get b with
          | some (.cells cs u opn) => bif (Nat.beq i.ezero.length i.esize && Nat.blt 0 i.esize) && Nat.ble (o + n * i.esize) cs.length then
              some (.tuple #[], M.set b (.cells (cs.take o ++ ((List.replicate n i.ezero).flatten ++ cs.drop (o + (List.replicate n i.ezero).flatten.length))) u opn)) else none
          | _ => none
        | _ => none
      | _ => none
    | _, _ => none
  | _, _ => none
noncomputable def opmCopy (args : Array Operand) (ts : Array TypeId) (e : Operand → Option Value) (M : Mem) : Option (Value × Mem) :=
  match args.toList, ts.toList with
  | [x, y], [t, _] => match e x, e y, tab t with
    | some (.slice p n _), some (.slice q m _), some i => match i.kind with
      | .slice _ => bif Nat.beq (Nat.min m n) 0 then some (.int .i64 0, M) else match p, q with
        | some ⟨b, o, none⟩, some ⟨b', o', none⟩ => match M.m.get b, M.m.get b' with
          | some (.cells cs u opn), some (.cells cs' _ _) => bif Nat.ble (o + Nat.min m n * i.esize) cs.length && Nat.ble (o' + Nat.min m n * i.esize) cs'.length then
              some (.int .i64 (Int.ofNat (Nat.min m n)), M.set b (.cells (cs.take o ++ (cut cs' o' (Nat.min m n * i.esize) ++ cs.drop (o + (cut cs' o' (Nat.min m n * i.esize)).length))) u opn)) else none
          | _, _ => none
        | _, _ => none
      | _ => none
    | _, _, _ => none
  | _, _ => none
noncomputable def bytesOf : List Value → Option (List UInt8)
  | [] => some []
  | .int .u8 (.ofNat k) :: r => bif Nat.blt k 256 then match bytesOf r with
      | some l => some (UInt8.ofNat k :: l)
      | none => none
    else none
  | _ => none
noncomputable def opmText (args : Array Operand) (ts : Array TypeId) (e : Operand → Option Value) (M : Mem) : Option (Value × Mem) :=
  match args.toList, ts.toList with
  | [x, y], [pt, _] => match e x, e y with
    | some (.pointer none), some (.int .i64 (.ofNat n)) => bif Nat.beq n 0 then some (.string ⟨#[]⟩, M) else none
    | some (.pointer (some ⟨b, o, none⟩)), some (.int .i64 (.ofNat n)) => match M.m.get b, tab pt with
      | some (.cells cs u _), some ⟨.pointer et, _, _, _, _, _, _, _, _, _⟩ => match tab u, bytesOf (cut cs o n) with
        | some i, some l => bif (Nat.beq u et && Nat.beq i.size 1) && ((Nat.ble (o + n) cs.length && Nat.ble n 16777216) && !(Nat.beq n 0)) then some (.string ⟨l.toArray⟩, M.kill b) else none
        | _, _ => none
      | _, _ => none
    | _, _ => none
  | _, _ => none
/-- what reads or turns the memory -/
noncomputable def opm (call : Nat → List Value → Mem → Option (Value × Mem)) (op : Op) (e : Operand → Option Value) (M : Mem) : Option (Value × Mem) :=
  match op with
  | .load t x => opmLoad tab t x e M
  | .store t x y => opmStore tab t x y e M
  | .alloc t => match tab t with
    | some i => match M.new (.cells i.zero t false) with
      | (b, M) => some (.pointer (some ⟨b, 0, none⟩), M)
    | none => none
  | .box t x => match e x with
    | some v => bif storable v then match M.new (.cells v.cells.toList t false) with
      | (b, M) => some (.pointer (some ⟨b, 0, none⟩), M)
      else none
    | none => none
  | .buildSlice t n parts => opmBuildSlice tab t n parts e M
  | .makeSlice t x y => opmMakeSlice tab t x y e M
  | .makeMap _ none => match M.new (.map []) with
    | (b, M) => some (.map (some b), M)
  | .mapUpdate t m k v => opmUpdate tab t m k v e M
  | .insert t m k v => opmInsert tab t m k v e M
  | .lookup t m k ok => opmLookup tab zt t m k ok e M
  | .makeFunc f first caps => match first.toList, evsD e caps.toList with
    | [], some vs => bif vs.all scalarV then some (.func f #[] vs.toArray, M) else none
    | _, _ => none
  | .call ⟨.builtin .append, args, ts⟩ => opmAppend tab args ts e M
  | .call ⟨.builtin .clear, args, ts⟩ => opmClear tab args ts e M
  | .call ⟨.builtin .copy, args, ts⟩ => opmCopy tab args ts e M
  | .call ⟨.builtin .unsafeString, args, ts⟩ => opmText tab args ts e M
  | .call ⟨.value f, args, _⟩ => match e f, evsD e args.toList with
    | some (.func (.func g) _ caps), some vs => call g (vs ++ caps.toList) M
    | _, _ => none
  | _ => none

noncomputable def isMem : Op → Bool
  | .load _ _ | .store _ _ _ | .alloc _ | .box _ _ | .buildSlice _ _ _ | .makeSlice _ _ _ | .makeMap _ _ | .mapUpdate _ _ _ _ | .insert _ _ _ _ | .lookup _ _ _ _ | .makeFunc _ _ _ => true
  | .call ⟨.builtin .append, _, _⟩ => true
  | .call ⟨.builtin .clear, _, _⟩ => true
  | .call ⟨.builtin .copy, _, _⟩ => true
  | .call ⟨.builtin .unsafeString, _, _⟩ => true
  | .call ⟨.value _, _, _⟩ => true
  | _ => false

/-- is it wanted? -/
noncomputable def gdD (l : List Oper) (T : Tr Value) : Option (Nat × Bool) → Option Bool
  | none => some true
  | some (j, want) => match nthO l j with
    | some o => match o.dst with
      | some t => match T.get t with
        | some (.bool b) => some (b == want)
        | some (.chan _) => none
        | some _ => some false
        | none => none
      | none => none
    | none => none

/-- told into a slot, if it is one -/
noncomputable def putD (N : Nat) (T : Tr Value) (d : Option Nat) (v : Value) : Option (Tr Value) :=
  match d with
  | none => some T
  | some d => bif Nat.blt d N then some (T.put (some v) 20 d) else none

noncomputable def isSkip : Op → Bool
  | .store _ _ _ | .mapUpdate _ _ _ _ | .insert _ _ _ _ => true
  | _ => false

/-- one operation -/
noncomputable def opD (call : Nat → List Value → Mem → Option (Value × Mem)) (op : Op) (e : Operand → Option Value) (M : Mem) : Option (Value × Mem) :=
  bif isMem op then bif Nat.blt M.nx 1000000 then match opm tab zt call op e M with
      | some (v, M) => some (bif isSkip op then undef else v, M)
      | none => none
    else none
  else match opw tab eqs op e with
    | some v => some (v, M)
    | none => none

/-- one step of a region in its textual order -/
noncomputable def stepD (N : Nat) (call : Nat → List Value → Mem → Option (Value × Mem)) (l : List Oper) (o : Oper) (ih : Tr Value → Mem → Option (Tr Value × Mem)) (T : Tr Value) (M : Mem) : Option (Tr Value × Mem) :=
  match gdD l T o.guard with
  | some true => match opD tab eqs zt call o.op (evD T) M with
    | some (v, M) => match putD N T o.dst v with
      | some T => ih T M
      | none => none
    | none => none
  | some false => match putD N T o.dst undef with
    | some T => ih T M
    | none => none
  | none => none

/-- a region in its textual order -/
noncomputable def opsD (N : Nat) (call : Nat → List Value → Mem → Option (Value × Mem)) (l : List Oper) (r : List Oper) : Tr Value → Mem → Option (Tr Value × Mem) :=
  List.rec (fun T M => some (T, M)) (fun o _ ih => stepD tab eqs zt N call l o ih) r

/-! ### regions that draw their order -/

/-- is i among those of a mask? -/
noncomputable def tb (m i : Nat) : Bool := Nat.beq (Nat.mod (Nat.shiftRight m i) 2) 1
noncomputable def bit (i : Nat) : Nat := Nat.shiftLeft 1 i

noncomputable def getN (m : Tr Nat) (i : Nat) : Nat := match m.get i with
  | some x => x
  | none => 0

/-- all that an operation waits for -/
noncomputable def preGo (ms : Tr Nat) : List Edge → Nat
  | [] => 0
  | e :: r => bif Region.binds .any e then Nat.lor (Nat.lor (bit e.on) (getN ms e.on)) (preGo ms r) else preGo ms r
noncomputable def preOf (ms : Tr Nat) (o : Oper) : Nat := preGo ms o.after.toList

noncomputable def dirGo : List Edge → Nat
  | [] => 0
  | e :: r => bif Region.binds .any e then Nat.lor (bit e.on) (dirGo r) else dirGo r

/-- an order, all masks -/
noncomputable def dirL : List Oper → Nat → List (Nat × Nat)
  | [], _ => []
  | o :: r, i => (i, dirGo o.after.toList) :: dirL r (i + 1)
noncomputable def pickD (done : Nat) : List (Nat × Nat) → Option (Nat × List (Nat × Nat))
  | [] => none
  | (i, d) :: r => bif Nat.beq (Nat.land d done) d then some (i, r) else match pickD done r with
    | some (j, q) => some (j, (i, d) :: q)
    | none => none
noncomputable def ordD : Nat → List (Nat × Nat) → Nat → List Nat
  | 0, _, _ => []
  | f + 1, rem, done => match pickD done rem with
    | some (i, r) => i :: ordD f r (Nat.lor done (bit i))
    | none => []
noncomputable def msD (l : List Oper) : List Nat → Tr Nat → Tr Nat
  | [], m => m
  | i :: r, m => match nthO l i with
    | some o => msD l r (m.put (some (preOf m o)) 20 i)
    | none => m

/-- who writes a slot -/
noncomputable def wrF (t : Nat) : List Oper → Nat → Option Nat
  | [], _ => none
  | o :: r, i => match o.dst with
    | some d => bif Nat.beq d t then some i else wrF t r (i + 1)
    | none => wrF t r (i + 1)

noncomputable def dstOk (N : Nat) : List Oper → Nat → Bool
  | [], _ => true
  | o :: r, m => match o.dst with
    | some d => bif Nat.blt d N && !(tb m d) then dstOk N r (Nat.lor m (bit d)) else false
    | none => dstOk N r m

/-- what operands are when i comes up, whatever came up ahead of it -/
noncomputable def evG (l : List Oper) (T : Tr Value) (ms : Tr Nat) (V : Tr Value) (i : Nat) : Operand → Option Value
  | .tmp t => match wrF t l 0 with
    | none => T.get t
    | some j => bif tb (getN ms i) j then V.get j else bif tb (getN ms j) i then T.get t else none
  | x => evD .e x

noncomputable def gdG (l : List Oper) (ms : Tr Nat) (V : Tr Value) (i : Nat) : Option (Nat × Bool) → Option Bool
  | none => some true
  | some (j, want) => match nthO l j with
    | some o => match o.dst with
      | some t => bif tb (getN ms i) j then match V.get j with
          | some (.bool b) => some (b == want)
          | some (.chan _) => none
          | some _ => some false
          | none => none
        else none
      | none => none
    | none => none

noncomputable def isNew : Op → Bool
  | .alloc _ | .box _ _ | .buildSlice _ _ _ | .makeSlice _ _ _ | .makeMap _ _ => true
  | _ => false
noncomputable def isRead : Op → Bool
  | .load _ _ | .lookup _ _ _ _ | .makeFunc _ _ _ => true
  | _ => false

/-- a new block, and what tells of it -/
noncomputable def newD (op : Op) (e : Operand → Option Value) : Option (ABlk × (Nat → Value)) :=
  match op with
  | .alloc t => match tab t with
    | some i => some (.cells i.zero t false, fun b => .pointer (some ⟨b, 0, none⟩))
    | none => none
  | .box t x => match e x with
    | some v => bif storable v then some (.cells v.cells.toList t false, fun b => .pointer (some ⟨b, 0, none⟩)) else none
    | none => none
  | .buildSlice t n parts => match tab t, opw.evA e parts.toList with
    | some i, some l => match i.kind with
      | .slice et => bif (l.all (fun p => storable p.2) && (Nat.beq i.ezero.length i.esize && Nat.blt 0 i.esize)) && (Nat.ble (n * i.esize) 16777216 && Nat.beq l.length n) then match catE i.esize 0 l with
        | some cs => some (.cells cs et false, fun b => .slice (some ⟨b, 0, none⟩) n n)
        | none => none
        else none
      | _ => none
    | _, _ => none
  | .makeSlice t x y => match tab t, e x, e y with
    | some i, some (.int _ (.ofNat n)), some (.int _ (.ofNat m)) => match i.kind with
      | .slice et => bif (Nat.beq n m && (Nat.beq i.ezero.length i.esize && Nat.blt 0 i.esize)) && (Nat.ble (i.ebytes * n) 281474976710656 && Nat.ble n 16777216) then
          some (.cells (List.replicate n i.ezero).flatten et false, fun b => .slice (some ⟨b, 0, none⟩) n n)
        else none
      | _ => none
    | _, _, _ => none
  | .makeMap _ none => some (.map [], fun b => .map (some b))
  | _ => none

/-- new blocks that something waits for are handed over -/
noncomputable def extM (b0 pm cp : Nat) : List (Nat × ABlk) → Mem → Mem
  | [], M => M
  | (j, x) :: r, M => extM b0 pm cp r (bif tb pm j && !(tb cp j) then M.set (Nat.add b0 j) x else M)

structure PS where
  V : Tr Value
  B : List (Nat × ABlk)
  hs : List (Nat × Mem × Nat)
  cp : Nat
  M : Mem
  dn : Nat

noncomputable def passOp (call : Nat → List Value → Mem → Option (Value × Mem)) (l : List Oper) (T : Tr Value) (ms : Tr Nat) (b0 i : Nat) (o : Oper) (s : PS) : Option PS :=
  match gdG l ms s.V i o.guard with
  | some false => some ⟨s.V.put (some undef) 20 i, s.B, s.hs, s.cp, s.M, Nat.lor s.dn (bit i)⟩
  | some true =>
    bif isNew o.op then match newD tab o.op (evG l T ms s.V i) with
      | some (x, mk) => some ⟨s.V.put (some (mk (Nat.add b0 i))) 20 i, s.B ++ [(i, x)], s.hs, s.cp, s.M, Nat.lor s.dn (bit i)⟩
      | none => none
    else bif isRead o.op then match opm tab zt call o.op (evG l T ms s.V i) (extM b0 (getN ms i) s.cp s.B s.M) with
      | some (v, _) => some ⟨s.V.put (some v) 20 i, s.B, s.hs, s.cp, s.M, Nat.lor s.dn (bit i)⟩
      | none => none
    else bif isMem o.op then bif s.hs.all (fun h => tb (getN ms i) h.2.2) then match opD tab eqs zt call o.op (evG l T ms s.V i) (extM b0 (getN ms i) s.cp s.B s.M) with
        | some (v, M) => some ⟨s.V.put (some v) 20 i, s.B, s.hs ++ [(s.cp, s.M, i)], Nat.lor s.cp (getN ms i), M, Nat.lor s.dn (bit i)⟩
        | none => none
      else none
    else match opw tab eqs o.op (evG l T ms s.V i) with
      | some v => some ⟨s.V.put (some v) 20 i, s.B, s.hs, s.cp, s.M, Nat.lor s.dn (bit i)⟩
      | none => none
  | none => none

noncomputable def stepP (call : Nat → List Value → Mem → Option (Value × Mem)) (l : List Oper) (T : Tr Value) (ms : Tr Nat) (b0 i : Nat) (ih : PS → Option PS) (s : PS) : Option PS :=
  match nthO l i with
  | some o => bif (Nat.beq (preOf ms o) (getN ms i) && Nat.beq (Nat.land (getN ms i) s.dn) (getN ms i)) && (!(tb s.dn i) && Nat.blt i 1000) then match passOp tab eqs zt call l T ms b0 i o s with
      | some s => ih s
      | none => none
    else none
  | none => none

noncomputable def passD (call : Nat → List Value → Mem → Option (Value × Mem)) (l : List Oper) (T : Tr Value) (ms : Tr Nat) (b0 : Nat) (ord : List Nat) : PS → Option PS :=
  List.rec (fun s => some s) (fun i _ ih => stepP tab eqs zt call l T ms b0 i ih) ord

noncomputable def sameP : Option Addr → Option Addr → Bool
  | none, none => true
  | some ⟨b, o, none⟩, some ⟨b', o', none⟩ => Nat.beq b b' && Nat.beq o o'
  | _, _ => false
noncomputable def sameI : Int → Int → Bool
  | .ofNat a, .ofNat b => Nat.beq a b
  | .negSucc a, .negSucc b => Nat.beq a b
  | _, _ => false
noncomputable def sameS0 : Value → Value → Bool
  | .bool a, .bool b => (a && b) || (!a && !b)
  | .int k a, .int k' b => (match decEq k k' with | isTrue _ => true | isFalse _ => false) && sameI a b
  | .string a, .string b => strEq a b
  | .pointer a, .pointer b => sameP a b
  | .slice a n c, .slice b m d => sameP a b && (Nat.beq n m && Nat.beq c d)
  | .map none, .map none => true
  | .map (some a), .map (some b) => Nat.beq a b
  | .nilFunc, .nilFunc => true
  | .nilIface, .nilIface => true
  | .chan (some a), .chan (some b) => Nat.beq a b
  | .chan none, .chan none => true
  | _, _ => false
noncomputable def sameL0 : List Value → List Value → Bool
  | [], [] => true
  | a :: r, b :: q => sameS0 a b && sameL0 r q
  | _, _ => false
noncomputable def sameS : Value → Value → Bool
  | .func (.func a) ⟨[]⟩ c, .func (.func b) ⟨[]⟩ d => Nat.beq a b && sameL0 c.toList d.toList
  | a, b => sameS0 a b
noncomputable def sameL : List Value → List Value → Bool
  | [], [] => true
  | a :: r, b :: q => sameS a b && sameL r q
  | _, _ => false
noncomputable def sameV : Value → Value → Bool
  | .agg a, .agg b => sameL a.toList b.toList
  | .tuple a, .tuple b => sameL a.toList b.toList
  | a, b => sameS a b

noncomputable def rdAt (call : Nat → List Value → Mem → Option (Value × Mem)) (op : Op) (e : Operand → Option Value) (M : Mem) (v : Value) : Bool :=
  match opm tab zt call op e M with
  | some (u, _) => sameV u v
  | none => false

/-- what is read is the same at whatever stage it may come up -/
noncomputable def rdOk (call : Nat → List Value → Mem → Option (Value × Mem)) (l : List Oper) (T : Tr Value) (ms : Tr Nat) (b0 : Nat) (s : PS) (i : Nat) (o : Oper) : Bool :=
  match gdG l ms s.V i o.guard with
  | some true => bif isRead o.op then match s.V.get i with
      | some v => (s.hs.all fun h => tb h.1 i || (tb (getN ms i) h.2.2 || rdAt tab zt call o.op (evG l T ms s.V i) (extM b0 (getN ms i) h.1 s.B h.2.1) v)) &&
          (tb s.cp i || rdAt tab zt call o.op (evG l T ms s.V i) (extM b0 (getN ms i) s.cp s.B s.M) v)
      | none => false
    else true
  | _ => true

noncomputable def rdsOk (call : Nat → List Value → Mem → Option (Value × Mem)) (l : List Oper) (T : Tr Value) (ms : Tr Nat) (b0 : Nat) (s : PS) : List Oper → Nat → Bool
  | [], _ => true
  | o :: r, i => (tb s.dn i && rdOk tab zt call l T ms b0 s i o) && rdsOk call l T ms b0 s r (i + 1)

noncomputable def putAll (N : Nat) (V : Tr Value) : List Oper → Nat → Tr Value → Option (Tr Value)
  | [], _, T => some T
  | o :: r, i, T => match V.get i with
    | some v => match putD N T o.dst v with
      | some T => putAll N V r (i + 1) T
      | none => none
    | none => none

/-- a region that draws its order -/
noncomputable def opsG (N : Nat) (call : Nat → List Value → Mem → Option (Value × Mem)) (l : List Oper) (T : Tr Value) (M : Mem) (ms : Tr Nat) (ord : List Nat) : Option (Tr Value × Mem) :=
  bif dstOk N l 0 && Nat.blt (M.nx + l.length) 1000000 then match passD tab eqs zt call l T ms M.nx ord ⟨.e, [], [], 0, ⟨M.m, M.nx + l.length⟩, 0⟩ with
    | some s => bif rdsOk tab zt call l T ms M.nx s l 0 then match putAll N s.V l 0 T with
        | some T => some (T, extM M.nx (Nat.sub (bit l.length) 1) s.cp s.B s.M)
        | none => none
      else none
    | none => none
  else none

noncomputable def opsH (N : Nat) (call : Nat → List Value → Mem → Option (Value × Mem)) (l : List Oper) (T : Tr Value) (M : Mem) : Option (Tr Value × Mem) :=
  match ordD l.length (dirL l 0) 0 with
  | ord => match msD l ord .e with
    | ms => opsG tab eqs zt N call l T M ms ord

inductive DX where
  | normal | exit (n : Nat) | ret

noncomputable def argT : List Value → Nat → Tr Value → Tr Value
  | [], _, T => T
  | v :: r, n, T => argT r (n + 1) (T.put (some v) 20 n)

noncomputable def resD (T : Tr Value) (M : Mem) : List ResultVar → Option (List Value)
  | [] => some []
  | .tmp t :: r => match T.get t, resD T M r with
    | some v, some l => some (v :: l)
    | _, _ => none
  | .cell c t :: r => match T.get c, resD T M r with
    | some (.pointer (some ⟨b, o, none⟩)), some l => match M.m.get b with
      | some (.cells cs _ _) => match ldD tab t cs o with
        | some v => some (v :: l)
        | none => none
      | _ => none
    | _, _ => none

noncomputable def tup : List Value → Value
  | [v] => v
  | l => .tuple l.toArray

/-- slices.Insert of one element -/
noncomputable def insD (j : TI) (x : Value) (k : Nat) (ys : List Value) (M : Mem) : Option (Value × Mem) :=
  match x, j.kind with
  | .slice none _ _, .slice et => match M.new (.cells ys et true) with
    | (b, M) => some (.slice (some ⟨b, 0, none⟩) 1 (unk + j.esize), M)
  | .slice (some ⟨b, o, none⟩) m c, .slice et => match M.m.get b with
    | some (.cells cs t opn) => match (M.kill b).new (.cells (cut cs o (k * j.esize) ++ (ys ++ cut cs (o + k * j.esize) ((m - k) * j.esize))) et true) with
      | (b', M) => some (.slice (some ⟨b', 0, none⟩) (m + 1) (unk + j.esize), M)
    | _ => none
  | _, _ => none

noncomputable def primD (t : TypeId) (args : List Value) (M : Mem) : Option (Value × Mem) :=
  match args, tab t with
  | [x, .int _ (.ofNat k), .slice (some ⟨b, o, none⟩) 1 _], some j => match M.m.get b with
    | some (.cells cs _ _) => insD j x k (cut cs o j.esize) M
    | _ => none
  | _, _ => none

variable (fns : Nat → Option Func) (prims : Nat → Option (List Value → Mem → Option (Value × Mem)))

/-- a body's results -/
noncomputable def finD (rs : List ResultVar) : Option (DX × Tr Value × Mem) → Option (Value × Mem)
  | some (.exit _, _, _) => none
  | some (_, T, M) => match resD tab T M rs with
    | some l => bif l.all okC then some (tup l, M) else none
    | none => none
  | none => none

/-! ### where two ways meet -/
noncomputable def joinC (x y : Value) : Value := bif sameS x y then x else .chan none
noncomputable def joinL : List Value → List Value → Option (List Value)
  | [], [] => some []
  | a :: r, b :: q => match joinL r q with
    | some l => some (joinC a b :: l)
    | none => none
  | _, _ => none
noncomputable def joinV (x y : Value) : Option Value := bif sameV x y then some x else match x, y with
  | .agg a, .agg b => match joinL a.toList b.toList with
    | some l => some (.agg ⟨l⟩)
    | none => none
  | .tuple _, _ => none
  | _, .tuple _ => none
  | .agg _, _ => none
  | _, .agg _ => none
  | _, _ => some (.chan none)
noncomputable def sameE : List (Value × Value) → List (Value × Value) → Bool
  | [], [] => true
  | (a, x) :: r, (b, y) :: q => sameS a b && (sameV x y && sameE r q)
  | _, _ => false
noncomputable def joinB : ABlk → ABlk → Option ABlk
  | .cells cs t o, .cells ds u p => bif Nat.beq t u && ((o && p) || (!o && !p)) then match joinL cs ds with
      | some l => some (.cells l t o)
      | none => none
    else none
  | .map es, .map fs => bif sameE es fs then some (.map es) else none
  | _, _ => none
noncomputable def jo {α : Type} (f : α → α → Option α) (a b : Option α) : Option α := @Option.rec α (fun _ => Option α) none (fun x => @Option.rec α (fun _ => Option α) none (fun y => f x y) b) a
noncomputable def joinTd {α : Type} (f : α → α → Option α) (n : Nat) : Td α n → Td α n → Td α n := @Nat.rec (fun n => Td α n → Td α n → Td α n) (fun a b => jo f a b) (fun _ ih x y => ⟨ih x.1 y.1, ih x.2 y.2, ih x.3 y.3, ih x.4 y.4, ih x.5 y.5, ih x.6 y.6, ih x.7 y.7, ih x.8 y.8⟩) n
noncomputable def Tr.join {α : Type} (f : α → α → Option α) (x y : Tr α) : Tr α := ⟨joinTd f 3 x.1 y.1, joinTd f 7 x.2 y.2⟩
noncomputable def sameX : DX → DX → Bool
  | .normal, .normal => true
  | .exit a, .exit b => Nat.beq a b
  | .ret, .ret => true
  | _, _ => false
noncomputable def joinR : Option (DX × Tr Value × Mem) → Option (DX × Tr Value × Mem) → Option (DX × Tr Value × Mem)
  | some (d, T, M), some (e, U, O) => bif sameX d e then some (d, Tr.join joinV T U, ⟨Tr.join joinB M.m O.m, Nat.max M.nx O.nx⟩) else none
  | _, _ => none

noncomputable def callB (ih : Nat → Code → Tr Value → Mem → Option (DX × Tr Value × Mem)) (f : Nat) (args : List Value) (M : Mem) : Option (Value × Mem) :=
  match fns f with
  | some fn => match fn.body with
    | some c => bif Nat.ble args.length fn.ntmps && Nat.ble fn.ntmps 1000000 then finD tab fn.results.toList (ih fn.ntmps c (argT args 0 .e) M) else none
    | none => none
  | none => none

noncomputable def callP (ih : Nat → Code → Tr Value → Mem → Option (DX × Tr Value × Mem)) (f : Nat) (args : List Value) (M : Mem) : Option (Value × Mem) :=
  match prims f with
  | some p => p args M
  | none => callB tab fns ih f args M

/-- a region -/
noncomputable def regB (ih : Nat → Code → Tr Value → Mem → Option (DX × Tr Value × Mem)) (N : Nat) (ops : Array Oper) (dr : Bool) (T : Tr Value) (M : Mem) : Option (Tr Value × Mem) :=
  bif dr then opsH tab eqs zt N (callP tab fns prims ih) ops.toList T M else opsD tab eqs zt N (callP tab fns prims ih) ops.toList ops.toList T M

/-- a region stands for itself, all else is taken up one further down -/
noncomputable def runA (ih : Nat → Code → Tr Value → Mem → Option (DX × Tr Value × Mem)) (N : Nat) (c : Code) (T : Tr Value) (M : Mem) : Option (DX × Tr Value × Mem) :=
  match c with
  | .region _ ops dr => match regB tab eqs zt fns prims ih N ops dr T M with
    | some (T, M) => some (.normal, T, M)
    | none => none
  | c => ih N c T M

noncomputable def runB (ih : Nat → Code → Tr Value → Mem → Option (DX × Tr Value × Mem)) (N : Nat) : Code → Tr Value → Mem → Option (DX × Tr Value × Mem)
  | .skip, T, M => some (.normal, T, M)
  | .region _ ops dr, T, M => match regB tab eqs zt fns prims ih N ops dr T M with
    | some (T, M) => some (.normal, T, M)
    | none => none
  | .seq a b, T, M => match runA tab eqs zt fns prims ih N a T M with
    | some (.normal, T, M) => ih N b T M
    | r => r
  | .cond c x y, T, M => match evD T c with
    | some (.bool true) => ih N x T M
    | some (.bool false) => ih N y T M
    | some (.chan (some i)) => bif SymT.ub i then joinR (ih N x T M) (ih N y T M) else none
    | _ => none
  | .block id c, T, M => match ih N c T M with
    | some (.exit k, T, M) => bif Nat.beq k id then some (.normal, T, M) else some (.exit k, T, M)
    | r => r
  | .loop c, T, M => match ih N c T M with
    | some (.normal, T, M) => ih N (.loop c) T M
    | r => r
  | .exit id, T, M => some (.exit id, T, M)
  | .ret, T, M => some (.ret, T, M)
  | _, _, _ => none

noncomputable def run : Nat → Nat → Code → Tr Value → Mem → Option (DX × Tr Value × Mem) := fun n =>
  Nat.rec (fun _ _ _ _ => none) (fun _ ih => runB tab eqs zt fns prims ih) n

noncomputable def callD (n f : Nat) (args : List Value) (M : Mem) : Option (Value × Mem) := callB tab fns (run tab eqs zt fns prims n) f args M
end
end Go.Ev
