/- The types of the program, and how they lie in memory. -/
import Derived.Test.YtgaldjnnfkdohaaProg
import Derived.Test.YtgaldjnnfkdohaaFwL
set_option linter.unusedVariables false
namespace Go.Proofs.Ytgaldjnnfkdohaa
open Go Go.Fw
structure api_Type where
  Kind : Int
  Class : ByteArray
deriving DecidableEq
structure api_Field where
  Name : ByteArray
  Type_ : api_Type
  Static : Bool
deriving DecidableEq
structure api_Instr where
  Op : Int
  N : Int
  K : Int
  S : ByteArray
  Class : ByteArray
  Name : ByteArray
  Desc : ByteArray
deriving DecidableEq
structure api_Handler where
  From : Int
  To : Int
  At : Int
  Catch : ByteArray
deriving DecidableEq
structure api_Method where
  Name : ByteArray
  Params : (List api_Type)
  Ret : api_Type
  Static : Bool
  Abstract : Bool
  Locals : Int
  Code : (List api_Instr)
  Handlers : (List api_Handler)
deriving DecidableEq
structure Arr4_uint8 where
  e0 : Int
  e1 : Int
  e2 : Int
  e3 : Int
deriving DecidableEq
structure Arr3_uint8 where
  e0 : Int
  e1 : Int
  e2 : Int
deriving DecidableEq
structure api_Class where
  Name : ByteArray
  Super : ByteArray
  Ifaces : (List ByteArray)
  Kind : Int
  Fields : (List api_Field)
  Methods : (List api_Method)
deriving DecidableEq
structure api_Archive where
  Classes : (List api_Class)
deriving DecidableEq
structure bonsaiseat_builder where
  l_ : (List api_Instr)
  h_ : (List api_Handler)
deriving DecidableEq
instance : GoData 3 Int := ⟨1, fun _ x cs => cs = [.int .i64 x], by rintro K x cs rfl; rfl, fun _ h => h, by rintro K x cs rfl; rfl⟩
instance : GoZero 3 Int := ⟨0, [.int .i64 0], fun K => rfl⟩
instance : GoFlat 3 Int := ⟨fun h => h⟩
instance : GoData 4 Bool := ⟨1, fun _ x cs => cs = [.bool x], by rintro K x cs rfl; rfl, fun _ h => h, by rintro K x cs rfl; rfl⟩
instance : GoZero 4 Bool := ⟨false, [.bool false], fun K => rfl⟩
instance : GoFlat 4 Bool := ⟨fun h => h⟩
instance : GoData 5 Int := ⟨1, fun _ x cs => cs = [.int .u8 x], by rintro K x cs rfl; rfl, fun _ h => h, by rintro K x cs rfl; rfl⟩
instance : GoZero 5 Int := ⟨0, [.int .u8 0], fun K => rfl⟩
instance : GoFlat 5 Int := ⟨fun h => h⟩
instance : GoData 9 ByteArray := ⟨1, fun _ x cs => cs = [.string x], by rintro K x cs rfl; rfl, fun _ h => h, by rintro K x cs rfl; rfl⟩
instance : GoZero 9 ByteArray := ⟨⟨#[]⟩, [.string ⟨#[]⟩], fun K => rfl⟩
instance : GoFlat 9 ByteArray := ⟨fun h => h⟩
instance : GoData 21 Int := ⟨1, fun _ x cs => cs = [.int .i32 x], by rintro K x cs rfl; rfl, fun _ h => h, by rintro K x cs rfl; rfl⟩
instance : GoZero 21 Int := ⟨0, [.int .i32 0], fun K => rfl⟩
instance : GoFlat 21 Int := ⟨fun h => h⟩
instance : GoData 24 (List Int) := ⟨1, fun K x cs => ∃ a0 c0, cs = [.slice a0 x.length c0] ∧ SlK 3 K a0 c0 x, by rintro K x cs ⟨a0, c0, rfl, h0⟩; rfl, by rintro K K' x cs hk ⟨a0, c0, rfl, h0⟩; exact ⟨a0, c0, rfl, h0.mono hk⟩, by rintro K x cs ⟨a0, c0, rfl, h0⟩; rfl⟩
instance : GoZero 24 (List Int) := ⟨[], [.slice none 0 0], fun K => ⟨none, 0, rfl, SlK.nil⟩⟩
instance : GoData 63 api_Type := ⟨2, fun _ x cs => cs = [.int .i64 x.Kind, .string x.Class], by rintro K x cs rfl; rfl, fun _ h => h, by rintro K x cs rfl; rfl⟩
instance : GoZero 63 api_Type := ⟨(api_Type.mk 0 ⟨#[]⟩), [.int .i64 0, .string ⟨#[]⟩], fun K => rfl⟩
instance : GoFlat 63 api_Type := ⟨fun h => h⟩
instance : GoData 97 api_Field := ⟨4, fun _ x cs => cs = [.string x.Name, .int .i64 x.Type_.Kind, .string x.Type_.Class, .bool x.Static], by rintro K x cs rfl; rfl, fun _ h => h, by rintro K x cs rfl; rfl⟩
instance : GoZero 97 api_Field := ⟨(api_Field.mk ⟨#[]⟩ (api_Type.mk 0 ⟨#[]⟩) false), [.string ⟨#[]⟩, .int .i64 0, .string ⟨#[]⟩, .bool false], fun K => rfl⟩
instance : GoFlat 97 api_Field := ⟨fun h => h⟩
instance : GoData 36 (List api_Field) := ⟨1, fun K x cs => ∃ a0 c0, cs = [.slice a0 x.length c0] ∧ SlK 97 K a0 c0 x, by rintro K x cs ⟨a0, c0, rfl, h0⟩; rfl, by rintro K K' x cs hk ⟨a0, c0, rfl, h0⟩; exact ⟨a0, c0, rfl, h0.mono hk⟩, by rintro K x cs ⟨a0, c0, rfl, h0⟩; rfl⟩
instance : GoZero 36 (List api_Field) := ⟨[], [.slice none 0 0], fun K => ⟨none, 0, rfl, SlK.nil⟩⟩
instance : GoData 55 (List Int) := ⟨1, fun K x cs => ∃ a0 c0, cs = [.slice a0 x.length c0] ∧ SlK 5 K a0 c0 x, by rintro K x cs ⟨a0, c0, rfl, h0⟩; rfl, by rintro K K' x cs hk ⟨a0, c0, rfl, h0⟩; exact ⟨a0, c0, rfl, h0.mono hk⟩, by rintro K x cs ⟨a0, c0, rfl, h0⟩; rfl⟩
instance : GoZero 55 (List Int) := ⟨[], [.slice none 0 0], fun K => ⟨none, 0, rfl, SlK.nil⟩⟩
instance : GoData 61 (List api_Type) := ⟨1, fun K x cs => ∃ a0 c0, cs = [.slice a0 x.length c0] ∧ SlK 63 K a0 c0 x, by rintro K x cs ⟨a0, c0, rfl, h0⟩; rfl, by rintro K K' x cs hk ⟨a0, c0, rfl, h0⟩; exact ⟨a0, c0, rfl, h0.mono hk⟩, by rintro K x cs ⟨a0, c0, rfl, h0⟩; rfl⟩
instance : GoZero 61 (List api_Type) := ⟨[], [.slice none 0 0], fun K => ⟨none, 0, rfl, SlK.nil⟩⟩
instance : GoData 77 api_Instr := ⟨7, fun _ x cs => cs = [.int .i64 x.Op, .int .i32 x.N, .int .i64 x.K, .string x.S, .string x.Class, .string x.Name, .string x.Desc], by rintro K x cs rfl; rfl, fun _ h => h, by rintro K x cs rfl; rfl⟩
instance : GoZero 77 api_Instr := ⟨(api_Instr.mk 0 0 0 ⟨#[]⟩ ⟨#[]⟩ ⟨#[]⟩ ⟨#[]⟩), [.int .i64 0, .int .i32 0, .int .i64 0, .string ⟨#[]⟩, .string ⟨#[]⟩, .string ⟨#[]⟩, .string ⟨#[]⟩], fun K => rfl⟩
instance : GoFlat 77 api_Instr := ⟨fun h => h⟩
instance : GoData 64 (List api_Instr) := ⟨1, fun K x cs => ∃ a0 c0, cs = [.slice a0 x.length c0] ∧ SlK 77 K a0 c0 x, by rintro K x cs ⟨a0, c0, rfl, h0⟩; rfl, by rintro K K' x cs hk ⟨a0, c0, rfl, h0⟩; exact ⟨a0, c0, rfl, h0.mono hk⟩, by rintro K x cs ⟨a0, c0, rfl, h0⟩; rfl⟩
instance : GoZero 64 (List api_Instr) := ⟨[], [.slice none 0 0], fun K => ⟨none, 0, rfl, SlK.nil⟩⟩
instance : GoData 92 api_Handler := ⟨4, fun _ x cs => cs = [.int .i64 x.From, .int .i64 x.To, .int .i64 x.At, .string x.Catch], by rintro K x cs rfl; rfl, fun _ h => h, by rintro K x cs rfl; rfl⟩
instance : GoZero 92 api_Handler := ⟨(api_Handler.mk 0 0 0 ⟨#[]⟩), [.int .i64 0, .int .i64 0, .int .i64 0, .string ⟨#[]⟩], fun K => rfl⟩
instance : GoFlat 92 api_Handler := ⟨fun h => h⟩
instance : GoData 65 (List api_Handler) := ⟨1, fun K x cs => ∃ a0 c0, cs = [.slice a0 x.length c0] ∧ SlK 92 K a0 c0 x, by rintro K x cs ⟨a0, c0, rfl, h0⟩; rfl, by rintro K K' x cs hk ⟨a0, c0, rfl, h0⟩; exact ⟨a0, c0, rfl, h0.mono hk⟩, by rintro K x cs ⟨a0, c0, rfl, h0⟩; rfl⟩
instance : GoZero 65 (List api_Handler) := ⟨[], [.slice none 0 0], fun K => ⟨none, 0, rfl, SlK.nil⟩⟩
instance : GoData 67 api_Method := ⟨9, fun K x cs => ∃ a0 c0 a1 c1 a2 c2, cs = [.string x.Name, .slice a0 x.Params.length c0, .int .i64 x.Ret.Kind, .string x.Ret.Class, .bool x.Static, .bool x.Abstract, .int .i64 x.Locals, .slice a1 x.Code.length c1, .slice a2 x.Handlers.length c2] ∧ SlK 63 K a0 c0 x.Params ∧ SlK 77 K a1 c1 x.Code ∧ SlK 92 K a2 c2 x.Handlers, by rintro K x cs ⟨a0, c0, a1, c1, a2, c2, rfl, h0, h1, h2⟩; rfl, by rintro K K' x cs hk ⟨a0, c0, a1, c1, a2, c2, rfl, h0, h1, h2⟩; exact ⟨a0, c0, a1, c1, a2, c2, rfl, h0.mono hk, h1.mono hk, h2.mono hk⟩, by rintro K x cs ⟨a0, c0, a1, c1, a2, c2, rfl, h0, h1, h2⟩; rfl⟩
instance : GoZero 67 api_Method := ⟨(api_Method.mk ⟨#[]⟩ [] (api_Type.mk 0 ⟨#[]⟩) false false 0 [] []), [.string ⟨#[]⟩, .slice none 0 0, .int .i64 0, .string ⟨#[]⟩, .bool false, .bool false, .int .i64 0, .slice none 0 0, .slice none 0 0], fun K => ⟨none, 0, none, 0, none, 0, rfl, SlK.nil, SlK.nil, SlK.nil⟩⟩
instance : GoData 68 Arr4_uint8 := ⟨4, fun _ x cs => cs = [.int .u8 x.e0, .int .u8 x.e1, .int .u8 x.e2, .int .u8 x.e3], by rintro K x cs rfl; rfl, fun _ h => h, by rintro K x cs rfl; rfl⟩
instance : GoZero 68 Arr4_uint8 := ⟨(Arr4_uint8.mk 0 0 0 0), [.int .u8 0, .int .u8 0, .int .u8 0, .int .u8 0], fun K => rfl⟩
instance : GoFlat 68 Arr4_uint8 := ⟨fun h => h⟩
instance : GoData 121 Arr3_uint8 := ⟨3, fun _ x cs => cs = [.int .u8 x.e0, .int .u8 x.e1, .int .u8 x.e2], by rintro K x cs rfl; rfl, fun _ h => h, by rintro K x cs rfl; rfl⟩
instance : GoZero 121 Arr3_uint8 := ⟨(Arr3_uint8.mk 0 0 0), [.int .u8 0, .int .u8 0, .int .u8 0], fun K => rfl⟩
instance : GoFlat 121 Arr3_uint8 := ⟨fun h => h⟩
instance : GoData 69 (List Arr3_uint8) := ⟨1, fun K x cs => ∃ a0 c0, cs = [.slice a0 x.length c0] ∧ SlK 121 K a0 c0 x, by rintro K x cs ⟨a0, c0, rfl, h0⟩; rfl, by rintro K K' x cs hk ⟨a0, c0, rfl, h0⟩; exact ⟨a0, c0, rfl, h0.mono hk⟩, by rintro K x cs ⟨a0, c0, rfl, h0⟩; rfl⟩
instance : GoZero 69 (List Arr3_uint8) := ⟨[], [.slice none 0 0], fun K => ⟨none, 0, rfl, SlK.nil⟩⟩
instance : GoData 70 Int := ⟨1, fun _ x cs => cs = [.int .u16 x], by rintro K x cs rfl; rfl, fun _ h => h, by rintro K x cs rfl; rfl⟩
instance : GoZero 70 Int := ⟨0, [.int .u16 0], fun K => rfl⟩
instance : GoFlat 70 Int := ⟨fun h => h⟩
instance : GoData 78 (List ByteArray) := ⟨1, fun K x cs => ∃ a0 c0, cs = [.slice a0 x.length c0] ∧ SlK 9 K a0 c0 x, by rintro K x cs ⟨a0, c0, rfl, h0⟩; rfl, by rintro K K' x cs hk ⟨a0, c0, rfl, h0⟩; exact ⟨a0, c0, rfl, h0.mono hk⟩, by rintro K x cs ⟨a0, c0, rfl, h0⟩; rfl⟩
instance : GoZero 78 (List ByteArray) := ⟨[], [.slice none 0 0], fun K => ⟨none, 0, rfl, SlK.nil⟩⟩
instance : GoData 79 (List api_Method) := ⟨1, fun K x cs => ∃ a0 c0, cs = [.slice a0 x.length c0] ∧ SlK 67 K a0 c0 x, by rintro K x cs ⟨a0, c0, rfl, h0⟩; rfl, by rintro K K' x cs hk ⟨a0, c0, rfl, h0⟩; exact ⟨a0, c0, rfl, h0.mono hk⟩, by rintro K x cs ⟨a0, c0, rfl, h0⟩; rfl⟩
instance : GoZero 79 (List api_Method) := ⟨[], [.slice none 0 0], fun K => ⟨none, 0, rfl, SlK.nil⟩⟩
instance : GoData 81 api_Class := ⟨6, fun K x cs => ∃ a0 c0 a1 c1 a2 c2, cs = [.string x.Name, .string x.Super, .slice a0 x.Ifaces.length c0, .int .i64 x.Kind, .slice a1 x.Fields.length c1, .slice a2 x.Methods.length c2] ∧ SlK 9 K a0 c0 x.Ifaces ∧ SlK 97 K a1 c1 x.Fields ∧ SlK 67 K a2 c2 x.Methods, by rintro K x cs ⟨a0, c0, a1, c1, a2, c2, rfl, h0, h1, h2⟩; rfl, by rintro K K' x cs hk ⟨a0, c0, a1, c1, a2, c2, rfl, h0, h1, h2⟩; exact ⟨a0, c0, a1, c1, a2, c2, rfl, h0.mono hk, h1.mono hk, h2.mono hk⟩, by rintro K x cs ⟨a0, c0, a1, c1, a2, c2, rfl, h0, h1, h2⟩; rfl⟩
instance : GoZero 81 api_Class := ⟨(api_Class.mk ⟨#[]⟩ ⟨#[]⟩ [] 0 [] []), [.string ⟨#[]⟩, .string ⟨#[]⟩, .slice none 0 0, .int .i64 0, .slice none 0 0, .slice none 0 0], fun K => ⟨none, 0, none, 0, none, 0, rfl, SlK.nil, SlK.nil, SlK.nil⟩⟩
instance : GoData 72 (List api_Class) := ⟨1, fun K x cs => ∃ a0 c0, cs = [.slice a0 x.length c0] ∧ SlK 81 K a0 c0 x, by rintro K x cs ⟨a0, c0, rfl, h0⟩; rfl, by rintro K K' x cs hk ⟨a0, c0, rfl, h0⟩; exact ⟨a0, c0, rfl, h0.mono hk⟩, by rintro K x cs ⟨a0, c0, rfl, h0⟩; rfl⟩
instance : GoZero 72 (List api_Class) := ⟨[], [.slice none 0 0], fun K => ⟨none, 0, rfl, SlK.nil⟩⟩
instance : GoData 74 api_Archive := ⟨1, fun K x cs => ∃ a0 c0, cs = [.slice a0 x.Classes.length c0] ∧ SlK 81 K a0 c0 x.Classes, by rintro K x cs ⟨a0, c0, rfl, h0⟩; rfl, by rintro K K' x cs hk ⟨a0, c0, rfl, h0⟩; exact ⟨a0, c0, rfl, h0.mono hk⟩, by rintro K x cs ⟨a0, c0, rfl, h0⟩; rfl⟩
instance : GoZero 74 api_Archive := ⟨(api_Archive.mk []), [.slice none 0 0], fun K => ⟨none, 0, rfl, SlK.nil⟩⟩
instance : GoData 82 (List (List api_Instr)) := ⟨1, fun K x cs => ∃ a0 c0, cs = [.slice a0 x.length c0] ∧ SlK 64 K a0 c0 x, by rintro K x cs ⟨a0, c0, rfl, h0⟩; rfl, by rintro K K' x cs hk ⟨a0, c0, rfl, h0⟩; exact ⟨a0, c0, rfl, h0.mono hk⟩, by rintro K x cs ⟨a0, c0, rfl, h0⟩; rfl⟩
instance : GoZero 82 (List (List api_Instr)) := ⟨[], [.slice none 0 0], fun K => ⟨none, 0, rfl, SlK.nil⟩⟩
instance : GoData 84 (List (List (List api_Instr))) := ⟨1, fun K x cs => ∃ a0 c0, cs = [.slice a0 x.length c0] ∧ SlK 82 K a0 c0 x, by rintro K x cs ⟨a0, c0, rfl, h0⟩; rfl, by rintro K K' x cs hk ⟨a0, c0, rfl, h0⟩; exact ⟨a0, c0, rfl, h0.mono hk⟩, by rintro K x cs ⟨a0, c0, rfl, h0⟩; rfl⟩
instance : GoZero 84 (List (List (List api_Instr))) := ⟨[], [.slice none 0 0], fun K => ⟨none, 0, rfl, SlK.nil⟩⟩
instance : GoData 127 bonsaiseat_builder := ⟨2, fun K x cs => ∃ a0 c0 a1 c1, cs = [.slice a0 x.l_.length c0, .slice a1 x.h_.length c1] ∧ SlK 77 K a0 c0 x.l_ ∧ SlK 92 K a1 c1 x.h_, by rintro K x cs ⟨a0, c0, a1, c1, rfl, h0, h1⟩; rfl, by rintro K K' x cs hk ⟨a0, c0, a1, c1, rfl, h0, h1⟩; exact ⟨a0, c0, a1, c1, rfl, h0.mono hk, h1.mono hk⟩, by rintro K x cs ⟨a0, c0, a1, c1, rfl, h0, h1⟩; rfl⟩
instance : GoZero 127 bonsaiseat_builder := ⟨(bonsaiseat_builder.mk [] []), [.slice none 0 0, .slice none 0 0], fun K => ⟨none, 0, none, 0, rfl, SlK.nil, SlK.nil⟩⟩
abbrev vv63 (x : api_Type) : List Value := [.int .i64 x.Kind, .string x.Class]
abbrev vv67 (x : api_Method) (a0 : Option Addr) (c0 : Nat) (a1 : Option Addr) (c1 : Nat) (a2 : Option Addr) (c2 : Nat) : List Value := [.string x.Name, .slice a0 x.Params.length c0, .int .i64 x.Ret.Kind, .string x.Ret.Class, .bool x.Static, .bool x.Abstract, .int .i64 x.Locals, .slice a1 x.Code.length c1, .slice a2 x.Handlers.length c2]
abbrev vv68 (x : Arr4_uint8) : List Value := [.int .u8 x.e0, .int .u8 x.e1, .int .u8 x.e2, .int .u8 x.e3]
abbrev vv77 (x : api_Instr) : List Value := [.int .i64 x.Op, .int .i32 x.N, .int .i64 x.K, .string x.S, .string x.Class, .string x.Name, .string x.Desc]
abbrev vv81 (x : api_Class) (a0 : Option Addr) (c0 : Nat) (a1 : Option Addr) (c1 : Nat) (a2 : Option Addr) (c2 : Nat) : List Value := [.string x.Name, .string x.Super, .slice a0 x.Ifaces.length c0, .int .i64 x.Kind, .slice a1 x.Fields.length c1, .slice a2 x.Methods.length c2]
abbrev vv92 (x : api_Handler) : List Value := [.int .i64 x.From, .int .i64 x.To, .int .i64 x.At, .string x.Catch]
abbrev vv127 (x : bonsaiseat_builder) (a0 : Option Addr) (c0 : Nat) (a1 : Option Addr) (c1 : Nat) : List Value := [.slice a0 x.l_.length c0, .slice a1 x.h_.length c1]
def tab : Tab := [
  (3, ⟨.int .i64, 1, 8, [.int .i64 0], false, [], 0, 0, [], false⟩),
  (4, ⟨.bool, 1, 1, [.bool false], false, [], 0, 0, [], false⟩),
  (5, ⟨.int .u8, 1, 1, [.int .u8 0], false, [], 0, 0, [], false⟩),
  (9, ⟨.string, 1, 16, [.string ⟨#[]⟩], false, [], 0, 0, [], false⟩),
  (21, ⟨.int .i32, 1, 4, [.int .i32 0], false, [], 0, 0, [], false⟩),
  (24, ⟨.slice 3, 1, 24, [.slice none 0 0], false, [], 1, 8, [.int .i64 0], false⟩),
  (36, ⟨.slice 97, 1, 24, [.slice none 0 0], false, [], 4, 48, [.string ⟨#[]⟩, .int .i64 0, .string ⟨#[]⟩, .bool false], true⟩),
  (55, ⟨.slice 5, 1, 24, [.slice none 0 0], false, [], 1, 1, [.int .u8 0], false⟩),
  (61, ⟨.slice 63, 1, 24, [.slice none 0 0], false, [], 2, 24, [.int .i64 0, .string ⟨#[]⟩], true⟩),
  (63, ⟨.struct, 2, 24, [.int .i64 0, .string ⟨#[]⟩], true, [(0, 1, false), (1, 1, false)], 0, 0, [], false⟩),
  (64, ⟨.slice 77, 1, 24, [.slice none 0 0], false, [], 7, 88, [.int .i64 0, .int .i32 0, .int .i64 0, .string ⟨#[]⟩, .string ⟨#[]⟩, .string ⟨#[]⟩, .string ⟨#[]⟩], true⟩),
  (65, ⟨.slice 92, 1, 24, [.slice none 0 0], false, [], 4, 40, [.int .i64 0, .int .i64 0, .int .i64 0, .string ⟨#[]⟩], true⟩),
  (67, ⟨.struct, 9, 128, [.string ⟨#[]⟩, .slice none 0 0, .int .i64 0, .string ⟨#[]⟩, .bool false, .bool false, .int .i64 0, .slice none 0 0, .slice none 0 0], true, [(0, 1, false), (1, 1, false), (2, 2, true), (4, 1, false), (5, 1, false), (6, 1, false), (7, 1, false), (8, 1, false)], 0, 0, [], false⟩),
  (68, ⟨.array 4 5, 4, 4, [.int .u8 0, .int .u8 0, .int .u8 0, .int .u8 0], true, [], 1, 1, [.int .u8 0], false⟩),
  (69, ⟨.slice 121, 1, 24, [.slice none 0 0], false, [], 3, 3, [.int .u8 0, .int .u8 0, .int .u8 0], true⟩),
  (70, ⟨.int .u16, 1, 2, [.int .u16 0], false, [], 0, 0, [], false⟩),
  (72, ⟨.slice 81, 1, 24, [.slice none 0 0], false, [], 6, 112, [.string ⟨#[]⟩, .string ⟨#[]⟩, .slice none 0 0, .int .i64 0, .slice none 0 0, .slice none 0 0], true⟩),
  (74, ⟨.struct, 1, 24, [.slice none 0 0], true, [(0, 1, false)], 0, 0, [], false⟩),
  (77, ⟨.struct, 7, 88, [.int .i64 0, .int .i32 0, .int .i64 0, .string ⟨#[]⟩, .string ⟨#[]⟩, .string ⟨#[]⟩, .string ⟨#[]⟩], true, [(0, 1, false), (1, 1, false), (2, 1, false), (3, 1, false), (4, 1, false), (5, 1, false), (6, 1, false)], 0, 0, [], false⟩),
  (78, ⟨.slice 9, 1, 24, [.slice none 0 0], false, [], 1, 16, [.string ⟨#[]⟩], false⟩),
  (79, ⟨.slice 67, 1, 24, [.slice none 0 0], false, [], 9, 128, [.string ⟨#[]⟩, .slice none 0 0, .int .i64 0, .string ⟨#[]⟩, .bool false, .bool false, .int .i64 0, .slice none 0 0, .slice none 0 0], true⟩),
  (81, ⟨.struct, 6, 112, [.string ⟨#[]⟩, .string ⟨#[]⟩, .slice none 0 0, .int .i64 0, .slice none 0 0, .slice none 0 0], true, [(0, 1, false), (1, 1, false), (2, 1, false), (3, 1, false), (4, 1, false), (5, 1, false)], 0, 0, [], false⟩),
  (82, ⟨.slice 64, 1, 24, [.slice none 0 0], false, [], 1, 24, [.slice none 0 0], false⟩),
  (84, ⟨.slice 82, 1, 24, [.slice none 0 0], false, [], 1, 24, [.slice none 0 0], false⟩),
  (92, ⟨.struct, 4, 40, [.int .i64 0, .int .i64 0, .int .i64 0, .string ⟨#[]⟩], true, [(0, 1, false), (1, 1, false), (2, 1, false), (3, 1, false)], 0, 0, [], false⟩),
  (97, ⟨.struct, 4, 48, [.string ⟨#[]⟩, .int .i64 0, .string ⟨#[]⟩, .bool false], true, [(0, 1, false), (1, 2, true), (3, 1, false)], 0, 0, [], false⟩),
  (121, ⟨.array 3 5, 3, 3, [.int .u8 0, .int .u8 0, .int .u8 0], true, [], 1, 1, [.int .u8 0], false⟩),
  (127, ⟨.struct, 2, 48, [.slice none 0 0, .slice none 0 0], true, [(0, 1, false), (1, 1, false)], 0, 0, [], false⟩)]
instance : TabC Try.prog tab := ⟨⟨by kernel_rfl, by kernel_rfl, by kernel_rfl, by kernel_rfl, by kernel_rfl, by kernel_rfl, by kernel_rfl, by kernel_rfl, by kernel_rfl, by kernel_rfl, by kernel_rfl, by kernel_rfl, by kernel_rfl, by kernel_rfl, by kernel_rfl, by kernel_rfl, by kernel_rfl, by kernel_rfl, by kernel_rfl, by kernel_rfl, by kernel_rfl, by kernel_rfl, by kernel_rfl, by kernel_rfl, by kernel_rfl, by kernel_rfl, by kernel_rfl, by kernel_rfl, trivial⟩, by kernel_rfl⟩
instance : DmF 64 (Dm.flat 77 : Dm (List api_Instr)) := ⟨rfl, fun h hS => Dm.flat_frz h hS⟩
instance : GoOpen Try.prog 5 Int := ⟨fun n => (Lit.int .u8 n).wf = true, fun h => open_int' rfl rfl h⟩
instance : GoOpen Try.prog 55 (List Int) := ⟨fun x => x.length ≤ maxLen ∧ ∀ y ∈ x, GoOpen.wf Try.prog 5 y, fun h => by obtain ⟨a, c, x, h1, h2, h3, h4⟩ := open_sl (e := 5) (α := Int) rfl rfl rfl rfl h; exact ⟨x, ⟨a, c, h1, h2⟩, h3, h4⟩⟩
instance : GoOpen Try.prog 9 ByteArray := ⟨fun x => x.size ≤ maxLen, fun h => open_str' rfl rfl h⟩
instance : GoOpen Try.prog 3 Int := ⟨fun n => (Lit.int .i64 n).wf = true, fun h => open_int' rfl rfl h⟩
instance : GoOpen Try.prog 63 api_Type := ⟨fun x => GoOpen.wf Try.prog 3 x.Kind ∧ GoOpen.wf Try.prog 9 x.Class, fun {H enc w sp hd fuel cs z} h => by
  have hl := open_strlen (t := 63) rfl Try.underlying63 h
  match cs, hl with
  | [z0, z1], _ =>
    obtain ⟨y0, h0, w0⟩ := open_fld (ft := 3) (α := Int) Try.underlying63 h 0 rfl rfl rfl
    replace h0 : GoData.cells 3 _ y0 [z0] := h0
    have e0 := h0
    cases e0
    obtain ⟨y1, h1, w1⟩ := open_fld (ft := 9) (α := ByteArray) Try.underlying63 h 1 rfl rfl rfl
    replace h1 : GoData.cells 9 _ y1 [z1] := h1
    have e1 := h1
    cases e1
    exact ⟨⟨y0, y1⟩, rfl, ⟨w0, w1⟩⟩⟩
instance : GoOpen Try.prog 61 (List api_Type) := ⟨fun x => x.length ≤ maxLen ∧ ∀ y ∈ x, GoOpen.wf Try.prog 63 y, fun h => by obtain ⟨a, c, x, h1, h2, h3, h4⟩ := open_sl (e := 63) (α := api_Type) rfl rfl rfl rfl h; exact ⟨x, ⟨a, c, h1, h2⟩, h3, h4⟩⟩
instance : GoOpen Try.prog 4 Bool := ⟨fun _ => True, fun h => open_bool' rfl rfl h⟩
instance : GoOpen Try.prog 21 Int := ⟨fun n => (Lit.int .i32 n).wf = true, fun h => open_int' rfl rfl h⟩
instance : GoOpen Try.prog 77 api_Instr := ⟨fun x => GoOpen.wf Try.prog 3 x.Op ∧ GoOpen.wf Try.prog 21 x.N ∧ GoOpen.wf Try.prog 3 x.K ∧ GoOpen.wf Try.prog 9 x.S ∧ GoOpen.wf Try.prog 9 x.Class ∧ GoOpen.wf Try.prog 9 x.Name ∧ GoOpen.wf Try.prog 9 x.Desc, fun {H enc w sp hd fuel cs z} h => by
  have hl := open_strlen (t := 77) rfl Try.underlying77 h
  match cs, hl with
  | [z0, z1, z2, z3, z4, z5, z6], _ =>
    obtain ⟨y0, h0, w0⟩ := open_fld (ft := 3) (α := Int) Try.underlying77 h 0 rfl rfl rfl
    replace h0 : GoData.cells 3 _ y0 [z0] := h0
    have e0 := h0
    cases e0
    obtain ⟨y1, h1, w1⟩ := open_fld (ft := 21) (α := Int) Try.underlying77 h 1 rfl rfl rfl
    replace h1 : GoData.cells 21 _ y1 [z1] := h1
    have e1 := h1
    cases e1
    obtain ⟨y2, h2, w2⟩ := open_fld (ft := 3) (α := Int) Try.underlying77 h 2 rfl rfl rfl
    replace h2 : GoData.cells 3 _ y2 [z2] := h2
    have e2 := h2
    cases e2
    obtain ⟨y3, h3, w3⟩ := open_fld (ft := 9) (α := ByteArray) Try.underlying77 h 3 rfl rfl rfl
    replace h3 : GoData.cells 9 _ y3 [z3] := h3
    have e3 := h3
    cases e3
    obtain ⟨y4, h4, w4⟩ := open_fld (ft := 9) (α := ByteArray) Try.underlying77 h 4 rfl rfl rfl
    replace h4 : GoData.cells 9 _ y4 [z4] := h4
    have e4 := h4
    cases e4
    obtain ⟨y5, h5, w5⟩ := open_fld (ft := 9) (α := ByteArray) Try.underlying77 h 5 rfl rfl rfl
    replace h5 : GoData.cells 9 _ y5 [z5] := h5
    have e5 := h5
    cases e5
    obtain ⟨y6, h6, w6⟩ := open_fld (ft := 9) (α := ByteArray) Try.underlying77 h 6 rfl rfl rfl
    replace h6 : GoData.cells 9 _ y6 [z6] := h6
    have e6 := h6
    cases e6
    exact ⟨⟨y0, y1, y2, y3, y4, y5, y6⟩, rfl, ⟨w0, w1, w2, w3, w4, w5, w6⟩⟩⟩
instance : GoOpen Try.prog 64 (List api_Instr) := ⟨fun x => x.length ≤ maxLen ∧ ∀ y ∈ x, GoOpen.wf Try.prog 77 y, fun h => by obtain ⟨a, c, x, h1, h2, h3, h4⟩ := open_sl (e := 77) (α := api_Instr) rfl rfl rfl rfl h; exact ⟨x, ⟨a, c, h1, h2⟩, h3, h4⟩⟩
instance : GoOpen Try.prog 92 api_Handler := ⟨fun x => GoOpen.wf Try.prog 3 x.From ∧ GoOpen.wf Try.prog 3 x.To ∧ GoOpen.wf Try.prog 3 x.At ∧ GoOpen.wf Try.prog 9 x.Catch, fun {H enc w sp hd fuel cs z} h => by
  have hl := open_strlen (t := 92) rfl Try.underlying92 h
  match cs, hl with
  | [z0, z1, z2, z3], _ =>
    obtain ⟨y0, h0, w0⟩ := open_fld (ft := 3) (α := Int) Try.underlying92 h 0 rfl rfl rfl
    replace h0 : GoData.cells 3 _ y0 [z0] := h0
    have e0 := h0
    cases e0
    obtain ⟨y1, h1, w1⟩ := open_fld (ft := 3) (α := Int) Try.underlying92 h 1 rfl rfl rfl
    replace h1 : GoData.cells 3 _ y1 [z1] := h1
    have e1 := h1
    cases e1
    obtain ⟨y2, h2, w2⟩ := open_fld (ft := 3) (α := Int) Try.underlying92 h 2 rfl rfl rfl
    replace h2 : GoData.cells 3 _ y2 [z2] := h2
    have e2 := h2
    cases e2
    obtain ⟨y3, h3, w3⟩ := open_fld (ft := 9) (α := ByteArray) Try.underlying92 h 3 rfl rfl rfl
    replace h3 : GoData.cells 9 _ y3 [z3] := h3
    have e3 := h3
    cases e3
    exact ⟨⟨y0, y1, y2, y3⟩, rfl, ⟨w0, w1, w2, w3⟩⟩⟩
instance : GoOpen Try.prog 65 (List api_Handler) := ⟨fun x => x.length ≤ maxLen ∧ ∀ y ∈ x, GoOpen.wf Try.prog 92 y, fun h => by obtain ⟨a, c, x, h1, h2, h3, h4⟩ := open_sl (e := 92) (α := api_Handler) rfl rfl rfl rfl h; exact ⟨x, ⟨a, c, h1, h2⟩, h3, h4⟩⟩
instance : GoOpen Try.prog 67 api_Method := ⟨fun x => GoOpen.wf Try.prog 9 x.Name ∧ GoOpen.wf Try.prog 61 x.Params ∧ GoOpen.wf Try.prog 63 x.Ret ∧ GoOpen.wf Try.prog 4 x.Static ∧ GoOpen.wf Try.prog 4 x.Abstract ∧ GoOpen.wf Try.prog 3 x.Locals ∧ GoOpen.wf Try.prog 64 x.Code ∧ GoOpen.wf Try.prog 65 x.Handlers, fun {H enc w sp hd fuel cs z} h => by
  have hl := open_strlen (t := 67) rfl Try.underlying67 h
  match cs, hl with
  | [z0, z1, z2, z3, z4, z5, z6, z7, z8], _ =>
    obtain ⟨y0, h0, w0⟩ := open_fld (ft := 9) (α := ByteArray) Try.underlying67 h 0 rfl rfl rfl
    replace h0 : GoData.cells 9 _ y0 [z0] := h0
    have e0 := h0
    cases e0
    obtain ⟨y1, h1, w1⟩ := open_fld (ft := 61) (α := (List api_Type)) Try.underlying67 h 1 rfl rfl rfl
    replace h1 : GoData.cells 61 _ y1 [z1] := h1
    obtain ⟨a1_0, c1_0, e1, s1_0⟩ := h1
    cases e1
    obtain ⟨y2, h2, w2⟩ := open_fld (ft := 63) (α := api_Type) Try.underlying67 h 2 rfl rfl rfl
    replace h2 : GoData.cells 63 _ y2 [z2, z3] := h2
    have e2 := h2
    cases e2
    obtain ⟨y3, h3, w3⟩ := open_fld (ft := 4) (α := Bool) Try.underlying67 h 3 rfl rfl rfl
    replace h3 : GoData.cells 4 _ y3 [z4] := h3
    have e3 := h3
    cases e3
    obtain ⟨y4, h4, w4⟩ := open_fld (ft := 4) (α := Bool) Try.underlying67 h 4 rfl rfl rfl
    replace h4 : GoData.cells 4 _ y4 [z5] := h4
    have e4 := h4
    cases e4
    obtain ⟨y5, h5, w5⟩ := open_fld (ft := 3) (α := Int) Try.underlying67 h 5 rfl rfl rfl
    replace h5 : GoData.cells 3 _ y5 [z6] := h5
    have e5 := h5
    cases e5
    obtain ⟨y6, h6, w6⟩ := open_fld (ft := 64) (α := (List api_Instr)) Try.underlying67 h 6 rfl rfl rfl
    replace h6 : GoData.cells 64 _ y6 [z7] := h6
    obtain ⟨a6_0, c6_0, e6, s6_0⟩ := h6
    cases e6
    obtain ⟨y7, h7, w7⟩ := open_fld (ft := 65) (α := (List api_Handler)) Try.underlying67 h 7 rfl rfl rfl
    replace h7 : GoData.cells 65 _ y7 [z8] := h7
    obtain ⟨a7_0, c7_0, e7, s7_0⟩ := h7
    cases e7
    exact ⟨⟨y0, y1, y2, y3, y4, y5, y6, y7⟩, ⟨a1_0, c1_0, a6_0, c6_0, a7_0, c7_0, rfl, s1_0, s6_0, s7_0⟩, ⟨w0, w1, w2, w3, w4, w5, w6, w7⟩⟩⟩
instance : GoOpen Try.prog 68 Arr4_uint8 := ⟨fun x => GoOpen.wf Try.prog 5 x.e0 ∧ GoOpen.wf Try.prog 5 x.e1 ∧ GoOpen.wf Try.prog 5 x.e2 ∧ GoOpen.wf Try.prog 5 x.e3, fun {H enc w sp hd fuel cs z} h => by
  obtain ⟨hl, he⟩ := open_arr (e := 5) (α := Int) (n := 4) rfl rfl rfl h
  match cs, hl with
  | [x0, x1, x2, x3], _ =>
    obtain ⟨y0, h0, w0⟩ := he 0 (by decide)
    replace h0 : [x0] = [Value.int .u8 y0] := h0
    cases h0
    obtain ⟨y1, h1, w1⟩ := he 1 (by decide)
    replace h1 : [x1] = [Value.int .u8 y1] := h1
    cases h1
    obtain ⟨y2, h2, w2⟩ := he 2 (by decide)
    replace h2 : [x2] = [Value.int .u8 y2] := h2
    cases h2
    obtain ⟨y3, h3, w3⟩ := he 3 (by decide)
    replace h3 : [x3] = [Value.int .u8 y3] := h3
    cases h3
    exact ⟨⟨y0, y1, y2, y3⟩, rfl, w0, w1, w2, w3⟩⟩
instance : GoOpen Try.prog 121 Arr3_uint8 := ⟨fun x => GoOpen.wf Try.prog 5 x.e0 ∧ GoOpen.wf Try.prog 5 x.e1 ∧ GoOpen.wf Try.prog 5 x.e2, fun {H enc w sp hd fuel cs z} h => by
  obtain ⟨hl, he⟩ := open_arr (e := 5) (α := Int) (n := 3) rfl rfl rfl h
  match cs, hl with
  | [x0, x1, x2], _ =>
    obtain ⟨y0, h0, w0⟩ := he 0 (by decide)
    replace h0 : [x0] = [Value.int .u8 y0] := h0
    cases h0
    obtain ⟨y1, h1, w1⟩ := he 1 (by decide)
    replace h1 : [x1] = [Value.int .u8 y1] := h1
    cases h1
    obtain ⟨y2, h2, w2⟩ := he 2 (by decide)
    replace h2 : [x2] = [Value.int .u8 y2] := h2
    cases h2
    exact ⟨⟨y0, y1, y2⟩, rfl, w0, w1, w2⟩⟩
instance : GoOpen Try.prog 69 (List Arr3_uint8) := ⟨fun x => x.length ≤ maxLen ∧ ∀ y ∈ x, GoOpen.wf Try.prog 121 y, fun h => by obtain ⟨a, c, x, h1, h2, h3, h4⟩ := open_sl (e := 121) (α := Arr3_uint8) rfl rfl rfl rfl h; exact ⟨x, ⟨a, c, h1, h2⟩, h3, h4⟩⟩
theorem e63 : EqT Try.prog 63 [.int .i64, .string] := ⟨by kernel_rfl, by kernel_rfl, by kernel_rfl⟩
theorem e77 : EqT Try.prog 77 [.int .i64, .int .i32, .int .i64, .string, .string, .string, .string] := ⟨by kernel_rfl, by kernel_rfl, by kernel_rfl⟩
theorem e92 : EqT Try.prog 92 [.int .i64, .int .i64, .int .i64, .string] := ⟨by kernel_rfl, by kernel_rfl, by kernel_rfl⟩
end Go.Proofs.Ytgaldjnnfkdohaa
