/- The types of the program, and how they lie in memory. -/
import Derived.Test.YtgaldjnnfkdohaaProg
import Derived.Test.YtgaldjnnfkdohaaFwJ
set_option linter.unusedVariables false
namespace Go.Proofs.Ytgaldjnnfkdohaa
open Go Go.Fw
structure api_Type where
  Kind : Int
  Class : ByteArray
deriving DecidableEq
structure api_Instr where
  Op : Int
  N : Int
  K : Int
  S : ByteArray
  Class : ByteArray
  Name : ByteArray
  Desc : ByteArray
deriving DecidableEq
structure api_Handler where
  From : Int
  To : Int
  At : Int
  Catch : ByteArray
deriving DecidableEq
structure api_Method where
  Name : ByteArray
  Params : (List api_Type)
  Ret : api_Type
  Static : Bool
  Abstract : Bool
  Locals : Int
  Code : (List api_Instr)
  Handlers : (List api_Handler)
deriving DecidableEq
instance : GoData 3 Int := ⟨1, fun _ x cs => cs = [.int .i64 x], by rintro K x cs rfl; rfl, fun _ h => h, by rintro K x cs rfl; rfl⟩
instance : GoZero 3 Int := ⟨0, [.int .i64 0], fun K => rfl⟩
instance : GoFlat 3 Int := ⟨fun h => h⟩
instance : GoData 4 Bool := ⟨1, fun _ x cs => cs = [.bool x], by rintro K x cs rfl; rfl, fun _ h => h, by rintro K x cs rfl; rfl⟩
instance : GoZero 4 Bool := ⟨false, [.bool false], fun K => rfl⟩
instance : GoFlat 4 Bool := ⟨fun h => h⟩
instance : GoData 5 Int := ⟨1, fun _ x cs => cs = [.int .u8 x], by rintro K x cs rfl; rfl, fun _ h => h, by rintro K x cs rfl; rfl⟩
instance : GoZero 5 Int := ⟨0, [.int .u8 0], fun K => rfl⟩
instance : GoFlat 5 Int := ⟨fun h => h⟩
instance : GoData 9 ByteArray := ⟨1, fun _ x cs => cs = [.string x], by rintro K x cs rfl; rfl, fun _ h => h, by rintro K x cs rfl; rfl⟩
instance : GoZero 9 ByteArray := ⟨⟨#[]⟩, [.string ⟨#[]⟩], fun K => rfl⟩
instance : GoFlat 9 ByteArray := ⟨fun h => h⟩
instance : GoData 21 Int := ⟨1, fun _ x cs => cs = [.int .i32 x], by rintro K x cs rfl; rfl, fun _ h => h, by rintro K x cs rfl; rfl⟩
instance : GoZero 21 Int := ⟨0, [.int .i32 0], fun K => rfl⟩
instance : GoFlat 21 Int := ⟨fun h => h⟩
instance : GoData 24 (List Int) := ⟨1, fun K x cs => ∃ a0 c0, cs = [.slice a0 x.length c0] ∧ SlK 3 K a0 c0 x, by rintro K x cs ⟨a0, c0, rfl, h0⟩; rfl, by rintro K K' x cs hk ⟨a0, c0, rfl, h0⟩; exact ⟨a0, c0, rfl, h0.mono hk⟩, by rintro K x cs ⟨a0, c0, rfl, h0⟩; rfl⟩
instance : GoZero 24 (List Int) := ⟨[], [.slice none 0 0], fun K => ⟨none, 0, rfl, SlK.nil⟩⟩
instance : GoData 63 api_Type := ⟨2, fun _ x cs => cs = [.int .i64 x.Kind, .string x.Class], by rintro K x cs rfl; rfl, fun _ h => h, by rintro K x cs rfl; rfl⟩
instance : GoZero 63 api_Type := ⟨(api_Type.mk 0 ⟨#[]⟩), [.int .i64 0, .string ⟨#[]⟩], fun K => rfl⟩
instance : GoFlat 63 api_Type := ⟨fun h => h⟩
instance : GoData 61 (List api_Type) := ⟨1, fun K x cs => ∃ a0 c0, cs = [.slice a0 x.length c0] ∧ SlK 63 K a0 c0 x, by rintro K x cs ⟨a0, c0, rfl, h0⟩; rfl, by rintro K K' x cs hk ⟨a0, c0, rfl, h0⟩; exact ⟨a0, c0, rfl, h0.mono hk⟩, by rintro K x cs ⟨a0, c0, rfl, h0⟩; rfl⟩
instance : GoZero 61 (List api_Type) := ⟨[], [.slice none 0 0], fun K => ⟨none, 0, rfl, SlK.nil⟩⟩
instance : GoData 77 api_Instr := ⟨7, fun _ x cs => cs = [.int .i64 x.Op, .int .i32 x.N, .int .i64 x.K, .string x.S, .string x.Class, .string x.Name, .string x.Desc], by rintro K x cs rfl; rfl, fun _ h => h, by rintro K x cs rfl; rfl⟩
instance : GoZero 77 api_Instr := ⟨(api_Instr.mk 0 0 0 ⟨#[]⟩ ⟨#[]⟩ ⟨#[]⟩ ⟨#[]⟩), [.int .i64 0, .int .i32 0, .int .i64 0, .string ⟨#[]⟩, .string ⟨#[]⟩, .string ⟨#[]⟩, .string ⟨#[]⟩], fun K => rfl⟩
instance : GoFlat 77 api_Instr := ⟨fun h => h⟩
instance : GoData 64 (List api_Instr) := ⟨1, fun K x cs => ∃ a0 c0, cs = [.slice a0 x.length c0] ∧ SlK 77 K a0 c0 x, by rintro K x cs ⟨a0, c0, rfl, h0⟩; rfl, by rintro K K' x cs hk ⟨a0, c0, rfl, h0⟩; exact ⟨a0, c0, rfl, h0.mono hk⟩, by rintro K x cs ⟨a0, c0, rfl, h0⟩; rfl⟩
instance : GoZero 64 (List api_Instr) := ⟨[], [.slice none 0 0], fun K => ⟨none, 0, rfl, SlK.nil⟩⟩
instance : GoData 92 api_Handler := ⟨4, fun _ x cs => cs = [.int .i64 x.From, .int .i64 x.To, .int .i64 x.At, .string x.Catch], by rintro K x cs rfl; rfl, fun _ h => h, by rintro K x cs rfl; rfl⟩
instance : GoZero 92 api_Handler := ⟨(api_Handler.mk 0 0 0 ⟨#[]⟩), [.int .i64 0, .int .i64 0, .int .i64 0, .string ⟨#[]⟩], fun K => rfl⟩
instance : GoFlat 92 api_Handler := ⟨fun h => h⟩
instance : GoData 65 (List api_Handler) := ⟨1, fun K x cs => ∃ a0 c0, cs = [.slice a0 x.length c0] ∧ SlK 92 K a0 c0 x, by rintro K x cs ⟨a0, c0, rfl, h0⟩; rfl, by rintro K K' x cs hk ⟨a0, c0, rfl, h0⟩; exact ⟨a0, c0, rfl, h0.mono hk⟩, by rintro K x cs ⟨a0, c0, rfl, h0⟩; rfl⟩
instance : GoZero 65 (List api_Handler) := ⟨[], [.slice none 0 0], fun K => ⟨none, 0, rfl, SlK.nil⟩⟩
instance : GoData 67 api_Method := ⟨9, fun K x cs => ∃ a0 c0 a1 c1 a2 c2, cs = [.string x.Name, .slice a0 x.Params.length c0, .int .i64 x.Ret.Kind, .string x.Ret.Class, .bool x.Static, .bool x.Abstract, .int .i64 x.Locals, .slice a1 x.Code.length c1, .slice a2 x.Handlers.length c2] ∧ SlK 63 K a0 c0 x.Params ∧ SlK 77 K a1 c1 x.Code ∧ SlK 92 K a2 c2 x.Handlers, by rintro K x cs ⟨a0, c0, a1, c1, a2, c2, rfl, h0, h1, h2⟩; rfl, by rintro K K' x cs hk ⟨a0, c0, a1, c1, a2, c2, rfl, h0, h1, h2⟩; exact ⟨a0, c0, a1, c1, a2, c2, rfl, h0.mono hk, h1.mono hk, h2.mono hk⟩, by rintro K x cs ⟨a0, c0, a1, c1, a2, c2, rfl, h0, h1, h2⟩; rfl⟩
instance : GoZero 67 api_Method := ⟨(api_Method.mk ⟨#[]⟩ [] (api_Type.mk 0 ⟨#[]⟩) false false 0 [] []), [.string ⟨#[]⟩, .slice none 0 0, .int .i64 0, .string ⟨#[]⟩, .bool false, .bool false, .int .i64 0, .slice none 0 0, .slice none 0 0], fun K => ⟨none, 0, none, 0, none, 0, rfl, SlK.nil, SlK.nil, SlK.nil⟩⟩
instance : GoData 82 (List (List api_Instr)) := ⟨1, fun K x cs => ∃ a0 c0, cs = [.slice a0 x.length c0] ∧ SlK 64 K a0 c0 x, by rintro K x cs ⟨a0, c0, rfl, h0⟩; rfl, by rintro K K' x cs hk ⟨a0, c0, rfl, h0⟩; exact ⟨a0, c0, rfl, h0.mono hk⟩, by rintro K x cs ⟨a0, c0, rfl, h0⟩; rfl⟩
instance : GoZero 82 (List (List api_Instr)) := ⟨[], [.slice none 0 0], fun K => ⟨none, 0, rfl, SlK.nil⟩⟩
def tab : Tab := [
  (3, ⟨.int .i64, 1, 8, [.int .i64 0], false, [], 0, 0, [], false⟩),
  (4, ⟨.bool, 1, 1, [.bool false], false, [], 0, 0, [], false⟩),
  (5, ⟨.int .u8, 1, 1, [.int .u8 0], false, [], 0, 0, [], false⟩),
  (9, ⟨.string, 1, 16, [.string ⟨#[]⟩], false, [], 0, 0, [], false⟩),
  (21, ⟨.int .i32, 1, 4, [.int .i32 0], false, [], 0, 0, [], false⟩),
  (24, ⟨.slice 3, 1, 24, [.slice none 0 0], false, [], 1, 8, [.int .i64 0], false⟩),
  (61, ⟨.slice 63, 1, 24, [.slice none 0 0], false, [], 2, 24, [.int .i64 0, .string ⟨#[]⟩], true⟩),
  (63, ⟨.struct, 2, 24, [.int .i64 0, .string ⟨#[]⟩], true, [(0, 1, false), (1, 1, false)], 0, 0, [], false⟩),
  (64, ⟨.slice 77, 1, 24, [.slice none 0 0], false, [], 7, 88, [.int .i64 0, .int .i32 0, .int .i64 0, .string ⟨#[]⟩, .string ⟨#[]⟩, .string ⟨#[]⟩, .string ⟨#[]⟩], true⟩),
  (65, ⟨.slice 92, 1, 24, [.slice none 0 0], false, [], 4, 40, [.int .i64 0, .int .i64 0, .int .i64 0, .string ⟨#[]⟩], true⟩),
  (67, ⟨.struct, 9, 128, [.string ⟨#[]⟩, .slice none 0 0, .int .i64 0, .string ⟨#[]⟩, .bool false, .bool false, .int .i64 0, .slice none 0 0, .slice none 0 0], true, [(0, 1, false), (1, 1, false), (2, 2, true), (4, 1, false), (5, 1, false), (6, 1, false), (7, 1, false), (8, 1, false)], 0, 0, [], false⟩),
  (77, ⟨.struct, 7, 88, [.int .i64 0, .int .i32 0, .int .i64 0, .string ⟨#[]⟩, .string ⟨#[]⟩, .string ⟨#[]⟩, .string ⟨#[]⟩], true, [(0, 1, false), (1, 1, false), (2, 1, false), (3, 1, false), (4, 1, false), (5, 1, false), (6, 1, false)], 0, 0, [], false⟩),
  (82, ⟨.slice 64, 1, 24, [.slice none 0 0], false, [], 1, 24, [.slice none 0 0], false⟩),
  (92, ⟨.struct, 4, 40, [.int .i64 0, .int .i64 0, .int .i64 0, .string ⟨#[]⟩], true, [(0, 1, false), (1, 1, false), (2, 1, false), (3, 1, false)], 0, 0, [], false⟩)]
instance : TabC Try.prog tab := ⟨⟨by kernel_rfl, by kernel_rfl, by kernel_rfl, by kernel_rfl, by kernel_rfl, by kernel_rfl, by kernel_rfl, by kernel_rfl, by kernel_rfl, by kernel_rfl, by kernel_rfl, by kernel_rfl, by kernel_rfl, by kernel_rfl, trivial⟩, by kernel_rfl⟩
end Go.Proofs.Ytgaldjnnfkdohaa
