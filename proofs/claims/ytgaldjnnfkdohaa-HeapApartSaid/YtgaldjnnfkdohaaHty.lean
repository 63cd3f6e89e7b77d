/- The types of the program, and how they lie in memory. -/
import Derived.Test.YtgaldjnnfkdohaaProg
import Derived.Test.YtgaldjnnfkdohaaFwN
set_option linter.unusedVariables false
namespace Go.Proofs.Ytgaldjnnfkdohaa
open Go Go.Fw
structure bonsailaw15_Act where
  What : Int
  Ref : Int
  I : Int
  N : Int
  Raw : Int
deriving DecidableEq
structure heap_Value where
  N : Int
  S : ByteArray
  Ref : Int
deriving DecidableEq
structure bonsairef15_Value where
  N : Int
  S : ByteArray
  Ref : Int
deriving DecidableEq
structure api_Type where
  Kind : Int
  Class : ByteArray
deriving DecidableEq
structure api_Field where
  Name : ByteArray
  Type_ : api_Type
  Static : Bool
deriving DecidableEq
structure bonsairef15_thing where
  class_ : ByteArray
  l_ : (List bonsairef15_Value)
deriving DecidableEq
structure bonsairef15_Heap where
  Most : Int
  Used : Int
  L : (List bonsairef15_thing)
deriving DecidableEq
structure heap_thing where
  class_ : ByteArray
  values_ : (List heap_Value)
deriving DecidableEq
structure heap_Heap where
  l_ : (List heap_thing)
  used_ : Int
  most_ : Int
deriving DecidableEq
instance : GoData 3 Int := ⟨1, fun _ x cs => cs = [.int .i64 x], by rintro K x cs rfl; rfl, fun _ h => h, by rintro K x cs rfl; rfl⟩
instance : GoZero 3 Int := ⟨0, [.int .i64 0], fun K => rfl⟩
instance : GoFlat 3 Int := ⟨fun h => h⟩
instance : GoData 4 Bool := ⟨1, fun _ x cs => cs = [.bool x], by rintro K x cs rfl; rfl, fun _ h => h, by rintro K x cs rfl; rfl⟩
instance : GoZero 4 Bool := ⟨false, [.bool false], fun K => rfl⟩
instance : GoFlat 4 Bool := ⟨fun h => h⟩
instance : GoData 5 Int := ⟨1, fun _ x cs => cs = [.int .u8 x], by rintro K x cs rfl; rfl, fun _ h => h, by rintro K x cs rfl; rfl⟩
instance : GoZero 5 Int := ⟨0, [.int .u8 0], fun K => rfl⟩
instance : GoFlat 5 Int := ⟨fun h => h⟩
instance : GoData 9 ByteArray := ⟨1, fun _ x cs => cs = [.string x], by rintro K x cs rfl; rfl, fun _ h => h, by rintro K x cs rfl; rfl⟩
instance : GoZero 9 ByteArray := ⟨⟨#[]⟩, [.string ⟨#[]⟩], fun K => rfl⟩
instance : GoFlat 9 ByteArray := ⟨fun h => h⟩
instance : GoData 21 Int := ⟨1, fun _ x cs => cs = [.int .i32 x], by rintro K x cs rfl; rfl, fun _ h => h, by rintro K x cs rfl; rfl⟩
instance : GoZero 21 Int := ⟨0, [.int .i32 0], fun K => rfl⟩
instance : GoFlat 21 Int := ⟨fun h => h⟩
instance : GoData 30 bonsailaw15_Act := ⟨5, fun _ x cs => cs = [.int .u8 x.What, .int .u8 x.Ref, .int .u8 x.I, .int .u8 x.N, .int .i32 x.Raw], by rintro K x cs rfl; rfl, fun _ h => h, by rintro K x cs rfl; rfl⟩
instance : GoZero 30 bonsailaw15_Act := ⟨(bonsailaw15_Act.mk 0 0 0 0 0), [.int .u8 0, .int .u8 0, .int .u8 0, .int .u8 0, .int .i32 0], fun K => rfl⟩
instance : GoFlat 30 bonsailaw15_Act := ⟨fun h => h⟩
instance : GoData 22 (List bonsailaw15_Act) := ⟨1, fun K x cs => ∃ a0 c0, cs = [.slice a0 x.length c0] ∧ SlK 30 K a0 c0 x, by rintro K x cs ⟨a0, c0, rfl, h0⟩; rfl, by rintro K K' x cs hk ⟨a0, c0, rfl, h0⟩; exact ⟨a0, c0, rfl, h0.mono hk⟩, by rintro K x cs ⟨a0, c0, rfl, h0⟩; rfl⟩
instance : GoZero 22 (List bonsailaw15_Act) := ⟨[], [.slice none 0 0], fun K => ⟨none, 0, rfl, SlK.nil⟩⟩
instance : GoData 24 (List Int) := ⟨1, fun K x cs => ∃ a0 c0, cs = [.slice a0 x.length c0] ∧ SlK 3 K a0 c0 x, by rintro K x cs ⟨a0, c0, rfl, h0⟩; rfl, by rintro K K' x cs hk ⟨a0, c0, rfl, h0⟩; exact ⟨a0, c0, rfl, h0.mono hk⟩, by rintro K x cs ⟨a0, c0, rfl, h0⟩; rfl⟩
instance : GoZero 24 (List Int) := ⟨[], [.slice none 0 0], fun K => ⟨none, 0, rfl, SlK.nil⟩⟩
instance : GoData 32 heap_Value := ⟨3, fun _ x cs => cs = [.int .i32 x.N, .string x.S, .int .i64 x.Ref], by rintro K x cs rfl; rfl, fun _ h => h, by rintro K x cs rfl; rfl⟩
instance : GoZero 32 heap_Value := ⟨(heap_Value.mk 0 ⟨#[]⟩ 0), [.int .i32 0, .string ⟨#[]⟩, .int .i64 0], fun K => rfl⟩
instance : GoFlat 32 heap_Value := ⟨fun h => h⟩
instance : GoData 33 bonsairef15_Value := ⟨3, fun _ x cs => cs = [.int .i32 x.N, .string x.S, .int .i64 x.Ref], by rintro K x cs rfl; rfl, fun _ h => h, by rintro K x cs rfl; rfl⟩
instance : GoZero 33 bonsairef15_Value := ⟨(bonsairef15_Value.mk 0 ⟨#[]⟩ 0), [.int .i32 0, .string ⟨#[]⟩, .int .i64 0], fun K => rfl⟩
instance : GoFlat 33 bonsairef15_Value := ⟨fun h => h⟩
instance : GoData 63 api_Type := ⟨2, fun _ x cs => cs = [.int .i64 x.Kind, .string x.Class], by rintro K x cs rfl; rfl, fun _ h => h, by rintro K x cs rfl; rfl⟩
instance : GoZero 63 api_Type := ⟨(api_Type.mk 0 ⟨#[]⟩), [.int .i64 0, .string ⟨#[]⟩], fun K => rfl⟩
instance : GoFlat 63 api_Type := ⟨fun h => h⟩
instance : GoData 97 api_Field := ⟨4, fun _ x cs => cs = [.string x.Name, .int .i64 x.Type_.Kind, .string x.Type_.Class, .bool x.Static], by rintro K x cs rfl; rfl, fun _ h => h, by rintro K x cs rfl; rfl⟩
instance : GoZero 97 api_Field := ⟨(api_Field.mk ⟨#[]⟩ (api_Type.mk 0 ⟨#[]⟩) false), [.string ⟨#[]⟩, .int .i64 0, .string ⟨#[]⟩, .bool false], fun K => rfl⟩
instance : GoFlat 97 api_Field := ⟨fun h => h⟩
instance : GoData 36 (List api_Field) := ⟨1, fun K x cs => ∃ a0 c0, cs = [.slice a0 x.length c0] ∧ SlK 97 K a0 c0 x, by rintro K x cs ⟨a0, c0, rfl, h0⟩; rfl, by rintro K K' x cs hk ⟨a0, c0, rfl, h0⟩; exact ⟨a0, c0, rfl, h0.mono hk⟩, by rintro K x cs ⟨a0, c0, rfl, h0⟩; rfl⟩
instance : GoZero 36 (List api_Field) := ⟨[], [.slice none 0 0], fun K => ⟨none, 0, rfl, SlK.nil⟩⟩
instance : GoData 106 (List bonsairef15_Value) := ⟨1, fun K x cs => ∃ a0 c0, cs = [.slice a0 x.length c0] ∧ SlK 33 K a0 c0 x, by rintro K x cs ⟨a0, c0, rfl, h0⟩; rfl, by rintro K K' x cs hk ⟨a0, c0, rfl, h0⟩; exact ⟨a0, c0, rfl, h0.mono hk⟩, by rintro K x cs ⟨a0, c0, rfl, h0⟩; rfl⟩
instance : GoZero 106 (List bonsairef15_Value) := ⟨[], [.slice none 0 0], fun K => ⟨none, 0, rfl, SlK.nil⟩⟩
instance : GoData 108 bonsairef15_thing := ⟨2, fun K x cs => ∃ a0 c0, cs = [.string x.class_, .slice a0 x.l_.length c0] ∧ SlK 33 K a0 c0 x.l_, by rintro K x cs ⟨a0, c0, rfl, h0⟩; rfl, by rintro K K' x cs hk ⟨a0, c0, rfl, h0⟩; exact ⟨a0, c0, rfl, h0.mono hk⟩, by rintro K x cs ⟨a0, c0, rfl, h0⟩; rfl⟩
instance : GoZero 108 bonsairef15_thing := ⟨(bonsairef15_thing.mk ⟨#[]⟩ []), [.string ⟨#[]⟩, .slice none 0 0], fun K => ⟨none, 0, rfl, SlK.nil⟩⟩
instance : GoData 47 (List bonsairef15_thing) := ⟨1, fun K x cs => ∃ a0 c0, cs = [.slice a0 x.length c0] ∧ SlK 108 K a0 c0 x, by rintro K x cs ⟨a0, c0, rfl, h0⟩; rfl, by rintro K K' x cs hk ⟨a0, c0, rfl, h0⟩; exact ⟨a0, c0, rfl, h0.mono hk⟩, by rintro K x cs ⟨a0, c0, rfl, h0⟩; rfl⟩
instance : GoZero 47 (List bonsairef15_thing) := ⟨[], [.slice none 0 0], fun K => ⟨none, 0, rfl, SlK.nil⟩⟩
instance : GoData 49 bonsairef15_Heap := ⟨3, fun K x cs => ∃ a0 c0, cs = [.int .i64 x.Most, .int .i64 x.Used, .slice a0 x.L.length c0] ∧ SlK 108 K a0 c0 x.L, by rintro K x cs ⟨a0, c0, rfl, h0⟩; rfl, by rintro K K' x cs hk ⟨a0, c0, rfl, h0⟩; exact ⟨a0, c0, rfl, h0.mono hk⟩, by rintro K x cs ⟨a0, c0, rfl, h0⟩; rfl⟩
instance : GoZero 49 bonsairef15_Heap := ⟨(bonsairef15_Heap.mk 0 0 []), [.int .i64 0, .int .i64 0, .slice none 0 0], fun K => ⟨none, 0, rfl, SlK.nil⟩⟩
instance : GoData 55 (List Int) := ⟨1, fun K x cs => ∃ a0 c0, cs = [.slice a0 x.length c0] ∧ SlK 5 K a0 c0 x, by rintro K x cs ⟨a0, c0, rfl, h0⟩; rfl, by rintro K K' x cs hk ⟨a0, c0, rfl, h0⟩; exact ⟨a0, c0, rfl, h0.mono hk⟩, by rintro K x cs ⟨a0, c0, rfl, h0⟩; rfl⟩
instance : GoZero 55 (List Int) := ⟨[], [.slice none 0 0], fun K => ⟨none, 0, rfl, SlK.nil⟩⟩
instance : GoData 57 (List heap_Value) := ⟨1, fun K x cs => ∃ a0 c0, cs = [.slice a0 x.length c0] ∧ SlK 32 K a0 c0 x, by rintro K x cs ⟨a0, c0, rfl, h0⟩; rfl, by rintro K K' x cs hk ⟨a0, c0, rfl, h0⟩; exact ⟨a0, c0, rfl, h0.mono hk⟩, by rintro K x cs ⟨a0, c0, rfl, h0⟩; rfl⟩
instance : GoZero 57 (List heap_Value) := ⟨[], [.slice none 0 0], fun K => ⟨none, 0, rfl, SlK.nil⟩⟩
instance : GoData 59 (List Int) := ⟨1, fun K x cs => ∃ a0 c0, cs = [.slice a0 x.length c0] ∧ SlK 21 K a0 c0 x, by rintro K x cs ⟨a0, c0, rfl, h0⟩; rfl, by rintro K K' x cs hk ⟨a0, c0, rfl, h0⟩; exact ⟨a0, c0, rfl, h0.mono hk⟩, by rintro K x cs ⟨a0, c0, rfl, h0⟩; rfl⟩
instance : GoZero 59 (List Int) := ⟨[], [.slice none 0 0], fun K => ⟨none, 0, rfl, SlK.nil⟩⟩
instance : GoData 105 heap_thing := ⟨2, fun K x cs => ∃ a0 c0, cs = [.string x.class_, .slice a0 x.values_.length c0] ∧ SlK 32 K a0 c0 x.values_, by rintro K x cs ⟨a0, c0, rfl, h0⟩; rfl, by rintro K K' x cs hk ⟨a0, c0, rfl, h0⟩; exact ⟨a0, c0, rfl, h0.mono hk⟩, by rintro K x cs ⟨a0, c0, rfl, h0⟩; rfl⟩
instance : GoZero 105 heap_thing := ⟨(heap_thing.mk ⟨#[]⟩ []), [.string ⟨#[]⟩, .slice none 0 0], fun K => ⟨none, 0, rfl, SlK.nil⟩⟩
instance : GoData 98 (List heap_thing) := ⟨1, fun K x cs => ∃ a0 c0, cs = [.slice a0 x.length c0] ∧ SlK 105 K a0 c0 x, by rintro K x cs ⟨a0, c0, rfl, h0⟩; rfl, by rintro K K' x cs hk ⟨a0, c0, rfl, h0⟩; exact ⟨a0, c0, rfl, h0.mono hk⟩, by rintro K x cs ⟨a0, c0, rfl, h0⟩; rfl⟩
instance : GoZero 98 (List heap_thing) := ⟨[], [.slice none 0 0], fun K => ⟨none, 0, rfl, SlK.nil⟩⟩
instance : GoData 100 heap_Heap := ⟨3, fun K x cs => ∃ a0 c0, cs = [.slice a0 x.l_.length c0, .int .i64 x.used_, .int .i64 x.most_] ∧ SlK 105 K a0 c0 x.l_, by rintro K x cs ⟨a0, c0, rfl, h0⟩; rfl, by rintro K K' x cs hk ⟨a0, c0, rfl, h0⟩; exact ⟨a0, c0, rfl, h0.mono hk⟩, by rintro K x cs ⟨a0, c0, rfl, h0⟩; rfl⟩
instance : GoZero 100 heap_Heap := ⟨(heap_Heap.mk [] 0 0), [.slice none 0 0, .int .i64 0, .int .i64 0], fun K => ⟨none, 0, rfl, SlK.nil⟩⟩
def D105 : Dm heap_thing := ⟨2, fun K x cs C => ∃ a c, cs = [.string x.class_, .slice a x.values_.length c] ∧ OwnS 32 K (.slice a x.values_.length c) x.values_ C, by rintro K x cs C ⟨a, c, rfl, _⟩; rfl, by rintro K K' x cs C hk ⟨a, c, rfl, h⟩; exact ⟨a, c, rfl, h.mono hk⟩, by rintro K x cs C ⟨a, c, rfl, _⟩; rfl⟩
def D108 : Dm bonsairef15_thing := ⟨2, fun K x cs C => ∃ a c, cs = [.string x.class_, .slice a x.l_.length c] ∧ OwnS 33 K (.slice a x.l_.length c) x.l_ C, by rintro K x cs C ⟨a, c, rfl, _⟩; rfl, by rintro K K' x cs C hk ⟨a, c, rfl, h⟩; exact ⟨a, c, rfl, h.mono hk⟩, by rintro K x cs C ⟨a, c, rfl, _⟩; rfl⟩
abbrev vv30 (x : bonsailaw15_Act) : List Value := [.int .u8 x.What, .int .u8 x.Ref, .int .u8 x.I, .int .u8 x.N, .int .i32 x.Raw]
abbrev vv32 (x : heap_Value) : List Value := [.int .i32 x.N, .string x.S, .int .i64 x.Ref]
abbrev vv33 (x : bonsairef15_Value) : List Value := [.int .i32 x.N, .string x.S, .int .i64 x.Ref]
abbrev vv49 (x : bonsairef15_Heap) (a0 : Option Addr) (c0 : Nat) : List Value := [.int .i64 x.Most, .int .i64 x.Used, .slice a0 x.L.length c0]
abbrev vv100 (x : heap_Heap) (a0 : Option Addr) (c0 : Nat) : List Value := [.slice a0 x.l_.length c0, .int .i64 x.used_, .int .i64 x.most_]
abbrev vv105 (x : heap_thing) (a0 : Option Addr) (c0 : Nat) : List Value := [.string x.class_, .slice a0 x.values_.length c0]
abbrev vv108 (x : bonsairef15_thing) (a0 : Option Addr) (c0 : Nat) : List Value := [.string x.class_, .slice a0 x.l_.length c0]
def tab : Tab := [
  (3, ⟨.int .i64, 1, 8, [.int .i64 0], false, [], 0, 0, [], false⟩),
  (4, ⟨.bool, 1, 1, [.bool false], false, [], 0, 0, [], false⟩),
  (5, ⟨.int .u8, 1, 1, [.int .u8 0], false, [], 0, 0, [], false⟩),
  (9, ⟨.string, 1, 16, [.string ⟨#[]⟩], false, [], 0, 0, [], false⟩),
  (21, ⟨.int .i32, 1, 4, [.int .i32 0], false, [], 0, 0, [], false⟩),
  (22, ⟨.slice 30, 1, 24, [.slice none 0 0], false, [], 5, 8, [.int .u8 0, .int .u8 0, .int .u8 0, .int .u8 0, .int .i32 0], true⟩),
  (24, ⟨.slice 3, 1, 24, [.slice none 0 0], false, [], 1, 8, [.int .i64 0], false⟩),
  (25, ⟨.pointer 100, 1, 8, [.pointer none], false, [], 0, 0, [], false⟩),
  (27, ⟨.pointer 49, 1, 8, [.pointer none], false, [], 0, 0, [], false⟩),
  (30, ⟨.struct, 5, 8, [.int .u8 0, .int .u8 0, .int .u8 0, .int .u8 0, .int .i32 0], true, [(0, 1, false), (1, 1, false), (2, 1, false), (3, 1, false), (4, 1, false)], 0, 0, [], false⟩),
  (32, ⟨.struct, 3, 32, [.int .i32 0, .string ⟨#[]⟩, .int .i64 0], true, [(0, 1, false), (1, 1, false), (2, 1, false)], 0, 0, [], false⟩),
  (33, ⟨.struct, 3, 32, [.int .i32 0, .string ⟨#[]⟩, .int .i64 0], true, [(0, 1, false), (1, 1, false), (2, 1, false)], 0, 0, [], false⟩),
  (36, ⟨.slice 97, 1, 24, [.slice none 0 0], false, [], 4, 48, [.string ⟨#[]⟩, .int .i64 0, .string ⟨#[]⟩, .bool false], true⟩),
  (47, ⟨.slice 108, 1, 24, [.slice none 0 0], false, [], 2, 40, [.string ⟨#[]⟩, .slice none 0 0], true⟩),
  (49, ⟨.struct, 3, 40, [.int .i64 0, .int .i64 0, .slice none 0 0], true, [(0, 1, false), (1, 1, false), (2, 1, false)], 0, 0, [], false⟩),
  (55, ⟨.slice 5, 1, 24, [.slice none 0 0], false, [], 1, 1, [.int .u8 0], false⟩),
  (57, ⟨.slice 32, 1, 24, [.slice none 0 0], false, [], 3, 32, [.int .i32 0, .string ⟨#[]⟩, .int .i64 0], true⟩),
  (59, ⟨.slice 21, 1, 24, [.slice none 0 0], false, [], 1, 4, [.int .i32 0], false⟩),
  (63, ⟨.struct, 2, 24, [.int .i64 0, .string ⟨#[]⟩], true, [(0, 1, false), (1, 1, false)], 0, 0, [], false⟩),
  (97, ⟨.struct, 4, 48, [.string ⟨#[]⟩, .int .i64 0, .string ⟨#[]⟩, .bool false], true, [(0, 1, false), (1, 2, true), (3, 1, false)], 0, 0, [], false⟩),
  (98, ⟨.slice 105, 1, 24, [.slice none 0 0], false, [], 2, 40, [.string ⟨#[]⟩, .slice none 0 0], true⟩),
  (100, ⟨.struct, 3, 40, [.slice none 0 0, .int .i64 0, .int .i64 0], true, [(0, 1, false), (1, 1, false), (2, 1, false)], 0, 0, [], false⟩),
  (105, ⟨.struct, 2, 40, [.string ⟨#[]⟩, .slice none 0 0], true, [(0, 1, false), (1, 1, false)], 0, 0, [], false⟩),
  (106, ⟨.slice 33, 1, 24, [.slice none 0 0], false, [], 3, 32, [.int .i32 0, .string ⟨#[]⟩, .int .i64 0], true⟩),
  (108, ⟨.struct, 2, 40, [.string ⟨#[]⟩, .slice none 0 0], true, [(0, 1, false), (1, 1, false)], 0, 0, [], false⟩)]
instance : TabC Try.prog tab := ⟨⟨by kernel_rfl, by kernel_rfl, by kernel_rfl, by kernel_rfl, by kernel_rfl, by kernel_rfl, by kernel_rfl, by kernel_rfl, by kernel_rfl, by kernel_rfl, by kernel_rfl, by kernel_rfl, by kernel_rfl, by kernel_rfl, by kernel_rfl, by kernel_rfl, by kernel_rfl, by kernel_rfl, by kernel_rfl, by kernel_rfl, by kernel_rfl, by kernel_rfl, by kernel_rfl, by kernel_rfl, by kernel_rfl, trivial⟩, by kernel_rfl⟩
instance : GoOpen Try.prog 5 Int := ⟨fun n => (Lit.int .u8 n).wf = true, fun h => open_int' rfl rfl h⟩
instance : GoOpen Try.prog 21 Int := ⟨fun n => (Lit.int .i32 n).wf = true, fun h => open_int' rfl rfl h⟩
instance : GoOpen Try.prog 30 bonsailaw15_Act := ⟨fun x => GoOpen.wf Try.prog 5 x.What ∧ GoOpen.wf Try.prog 5 x.Ref ∧ GoOpen.wf Try.prog 5 x.I ∧ GoOpen.wf Try.prog 5 x.N ∧ GoOpen.wf Try.prog 21 x.Raw, fun {H enc w sp hd fuel cs z} h => by
  have hl := open_strlen (t := 30) rfl Try.underlying30 h
  match cs, hl with
  | [z0, z1, z2, z3, z4], _ =>
    obtain ⟨y0, h0, w0⟩ := open_fld (ft := 5) (α := Int) Try.underlying30 h 0 rfl rfl rfl
    replace h0 : GoData.cells 5 _ y0 [z0] := h0
    have e0 := h0
    cases e0
    obtain ⟨y1, h1, w1⟩ := open_fld (ft := 5) (α := Int) Try.underlying30 h 1 rfl rfl rfl
    replace h1 : GoData.cells 5 _ y1 [z1] := h1
    have e1 := h1
    cases e1
    obtain ⟨y2, h2, w2⟩ := open_fld (ft := 5) (α := Int) Try.underlying30 h 2 rfl rfl rfl
    replace h2 : GoData.cells 5 _ y2 [z2] := h2
    have e2 := h2
    cases e2
    obtain ⟨y3, h3, w3⟩ := open_fld (ft := 5) (α := Int) Try.underlying30 h 3 rfl rfl rfl
    replace h3 : GoData.cells 5 _ y3 [z3] := h3
    have e3 := h3
    cases e3
    obtain ⟨y4, h4, w4⟩ := open_fld (ft := 21) (α := Int) Try.underlying30 h 4 rfl rfl rfl
    replace h4 : GoData.cells 21 _ y4 [z4] := h4
    have e4 := h4
    cases e4
    exact ⟨⟨y0, y1, y2, y3, y4⟩, rfl, ⟨w0, w1, w2, w3, w4⟩⟩⟩
instance : GoOpen Try.prog 22 (List bonsailaw15_Act) := ⟨fun x => x.length ≤ maxLen ∧ ∀ y ∈ x, GoOpen.wf Try.prog 30 y, fun h => by obtain ⟨a, c, x, h1, h2, h3, h4⟩ := open_sl (e := 30) (α := bonsailaw15_Act) rfl rfl rfl rfl h; exact ⟨x, ⟨a, c, h1, h2⟩, h3, h4⟩⟩
instance : GoOpen Try.prog 55 (List Int) := ⟨fun x => x.length ≤ maxLen ∧ ∀ y ∈ x, GoOpen.wf Try.prog 5 y, fun h => by obtain ⟨a, c, x, h1, h2, h3, h4⟩ := open_sl (e := 5) (α := Int) rfl rfl rfl rfl h; exact ⟨x, ⟨a, c, h1, h2⟩, h3, h4⟩⟩
instance : GoOpen Try.prog 59 (List Int) := ⟨fun x => x.length ≤ maxLen ∧ ∀ y ∈ x, GoOpen.wf Try.prog 21 y, fun h => by obtain ⟨a, c, x, h1, h2, h3, h4⟩ := open_sl (e := 21) (α := Int) rfl rfl rfl rfl h; exact ⟨x, ⟨a, c, h1, h2⟩, h3, h4⟩⟩
theorem e32 : EqT Try.prog 32 [.int .i32, .string, .int .i64] := ⟨by kernel_rfl, by kernel_rfl, by kernel_rfl⟩
end Go.Proofs.Ytgaldjnnfkdohaa
