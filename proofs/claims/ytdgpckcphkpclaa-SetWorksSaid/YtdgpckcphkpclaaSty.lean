/- The types of the program, and how they lie in memory. -/
import Derived.Test.YtdgpckcphkpclaaProg
import Derived.Test.YtdgpckcphkpclaaFwQ
set_option linter.unusedVariables false
namespace Go.Proofs.Ytdgpckcphkpclaa
open Go Go.Fw
structure bonsailaw7_Act where
  What : Int
  X : Int
deriving DecidableEq
instance : GoData 3 Int := ⟨1, fun _ x cs => cs = [.int .i64 x], by rintro K x cs rfl; rfl, fun _ h => h, by rintro K x cs rfl; rfl⟩
instance : GoZero 3 Int := ⟨0, [.int .i64 0], fun K => rfl⟩
instance : GoFlat 3 Int := ⟨fun h => h⟩
instance : GoData 4 Bool := ⟨1, fun _ x cs => cs = [.bool x], by rintro K x cs rfl; rfl, fun _ h => h, by rintro K x cs rfl; rfl⟩
instance : GoZero 4 Bool := ⟨false, [.bool false], fun K => rfl⟩
instance : GoFlat 4 Bool := ⟨fun h => h⟩
instance : GoData 5 Int := ⟨1, fun _ x cs => cs = [.int .u8 x], by rintro K x cs rfl; rfl, fun _ h => h, by rintro K x cs rfl; rfl⟩
instance : GoZero 5 Int := ⟨0, [.int .u8 0], fun K => rfl⟩
instance : GoFlat 5 Int := ⟨fun h => h⟩
instance : GoData 9 ByteArray := ⟨1, fun _ x cs => cs = [.string x], by rintro K x cs rfl; rfl, fun _ h => h, by rintro K x cs rfl; rfl⟩
instance : GoZero 9 ByteArray := ⟨⟨#[]⟩, [.string ⟨#[]⟩], fun K => rfl⟩
instance : GoFlat 9 ByteArray := ⟨fun h => h⟩
instance : GoData 22 (List ByteArray) := ⟨1, fun K x cs => ∃ a0 c0, cs = [.slice a0 x.length c0] ∧ SlK 9 K a0 c0 x, by rintro K x cs ⟨a0, c0, rfl, h0⟩; rfl, by rintro K K' x cs hk ⟨a0, c0, rfl, h0⟩; exact ⟨a0, c0, rfl, h0.mono hk⟩, by rintro K x cs ⟨a0, c0, rfl, h0⟩; rfl⟩
instance : GoZero 22 (List ByteArray) := ⟨[], [.slice none 0 0], fun K => ⟨none, 0, rfl, SlK.nil⟩⟩
instance : GoData 23 (List Int) := ⟨1, fun K x cs => ∃ a0 c0, cs = [.slice a0 x.length c0] ∧ SlK 3 K a0 c0 x, by rintro K x cs ⟨a0, c0, rfl, h0⟩; rfl, by rintro K K' x cs hk ⟨a0, c0, rfl, h0⟩; exact ⟨a0, c0, rfl, h0.mono hk⟩, by rintro K x cs ⟨a0, c0, rfl, h0⟩; rfl⟩
instance : GoZero 23 (List Int) := ⟨[], [.slice none 0 0], fun K => ⟨none, 0, rfl, SlK.nil⟩⟩
instance : GoData 44 bonsailaw7_Act := ⟨2, fun _ x cs => cs = [.int .u8 x.What, .int .i64 x.X], by rintro K x cs rfl; rfl, fun _ h => h, by rintro K x cs rfl; rfl⟩
instance : GoZero 44 bonsailaw7_Act := ⟨(bonsailaw7_Act.mk 0 0), [.int .u8 0, .int .i64 0], fun K => rfl⟩
instance : GoFlat 44 bonsailaw7_Act := ⟨fun h => h⟩
instance : GoData 40 (List bonsailaw7_Act) := ⟨1, fun K x cs => ∃ a0 c0, cs = [.slice a0 x.length c0] ∧ SlK 44 K a0 c0 x, by rintro K x cs ⟨a0, c0, rfl, h0⟩; rfl, by rintro K K' x cs hk ⟨a0, c0, rfl, h0⟩; exact ⟨a0, c0, rfl, h0.mono hk⟩, by rintro K x cs ⟨a0, c0, rfl, h0⟩; rfl⟩
instance : GoZero 40 (List bonsailaw7_Act) := ⟨[], [.slice none 0 0], fun K => ⟨none, 0, rfl, SlK.nil⟩⟩
instance : GoData 50 (List Int) := ⟨1, fun K x cs => ∃ a0 c0, cs = [.slice a0 x.length c0] ∧ SlK 5 K a0 c0 x, by rintro K x cs ⟨a0, c0, rfl, h0⟩; rfl, by rintro K K' x cs hk ⟨a0, c0, rfl, h0⟩; exact ⟨a0, c0, rfl, h0.mono hk⟩, by rintro K x cs ⟨a0, c0, rfl, h0⟩; rfl⟩
instance : GoZero 50 (List Int) := ⟨[], [.slice none 0 0], fun K => ⟨none, 0, rfl, SlK.nil⟩⟩
def tab : Tab := [
  (3, ⟨.int .i64, 1, 8, [.int .i64 0], false, [], 0, 0, [], false⟩),
  (4, ⟨.bool, 1, 1, [.bool false], false, [], 0, 0, [], false⟩),
  (5, ⟨.int .u8, 1, 1, [.int .u8 0], false, [], 0, 0, [], false⟩),
  (9, ⟨.string, 1, 16, [.string ⟨#[]⟩], false, [], 0, 0, [], false⟩),
  (22, ⟨.slice 9, 1, 24, [.slice none 0 0], false, [], 1, 16, [.string ⟨#[]⟩], false⟩),
  (23, ⟨.slice 3, 1, 24, [.slice none 0 0], false, [], 1, 8, [.int .i64 0], false⟩),
  (25, ⟨.pointer 59, 1, 8, [.pointer none], false, [], 0, 0, [], false⟩),
  (27, ⟨.pointer 62, 1, 8, [.pointer none], false, [], 0, 0, [], false⟩),
  (40, ⟨.slice 44, 1, 24, [.slice none 0 0], false, [], 2, 16, [.int .u8 0, .int .i64 0], true⟩),
  (41, ⟨.pointer 68, 1, 8, [.pointer none], false, [], 0, 0, [], false⟩),
  (44, ⟨.struct, 2, 16, [.int .u8 0, .int .i64 0], true, [(0, 1, false), (1, 1, false)], 0, 0, [], false⟩),
  (50, ⟨.slice 5, 1, 24, [.slice none 0 0], false, [], 1, 1, [.int .u8 0], false⟩),
  (52, ⟨.pointer 72, 1, 8, [.pointer none], false, [], 0, 0, [], false⟩),
  (57, ⟨.map 9 4, 1, 8, [.map none], false, [], 0, 0, [], false⟩),
  (59, ⟨.struct, 1, 8, [.map none], true, [(0, 1, false)], 0, 0, [], false⟩),
  (60, ⟨.map 3 4, 1, 8, [.map none], false, [], 0, 0, [], false⟩),
  (62, ⟨.struct, 1, 8, [.map none], true, [(0, 1, false)], 0, 0, [], false⟩),
  (68, ⟨.struct, 2, 32, [.slice none 0 0, .pointer none], true, [(0, 1, false), (1, 1, false)], 0, 0, [], false⟩),
  (72, ⟨.struct, 2, 32, [.slice none 0 0, .pointer none], true, [(0, 1, false), (1, 1, false)], 0, 0, [], false⟩)]
instance : TabC Try.prog tab := ⟨⟨by kernel_rfl, by kernel_rfl, by kernel_rfl, by kernel_rfl, by kernel_rfl, by kernel_rfl, by kernel_rfl, by kernel_rfl, by kernel_rfl, by kernel_rfl, by kernel_rfl, by kernel_rfl, by kernel_rfl, by kernel_rfl, by kernel_rfl, by kernel_rfl, by kernel_rfl, by kernel_rfl, by kernel_rfl, trivial⟩, by kernel_rfl⟩
instance : GoOpen Try.prog 9 ByteArray := ⟨fun x => x.size ≤ maxLen, fun h => open_str' rfl rfl h⟩
instance : GoOpen Try.prog 22 (List ByteArray) := ⟨fun x => x.length ≤ maxLen ∧ ∀ y ∈ x, GoOpen.wf Try.prog 9 y, fun h => by obtain ⟨a, c, x, h1, h2, h3, h4⟩ := open_sl (e := 9) (α := ByteArray) rfl rfl rfl rfl h; exact ⟨x, ⟨a, c, h1, h2⟩, h3, h4⟩⟩
instance : GoOpen Try.prog 3 Int := ⟨fun n => (Lit.int .i64 n).wf = true, fun h => open_int' rfl rfl h⟩
instance : GoOpen Try.prog 23 (List Int) := ⟨fun x => x.length ≤ maxLen ∧ ∀ y ∈ x, GoOpen.wf Try.prog 3 y, fun h => by obtain ⟨a, c, x, h1, h2, h3, h4⟩ := open_sl (e := 3) (α := Int) rfl rfl rfl rfl h; exact ⟨x, ⟨a, c, h1, h2⟩, h3, h4⟩⟩
instance : GoOpen Try.prog 5 Int := ⟨fun n => (Lit.int .u8 n).wf = true, fun h => open_int' rfl rfl h⟩
instance : GoOpen Try.prog 44 bonsailaw7_Act := ⟨fun x => GoOpen.wf Try.prog 5 x.What ∧ GoOpen.wf Try.prog 3 x.X, fun {H enc w sp hd fuel cs z} h => by
  have hl := open_strlen (t := 44) rfl Try.underlying44 h
  match cs, hl with
  | [z0, z1], _ =>
    obtain ⟨y0, h0, w0⟩ := open_fld (ft := 5) (α := Int) Try.underlying44 h 0 rfl rfl rfl
    replace h0 : GoData.cells 5 _ y0 [z0] := h0
    have e0 := h0
    cases e0
    obtain ⟨y1, h1, w1⟩ := open_fld (ft := 3) (α := Int) Try.underlying44 h 1 rfl rfl rfl
    replace h1 : GoData.cells 3 _ y1 [z1] := h1
    have e1 := h1
    cases e1
    exact ⟨⟨y0, y1⟩, rfl, ⟨w0, w1⟩⟩⟩
instance : GoOpen Try.prog 40 (List bonsailaw7_Act) := ⟨fun x => x.length ≤ maxLen ∧ ∀ y ∈ x, GoOpen.wf Try.prog 44 y, fun h => by obtain ⟨a, c, x, h1, h2, h3, h4⟩ := open_sl (e := 44) (α := bonsailaw7_Act) rfl rfl rfl rfl h; exact ⟨x, ⟨a, c, h1, h2⟩, h3, h4⟩⟩
instance : GoOpen Try.prog 50 (List Int) := ⟨fun x => x.length ≤ maxLen ∧ ∀ y ∈ x, GoOpen.wf Try.prog 5 y, fun h => by obtain ⟨a, c, x, h1, h2, h3, h4⟩ := open_sl (e := 5) (α := Int) rfl rfl rfl rfl h; exact ⟨x, ⟨a, c, h1, h2⟩, h3, h4⟩⟩
end Go.Proofs.Ytdgpckcphkpclaa
