/-
  No cell of these rows narrows 'for every input' (looked for: loops, veiled, ifaces, maps, wideKeys, modest, calm, conditions, laid).
  DERIVED. THE GIVEN ROWS OF THIS SEAT. 9 by the template 'for every input the law returns true; each argument reads behind the call as it read before'; 0 by the template 'total and deterministic' (their statements: YtheedjgpfpghbaaGreatTotals.lean).
  GIVEN WITH THE SEED: the statements are not yours to turn. If you find one false, say at which input.
  Laid BY PROGRAM, IN A SANDBOX (cutbox-rows.mjs): the forced cells as the released guide's own fill.sh prints them over the translation 8ff0ba071769cd21… (all of the seat's roots in one cut). By AI agents, Wed Nov 11 2026. No macro, syntax, notation, axiom, sorry.
-/
import Derived.Test.YtheedjgpfpghbaaGreatChecked
import GoSem.Claim
import GoSem.ClaimJoined
import GoSem.ClaimMapViews
import Derived.JoinedTies
import Derived.KernelRfl
namespace Go.Proofs.YtheedjgpfpghbaaGreat
/- THE CELL 'sum', in the pinned program and in every row, IS THE sha256 OF THE DUMP (.gsa) THAT YtheedjgpfpghbaaGreatProg.lean LOADS. Nothing in Lean hashes anything: it is a label: what it is worth is what the hold of that sum in a sandbox is worth. -/
noncomputable def Tryz.pinned : Pinned := { name := "ytheedjgpfpghbaagreat", sum := "8ff0ba071769cd213b9a4a1adb52e0980dd6dd39225e5f2c313f833e9e6a5ab0", checked := Tryz.checked }
namespace Rows
def none {H : Type} : Left H := { results := [], args := [] }

/-- 'bonsailaw12.FrameJoins': WHATEVER THE INPUT: true; the input reads as it did. -/
def frameJoinsSpec : ChangeSpec := { name := "frameJoins", fn := fun _ => fun
  | [d1, d2, d3, d4, d5, d6, d7, d8, d9] => { results := [.lit (.bool true)], args := [d1, d2, d3, d4, d5, d6, d7, d8, d9] }
  | _ => none }
def frameJoinsRow : OpenClaim := { program := "ytheedjgpfpghbaagreat", sum := "8ff0ba071769cd213b9a4a1adb52e0980dd6dd39225e5f2c313f833e9e6a5ab0", func := "bonsai/bonsailaw12.FrameJoins", spec := "frameJoins", inPlace := ["internal/bytealg.IndexByteString", "internal/bytealg.IndexString", "internal/abi.NoEscape"], unfollowed := true, recurses := true, named := ["internal/bytealg.MaxLen"], plainKeys := false, apart := false }
def FrameJoinsSaid : Prop := frameJoinsRow.holds Tryz.pinned (OpenSpec.ofChange frameJoinsSpec)

/-- ITS FALSE NEIGHBOUR: 'it returns false'. Refute it at one input. -/
def frameJoinsWrong : ChangeSpec := { name := "frameJoins", fn := fun _ => fun
  | [d1, d2, d3, d4, d5, d6, d7, d8, d9] => { results := [.lit (.bool false)], args := [d1, d2, d3, d4, d5, d6, d7, d8, d9] }
  | _ => none }
def FrameJoinsWrongFalsely : Prop := frameJoinsRow.holds Tryz.pinned (OpenSpec.ofChange frameJoinsWrong)

/-- 'bonsailaw12.FrameLocals': WHATEVER THE INPUT: true; the input reads as it did. -/
def frameLocalsSpec : ChangeSpec := { name := "frameLocals", fn := fun _ => fun
  | [d1, d2, d3, d4, d5] => { results := [.lit (.bool true)], args := [d1, d2, d3, d4, d5] }
  | _ => none }
def frameLocalsRow : OpenClaim := { program := "ytheedjgpfpghbaagreat", sum := "8ff0ba071769cd213b9a4a1adb52e0980dd6dd39225e5f2c313f833e9e6a5ab0", func := "bonsai/bonsailaw12.FrameLocals", spec := "frameLocals", inPlace := ["internal/bytealg.IndexByteString", "internal/bytealg.IndexString", "internal/abi.NoEscape"], unfollowed := true, recurses := true, named := ["internal/bytealg.MaxLen"], plainKeys := false, apart := false }
def FrameLocalsSaid : Prop := frameLocalsRow.holds Tryz.pinned (OpenSpec.ofChange frameLocalsSpec)

/-- ITS FALSE NEIGHBOUR: 'it returns false'. Refute it at one input. -/
def frameLocalsWrong : ChangeSpec := { name := "frameLocals", fn := fun _ => fun
  | [d1, d2, d3, d4, d5] => { results := [.lit (.bool false)], args := [d1, d2, d3, d4, d5] }
  | _ => none }
def FrameLocalsWrongFalsely : Prop := frameLocalsRow.holds Tryz.pinned (OpenSpec.ofChange frameLocalsWrong)

/-- 'bonsailaw12.FrameReturns': WHATEVER THE INPUT: true; the input reads as it did. -/
def frameReturnsSpec : ChangeSpec := { name := "frameReturns", fn := fun _ => fun
  | [d1, d2, d3, d4, d5] => { results := [.lit (.bool true)], args := [d1, d2, d3, d4, d5] }
  | _ => none }
def frameReturnsRow : OpenClaim := { program := "ytheedjgpfpghbaagreat", sum := "8ff0ba071769cd213b9a4a1adb52e0980dd6dd39225e5f2c313f833e9e6a5ab0", func := "bonsai/bonsailaw12.FrameReturns", spec := "frameReturns", inPlace := ["internal/bytealg.IndexByteString", "internal/bytealg.IndexString", "internal/abi.NoEscape"], unfollowed := true, recurses := true, named := ["internal/bytealg.MaxLen"], plainKeys := false, apart := false }
def FrameReturnsSaid : Prop := frameReturnsRow.holds Tryz.pinned (OpenSpec.ofChange frameReturnsSpec)

/-- ITS FALSE NEIGHBOUR: 'it returns false'. Refute it at one input. -/
def frameReturnsWrong : ChangeSpec := { name := "frameReturns", fn := fun _ => fun
  | [d1, d2, d3, d4, d5] => { results := [.lit (.bool false)], args := [d1, d2, d3, d4, d5] }
  | _ => none }
def FrameReturnsWrongFalsely : Prop := frameReturnsRow.holds Tryz.pinned (OpenSpec.ofChange frameReturnsWrong)

/-- 'bonsailaw18.RtaMentions': WHATEVER THE INPUT: true; the input reads as it did. -/
def rtaMentionsSpec : ChangeSpec := { name := "rtaMentions", fn := fun _ => fun
  | [d1, d2] => { results := [.lit (.bool true)], args := [d1, d2] }
  | _ => none }
def rtaMentionsRow : OpenClaim := { program := "ytheedjgpfpghbaagreat", sum := "8ff0ba071769cd213b9a4a1adb52e0980dd6dd39225e5f2c313f833e9e6a5ab0", func := "bonsai/bonsailaw18.RtaMentions", spec := "rtaMentions", inPlace := ["internal/abi.NoEscape"], unfollowed := true, recurses := true, plainKeys := false, apart := false }
def RtaMentionsSaid : Prop := rtaMentionsRow.holds Tryz.pinned (OpenSpec.ofChange rtaMentionsSpec)

/-- ITS FALSE NEIGHBOUR: 'it returns false'. Refute it at one input. -/
def rtaMentionsWrong : ChangeSpec := { name := "rtaMentions", fn := fun _ => fun
  | [d1, d2] => { results := [.lit (.bool false)], args := [d1, d2] }
  | _ => none }
def RtaMentionsWrongFalsely : Prop := rtaMentionsRow.holds Tryz.pinned (OpenSpec.ofChange rtaMentionsWrong)

/-- 'bonsailaw13.FlowLoops': WHATEVER THE INPUT: true; the input reads as it did. -/
def flowLoopsSpec : ChangeSpec := { name := "flowLoops", fn := fun _ => fun
  | [d1, d2, d3] => { results := [.lit (.bool true)], args := [d1, d2, d3] }
  | _ => none }
def flowLoopsRow : OpenClaim := { program := "ytheedjgpfpghbaagreat", sum := "8ff0ba071769cd213b9a4a1adb52e0980dd6dd39225e5f2c313f833e9e6a5ab0", func := "bonsai/bonsailaw13.FlowLoops", spec := "flowLoops", inPlace := ["slices.overlaps[int]", "internal/bytealg.IndexByteString", "internal/bytealg.IndexString", "internal/abi.NoEscape"], unfollowed := true, recurses := true, named := ["internal/bytealg.MaxLen"], plainKeys := false, apart := false }
def FlowLoopsSaid : Prop := flowLoopsRow.holds Tryz.pinned (OpenSpec.ofChange flowLoopsSpec)

/-- ITS FALSE NEIGHBOUR: 'it returns false'. Refute it at one input. -/
def flowLoopsWrong : ChangeSpec := { name := "flowLoops", fn := fun _ => fun
  | [d1, d2, d3] => { results := [.lit (.bool false)], args := [d1, d2, d3] }
  | _ => none }
def FlowLoopsWrongFalsely : Prop := flowLoopsRow.holds Tryz.pinned (OpenSpec.ofChange flowLoopsWrong)

/-- 'bonsailaw13.FlowMerges': WHATEVER THE INPUT: true; the input reads as it did. -/
def flowMergesSpec : ChangeSpec := { name := "flowMerges", fn := fun _ => fun
  | [d1, d2, d3, d4] => { results := [.lit (.bool true)], args := [d1, d2, d3, d4] }
  | _ => none }
def flowMergesRow : OpenClaim := { program := "ytheedjgpfpghbaagreat", sum := "8ff0ba071769cd213b9a4a1adb52e0980dd6dd39225e5f2c313f833e9e6a5ab0", func := "bonsai/bonsailaw13.FlowMerges", spec := "flowMerges", inPlace := ["slices.overlaps[int]", "internal/bytealg.IndexByteString", "internal/bytealg.IndexString", "internal/abi.NoEscape"], unfollowed := true, recurses := true, named := ["internal/bytealg.MaxLen"], plainKeys := false, apart := false }
def FlowMergesSaid : Prop := flowMergesRow.holds Tryz.pinned (OpenSpec.ofChange flowMergesSpec)

/-- ITS FALSE NEIGHBOUR: 'it returns false'. Refute it at one input. -/
def flowMergesWrong : ChangeSpec := { name := "flowMerges", fn := fun _ => fun
  | [d1, d2, d3, d4] => { results := [.lit (.bool false)], args := [d1, d2, d3, d4] }
  | _ => none }
def FlowMergesWrongFalsely : Prop := flowMergesRow.holds Tryz.pinned (OpenSpec.ofChange flowMergesWrong)

/-- 'bonsailaw13.FlowCaught': WHATEVER THE INPUT: true; the input reads as it did. -/
def flowCaughtSpec : ChangeSpec := { name := "flowCaught", fn := fun _ => fun
  | [d1, d2] => { results := [.lit (.bool true)], args := [d1, d2] }
  | _ => none }
def flowCaughtRow : OpenClaim := { program := "ytheedjgpfpghbaagreat", sum := "8ff0ba071769cd213b9a4a1adb52e0980dd6dd39225e5f2c313f833e9e6a5ab0", func := "bonsai/bonsailaw13.FlowCaught", spec := "flowCaught", inPlace := ["slices.overlaps[int]", "internal/bytealg.IndexByteString", "internal/bytealg.IndexString", "internal/abi.NoEscape"], unfollowed := true, recurses := true, named := ["internal/bytealg.MaxLen"], plainKeys := false, apart := false }
def FlowCaughtSaid : Prop := flowCaughtRow.holds Tryz.pinned (OpenSpec.ofChange flowCaughtSpec)

/-- ITS FALSE NEIGHBOUR: 'it returns false'. Refute it at one input. -/
def flowCaughtWrong : ChangeSpec := { name := "flowCaught", fn := fun _ => fun
  | [d1, d2] => { results := [.lit (.bool false)], args := [d1, d2] }
  | _ => none }
def FlowCaughtWrongFalsely : Prop := flowCaughtRow.holds Tryz.pinned (OpenSpec.ofChange flowCaughtWrong)

/-- 'bonsailaw23.InlineOne': WHATEVER THE INPUT: true; the input reads as it did. -/
def inlineOneSpec : ChangeSpec := { name := "inlineOne", fn := fun _ => fun
  | [d1, d2, d3, d4] => { results := [.lit (.bool true)], args := [d1, d2, d3, d4] }
  | _ => none }
def inlineOneRow : OpenClaim := { program := "ytheedjgpfpghbaagreat", sum := "8ff0ba071769cd213b9a4a1adb52e0980dd6dd39225e5f2c313f833e9e6a5ab0", func := "bonsai/bonsailaw23.InlineOne", spec := "inlineOne", inPlace := ["slices.overlaps[int]", "internal/bytealg.IndexByteString", "internal/bytealg.IndexString", "internal/abi.NoEscape"], unfollowed := true, recurses := true, named := ["internal/bytealg.MaxLen"], plainKeys := false, apart := false }
def InlineOneSaid : Prop := inlineOneRow.holds Tryz.pinned (OpenSpec.ofChange inlineOneSpec)

/-- ITS FALSE NEIGHBOUR: 'it returns false'. Refute it at one input. -/
def inlineOneWrong : ChangeSpec := { name := "inlineOne", fn := fun _ => fun
  | [d1, d2, d3, d4] => { results := [.lit (.bool false)], args := [d1, d2, d3, d4] }
  | _ => none }
def InlineOneWrongFalsely : Prop := inlineOneRow.holds Tryz.pinned (OpenSpec.ofChange inlineOneWrong)

/-- 'bonsailaw23.InlineNot': WHATEVER THE INPUT: true; the input reads as it did. -/
def inlineNotSpec : ChangeSpec := { name := "inlineNot", fn := fun _ => fun
  | [d1, d2] => { results := [.lit (.bool true)], args := [d1, d2] }
  | _ => none }
def inlineNotRow : OpenClaim := { program := "ytheedjgpfpghbaagreat", sum := "8ff0ba071769cd213b9a4a1adb52e0980dd6dd39225e5f2c313f833e9e6a5ab0", func := "bonsai/bonsailaw23.InlineNot", spec := "inlineNot", inPlace := ["slices.overlaps[int]", "internal/bytealg.IndexByteString", "internal/bytealg.IndexString", "internal/abi.NoEscape"], unfollowed := true, recurses := true, named := ["internal/bytealg.MaxLen"], plainKeys := false, apart := false }
def InlineNotSaid : Prop := inlineNotRow.holds Tryz.pinned (OpenSpec.ofChange inlineNotSpec)

/-- ITS FALSE NEIGHBOUR: 'it returns false'. Refute it at one input. -/
def inlineNotWrong : ChangeSpec := { name := "inlineNot", fn := fun _ => fun
  | [d1, d2] => { results := [.lit (.bool false)], args := [d1, d2] }
  | _ => none }
def InlineNotWrongFalsely : Prop := inlineNotRow.holds Tryz.pinned (OpenSpec.ofChange inlineNotWrong)

/- THE SECOND FORM. 'bulk': how many values and letters a reading holds, each counted each time it is reached (what is shared counts as often as it is met; a slice's spare places count too). A statement '..UptoSaid' is the law's where the arguments, and the package variables that the reading takes, are together of bulk at most 1048576: NARROWER than '..Said'. Prove '..Said' where nothing that the law and all that it calls make is longer than what came in: it says more and counts as full. Else prove '..UptoSaid'. A law counts once. -/
mutual
def uptoBulk {H : Type} : DataW H → Nat
  | .lit (.string bytes) => bytes.length + 1
  | .lit _ => 1
  | .nil => 1
  | .ptr d => uptoBulk d + 1
  | .slice elems spare => uptoBulkAll elems + uptoBulkAll spare + 1
  | .agg parts => uptoBulkAll parts + 1
  | .iface _ d => uptoBulk d + 1
  | .map entries => uptoBulkEntries entries + 1
  | .held _ => 1
def uptoBulkAll {H : Type} : List (DataW H) → Nat
  | [] => 0
  | d :: r => uptoBulk d + uptoBulkAll r
def uptoBulkEntries {H : Type} : List (Lit × DataW H) → Nat
  | [] => 0
  | x :: r => uptoBulkEntry x + uptoBulkEntries r
def uptoBulkEntry {H : Type} : Lit × DataW H → Nat
  | (.string bytes, d) => bytes.length + uptoBulk d + 1
  | (_, d) => uptoBulk d + 1
 end
def uptoSmall : (H : Type) → List (DataW H) → Bool := fun _ ds => decide (uptoBulkAll ds ≤ 1048576)
def OpenSpec.upto (s : _root_.Go.ChangeSpec) : _root_.Go.OpenSpec := { _root_.Go.OpenSpec.ofChange s with cond := some uptoSmall }

/-- 'bonsailaw12.FrameJoins', WHERE WHAT IT READS IS OF BULK AT MOST 1048576: true; the input reads as it did. -/
def frameJoinsUptoRow : OpenClaim := { program := "ytheedjgpfpghbaagreat", sum := "8ff0ba071769cd213b9a4a1adb52e0980dd6dd39225e5f2c313f833e9e6a5ab0", func := "bonsai/bonsailaw12.FrameJoins", spec := "frameJoins", inPlace := ["internal/bytealg.IndexByteString", "internal/bytealg.IndexString", "internal/abi.NoEscape"], unfollowed := true, recurses := true, named := ["internal/bytealg.MaxLen"], plainKeys := false, apart := false, narrowed := true }
def FrameJoinsUptoSaid : Prop := frameJoinsUptoRow.holds Tryz.pinned (OpenSpec.upto frameJoinsSpec)

/-- 'bonsailaw12.FrameLocals', WHERE WHAT IT READS IS OF BULK AT MOST 1048576: true; the input reads as it did. -/
def frameLocalsUptoRow : OpenClaim := { program := "ytheedjgpfpghbaagreat", sum := "8ff0ba071769cd213b9a4a1adb52e0980dd6dd39225e5f2c313f833e9e6a5ab0", func := "bonsai/bonsailaw12.FrameLocals", spec := "frameLocals", inPlace := ["internal/bytealg.IndexByteString", "internal/bytealg.IndexString", "internal/abi.NoEscape"], unfollowed := true, recurses := true, named := ["internal/bytealg.MaxLen"], plainKeys := false, apart := false, narrowed := true }
def FrameLocalsUptoSaid : Prop := frameLocalsUptoRow.holds Tryz.pinned (OpenSpec.upto frameLocalsSpec)

/-- 'bonsailaw12.FrameReturns', WHERE WHAT IT READS IS OF BULK AT MOST 1048576: true; the input reads as it did. -/
def frameReturnsUptoRow : OpenClaim := { program := "ytheedjgpfpghbaagreat", sum := "8ff0ba071769cd213b9a4a1adb52e0980dd6dd39225e5f2c313f833e9e6a5ab0", func := "bonsai/bonsailaw12.FrameReturns", spec := "frameReturns", inPlace := ["internal/bytealg.IndexByteString", "internal/bytealg.IndexString", "internal/abi.NoEscape"], unfollowed := true, recurses := true, named := ["internal/bytealg.MaxLen"], plainKeys := false, apart := false, narrowed := true }
def FrameReturnsUptoSaid : Prop := frameReturnsUptoRow.holds Tryz.pinned (OpenSpec.upto frameReturnsSpec)

/-- 'bonsailaw18.RtaMentions', WHERE WHAT IT READS IS OF BULK AT MOST 1048576: true; the input reads as it did. -/
def rtaMentionsUptoRow : OpenClaim := { program := "ytheedjgpfpghbaagreat", sum := "8ff0ba071769cd213b9a4a1adb52e0980dd6dd39225e5f2c313f833e9e6a5ab0", func := "bonsai/bonsailaw18.RtaMentions", spec := "rtaMentions", inPlace := ["internal/abi.NoEscape"], unfollowed := true, recurses := true, plainKeys := false, apart := false, narrowed := true }
def RtaMentionsUptoSaid : Prop := rtaMentionsUptoRow.holds Tryz.pinned (OpenSpec.upto rtaMentionsSpec)

/-- 'bonsailaw13.FlowLoops', WHERE WHAT IT READS IS OF BULK AT MOST 1048576: true; the input reads as it did. -/
def flowLoopsUptoRow : OpenClaim := { program := "ytheedjgpfpghbaagreat", sum := "8ff0ba071769cd213b9a4a1adb52e0980dd6dd39225e5f2c313f833e9e6a5ab0", func := "bonsai/bonsailaw13.FlowLoops", spec := "flowLoops", inPlace := ["slices.overlaps[int]", "internal/bytealg.IndexByteString", "internal/bytealg.IndexString", "internal/abi.NoEscape"], unfollowed := true, recurses := true, named := ["internal/bytealg.MaxLen"], plainKeys := false, apart := false, narrowed := true }
def FlowLoopsUptoSaid : Prop := flowLoopsUptoRow.holds Tryz.pinned (OpenSpec.upto flowLoopsSpec)

/-- 'bonsailaw13.FlowMerges', WHERE WHAT IT READS IS OF BULK AT MOST 1048576: true; the input reads as it did. -/
def flowMergesUptoRow : OpenClaim := { program := "ytheedjgpfpghbaagreat", sum := "8ff0ba071769cd213b9a4a1adb52e0980dd6dd39225e5f2c313f833e9e6a5ab0", func := "bonsai/bonsailaw13.FlowMerges", spec := "flowMerges", inPlace := ["slices.overlaps[int]", "internal/bytealg.IndexByteString", "internal/bytealg.IndexString", "internal/abi.NoEscape"], unfollowed := true, recurses := true, named := ["internal/bytealg.MaxLen"], plainKeys := false, apart := false, narrowed := true }
def FlowMergesUptoSaid : Prop := flowMergesUptoRow.holds Tryz.pinned (OpenSpec.upto flowMergesSpec)

/-- 'bonsailaw13.FlowCaught', WHERE WHAT IT READS IS OF BULK AT MOST 1048576: true; the input reads as it did. -/
def flowCaughtUptoRow : OpenClaim := { program := "ytheedjgpfpghbaagreat", sum := "8ff0ba071769cd213b9a4a1adb52e0980dd6dd39225e5f2c313f833e9e6a5ab0", func := "bonsai/bonsailaw13.FlowCaught", spec := "flowCaught", inPlace := ["slices.overlaps[int]", "internal/bytealg.IndexByteString", "internal/bytealg.IndexString", "internal/abi.NoEscape"], unfollowed := true, recurses := true, named := ["internal/bytealg.MaxLen"], plainKeys := false, apart := false, narrowed := true }
def FlowCaughtUptoSaid : Prop := flowCaughtUptoRow.holds Tryz.pinned (OpenSpec.upto flowCaughtSpec)

/-- 'bonsailaw23.InlineOne', WHERE WHAT IT READS IS OF BULK AT MOST 1048576: true; the input reads as it did. -/
def inlineOneUptoRow : OpenClaim := { program := "ytheedjgpfpghbaagreat", sum := "8ff0ba071769cd213b9a4a1adb52e0980dd6dd39225e5f2c313f833e9e6a5ab0", func := "bonsai/bonsailaw23.InlineOne", spec := "inlineOne", inPlace := ["slices.overlaps[int]", "internal/bytealg.IndexByteString", "internal/bytealg.IndexString", "internal/abi.NoEscape"], unfollowed := true, recurses := true, named := ["internal/bytealg.MaxLen"], plainKeys := false, apart := false, narrowed := true }
def InlineOneUptoSaid : Prop := inlineOneUptoRow.holds Tryz.pinned (OpenSpec.upto inlineOneSpec)

/-- 'bonsailaw23.InlineNot', WHERE WHAT IT READS IS OF BULK AT MOST 1048576: true; the input reads as it did. -/
def inlineNotUptoRow : OpenClaim := { program := "ytheedjgpfpghbaagreat", sum := "8ff0ba071769cd213b9a4a1adb52e0980dd6dd39225e5f2c313f833e9e6a5ab0", func := "bonsai/bonsailaw23.InlineNot", spec := "inlineNot", inPlace := ["slices.overlaps[int]", "internal/bytealg.IndexByteString", "internal/bytealg.IndexString", "internal/abi.NoEscape"], unfollowed := true, recurses := true, named := ["internal/bytealg.MaxLen"], plainKeys := false, apart := false, narrowed := true }
def InlineNotUptoSaid : Prop := inlineNotUptoRow.holds Tryz.pinned (OpenSpec.upto inlineNotSpec)

end Rows
end Go.Proofs.YtheedjgpfpghbaaGreat
