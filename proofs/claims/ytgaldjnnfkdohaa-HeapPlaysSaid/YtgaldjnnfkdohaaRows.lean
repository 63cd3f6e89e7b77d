/-
  No cell of these rows narrows 'for every input' (looked for: loops, veiled, ifaces, maps, wideKeys, modest, calm, conditions, laid).
  DERIVED. THE GIVEN ROWS OF THIS SEAT. 9 by the template 'for every input the law returns true; each argument reads behind the call as it read before'; 0 by the template 'total and deterministic' (their statements: YtgaldjnnfkdohaaTotals.lean).
  GIVEN WITH THE SEED: the statements are not yours to turn. If you find one false, say at which input.
  Laid BY PROGRAM, IN A SANDBOX (cutbox-rows.mjs): the forced cells as the released guide's own fill.sh prints them over the translation 82a765a75dfeb9e7… (all of the seat's roots in one cut). By AI agents, Wed Nov 11 2026. No macro, syntax, notation, axiom, sorry.
-/
import Derived.Test.YtgaldjnnfkdohaaChecked
import GoSem.Claim
import GoSem.ClaimJoined
import GoSem.ClaimMapViews
import Derived.JoinedTies
import Derived.KernelRfl
namespace Go.Proofs.Ytgaldjnnfkdohaa
/- THE CELL 'sum', in the pinned program and in every row, IS THE sha256 OF THE DUMP (.gsa) THAT YtgaldjnnfkdohaaProg.lean LOADS. Nothing in Lean hashes anything: it is a label: what it is worth is what the hold of that sum in a sandbox is worth. -/
noncomputable def Try.pinned : Pinned := { name := "ytgaldjnnfkdohaa", sum := "82a765a75dfeb9e7b495a5ed39add637c1f4c20d8f18fac7ff7c2ecb83d25749", checked := Try.checked }
namespace Rows
def none {H : Type} : Left H := { results := [], args := [] }

/-- 'bonsailaw15.HeapPlays': WHATEVER THE INPUT: true; the input reads as it did. -/
def heapPlaysSpec : ChangeSpec := { name := "heapPlays", fn := fun _ => fun
  | [d1, d2, d3] => { results := [.lit (.bool true)], args := [d1, d2, d3] }
  | _ => none }
def heapPlaysRow : OpenClaim := { program := "ytgaldjnnfkdohaa", sum := "82a765a75dfeb9e7b495a5ed39add637c1f4c20d8f18fac7ff7c2ecb83d25749", func := "bonsai/bonsailaw15.HeapPlays", spec := "heapPlays", apart := false }
def HeapPlaysSaid : Prop := heapPlaysRow.holds Try.pinned (OpenSpec.ofChange heapPlaysSpec)

/-- ITS FALSE NEIGHBOUR: 'it returns false'. Refute it at one input. -/
def heapPlaysWrong : ChangeSpec := { name := "heapPlays", fn := fun _ => fun
  | [d1, d2, d3] => { results := [.lit (.bool false)], args := [d1, d2, d3] }
  | _ => none }
def HeapPlaysWrongFalsely : Prop := heapPlaysRow.holds Try.pinned (OpenSpec.ofChange heapPlaysWrong)

/-- 'bonsailaw15.HeapRoom': WHATEVER THE INPUT: true; the input reads as it did. -/
def heapRoomSpec : ChangeSpec := { name := "heapRoom", fn := fun _ => fun
  | [d1, d2] => { results := [.lit (.bool true)], args := [d1, d2] }
  | _ => none }
def heapRoomRow : OpenClaim := { program := "ytgaldjnnfkdohaa", sum := "82a765a75dfeb9e7b495a5ed39add637c1f4c20d8f18fac7ff7c2ecb83d25749", func := "bonsai/bonsailaw15.HeapRoom", spec := "heapRoom", apart := false }
def HeapRoomSaid : Prop := heapRoomRow.holds Try.pinned (OpenSpec.ofChange heapRoomSpec)

/-- ITS FALSE NEIGHBOUR: 'it returns false'. Refute it at one input. -/
def heapRoomWrong : ChangeSpec := { name := "heapRoom", fn := fun _ => fun
  | [d1, d2] => { results := [.lit (.bool false)], args := [d1, d2] }
  | _ => none }
def HeapRoomWrongFalsely : Prop := heapRoomRow.holds Try.pinned (OpenSpec.ofChange heapRoomWrong)

/-- 'bonsailaw15.HeapApart': WHATEVER THE INPUT: true; the input reads as it did. -/
def heapApartSpec : ChangeSpec := { name := "heapApart", fn := fun _ => fun
  | [d1, d2] => { results := [.lit (.bool true)], args := [d1, d2] }
  | _ => none }
def heapApartRow : OpenClaim := { program := "ytgaldjnnfkdohaa", sum := "82a765a75dfeb9e7b495a5ed39add637c1f4c20d8f18fac7ff7c2ecb83d25749", func := "bonsai/bonsailaw15.HeapApart", spec := "heapApart", apart := false }
def HeapApartSaid : Prop := heapApartRow.holds Try.pinned (OpenSpec.ofChange heapApartSpec)

/-- ITS FALSE NEIGHBOUR: 'it returns false'. Refute it at one input. -/
def heapApartWrong : ChangeSpec := { name := "heapApart", fn := fun _ => fun
  | [d1, d2] => { results := [.lit (.bool false)], args := [d1, d2] }
  | _ => none }
def HeapApartWrongFalsely : Prop := heapApartRow.holds Try.pinned (OpenSpec.ofChange heapApartWrong)

/-- 'bonsailaw15.HeapStories': WHATEVER THE INPUT: true; the input reads as it did. -/
def heapStoriesSpec : ChangeSpec := { name := "heapStories", fn := fun _ => fun
  | [d1, d2, d3] => { results := [.lit (.bool true)], args := [d1, d2, d3] }
  | _ => none }
def heapStoriesRow : OpenClaim := { program := "ytgaldjnnfkdohaa", sum := "82a765a75dfeb9e7b495a5ed39add637c1f4c20d8f18fac7ff7c2ecb83d25749", func := "bonsai/bonsailaw15.HeapStories", spec := "heapStories", apart := false }
def HeapStoriesSaid : Prop := heapStoriesRow.holds Try.pinned (OpenSpec.ofChange heapStoriesSpec)

/-- ITS FALSE NEIGHBOUR: 'it returns false'. Refute it at one input. -/
def heapStoriesWrong : ChangeSpec := { name := "heapStories", fn := fun _ => fun
  | [d1, d2, d3] => { results := [.lit (.bool false)], args := [d1, d2, d3] }
  | _ => none }
def HeapStoriesWrongFalsely : Prop := heapStoriesRow.holds Try.pinned (OpenSpec.ofChange heapStoriesWrong)

/-- 'bonsailaw19.RewriteTells': WHATEVER THE INPUT: true; the input reads as it did. -/
def rewriteTellsSpec : ChangeSpec := { name := "rewriteTells", fn := fun _ => fun
  | [d1, d2, d3, d4, d5, d6] => { results := [.lit (.bool true)], args := [d1, d2, d3, d4, d5, d6] }
  | _ => none }
def rewriteTellsRow : OpenClaim := { program := "ytgaldjnnfkdohaa", sum := "82a765a75dfeb9e7b495a5ed39add637c1f4c20d8f18fac7ff7c2ecb83d25749", func := "bonsai/bonsailaw19.RewriteTells", spec := "rewriteTells", apart := false }
def RewriteTellsSaid : Prop := rewriteTellsRow.holds Try.pinned (OpenSpec.ofChange rewriteTellsSpec)

/-- ITS FALSE NEIGHBOUR: 'it returns false'. Refute it at one input. -/
def rewriteTellsWrong : ChangeSpec := { name := "rewriteTells", fn := fun _ => fun
  | [d1, d2, d3, d4, d5, d6] => { results := [.lit (.bool false)], args := [d1, d2, d3, d4, d5, d6] }
  | _ => none }
def RewriteTellsWrongFalsely : Prop := rewriteTellsRow.holds Try.pinned (OpenSpec.ofChange rewriteTellsWrong)

/-- 'bonsailaw19.RewriteLands': WHATEVER THE INPUT: true; the input reads as it did. -/
def rewriteLandsSpec : ChangeSpec := { name := "rewriteLands", fn := fun _ => fun
  | [d1, d2, d3, d4] => { results := [.lit (.bool true)], args := [d1, d2, d3, d4] }
  | _ => none }
def rewriteLandsRow : OpenClaim := { program := "ytgaldjnnfkdohaa", sum := "82a765a75dfeb9e7b495a5ed39add637c1f4c20d8f18fac7ff7c2ecb83d25749", func := "bonsai/bonsailaw19.RewriteLands", spec := "rewriteLands", apart := false }
def RewriteLandsSaid : Prop := rewriteLandsRow.holds Try.pinned (OpenSpec.ofChange rewriteLandsSpec)

/-- ITS FALSE NEIGHBOUR: 'it returns false'. Refute it at one input. -/
def rewriteLandsWrong : ChangeSpec := { name := "rewriteLands", fn := fun _ => fun
  | [d1, d2, d3, d4] => { results := [.lit (.bool false)], args := [d1, d2, d3, d4] }
  | _ => none }
def RewriteLandsWrongFalsely : Prop := rewriteLandsRow.holds Try.pinned (OpenSpec.ofChange rewriteLandsWrong)

/-- 'bonsailaw19.RewriteTwice': WHATEVER THE INPUT: true; the input reads as it did. -/
def rewriteTwiceSpec : ChangeSpec := { name := "rewriteTwice", fn := fun _ => fun
  | [d1, d2, d3, d4] => { results := [.lit (.bool true)], args := [d1, d2, d3, d4] }
  | _ => none }
def rewriteTwiceRow : OpenClaim := { program := "ytgaldjnnfkdohaa", sum := "82a765a75dfeb9e7b495a5ed39add637c1f4c20d8f18fac7ff7c2ecb83d25749", func := "bonsai/bonsailaw19.RewriteTwice", spec := "rewriteTwice", apart := false }
def RewriteTwiceSaid : Prop := rewriteTwiceRow.holds Try.pinned (OpenSpec.ofChange rewriteTwiceSpec)

/-- ITS FALSE NEIGHBOUR: 'it returns false'. Refute it at one input. -/
def rewriteTwiceWrong : ChangeSpec := { name := "rewriteTwice", fn := fun _ => fun
  | [d1, d2, d3, d4] => { results := [.lit (.bool false)], args := [d1, d2, d3, d4] }
  | _ => none }
def RewriteTwiceWrongFalsely : Prop := rewriteTwiceRow.holds Try.pinned (OpenSpec.ofChange rewriteTwiceWrong)

/-- 'bonsailaw19.RewriteFits': WHATEVER THE INPUT: true; the input reads as it did. -/
def rewriteFitsSpec : ChangeSpec := { name := "rewriteFits", fn := fun _ => fun
  | [d1, d2, d3] => { results := [.lit (.bool true)], args := [d1, d2, d3] }
  | _ => none }
def rewriteFitsRow : OpenClaim := { program := "ytgaldjnnfkdohaa", sum := "82a765a75dfeb9e7b495a5ed39add637c1f4c20d8f18fac7ff7c2ecb83d25749", func := "bonsai/bonsailaw19.RewriteFits", spec := "rewriteFits", apart := false }
def RewriteFitsSaid : Prop := rewriteFitsRow.holds Try.pinned (OpenSpec.ofChange rewriteFitsSpec)

/-- ITS FALSE NEIGHBOUR: 'it returns false'. Refute it at one input. -/
def rewriteFitsWrong : ChangeSpec := { name := "rewriteFits", fn := fun _ => fun
  | [d1, d2, d3] => { results := [.lit (.bool false)], args := [d1, d2, d3] }
  | _ => none }
def RewriteFitsWrongFalsely : Prop := rewriteFitsRow.holds Try.pinned (OpenSpec.ofChange rewriteFitsWrong)

/-- 'bonsailaw19.RewriteSame': WHATEVER THE INPUT: true; the input reads as it did. -/
def rewriteSameSpec : ChangeSpec := { name := "rewriteSame", fn := fun _ => fun
  | [d1, d2, d3, d4] => { results := [.lit (.bool true)], args := [d1, d2, d3, d4] }
  | _ => none }
def rewriteSameRow : OpenClaim := { program := "ytgaldjnnfkdohaa", sum := "82a765a75dfeb9e7b495a5ed39add637c1f4c20d8f18fac7ff7c2ecb83d25749", func := "bonsai/bonsailaw19.RewriteSame", spec := "rewriteSame", apart := false }
def RewriteSameSaid : Prop := rewriteSameRow.holds Try.pinned (OpenSpec.ofChange rewriteSameSpec)

/-- ITS FALSE NEIGHBOUR: 'it returns false'. Refute it at one input. -/
def rewriteSameWrong : ChangeSpec := { name := "rewriteSame", fn := fun _ => fun
  | [d1, d2, d3, d4] => { results := [.lit (.bool false)], args := [d1, d2, d3, d4] }
  | _ => none }
def RewriteSameWrongFalsely : Prop := rewriteSameRow.holds Try.pinned (OpenSpec.ofChange rewriteSameWrong)

/- THE SECOND FORM. 'bulk': how many values and letters a reading holds, each counted each time it is reached (what is shared counts as often as it is met; a slice's spare places count too). A statement '..UptoSaid' is the law's where the arguments, and the package variables that the reading takes, are together of bulk at most 1048576: NARROWER than '..Said'. Prove '..Said' where nothing that the law and all that it calls make is longer than what came in: it says more and counts as full. Else prove '..UptoSaid'. A law counts once. -/
mutual
def uptoBulk {H : Type} : DataW H → Nat
  | .lit (.string bytes) => bytes.length + 1
  | .lit _ => 1
  | .nil => 1
  | .ptr d => uptoBulk d + 1
  | .slice elems spare => uptoBulkAll elems + uptoBulkAll spare + 1
  | .agg parts => uptoBulkAll parts + 1
  | .iface _ d => uptoBulk d + 1
  | .map entries => uptoBulkEntries entries + 1
  | .held _ => 1
def uptoBulkAll {H : Type} : List (DataW H) → Nat
  | [] => 0
  | d :: r => uptoBulk d + uptoBulkAll r
def uptoBulkEntries {H : Type} : List (Lit × DataW H) → Nat
  | [] => 0
  | x :: r => uptoBulkEntry x + uptoBulkEntries r
def uptoBulkEntry {H : Type} : Lit × DataW H → Nat
  | (.string bytes, d) => bytes.length + uptoBulk d + 1
  | (_, d) => uptoBulk d + 1
 end
def uptoSmall : (H : Type) → List (DataW H) → Bool := fun _ ds => decide (uptoBulkAll ds ≤ 1048576)
def OpenSpec.upto (s : _root_.Go.ChangeSpec) : _root_.Go.OpenSpec := { _root_.Go.OpenSpec.ofChange s with cond := some uptoSmall }

/-- 'bonsailaw15.HeapPlays', WHERE WHAT IT READS IS OF BULK AT MOST 1048576: true; the input reads as it did. -/
def heapPlaysUptoRow : OpenClaim := { program := "ytgaldjnnfkdohaa", sum := "82a765a75dfeb9e7b495a5ed39add637c1f4c20d8f18fac7ff7c2ecb83d25749", func := "bonsai/bonsailaw15.HeapPlays", spec := "heapPlays", apart := false, narrowed := true }
def HeapPlaysUptoSaid : Prop := heapPlaysUptoRow.holds Try.pinned (OpenSpec.upto heapPlaysSpec)

/-- 'bonsailaw15.HeapRoom', WHERE WHAT IT READS IS OF BULK AT MOST 1048576: true; the input reads as it did. -/
def heapRoomUptoRow : OpenClaim := { program := "ytgaldjnnfkdohaa", sum := "82a765a75dfeb9e7b495a5ed39add637c1f4c20d8f18fac7ff7c2ecb83d25749", func := "bonsai/bonsailaw15.HeapRoom", spec := "heapRoom", apart := false, narrowed := true }
def HeapRoomUptoSaid : Prop := heapRoomUptoRow.holds Try.pinned (OpenSpec.upto heapRoomSpec)

/-- 'bonsailaw15.HeapApart', WHERE WHAT IT READS IS OF BULK AT MOST 1048576: true; the input reads as it did. -/
def heapApartUptoRow : OpenClaim := { program := "ytgaldjnnfkdohaa", sum := "82a765a75dfeb9e7b495a5ed39add637c1f4c20d8f18fac7ff7c2ecb83d25749", func := "bonsai/bonsailaw15.HeapApart", spec := "heapApart", apart := false, narrowed := true }
def HeapApartUptoSaid : Prop := heapApartUptoRow.holds Try.pinned (OpenSpec.upto heapApartSpec)

/-- 'bonsailaw15.HeapStories', WHERE WHAT IT READS IS OF BULK AT MOST 1048576: true; the input reads as it did. -/
def heapStoriesUptoRow : OpenClaim := { program := "ytgaldjnnfkdohaa", sum := "82a765a75dfeb9e7b495a5ed39add637c1f4c20d8f18fac7ff7c2ecb83d25749", func := "bonsai/bonsailaw15.HeapStories", spec := "heapStories", apart := false, narrowed := true }
def HeapStoriesUptoSaid : Prop := heapStoriesUptoRow.holds Try.pinned (OpenSpec.upto heapStoriesSpec)

/-- 'bonsailaw19.RewriteTells', WHERE WHAT IT READS IS OF BULK AT MOST 1048576: true; the input reads as it did. -/
def rewriteTellsUptoRow : OpenClaim := { program := "ytgaldjnnfkdohaa", sum := "82a765a75dfeb9e7b495a5ed39add637c1f4c20d8f18fac7ff7c2ecb83d25749", func := "bonsai/bonsailaw19.RewriteTells", spec := "rewriteTells", apart := false, narrowed := true }
def RewriteTellsUptoSaid : Prop := rewriteTellsUptoRow.holds Try.pinned (OpenSpec.upto rewriteTellsSpec)

/-- 'bonsailaw19.RewriteLands', WHERE WHAT IT READS IS OF BULK AT MOST 1048576: true; the input reads as it did. -/
def rewriteLandsUptoRow : OpenClaim := { program := "ytgaldjnnfkdohaa", sum := "82a765a75dfeb9e7b495a5ed39add637c1f4c20d8f18fac7ff7c2ecb83d25749", func := "bonsai/bonsailaw19.RewriteLands", spec := "rewriteLands", apart := false, narrowed := true }
def RewriteLandsUptoSaid : Prop := rewriteLandsUptoRow.holds Try.pinned (OpenSpec.upto rewriteLandsSpec)

/-- 'bonsailaw19.RewriteTwice', WHERE WHAT IT READS IS OF BULK AT MOST 1048576: true; the input reads as it did. -/
def rewriteTwiceUptoRow : OpenClaim := { program := "ytgaldjnnfkdohaa", sum := "82a765a75dfeb9e7b495a5ed39add637c1f4c20d8f18fac7ff7c2ecb83d25749", func := "bonsai/bonsailaw19.RewriteTwice", spec := "rewriteTwice", apart := false, narrowed := true }
def RewriteTwiceUptoSaid : Prop := rewriteTwiceUptoRow.holds Try.pinned (OpenSpec.upto rewriteTwiceSpec)

/-- 'bonsailaw19.RewriteFits', WHERE WHAT IT READS IS OF BULK AT MOST 1048576: true; the input reads as it did. -/
def rewriteFitsUptoRow : OpenClaim := { program := "ytgaldjnnfkdohaa", sum := "82a765a75dfeb9e7b495a5ed39add637c1f4c20d8f18fac7ff7c2ecb83d25749", func := "bonsai/bonsailaw19.RewriteFits", spec := "rewriteFits", apart := false, narrowed := true }
def RewriteFitsUptoSaid : Prop := rewriteFitsUptoRow.holds Try.pinned (OpenSpec.upto rewriteFitsSpec)

/-- 'bonsailaw19.RewriteSame', WHERE WHAT IT READS IS OF BULK AT MOST 1048576: true; the input reads as it did. -/
def rewriteSameUptoRow : OpenClaim := { program := "ytgaldjnnfkdohaa", sum := "82a765a75dfeb9e7b495a5ed39add637c1f4c20d8f18fac7ff7c2ecb83d25749", func := "bonsai/bonsailaw19.RewriteSame", spec := "rewriteSame", apart := false, narrowed := true }
def RewriteSameUptoSaid : Prop := rewriteSameUptoRow.holds Try.pinned (OpenSpec.upto rewriteSameSpec)

end Rows
end Go.Proofs.Ytgaldjnnfkdohaa
