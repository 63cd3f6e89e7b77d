/-
  No cell of these rows narrows 'for every input' (looked for: loops, veiled, ifaces, maps, wideKeys, modest, calm, conditions, laid).
  DERIVED. THE GIVEN ROWS OF THIS SEAT. 5 by the template 'for every input the law returns true; each argument reads behind the call as it read before'; 0 by the template 'total and deterministic' (their statements: YtdgpckcphkpclaaTotals.lean).
  GIVEN WITH THE SEED: the statements are not yours to turn. If you find one false, say at which input.
  Laid BY PROGRAM, IN A SANDBOX (cutbox-rows.mjs): the forced cells as the released guide's own fill.sh prints them over the translation 06b5244529ec92f8… (all of the seat's roots in one cut). By AI agents, Wed Nov 11 2026. No macro, syntax, notation, axiom, sorry.
-/
import Derived.Test.YtdgpckcphkpclaaChecked
import GoSem.Claim
import GoSem.ClaimJoined
import GoSem.ClaimMapViews
import Derived.JoinedTies
import Derived.KernelRfl
namespace Go.Proofs.Ytdgpckcphkpclaa
/- THE CELL 'sum', in the pinned program and in every row, IS THE sha256 OF THE DUMP (.gsa) THAT YtdgpckcphkpclaaProg.lean LOADS. Nothing in Lean hashes anything: it is a label: what it is worth is what the hold of that sum in a sandbox is worth. -/
noncomputable def Try.pinned : Pinned := { name := "ytdgpckcphkpclaa", sum := "06b5244529ec92f86dec6766337dbdeb3c297065d12a136af9e5914157409d21", checked := Try.checked }
namespace Rows
def none {H : Type} : Left H := { results := [], args := [] }

/-- 'bonsailaw7.SetTells': WHATEVER THE INPUT: true; the input reads as it did. -/
def setTellsSpec : ChangeSpec := { name := "setTells", fn := fun _ => fun
  | [d1, d2, d3, d4] => { results := [.lit (.bool true)], args := [d1, d2, d3, d4] }
  | _ => none }
def setTellsRow : OpenClaim := { program := "ytdgpckcphkpclaa", sum := "06b5244529ec92f86dec6766337dbdeb3c297065d12a136af9e5914157409d21", func := "bonsai/bonsailaw7.SetTells", spec := "setTells", inPlace := ["slices.overlaps[int]"], unfollowed := true, recurses := true, apart := false }
def SetTellsSaid : Prop := setTellsRow.holds Try.pinned (OpenSpec.ofChange setTellsSpec)

/-- ITS FALSE NEIGHBOUR: 'it returns false'. Refute it at one input. -/
def setTellsWrong : ChangeSpec := { name := "setTells", fn := fun _ => fun
  | [d1, d2, d3, d4] => { results := [.lit (.bool false)], args := [d1, d2, d3, d4] }
  | _ => none }
def SetTellsWrongFalsely : Prop := setTellsRow.holds Try.pinned (OpenSpec.ofChange setTellsWrong)

/-- 'bonsailaw7.SetWorks': WHATEVER THE INPUT: true; the input reads as it did. -/
def setWorksSpec : ChangeSpec := { name := "setWorks", fn := fun _ => fun
  | [d1, d2] => { results := [.lit (.bool true)], args := [d1, d2] }
  | _ => none }
def setWorksRow : OpenClaim := { program := "ytdgpckcphkpclaa", sum := "06b5244529ec92f86dec6766337dbdeb3c297065d12a136af9e5914157409d21", func := "bonsai/bonsailaw7.SetWorks", spec := "setWorks", inPlace := ["slices.overlaps[int]"], unfollowed := true, recurses := true, apart := false }
def SetWorksSaid : Prop := setWorksRow.holds Try.pinned (OpenSpec.ofChange setWorksSpec)

/-- ITS FALSE NEIGHBOUR: 'it returns false'. Refute it at one input. -/
def setWorksWrong : ChangeSpec := { name := "setWorks", fn := fun _ => fun
  | [d1, d2] => { results := [.lit (.bool false)], args := [d1, d2] }
  | _ => none }
def SetWorksWrongFalsely : Prop := setWorksRow.holds Try.pinned (OpenSpec.ofChange setWorksWrong)

/-- 'bonsailaw7.SetOrder': WHATEVER THE INPUT: true; the input reads as it did. -/
def setOrderSpec : ChangeSpec := { name := "setOrder", fn := fun _ => fun
  | [d1, d2] => { results := [.lit (.bool true)], args := [d1, d2] }
  | _ => none }
def setOrderRow : OpenClaim := { program := "ytdgpckcphkpclaa", sum := "06b5244529ec92f86dec6766337dbdeb3c297065d12a136af9e5914157409d21", func := "bonsai/bonsailaw7.SetOrder", spec := "setOrder", inPlace := ["slices.overlaps[int]"], unfollowed := true, recurses := true, apart := false }
def SetOrderSaid : Prop := setOrderRow.holds Try.pinned (OpenSpec.ofChange setOrderSpec)

/-- ITS FALSE NEIGHBOUR: 'it returns false'. Refute it at one input. -/
def setOrderWrong : ChangeSpec := { name := "setOrder", fn := fun _ => fun
  | [d1, d2] => { results := [.lit (.bool false)], args := [d1, d2] }
  | _ => none }
def SetOrderWrongFalsely : Prop := setOrderRow.holds Try.pinned (OpenSpec.ofChange setOrderWrong)

/-- 'bonsailaw7.SetDrains': WHATEVER THE INPUT: true; the input reads as it did. -/
def setDrainsSpec : ChangeSpec := { name := "setDrains", fn := fun _ => fun
  | [d1, d2] => { results := [.lit (.bool true)], args := [d1, d2] }
  | _ => none }
def setDrainsRow : OpenClaim := { program := "ytdgpckcphkpclaa", sum := "06b5244529ec92f86dec6766337dbdeb3c297065d12a136af9e5914157409d21", func := "bonsai/bonsailaw7.SetDrains", spec := "setDrains", inPlace := ["slices.overlaps[int]"], unfollowed := true, recurses := true, apart := false }
def SetDrainsSaid : Prop := setDrainsRow.holds Try.pinned (OpenSpec.ofChange setDrainsSpec)

/-- ITS FALSE NEIGHBOUR: 'it returns false'. Refute it at one input. -/
def setDrainsWrong : ChangeSpec := { name := "setDrains", fn := fun _ => fun
  | [d1, d2] => { results := [.lit (.bool false)], args := [d1, d2] }
  | _ => none }
def SetDrainsWrongFalsely : Prop := setDrainsRow.holds Try.pinned (OpenSpec.ofChange setDrainsWrong)

/-- 'bonsailaw7.SetTexts': WHATEVER THE INPUT: true; the input reads as it did. -/
def setTextsSpec : ChangeSpec := { name := "setTexts", fn := fun _ => fun
  | [d] => { results := [.lit (.bool true)], args := [d] }
  | _ => none }
def setTextsRow : OpenClaim := { program := "ytdgpckcphkpclaa", sum := "06b5244529ec92f86dec6766337dbdeb3c297065d12a136af9e5914157409d21", func := "bonsai/bonsailaw7.SetTexts", spec := "setTexts", inPlace := ["slices.overlaps[int]", "slices.overlaps[string]"], unfollowed := true, recurses := true, apart := false }
def SetTextsSaid : Prop := setTextsRow.holds Try.pinned (OpenSpec.ofChange setTextsSpec)

/-- ITS FALSE NEIGHBOUR: 'it returns false'. Refute it at one input. -/
def setTextsWrong : ChangeSpec := { name := "setTexts", fn := fun _ => fun
  | [d] => { results := [.lit (.bool false)], args := [d] }
  | _ => none }
def SetTextsWrongFalsely : Prop := setTextsRow.holds Try.pinned (OpenSpec.ofChange setTextsWrong)

/- THE SECOND FORM. 'bulk': how many values and letters a reading holds, each counted each time it is reached (what is shared counts as often as it is met; a slice's spare places count too). A statement '..UptoSaid' is the law's where the arguments, and the package variables that the reading takes, are together of bulk at most 1048576: NARROWER than '..Said'. Prove '..Said' where nothing that the law and all that it calls make is longer than what came in: it says more and counts as full. Else prove '..UptoSaid'. A law counts once. -/
mutual
def uptoBulk {H : Type} : DataW H → Nat
  | .lit (.string bytes) => bytes.length + 1
  | .lit _ => 1
  | .nil => 1
  | .ptr d => uptoBulk d + 1
  | .slice elems spare => uptoBulkAll elems + uptoBulkAll spare + 1
  | .agg parts => uptoBulkAll parts + 1
  | .iface _ d => uptoBulk d + 1
  | .map entries => uptoBulkEntries entries + 1
  | .held _ => 1
def uptoBulkAll {H : Type} : List (DataW H) → Nat
  | [] => 0
  | d :: r => uptoBulk d + uptoBulkAll r
def uptoBulkEntries {H : Type} : List (Lit × DataW H) → Nat
  | [] => 0
  | x :: r => uptoBulkEntry x + uptoBulkEntries r
def uptoBulkEntry {H : Type} : Lit × DataW H → Nat
  | (.string bytes, d) => bytes.length + uptoBulk d + 1
  | (_, d) => uptoBulk d + 1
 end
def uptoSmall : (H : Type) → List (DataW H) → Bool := fun _ ds => decide (uptoBulkAll ds ≤ 1048576)
def OpenSpec.upto (s : _root_.Go.ChangeSpec) : _root_.Go.OpenSpec := { _root_.Go.OpenSpec.ofChange s with cond := some uptoSmall }

/-- 'bonsailaw7.SetTells', WHERE WHAT IT READS IS OF BULK AT MOST 1048576: true; the input reads as it did. -/
def setTellsUptoRow : OpenClaim := { program := "ytdgpckcphkpclaa", sum := "06b5244529ec92f86dec6766337dbdeb3c297065d12a136af9e5914157409d21", func := "bonsai/bonsailaw7.SetTells", spec := "setTells", inPlace := ["slices.overlaps[int]"], unfollowed := true, recurses := true, apart := false, narrowed := true }
def SetTellsUptoSaid : Prop := setTellsUptoRow.holds Try.pinned (OpenSpec.upto setTellsSpec)

/-- 'bonsailaw7.SetWorks', WHERE WHAT IT READS IS OF BULK AT MOST 1048576: true; the input reads as it did. -/
def setWorksUptoRow : OpenClaim := { program := "ytdgpckcphkpclaa", sum := "06b5244529ec92f86dec6766337dbdeb3c297065d12a136af9e5914157409d21", func := "bonsai/bonsailaw7.SetWorks", spec := "setWorks", inPlace := ["slices.overlaps[int]"], unfollowed := true, recurses := true, apart := false, narrowed := true }
def SetWorksUptoSaid : Prop := setWorksUptoRow.holds Try.pinned (OpenSpec.upto setWorksSpec)

/-- 'bonsailaw7.SetOrder', WHERE WHAT IT READS IS OF BULK AT MOST 1048576: true; the input reads as it did. -/
def setOrderUptoRow : OpenClaim := { program := "ytdgpckcphkpclaa", sum := "06b5244529ec92f86dec6766337dbdeb3c297065d12a136af9e5914157409d21", func := "bonsai/bonsailaw7.SetOrder", spec := "setOrder", inPlace := ["slices.overlaps[int]"], unfollowed := true, recurses := true, apart := false, narrowed := true }
def SetOrderUptoSaid : Prop := setOrderUptoRow.holds Try.pinned (OpenSpec.upto setOrderSpec)

/-- 'bonsailaw7.SetDrains', WHERE WHAT IT READS IS OF BULK AT MOST 1048576: true; the input reads as it did. -/
def setDrainsUptoRow : OpenClaim := { program := "ytdgpckcphkpclaa", sum := "06b5244529ec92f86dec6766337dbdeb3c297065d12a136af9e5914157409d21", func := "bonsai/bonsailaw7.SetDrains", spec := "setDrains", inPlace := ["slices.overlaps[int]"], unfollowed := true, recurses := true, apart := false, narrowed := true }
def SetDrainsUptoSaid : Prop := setDrainsUptoRow.holds Try.pinned (OpenSpec.upto setDrainsSpec)

/-- 'bonsailaw7.SetTexts', WHERE WHAT IT READS IS OF BULK AT MOST 1048576: true; the input reads as it did. -/
def setTextsUptoRow : OpenClaim := { program := "ytdgpckcphkpclaa", sum := "06b5244529ec92f86dec6766337dbdeb3c297065d12a136af9e5914157409d21", func := "bonsai/bonsailaw7.SetTexts", spec := "setTexts", inPlace := ["slices.overlaps[int]", "slices.overlaps[string]"], unfollowed := true, recurses := true, apart := false, narrowed := true }
def SetTextsUptoSaid : Prop := setTextsUptoRow.holds Try.pinned (OpenSpec.upto setTextsSpec)

end Rows
end Go.Proofs.Ytdgpckcphkpclaa
