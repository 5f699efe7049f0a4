/-
  No cell of these rows narrows 'for every input' (looked for: loops, veiled, ifaces, maps, wideKeys, modest, calm, conditions, laid).
  DERIVED. THE GIVEN ROWS OF THIS SEAT. 5 by the template 'for every input the law returns true; each argument reads behind the call as it read before'; 0 by the template 'total and deterministic' (their statements: YteomgafghiockaaTotals.lean).
  GIVEN WITH THE SEED: the statements are not yours to turn. If you find one false, say at which input.
  Laid BY PROGRAM, IN A SANDBOX (cutbox-rows.mjs): the forced cells as the released guide's own fill.sh prints them over the translation 2e4c3b87c6ad4f6c… (all of the seat's roots in one cut). By AI agents, Wed Nov 11 2026. No macro, syntax, notation, axiom, sorry.
-/
import Derived.Test.YteomgafghiockaaChecked
import GoSem.Claim
import GoSem.ClaimJoined
import GoSem.ClaimMapViews
import Derived.JoinedTies
import Derived.KernelRfl
namespace Go.Proofs.Yteomgafghiockaa
/- THE CELL 'sum', in the pinned program and in every row, IS THE sha256 OF THE DUMP (.gsa) THAT YteomgafghiockaaProg.lean LOADS. Nothing in Lean hashes anything: it is a label: what it is worth is what the hold of that sum in a sandbox is worth. -/
noncomputable def Try.pinned : Pinned := { name := "yteomgafghiockaa", sum := "2e4c3b87c6ad4f6c171e5907e370c8105eb7ae6b013249d3f1a687c4fd44456f", checked := Try.checked }
namespace Rows
def none {H : Type} : Left H := { results := [], args := [] }

/-- 'turnpikelaw03.ReasmPrefix': WHATEVER THE INPUT: true; the input reads as it did. -/
def reasmPrefixSpec : ChangeSpec := { name := "reasmPrefix", fn := fun _ => fun
  | [d1, d2, d3] => { results := [.lit (.bool true)], args := [d1, d2, d3] }
  | _ => none }
def reasmPrefixRow : OpenClaim := { program := "yteomgafghiockaa", sum := "2e4c3b87c6ad4f6c171e5907e370c8105eb7ae6b013249d3f1a687c4fd44456f", func := "turnpike/turnpikelaw03.ReasmPrefix", spec := "reasmPrefix", unfollowed := true, recurses := true, apart := false }
def ReasmPrefixSaid : Prop := reasmPrefixRow.holds Try.pinned (OpenSpec.ofChange reasmPrefixSpec)

/-- ITS FALSE NEIGHBOUR: 'it returns false'. Refute it at one input. -/
def reasmPrefixWrong : ChangeSpec := { name := "reasmPrefix", fn := fun _ => fun
  | [d1, d2, d3] => { results := [.lit (.bool false)], args := [d1, d2, d3] }
  | _ => none }
def ReasmPrefixWrongFalsely : Prop := reasmPrefixRow.holds Try.pinned (OpenSpec.ofChange reasmPrefixWrong)

/-- 'turnpikelaw03.ReasmFirst': WHATEVER THE INPUT: true; the input reads as it did. -/
def reasmFirstSpec : ChangeSpec := { name := "reasmFirst", fn := fun _ => fun
  | [d1, d2, d3] => { results := [.lit (.bool true)], args := [d1, d2, d3] }
  | _ => none }
def reasmFirstRow : OpenClaim := { program := "yteomgafghiockaa", sum := "2e4c3b87c6ad4f6c171e5907e370c8105eb7ae6b013249d3f1a687c4fd44456f", func := "turnpike/turnpikelaw03.ReasmFirst", spec := "reasmFirst", unfollowed := true, recurses := true, apart := false }
def ReasmFirstSaid : Prop := reasmFirstRow.holds Try.pinned (OpenSpec.ofChange reasmFirstSpec)

/-- ITS FALSE NEIGHBOUR: 'it returns false'. Refute it at one input. -/
def reasmFirstWrong : ChangeSpec := { name := "reasmFirst", fn := fun _ => fun
  | [d1, d2, d3] => { results := [.lit (.bool false)], args := [d1, d2, d3] }
  | _ => none }
def ReasmFirstWrongFalsely : Prop := reasmFirstRow.holds Try.pinned (OpenSpec.ofChange reasmFirstWrong)

/-- 'turnpikelaw03.ReasmWhole': WHATEVER THE INPUT: true; the input reads as it did. -/
def reasmWholeSpec : ChangeSpec := { name := "reasmWhole", fn := fun _ => fun
  | [d1, d2] => { results := [.lit (.bool true)], args := [d1, d2] }
  | _ => none }
def reasmWholeRow : OpenClaim := { program := "yteomgafghiockaa", sum := "2e4c3b87c6ad4f6c171e5907e370c8105eb7ae6b013249d3f1a687c4fd44456f", func := "turnpike/turnpikelaw03.ReasmWhole", spec := "reasmWhole", unfollowed := true, recurses := true, apart := false }
def ReasmWholeSaid : Prop := reasmWholeRow.holds Try.pinned (OpenSpec.ofChange reasmWholeSpec)

/-- ITS FALSE NEIGHBOUR: 'it returns false'. Refute it at one input. -/
def reasmWholeWrong : ChangeSpec := { name := "reasmWhole", fn := fun _ => fun
  | [d1, d2] => { results := [.lit (.bool false)], args := [d1, d2] }
  | _ => none }
def ReasmWholeWrongFalsely : Prop := reasmWholeRow.holds Try.pinned (OpenSpec.ofChange reasmWholeWrong)

/-- 'turnpikelaw03.ReasmNews': WHATEVER THE INPUT: true; the input reads as it did. -/
def reasmNewsSpec : ChangeSpec := { name := "reasmNews", fn := fun _ => fun
  | [d] => { results := [.lit (.bool true)], args := [d] }
  | _ => none }
def reasmNewsRow : OpenClaim := { program := "yteomgafghiockaa", sum := "2e4c3b87c6ad4f6c171e5907e370c8105eb7ae6b013249d3f1a687c4fd44456f", func := "turnpike/turnpikelaw03.ReasmNews", spec := "reasmNews", unfollowed := true, recurses := true, apart := false }
def ReasmNewsSaid : Prop := reasmNewsRow.holds Try.pinned (OpenSpec.ofChange reasmNewsSpec)

/-- ITS FALSE NEIGHBOUR: 'it returns false'. Refute it at one input. -/
def reasmNewsWrong : ChangeSpec := { name := "reasmNews", fn := fun _ => fun
  | [d] => { results := [.lit (.bool false)], args := [d] }
  | _ => none }
def ReasmNewsWrongFalsely : Prop := reasmNewsRow.holds Try.pinned (OpenSpec.ofChange reasmNewsWrong)

/-- 'turnpikelaw03.ReasmPlays': WHATEVER THE INPUT: true; the input reads as it did. -/
def reasmPlaysSpec : ChangeSpec := { name := "reasmPlays", fn := fun _ => fun
  | [d1, d2] => { results := [.lit (.bool true)], args := [d1, d2] }
  | _ => none }
def reasmPlaysRow : OpenClaim := { program := "yteomgafghiockaa", sum := "2e4c3b87c6ad4f6c171e5907e370c8105eb7ae6b013249d3f1a687c4fd44456f", func := "turnpike/turnpikelaw03.ReasmPlays", spec := "reasmPlays", unfollowed := true, recurses := true, apart := false }
def ReasmPlaysSaid : Prop := reasmPlaysRow.holds Try.pinned (OpenSpec.ofChange reasmPlaysSpec)

/-- ITS FALSE NEIGHBOUR: 'it returns false'. Refute it at one input. -/
def reasmPlaysWrong : ChangeSpec := { name := "reasmPlays", fn := fun _ => fun
  | [d1, d2] => { results := [.lit (.bool false)], args := [d1, d2] }
  | _ => none }
def ReasmPlaysWrongFalsely : Prop := reasmPlaysRow.holds Try.pinned (OpenSpec.ofChange reasmPlaysWrong)

/- THE SECOND FORM. 'bulk': how many values and letters a reading holds, each counted each time it is reached (what is shared counts as often as it is met; a slice's spare places count too). A statement '..UptoSaid' is the law's where the arguments, and the package variables that the reading takes, are together of bulk at most 1048576: NARROWER than '..Said'. Prove '..Said' where nothing that the law and all that it calls make is longer than what came in: it says more and counts as full. Else prove '..UptoSaid'. A law counts once. -/
mutual
def uptoBulk {H : Type} : DataW H → Nat
  | .lit (.string bytes) => bytes.length + 1
  | .lit _ => 1
  | .nil => 1
  | .ptr d => uptoBulk d + 1
  | .slice elems spare => uptoBulkAll elems + uptoBulkAll spare + 1
  | .agg parts => uptoBulkAll parts + 1
  | .iface _ d => uptoBulk d + 1
  | .map entries => uptoBulkEntries entries + 1
  | .held _ => 1
def uptoBulkAll {H : Type} : List (DataW H) → Nat
  | [] => 0
  | d :: r => uptoBulk d + uptoBulkAll r
def uptoBulkEntries {H : Type} : List (Lit × DataW H) → Nat
  | [] => 0
  | x :: r => uptoBulkEntry x + uptoBulkEntries r
def uptoBulkEntry {H : Type} : Lit × DataW H → Nat
  | (.string bytes, d) => bytes.length + uptoBulk d + 1
  | (_, d) => uptoBulk d + 1
 end
def uptoSmall : (H : Type) → List (DataW H) → Bool := fun _ ds => decide (uptoBulkAll ds ≤ 1048576)
def OpenSpec.upto (s : _root_.Go.ChangeSpec) : _root_.Go.OpenSpec := { _root_.Go.OpenSpec.ofChange s with cond := some uptoSmall }

/-- 'turnpikelaw03.ReasmPrefix', WHERE WHAT IT READS IS OF BULK AT MOST 1048576: true; the input reads as it did. -/
def reasmPrefixUptoRow : OpenClaim := { program := "yteomgafghiockaa", sum := "2e4c3b87c6ad4f6c171e5907e370c8105eb7ae6b013249d3f1a687c4fd44456f", func := "turnpike/turnpikelaw03.ReasmPrefix", spec := "reasmPrefix", unfollowed := true, recurses := true, apart := false, narrowed := true }
def ReasmPrefixUptoSaid : Prop := reasmPrefixUptoRow.holds Try.pinned (OpenSpec.upto reasmPrefixSpec)

/-- 'turnpikelaw03.ReasmFirst', WHERE WHAT IT READS IS OF BULK AT MOST 1048576: true; the input reads as it did. -/
def reasmFirstUptoRow : OpenClaim := { program := "yteomgafghiockaa", sum := "2e4c3b87c6ad4f6c171e5907e370c8105eb7ae6b013249d3f1a687c4fd44456f", func := "turnpike/turnpikelaw03.ReasmFirst", spec := "reasmFirst", unfollowed := true, recurses := true, apart := false, narrowed := true }
def ReasmFirstUptoSaid : Prop := reasmFirstUptoRow.holds Try.pinned (OpenSpec.upto reasmFirstSpec)

/-- 'turnpikelaw03.ReasmWhole', WHERE WHAT IT READS IS OF BULK AT MOST 1048576: true; the input reads as it did. -/
def reasmWholeUptoRow : OpenClaim := { program := "yteomgafghiockaa", sum := "2e4c3b87c6ad4f6c171e5907e370c8105eb7ae6b013249d3f1a687c4fd44456f", func := "turnpike/turnpikelaw03.ReasmWhole", spec := "reasmWhole", unfollowed := true, recurses := true, apart := false, narrowed := true }
def ReasmWholeUptoSaid : Prop := reasmWholeUptoRow.holds Try.pinned (OpenSpec.upto reasmWholeSpec)

/-- 'turnpikelaw03.ReasmNews', WHERE WHAT IT READS IS OF BULK AT MOST 1048576: true; the input reads as it did. -/
def reasmNewsUptoRow : OpenClaim := { program := "yteomgafghiockaa", sum := "2e4c3b87c6ad4f6c171e5907e370c8105eb7ae6b013249d3f1a687c4fd44456f", func := "turnpike/turnpikelaw03.ReasmNews", spec := "reasmNews", unfollowed := true, recurses := true, apart := false, narrowed := true }
def ReasmNewsUptoSaid : Prop := reasmNewsUptoRow.holds Try.pinned (OpenSpec.upto reasmNewsSpec)

/-- 'turnpikelaw03.ReasmPlays', WHERE WHAT IT READS IS OF BULK AT MOST 1048576: true; the input reads as it did. -/
def reasmPlaysUptoRow : OpenClaim := { program := "yteomgafghiockaa", sum := "2e4c3b87c6ad4f6c171e5907e370c8105eb7ae6b013249d3f1a687c4fd44456f", func := "turnpike/turnpikelaw03.ReasmPlays", spec := "reasmPlays", unfollowed := true, recurses := true, apart := false, narrowed := true }
def ReasmPlaysUptoSaid : Prop := reasmPlaysUptoRow.holds Try.pinned (OpenSpec.upto reasmPlaysSpec)

end Rows
end Go.Proofs.Yteomgafghiockaa
