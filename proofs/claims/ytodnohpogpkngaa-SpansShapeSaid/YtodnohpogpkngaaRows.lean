/-
  No cell of these rows narrows 'for every input' (looked for: loops, veiled, ifaces, maps, wideKeys, modest, calm, conditions, laid).
  DERIVED. THE GIVEN ROWS OF THIS SEAT. 5 by the template 'for every input the law returns true; each argument reads behind the call as it read before'; 0 by the template 'total and deterministic' (their statements: YtodnohpogpkngaaTotals.lean).
  GIVEN WITH THE SEED: the statements are not yours to turn. If you find one false, say at which input.
  Laid BY PROGRAM, IN A SANDBOX (cutbox-rows.mjs): the forced cells as the released guide's own fill.sh prints them over the translation b3eb316121b3a00c… (all of the seat's roots in one cut). By AI agents, Wed Nov 11 2026. No macro, syntax, notation, axiom, sorry.
-/
import Derived.Test.YtodnohpogpkngaaChecked
import GoSem.Claim
import GoSem.ClaimJoined
import GoSem.ClaimMapViews
import Derived.JoinedTies
import Derived.KernelRfl
namespace Go.Proofs.Ytodnohpogpkngaa
/- THE CELL 'sum', in the pinned program and in every row, IS THE sha256 OF THE DUMP (.gsa) THAT YtodnohpogpkngaaProg.lean LOADS. Nothing in Lean hashes anything: it is a label: what it is worth is what the hold of that sum in a sandbox is worth. -/
noncomputable def Try.pinned : Pinned := { name := "ytodnohpogpkngaa", sum := "b3eb316121b3a00cbe274344a160195ba365217c765b0f4f2afa6c8165850126", checked := Try.checked }
namespace Rows
def none {H : Type} : Left H := { results := [], args := [] }

/-- 'turnpikelaw02.SpansHas': WHATEVER THE INPUT: true; the input reads as it did. -/
def spansHasSpec : ChangeSpec := { name := "spansHas", fn := fun _ => fun
  | [d1, d2] => { results := [.lit (.bool true)], args := [d1, d2] }
  | _ => none }
def spansHasRow : OpenClaim := { program := "ytodnohpogpkngaa", sum := "b3eb316121b3a00cbe274344a160195ba365217c765b0f4f2afa6c8165850126", func := "turnpike/turnpikelaw02.SpansHas", spec := "spansHas", inPlace := ["slices.overlaps[turnpike/api.Span]"], unfollowed := true, recurses := true, apart := false }
def SpansHasSaid : Prop := spansHasRow.holds Try.pinned (OpenSpec.ofChange spansHasSpec)

/-- ITS FALSE NEIGHBOUR: 'it returns false'. Refute it at one input. -/
def spansHasWrong : ChangeSpec := { name := "spansHas", fn := fun _ => fun
  | [d1, d2] => { results := [.lit (.bool false)], args := [d1, d2] }
  | _ => none }
def SpansHasWrongFalsely : Prop := spansHasRow.holds Try.pinned (OpenSpec.ofChange spansHasWrong)

/-- 'turnpikelaw02.SpansFresh': WHATEVER THE INPUT: true; the input reads as it did. -/
def spansFreshSpec : ChangeSpec := { name := "spansFresh", fn := fun _ => fun
  | [d] => { results := [.lit (.bool true)], args := [d] }
  | _ => none }
def spansFreshRow : OpenClaim := { program := "ytodnohpogpkngaa", sum := "b3eb316121b3a00cbe274344a160195ba365217c765b0f4f2afa6c8165850126", func := "turnpike/turnpikelaw02.SpansFresh", spec := "spansFresh", inPlace := ["slices.overlaps[turnpike/api.Span]"], unfollowed := true, recurses := true, apart := false }
def SpansFreshSaid : Prop := spansFreshRow.holds Try.pinned (OpenSpec.ofChange spansFreshSpec)

/-- ITS FALSE NEIGHBOUR: 'it returns false'. Refute it at one input. -/
def spansFreshWrong : ChangeSpec := { name := "spansFresh", fn := fun _ => fun
  | [d] => { results := [.lit (.bool false)], args := [d] }
  | _ => none }
def SpansFreshWrongFalsely : Prop := spansFreshRow.holds Try.pinned (OpenSpec.ofChange spansFreshWrong)

/-- 'turnpikelaw02.SpansNews': WHATEVER THE INPUT: true; the input reads as it did. -/
def spansNewsSpec : ChangeSpec := { name := "spansNews", fn := fun _ => fun
  | [d] => { results := [.lit (.bool true)], args := [d] }
  | _ => none }
def spansNewsRow : OpenClaim := { program := "ytodnohpogpkngaa", sum := "b3eb316121b3a00cbe274344a160195ba365217c765b0f4f2afa6c8165850126", func := "turnpike/turnpikelaw02.SpansNews", spec := "spansNews", inPlace := ["slices.overlaps[turnpike/api.Span]"], unfollowed := true, recurses := true, apart := false }
def SpansNewsSaid : Prop := spansNewsRow.holds Try.pinned (OpenSpec.ofChange spansNewsSpec)

/-- ITS FALSE NEIGHBOUR: 'it returns false'. Refute it at one input. -/
def spansNewsWrong : ChangeSpec := { name := "spansNews", fn := fun _ => fun
  | [d] => { results := [.lit (.bool false)], args := [d] }
  | _ => none }
def SpansNewsWrongFalsely : Prop := spansNewsRow.holds Try.pinned (OpenSpec.ofChange spansNewsWrong)

/-- 'turnpikelaw02.SpansShape': WHATEVER THE INPUT: true; the input reads as it did. -/
def spansShapeSpec : ChangeSpec := { name := "spansShape", fn := fun _ => fun
  | [d1, d2] => { results := [.lit (.bool true)], args := [d1, d2] }
  | _ => none }
def spansShapeRow : OpenClaim := { program := "ytodnohpogpkngaa", sum := "b3eb316121b3a00cbe274344a160195ba365217c765b0f4f2afa6c8165850126", func := "turnpike/turnpikelaw02.SpansShape", spec := "spansShape", inPlace := ["slices.overlaps[turnpike/api.Span]"], unfollowed := true, recurses := true, apart := false }
def SpansShapeSaid : Prop := spansShapeRow.holds Try.pinned (OpenSpec.ofChange spansShapeSpec)

/-- ITS FALSE NEIGHBOUR: 'it returns false'. Refute it at one input. -/
def spansShapeWrong : ChangeSpec := { name := "spansShape", fn := fun _ => fun
  | [d1, d2] => { results := [.lit (.bool false)], args := [d1, d2] }
  | _ => none }
def SpansShapeWrongFalsely : Prop := spansShapeRow.holds Try.pinned (OpenSpec.ofChange spansShapeWrong)

/-- 'turnpikelaw02.SpansPlays': WHATEVER THE INPUT: true; the input reads as it did. -/
def spansPlaysSpec : ChangeSpec := { name := "spansPlays", fn := fun _ => fun
  | [d1, d2] => { results := [.lit (.bool true)], args := [d1, d2] }
  | _ => none }
def spansPlaysRow : OpenClaim := { program := "ytodnohpogpkngaa", sum := "b3eb316121b3a00cbe274344a160195ba365217c765b0f4f2afa6c8165850126", func := "turnpike/turnpikelaw02.SpansPlays", spec := "spansPlays", inPlace := ["slices.overlaps[turnpike/api.Span]"], unfollowed := true, recurses := true, apart := false }
def SpansPlaysSaid : Prop := spansPlaysRow.holds Try.pinned (OpenSpec.ofChange spansPlaysSpec)

/-- ITS FALSE NEIGHBOUR: 'it returns false'. Refute it at one input. -/
def spansPlaysWrong : ChangeSpec := { name := "spansPlays", fn := fun _ => fun
  | [d1, d2] => { results := [.lit (.bool false)], args := [d1, d2] }
  | _ => none }
def SpansPlaysWrongFalsely : Prop := spansPlaysRow.holds Try.pinned (OpenSpec.ofChange spansPlaysWrong)

/- THE SECOND FORM. 'bulk': how many values and letters a reading holds, each counted each time it is reached (what is shared counts as often as it is met; a slice's spare places count too). A statement '..UptoSaid' is the law's where the arguments, and the package variables that the reading takes, are together of bulk at most 1048576: NARROWER than '..Said'. Prove '..Said' where nothing that the law and all that it calls make is longer than what came in: it says more and counts as full. Else prove '..UptoSaid'. A law counts once. -/
mutual
def uptoBulk {H : Type} : DataW H → Nat
  | .lit (.string bytes) => bytes.length + 1
  | .lit _ => 1
  | .nil => 1
  | .ptr d => uptoBulk d + 1
  | .slice elems spare => uptoBulkAll elems + uptoBulkAll spare + 1
  | .agg parts => uptoBulkAll parts + 1
  | .iface _ d => uptoBulk d + 1
  | .map entries => uptoBulkEntries entries + 1
  | .held _ => 1
def uptoBulkAll {H : Type} : List (DataW H) → Nat
  | [] => 0
  | d :: r => uptoBulk d + uptoBulkAll r
def uptoBulkEntries {H : Type} : List (Lit × DataW H) → Nat
  | [] => 0
  | x :: r => uptoBulkEntry x + uptoBulkEntries r
def uptoBulkEntry {H : Type} : Lit × DataW H → Nat
  | (.string bytes, d) => bytes.length + uptoBulk d + 1
  | (_, d) => uptoBulk d + 1
 end
def uptoSmall : (H : Type) → List (DataW H) → Bool := fun _ ds => decide (uptoBulkAll ds ≤ 1048576)
def OpenSpec.upto (s : _root_.Go.ChangeSpec) : _root_.Go.OpenSpec := { _root_.Go.OpenSpec.ofChange s with cond := some uptoSmall }

/-- 'turnpikelaw02.SpansHas', WHERE WHAT IT READS IS OF BULK AT MOST 1048576: true; the input reads as it did. -/
def spansHasUptoRow : OpenClaim := { program := "ytodnohpogpkngaa", sum := "b3eb316121b3a00cbe274344a160195ba365217c765b0f4f2afa6c8165850126", func := "turnpike/turnpikelaw02.SpansHas", spec := "spansHas", inPlace := ["slices.overlaps[turnpike/api.Span]"], unfollowed := true, recurses := true, apart := false, narrowed := true }
def SpansHasUptoSaid : Prop := spansHasUptoRow.holds Try.pinned (OpenSpec.upto spansHasSpec)

/-- 'turnpikelaw02.SpansFresh', WHERE WHAT IT READS IS OF BULK AT MOST 1048576: true; the input reads as it did. -/
def spansFreshUptoRow : OpenClaim := { program := "ytodnohpogpkngaa", sum := "b3eb316121b3a00cbe274344a160195ba365217c765b0f4f2afa6c8165850126", func := "turnpike/turnpikelaw02.SpansFresh", spec := "spansFresh", inPlace := ["slices.overlaps[turnpike/api.Span]"], unfollowed := true, recurses := true, apart := false, narrowed := true }
def SpansFreshUptoSaid : Prop := spansFreshUptoRow.holds Try.pinned (OpenSpec.upto spansFreshSpec)

/-- 'turnpikelaw02.SpansNews', WHERE WHAT IT READS IS OF BULK AT MOST 1048576: true; the input reads as it did. -/
def spansNewsUptoRow : OpenClaim := { program := "ytodnohpogpkngaa", sum := "b3eb316121b3a00cbe274344a160195ba365217c765b0f4f2afa6c8165850126", func := "turnpike/turnpikelaw02.SpansNews", spec := "spansNews", inPlace := ["slices.overlaps[turnpike/api.Span]"], unfollowed := true, recurses := true, apart := false, narrowed := true }
def SpansNewsUptoSaid : Prop := spansNewsUptoRow.holds Try.pinned (OpenSpec.upto spansNewsSpec)

/-- 'turnpikelaw02.SpansShape', WHERE WHAT IT READS IS OF BULK AT MOST 1048576: true; the input reads as it did. -/
def spansShapeUptoRow : OpenClaim := { program := "ytodnohpogpkngaa", sum := "b3eb316121b3a00cbe274344a160195ba365217c765b0f4f2afa6c8165850126", func := "turnpike/turnpikelaw02.SpansShape", spec := "spansShape", inPlace := ["slices.overlaps[turnpike/api.Span]"], unfollowed := true, recurses := true, apart := false, narrowed := true }
def SpansShapeUptoSaid : Prop := spansShapeUptoRow.holds Try.pinned (OpenSpec.upto spansShapeSpec)

/-- 'turnpikelaw02.SpansPlays', WHERE WHAT IT READS IS OF BULK AT MOST 1048576: true; the input reads as it did. -/
def spansPlaysUptoRow : OpenClaim := { program := "ytodnohpogpkngaa", sum := "b3eb316121b3a00cbe274344a160195ba365217c765b0f4f2afa6c8165850126", func := "turnpike/turnpikelaw02.SpansPlays", spec := "spansPlays", inPlace := ["slices.overlaps[turnpike/api.Span]"], unfollowed := true, recurses := true, apart := false, narrowed := true }
def SpansPlaysUptoSaid : Prop := spansPlaysUptoRow.holds Try.pinned (OpenSpec.upto spansPlaysSpec)

end Rows
end Go.Proofs.Ytodnohpogpkngaa
