/-
  No cell of these rows narrows 'for every input' (looked for: loops, veiled, ifaces, maps, wideKeys, modest, calm, conditions, laid).
  DERIVED. THE GIVEN ROWS OF THIS SEAT. 7 by the template 'for every input the law returns true; each argument reads behind the call as it read before'; 0 by the template 'total and deterministic' (their statements: YtlobimomeeppeaaTotals.lean).
  GIVEN WITH THE SEED: the statements are not yours to turn. If you find one false, say at which input.
  Laid BY PROGRAM, IN A SANDBOX (cutbox-rows.mjs): the forced cells as the released guide's own fill.sh prints them over the translation 0a01e39607dd86f2… (all of the seat's roots in one cut). By AI agents, Wed Nov 11 2026. No macro, syntax, notation, axiom, sorry.
-/
import Derived.Test.YtlobimomeeppeaaChecked
import GoSem.Claim
import GoSem.ClaimJoined
import GoSem.ClaimMapViews
import Derived.JoinedTies
import Derived.KernelRfl
namespace Go.Proofs.Ytlobimomeeppeaa
/- THE CELL 'sum', in the pinned program and in every row, IS THE sha256 OF THE DUMP (.gsa) THAT YtlobimomeeppeaaProg.lean LOADS. Nothing in Lean hashes anything: it is a label: what it is worth is what the hold of that sum in a sandbox is worth. -/
noncomputable def Try.pinned : Pinned := { name := "ytlobimomeeppeaa", sum := "0a01e39607dd86f2c8ad31db9414b690539bd0a721c3732fafbaf2e1d90d0a3b", checked := Try.checked }
namespace Rows
def none {H : Type} : Left H := { results := [], args := [] }

/-- 'turnpikelaw06.HeaderParses': WHATEVER THE INPUT: true; the input reads as it did. -/
def headerParsesSpec : ChangeSpec := { name := "headerParses", fn := fun _ => fun
  | [d1, d2] => { results := [.lit (.bool true)], args := [d1, d2] }
  | _ => none }
def headerParsesRow : OpenClaim := { program := "ytlobimomeeppeaa", sum := "0a01e39607dd86f2c8ad31db9414b690539bd0a721c3732fafbaf2e1d90d0a3b", func := "turnpike/turnpikelaw06.HeaderParses", spec := "headerParses", unfollowed := true, recurses := true, apart := false }
def HeaderParsesSaid : Prop := headerParsesRow.holds Try.pinned (OpenSpec.ofChange headerParsesSpec)

/-- ITS FALSE NEIGHBOUR: 'it returns false'. Refute it at one input. -/
def headerParsesWrong : ChangeSpec := { name := "headerParses", fn := fun _ => fun
  | [d1, d2] => { results := [.lit (.bool false)], args := [d1, d2] }
  | _ => none }
def HeaderParsesWrongFalsely : Prop := headerParsesRow.holds Try.pinned (OpenSpec.ofChange headerParsesWrong)

/-- 'turnpikelaw06.HeaderNumbers': WHATEVER THE INPUT: true; the input reads as it did. -/
def headerNumbersSpec : ChangeSpec := { name := "headerNumbers", fn := fun _ => fun
  | [d1, d2, d3] => { results := [.lit (.bool true)], args := [d1, d2, d3] }
  | _ => none }
def headerNumbersRow : OpenClaim := { program := "ytlobimomeeppeaa", sum := "0a01e39607dd86f2c8ad31db9414b690539bd0a721c3732fafbaf2e1d90d0a3b", func := "turnpike/turnpikelaw06.HeaderNumbers", spec := "headerNumbers", unfollowed := true, recurses := true, apart := false }
def HeaderNumbersSaid : Prop := headerNumbersRow.holds Try.pinned (OpenSpec.ofChange headerNumbersSpec)

/-- ITS FALSE NEIGHBOUR: 'it returns false'. Refute it at one input. -/
def headerNumbersWrong : ChangeSpec := { name := "headerNumbers", fn := fun _ => fun
  | [d1, d2, d3] => { results := [.lit (.bool false)], args := [d1, d2, d3] }
  | _ => none }
def HeaderNumbersWrongFalsely : Prop := headerNumbersRow.holds Try.pinned (OpenSpec.ofChange headerNumbersWrong)

/-- 'turnpikelaw06.HeaderTold': WHATEVER THE INPUT: true; the input reads as it did. -/
def headerToldSpec : ChangeSpec := { name := "headerTold", fn := fun _ => fun
  | [d1, d2, d3] => { results := [.lit (.bool true)], args := [d1, d2, d3] }
  | _ => none }
def headerToldRow : OpenClaim := { program := "ytlobimomeeppeaa", sum := "0a01e39607dd86f2c8ad31db9414b690539bd0a721c3732fafbaf2e1d90d0a3b", func := "turnpike/turnpikelaw06.HeaderTold", spec := "headerTold", unfollowed := true, recurses := true, apart := false }
def HeaderToldSaid : Prop := headerToldRow.holds Try.pinned (OpenSpec.ofChange headerToldSpec)

/-- ITS FALSE NEIGHBOUR: 'it returns false'. Refute it at one input. -/
def headerToldWrong : ChangeSpec := { name := "headerTold", fn := fun _ => fun
  | [d1, d2, d3] => { results := [.lit (.bool false)], args := [d1, d2, d3] }
  | _ => none }
def HeaderToldWrongFalsely : Prop := headerToldRow.holds Try.pinned (OpenSpec.ofChange headerToldWrong)

/-- 'turnpikelaw06.HeaderSplits': WHATEVER THE INPUT: true; the input reads as it did. -/
def headerSplitsSpec : ChangeSpec := { name := "headerSplits", fn := fun _ => fun
  | [d1, d2] => { results := [.lit (.bool true)], args := [d1, d2] }
  | _ => none }
def headerSplitsRow : OpenClaim := { program := "ytlobimomeeppeaa", sum := "0a01e39607dd86f2c8ad31db9414b690539bd0a721c3732fafbaf2e1d90d0a3b", func := "turnpike/turnpikelaw06.HeaderSplits", spec := "headerSplits", unfollowed := true, recurses := true, apart := false }
def HeaderSplitsSaid : Prop := headerSplitsRow.holds Try.pinned (OpenSpec.ofChange headerSplitsSpec)

/-- ITS FALSE NEIGHBOUR: 'it returns false'. Refute it at one input. -/
def headerSplitsWrong : ChangeSpec := { name := "headerSplits", fn := fun _ => fun
  | [d1, d2] => { results := [.lit (.bool false)], args := [d1, d2] }
  | _ => none }
def HeaderSplitsWrongFalsely : Prop := headerSplitsRow.holds Try.pinned (OpenSpec.ofChange headerSplitsWrong)

/-- 'turnpikelaw06.HeaderTiles': WHATEVER THE INPUT: true; the input reads as it did. -/
def headerTilesSpec : ChangeSpec := { name := "headerTiles", fn := fun _ => fun
  | [d1, d2] => { results := [.lit (.bool true)], args := [d1, d2] }
  | _ => none }
def headerTilesRow : OpenClaim := { program := "ytlobimomeeppeaa", sum := "0a01e39607dd86f2c8ad31db9414b690539bd0a721c3732fafbaf2e1d90d0a3b", func := "turnpike/turnpikelaw06.HeaderTiles", spec := "headerTiles", unfollowed := true, recurses := true, apart := false }
def HeaderTilesSaid : Prop := headerTilesRow.holds Try.pinned (OpenSpec.ofChange headerTilesSpec)

/-- ITS FALSE NEIGHBOUR: 'it returns false'. Refute it at one input. -/
def headerTilesWrong : ChangeSpec := { name := "headerTiles", fn := fun _ => fun
  | [d1, d2] => { results := [.lit (.bool false)], args := [d1, d2] }
  | _ => none }
def HeaderTilesWrongFalsely : Prop := headerTilesRow.holds Try.pinned (OpenSpec.ofChange headerTilesWrong)

/-- 'turnpikelaw06.HeaderBuilds': WHATEVER THE INPUT: true; the input reads as it did. -/
def headerBuildsSpec : ChangeSpec := { name := "headerBuilds", fn := fun _ => fun
  | [d1, d2] => { results := [.lit (.bool true)], args := [d1, d2] }
  | _ => none }
def headerBuildsRow : OpenClaim := { program := "ytlobimomeeppeaa", sum := "0a01e39607dd86f2c8ad31db9414b690539bd0a721c3732fafbaf2e1d90d0a3b", func := "turnpike/turnpikelaw06.HeaderBuilds", spec := "headerBuilds", unfollowed := true, recurses := true, apart := false }
def HeaderBuildsSaid : Prop := headerBuildsRow.holds Try.pinned (OpenSpec.ofChange headerBuildsSpec)

/-- ITS FALSE NEIGHBOUR: 'it returns false'. Refute it at one input. -/
def headerBuildsWrong : ChangeSpec := { name := "headerBuilds", fn := fun _ => fun
  | [d1, d2] => { results := [.lit (.bool false)], args := [d1, d2] }
  | _ => none }
def HeaderBuildsWrongFalsely : Prop := headerBuildsRow.holds Try.pinned (OpenSpec.ofChange headerBuildsWrong)

/-- 'turnpikelaw06.HeaderBack': WHATEVER THE INPUT: true; the input reads as it did. -/
def headerBackSpec : ChangeSpec := { name := "headerBack", fn := fun _ => fun
  | [d1, d2, d3] => { results := [.lit (.bool true)], args := [d1, d2, d3] }
  | _ => none }
def headerBackRow : OpenClaim := { program := "ytlobimomeeppeaa", sum := "0a01e39607dd86f2c8ad31db9414b690539bd0a721c3732fafbaf2e1d90d0a3b", func := "turnpike/turnpikelaw06.HeaderBack", spec := "headerBack", unfollowed := true, recurses := true, apart := false }
def HeaderBackSaid : Prop := headerBackRow.holds Try.pinned (OpenSpec.ofChange headerBackSpec)

/-- ITS FALSE NEIGHBOUR: 'it returns false'. Refute it at one input. -/
def headerBackWrong : ChangeSpec := { name := "headerBack", fn := fun _ => fun
  | [d1, d2, d3] => { results := [.lit (.bool false)], args := [d1, d2, d3] }
  | _ => none }
def HeaderBackWrongFalsely : Prop := headerBackRow.holds Try.pinned (OpenSpec.ofChange headerBackWrong)

/- THE SECOND FORM. 'bulk': how many values and letters a reading holds, each counted each time it is reached (what is shared counts as often as it is met; a slice's spare places count too). A statement '..UptoSaid' is the law's where the arguments, and the package variables that the reading takes, are together of bulk at most 1048576: NARROWER than '..Said'. Prove '..Said' where nothing that the law and all that it calls make is longer than what came in: it says more and counts as full. Else prove '..UptoSaid'. A law counts once. -/
mutual
def uptoBulk {H : Type} : DataW H → Nat
  | .lit (.string bytes) => bytes.length + 1
  | .lit _ => 1
  | .nil => 1
  | .ptr d => uptoBulk d + 1
  | .slice elems spare => uptoBulkAll elems + uptoBulkAll spare + 1
  | .agg parts => uptoBulkAll parts + 1
  | .iface _ d => uptoBulk d + 1
  | .map entries => uptoBulkEntries entries + 1
  | .held _ => 1
def uptoBulkAll {H : Type} : List (DataW H) → Nat
  | [] => 0
  | d :: r => uptoBulk d + uptoBulkAll r
def uptoBulkEntries {H : Type} : List (Lit × DataW H) → Nat
  | [] => 0
  | x :: r => uptoBulkEntry x + uptoBulkEntries r
def uptoBulkEntry {H : Type} : Lit × DataW H → Nat
  | (.string bytes, d) => bytes.length + uptoBulk d + 1
  | (_, d) => uptoBulk d + 1
 end
def uptoSmall : (H : Type) → List (DataW H) → Bool := fun _ ds => decide (uptoBulkAll ds ≤ 1048576)
def OpenSpec.upto (s : _root_.Go.ChangeSpec) : _root_.Go.OpenSpec := { _root_.Go.OpenSpec.ofChange s with cond := some uptoSmall }

/-- 'turnpikelaw06.HeaderParses', WHERE WHAT IT READS IS OF BULK AT MOST 1048576: true; the input reads as it did. -/
def headerParsesUptoRow : OpenClaim := { program := "ytlobimomeeppeaa", sum := "0a01e39607dd86f2c8ad31db9414b690539bd0a721c3732fafbaf2e1d90d0a3b", func := "turnpike/turnpikelaw06.HeaderParses", spec := "headerParses", unfollowed := true, recurses := true, apart := false, narrowed := true }
def HeaderParsesUptoSaid : Prop := headerParsesUptoRow.holds Try.pinned (OpenSpec.upto headerParsesSpec)

/-- 'turnpikelaw06.HeaderNumbers', WHERE WHAT IT READS IS OF BULK AT MOST 1048576: true; the input reads as it did. -/
def headerNumbersUptoRow : OpenClaim := { program := "ytlobimomeeppeaa", sum := "0a01e39607dd86f2c8ad31db9414b690539bd0a721c3732fafbaf2e1d90d0a3b", func := "turnpike/turnpikelaw06.HeaderNumbers", spec := "headerNumbers", unfollowed := true, recurses := true, apart := false, narrowed := true }
def HeaderNumbersUptoSaid : Prop := headerNumbersUptoRow.holds Try.pinned (OpenSpec.upto headerNumbersSpec)

/-- 'turnpikelaw06.HeaderTold', WHERE WHAT IT READS IS OF BULK AT MOST 1048576: true; the input reads as it did. -/
def headerToldUptoRow : OpenClaim := { program := "ytlobimomeeppeaa", sum := "0a01e39607dd86f2c8ad31db9414b690539bd0a721c3732fafbaf2e1d90d0a3b", func := "turnpike/turnpikelaw06.HeaderTold", spec := "headerTold", unfollowed := true, recurses := true, apart := false, narrowed := true }
def HeaderToldUptoSaid : Prop := headerToldUptoRow.holds Try.pinned (OpenSpec.upto headerToldSpec)

/-- 'turnpikelaw06.HeaderSplits', WHERE WHAT IT READS IS OF BULK AT MOST 1048576: true; the input reads as it did. -/
def headerSplitsUptoRow : OpenClaim := { program := "ytlobimomeeppeaa", sum := "0a01e39607dd86f2c8ad31db9414b690539bd0a721c3732fafbaf2e1d90d0a3b", func := "turnpike/turnpikelaw06.HeaderSplits", spec := "headerSplits", unfollowed := true, recurses := true, apart := false, narrowed := true }
def HeaderSplitsUptoSaid : Prop := headerSplitsUptoRow.holds Try.pinned (OpenSpec.upto headerSplitsSpec)

/-- 'turnpikelaw06.HeaderTiles', WHERE WHAT IT READS IS OF BULK AT MOST 1048576: true; the input reads as it did. -/
def headerTilesUptoRow : OpenClaim := { program := "ytlobimomeeppeaa", sum := "0a01e39607dd86f2c8ad31db9414b690539bd0a721c3732fafbaf2e1d90d0a3b", func := "turnpike/turnpikelaw06.HeaderTiles", spec := "headerTiles", unfollowed := true, recurses := true, apart := false, narrowed := true }
def HeaderTilesUptoSaid : Prop := headerTilesUptoRow.holds Try.pinned (OpenSpec.upto headerTilesSpec)

/-- 'turnpikelaw06.HeaderBuilds', WHERE WHAT IT READS IS OF BULK AT MOST 1048576: true; the input reads as it did. -/
def headerBuildsUptoRow : OpenClaim := { program := "ytlobimomeeppeaa", sum := "0a01e39607dd86f2c8ad31db9414b690539bd0a721c3732fafbaf2e1d90d0a3b", func := "turnpike/turnpikelaw06.HeaderBuilds", spec := "headerBuilds", unfollowed := true, recurses := true, apart := false, narrowed := true }
def HeaderBuildsUptoSaid : Prop := headerBuildsUptoRow.holds Try.pinned (OpenSpec.upto headerBuildsSpec)

/-- 'turnpikelaw06.HeaderBack', WHERE WHAT IT READS IS OF BULK AT MOST 1048576: true; the input reads as it did. -/
def headerBackUptoRow : OpenClaim := { program := "ytlobimomeeppeaa", sum := "0a01e39607dd86f2c8ad31db9414b690539bd0a721c3732fafbaf2e1d90d0a3b", func := "turnpike/turnpikelaw06.HeaderBack", spec := "headerBack", unfollowed := true, recurses := true, apart := false, narrowed := true }
def HeaderBackUptoSaid : Prop := headerBackUptoRow.holds Try.pinned (OpenSpec.upto headerBackSpec)

end Rows
end Go.Proofs.Ytlobimomeeppeaa
