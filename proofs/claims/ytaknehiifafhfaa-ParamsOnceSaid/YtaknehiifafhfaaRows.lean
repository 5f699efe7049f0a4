/-
  No cell of these rows narrows 'for every input' (looked for: loops, veiled, ifaces, maps, wideKeys, modest, calm, conditions, laid).
  DERIVED. THE GIVEN ROWS OF THIS SEAT. 5 by the template 'for every input the law returns true; each argument reads behind the call as it read before'; 0 by the template 'total and deterministic' (their statements: YtaknehiifafhfaaTotals.lean).
  GIVEN WITH THE SEED: the statements are not yours to turn. If you find one false, say at which input.
  Laid BY PROGRAM, IN A SANDBOX (cutbox-rows.mjs): the forced cells as the released guide's own fill.sh prints them over the translation a7a70032a6325fda… (all of the seat's roots in one cut). By AI agents, Wed Nov 11 2026. No macro, syntax, notation, axiom, sorry.
-/
import Derived.Test.YtaknehiifafhfaaChecked
import GoSem.Claim
import GoSem.ClaimJoined
import GoSem.ClaimMapViews
import Derived.JoinedTies
import Derived.KernelRfl
namespace Go.Proofs.Ytaknehiifafhfaa
/- THE CELL 'sum', in the pinned program and in every row, IS THE sha256 OF THE DUMP (.gsa) THAT YtaknehiifafhfaaProg.lean LOADS. Nothing in Lean hashes anything: it is a label: what it is worth is what the hold of that sum in a sandbox is worth. -/
noncomputable def Try.pinned : Pinned := { name := "ytaknehiifafhfaa", sum := "a7a70032a6325fda1d5a732fa2ecf6afbd1960b7bf620a0dec256e3402f5af53", checked := Try.checked }
namespace Rows
def none {H : Type} : Left H := { results := [], args := [] }

/-- 'turnpikelaw09.ParamsDecodes': WHATEVER THE INPUT: true; the input reads as it did. -/
def paramsDecodesSpec : ChangeSpec := { name := "paramsDecodes", fn := fun _ => fun
  | [d1, d2] => { results := [.lit (.bool true)], args := [d1, d2] }
  | _ => none }
def paramsDecodesRow : OpenClaim := { program := "ytaknehiifafhfaa", sum := "a7a70032a6325fda1d5a732fa2ecf6afbd1960b7bf620a0dec256e3402f5af53", func := "turnpike/turnpikelaw09.ParamsDecodes", spec := "paramsDecodes", unfollowed := true, recurses := true, apart := false }
def ParamsDecodesSaid : Prop := paramsDecodesRow.holds Try.pinned (OpenSpec.ofChange paramsDecodesSpec)

/-- ITS FALSE NEIGHBOUR: 'it returns false'. Refute it at one input. -/
def paramsDecodesWrong : ChangeSpec := { name := "paramsDecodes", fn := fun _ => fun
  | [d1, d2] => { results := [.lit (.bool false)], args := [d1, d2] }
  | _ => none }
def ParamsDecodesWrongFalsely : Prop := paramsDecodesRow.holds Try.pinned (OpenSpec.ofChange paramsDecodesWrong)

/-- 'turnpikelaw09.ParamsTwice': WHATEVER THE INPUT: true; the input reads as it did. -/
def paramsTwiceSpec : ChangeSpec := { name := "paramsTwice", fn := fun _ => fun
  | [d1, d2] => { results := [.lit (.bool true)], args := [d1, d2] }
  | _ => none }
def paramsTwiceRow : OpenClaim := { program := "ytaknehiifafhfaa", sum := "a7a70032a6325fda1d5a732fa2ecf6afbd1960b7bf620a0dec256e3402f5af53", func := "turnpike/turnpikelaw09.ParamsTwice", spec := "paramsTwice", unfollowed := true, recurses := true, apart := false }
def ParamsTwiceSaid : Prop := paramsTwiceRow.holds Try.pinned (OpenSpec.ofChange paramsTwiceSpec)

/-- ITS FALSE NEIGHBOUR: 'it returns false'. Refute it at one input. -/
def paramsTwiceWrong : ChangeSpec := { name := "paramsTwice", fn := fun _ => fun
  | [d1, d2] => { results := [.lit (.bool false)], args := [d1, d2] }
  | _ => none }
def ParamsTwiceWrongFalsely : Prop := paramsTwiceRow.holds Try.pinned (OpenSpec.ofChange paramsTwiceWrong)

/-- 'turnpikelaw09.ParamsEncodes': WHATEVER THE INPUT: true; the input reads as it did. -/
def paramsEncodesSpec : ChangeSpec := { name := "paramsEncodes", fn := fun _ => fun
  | [d1, d2] => { results := [.lit (.bool true)], args := [d1, d2] }
  | _ => none }
def paramsEncodesRow : OpenClaim := { program := "ytaknehiifafhfaa", sum := "a7a70032a6325fda1d5a732fa2ecf6afbd1960b7bf620a0dec256e3402f5af53", func := "turnpike/turnpikelaw09.ParamsEncodes", spec := "paramsEncodes", unfollowed := true, recurses := true, apart := false }
def ParamsEncodesSaid : Prop := paramsEncodesRow.holds Try.pinned (OpenSpec.ofChange paramsEncodesSpec)

/-- ITS FALSE NEIGHBOUR: 'it returns false'. Refute it at one input. -/
def paramsEncodesWrong : ChangeSpec := { name := "paramsEncodes", fn := fun _ => fun
  | [d1, d2] => { results := [.lit (.bool false)], args := [d1, d2] }
  | _ => none }
def ParamsEncodesWrongFalsely : Prop := paramsEncodesRow.holds Try.pinned (OpenSpec.ofChange paramsEncodesWrong)

/-- 'turnpikelaw09.ParamsBack': WHATEVER THE INPUT: true; the input reads as it did. -/
def paramsBackSpec : ChangeSpec := { name := "paramsBack", fn := fun _ => fun
  | [d] => { results := [.lit (.bool true)], args := [d] }
  | _ => none }
def paramsBackRow : OpenClaim := { program := "ytaknehiifafhfaa", sum := "a7a70032a6325fda1d5a732fa2ecf6afbd1960b7bf620a0dec256e3402f5af53", func := "turnpike/turnpikelaw09.ParamsBack", spec := "paramsBack", unfollowed := true, recurses := true, apart := false }
def ParamsBackSaid : Prop := paramsBackRow.holds Try.pinned (OpenSpec.ofChange paramsBackSpec)

/-- ITS FALSE NEIGHBOUR: 'it returns false'. Refute it at one input. -/
def paramsBackWrong : ChangeSpec := { name := "paramsBack", fn := fun _ => fun
  | [d] => { results := [.lit (.bool false)], args := [d] }
  | _ => none }
def ParamsBackWrongFalsely : Prop := paramsBackRow.holds Try.pinned (OpenSpec.ofChange paramsBackWrong)

/-- 'turnpikelaw09.ParamsOnce': WHATEVER THE INPUT: true; the input reads as it did. -/
def paramsOnceSpec : ChangeSpec := { name := "paramsOnce", fn := fun _ => fun
  | [d1, d2] => { results := [.lit (.bool true)], args := [d1, d2] }
  | _ => none }
def paramsOnceRow : OpenClaim := { program := "ytaknehiifafhfaa", sum := "a7a70032a6325fda1d5a732fa2ecf6afbd1960b7bf620a0dec256e3402f5af53", func := "turnpike/turnpikelaw09.ParamsOnce", spec := "paramsOnce", unfollowed := true, recurses := true, apart := false }
def ParamsOnceSaid : Prop := paramsOnceRow.holds Try.pinned (OpenSpec.ofChange paramsOnceSpec)

/-- ITS FALSE NEIGHBOUR: 'it returns false'. Refute it at one input. -/
def paramsOnceWrong : ChangeSpec := { name := "paramsOnce", fn := fun _ => fun
  | [d1, d2] => { results := [.lit (.bool false)], args := [d1, d2] }
  | _ => none }
def ParamsOnceWrongFalsely : Prop := paramsOnceRow.holds Try.pinned (OpenSpec.ofChange paramsOnceWrong)

/- THE SECOND FORM. 'bulk': how many values and letters a reading holds, each counted each time it is reached (what is shared counts as often as it is met; a slice's spare places count too). A statement '..UptoSaid' is the law's where the arguments, and the package variables that the reading takes, are together of bulk at most 1048576: NARROWER than '..Said'. Prove '..Said' where nothing that the law and all that it calls make is longer than what came in: it says more and counts as full. Else prove '..UptoSaid'. A law counts once. -/
mutual
def uptoBulk {H : Type} : DataW H → Nat
  | .lit (.string bytes) => bytes.length + 1
  | .lit _ => 1
  | .nil => 1
  | .ptr d => uptoBulk d + 1
  | .slice elems spare => uptoBulkAll elems + uptoBulkAll spare + 1
  | .agg parts => uptoBulkAll parts + 1
  | .iface _ d => uptoBulk d + 1
  | .map entries => uptoBulkEntries entries + 1
  | .held _ => 1
def uptoBulkAll {H : Type} : List (DataW H) → Nat
  | [] => 0
  | d :: r => uptoBulk d + uptoBulkAll r
def uptoBulkEntries {H : Type} : List (Lit × DataW H) → Nat
  | [] => 0
  | x :: r => uptoBulkEntry x + uptoBulkEntries r
def uptoBulkEntry {H : Type} : Lit × DataW H → Nat
  | (.string bytes, d) => bytes.length + uptoBulk d + 1
  | (_, d) => uptoBulk d + 1
 end
def uptoSmall : (H : Type) → List (DataW H) → Bool := fun _ ds => decide (uptoBulkAll ds ≤ 1048576)
def OpenSpec.upto (s : _root_.Go.ChangeSpec) : _root_.Go.OpenSpec := { _root_.Go.OpenSpec.ofChange s with cond := some uptoSmall }

/-- 'turnpikelaw09.ParamsDecodes', WHERE WHAT IT READS IS OF BULK AT MOST 1048576: true; the input reads as it did. -/
def paramsDecodesUptoRow : OpenClaim := { program := "ytaknehiifafhfaa", sum := "a7a70032a6325fda1d5a732fa2ecf6afbd1960b7bf620a0dec256e3402f5af53", func := "turnpike/turnpikelaw09.ParamsDecodes", spec := "paramsDecodes", unfollowed := true, recurses := true, apart := false, narrowed := true }
def ParamsDecodesUptoSaid : Prop := paramsDecodesUptoRow.holds Try.pinned (OpenSpec.upto paramsDecodesSpec)

/-- 'turnpikelaw09.ParamsTwice', WHERE WHAT IT READS IS OF BULK AT MOST 1048576: true; the input reads as it did. -/
def paramsTwiceUptoRow : OpenClaim := { program := "ytaknehiifafhfaa", sum := "a7a70032a6325fda1d5a732fa2ecf6afbd1960b7bf620a0dec256e3402f5af53", func := "turnpike/turnpikelaw09.ParamsTwice", spec := "paramsTwice", unfollowed := true, recurses := true, apart := false, narrowed := true }
def ParamsTwiceUptoSaid : Prop := paramsTwiceUptoRow.holds Try.pinned (OpenSpec.upto paramsTwiceSpec)

/-- 'turnpikelaw09.ParamsEncodes', WHERE WHAT IT READS IS OF BULK AT MOST 1048576: true; the input reads as it did. -/
def paramsEncodesUptoRow : OpenClaim := { program := "ytaknehiifafhfaa", sum := "a7a70032a6325fda1d5a732fa2ecf6afbd1960b7bf620a0dec256e3402f5af53", func := "turnpike/turnpikelaw09.ParamsEncodes", spec := "paramsEncodes", unfollowed := true, recurses := true, apart := false, narrowed := true }
def ParamsEncodesUptoSaid : Prop := paramsEncodesUptoRow.holds Try.pinned (OpenSpec.upto paramsEncodesSpec)

/-- 'turnpikelaw09.ParamsBack', WHERE WHAT IT READS IS OF BULK AT MOST 1048576: true; the input reads as it did. -/
def paramsBackUptoRow : OpenClaim := { program := "ytaknehiifafhfaa", sum := "a7a70032a6325fda1d5a732fa2ecf6afbd1960b7bf620a0dec256e3402f5af53", func := "turnpike/turnpikelaw09.ParamsBack", spec := "paramsBack", unfollowed := true, recurses := true, apart := false, narrowed := true }
def ParamsBackUptoSaid : Prop := paramsBackUptoRow.holds Try.pinned (OpenSpec.upto paramsBackSpec)

/-- 'turnpikelaw09.ParamsOnce', WHERE WHAT IT READS IS OF BULK AT MOST 1048576: true; the input reads as it did. -/
def paramsOnceUptoRow : OpenClaim := { program := "ytaknehiifafhfaa", sum := "a7a70032a6325fda1d5a732fa2ecf6afbd1960b7bf620a0dec256e3402f5af53", func := "turnpike/turnpikelaw09.ParamsOnce", spec := "paramsOnce", unfollowed := true, recurses := true, apart := false, narrowed := true }
def ParamsOnceUptoSaid : Prop := paramsOnceUptoRow.holds Try.pinned (OpenSpec.upto paramsOnceSpec)

end Rows
end Go.Proofs.Ytaknehiifafhfaa
