/-
  No cell of these rows narrows 'for every input' (looked for: loops, veiled, ifaces, maps, wideKeys, modest, calm, conditions, laid).
  DERIVED. THE GIVEN ROWS OF THIS SEAT. 7 by the template 'for every input the law returns true; each argument reads behind the call as it read before'; 0 by the template 'total and deterministic' (their statements: YtchcnhpbapakbaaTotals.lean).
  GIVEN WITH THE SEED: the statements are not yours to turn. If you find one false, say at which input.
  Laid BY PROGRAM, IN A SANDBOX (cutbox-rows.mjs): the forced cells as the released guide's own fill.sh prints them over the translation d2b6e8a09ee61f5b… (all of the seat's roots in one cut). By AI agents, Wed Nov 11 2026. No macro, syntax, notation, axiom, sorry.
-/
import Derived.Test.YtchcnhpbapakbaaChecked
import GoSem.Claim
import GoSem.ClaimJoined
import GoSem.ClaimMapViews
import Derived.JoinedTies
import Derived.KernelRfl
namespace Go.Proofs.Ytchcnhpbapakbaa
/- THE CELL 'sum', in the pinned program and in every row, IS THE sha256 OF THE DUMP (.gsa) THAT YtchcnhpbapakbaaProg.lean LOADS. Nothing in Lean hashes anything: it is a label: what it is worth is what the hold of that sum in a sandbox is worth. -/
noncomputable def Try.pinned : Pinned := { name := "ytchcnhpbapakbaa", sum := "d2b6e8a09ee61f5b6af106c46e94133b01daba4bd4e66947b11c742e70cfe5ca", checked := Try.checked }
namespace Rows
def none {H : Type} : Left H := { results := [], args := [] }

/-- 'turnpikelaw07.PrimDigests': WHATEVER THE INPUT: true; the input reads as it did. -/
def primDigestsSpec : ChangeSpec := { name := "primDigests", fn := fun _ => fun
  | [d] => { results := [.lit (.bool true)], args := [d] }
  | _ => none }
def primDigestsRow : OpenClaim := { program := "ytchcnhpbapakbaa", sum := "d2b6e8a09ee61f5b6af106c46e94133b01daba4bd4e66947b11c742e70cfe5ca", func := "turnpike/turnpikelaw07.PrimDigests", spec := "primDigests", apart := false }
def PrimDigestsSaid : Prop := primDigestsRow.holds Try.pinned (OpenSpec.ofChange primDigestsSpec)

/-- ITS FALSE NEIGHBOUR: 'it returns false'. Refute it at one input. -/
def primDigestsWrong : ChangeSpec := { name := "primDigests", fn := fun _ => fun
  | [d] => { results := [.lit (.bool false)], args := [d] }
  | _ => none }
def PrimDigestsWrongFalsely : Prop := primDigestsRow.holds Try.pinned (OpenSpec.ofChange primDigestsWrong)

/-- 'turnpikelaw07.PrimPowers': WHATEVER THE INPUT: true; the input reads as it did. -/
def primPowersSpec : ChangeSpec := { name := "primPowers", fn := fun _ => fun
  | [d1, d2] => { results := [.lit (.bool true)], args := [d1, d2] }
  | _ => none }
def primPowersRow : OpenClaim := { program := "ytchcnhpbapakbaa", sum := "d2b6e8a09ee61f5b6af106c46e94133b01daba4bd4e66947b11c742e70cfe5ca", func := "turnpike/turnpikelaw07.PrimPowers", spec := "primPowers", recurses := true, apart := false }
def PrimPowersSaid : Prop := primPowersRow.holds Try.pinned (OpenSpec.ofChange primPowersSpec)

/-- ITS FALSE NEIGHBOUR: 'it returns false'. Refute it at one input. -/
def primPowersWrong : ChangeSpec := { name := "primPowers", fn := fun _ => fun
  | [d1, d2] => { results := [.lit (.bool false)], args := [d1, d2] }
  | _ => none }
def PrimPowersWrongFalsely : Prop := primPowersRow.holds Try.pinned (OpenSpec.ofChange primPowersWrong)

/-- 'turnpikelaw07.PrimAgrees': WHATEVER THE INPUT: true; the input reads as it did. -/
def primAgreesSpec : ChangeSpec := { name := "primAgrees", fn := fun _ => fun
  | [d1, d2] => { results := [.lit (.bool true)], args := [d1, d2] }
  | _ => none }
def primAgreesRow : OpenClaim := { program := "ytchcnhpbapakbaa", sum := "d2b6e8a09ee61f5b6af106c46e94133b01daba4bd4e66947b11c742e70cfe5ca", func := "turnpike/turnpikelaw07.PrimAgrees", spec := "primAgrees", apart := false }
def PrimAgreesSaid : Prop := primAgreesRow.holds Try.pinned (OpenSpec.ofChange primAgreesSpec)

/-- ITS FALSE NEIGHBOUR: 'it returns false'. Refute it at one input. -/
def primAgreesWrong : ChangeSpec := { name := "primAgrees", fn := fun _ => fun
  | [d1, d2] => { results := [.lit (.bool false)], args := [d1, d2] }
  | _ => none }
def PrimAgreesWrongFalsely : Prop := primAgreesRow.holds Try.pinned (OpenSpec.ofChange primAgreesWrong)

/-- 'turnpikelaw07.PrimMasks': WHATEVER THE INPUT: true; the input reads as it did. -/
def primMasksSpec : ChangeSpec := { name := "primMasks", fn := fun _ => fun
  | [d1, d2] => { results := [.lit (.bool true)], args := [d1, d2] }
  | _ => none }
def primMasksRow : OpenClaim := { program := "ytchcnhpbapakbaa", sum := "d2b6e8a09ee61f5b6af106c46e94133b01daba4bd4e66947b11c742e70cfe5ca", func := "turnpike/turnpikelaw07.PrimMasks", spec := "primMasks", apart := false }
def PrimMasksSaid : Prop := primMasksRow.holds Try.pinned (OpenSpec.ofChange primMasksSpec)

/-- ITS FALSE NEIGHBOUR: 'it returns false'. Refute it at one input. -/
def primMasksWrong : ChangeSpec := { name := "primMasks", fn := fun _ => fun
  | [d1, d2] => { results := [.lit (.bool false)], args := [d1, d2] }
  | _ => none }
def PrimMasksWrongFalsely : Prop := primMasksRow.holds Try.pinned (OpenSpec.ofChange primMasksWrong)

/-- 'turnpikelaw07.PrimExpands': WHATEVER THE INPUT: true; the input reads as it did. -/
def primExpandsSpec : ChangeSpec := { name := "primExpands", fn := fun _ => fun
  | [d1, d2, d3] => { results := [.lit (.bool true)], args := [d1, d2, d3] }
  | _ => none }
def primExpandsRow : OpenClaim := { program := "ytchcnhpbapakbaa", sum := "d2b6e8a09ee61f5b6af106c46e94133b01daba4bd4e66947b11c742e70cfe5ca", func := "turnpike/turnpikelaw07.PrimExpands", spec := "primExpands", apart := false }
def PrimExpandsSaid : Prop := primExpandsRow.holds Try.pinned (OpenSpec.ofChange primExpandsSpec)

/-- ITS FALSE NEIGHBOUR: 'it returns false'. Refute it at one input. -/
def primExpandsWrong : ChangeSpec := { name := "primExpands", fn := fun _ => fun
  | [d1, d2, d3] => { results := [.lit (.bool false)], args := [d1, d2, d3] }
  | _ => none }
def PrimExpandsWrongFalsely : Prop := primExpandsRow.holds Try.pinned (OpenSpec.ofChange primExpandsWrong)

/-- 'turnpikelaw07.PrimSeals': WHATEVER THE INPUT: true; the input reads as it did. -/
def primSealsSpec : ChangeSpec := { name := "primSeals", fn := fun _ => fun
  | [d] => { results := [.lit (.bool true)], args := [d] }
  | _ => none }
def primSealsRow : OpenClaim := { program := "ytchcnhpbapakbaa", sum := "d2b6e8a09ee61f5b6af106c46e94133b01daba4bd4e66947b11c742e70cfe5ca", func := "turnpike/turnpikelaw07.PrimSeals", spec := "primSeals", apart := false }
def PrimSealsSaid : Prop := primSealsRow.holds Try.pinned (OpenSpec.ofChange primSealsSpec)

/-- ITS FALSE NEIGHBOUR: 'it returns false'. Refute it at one input. -/
def primSealsWrong : ChangeSpec := { name := "primSeals", fn := fun _ => fun
  | [d] => { results := [.lit (.bool false)], args := [d] }
  | _ => none }
def PrimSealsWrongFalsely : Prop := primSealsRow.holds Try.pinned (OpenSpec.ofChange primSealsWrong)

/-- 'turnpikelaw07.PrimOpens': WHATEVER THE INPUT: true; the input reads as it did. -/
def primOpensSpec : ChangeSpec := { name := "primOpens", fn := fun _ => fun
  | [d1, d2] => { results := [.lit (.bool true)], args := [d1, d2] }
  | _ => none }
def primOpensRow : OpenClaim := { program := "ytchcnhpbapakbaa", sum := "d2b6e8a09ee61f5b6af106c46e94133b01daba4bd4e66947b11c742e70cfe5ca", func := "turnpike/turnpikelaw07.PrimOpens", spec := "primOpens", apart := false }
def PrimOpensSaid : Prop := primOpensRow.holds Try.pinned (OpenSpec.ofChange primOpensSpec)

/-- ITS FALSE NEIGHBOUR: 'it returns false'. Refute it at one input. -/
def primOpensWrong : ChangeSpec := { name := "primOpens", fn := fun _ => fun
  | [d1, d2] => { results := [.lit (.bool false)], args := [d1, d2] }
  | _ => none }
def PrimOpensWrongFalsely : Prop := primOpensRow.holds Try.pinned (OpenSpec.ofChange primOpensWrong)

/- THE SECOND FORM. 'bulk': how many values and letters a reading holds, each counted each time it is reached (what is shared counts as often as it is met; a slice's spare places count too). A statement '..UptoSaid' is the law's where the arguments, and the package variables that the reading takes, are together of bulk at most 1048576: NARROWER than '..Said'. Prove '..Said' where nothing that the law and all that it calls make is longer than what came in: it says more and counts as full. Else prove '..UptoSaid'. A law counts once. -/
mutual
def uptoBulk {H : Type} : DataW H → Nat
  | .lit (.string bytes) => bytes.length + 1
  | .lit _ => 1
  | .nil => 1
  | .ptr d => uptoBulk d + 1
  | .slice elems spare => uptoBulkAll elems + uptoBulkAll spare + 1
  | .agg parts => uptoBulkAll parts + 1
  | .iface _ d => uptoBulk d + 1
  | .map entries => uptoBulkEntries entries + 1
  | .held _ => 1
def uptoBulkAll {H : Type} : List (DataW H) → Nat
  | [] => 0
  | d :: r => uptoBulk d + uptoBulkAll r
def uptoBulkEntries {H : Type} : List (Lit × DataW H) → Nat
  | [] => 0
  | x :: r => uptoBulkEntry x + uptoBulkEntries r
def uptoBulkEntry {H : Type} : Lit × DataW H → Nat
  | (.string bytes, d) => bytes.length + uptoBulk d + 1
  | (_, d) => uptoBulk d + 1
 end
def uptoSmall : (H : Type) → List (DataW H) → Bool := fun _ ds => decide (uptoBulkAll ds ≤ 1048576)
def OpenSpec.upto (s : _root_.Go.ChangeSpec) : _root_.Go.OpenSpec := { _root_.Go.OpenSpec.ofChange s with cond := some uptoSmall }

/-- 'turnpikelaw07.PrimDigests', WHERE WHAT IT READS IS OF BULK AT MOST 1048576: true; the input reads as it did. -/
def primDigestsUptoRow : OpenClaim := { program := "ytchcnhpbapakbaa", sum := "d2b6e8a09ee61f5b6af106c46e94133b01daba4bd4e66947b11c742e70cfe5ca", func := "turnpike/turnpikelaw07.PrimDigests", spec := "primDigests", apart := false, narrowed := true }
def PrimDigestsUptoSaid : Prop := primDigestsUptoRow.holds Try.pinned (OpenSpec.upto primDigestsSpec)

/-- 'turnpikelaw07.PrimPowers', WHERE WHAT IT READS IS OF BULK AT MOST 1048576: true; the input reads as it did. -/
def primPowersUptoRow : OpenClaim := { program := "ytchcnhpbapakbaa", sum := "d2b6e8a09ee61f5b6af106c46e94133b01daba4bd4e66947b11c742e70cfe5ca", func := "turnpike/turnpikelaw07.PrimPowers", spec := "primPowers", recurses := true, apart := false, narrowed := true }
def PrimPowersUptoSaid : Prop := primPowersUptoRow.holds Try.pinned (OpenSpec.upto primPowersSpec)

/-- 'turnpikelaw07.PrimAgrees', WHERE WHAT IT READS IS OF BULK AT MOST 1048576: true; the input reads as it did. -/
def primAgreesUptoRow : OpenClaim := { program := "ytchcnhpbapakbaa", sum := "d2b6e8a09ee61f5b6af106c46e94133b01daba4bd4e66947b11c742e70cfe5ca", func := "turnpike/turnpikelaw07.PrimAgrees", spec := "primAgrees", apart := false, narrowed := true }
def PrimAgreesUptoSaid : Prop := primAgreesUptoRow.holds Try.pinned (OpenSpec.upto primAgreesSpec)

/-- 'turnpikelaw07.PrimMasks', WHERE WHAT IT READS IS OF BULK AT MOST 1048576: true; the input reads as it did. -/
def primMasksUptoRow : OpenClaim := { program := "ytchcnhpbapakbaa", sum := "d2b6e8a09ee61f5b6af106c46e94133b01daba4bd4e66947b11c742e70cfe5ca", func := "turnpike/turnpikelaw07.PrimMasks", spec := "primMasks", apart := false, narrowed := true }
def PrimMasksUptoSaid : Prop := primMasksUptoRow.holds Try.pinned (OpenSpec.upto primMasksSpec)

/-- 'turnpikelaw07.PrimExpands', WHERE WHAT IT READS IS OF BULK AT MOST 1048576: true; the input reads as it did. -/
def primExpandsUptoRow : OpenClaim := { program := "ytchcnhpbapakbaa", sum := "d2b6e8a09ee61f5b6af106c46e94133b01daba4bd4e66947b11c742e70cfe5ca", func := "turnpike/turnpikelaw07.PrimExpands", spec := "primExpands", apart := false, narrowed := true }
def PrimExpandsUptoSaid : Prop := primExpandsUptoRow.holds Try.pinned (OpenSpec.upto primExpandsSpec)

/-- 'turnpikelaw07.PrimSeals', WHERE WHAT IT READS IS OF BULK AT MOST 1048576: true; the input reads as it did. -/
def primSealsUptoRow : OpenClaim := { program := "ytchcnhpbapakbaa", sum := "d2b6e8a09ee61f5b6af106c46e94133b01daba4bd4e66947b11c742e70cfe5ca", func := "turnpike/turnpikelaw07.PrimSeals", spec := "primSeals", apart := false, narrowed := true }
def PrimSealsUptoSaid : Prop := primSealsUptoRow.holds Try.pinned (OpenSpec.upto primSealsSpec)

/-- 'turnpikelaw07.PrimOpens', WHERE WHAT IT READS IS OF BULK AT MOST 1048576: true; the input reads as it did. -/
def primOpensUptoRow : OpenClaim := { program := "ytchcnhpbapakbaa", sum := "d2b6e8a09ee61f5b6af106c46e94133b01daba4bd4e66947b11c742e70cfe5ca", func := "turnpike/turnpikelaw07.PrimOpens", spec := "primOpens", apart := false, narrowed := true }
def PrimOpensUptoSaid : Prop := primOpensUptoRow.holds Try.pinned (OpenSpec.upto primOpensSpec)

end Rows
end Go.Proofs.Ytchcnhpbapakbaa
