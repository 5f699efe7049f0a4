/-
  No cell of these rows narrows 'for every input' (looked for: loops, veiled, ifaces, maps, wideKeys, modest, calm, conditions, laid).
  DERIVED. THE GIVEN ROWS OF THIS SEAT. 6 by the template 'for every input the law returns true; each argument reads behind the call as it read before'; 0 by the template 'total and deterministic' (their statements: YtlaelknibcehdaaTotals.lean).
  GIVEN WITH THE SEED: the statements are not yours to turn. If you find one false, say at which input.
  Laid BY PROGRAM, IN A SANDBOX (cutbox-rows.mjs): the forced cells as the released guide's own fill.sh prints them over the translation 11f57f7ce1b14f75… (all of the seat's roots in one cut). By AI agents, Wed Nov 11 2026. No macro, syntax, notation, axiom, sorry.
-/
import Derived.Test.YtlaelknibcehdaaChecked
import GoSem.Claim
import GoSem.ClaimJoined
import GoSem.ClaimMapViews
import Derived.JoinedTies
import Derived.KernelRfl
namespace Go.Proofs.Ytlaelknibcehdaa
/- THE CELL 'sum', in the pinned program and in every row, IS THE sha256 OF THE DUMP (.gsa) THAT YtlaelknibcehdaaProg.lean LOADS. Nothing in Lean hashes anything: it is a label: what it is worth is what the hold of that sum in a sandbox is worth. -/
noncomputable def Try.pinned : Pinned := { name := "ytlaelknibcehdaa", sum := "11f57f7ce1b14f75588461684606983e030a46d69a03c86c1e56f08d37074ddf", checked := Try.checked }
namespace Rows
def none {H : Type} : Left H := { results := [], args := [] }

/-- 'turnpikelaw08.GuardProtects': WHATEVER THE INPUT: true; the input reads as it did. -/
def guardProtectsSpec : ChangeSpec := { name := "guardProtects", fn := fun _ => fun
  | [d] => { results := [.lit (.bool true)], args := [d] }
  | _ => none }
def guardProtectsRow : OpenClaim := { program := "ytlaelknibcehdaa", sum := "11f57f7ce1b14f75588461684606983e030a46d69a03c86c1e56f08d37074ddf", func := "turnpike/turnpikelaw08.GuardProtects", spec := "guardProtects", apart := false }
def GuardProtectsSaid : Prop := guardProtectsRow.holds Try.pinned (OpenSpec.ofChange guardProtectsSpec)

/-- ITS FALSE NEIGHBOUR: 'it returns false'. Refute it at one input. -/
def guardProtectsWrong : ChangeSpec := { name := "guardProtects", fn := fun _ => fun
  | [d] => { results := [.lit (.bool false)], args := [d] }
  | _ => none }
def GuardProtectsWrongFalsely : Prop := guardProtectsRow.holds Try.pinned (OpenSpec.ofChange guardProtectsWrong)

/-- 'turnpikelaw08.GuardUnprotects': WHATEVER THE INPUT: true; the input reads as it did. -/
def guardUnprotectsSpec : ChangeSpec := { name := "guardUnprotects", fn := fun _ => fun
  | [d] => { results := [.lit (.bool true)], args := [d] }
  | _ => none }
def guardUnprotectsRow : OpenClaim := { program := "ytlaelknibcehdaa", sum := "11f57f7ce1b14f75588461684606983e030a46d69a03c86c1e56f08d37074ddf", func := "turnpike/turnpikelaw08.GuardUnprotects", spec := "guardUnprotects", apart := false }
def GuardUnprotectsSaid : Prop := guardUnprotectsRow.holds Try.pinned (OpenSpec.ofChange guardUnprotectsSpec)

/-- ITS FALSE NEIGHBOUR: 'it returns false'. Refute it at one input. -/
def guardUnprotectsWrong : ChangeSpec := { name := "guardUnprotects", fn := fun _ => fun
  | [d] => { results := [.lit (.bool false)], args := [d] }
  | _ => none }
def GuardUnprotectsWrongFalsely : Prop := guardUnprotectsRow.holds Try.pinned (OpenSpec.ofChange guardUnprotectsWrong)

/-- 'turnpikelaw08.GuardBack': WHATEVER THE INPUT: true; the input reads as it did. -/
def guardBackSpec : ChangeSpec := { name := "guardBack", fn := fun _ => fun
  | [d] => { results := [.lit (.bool true)], args := [d] }
  | _ => none }
def guardBackRow : OpenClaim := { program := "ytlaelknibcehdaa", sum := "11f57f7ce1b14f75588461684606983e030a46d69a03c86c1e56f08d37074ddf", func := "turnpike/turnpikelaw08.GuardBack", spec := "guardBack", apart := false }
def GuardBackSaid : Prop := guardBackRow.holds Try.pinned (OpenSpec.ofChange guardBackSpec)

/-- ITS FALSE NEIGHBOUR: 'it returns false'. Refute it at one input. -/
def guardBackWrong : ChangeSpec := { name := "guardBack", fn := fun _ => fun
  | [d] => { results := [.lit (.bool false)], args := [d] }
  | _ => none }
def GuardBackWrongFalsely : Prop := guardBackRow.holds Try.pinned (OpenSpec.ofChange guardBackWrong)

/-- 'turnpikelaw08.GuardKeys': WHATEVER THE INPUT: true; the input reads as it did. -/
def guardKeysSpec : ChangeSpec := { name := "guardKeys", fn := fun _ => fun
  | [d1, d2] => { results := [.lit (.bool true)], args := [d1, d2] }
  | _ => none }
def guardKeysRow : OpenClaim := { program := "ytlaelknibcehdaa", sum := "11f57f7ce1b14f75588461684606983e030a46d69a03c86c1e56f08d37074ddf", func := "turnpike/turnpikelaw08.GuardKeys", spec := "guardKeys", apart := false }
def GuardKeysSaid : Prop := guardKeysRow.holds Try.pinned (OpenSpec.ofChange guardKeysSpec)

/-- ITS FALSE NEIGHBOUR: 'it returns false'. Refute it at one input. -/
def guardKeysWrong : ChangeSpec := { name := "guardKeys", fn := fun _ => fun
  | [d1, d2] => { results := [.lit (.bool false)], args := [d1, d2] }
  | _ => none }
def GuardKeysWrongFalsely : Prop := guardKeysRow.holds Try.pinned (OpenSpec.ofChange guardKeysWrong)

/-- 'turnpikelaw08.GuardOpens': WHATEVER THE INPUT: true; the input reads as it did. -/
def guardOpensSpec : ChangeSpec := { name := "guardOpens", fn := fun _ => fun
  | [d1, d2] => { results := [.lit (.bool true)], args := [d1, d2] }
  | _ => none }
def guardOpensRow : OpenClaim := { program := "ytlaelknibcehdaa", sum := "11f57f7ce1b14f75588461684606983e030a46d69a03c86c1e56f08d37074ddf", func := "turnpike/turnpikelaw08.GuardOpens", spec := "guardOpens", apart := false }
def GuardOpensSaid : Prop := guardOpensRow.holds Try.pinned (OpenSpec.ofChange guardOpensSpec)

/-- ITS FALSE NEIGHBOUR: 'it returns false'. Refute it at one input. -/
def guardOpensWrong : ChangeSpec := { name := "guardOpens", fn := fun _ => fun
  | [d1, d2] => { results := [.lit (.bool false)], args := [d1, d2] }
  | _ => none }
def GuardOpensWrongFalsely : Prop := guardOpensRow.holds Try.pinned (OpenSpec.ofChange guardOpensWrong)

/-- 'turnpikelaw08.GuardTurns': WHATEVER THE INPUT: true; the input reads as it did. -/
def guardTurnsSpec : ChangeSpec := { name := "guardTurns", fn := fun _ => fun
  | [d1, d2] => { results := [.lit (.bool true)], args := [d1, d2] }
  | _ => none }
def guardTurnsRow : OpenClaim := { program := "ytlaelknibcehdaa", sum := "11f57f7ce1b14f75588461684606983e030a46d69a03c86c1e56f08d37074ddf", func := "turnpike/turnpikelaw08.GuardTurns", spec := "guardTurns", apart := false }
def GuardTurnsSaid : Prop := guardTurnsRow.holds Try.pinned (OpenSpec.ofChange guardTurnsSpec)

/-- ITS FALSE NEIGHBOUR: 'it returns false'. Refute it at one input. -/
def guardTurnsWrong : ChangeSpec := { name := "guardTurns", fn := fun _ => fun
  | [d1, d2] => { results := [.lit (.bool false)], args := [d1, d2] }
  | _ => none }
def GuardTurnsWrongFalsely : Prop := guardTurnsRow.holds Try.pinned (OpenSpec.ofChange guardTurnsWrong)

/- THE SECOND FORM. 'bulk': how many values and letters a reading holds, each counted each time it is reached (what is shared counts as often as it is met; a slice's spare places count too). A statement '..UptoSaid' is the law's where the arguments, and the package variables that the reading takes, are together of bulk at most 1048576: NARROWER than '..Said'. Prove '..Said' where nothing that the law and all that it calls make is longer than what came in: it says more and counts as full. Else prove '..UptoSaid'. A law counts once. -/
mutual
def uptoBulk {H : Type} : DataW H → Nat
  | .lit (.string bytes) => bytes.length + 1
  | .lit _ => 1
  | .nil => 1
  | .ptr d => uptoBulk d + 1
  | .slice elems spare => uptoBulkAll elems + uptoBulkAll spare + 1
  | .agg parts => uptoBulkAll parts + 1
  | .iface _ d => uptoBulk d + 1
  | .map entries => uptoBulkEntries entries + 1
  | .held _ => 1
def uptoBulkAll {H : Type} : List (DataW H) → Nat
  | [] => 0
  | d :: r => uptoBulk d + uptoBulkAll r
def uptoBulkEntries {H : Type} : List (Lit × DataW H) → Nat
  | [] => 0
  | x :: r => uptoBulkEntry x + uptoBulkEntries r
def uptoBulkEntry {H : Type} : Lit × DataW H → Nat
  | (.string bytes, d) => bytes.length + uptoBulk d + 1
  | (_, d) => uptoBulk d + 1
 end
def uptoSmall : (H : Type) → List (DataW H) → Bool := fun _ ds => decide (uptoBulkAll ds ≤ 1048576)
def OpenSpec.upto (s : _root_.Go.ChangeSpec) : _root_.Go.OpenSpec := { _root_.Go.OpenSpec.ofChange s with cond := some uptoSmall }

/-- 'turnpikelaw08.GuardProtects', WHERE WHAT IT READS IS OF BULK AT MOST 1048576: true; the input reads as it did. -/
def guardProtectsUptoRow : OpenClaim := { program := "ytlaelknibcehdaa", sum := "11f57f7ce1b14f75588461684606983e030a46d69a03c86c1e56f08d37074ddf", func := "turnpike/turnpikelaw08.GuardProtects", spec := "guardProtects", apart := false, narrowed := true }
def GuardProtectsUptoSaid : Prop := guardProtectsUptoRow.holds Try.pinned (OpenSpec.upto guardProtectsSpec)

/-- 'turnpikelaw08.GuardUnprotects', WHERE WHAT IT READS IS OF BULK AT MOST 1048576: true; the input reads as it did. -/
def guardUnprotectsUptoRow : OpenClaim := { program := "ytlaelknibcehdaa", sum := "11f57f7ce1b14f75588461684606983e030a46d69a03c86c1e56f08d37074ddf", func := "turnpike/turnpikelaw08.GuardUnprotects", spec := "guardUnprotects", apart := false, narrowed := true }
def GuardUnprotectsUptoSaid : Prop := guardUnprotectsUptoRow.holds Try.pinned (OpenSpec.upto guardUnprotectsSpec)

/-- 'turnpikelaw08.GuardBack', WHERE WHAT IT READS IS OF BULK AT MOST 1048576: true; the input reads as it did. -/
def guardBackUptoRow : OpenClaim := { program := "ytlaelknibcehdaa", sum := "11f57f7ce1b14f75588461684606983e030a46d69a03c86c1e56f08d37074ddf", func := "turnpike/turnpikelaw08.GuardBack", spec := "guardBack", apart := false, narrowed := true }
def GuardBackUptoSaid : Prop := guardBackUptoRow.holds Try.pinned (OpenSpec.upto guardBackSpec)

/-- 'turnpikelaw08.GuardKeys', WHERE WHAT IT READS IS OF BULK AT MOST 1048576: true; the input reads as it did. -/
def guardKeysUptoRow : OpenClaim := { program := "ytlaelknibcehdaa", sum := "11f57f7ce1b14f75588461684606983e030a46d69a03c86c1e56f08d37074ddf", func := "turnpike/turnpikelaw08.GuardKeys", spec := "guardKeys", apart := false, narrowed := true }
def GuardKeysUptoSaid : Prop := guardKeysUptoRow.holds Try.pinned (OpenSpec.upto guardKeysSpec)

/-- 'turnpikelaw08.GuardOpens', WHERE WHAT IT READS IS OF BULK AT MOST 1048576: true; the input reads as it did. -/
def guardOpensUptoRow : OpenClaim := { program := "ytlaelknibcehdaa", sum := "11f57f7ce1b14f75588461684606983e030a46d69a03c86c1e56f08d37074ddf", func := "turnpike/turnpikelaw08.GuardOpens", spec := "guardOpens", apart := false, narrowed := true }
def GuardOpensUptoSaid : Prop := guardOpensUptoRow.holds Try.pinned (OpenSpec.upto guardOpensSpec)

/-- 'turnpikelaw08.GuardTurns', WHERE WHAT IT READS IS OF BULK AT MOST 1048576: true; the input reads as it did. -/
def guardTurnsUptoRow : OpenClaim := { program := "ytlaelknibcehdaa", sum := "11f57f7ce1b14f75588461684606983e030a46d69a03c86c1e56f08d37074ddf", func := "turnpike/turnpikelaw08.GuardTurns", spec := "guardTurns", apart := false, narrowed := true }
def GuardTurnsUptoSaid : Prop := guardTurnsUptoRow.holds Try.pinned (OpenSpec.upto guardTurnsSpec)

end Rows
end Go.Proofs.Ytlaelknibcehdaa
