/-
  No cell of these rows narrows 'for every input' (looked for: loops, veiled, ifaces, maps, wideKeys, modest, calm, conditions, laid).
  DERIVED. THE GIVEN ROWS OF THIS SEAT. 4 by the template 'for every input the law returns true; each argument reads behind the call as it read before'; 0 by the template 'total and deterministic' (their statements: YtekbimbohppfoaaTotals.lean).
  GIVEN WITH THE SEED: the statements are not yours to turn. If you find one false, say at which input.
  Laid BY PROGRAM, IN A SANDBOX (cutbox-rows.mjs): the forced cells as the released guide's own fill.sh prints them over the translation b563fa7638e7068c… (all of the seat's roots in one cut). By AI agents, Wed Nov 11 2026. No macro, syntax, notation, axiom, sorry.
-/
import Derived.Test.YtekbimbohppfoaaChecked
import GoSem.Claim
import GoSem.ClaimJoined
import GoSem.ClaimMapViews
import Derived.JoinedTies
import Derived.KernelRfl
namespace Go.Proofs.Ytekbimbohppfoaa
/- THE CELL 'sum', in the pinned program and in every row, IS THE sha256 OF THE DUMP (.gsa) THAT YtekbimbohppfoaaProg.lean LOADS. Nothing in Lean hashes anything: it is a label: what it is worth is what the hold of that sum in a sandbox is worth. -/
noncomputable def Try.pinned : Pinned := { name := "ytekbimbohppfoaa", sum := "b563fa7638e7068c08b27639928d13d0bf81ca4e7bf1fb696eb45881be4bf975", checked := Try.checked }
namespace Rows
def none {H : Type} : Left H := { results := [], args := [] }

/-- 'turnpikelaw21.PoolSpreads': WHATEVER THE INPUT: true; the input reads as it did. -/
def poolSpreadsSpec : ChangeSpec := { name := "poolSpreads", fn := fun _ => fun
  | [d1, d2] => { results := [.lit (.bool true)], args := [d1, d2] }
  | _ => none }
def poolSpreadsRow : OpenClaim := { program := "ytekbimbohppfoaa", sum := "b563fa7638e7068c08b27639928d13d0bf81ca4e7bf1fb696eb45881be4bf975", func := "turnpike/turnpikelaw21.PoolSpreads", spec := "poolSpreads", unfollowed := true, recurses := true, apart := false }
def PoolSpreadsSaid : Prop := poolSpreadsRow.holds Try.pinned (OpenSpec.ofChange poolSpreadsSpec)

/-- ITS FALSE NEIGHBOUR: 'it returns false'. Refute it at one input. -/
def poolSpreadsWrong : ChangeSpec := { name := "poolSpreads", fn := fun _ => fun
  | [d1, d2] => { results := [.lit (.bool false)], args := [d1, d2] }
  | _ => none }
def PoolSpreadsWrongFalsely : Prop := poolSpreadsRow.holds Try.pinned (OpenSpec.ofChange poolSpreadsWrong)

/-- 'turnpikelaw21.PoolRests': WHATEVER THE INPUT: true; the input reads as it did. -/
def poolRestsSpec : ChangeSpec := { name := "poolRests", fn := fun _ => fun
  | [d1, d2, d3] => { results := [.lit (.bool true)], args := [d1, d2, d3] }
  | _ => none }
def poolRestsRow : OpenClaim := { program := "ytekbimbohppfoaa", sum := "b563fa7638e7068c08b27639928d13d0bf81ca4e7bf1fb696eb45881be4bf975", func := "turnpike/turnpikelaw21.PoolRests", spec := "poolRests", unfollowed := true, recurses := true, apart := false }
def PoolRestsSaid : Prop := poolRestsRow.holds Try.pinned (OpenSpec.ofChange poolRestsSpec)

/-- ITS FALSE NEIGHBOUR: 'it returns false'. Refute it at one input. -/
def poolRestsWrong : ChangeSpec := { name := "poolRests", fn := fun _ => fun
  | [d1, d2, d3] => { results := [.lit (.bool false)], args := [d1, d2, d3] }
  | _ => none }
def PoolRestsWrongFalsely : Prop := poolRestsRow.holds Try.pinned (OpenSpec.ofChange poolRestsWrong)

/-- 'turnpikelaw21.PoolTurns': WHATEVER THE INPUT: true; the input reads as it did. -/
def poolTurnsSpec : ChangeSpec := { name := "poolTurns", fn := fun _ => fun
  | [d1, d2] => { results := [.lit (.bool true)], args := [d1, d2] }
  | _ => none }
def poolTurnsRow : OpenClaim := { program := "ytekbimbohppfoaa", sum := "b563fa7638e7068c08b27639928d13d0bf81ca4e7bf1fb696eb45881be4bf975", func := "turnpike/turnpikelaw21.PoolTurns", spec := "poolTurns", unfollowed := true, recurses := true, apart := false }
def PoolTurnsSaid : Prop := poolTurnsRow.holds Try.pinned (OpenSpec.ofChange poolTurnsSpec)

/-- ITS FALSE NEIGHBOUR: 'it returns false'. Refute it at one input. -/
def poolTurnsWrong : ChangeSpec := { name := "poolTurns", fn := fun _ => fun
  | [d1, d2] => { results := [.lit (.bool false)], args := [d1, d2] }
  | _ => none }
def PoolTurnsWrongFalsely : Prop := poolTurnsRow.holds Try.pinned (OpenSpec.ofChange poolTurnsWrong)

/-- 'turnpikelaw21.PoolAlone': WHATEVER THE INPUT: true; the input reads as it did. -/
def poolAloneSpec : ChangeSpec := { name := "poolAlone", fn := fun _ => fun
  | [d1, d2] => { results := [.lit (.bool true)], args := [d1, d2] }
  | _ => none }
def poolAloneRow : OpenClaim := { program := "ytekbimbohppfoaa", sum := "b563fa7638e7068c08b27639928d13d0bf81ca4e7bf1fb696eb45881be4bf975", func := "turnpike/turnpikelaw21.PoolAlone", spec := "poolAlone", unfollowed := true, recurses := true, apart := false }
def PoolAloneSaid : Prop := poolAloneRow.holds Try.pinned (OpenSpec.ofChange poolAloneSpec)

/-- ITS FALSE NEIGHBOUR: 'it returns false'. Refute it at one input. -/
def poolAloneWrong : ChangeSpec := { name := "poolAlone", fn := fun _ => fun
  | [d1, d2] => { results := [.lit (.bool false)], args := [d1, d2] }
  | _ => none }
def PoolAloneWrongFalsely : Prop := poolAloneRow.holds Try.pinned (OpenSpec.ofChange poolAloneWrong)

/- THE SECOND FORM. 'bulk': how many values and letters a reading holds, each counted each time it is reached (what is shared counts as often as it is met; a slice's spare places count too). A statement '..UptoSaid' is the law's where the arguments, and the package variables that the reading takes, are together of bulk at most 1048576: NARROWER than '..Said'. Prove '..Said' where nothing that the law and all that it calls make is longer than what came in: it says more and counts as full. Else prove '..UptoSaid'. A law counts once. -/
mutual
def uptoBulk {H : Type} : DataW H → Nat
  | .lit (.string bytes) => bytes.length + 1
  | .lit _ => 1
  | .nil => 1
  | .ptr d => uptoBulk d + 1
  | .slice elems spare => uptoBulkAll elems + uptoBulkAll spare + 1
  | .agg parts => uptoBulkAll parts + 1
  | .iface _ d => uptoBulk d + 1
  | .map entries => uptoBulkEntries entries + 1
  | .held _ => 1
def uptoBulkAll {H : Type} : List (DataW H) → Nat
  | [] => 0
  | d :: r => uptoBulk d + uptoBulkAll r
def uptoBulkEntries {H : Type} : List (Lit × DataW H) → Nat
  | [] => 0
  | x :: r => uptoBulkEntry x + uptoBulkEntries r
def uptoBulkEntry {H : Type} : Lit × DataW H → Nat
  | (.string bytes, d) => bytes.length + uptoBulk d + 1
  | (_, d) => uptoBulk d + 1
 end
def uptoSmall : (H : Type) → List (DataW H) → Bool := fun _ ds => decide (uptoBulkAll ds ≤ 1048576)
def OpenSpec.upto (s : _root_.Go.ChangeSpec) : _root_.Go.OpenSpec := { _root_.Go.OpenSpec.ofChange s with cond := some uptoSmall }

/-- 'turnpikelaw21.PoolSpreads', WHERE WHAT IT READS IS OF BULK AT MOST 1048576: true; the input reads as it did. -/
def poolSpreadsUptoRow : OpenClaim := { program := "ytekbimbohppfoaa", sum := "b563fa7638e7068c08b27639928d13d0bf81ca4e7bf1fb696eb45881be4bf975", func := "turnpike/turnpikelaw21.PoolSpreads", spec := "poolSpreads", unfollowed := true, recurses := true, apart := false, narrowed := true }
def PoolSpreadsUptoSaid : Prop := poolSpreadsUptoRow.holds Try.pinned (OpenSpec.upto poolSpreadsSpec)

/-- 'turnpikelaw21.PoolRests', WHERE WHAT IT READS IS OF BULK AT MOST 1048576: true; the input reads as it did. -/
def poolRestsUptoRow : OpenClaim := { program := "ytekbimbohppfoaa", sum := "b563fa7638e7068c08b27639928d13d0bf81ca4e7bf1fb696eb45881be4bf975", func := "turnpike/turnpikelaw21.PoolRests", spec := "poolRests", unfollowed := true, recurses := true, apart := false, narrowed := true }
def PoolRestsUptoSaid : Prop := poolRestsUptoRow.holds Try.pinned (OpenSpec.upto poolRestsSpec)

/-- 'turnpikelaw21.PoolTurns', WHERE WHAT IT READS IS OF BULK AT MOST 1048576: true; the input reads as it did. -/
def poolTurnsUptoRow : OpenClaim := { program := "ytekbimbohppfoaa", sum := "b563fa7638e7068c08b27639928d13d0bf81ca4e7bf1fb696eb45881be4bf975", func := "turnpike/turnpikelaw21.PoolTurns", spec := "poolTurns", unfollowed := true, recurses := true, apart := false, narrowed := true }
def PoolTurnsUptoSaid : Prop := poolTurnsUptoRow.holds Try.pinned (OpenSpec.upto poolTurnsSpec)

/-- 'turnpikelaw21.PoolAlone', WHERE WHAT IT READS IS OF BULK AT MOST 1048576: true; the input reads as it did. -/
def poolAloneUptoRow : OpenClaim := { program := "ytekbimbohppfoaa", sum := "b563fa7638e7068c08b27639928d13d0bf81ca4e7bf1fb696eb45881be4bf975", func := "turnpike/turnpikelaw21.PoolAlone", spec := "poolAlone", unfollowed := true, recurses := true, apart := false, narrowed := true }
def PoolAloneUptoSaid : Prop := poolAloneUptoRow.holds Try.pinned (OpenSpec.upto poolAloneSpec)

end Rows
end Go.Proofs.Ytekbimbohppfoaa
