/-
  No cell of these rows narrows 'for every input' (looked for: loops, veiled, ifaces, maps, wideKeys, modest, calm, conditions, laid).
  DERIVED. THE GIVEN ROWS OF THIS SEAT. 4 by the template 'for every input the law returns true; each argument reads behind the call as it read before'; 0 by the template 'total and deterministic' (their statements: YtnhkeghahiedfaaTotals.lean).
  GIVEN WITH THE SEED: the statements are not yours to turn. If you find one false, say at which input.
  Laid BY PROGRAM, IN A SANDBOX (cutbox-rows.mjs): the forced cells as the released guide's own fill.sh prints them over the translation 487354ed2cf04e99… (all of the seat's roots in one cut). By AI agents, Wed Nov 11 2026. No macro, syntax, notation, axiom, sorry.
-/
import Derived.Test.YtnhkeghahiedfaaChecked
import GoSem.Claim
import GoSem.ClaimJoined
import GoSem.ClaimMapViews
import Derived.JoinedTies
import Derived.KernelRfl
namespace Go.Proofs.Ytnhkeghahiedfaa
/- THE CELL 'sum', in the pinned program and in every row, IS THE sha256 OF THE DUMP (.gsa) THAT YtnhkeghahiedfaaProg.lean LOADS. Nothing in Lean hashes anything: it is a label: what it is worth is what the hold of that sum in a sandbox is worth. -/
noncomputable def Try.pinned : Pinned := { name := "ytnhkeghahiedfaa", sum := "487354ed2cf04e99f2aadd595b7ab15d3cf986fb4782ebf639d1ac748f875049", checked := Try.checked }
namespace Rows
def none {H : Type} : Left H := { results := [], args := [] }

/-- 'turnpikelaw13.RouteApart': WHATEVER THE INPUT: true; the input reads as it did. -/
def routeApartSpec : ChangeSpec := { name := "routeApart", fn := fun _ => fun
  | [d] => { results := [.lit (.bool true)], args := [d] }
  | _ => none }
def routeApartRow : OpenClaim := { program := "ytnhkeghahiedfaa", sum := "487354ed2cf04e99f2aadd595b7ab15d3cf986fb4782ebf639d1ac748f875049", func := "turnpike/turnpikelaw13.RouteApart", spec := "routeApart", unfollowed := true, recurses := true, apart := false }
def RouteApartSaid : Prop := routeApartRow.holds Try.pinned (OpenSpec.ofChange routeApartSpec)

/-- ITS FALSE NEIGHBOUR: 'it returns false'. Refute it at one input. -/
def routeApartWrong : ChangeSpec := { name := "routeApart", fn := fun _ => fun
  | [d] => { results := [.lit (.bool false)], args := [d] }
  | _ => none }
def RouteApartWrongFalsely : Prop := routeApartRow.holds Try.pinned (OpenSpec.ofChange routeApartWrong)

/-- 'turnpikelaw13.RouteIds': WHATEVER THE INPUT: true; the input reads as it did. -/
def routeIdsSpec : ChangeSpec := { name := "routeIds", fn := fun _ => fun
  | [d] => { results := [.lit (.bool true)], args := [d] }
  | _ => none }
def routeIdsRow : OpenClaim := { program := "ytnhkeghahiedfaa", sum := "487354ed2cf04e99f2aadd595b7ab15d3cf986fb4782ebf639d1ac748f875049", func := "turnpike/turnpikelaw13.RouteIds", spec := "routeIds", unfollowed := true, recurses := true, apart := false }
def RouteIdsSaid : Prop := routeIdsRow.holds Try.pinned (OpenSpec.ofChange routeIdsSpec)

/-- ITS FALSE NEIGHBOUR: 'it returns false'. Refute it at one input. -/
def routeIdsWrong : ChangeSpec := { name := "routeIds", fn := fun _ => fun
  | [d] => { results := [.lit (.bool false)], args := [d] }
  | _ => none }
def RouteIdsWrongFalsely : Prop := routeIdsRow.holds Try.pinned (OpenSpec.ofChange routeIdsWrong)

/-- 'turnpikelaw13.RouteProves': WHATEVER THE INPUT: true; the input reads as it did. -/
def routeProvesSpec : ChangeSpec := { name := "routeProves", fn := fun _ => fun
  | [d] => { results := [.lit (.bool true)], args := [d] }
  | _ => none }
def routeProvesRow : OpenClaim := { program := "ytnhkeghahiedfaa", sum := "487354ed2cf04e99f2aadd595b7ab15d3cf986fb4782ebf639d1ac748f875049", func := "turnpike/turnpikelaw13.RouteProves", spec := "routeProves", unfollowed := true, recurses := true, apart := false }
def RouteProvesSaid : Prop := routeProvesRow.holds Try.pinned (OpenSpec.ofChange routeProvesSpec)

/-- ITS FALSE NEIGHBOUR: 'it returns false'. Refute it at one input. -/
def routeProvesWrong : ChangeSpec := { name := "routeProves", fn := fun _ => fun
  | [d] => { results := [.lit (.bool false)], args := [d] }
  | _ => none }
def RouteProvesWrongFalsely : Prop := routeProvesRow.holds Try.pinned (OpenSpec.ofChange routeProvesWrong)

/-- 'turnpikelaw13.RouteAsked': WHATEVER THE INPUT: true; the input reads as it did. -/
def routeAskedSpec : ChangeSpec := { name := "routeAsked", fn := fun _ => fun
  | [d] => { results := [.lit (.bool true)], args := [d] }
  | _ => none }
def routeAskedRow : OpenClaim := { program := "ytnhkeghahiedfaa", sum := "487354ed2cf04e99f2aadd595b7ab15d3cf986fb4782ebf639d1ac748f875049", func := "turnpike/turnpikelaw13.RouteAsked", spec := "routeAsked", unfollowed := true, recurses := true, apart := false }
def RouteAskedSaid : Prop := routeAskedRow.holds Try.pinned (OpenSpec.ofChange routeAskedSpec)

/-- ITS FALSE NEIGHBOUR: 'it returns false'. Refute it at one input. -/
def routeAskedWrong : ChangeSpec := { name := "routeAsked", fn := fun _ => fun
  | [d] => { results := [.lit (.bool false)], args := [d] }
  | _ => none }
def RouteAskedWrongFalsely : Prop := routeAskedRow.holds Try.pinned (OpenSpec.ofChange routeAskedWrong)

/- THE SECOND FORM. 'bulk': how many values and letters a reading holds, each counted each time it is reached (what is shared counts as often as it is met; a slice's spare places count too). A statement '..UptoSaid' is the law's where the arguments, and the package variables that the reading takes, are together of bulk at most 1048576: NARROWER than '..Said'. Prove '..Said' where nothing that the law and all that it calls make is longer than what came in: it says more and counts as full. Else prove '..UptoSaid'. A law counts once. -/
mutual
def uptoBulk {H : Type} : DataW H → Nat
  | .lit (.string bytes) => bytes.length + 1
  | .lit _ => 1
  | .nil => 1
  | .ptr d => uptoBulk d + 1
  | .slice elems spare => uptoBulkAll elems + uptoBulkAll spare + 1
  | .agg parts => uptoBulkAll parts + 1
  | .iface _ d => uptoBulk d + 1
  | .map entries => uptoBulkEntries entries + 1
  | .held _ => 1
def uptoBulkAll {H : Type} : List (DataW H) → Nat
  | [] => 0
  | d :: r => uptoBulk d + uptoBulkAll r
def uptoBulkEntries {H : Type} : List (Lit × DataW H) → Nat
  | [] => 0
  | x :: r => uptoBulkEntry x + uptoBulkEntries r
def uptoBulkEntry {H : Type} : Lit × DataW H → Nat
  | (.string bytes, d) => bytes.length + uptoBulk d + 1
  | (_, d) => uptoBulk d + 1
 end
def uptoSmall : (H : Type) → List (DataW H) → Bool := fun _ ds => decide (uptoBulkAll ds ≤ 1048576)
def OpenSpec.upto (s : _root_.Go.ChangeSpec) : _root_.Go.OpenSpec := { _root_.Go.OpenSpec.ofChange s with cond := some uptoSmall }

/-- 'turnpikelaw13.RouteApart', WHERE WHAT IT READS IS OF BULK AT MOST 1048576: true; the input reads as it did. -/
def routeApartUptoRow : OpenClaim := { program := "ytnhkeghahiedfaa", sum := "487354ed2cf04e99f2aadd595b7ab15d3cf986fb4782ebf639d1ac748f875049", func := "turnpike/turnpikelaw13.RouteApart", spec := "routeApart", unfollowed := true, recurses := true, apart := false, narrowed := true }
def RouteApartUptoSaid : Prop := routeApartUptoRow.holds Try.pinned (OpenSpec.upto routeApartSpec)

/-- 'turnpikelaw13.RouteIds', WHERE WHAT IT READS IS OF BULK AT MOST 1048576: true; the input reads as it did. -/
def routeIdsUptoRow : OpenClaim := { program := "ytnhkeghahiedfaa", sum := "487354ed2cf04e99f2aadd595b7ab15d3cf986fb4782ebf639d1ac748f875049", func := "turnpike/turnpikelaw13.RouteIds", spec := "routeIds", unfollowed := true, recurses := true, apart := false, narrowed := true }
def RouteIdsUptoSaid : Prop := routeIdsUptoRow.holds Try.pinned (OpenSpec.upto routeIdsSpec)

/-- 'turnpikelaw13.RouteProves', WHERE WHAT IT READS IS OF BULK AT MOST 1048576: true; the input reads as it did. -/
def routeProvesUptoRow : OpenClaim := { program := "ytnhkeghahiedfaa", sum := "487354ed2cf04e99f2aadd595b7ab15d3cf986fb4782ebf639d1ac748f875049", func := "turnpike/turnpikelaw13.RouteProves", spec := "routeProves", unfollowed := true, recurses := true, apart := false, narrowed := true }
def RouteProvesUptoSaid : Prop := routeProvesUptoRow.holds Try.pinned (OpenSpec.upto routeProvesSpec)

/-- 'turnpikelaw13.RouteAsked', WHERE WHAT IT READS IS OF BULK AT MOST 1048576: true; the input reads as it did. -/
def routeAskedUptoRow : OpenClaim := { program := "ytnhkeghahiedfaa", sum := "487354ed2cf04e99f2aadd595b7ab15d3cf986fb4782ebf639d1ac748f875049", func := "turnpike/turnpikelaw13.RouteAsked", spec := "routeAsked", unfollowed := true, recurses := true, apart := false, narrowed := true }
def RouteAskedUptoSaid : Prop := routeAskedUptoRow.holds Try.pinned (OpenSpec.upto routeAskedSpec)

end Rows
end Go.Proofs.Ytnhkeghahiedfaa
