/- slices.Backward over bytes: what its closure does. -/
import Derived.RangeFuncWrites
import Derived.RangeFuncBox
import Derived.RangeFuncLeaves
import Derived.Shelf.Abstract
import Derived.Shelf.RegionOpen
import Derived.WalkKit
import Derived.OwnWalkIn
import Derived.TacticsInMore
import Derived.LoopNIn
import Derived.LoopIn
import Derived.Test.YtaknehiifafhfaaProg
namespace Go.Proofs.Ytaknehiifafhfaa
open Go Go.Proofs Go.RowKit Go.Shelf
attribute [local go_sem] Oper.semAt_some

/-- The places that have come when k rounds are over. -/
def down (len k : Nat) : List Nat := (List.range k).map fun j => len - 1 - j
theorem down_succ (len k : Nat) : down len (k + 1) = down len k ++ [len - 1 - k] := by simp [down, List.range_succ]

/-- What the closure reads: the slice in its box, a byte at each of its places. -/
def BackQ (B R len cap : Nat) (W : World) : Prop := W.cell? ⟨B, 0, none⟩ = some (.slice (some ⟨R, 0, none⟩) len cap) ∧ ∀ j, j < len → ∃ x : UInt8, W.cell? ⟨R, j, none⟩ = some (.int .u8 x.toNat)

set_option maxRecDepth 100000 in
set_option maxHeartbeats 2000000 in
theorem back1_in (n : Nat) (hn : 1 ≤ n) (l B R len cap : Nat) (hlen : len ≤ 281474976710656) (J Jx : List ({i : Nat // i < len} × UInt8) → World → Prop)
    (hY : ∀ pre x W, J pre W → pre.length < len → YieldAt Fence.wide (n - 1) Try.prog l #[.int .i64 (x.1.val : Int), .int .u8 x.2.toNat] W fun e W' =>
      (e = .returned (.bool true) ∧ J (pre ++ [x]) W' ∧ (BackQ B R len cap W → BackQ B R len cap W')) ∨ (e = .returned (.bool false) ∧ Jx (pre ++ [x]) W'))
    (W : World) (hQ : BackQ B R len cap W) (h0 : J [] W) :
    CallsIn Fence.wide n Try.prog 53 #[.func (.yield l) #[] #[], .pointer (some ⟨B, 0, none⟩)] W fun e W' => (∃ v, e = .returned v) ∧
      ((∃ ys, ys.map (fun x => x.1.val) = down len len ∧ J ys W') ∨ (∃ pre, True ∧ Jx pre W')) := by
  refine callsIn_of_wp Try.func53 rfl trivial ?_ rfl
  simp only [Try.ntmps53, List.size_toArray, List.length_cons, List.length_nil, Nat.reduceAdd, Nat.reduceSub, Array.replicate_succ, Array.replicate_zero, List.push_toArray, List.append_toArray, List.nil_append, List.cons_append]
  have hb := hQ.1
  gi_wp2
  gi_loopw [3] (fun i wr => ∃ pre : List ({i : Nat // i < len} × UInt8), pre.length ≤ len ∧ i = .int .i64 ((len : Int) - 1 - pre.length) ∧ pre.map (fun x => x.1.val) = down len pre.length ∧ J pre wr ∧ BackQ B R len cap wr)
    (fun i _ => (intOf i + 1).toNat)
  case atStart => exact ⟨[], Nat.zero_le _, by simp, rfl, h0, hQ⟩
  case round =>
    obtain ⟨pre, hk, rfl, hd, hJs, hqs⟩ := hrel
    have hb' := hqs.1
    by_cases hlt : pre.length < len
    · obtain ⟨i, hi⟩ : ∃ i : Nat, i = len - 1 - pre.length := ⟨_, rfl⟩
      have hii : (len : Int) - 1 - pre.length = i := by omega
      have hil : i < len := by omega
      obtain ⟨x, hx⟩ := hqs.2 i hil
      rw [hii]
      have hsum : i + (pre.length + 1) = len := by omega
      clear hii hi
      obtain ⟨fn, tmps, assign, body, hy, hR⟩ := hY pre (⟨i, hil⟩, x) wr hJs hlt
      dsimp only at hy
      gi_wp2
      refine hR.mono ?_
      rintro e W3 (⟨rfl, hJ3, hk3⟩ | ⟨rfl, hJx3⟩)
      · have hq3 := hk3 hqs
        gi_wp2
        go_roundw
        case rel => exact ⟨pre ++ [(⟨i, hil⟩, x)], by simp; omega, by simp; omega, by rw [List.map_append, hd, List.length_append]; simp [down_succ]; omega, hJ3, hq3⟩
        case measure => simp [intOf]
      · gi_wp2
        refine bodyPost_ret (results_none rfl _ _ _) rfl ?_
        exact ⟨⟨_, rfl⟩, .inr ⟨_, trivial, hJx3⟩⟩
    · obtain hpe : pre.length = len := by omega
      have hii : (len : Int) - 1 - pre.length = -1 := by omega
      rw [hii]
      clear hii
      gi_wp2
      go_end0
      exact ⟨⟨_, rfl⟩, .inl ⟨pre, by rw [hd, hpe], hJs⟩⟩
end Go.Proofs.Ytaknehiifafhfaa
