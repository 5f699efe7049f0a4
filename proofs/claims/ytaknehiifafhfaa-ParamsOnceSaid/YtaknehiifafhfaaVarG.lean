/- The class and the size of a number; the reference's Put and Get. -/
import Derived.Test.YtaknehiifafhfaaVarD
import Derived.Test.YtaknehiifafhfaaVarE
namespace Go.Proofs.Ytaknehiifafhfaa
open Go.Proofs
set_option maxRecDepth 10000

theorem class_spec (n : Int) (hn : -9223372036854775808 ≤ n ∧ n ≤ 9223372036854775807) (G : Mp) : Spec Try.prog 49 #[.int .i64 n] [] G (Ret (.int .i64 (vclass n))) := by
  refine Spec.intro (args := [_]) wide Try.func49 rfl Try.call49 (by rfl) (by rfl) (fun w0 hw0 => ?_)
  have hno : ¬ hasForm n → vclass n = -1 := fun h => by unfold vclass; rw [if_neg h]
  refine vcIf_dec (fun h0 => ?_) (fun h0 => ?_)
  · exact ⟨[], [], MT, .nil, fun _ _ _ => trivial, congrArg (Value.int .i64) (hno (fun h => by unfold hasForm at h; omega)).symm, rfl, rfl⟩
  refine vcIf_dec (fun h1 => ?_) (fun h1 => ?_)
  · exact ⟨[], [], MT, .nil, fun _ _ _ => trivial, congrArg (Value.int .i64) (hno (fun h => by unfold hasForm at h; omega)).symm, rfl, rfl⟩
  obtain ⟨m, rfl⟩ := Int.eq_ofNat_of_zero_le (show 0 ≤ n by omega)
  have hv : vclass (m : Int) = (cls m : Nat) := by unfold vclass; rw [if_pos ⟨by omega, by omega⟩, Int.toNat_natCast]
  have h3 := cls_le m
  refine vcLoop_of (fun c : Nat => 4 - c) (fun c => [(0, .int .i64 m), (3, .int .i64 c)]) (fun _ => []) (fun _ => MT) (fun c => c ≤ cls m) 0 (by omega) ⟨rfl, rfl, trivial⟩ ⟨_, .nil⟩ Ent.refl ?_
  intro c hc
  have hit := cls_iff (n := m) (by omega) c (by omega)
  have hp : 2 ^ c = 1 ∨ 2 ^ c = 2 ∨ 2 ^ c = 4 ∨ 2 ^ c = 8 := by
    match c, (show c ≤ 3 by omega) with
    | 0, _ => simp
    | 1, _ => simp
    | 2, _ => simp
    | 3, _ => simp
  have hpi : (8 : Int) * 2 ^ c = ((8 * 2 ^ c : Nat) : Int) := by simp
  refine vcDraw_mix [0, 1, 3, 4, 5, 2, 6] MT (by kernel_rfl) (fun _ _ => trivial) ?_
  refine vcFit_u64_in (by omega) ?_
  refine vcShl_nat (n := c) (show c ≤ 64 by omega) ?_
  rw [hpi]
  generalize 2 ^ c = p at hit hp
  refine vcFit_i64 (by omega) ?_
  refine vcFit_i64 (by omega) ?_
  refine vcCall_of .nil (len_spec m (by omega) _) (fun v own' N' hv' => ?_)
  obtain ⟨⟨L, rfl, hL64, hL⟩, rfl, rfl⟩ := hv'
  refine vcMix_same (fun _ _ => trivial) ?_
  have hL' := hL (8 * p - 2)
  refine vcIf_dec (fun h4 => ?_) (fun h4 => ?_)
  · refine vcFit_i64 (by omega) ?_
    exact ⟨c + 1, by omega, by omega, ⟨rfl, rfl, trivial⟩, ⟨_, .nil⟩, fun _ _ => trivial⟩
  · have : c = cls m := by
      have : L ≤ 8 * p - 2 := by omega
      have := hit.1 (hL'.1 this)
      omega
    subst this
    exact ⟨[], [], MT, .nil, fun _ _ _ => trivial, congrArg (Value.int .i64) hv.symm, rfl, rfl⟩

theorem rsize_spec (n : Int) (G : Mp) : Spec Try.prog 43 #[.int .i64 n] [] G (Ret (.int .i64 (vsize n : Nat))) := by
  refine Spec.intro (args := [_]) wide Try.func43 rfl Try.call43 (by rfl) (by rfl) (fun w0 hw0 => ?_)
  have hno : ¬ hasForm n → vsize n = 0 := fun h => by unfold vsize; rw [if_neg h]
  have hyes : hasForm n → vsize n = 2 ^ cls n.toNat := fun h => by unfold vsize; rw [if_pos h]
  refine vcIf_dec (fun h0 => ?_) (fun h0 => ?_)
  · exact ⟨[], [], MT, .nil, fun _ _ _ => trivial, by rw [hno (fun h => by unfold hasForm at h; omega)]; rfl, rfl, rfl⟩
  refine vcIf_dec (fun h1 => ?_) (fun h1 => ?_)
  · exact ⟨[], [], MT, .nil, fun _ _ _ => trivial, by rw [hno (fun h => by unfold hasForm at h; omega)]; rfl, rfl, rfl⟩
  rw [hyes ⟨by omega, by omega⟩]
  unfold cls
  refine vcIf_dec (fun h2 => ?_) (fun h2 => ?_)
  · exact ⟨[], [], MT, .nil, fun _ _ _ => trivial, by rw [if_pos (by omega)]; rfl, rfl, rfl⟩
  rw [if_neg (by omega)]
  refine vcIf_dec (fun h3 => ?_) (fun h3 => ?_)
  · exact ⟨[], [], MT, .nil, fun _ _ _ => trivial, by rw [if_pos (by omega)]; rfl, rfl, rfl⟩
  rw [if_neg (by omega)]
  refine vcIf_dec (fun h4 => ?_) (fun h4 => ?_)
  · exact ⟨[], [], MT, .nil, fun _ _ _ => trivial, by rw [if_pos (by omega)]; rfl, rfl, rfl⟩
  exact ⟨[], [], MT, .nil, fun _ _ _ => trivial, by rw [if_neg (by omega)]; rfl, rfl, rfl⟩
end Go.Proofs.Ytaknehiifafhfaa
