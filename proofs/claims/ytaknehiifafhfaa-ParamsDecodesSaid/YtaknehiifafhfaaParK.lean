/- ParamsDecodes. -/
import Derived.Test.YtaknehiifafhfaaParJ
namespace Go.Proofs.Ytaknehiifafhfaa
open Go.Proofs
set_option maxRecDepth 20000

theorem takeP_bys {p : Pm} {id : Int} {val : List UInt8} {server : Bool} {M : Nat} (h : ∀ y ∈ p.bys, y.length ≤ M) (hv : val.length ≤ M) : ∀ y ∈ (takeP p id val server).1.bys, y.length ≤ M := by
  intro y hy
  unfold takeP at hy
  split at hy
  · exact h y hy
  · rcases List.mem_or_eq_of_mem_set hy with hy | rfl
    · exact h y hy
    · exact hv
  · split at hy
    · exact h y hy
    · exact h y hy
theorem ParD.small {bs : List UInt8} {server : Bool} {M : Nat} (hM : bs.length ≤ M) {s : DS} {r : Pm × Int × Int} (h : ParD bs server s r) : (∀ y ∈ s.p.bys, y.length ≤ M) → ∀ y ∈ r.1.bys, y.length ≤ M := by
  induction h with
  | done h => exact id
  | err h he =>
    intro _ y hy
    simp only [zeroP, List.mem_cons, List.not_mem_nil, or_false, or_self] at hy
    subst hy; exact Nat.zero_le _
  | @step s s' h he r k ih =>
    intro hs
    refine ih ?_
    unfold decStep at he
    split at he
    · cases he
    split at he
    · cases he
    split at he
    · cases he
    simp only [Sum.inr.injEq] at he
    subst he
    exact takeP_bys hs (Nat.le_trans (rbytes_len _ _ _) hM)
theorem DecR.small {bs : List UInt8} {server : Bool} {r : Pm × Int × Int} (h : DecR bs server r) : Small r.1 := by
  rcases h with ⟨_, rfl⟩ | ⟨hl, h⟩
  · intro y hy
    simp only [zeroP, List.mem_cons, List.not_mem_nil, or_false, or_self] at hy
    subst hy; exact Nat.zero_le _
  · refine h.small (M := 140737488355328) (by omega) fun y hy => ?_
    simp only [s0, usualP, List.mem_cons, List.not_mem_nil, or_false, or_self] at hy
    subst hy; exact Nat.zero_le _

end Go.Proofs.Ytaknehiifafhfaa
