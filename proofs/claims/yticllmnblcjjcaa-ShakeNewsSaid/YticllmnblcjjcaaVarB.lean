/- slices.Clone. -/
import Derived.Test.YticllmnblcjjcaaVarA
import Derived.Test.YticllmnblcjjcaaLib
namespace Go.Proofs.Yticllmnblcjjcaa
open Go.Proofs
set_option maxRecDepth 10000

/-- slices.Clone at []byte. -/
theorem clone_spec (A : Option Addr) (c : Nat) (xs : List UInt8) (G : Mp) (h1 : Ent G (RowAt A (Bs xs))) (hx : xs.length ≤ 211106232532992) :
    Spec Try.prog 27 #[.slice A xs.length c] [] G (Own1 xs.length 5 1 (Bs xs)) := by
  refine Spec.intro (args := [_]) wide Try.func27 rfl Try.call27 (by rfl) (by rfl) (fun w0 hw0 => ?_)
  refine vcIf_split (fun hnil => ?_) (fun _ => ?_)
  · have hA : A = none := by simpa using hnil
    subst hA
    have hxs : xs = [] := by
      cases xs with
      | nil => rfl
      | cons x r =>
        obtain ⟨a, ha, _⟩ := h1 w0 (hw0.pers w0 (Fr.refl _ _)) 0 (B x) (by simp [Bs])
        cases ha
    subst hxs
    exact ⟨_, [], MT, .cons .none_ .nil, fun _ _ _ => trivial, _, _, rfl, rfl, rfl, Nat.le_refl _⟩
  · intro b
    refine vcApp_big [] _ (Bs xs) .here rfl (by simp [Bs_length]) (by omega) (Bs_one xs) (Ent.gnG h1) (by omega) (fun A' cap' hc => ?_)
    refine ⟨_, [], MT, .cons .here .nil, fun _ _ _ => trivial, _, _, ?_, rfl, rfl, ?_⟩
    · rw [Nat.zero_add]; rfl
    · omega
end Go.Proofs.Yticllmnblcjjcaa
