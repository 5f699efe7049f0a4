/- Rows of elements of several cells. -/
import Derived.Test.YteomgafghiockaaUse
namespace Go.Proofs.Yteomgafghiockaa
open Go.Proofs

theorem flatMap_chunk {β : Type} {cells : β → List Value} {n : Nat} (hlen : ∀ x, (cells x).length = n) : ∀ (l : List β) (k : Nat) (hk : k < l.length), ((l.flatMap cells).drop (k * n)).take n = cells l[k]
  | x :: r, 0, _ => by
    rw [Nat.zero_mul, List.drop_zero, List.flatMap_cons, List.take_append_of_le_length (by rw [hlen]; exact Nat.le_refl _), List.take_of_length_le (by rw [hlen]; exact Nat.le_refl _)]
    rfl
  | x :: r, k + 1, hk => by
    have e : (k + 1) * n = n + k * n := by rw [Nat.succ_mul, Nat.add_comm]
    rw [List.flatMap_cons, e, ← List.drop_drop, List.drop_left' (hlen x)]
    exact flatMap_chunk hlen r k (by simpa using hk)
theorem flatMap_len {β : Type} {cells : β → List Value} {n : Nat} (hlen : ∀ x, (cells x).length = n) : ∀ (l : List β), (l.flatMap cells).length = l.length * n
  | [] => by simp
  | x :: r => by rw [List.flatMap_cons, List.length_append, hlen, flatMap_len hlen r, List.length_cons, Nat.succ_mul, Nat.add_comm]
end Go.Proofs.Yteomgafghiockaa
