/- The reference's number from its last bytes. -/
import Derived.Test.YtlobimomeeppeaaGrdB
namespace Go.Proofs.Ytlobimomeeppeaa
open Go.Proofs
set_option maxRecDepth 10000

def farI (a b : Int) : Int := if a < b then b - a else a - b
theorem far_spec (a b : Int) (ha : -1 ≤ a ∧ a ≤ 4611686018427387904) (hb : 0 ≤ b ∧ b ≤ 4611686018427387904) (G : Mp) : Spec Try.prog 42 #[.int .i64 a, .int .i64 b] [] G (Ret (.int .i64 (farI a b))) := by
  refine Spec.intro (args := [_, _]) wide Try.func42 rfl Try.call42 (by rfl) (by rfl) (fun w0 hw0 => ?_)
  refine vcIf_dec (fun h1 => ?_) (fun h1 => ?_)
  · refine vcFit_i64 (by omega) ?_
    rw [farI, if_pos h1]
    exact ⟨[], _, MT, .nil, fun _ _ _ => trivial, rfl, rfl, rfl⟩
  · refine vcFit_i64 (by omega) ?_
    rw [farI, if_neg h1]
    exact ⟨[], _, MT, .nil, fun _ _ _ => trivial, rfl, rfl, rfl⟩

/-- The nearest so far, of the numbers q - s + p, q + p, q + s + p. -/
def nearK (q s p b wt : Int) : Nat → Int × Bool
  | 0 => (0, false)
  | i + 1 =>
    let r := nearK q s p b wt i
    let n := q + ((i : Int) - 1) * s + p
    if b - 1 + i < 0 ∨ 4611686018427387903 < n then r else if r.2 = false ∨ farI n wt ≤ farI r.1 wt then (n, true) else r
theorem nearK_range (q s p b wt : Int) (h : 0 ≤ q) (hs : 0 ≤ s) (hp : 0 ≤ p) (hb : b - 1 < 0 ∨ s ≤ q) (i : Nat) : 0 ≤ (nearK q s p b wt i).1 ∧ (nearK q s p b wt i).1 ≤ 4611686018427387903 := by
  induction i with
  | zero => simp [nearK]
  | succ i ih =>
    simp only [nearK]
    by_cases c : b - 1 + i < 0 ∨ 4611686018427387903 < q + ((i : Int) - 1) * s + p
    · rw [if_pos c]; exact ih
    · rw [if_neg c]
      split
      · refine ⟨?_, by show q + ((i : Int) - 1) * s + p ≤ _; omega⟩
        show 0 ≤ q + ((i : Int) - 1) * s + p
        have e : ((i : Int) - 1) * s = i * s - s := by rw [Int.sub_mul]; omega
        have : 0 ≤ (i : Int) * s := Int.mul_nonneg (by omega) hs
        match i with
        | 0 => simp at *; omega
        | i + 1 =>
          have : (((i + 1 : Nat) : Int) - 1) * s = i * s := by rw [show ((i + 1 : Nat) : Int) - 1 = i from by omega]
          have : 0 ≤ (i : Int) * s := Int.mul_nonneg (by omega) hs
          omega
      · exact ih
theorem nearK_expand {q s p b wt : Int} (hs : 256 ≤ s ∧ s ≤ 4294967296) (hp : 0 ≤ p ∧ p < s) (hev : s % 2 = 0) (hq : q ≤ wt ∧ wt < q + s) (hw : 0 ≤ wt ∧ wt ≤ 4611686018427387904) (hb : (b = 0 ∧ q = 0) ∨ (1 ≤ b ∧ s ≤ q)) :
    (nearK q s p b wt 3).1 = (if q + p + s ≤ 4611686018427387903 ∧ s / 2 ≤ wt - (q + p) then q + p + s
      else if s ≤ q + p ∧ (s / 2 < (q + p) - wt ∨ 4611686018427387903 < q + p) then q + p - s else q + p) := by
  simp only [nearK, farI]
  have e0 : q + (((0 : Nat) : Int) - 1) * s + p = q - s + p := by omega
  have e1 : q + (((1 : Nat) : Int) - 1) * s + p = q + p := by omega
  have e2 : q + (((2 : Nat) : Int) - 1) * s + p = q + s + p := by omega
  simp only [e0, e1, e2]
  rcases hb with ⟨rfl, rfl⟩ | ⟨hb, hqs⟩
  · rw [if_pos (show (0 : Int) - 1 + ((0 : Nat) : Int) < 0 ∨ _ from .inl (by omega))]
    rw [if_neg (show ¬ ((0 : Int) - 1 + ((1 : Nat) : Int) < 0 ∨ _) from by omega)]
    rw [if_neg (show ¬ ((0 : Int) - 1 + ((2 : Nat) : Int) < 0 ∨ _) from by omega)]
    simp
    repeat' split
    all_goals first | omega | (simp at * <;> omega)
  · rw [if_neg (show ¬ (b - 1 + ((0 : Nat) : Int) < 0 ∨ 4611686018427387903 < q - s + p) from by omega)]
    simp
    repeat' split
    all_goals first | omega | (simp at * <;> omega)
end Go.Proofs.Ytlobimomeeppeaa
