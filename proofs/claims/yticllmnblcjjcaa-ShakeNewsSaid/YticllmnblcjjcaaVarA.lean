/- The numbers of layer 1: what its bytes say, without a program. -/
import Derived.Test.YticllmnblcjjcaaUse
namespace Go.Proofs.Yticllmnblcjjcaa

/-- The number that bytes say, behind n. -/
def beval : Nat → List UInt8 → Nat
  | n, [] => n
  | n, x :: r => beval (n * 256 + x.toNat) r
theorem beval_snoc : ∀ (l : List UInt8) (n : Nat) (x : UInt8), beval n (l ++ [x]) = beval n l * 256 + x.toNat
  | [], _, _ => rfl
  | _ :: r, _, x => beval_snoc r _ x
theorem beval_lt : ∀ (l : List UInt8) (n m : Nat), n < m → beval n l < m * 256 ^ l.length
  | [], n, m, h => by simpa [beval] using h
  | x :: r, n, m, h => by
    have hx := x.toNat_lt
    have := beval_lt r (n * 256 + x.toNat) (m * 256) (by omega)
    rw [List.length_cons, Nat.pow_succ, Nat.mul_comm (256 ^ r.length) 256, ← Nat.mul_assoc]
    exact this

/-- The number at a place, the place behind it, the error's number (P1.2). -/
def vget (bs : List UInt8) (at_ : Int) : Int × Int × Int :=
  if at_ < 0 ∨ (bs.length : Int) < at_ then (0, 0, 11)
  else match bs.drop at_.toNat with
    | [] => (0, 0, 12)
    | b :: r => if r.length + 1 < 2 ^ (b.toNat / 64) then (0, 0, 12) else ((beval (b.toNat % 64) (r.take (2 ^ (b.toNat / 64) - 1)) : Nat), at_ + (2 ^ (b.toNat / 64) : Nat), 0)

def tup3 (x : Int × Int × Int) : Value := .tuple #[.int .i64 x.1, .int .i64 x.2.1, .int .i64 x.2.2]
theorem pow_cases (b : UInt8) : 2 ^ (b.toNat / 64) = 1 ∨ 2 ^ (b.toNat / 64) = 2 ∨ 2 ^ (b.toNat / 64) = 4 ∨ 2 ^ (b.toNat / 64) = 8 := by
  have h : b.toNat / 64 < 4 := by have := b.toNat_lt; omega
  generalize b.toNat / 64 = q at h
  match q, h with
  | 0, _ => simp
  | 1, _ => simp
  | 2, _ => simp
  | 3, _ => simp
theorem beval_bound (b : UInt8) (r : List UInt8) (k : Nat) (hk : k ≤ 6) : beval (b.toNat % 64) (r.take k) < 36028797018963968 := by
  have h1 := beval_lt (r.take k) (b.toNat % 64) 64 (by omega)
  have h2 : 256 ^ (r.take k).length ≤ 256 ^ 6 := Nat.pow_le_pow_right (by omega) (by rw [List.length_take]; omega)
  have h3 : (256 : Nat) ^ 6 = 281474976710656 := by decide
  rw [h3] at h2
  omega
end Go.Proofs.Yticllmnblcjjcaa
