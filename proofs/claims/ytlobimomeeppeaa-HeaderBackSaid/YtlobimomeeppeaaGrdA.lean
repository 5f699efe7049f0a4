/- Layer 8's plain part: numbers from their last bytes; nonces; packets. -/
import Derived.Test.YtlobimomeeppeaaByt
import Derived.Test.YtlobimomeeppeaaVarE
namespace Go.Proofs.Ytlobimomeeppeaa
open Go.Proofs
set_option maxRecDepth 10000

/-- The number that its last bytes tell. -/
def expandI (high part width : Int) : Int :=
  if width < 1 ∨ 4 < width ∨ high < -1 ∨ 4611686018427387903 < high ∨ part < 0 ∨ (256 : Int) ^ width.toNat ≤ part then 0 else
    let size : Int := 256 ^ width.toNat
    let n := (high + 1) / size * size + part
    if n + size ≤ 4611686018427387903 ∧ size / 2 ≤ high + 1 - n then n + size else if size ≤ n ∧ (size / 2 < n - (high + 1) ∨ 4611686018427387903 < n) then n - size else n
theorem expandI_no {high part width : Int} (h : width < 1 ∨ 4 < width ∨ high < -1 ∨ 4611686018427387903 < high ∨ part < 0 ∨ (256 : Int) ^ width.toNat ≤ part) : expandI high part width = 0 := if_pos h

theorem andNot_low (a k n : Nat) (ha : a < 2 ^ n) (hk : k ≤ n) : (BitVec.ofNat n a &&& ~~~ BitVec.ofNat n (2 ^ k - 1)).toNat = a / 2 ^ k * 2 ^ k := by
  have hlt : 2 ^ k - 1 < 2 ^ n := by have := Nat.pow_le_pow_right (n := 2) (by omega) hk; have := Nat.two_pow_pos k; omega
  apply Nat.eq_of_testBit_eq
  intro i
  rw [BitVec.toNat_and, Nat.testBit_and, BitVec.toNat_ofNat, Nat.mod_eq_of_lt ha, BitVec.testBit_toNat, BitVec.getLsbD_not, BitVec.getLsbD_ofNat, Nat.testBit_two_pow_sub_one, Nat.testBit_mul_two_pow]
  rw [Nat.testBit_div_two_pow]
  by_cases hik : k ≤ i
  · have e : i - k + k = i := by omega
    have e2 : (i < k) = False := by simp; omega
    by_cases hin : i < n
    · simp [hik, hin, e, e2]
    · have hf : a.testBit i = false := Nat.testBit_lt_two_pow (Nat.lt_of_lt_of_le ha (Nat.pow_le_pow_right (by omega) (by omega)))
      simp [hik, e, hf]
  · have : i < k := by omega
    have hin : i < n := by omega
    simp [hik, this, hin]
theorem bitI_andNot (a k : Nat) (ha : a ≤ 4611686018427387904) (hk : k ≤ 32) : bitI .andNot .i64 (a : Int) ((2 ^ k - 1 : Nat) : Int) = ((a / 2 ^ k * 2 ^ k : Nat) : Int) := by
  have hp : (2 : Nat) ^ k ≤ 2 ^ 32 := Nat.pow_le_pow_right (by omega) hk
  have hle : a / 2 ^ k * 2 ^ k ≤ a := Nat.div_mul_le_self a (2 ^ k)
  have e : (BitVec.ofInt 64 (a : Int) &&& ~~~ BitVec.ofInt 64 ((2 ^ k - 1 : Nat) : Int)).toNat = a / 2 ^ k * 2 ^ k := by
    rw [BitVec.ofInt_natCast, BitVec.ofInt_natCast]
    exact andNot_low a k 64 (by omega) (by omega)
  show IntKind.i64.wrap ((BitVec.ofInt 64 (a : Int) &&& ~~~ BitVec.ofInt 64 ((2 ^ k - 1 : Nat) : Int)).toNat : Int) = _
  rw [e]
  exact wrap_in .i64 _ (by have := min_le .i64; omega) (by rw [max_i64]; omega)
end Go.Proofs.Ytlobimomeeppeaa
