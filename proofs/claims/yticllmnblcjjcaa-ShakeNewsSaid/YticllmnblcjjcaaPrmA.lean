/- The digest, the power: what layer 7 says, without a program. -/
import Derived.Test.YticllmnblcjjcaaVarE
namespace Go.Proofs.Yticllmnblcjjcaa

def rotN (w k : Nat) : Nat := (w * 2 ^ k % 18446744073709551616) ||| (w / 2 ^ (64 - k))
def mixA (a b x : Nat) : Nat := (rotN ((a ^^^ x) * 1099511628211 % 18446744073709551616) 23 + b) % 18446744073709551616
def mixB (a' b x : Nat) : Nat := (rotN (b ^^^ a') 41 * 2654435761 % 18446744073709551616 + x) % 18446744073709551616
/-- One byte more. -/
def mixN (s : Nat × Nat) (x : UInt8) : Nat × Nat := (mixA s.1 s.2 x.toNat, mixB (mixA s.1 s.2 x.toNat) s.2 x.toNat)
def mixL (s : Nat × Nat) (l : List UInt8) : Nat × Nat := l.foldl mixN s
def seed0 : Nat × Nat := (11400714819323198485, 14029467366897019727)
def le4 (n : Nat) : List UInt8 := [UInt8.ofNat (n % 256), UInt8.ofNat (n / 256 % 256), UInt8.ofNat (n / 65536 % 256), UInt8.ofNat (n / 16777216 % 256)]
/-- The digest of bytes. -/
def dig (l : List UInt8) : List UInt8 :=
  let s := mixL seed0 (l ++ le4 l.length)
  be 8 s.1 ++ be 8 s.2
theorem dig_length (l : List UInt8) : (dig l).length = 16 := by simp [dig, be_length]
theorem mixL_append (s : Nat × Nat) (l m : List UInt8) : mixL s (l ++ m) = mixL (mixL s l) m := List.foldl_append
theorem mixL_snoc (s : Nat × Nat) (l : List UInt8) (x : UInt8) : mixL s (l ++ [x]) = mixN (mixL s l) x := by rw [mixL_append]; rfl

theorem rotN_lt {w k : Nat} (hw : w < 18446744073709551616) : rotN w k < 18446744073709551616 := by
  unfold rotN
  have h1 : w * 2 ^ k % 18446744073709551616 < 2 ^ 64 := Nat.mod_lt _ (by decide)
  have h2 : w / 2 ^ (64 - k) < 2 ^ 64 := Nat.lt_of_le_of_lt (Nat.div_le_self _ _) hw
  exact Nat.or_lt_two_pow h1 h2
theorem mixN_lt {s : Nat × Nat} (x : UInt8) : (mixN s x).1 < 18446744073709551616 ∧ (mixN s x).2 < 18446744073709551616 :=
  ⟨Nat.mod_lt _ (by decide), Nat.mod_lt _ (by decide)⟩
theorem mixL_lt (s : Nat × Nat) (hs : s.1 < 18446744073709551616 ∧ s.2 < 18446744073709551616) (l : List UInt8) : (mixL s l).1 < 18446744073709551616 ∧ (mixL s l).2 < 18446744073709551616 := by
  induction l generalizing s with
  | nil => exact hs
  | cons x r ih => exact ih _ (mixN_lt x)
theorem seed0_lt : seed0.1 < 18446744073709551616 ∧ seed0.2 < 18446744073709551616 := by decide

/-! ### The power -/
def prm : Nat := 2305843009213693951
def powN (base exponent : Int) : Nat := if base < 0 ∨ (prm : Int) ≤ base ∨ exponent < 0 then 0 else base.toNat ^ exponent.toNat % prm

/-- The pieces of a text with its length ahead. -/
def txt (b : List UInt8) : List UInt8 := UInt8.ofNat (b.length % 256) :: b
def word4 (n : Nat) : List UInt8 := [UInt8.ofNat (n / 16777216 % 256), UInt8.ofNat (n / 65536 % 256), UInt8.ofNat (n / 256 % 256), UInt8.ofNat (n % 256)]
/-- The stream's block. -/
def block (key nonce : List UInt8) (j : Nat) : List UInt8 := dig ([1] ++ txt key ++ txt nonce ++ word4 j)
/-- The bytes xor the stream. -/
def turnL (key nonce data : List UInt8) : List UInt8 := data.zipIdx.map fun p => p.1 ^^^ ((block key nonce (p.2 / 16))[p.2 % 16]?).getD 0
theorem turnL_length (key nonce data : List UInt8) : (turnL key nonce data).length = data.length := by simp [turnL]
def tagL (key nonce ad cipher : List UInt8) : List UInt8 := dig ([2] ++ txt key ++ txt nonce ++ word4 ad.length ++ ad ++ cipher)
/-- The sealed bytes, the error's number. -/
def sealL (key nonce ad plain : List UInt8) : List UInt8 × Int :=
  if 255 < key.length ∨ 255 < nonce.length then ([], 70)
  else if 16384 < ad.length ∨ 16384 < plain.length then ([], 52)
  else (turnL key nonce plain ++ tagL key nonce ad (turnL key nonce plain), 0)
/-- The plain bytes, the error's number. -/
def openL (key nonce ad sealed_ : List UInt8) : List UInt8 × Int :=
  if 255 < key.length ∨ 255 < nonce.length then ([], 70)
  else if 16384 < ad.length ∨ 16400 < sealed_.length then ([], 52)
  else if sealed_.length < 16 then ([], 12)
  else if tagL key nonce ad (sealed_.take (sealed_.length - 16)) = sealed_.drop (sealed_.length - 16) then (turnL key nonce (sealed_.take (sealed_.length - 16)), 0)
  else ([], 71)
end Go.Proofs.Yticllmnblcjjcaa
