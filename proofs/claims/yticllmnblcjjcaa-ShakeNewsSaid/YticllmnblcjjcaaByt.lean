/- Bytes of numbers; pairs of bytes and an error. -/
import Derived.Test.YticllmnblcjjcaaLib
namespace Go.Proofs.Yticllmnblcjjcaa
open Go.Proofs

/-- A number's last byte. -/
def byteI (e : Int) : UInt8 := UInt8.ofNat (e % 256).toNat
theorem byteI_nat (n : Nat) : byteI (n : Int) = UInt8.ofNat (n % 256) := by unfold byteI; rw [show ((n : Int) % 256).toNat = n % 256 from by omega]
theorem vcFit_byte {e : Int} {X : Int → Prop} (k : X ((byteI e).toNat : Int)) : vcFit .u8 e X := by
  refine vcFit_u8 ?_
  have h : (((byteI e).toNat : Nat) : Int) = e % 256 := by unfold byteI; rw [UInt8.toNat_ofNat']; omega
  rw [← h]; exact k
theorem byteI_div (n m : Nat) : byteI ((n : Int) / (m : Int)) = UInt8.ofNat (n / m % 256) := by rw [← byteI_nat]; congr 1
theorem byteI_shr (n k : Nat) : byteI ((n : Int) / 2 ^ k) = UInt8.ofNat (n / 2 ^ k % 256) := by rw [← byteI_nat]; congr 1
theorem OwnB_lit {bs cs : List UInt8} {b c : Nat} {N : Mp} (h : cs = bs) (hc : cs.length ≤ c) (hN : N = MT) : OwnB bs (.slice (some ⟨b, 0, none⟩) cs.length c) [.sl (some ⟨b, 0, none⟩) c 5 1 (Bs cs)] N := by
  subst h; exact ⟨_, c, rfl, rfl, hN, hc⟩

def OwnBE (bs : List UInt8) (e : Int) (v : Value) (own : List Ob) (N : Mp) : Prop := ∃ A cap, v = .tuple #[.slice A bs.length cap, .int .i64 e] ∧ own = [.sl A cap 5 1 (Bs bs)] ∧ N = MT ∧ bs.length ≤ cap
theorem OwnBE_nil (e : Int) : OwnBE [] e (.tuple #[.slice none 0 0, .int .i64 e]) [.sl none 0 5 1 []] MT := ⟨none, 0, rfl, rfl, rfl, Nat.le_refl _⟩
theorem retE {s : List UInt8 × Int} {bs : List UInt8} {e : Int} (h : s = (bs, e)) {v : Value} {own : List Ob} {N : Mp} (k : OwnBE bs e v own N) : OwnBE s.1 s.2 v own N := by subst h; exact k
def GetBE (bs : List UInt8) (e : Int) (v : Value) (own : List Ob) (N : Mp) : Prop := ∃ A cap, v = .tuple #[.slice A bs.length cap, .int .i64 e] ∧ own = [] ∧ Ent N (RowAt A (Bs bs)) ∧ bs.length ≤ cap
end Go.Proofs.Yticllmnblcjjcaa
