/- How many bits a number has, and the class of a number. -/
import Derived.Test.YtaknehiifafhfaaVarC
namespace Go.Proofs.Ytaknehiifafhfaa
open Go.Proofs
set_option maxRecDepth 10000

def lenTab : ByteArray := ⟨(([0, 1, 2, 2, 3, 3, 3, 3] ++ List.replicate 8 4 ++ List.replicate 16 5 ++ List.replicate 32 6 ++ List.replicate 64 7 ++ List.replicate 128 8 : List UInt8)).toArray⟩
theorem lenTab_get : ∀ b : Fin 256, ∃ t : Fin 9, lenTab[b.val]? = some (UInt8.ofNat t.val) ∧ ∀ j : Fin 9, t.val ≤ j.val ↔ b.val < 2 ^ j.val := by decide +kernel
theorem lenTab_at {b : Nat} (h : b < 256) : ∃ t : Nat, t ≤ 8 ∧ lenTab[b]? = some (UInt8.ofNat t) ∧ ∀ j, t ≤ j ↔ b < 2 ^ j := by
  obtain ⟨⟨t, ht⟩, h1, h2⟩ := lenTab_get ⟨b, h⟩
  refine ⟨t, by omega, h1, fun j => ?_⟩
  by_cases hj : j < 9
  · exact h2 ⟨j, hj⟩
  · have : 2 ^ 8 ≤ 2 ^ j := Nat.pow_le_pow_right (by omega) (by omega)
    simp only [] at *
    omega
theorem len_shift {n s t : Nat} (h : s = 0 ∨ 2 ^ s ≤ n) (ht : ∀ j, t ≤ j ↔ n / 2 ^ s < 2 ^ j) (k : Nat) : s + t ≤ k ↔ n < 2 ^ k := by
  by_cases hk : s ≤ k
  · obtain ⟨j, rfl⟩ := Nat.exists_eq_add_of_le hk
    rw [Nat.pow_add, Nat.mul_comm (2 ^ s) (2 ^ j), ← Nat.div_lt_iff_lt_mul (Nat.two_pow_pos s), ← ht j]
    omega
  · have : 2 ^ k ≤ 2 ^ s := Nat.pow_le_pow_right (by omega) (by omega)
    rcases h with h | h <;> omega

/-- How many bits. -/
def Bits (n : Nat) (v : Value) (own : List Ob) (N : Mp) : Prop := (∃ L : Nat, v = .int .i64 L ∧ L ≤ 64 ∧ ∀ k, L ≤ k ↔ n < 2 ^ k) ∧ own = [] ∧ N = MT

theorem len64_spec (n : Nat) (hn : n < 18446744073709551616) (G : Mp) : Spec Try.prog 55 #[.int .u64 n] [] G (Bits n) := by
  refine Spec.intro (args := [_]) wide Try.func55 rfl Try.call55 (by rfl) (by rfl) (fun w0 hw0 => ?_)
  have s1 : ∀ x : Nat, (x : Int) / 2 ^ 32 = ((x / 4294967296 : Nat) : Int) := fun x => by omega
  have s2 : ∀ x : Nat, (x : Int) / 2 ^ 16 = ((x / 65536 : Nat) : Int) := fun x => by omega
  have s3 : ∀ x : Nat, (x : Int) / 2 ^ 8 = ((x / 256 : Nat) : Int) := fun x => by omega
  refine vcIf_dec (fun h1 => ?_) (fun h1 => ?_)
  · refine vcShr_nat (n := 32) (by decide) ?_
    rw [s1]
    refine vcIf_dec (fun h2 => ?_) (fun h2 => ?_)
    · refine vcShr_nat (n := 16) (by decide) ?_
      rw [s2]
      refine vcFit_i64 (by omega) ?_
      refine vcIf_dec (fun h3 => ?_) (fun h3 => ?_)
      · refine vcShr_nat (n := 8) (by decide) ?_
        rw [s3]
        refine vcFit_i64 (by omega) ?_
        obtain ⟨t, ht, hg, hk⟩ := lenTab_at (b := n / 4294967296 / 65536 / 256) (by omega)
        have ht' : (UInt8.ofNat t).toNat = t := by rw [UInt8.toNat_ofNat']; omega
        refine vcFit_u8_in (by omega) ?_
        refine ⟨⟨by omega, ?_⟩, UInt8.ofNat t, hg, ?_⟩
        · exact Int.lt_of_lt_of_le (show _ < (256 : Int) by omega) (by decide)
        rw [ht']
        refine vcFit_i64 (by omega) ?_
        refine vcFit_i64 (by omega) ?_
        refine ⟨[], [], MT, .nil, fun _ _ _ => trivial, ⟨56 + t, congrArg (Value.int .i64) (by omega), by omega, len_shift (n := n) (s := 56) (by omega) (fun j => ?_)⟩, rfl, rfl⟩
        rw [show n / 2 ^ 56 = n / 4294967296 / 65536 / 256 from by omega]
        exact hk j
      · obtain ⟨t, ht, hg, hk⟩ := lenTab_at (b := n / 4294967296 / 65536) (by omega)
        have ht' : (UInt8.ofNat t).toNat = t := by rw [UInt8.toNat_ofNat']; omega
        refine vcFit_u8_in (by omega) ?_
        refine ⟨⟨by omega, ?_⟩, UInt8.ofNat t, hg, ?_⟩
        · exact Int.lt_of_lt_of_le (show _ < (256 : Int) by omega) (by decide)
        rw [ht']
        refine vcFit_i64 (by omega) ?_
        refine vcFit_i64 (by omega) ?_
        refine ⟨[], [], MT, .nil, fun _ _ _ => trivial, ⟨48 + t, congrArg (Value.int .i64) (by omega), by omega, len_shift (n := n) (s := 48) (by omega) (fun j => ?_)⟩, rfl, rfl⟩
        rw [show n / 2 ^ 48 = n / 4294967296 / 65536 from by omega]
        exact hk j
    · refine vcIf_dec (fun h3 => ?_) (fun h3 => ?_)
      · refine vcShr_nat (n := 8) (by decide) ?_
        rw [s3]
        refine vcFit_i64 (by omega) ?_
        obtain ⟨t, ht, hg, hk⟩ := lenTab_at (b := n / 4294967296 / 256) (by omega)
        have ht' : (UInt8.ofNat t).toNat = t := by rw [UInt8.toNat_ofNat']; omega
        refine vcFit_u8_in (by omega) ?_
        refine ⟨⟨by omega, ?_⟩, UInt8.ofNat t, hg, ?_⟩
        · exact Int.lt_of_lt_of_le (show _ < (256 : Int) by omega) (by decide)
        rw [ht']
        refine vcFit_i64 (by omega) ?_
        refine vcFit_i64 (by omega) ?_
        refine ⟨[], [], MT, .nil, fun _ _ _ => trivial, ⟨40 + t, congrArg (Value.int .i64) (by omega), by omega, len_shift (n := n) (s := 40) (by omega) (fun j => ?_)⟩, rfl, rfl⟩
        rw [show n / 2 ^ 40 = n / 4294967296 / 256 from by omega]
        exact hk j
      · obtain ⟨t, ht, hg, hk⟩ := lenTab_at (b := n / 4294967296) (by omega)
        have ht' : (UInt8.ofNat t).toNat = t := by rw [UInt8.toNat_ofNat']; omega
        refine vcFit_u8_in (by omega) ?_
        refine ⟨⟨by omega, ?_⟩, UInt8.ofNat t, hg, ?_⟩
        · exact Int.lt_of_lt_of_le (show _ < (256 : Int) by omega) (by decide)
        rw [ht']
        refine vcFit_i64 (by omega) ?_
        refine vcFit_i64 (by omega) ?_
        refine ⟨[], [], MT, .nil, fun _ _ _ => trivial, ⟨32 + t, congrArg (Value.int .i64) (by omega), by omega, len_shift (n := n) (s := 32) (by omega) (fun j => ?_)⟩, rfl, rfl⟩
        rw [show n / 2 ^ 32 = n / 4294967296 from by omega]
        exact hk j
  · refine vcIf_dec (fun h2 => ?_) (fun h2 => ?_)
    · refine vcShr_nat (n := 16) (by decide) ?_
      rw [s2]
      refine vcFit_i64 (by omega) ?_
      refine vcIf_dec (fun h3 => ?_) (fun h3 => ?_)
      · refine vcShr_nat (n := 8) (by decide) ?_
        rw [s3]
        refine vcFit_i64 (by omega) ?_
        obtain ⟨t, ht, hg, hk⟩ := lenTab_at (b := n / 65536 / 256) (by omega)
        have ht' : (UInt8.ofNat t).toNat = t := by rw [UInt8.toNat_ofNat']; omega
        refine vcFit_u8_in (by omega) ?_
        refine ⟨⟨by omega, ?_⟩, UInt8.ofNat t, hg, ?_⟩
        · exact Int.lt_of_lt_of_le (show _ < (256 : Int) by omega) (by decide)
        rw [ht']
        refine vcFit_i64 (by omega) ?_
        refine vcFit_i64 (by omega) ?_
        refine ⟨[], [], MT, .nil, fun _ _ _ => trivial, ⟨24 + t, congrArg (Value.int .i64) (by omega), by omega, len_shift (n := n) (s := 24) (by omega) (fun j => ?_)⟩, rfl, rfl⟩
        rw [show n / 2 ^ 24 = n / 65536 / 256 from by omega]
        exact hk j
      · obtain ⟨t, ht, hg, hk⟩ := lenTab_at (b := n / 65536) (by omega)
        have ht' : (UInt8.ofNat t).toNat = t := by rw [UInt8.toNat_ofNat']; omega
        refine vcFit_u8_in (by omega) ?_
        refine ⟨⟨by omega, ?_⟩, UInt8.ofNat t, hg, ?_⟩
        · exact Int.lt_of_lt_of_le (show _ < (256 : Int) by omega) (by decide)
        rw [ht']
        refine vcFit_i64 (by omega) ?_
        refine vcFit_i64 (by omega) ?_
        refine ⟨[], [], MT, .nil, fun _ _ _ => trivial, ⟨16 + t, congrArg (Value.int .i64) (by omega), by omega, len_shift (n := n) (s := 16) (by omega) (fun j => ?_)⟩, rfl, rfl⟩
        rw [show n / 2 ^ 16 = n / 65536 from by omega]
        exact hk j
    · refine vcIf_dec (fun h3 => ?_) (fun h3 => ?_)
      · refine vcShr_nat (n := 8) (by decide) ?_
        rw [s3]
        refine vcFit_i64 (by omega) ?_
        obtain ⟨t, ht, hg, hk⟩ := lenTab_at (b := n / 256) (by omega)
        have ht' : (UInt8.ofNat t).toNat = t := by rw [UInt8.toNat_ofNat']; omega
        refine vcFit_u8_in (by omega) ?_
        refine ⟨⟨by omega, ?_⟩, UInt8.ofNat t, hg, ?_⟩
        · exact Int.lt_of_lt_of_le (show _ < (256 : Int) by omega) (by decide)
        rw [ht']
        refine vcFit_i64 (by omega) ?_
        refine vcFit_i64 (by omega) ?_
        refine ⟨[], [], MT, .nil, fun _ _ _ => trivial, ⟨8 + t, congrArg (Value.int .i64) (by omega), by omega, len_shift (n := n) (s := 8) (by omega) (fun j => ?_)⟩, rfl, rfl⟩
        rw [show n / 2 ^ 8 = n / 256 from by omega]
        exact hk j
      · obtain ⟨t, ht, hg, hk⟩ := lenTab_at (b := n) (by omega)
        have ht' : (UInt8.ofNat t).toNat = t := by rw [UInt8.toNat_ofNat']; omega
        refine vcFit_u8_in (by omega) ?_
        refine ⟨⟨by omega, ?_⟩, UInt8.ofNat t, hg, ?_⟩
        · exact Int.lt_of_lt_of_le (show _ < (256 : Int) by omega) (by decide)
        rw [ht']
        refine vcFit_i64 (by omega) ?_
        refine vcFit_i64 (by omega) ?_
        refine ⟨[], [], MT, .nil, fun _ _ _ => trivial, ⟨0 + t, congrArg (Value.int .i64) (by omega), by omega, len_shift (n := n) (s := 0) (by omega) (fun j => ?_)⟩, rfl, rfl⟩
        rw [show n / 2 ^ 0 = n from by omega]
        exact hk j

theorem len_spec (n : Nat) (hn : n < 18446744073709551616) (G : Mp) : Spec Try.prog 52 #[.int .u64 n] [] G (Bits n) := by
  refine Spec.intro (args := [_]) wide Try.func52 rfl Try.call52 (by rfl) (by rfl) (fun w0 hw0 => ?_)
  refine vcCall_of .nil (len64_spec n hn _) (fun v own' N' hv => ?_)
  obtain ⟨⟨L, rfl, hL⟩, rfl, rfl⟩ := hv
  exact ⟨[], [], MT, .nil, fun _ _ _ => trivial, ⟨L, rfl, hL⟩, rfl, rfl⟩
end Go.Proofs.Ytaknehiifafhfaa
