/- The digest: turning words, taking in bytes. -/
import Derived.Test.YticllmnblcjjcaaPrmA
import Derived.Test.YticllmnblcjjcaaJoin
namespace Go.Proofs.Yticllmnblcjjcaa
open Go.Proofs
set_option maxRecDepth 10000

theorem rot64_spec (w k : Nat) (hw : w < 18446744073709551616) (hk : k < 64) (G : Mp) : Spec Try.prog 93 #[.int .u64 w, .int .i64 k] [] G (Ret (.int .u64 (rotN w k : Nat))) := by
  refine Spec.intro (args := [_, _]) wide Try.func93 rfl Try.call93 (by rfl) (by rfl) (fun w0 hw0 => ?_)
  have hand : bitI .and .u64 (k : Int) 63 = (k : Nat) := by
    rw [show (63 : Int) = ((63 : Nat) : Int) from rfl, bitI_and (by rw [max_u64]; omega) (by rw [max_u64]; omega)]
    rw [show k &&& 63 = k % 64 from Nat.and_two_pow_sub_one_eq_mod k 6, Nat.mod_eq_of_lt hk]
  refine vcFit_u64_in (by omega) ?_
  refine vcBit_as _ hand ?_
  refine vcShl_nat (n := k) (show k ≤ 64 by omega) ?_
  refine vcFit_u64 ?_
  refine vcFit_u64_in (by omega) ?_
  rw [show (64 : Int) - k = ((64 - k : Nat) : Int) from by omega]
  refine vcShr_nat (n := 64 - k) (show 64 - k ≤ 64 by omega) ?_
  have e1 : ((w : Int) * 2 ^ k) % 18446744073709551616 = ((w * 2 ^ k % 18446744073709551616 : Nat) : Int) := by simp
  have e2 : (w : Int) / 2 ^ (64 - k) = ((w / 2 ^ (64 - k) : Nat) : Int) := by simp
  refine vcBit_as (rotN w k : Nat) ?_ ⟨[], [], MT, .nil, fun _ _ _ => trivial, rfl, rfl, rfl⟩
  rw [e1, e2, bitI_or (by rw [max_u64]; omega) (by have := Nat.div_le_self w (2 ^ (64 - k)); rw [max_u64]; omega)]
  rfl

/-- A state's cells. -/
def stV (s : Nat × Nat) : List Value := [.int .u64 s.1, .int .u64 s.2]

theorem xor64 (a b : Nat) (ha : a < 18446744073709551616) (hb : b < 18446744073709551616) : bitI .xor .u64 (a : Int) (b : Int) = ((a ^^^ b : Nat) : Int) := bitI_xor (by rw [max_u64]; omega) (by rw [max_u64]; omega)
theorem xor_lt {a b : Nat} (ha : a < 18446744073709551616) (hb : b < 18446744073709551616) : a ^^^ b < 18446744073709551616 := Nat.xor_lt_two_pow (n := 64) ha hb
theorem mul64 (a b : Nat) : ((a : Int) * (b : Int)) % 18446744073709551616 = ((a * b % 18446744073709551616 : Nat) : Int) := by simp
theorem add64 (a b : Nat) : ((a : Int) + (b : Int)) % 18446744073709551616 = (((a + b) % 18446744073709551616 : Nat) : Int) := by simp

theorem add_spec (b : Nat) (s : Nat × Nat) (hs : s.1 < 18446744073709551616 ∧ s.2 < 18446744073709551616) (A : Option Addr) (c : Nat) (xs : List UInt8) (G : Mp) (h1 : Ent G (RowAt A (Bs xs))) (hx : xs.length ≤ 9223372036854775799) :
    Spec Try.prog 92 #[.pointer (some ⟨b, 0, none⟩), .slice A xs.length c] [.row b 117 (stV s) 2] G (fun v own N => v = .tuple #[] ∧ own = [.row b 117 (stV (mixL s xs)) 2] ∧ N = MT) := by
  refine Spec.intro (args := [_, _]) wide Try.func92 rfl Try.call92 (by rfl) (by rfl) (fun w0 hw0 => ?_)
  refine vcLoop_of (fun k : Nat => xs.length - k) (fun k => [(0, .pointer (some ⟨b, 0, none⟩)), (6, .slice A xs.length c), (7, .int .i64 xs.length), (8, .int .i64 k)])
    (fun k => [.row b 117 (stV (mixL s (xs.take k))) 2]) (fun _ => MT) (fun k => k ≤ xs.length) 0 (Nat.zero_le _) ⟨rfl, rfl, rfl, rfl, trivial⟩ ⟨[], .cons .here .nil⟩ Ent.refl ?_
  intro k hk
  refine vcIf_dec (fun hlt => ?_) (fun hge => ?_)
  · have hk' : k < xs.length := by omega
    have hb := xs[k].toNat_lt
    have hl := mixL_lt s hs (xs.take k)
    have hsn : mixL s (xs.take (k + 1)) = mixN (mixL s (xs.take k)) xs[k] := by rw [take_snoc_get hk', mixL_snoc]
    generalize mixL s (xs.take k) = t at hl hsn
    have hxk : (Bs xs)[k]? = some (.int .u8 xs[k].toNat) := Bs_get hk'
    generalize xs[k] = x at hb hsn hxk
    refine vcIdx_row (Ent.gnG h1) ⟨by omega, hlt⟩ (by rw [Bs_length]; exact Nat.le_refl _) (fun a ha => ?_)
    subst ha
    refine vcLoad1_row (Ent.gnG h1) hxk ?_
    -- s.a
    refine vcDraw_mix [0, 1, 2, 3, 4, 5, 6, 7, 8, 10, 11, 12, 13, 9, 14, 15, 16, 17] (RowAt (some ⟨b, 0, none⟩) (stV t)) (by kernel_rfl) (Ent.gnO .here fun w hw => Ob.row_at hw) ?_
    refine vcLoad1_row (j := 0) (v := .int .u64 t.1) Ent.refl rfl ?_
    refine vcFit_u64_in (by omega) ?_
    refine vcBit_as _ (xor64 _ _ hl.1 (by omega)) ?_
    refine vcFit_u64 ?_
    rw [show (1099511628211 : Int) = ((1099511628211 : Nat) : Int) from rfl, mul64]
    refine vcLoad1_row (j := 1) (v := .int .u64 t.2) Ent.refl rfl ?_
    refine vcCall_of .nil (rot64_spec _ 23 (Nat.mod_lt _ (by decide)) (by omega) _) (fun v own' N' hv => ?_)
    obtain ⟨rfl, rfl, rfl⟩ := hv
    refine vcMix_same (Ent.gnO .here fun w hw => Ob.row_at hw) ?_
    refine vcFit_u64 ?_
    rw [add64]
    refine vcStore1_of _ _ ⟨b, 0, none⟩ 0 .here rfl rfl (by simp [Ob.cells, stV]) rfl ?_
    refine vcMix_last (by kernel_rfl) ?_
    -- s.b
    have hA : mixA t.1 t.2 x.toNat < 18446744073709551616 := Nat.mod_lt _ (by decide)
    refine vcDraw_mix [0, 1, 2, 3, 4, 5, 6, 7, 8, 9, 12, 13, 10, 11, 14, 15, 16, 17] (RowAt (some ⟨b, 0, none⟩) [.int .u64 (mixA t.1 t.2 x.toNat : Nat), .int .u64 t.2]) (by kernel_rfl) (Ent.gnO .here fun w hw => Ob.row_at hw) ?_
    refine vcLoad1_row (j := 1) (v := .int .u64 t.2) Ent.refl rfl ?_
    refine vcLoad1_row (j := 0) (v := .int .u64 (mixA t.1 t.2 x.toNat : Nat)) Ent.refl rfl ?_
    refine vcBit_as _ (xor64 _ _ hl.2 hA) ?_
    refine vcFit_u64_in (by omega) ?_
    refine vcCall_of .nil (rot64_spec _ 41 (xor_lt hl.2 hA) (by omega) _) (fun v own' N' hv => ?_)
    obtain ⟨rfl, rfl, rfl⟩ := hv
    refine vcMix_same (Ent.gnO .here fun w hw => Ob.row_at hw) ?_
    refine vcFit_u64 ?_
    rw [show (2654435761 : Int) = ((2654435761 : Nat) : Int) from rfl, mul64]
    refine vcFit_u64 ?_
    rw [add64]
    refine vcStore1_of _ _ ⟨b, 0, none⟩ 1 .here rfl rfl (by simp [Ob.cells, Ob.set, stV]) rfl ?_
    refine vcMix_last (by kernel_rfl) ?_
    refine vcFit_i64 (by omega) ?_
    refine ⟨k + 1, by omega, by omega, ⟨rfl, rfl, rfl, rfl, trivial⟩, ⟨[], .cons ?_ .nil⟩, fun _ _ => trivial⟩
    rw [hsn]
    exact .here
  · have hk' : k = xs.length := by omega
    subst hk'
    rw [List.take_length]
    exact ⟨_, [], MT, .cons .here .nil, fun _ _ _ => trivial, rfl, rfl, rfl⟩
end Go.Proofs.Yticllmnblcjjcaa
