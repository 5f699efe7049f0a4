/- Powers modulo 2^61 - 1. -/
import Derived.Test.YticllmnblcjjcaaPrmC
namespace Go.Proofs.Yticllmnblcjjcaa
open Go.Proofs
set_option maxRecDepth 10000

theorem prm_eq : prm = 2305843009213693951 := rfl
theorem mul_parts (x0 x1 y0 y1 : Nat) : (x1 * 4294967296 + x0) * (y1 * 4294967296 + y0) = (x1 * y1) * 18446744073709551616 + (x1 * y0 + x0 * y1) * 4294967296 + x0 * y0 := by
  rw [Nat.add_mul, Nat.mul_add, Nat.mul_add, Nat.add_mul]
  have h1 : x1 * 4294967296 * (y1 * 4294967296) = x1 * y1 * 18446744073709551616 := by rw [Nat.mul_mul_mul_comm]
  have h2 : x1 * 4294967296 * y0 = x1 * y0 * 4294967296 := by rw [Nat.mul_right_comm]
  have h3 : x0 * (y1 * 4294967296) = x0 * y1 * 4294967296 := by rw [Nat.mul_assoc]
  omega
theorem prod_le {a b : Nat} (ha : a < 4294967296) (hb : b < 4294967296) : a * b ≤ 18446744065119617025 := by
  have := Nat.mul_le_mul (show a ≤ 4294967295 by omega) (show b ≤ 4294967295 by omega)
  omega
theorem and32 (n : Nat) (h : n < 18446744073709551616) : bitI .and .u64 (n : Int) 4294967295 = ((n % 4294967296 : Nat) : Int) := by
  rw [show (4294967295 : Int) = ((4294967295 : Nat) : Int) from rfl, bitI_and (by rw [max_u64]; omega) (by rw [max_u64]; omega)]
  rw [show n &&& 4294967295 = n % 4294967296 from Nat.and_two_pow_sub_one_eq_mod n 32]

theorem mul64_spec (x y : Nat) (hx : x < 18446744073709551616) (hy : y < 18446744073709551616) (G : Mp) :
    Spec Try.prog 90 #[.int .u64 x, .int .u64 y] [] G (Ret (.tuple #[.int .u64 (x * y / 18446744073709551616 : Nat), .int .u64 (x * y % 18446744073709551616 : Nat)])) := by
  refine Spec.intro (args := [_, _]) wide Try.func90 rfl Try.call90 (by rfl) (by rfl) (fun w0 hw0 => ?_)
  have hp := mul_parts (x % 4294967296) (x / 4294967296) (y % 4294967296) (y / 4294967296)
  rw [show x / 4294967296 * 4294967296 + x % 4294967296 = x from by omega, show y / 4294967296 * 4294967296 + y % 4294967296 = y from by omega] at hp
  have b1 := prod_le (show x % 4294967296 < 4294967296 by omega) (show y % 4294967296 < 4294967296 by omega)
  have b2 := prod_le (show x / 4294967296 < 4294967296 by omega) (show y % 4294967296 < 4294967296 by omega)
  have b3 := prod_le (show x % 4294967296 < 4294967296 by omega) (show y / 4294967296 < 4294967296 by omega)
  have b4 := prod_le (show x / 4294967296 < 4294967296 by omega) (show y / 4294967296 < 4294967296 by omega)
  have i1 : ((x % 4294967296 : Nat) : Int) * ((y % 4294967296 : Nat) : Int) = ((x % 4294967296 * (y % 4294967296) : Nat) : Int) := by simp
  have i2 : ((x / 4294967296 : Nat) : Int) * ((y % 4294967296 : Nat) : Int) = ((x / 4294967296 * (y % 4294967296) : Nat) : Int) := by simp
  have i3 : ((x % 4294967296 : Nat) : Int) * ((y / 4294967296 : Nat) : Int) = ((x % 4294967296 * (y / 4294967296) : Nat) : Int) := by simp
  have i4 : ((x / 4294967296 : Nat) : Int) * ((y / 4294967296 : Nat) : Int) = ((x / 4294967296 * (y / 4294967296) : Nat) : Int) := by simp
  refine vcBit_as _ (and32 x hx) ?_
  refine vcShr_nat (n := 32) (by decide) ?_
  rw [show (x : Int) / 2 ^ 32 = ((x / 4294967296 : Nat) : Int) from by simp]
  refine vcBit_as _ (and32 y hy) ?_
  refine vcShr_nat (n := 32) (by decide) ?_
  rw [show (y : Int) / 2 ^ 32 = ((y / 4294967296 : Nat) : Int) from by simp]
  rw [← mul64]
  generalize x % 4294967296 = x0 at *
  generalize x / 4294967296 = x1 at *
  generalize y % 4294967296 = y0 at *
  generalize y / 4294967296 = y1 at *
  refine vcFit_u64_in (by omega) ?_
  rw [i1]
  generalize x0 * y0 = a at *
  refine vcFit_u64_in (by omega) ?_
  rw [i2]
  generalize x1 * y0 = b at *
  refine vcShr_nat (n := 32) (by decide) ?_
  rw [show (a : Int) / 2 ^ 32 = ((a / 4294967296 : Nat) : Int) from by simp]
  refine vcFit_u64_in (by omega) ?_
  rw [show (b : Int) + ((a / 4294967296 : Nat) : Int) = ((b + a / 4294967296 : Nat) : Int) from by omega]
  refine vcBit_as _ (and32 (b + a / 4294967296) (by omega)) ?_
  refine vcShr_nat (n := 32) (by decide) ?_
  rw [show ((b + a / 4294967296 : Nat) : Int) / 2 ^ 32 = (((b + a / 4294967296) / 4294967296 : Nat) : Int) from by simp]
  refine vcFit_u64_in (by omega) ?_
  rw [i3]
  generalize x0 * y1 = c at *
  refine vcFit_u64_in (by omega) ?_
  rw [show (((b + a / 4294967296) % 4294967296 : Nat) : Int) + (c : Int) = (((b + a / 4294967296) % 4294967296 + c : Nat) : Int) from by omega]
  refine vcFit_u64_in (by omega) ?_
  rw [i4]
  generalize x1 * y1 = d at *
  refine vcFit_u64_in (by omega) ?_
  refine vcShr_nat (n := 32) (by decide) ?_
  rw [show (((b + a / 4294967296) % 4294967296 + c : Nat) : Int) / 2 ^ 32 = ((((b + a / 4294967296) % 4294967296 + c) / 4294967296 : Nat) : Int) from by simp]
  refine vcFit_u64_in (by omega) ?_
  refine vcFit_u64 ?_
  refine ⟨[], _, MT, .nil, fun _ _ _ => trivial, ?_, rfl, rfl⟩
  have e : (d : Int) + (((b + a / 4294967296) / 4294967296 : Nat) : Int) + ((((b + a / 4294967296) % 4294967296 + c) / 4294967296 : Nat) : Int) = ((x * y / 18446744073709551616 : Nat) : Int) := by omega
  show Value.tuple #[.int .u64 ((d : Int) + (((b + a / 4294967296) / 4294967296 : Nat) : Int) + ((((b + a / 4294967296) % 4294967296 + c) / 4294967296 : Nat) : Int)), .int .u64 _] = _
  rw [e]

theorem mod_mersenne (t : Nat) (h : t ≤ 2305843009213693950 * 2305843009213693950) : (if t % 2305843009213693952 + t / 2305843009213693952 < 2305843009213693951 then t % 2305843009213693952 + t / 2305843009213693952 else t % 2305843009213693952 + t / 2305843009213693952 - 2305843009213693951) = t % 2305843009213693951 := by
  split <;> omega

theorem times_spec (x y : Nat) (hx : x < prm) (hy : y < prm) (G : Mp) : Spec Try.prog 86 #[.int .u64 x, .int .u64 y] [] G (Ret (.int .u64 (x * y % prm : Nat))) := by
  refine Spec.intro (args := [_, _]) wide Try.func86 rfl Try.call86 (by rfl) (by rfl) (fun w0 hw0 => ?_)
  rw [prm_eq] at hx hy
  have hle : x * y ≤ 2305843009213693950 * 2305843009213693950 := Nat.mul_le_mul (by omega) (by omega)
  have hm := mod_mersenne (x * y) hle
  refine vcCall_of .nil (mul64_spec x y (by omega) (by omega) _) (fun v own' N' hv => ?_); obtain ⟨rfl, rfl, rfl⟩ := hv
  generalize x * y = t at hle hm ⊢
  rw [prm_eq, ← hm]
  have hand : bitI .and .u64 ((t % 18446744073709551616 : Nat) : Int) 2305843009213693951 = ((t % 2305843009213693952 : Nat) : Int) := by
    rw [show (2305843009213693951 : Int) = ((2305843009213693951 : Nat) : Int) from rfl, bitI_and (by rw [max_u64]; omega) (by rw [max_u64]; omega)]
    rw [show t % 18446744073709551616 &&& 2305843009213693951 = t % 18446744073709551616 % 2305843009213693952 from Nat.and_two_pow_sub_one_eq_mod _ 61]
    congr 1; omega
  refine vcBit_as _ hand ?_
  refine vcShr_nat (n := 61) (by decide) ?_
  refine vcShl_nat (kd := .u64) (n := 3) (by decide) ?_
  refine vcFit_u64_in (by omega) ?_
  have hor : bitI .or .u64 (((t % 18446744073709551616 : Nat) : Int) / 2 ^ 61) (((t / 18446744073709551616 : Nat) : Int) * 2 ^ 3) = ((t / 2305843009213693952 : Nat) : Int) := by
    rw [show ((t % 18446744073709551616 : Nat) : Int) / 2 ^ 61 = ((t % 18446744073709551616 / 2305843009213693952 : Nat) : Int) from by omega, show ((t / 18446744073709551616 : Nat) : Int) * 2 ^ 3 = ((t / 18446744073709551616 * 8 : Nat) : Int) from by omega,
      bitI_or (by rw [max_u64]; omega) (by rw [max_u64]; omega), Nat.or_comm, or_low _ _ 3 (by omega)]
    congr 1; omega
  refine vcBit_as _ hor ?_
  refine vcFit_u64_in (by omega) ?_
  refine vcIf_dec (fun h1 => ?_) (fun h1 => ?_)
  · refine vcFit_u64_in (by omega) ?_
    refine ⟨[], _, MT, .nil, fun _ _ _ => trivial, ?_, rfl, rfl⟩
    refine congrArg (Value.int .u64) ?_
    rw [if_neg (by omega)]; omega
  · refine ⟨[], _, MT, .nil, fun _ _ _ => trivial, ?_, rfl, rfl⟩
    refine congrArg (Value.int .u64) ?_
    rw [if_pos (by omega)]; omega

theorem rtimes_spec (x y : Nat) (hx : x < prm) (hy : y < prm) (G : Mp) : Spec Try.prog 83 #[.int .i64 x, .int .i64 y] [] G (Ret (.int .i64 (x * y % prm : Nat))) := by
  refine Spec.intro (args := [_, _]) wide Try.func83 rfl Try.call83 (by rfl) (by rfl) (fun w0 hw0 => ?_)
  rw [prm_eq] at hx hy ⊢
  refine vcLoop_of (fun g : Nat × Nat × Nat => g.2.2) (fun g => [(5, .int .i64 g.1), (0, .int .i64 g.2.1), (1, .int .i64 g.2.2)]) (fun _ => []) (fun _ => MT)
    (fun g => g.1 < 2305843009213693951 ∧ g.2.1 < 2305843009213693951 ∧ g.2.2 < 2305843009213693951 ∧ (g.1 + g.2.1 * g.2.2) % 2305843009213693951 = x * y % 2305843009213693951) (0, x, y) ⟨by simp, hx, hy, by simp⟩ ⟨rfl, rfl, rfl, trivial⟩ ⟨_, .nil⟩ (fun _ _ => trivial) ?_
  rintro ⟨o, u, v⟩ ⟨ho, hu, hv, he⟩
  simp only at ho hu hv he
  refine vcIf_dec (fun h1 => ?_) (fun h1 => ?_)
  · simp only at h1
    refine vcRem_pos (by simp only; omega) ?_
    have hstep : ∀ o' : Nat, o' % 2305843009213693951 = (o + u * (v % 2)) % 2305843009213693951 → (o' + (u + u) % 2305843009213693951 * (v / 2)) % 2305843009213693951 = x * y % 2305843009213693951 := by
      intro o' h
      rw [← he, Nat.add_mod, h, ← Nat.add_mod, Nat.add_mod (o + u * (v % 2)), Nat.mod_mul_mod, ← Nat.add_mod]
      have e : u * v = u * (v % 2) + (u + u) * (v / 2) := by
        rw [Nat.add_mul, ← Nat.mul_add, ← Nat.mul_add]
        congr 1; omega
      rw [e, Nat.add_assoc]
    refine vcIf_dec (fun h2 => ?_) (fun h2 => ?_)
    · simp only at h2
      refine vcFit_i64 (by simp only; omega) ?_
      refine vcRem_pos (by simp only; omega) ?_
      refine vcFit_i64 (by simp only; omega) ?_
      refine vcRem_pos (by simp only; omega) ?_
      refine vcQuo_i64 (by simp only; omega) ?_
      exact ⟨((o + u) % 2305843009213693951, (u + u) % 2305843009213693951, v / 2), ⟨by simp only; omega, by simp only; omega, by simp only; omega, hstep _ (by rw [show v % 2 = 1 from by omega, Nat.mul_one, Nat.mod_mod])⟩, by simp only; omega, ⟨rfl, rfl, rfl, trivial⟩, ⟨_, .nil⟩, fun _ _ => trivial⟩
    · simp only at h2
      refine vcFit_i64 (by simp only; omega) ?_
      refine vcRem_pos (by simp only; omega) ?_
      refine vcQuo_i64 (by simp only; omega) ?_
      exact ⟨(o, (u + u) % 2305843009213693951, v / 2), ⟨by simp only; omega, by simp only; omega, by simp only; omega, hstep _ (by rw [show v % 2 = 0 from by omega, Nat.mul_zero, Nat.add_zero])⟩, by simp only; omega, ⟨rfl, rfl, rfl, trivial⟩, ⟨_, .nil⟩, fun _ _ => trivial⟩
  · simp only at h1
    have hv0 : v = 0 := by omega
    subst hv0
    rw [Nat.mul_zero, Nat.add_zero, Nat.mod_eq_of_lt ho] at he
    rw [← he]
    exact ⟨[], _, MT, .nil, fun _ _ _ => trivial, rfl, rfl, rfl⟩

theorem powN_no {b e : Int} (h : b < 0 ∨ (prm : Int) ≤ b ∨ e < 0) : powN b e = 0 := if_pos h
theorem powN_ok {b e : Nat} (h : b < prm) : powN b e = b ^ e % prm := by unfold powN; rw [if_neg (by omega)]; simp
theorem powN_lt (b e : Int) : powN b e < prm := by
  unfold powN
  split
  · decide
  · exact Nat.mod_lt _ (by decide)

theorem power_spec (b e : Int) (hb : b ≤ 9223372036854775807) (he : e ≤ 9223372036854775807) (G : Mp) : Spec Try.prog 82 #[.int .i64 b, .int .i64 e] [] G (Ret (.int .i64 (powN b e : Nat))) := by
  refine Spec.intro (args := [_, _]) wide Try.func82 rfl Try.call82 (by rfl) (by rfl) (fun w0 hw0 => ?_)
  refine vcIf_dec (fun h1 => ?_) (fun h1 => ?_)
  · rw [powN_no (.inl h1)]; exact ⟨[], _, MT, .nil, fun _ _ _ => trivial, rfl, rfl, rfl⟩
  refine vcIf_dec (fun h2 => ?_) (fun h2 => ?_)
  · rw [powN_no (.inr (.inl (by rw [prm_eq]; omega)))]; exact ⟨[], _, MT, .nil, fun _ _ _ => trivial, rfl, rfl, rfl⟩
  refine vcIf_dec (fun h3 => ?_) (fun h3 => ?_)
  · rw [powN_no (.inr (.inr h3))]; exact ⟨[], _, MT, .nil, fun _ _ _ => trivial, rfl, rfl, rfl⟩
  obtain ⟨b, rfl⟩ := Int.eq_ofNat_of_zero_le (show 0 ≤ b by omega)
  obtain ⟨e, rfl⟩ := Int.eq_ofNat_of_zero_le (show 0 ≤ e by omega)
  have hbp : b < prm := by rw [prm_eq]; omega
  rw [powN_ok hbp]
  refine vcFit_u64_in (by omega) ?_
  refine vcLoop_of (fun g : Nat × Nat × Nat => g.2.2) (fun g => [(5, .int .u64 g.1), (6, .int .u64 g.2.1), (1, .int .i64 g.2.2)]) (fun _ => []) (fun _ => MT)
    (fun g => g.1 < prm ∧ g.2.1 < prm ∧ g.2.2 ≤ 9223372036854775807 ∧ (g.1 * g.2.1 ^ g.2.2) % prm = b ^ e % prm) (1, b, e) ⟨by simp [prm_eq], hbp, by simp only; omega, by simp⟩ ⟨rfl, rfl, rfl, trivial⟩ ⟨_, .nil⟩ (fun _ _ => trivial) ?_
  rintro ⟨o, x, n⟩ ⟨ho, hx, hn, hq⟩
  simp only at ho hx hn hq
  refine vcIf_dec (fun h1 => ?_) (fun h1 => ?_)
  · simp only at h1
    have hand : bitI .and .i64 ((o, x, n).2.2 : Int) 1 = ((n % 2 : Nat) : Int) := by
      rw [show (1 : Int) = ((1 : Nat) : Int) from rfl, bitI_and (by simp only [max_i64]; omega) (by rw [max_i64]; omega)]
      rw [show n &&& 1 = n % 2 from Nat.and_two_pow_sub_one_eq_mod n 1]
    refine vcBit_as _ hand ?_
    have hpow : (x * x % prm) ^ (n / 2) % prm = (x * x) ^ (n / 2) % prm := by rw [← Nat.pow_mod]
    have hxx : (x * x) ^ (n / 2) = x ^ (2 * (n / 2)) := by rw [← Nat.pow_two, ← Nat.pow_mul]
    have hm : x * x % prm < prm := Nat.mod_lt _ (by decide)
    refine vcIf_dec (fun h2 => ?_) (fun h2 => ?_)
    · refine vcCall_of .nil (times_spec o x ho hx _) (fun v own' N' hv => ?_); obtain ⟨rfl, rfl, rfl⟩ := hv
      refine vcCall_of .nil (times_spec x x hx hx _) (fun v own' N' hv => ?_); obtain ⟨rfl, rfl, rfl⟩ := hv
      refine vcShr_nat (n := 1) (by decide) ?_
      refine ⟨(o * x % prm, x * x % prm, n / 2), ⟨Nat.mod_lt _ (by decide), hm, by simp only; omega, ?_⟩, by simp only; omega, ⟨rfl, rfl, ?_, trivial⟩, ⟨_, .nil⟩, fun _ _ => trivial⟩
      · simp only
        rw [Nat.mod_mul_mod, Nat.mul_mod, hpow, ← Nat.mul_mod, hxx, Nat.mul_assoc, ← Nat.pow_succ', show (2 * (n / 2)).succ = n from by omega, hq]
      · refine congrArg (fun z => some (Value.int .i64 z)) ?_
        simp
    · refine vcCall_of .nil (times_spec x x hx hx _) (fun v own' N' hv => ?_); obtain ⟨rfl, rfl, rfl⟩ := hv
      refine vcShr_nat (n := 1) (by decide) ?_
      refine ⟨(o, x * x % prm, n / 2), ⟨ho, hm, by simp only; omega, ?_⟩, by simp only; omega, ⟨rfl, rfl, ?_, trivial⟩, ⟨_, .nil⟩, fun _ _ => trivial⟩
      · simp only
        rw [Nat.mul_mod, hpow, ← Nat.mul_mod, hxx, show 2 * (n / 2) = n from by omega, hq]
      · refine congrArg (fun z => some (Value.int .i64 z)) ?_
        simp
  · simp only at h1
    have hn0 : n = 0 := by omega
    subst hn0
    rw [Nat.pow_zero, Nat.mul_one, Nat.mod_eq_of_lt ho] at hq
    rw [prm_eq] at ho
    rw [← hq]
    refine vcFit_i64 (by simp only; omega) ?_
    exact ⟨[], _, MT, .nil, fun _ _ _ => trivial, rfl, rfl, rfl⟩

theorem rpower_nat (b : Nat) (hb : b < prm) : ∀ (n e : Nat), e ≤ n → e ≤ 9223372036854775807 → ∀ G : Mp, Spec Try.prog 70 #[.int .i64 b, .int .i64 e] [] G (Ret (.int .i64 (b ^ e % prm : Nat))) := by
  intro n
  induction n with
  | zero =>
    intro e he _ G
    have : e = 0 := by omega
    subst this
    have hb' := hb
    rw [prm_eq] at hb'
    refine Spec.intro (args := [_, _]) wide Try.func70 rfl Try.call70 (by rfl) (by rfl) (fun w0 hw0 => ?_)
    refine vcIf_no (by omega) ?_
    exact ⟨[], _, MT, .nil, fun _ _ _ => trivial, rfl, rfl, rfl⟩
  | succ n ih =>
    intro e he hmax G
    have hb' := hb
    rw [prm_eq] at hb'
    refine Spec.intro (args := [_, _]) wide Try.func70 rfl Try.call70 (by rfl) (by rfl) (fun w0 hw0 => ?_)
    refine vcIf_no (by omega) ?_
    refine vcIf_dec (fun h0 => ?_) (fun h0 => ?_)
    · have : e = 0 := by omega
      subst this
      exact ⟨[], _, MT, .nil, fun _ _ _ => trivial, rfl, rfl, rfl⟩
    refine vcQuo_i64 (by omega) ?_
    rw [show (e : Int) / 2 = ((e / 2 : Nat) : Int) from by omega]
    refine vcCall_of .nil (ih (e / 2) (by omega) (by omega) _) (fun v own' N' hv => ?_); obtain ⟨rfl, rfl, rfl⟩ := hv
    have hl : b ^ (e / 2) % prm < prm := Nat.mod_lt _ (by decide)
    refine vcCall_of .nil (rtimes_spec _ _ hl hl _) (fun v own' N' hv => ?_); obtain ⟨rfl, rfl, rfl⟩ := hv
    have hsq : b ^ (e / 2) % prm * (b ^ (e / 2) % prm) % prm = b ^ (2 * (e / 2)) % prm := by rw [← Nat.mul_mod, ← Nat.pow_add]; congr 2; omega
    rw [hsq]
    refine vcRem_pos (by omega) ?_
    refine vcIf_dec (fun h2 => ?_) (fun h2 => ?_)
    · have hl2 : b ^ (2 * (e / 2)) % prm < prm := Nat.mod_lt _ (by decide)
      refine vcCall_of .nil (rtimes_spec _ _ hl2 hb _) (fun v own' N' hv => ?_); obtain ⟨rfl, rfl, rfl⟩ := hv
      rw [Nat.mod_mul_mod, ← Nat.pow_succ, show (2 * (e / 2)).succ = e from by omega]
      exact ⟨[], _, MT, .nil, fun _ _ _ => trivial, rfl, rfl, rfl⟩
    · rw [show 2 * (e / 2) = e from by omega]
      exact ⟨[], _, MT, .nil, fun _ _ _ => trivial, rfl, rfl, rfl⟩

theorem rpower_spec (b e : Int) (hb : b ≤ 9223372036854775807) (he : e ≤ 9223372036854775807) (G : Mp) : Spec Try.prog 70 #[.int .i64 b, .int .i64 e] [] G (Ret (.int .i64 (powN b e : Nat))) := by
  by_cases h : b < 0 ∨ (prm : Int) ≤ b ∨ e < 0
  · rw [powN_no h]
    rw [prm_eq] at h
    refine Spec.intro (args := [_, _]) wide Try.func70 rfl Try.call70 (by rfl) (by rfl) (fun w0 hw0 => ?_)
    refine vcIf_dec (fun h1 => ?_) (fun h1 => ?_)
    · exact ⟨[], _, MT, .nil, fun _ _ _ => trivial, rfl, rfl, rfl⟩
    refine vcIf_dec (fun h2 => ?_) (fun h2 => ?_)
    · exact ⟨[], _, MT, .nil, fun _ _ _ => trivial, rfl, rfl, rfl⟩
    refine vcIf_yes (by omega) ?_
    exact ⟨[], _, MT, .nil, fun _ _ _ => trivial, rfl, rfl, rfl⟩
  · obtain ⟨b, rfl⟩ := Int.eq_ofNat_of_zero_le (show 0 ≤ b by omega)
    obtain ⟨e, rfl⟩ := Int.eq_ofNat_of_zero_le (show 0 ≤ e by omega)
    have hb : b < prm := by omega
    rw [powN_ok hb]
    exact rpower_nat b hb e e (Nat.le_refl _) (by omega) G
theorem public_spec (e : Int) (he : e ≤ 9223372036854775807) (G : Mp) : Spec Try.prog 66 #[.int .i64 e] [] G (Ret (.int .i64 (powN 37 e : Nat))) := by
  refine Spec.intro (args := [_]) wide Try.func66 rfl Try.call66 (by rfl) (by rfl) (fun w0 hw0 => ?_)
  refine vcCall_of .nil (power_spec 37 e (by omega) he _) (fun v own' N' hv => ?_); obtain ⟨rfl, rfl, rfl⟩ := hv
  exact ⟨[], _, MT, .nil, fun _ _ _ => trivial, rfl, rfl, rfl⟩
theorem agree_spec (e b : Int) (hb : b ≤ 9223372036854775807) (he : e ≤ 9223372036854775807) (G : Mp) : Spec Try.prog 77 #[.int .i64 e, .int .i64 b] [] G (Ret (.int .i64 (powN b e : Nat))) := by
  refine Spec.intro (args := [_, _]) wide Try.func77 rfl Try.call77 (by rfl) (by rfl) (fun w0 hw0 => ?_)
  refine vcCall_of .nil (power_spec b e hb he _) (fun v own' N' hv => ?_); obtain ⟨rfl, rfl, rfl⟩ := hv
  exact ⟨[], _, MT, .nil, fun _ _ _ => trivial, rfl, rfl, rfl⟩
end Go.Proofs.Yticllmnblcjjcaa
