/- Get, the program's and the reference's, is the document's. -/
import Derived.Test.YtaknehiifafhfaaVarB
namespace Go.Proofs.Ytaknehiifafhfaa
open Go.Proofs
set_option maxRecDepth 10000

theorem vget_place {bs : List UInt8} {at_ : Int} (h : at_ < 0 ∨ (bs.length : Int) < at_) : vget bs at_ = (0, 0, 11) := if_pos h
theorem vget_end {bs : List UInt8} {p : Nat} (h1 : p ≤ bs.length) (h : bs.drop p = []) : vget bs p = (0, 0, 12) := by
  unfold vget; rw [if_neg (by omega), Int.toNat_natCast, h]
theorem vget_short {bs : List UInt8} {p : Nat} {b : UInt8} {r : List UInt8} (h1 : p ≤ bs.length) (h : bs.drop p = b :: r) (hs : r.length + 1 < 2 ^ (b.toNat / 64)) : vget bs p = (0, 0, 12) := by
  unfold vget; rw [if_neg (by omega), Int.toNat_natCast, h]; exact if_pos hs
theorem vget_ok {bs : List UInt8} {p : Nat} {b : UInt8} {r : List UInt8} (h1 : p ≤ bs.length) (h : bs.drop p = b :: r) (hs : ¬ r.length + 1 < 2 ^ (b.toNat / 64)) :
    vget bs p = (((beval (b.toNat % 64) (r.take (2 ^ (b.toNat / 64) - 1)) : Nat) : Int), (p : Int) + (2 ^ (b.toNat / 64) : Nat), 0) := by
  unfold vget; rw [if_neg (by omega), Int.toNat_natCast, h]; exact if_neg hs

theorem fdiv_64 (b : UInt8) : ((b.toNat : Int).fdiv (2 ^ (min (6 : Int).toNat IntKind.u8.bits))) = ((b.toNat / 64 : Nat) : Int) := by
  rw [Int.fdiv_eq_ediv_of_nonneg _ (by decide)]
  show (b.toNat : Int) / 64 = _
  omega
theorem and_63 (b : UInt8) : bitI .and .u8 (b.toNat : Int) 63 = ((b.toNat % 64 : Nat) : Int) := by
  have h := b.toNat_lt
  rw [show (63 : Int) = ((63 : Nat) : Int) from rfl, bitI_and (by rw [max_u8]; omega) (by rw [max_u8]; omega)]
  rw [show b.toNat &&& 63 = b.toNat % 64 from Nat.and_two_pow_sub_one_eq_mod b.toNat 6]
theorem or_byte (n : Nat) (x : UInt8) (h : n < 36028797018963968) : bitI .or .i64 ((n : Int) * 2 ^ 8) (x.toNat : Int) = ((n * 256 + x.toNat : Nat) : Int) := by
  have hx := x.toNat_lt
  rw [show (n : Int) * 2 ^ 8 = ((n * 256 : Nat) : Int) from by omega, bitI_or (by rw [max_i64]; omega) (by rw [max_i64]; omega)]
  rw [show n * 256 ||| x.toNat = n * 256 + x.toNat from or_low n x.toNat 8 (by omega)]

theorem get_spec (A : Option Addr) (c : Nat) (bs : List UInt8) (at_ : Int) (G : Mp) (h1 : Ent G (RowAt A (Bs bs))) (hc : bs.length ≤ c) (hm : bs.length ≤ 9223372036854775799) :
    Spec Try.prog 45 #[.slice A bs.length c, .int .i64 at_] [] G (Ret (tup3 (vget bs at_))) := by
  refine Spec.intro (args := [_, _]) wide Try.func45 rfl Try.call45 (by rfl) (by rfl) (fun w0 hw0 => ?_)
  refine vcIf_dec (fun h0 => ?_) (fun h0 => ?_)
  · exact ⟨[], [], MT, .nil, fun _ _ _ => trivial, by rw [vget_place (.inl h0)]; rfl, rfl, rfl⟩
  refine vcIf_dec (fun h2 => ?_) (fun h2 => ?_)
  · exact ⟨[], [], MT, .nil, fun _ _ _ => trivial, by rw [vget_place (.inr h2)]; rfl, rfl, rfl⟩
  obtain ⟨p, rfl⟩ := Int.eq_ofNat_of_zero_le (show 0 ≤ at_ by omega)
  refine vcSlice3_as p (bs.length - p) (c - p) rfl (by omega) (by omega) (by omega) (by omega) (fun A' hA => ?_)
  have hrow : Ent G (RowAt A' (Bs (bs.drop p))) := h1.mono fun w hw => hw.bytes hA (by omega) (by rw [List.take_of_length_le (Nat.le_refl _)])
  have hlen : (bs.drop p).length = bs.length - p := List.length_drop
  clear hA
  generalize hl : bs.drop p = l at hrow hlen
  rw [← hlen]
  cases l with
  | nil =>
    exact ⟨[], [], MT, .nil, fun _ _ _ => trivial, by rw [vget_end (by omega) hl]; rfl, rfl, rfl⟩
  | cons b r =>
    have hb := b.toNat_lt
    have hp := pow_cases b
    have hlc : (b :: r).length = r.length + 1 := rfl
    have h64 : b.toNat / 64 ≤ IntKind.i64.bits := by show b.toNat / 64 ≤ 64; omega
    have hpow : (1 : Int) * 2 ^ (b.toNat / 64) = ((2 ^ (b.toNat / 64) : Nat) : Int) := by simp
    have hv1 := vget_short (p := p) (b := b) (r := r) (by omega) hl
    have hv2 := vget_ok (p := p) (b := b) (r := r) (by omega) hl
    have hshr : (b.toNat : Int) / 2 ^ 6 = ((b.toNat / 64 : Nat) : Int) := by omega
    generalize hs : 2 ^ (b.toNat / 64) = s at hp hv1 hv2 hpow
    refine vcIdx_row (Ent.gnG hrow) ⟨by omega, by omega⟩ (by rw [Bs_length]; omega) (fun a ha => ?_)
    subst ha
    refine vcLoad1_row (v := .int .u8 b.toNat) (Ent.gnG hrow) rfl ?_
    refine vcShr_nat (n := 6) (by decide) ?_
    rw [hshr]
    refine vcShl_nat (kd := .i64) (n := b.toNat / 64) h64 ?_
    rw [hpow]
    refine vcFit_i64 (by omega) ?_
    refine vcIf_dec (fun h3 => ?_) (fun h3 => ?_)
    · exact ⟨[], [], MT, .nil, fun _ _ _ => trivial, by rw [hv1 (by omega)]; rfl, rfl, rfl⟩
    refine vcIdx_row (Ent.gnG hrow) ⟨by omega, by omega⟩ (by rw [Bs_length]; omega) (fun a' ha => ?_)
    cases ha
    refine vcLoad1_row (v := .int .u8 b.toNat) (Ent.gnG hrow) rfl ?_
    refine vcShr_nat (n := 6) (by decide) ?_
    rw [hshr]
    refine vcShl_nat (kd := .i64) (n := b.toNat / 64) h64 ?_
    rw [hpow]
    refine vcFit_i64 (by omega) ?_
    refine vcIdx_row (Ent.gnG hrow) ⟨by omega, by omega⟩ (by rw [Bs_length]; omega) (fun a' ha => ?_)
    cases ha
    refine vcLoad1_row (v := .int .u8 b.toNat) (Ent.gnG hrow) rfl ?_
    refine vcBit_as _ (and_63 b) ?_
    refine vcFit_i64 (by omega) ?_
    have hv := hv2 (by omega)
    have h3' : s ≤ r.length + 1 := by omega
    clear hv1 hv2 hpow h64 h3
    refine vcSlice3_as 1 (s - 1) (c - p - 1) rfl (by omega) (by omega) (by omega) (by omega) (fun A2 hA2 => ?_)
    have hrow2 : Ent G (RowAt A2 (Bs (r.take (s - 1)))) := hrow.mono fun w hw => hw.bytes hA2 (by omega) (by
      rw [List.drop_one, List.tail_cons, List.length_take, Nat.min_eq_left (by omega)])
    clear hA2
    have hlt : (r.take (s - 1)).length = s - 1 := by rw [List.length_take]; omega
    refine vcLoop_of (fun k : Nat => s - 1 - k) (fun k => [(49, .int .i64 k), (48, .int .i64 (s - 1 : Nat)), (47, .slice A2 (s - 1) (c - p - 1)), (4, .int .i64 (beval (b.toNat % 64) (r.take k) : Nat)), (1, .int .i64 p), (8, .int .i64 s)])
      (fun _ => []) (fun _ => MT) (fun k => k ≤ s - 1) 0 (by omega) ⟨rfl, rfl, rfl, rfl, rfl, rfl, trivial⟩ ⟨_, .nil⟩ Ent.refl ?_
    intro k hk
    refine vcIf_dec (fun hlt' => ?_) (fun hge => ?_)
    · have hk' : k < r.length := by omega
      have hbound := beval_bound b r k (by omega)
      refine vcIdx_row (Ent.gnG hrow2) ⟨by omega, by omega⟩ (by rw [Bs_length]; omega) (fun a' ha => ?_)
      subst ha
      refine vcLoad1_row (Ent.gnG hrow2) (v := .int .u8 (r[k].toNat)) (by
        rw [Bs_get (by rw [Int.toNat_natCast]; omega)]
        simp) ?_
      refine vcShl_nat (kd := .i64) (n := 8) (by decide) ?_
      refine vcFit_i64 (by omega) ?_
      refine vcFit_i64 (by have := r[k].toNat_lt; omega) ?_
      refine vcBit_as _ (or_byte _ _ hbound) ?_
      refine vcFit_i64 (by omega) ?_
      refine ⟨k + 1, by omega, by omega, ⟨rfl, rfl, rfl, ?_, rfl, rfl, trivial⟩, ⟨_, .nil⟩, Ent.refl⟩
      refine congrArg (fun z => some (Value.int .i64 z)) ?_
      rw [take_snoc_get hk', beval_snoc]
    · have hk' : k = s - 1 := by omega
      subst hk'
      refine vcFit_i64 (by omega) ?_
      exact ⟨[], [], MT, .nil, fun _ _ _ => trivial, by rw [hv]; rfl, rfl, rfl⟩
end Go.Proofs.Ytaknehiifafhfaa
