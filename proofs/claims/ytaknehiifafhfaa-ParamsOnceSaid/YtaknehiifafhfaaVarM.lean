/- The laws VarintPuts and VarintLeast: what their functions answer. -/
import Derived.Test.YtaknehiifafhfaaVarK
namespace Go.Proofs.Ytaknehiifafhfaa
open Go.Proofs
set_option maxRecDepth 10000

theorem beval_div : ∀ (l : List UInt8) (h : Nat), beval h l / 256 ^ l.length = h
  | [], h => by simp [beval]
  | x :: r, h => by
    have hx := x.toNat_lt
    rw [beval, List.length_cons, Nat.pow_succ, ← Nat.div_div_eq_div_mul, beval_div r]
    omega
theorem be_beval (l : List UInt8) : ∀ h : Nat, be l.length (beval h l) = l := by
  have key : ∀ k (l : List UInt8), l.length = k → ∀ h, be k (beval h l) = l := by
    intro k
    induction k with
    | zero => intro l hl h; rw [List.eq_nil_of_length_eq_zero hl]; rfl
    | succ k ih =>
      intro l hl h
      obtain ⟨r, x, rfl⟩ : ∃ r x, l = r ++ [x] := ⟨l.dropLast, l.getLast (by intro e; simp [e] at hl), (List.dropLast_concat_getLast _).symm⟩
      have hx := x.toNat_lt
      rw [beval_snoc, be, show (beval h r * 256 + x.toNat) / 256 = beval h r from by omega, ih r (by simpa using hl), show (beval h r * 256 + x.toNat) % 256 = x.toNat from by omega]
      simp
  exact key l.length l rfl

/-- What is read at the beginning of bytes: nothing, or a number whose shortest form is no longer. -/
theorem vget_least (bs : List UInt8) : (∃ e : Int, vget bs 0 = (0, 0, e) ∧ e ≠ 0) ∨
    ∃ n en : Nat, vget bs 0 = ((n : Int), (en : Int), 0) ∧ 1 ≤ en ∧ en ≤ bs.length ∧ n < 4611686018427387904 ∧ (vputN n).length ≤ en ∧ ((vputN n).length = en → vputN n = bs.take en) := by
  cases bs with
  | nil => exact .inl ⟨12, rfl, by decide⟩
  | cons b r =>
    by_cases hs : r.length + 1 < 2 ^ (b.toNat / 64)
    · exact .inl ⟨12, vget_short (p := 0) (Nat.zero_le _) rfl hs, by decide⟩
    · right
      have hv := vget_ok (p := 0) (b := b) (r := r) (Nat.zero_le _) rfl hs
      have hb := b.toNat_lt
      have hc : b.toNat / 64 ≤ 3 := by omega
      have hpos := Nat.two_pow_pos (b.toNat / 64)
      have hlen : (r.take (2 ^ (b.toNat / 64) - 1)).length = 2 ^ (b.toNat / 64) - 1 := by rw [List.length_take]; omega
      have hlt := beval_lt (r.take (2 ^ (b.toNat / 64) - 1)) (b.toNat % 64) 64 (by omega)
      have hdiv := beval_div (r.take (2 ^ (b.toNat / 64) - 1)) (b.toNat % 64)
      have hbe := be_beval (r.take (2 ^ (b.toNat / 64) - 1)) (b.toNat % 64)
      rw [hlen] at hlt hdiv hbe
      generalize hn : beval (b.toNat % 64) (r.take (2 ^ (b.toNat / 64) - 1)) = n at hv hlt hdiv hbe
      have hbound : n < 2 ^ (8 * 2 ^ (b.toNat / 64) - 2) := by
        have : (64 : Nat) * 256 ^ (2 ^ (b.toNat / 64) - 1) = 2 ^ (8 * 2 ^ (b.toNat / 64) - 2) := by
          generalize b.toNat / 64 = c at hc
          match c, hc with
          | 0, _ => rfl
          | 1, _ => rfl
          | 2, _ => rfl
          | 3, _ => rfl
        omega
      have h62 : n < 4611686018427387904 := by
        have : 2 ^ (8 * 2 ^ (b.toNat / 64) - 2) ≤ 2 ^ 62 := by
          apply Nat.pow_le_pow_right (by omega)
          have : 2 ^ (b.toNat / 64) ≤ 2 ^ 3 := Nat.pow_le_pow_right (by omega) hc
          omega
        have e : (2 : Nat) ^ 62 = 4611686018427387904 := by decide
        omega
      have hcls := (cls_iff h62 _ hc).1 hbound
      have hpow : 2 ^ cls n ≤ 2 ^ (b.toNat / 64) := Nat.pow_le_pow_right (by omega) hcls
      refine ⟨n, 2 ^ (b.toNat / 64), (by simpa using hv), by omega, by rw [List.length_cons]; omega, h62, by rw [vputN_length]; exact hpow, fun he => ?_⟩
      rw [vputN_length] at he
      obtain ⟨s, hs1, hs2, hs3⟩ := vputN_cons h62
      have hce : cls n = b.toNat / 64 := (Nat.pow_right_inj (by omega)).1 he
      rw [he] at hs1
      have hse : s = 2 ^ (b.toNat / 64) - 1 := by omega
      rw [hs3, hse, hdiv, hbe, hce]
      rw [hs1, List.take_succ_cons, hse]
      congr 1
      rw [show b.toNat % 64 + 64 * (b.toNat / 64) = b.toNat from by omega]
      simp

end Go.Proofs.Ytaknehiifafhfaa
