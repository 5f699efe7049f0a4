/- The laws VarintPuts and VarintLeast: what their functions answer. -/
import Derived.Test.YtklcogbbpimccaaVarK
namespace Go.Proofs.Ytklcogbbpimccaa
open Go.Proofs
set_option maxRecDepth 10000

theorem puts_spec (n : Int) (hn : -9223372036854775808 ≤ n ∧ n ≤ 9223372036854775807) (G : Mp) :
    Spec Try.prog 5 #[.int .i64 n] [] G (Ret (.bool true)) := by
  refine Spec.intro (args := [_]) wide Try.func5 rfl Try.call5 (by rfl) (by rfl) (fun w0 hw0 => ?_)
  have h8 := vsize_le n
  have hl := vput_length n
  refine vcCall_of .nil (put_spec n hn _) (fun v own' N' hv => ?_)
  obtain ⟨A, cap, rfl, rfl, rfl, hcap⟩ := hv
  refine vcCall_of .nil (rsize_spec n _) (fun v own' N' hv => ?_)
  obtain ⟨rfl, rfl, rfl⟩ := hv
  refine vcCall_of .nil (awake_spec _) (fun v own' N' hv => ?_)
  obtain ⟨rfl, rfl, rfl⟩ := hv
  refine vcCall_of .nil (size_spec n hn _) (fun v own' N' hv => ?_)
  obtain ⟨rfl, rfl, rfl⟩ := hv
  refine vcIf_yes rfl ?_
  refine vcCall_of .nil (rput_spec n _) (fun v own' N' hv => ?_)
  obtain ⟨A2, cap2, rfl, rfl, rfl, hcap2⟩ := hv
  refine vcCall_of .nil (same_spec A A2 cap cap2 (vput n) (vput n) _ (Ent.gnO (.there .here) fun w hw => Ob.sl_at hw) (Ent.gnO .here fun w hw => Ob.sl_at hw) (by omega)) (fun v own' N' hv => ?_)
  obtain ⟨rfl, rfl, rfl⟩ := hv
  refine vcIf_yes rfl ?_
  by_cases hf : hasForm n
  · have hs : 0 < vsize n := by unfold vsize; rw [if_pos hf]; exact Nat.two_pow_pos _
    rw [if_pos hf]
    refine vcIf_is true ?_ ?_
    · show (decide ((0 : Int) = 0) == decide ((0 : Int) < (vsize n : Nat))) = true
      rw [decide_eq_true (show (0 : Int) < (vsize n : Nat) by omega)]; rfl
    exact ⟨[], _, MT, .nil, fun _ _ _ => trivial, rfl, rfl, rfl⟩
  · have hs : vsize n = 0 := by unfold vsize; rw [if_neg hf]
    rw [if_neg hf, hs]
    exact ⟨[], _, MT, .nil, fun _ _ _ => trivial, rfl, rfl, rfl⟩

theorem beval_div : ∀ (l : List UInt8) (h : Nat), beval h l / 256 ^ l.length = h
  | [], h => by simp [beval]
  | x :: r, h => by
    have hx := x.toNat_lt
    rw [beval, List.length_cons, Nat.pow_succ, ← Nat.div_div_eq_div_mul, beval_div r]
    omega
theorem be_beval (l : List UInt8) : ∀ h : Nat, be l.length (beval h l) = l := by
  have key : ∀ k (l : List UInt8), l.length = k → ∀ h, be k (beval h l) = l := by
    intro k
    induction k with
    | zero => intro l hl h; rw [List.eq_nil_of_length_eq_zero hl]; rfl
    | succ k ih =>
      intro l hl h
      obtain ⟨r, x, rfl⟩ : ∃ r x, l = r ++ [x] := ⟨l.dropLast, l.getLast (by intro e; simp [e] at hl), (List.dropLast_concat_getLast _).symm⟩
      have hx := x.toNat_lt
      rw [beval_snoc, be, show (beval h r * 256 + x.toNat) / 256 = beval h r from by omega, ih r (by simpa using hl), show (beval h r * 256 + x.toNat) % 256 = x.toNat from by omega]
      simp
  exact key l.length l rfl

/-- What is read at the beginning of bytes: nothing, or a number whose shortest form is no longer. -/
theorem vget_least (bs : List UInt8) : (∃ e : Int, vget bs 0 = (0, 0, e) ∧ e ≠ 0) ∨
    ∃ n en : Nat, vget bs 0 = ((n : Int), (en : Int), 0) ∧ 1 ≤ en ∧ en ≤ bs.length ∧ n < 4611686018427387904 ∧ (vputN n).length ≤ en ∧ ((vputN n).length = en → vputN n = bs.take en) := by
  cases bs with
  | nil => exact .inl ⟨12, rfl, by decide⟩
  | cons b r =>
    by_cases hs : r.length + 1 < 2 ^ (b.toNat / 64)
    · exact .inl ⟨12, vget_short (p := 0) (Nat.zero_le _) rfl hs, by decide⟩
    · right
      have hv := vget_ok (p := 0) (b := b) (r := r) (Nat.zero_le _) rfl hs
      have hb := b.toNat_lt
      have hc : b.toNat / 64 ≤ 3 := by omega
      have hpos := Nat.two_pow_pos (b.toNat / 64)
      have hlen : (r.take (2 ^ (b.toNat / 64) - 1)).length = 2 ^ (b.toNat / 64) - 1 := by rw [List.length_take]; omega
      have hlt := beval_lt (r.take (2 ^ (b.toNat / 64) - 1)) (b.toNat % 64) 64 (by omega)
      have hdiv := beval_div (r.take (2 ^ (b.toNat / 64) - 1)) (b.toNat % 64)
      have hbe := be_beval (r.take (2 ^ (b.toNat / 64) - 1)) (b.toNat % 64)
      rw [hlen] at hlt hdiv hbe
      generalize hn : beval (b.toNat % 64) (r.take (2 ^ (b.toNat / 64) - 1)) = n at hv hlt hdiv hbe
      have hbound : n < 2 ^ (8 * 2 ^ (b.toNat / 64) - 2) := by
        have : (64 : Nat) * 256 ^ (2 ^ (b.toNat / 64) - 1) = 2 ^ (8 * 2 ^ (b.toNat / 64) - 2) := by
          generalize b.toNat / 64 = c at hc
          match c, hc with
          | 0, _ => rfl
          | 1, _ => rfl
          | 2, _ => rfl
          | 3, _ => rfl
        omega
      have h62 : n < 4611686018427387904 := by
        have : 2 ^ (8 * 2 ^ (b.toNat / 64) - 2) ≤ 2 ^ 62 := by
          apply Nat.pow_le_pow_right (by omega)
          have : 2 ^ (b.toNat / 64) ≤ 2 ^ 3 := Nat.pow_le_pow_right (by omega) hc
          omega
        have e : (2 : Nat) ^ 62 = 4611686018427387904 := by decide
        omega
      have hcls := (cls_iff h62 _ hc).1 hbound
      have hpow : 2 ^ cls n ≤ 2 ^ (b.toNat / 64) := Nat.pow_le_pow_right (by omega) hcls
      refine ⟨n, 2 ^ (b.toNat / 64), (by simpa using hv), by omega, by rw [List.length_cons]; omega, h62, by rw [vputN_length]; exact hpow, fun he => ?_⟩
      rw [vputN_length] at he
      obtain ⟨s, hs1, hs2, hs3⟩ := vputN_cons h62
      have hce : cls n = b.toNat / 64 := (Nat.pow_right_inj (by omega)).1 he
      rw [he] at hs1
      have hse : s = 2 ^ (b.toNat / 64) - 1 := by omega
      rw [hs3, hse, hdiv, hbe, hce]
      rw [hs1, List.take_succ_cons, hse]
      congr 1
      rw [show b.toNat % 64 + 64 * (b.toNat / 64) = b.toNat from by omega]
      simp

theorem least_spec (A : Option Addr) (c : Nat) (bs : List UInt8) (G : Mp) (h1 : Ent G (RowAt A (Bs bs))) (hc : bs.length ≤ c) (hm : c ≤ 140737488355328) :
    Spec Try.prog 6 #[.slice A bs.length c] [] G (Ret (.bool true)) := by
  refine Spec.intro (args := [_]) wide Try.func6 rfl Try.call6 (by rfl) (by rfl) (fun w0 hw0 => ?_)
  refine vcCall_of .nil (copy_spec A c bs _ (Ent.gnG h1) (by omega)) (fun v own' N' hv => ?_)
  obtain ⟨A', c', rfl, rfl, rfl, hc'⟩ := hv
  refine vcCall_of .nil (get_spec A' c' bs 0 _ (Ent.gnO .here fun w hw => Ob.sl_at hw) hc' (by omega)) (fun v own' N' hv => ?_)
  obtain ⟨rfl, rfl, rfl⟩ := hv
  rcases vget_least bs with ⟨e, hv, he⟩ | ⟨n, en, hv, h2, h3, h4, h5, h6⟩
  · rw [hv]
    refine vcIf_nyes he ?_
    refine vcCall_of .nil (awake_spec _) (fun v own' N' hv => ?_)
    obtain ⟨rfl, rfl, rfl⟩ := hv
    exact ⟨[], _, MT, .nil, fun _ _ _ => trivial, rfl, rfl, rfl⟩
  · have ht : tup3 (vget bs 0) = .tuple #[.int .i64 n, .int .i64 en, .int .i64 0] := by rw [hv]; rfl
    rw [ht]
    have hf : hasForm (n : Int) := ⟨by omega, by omega⟩
    have hput : vput (n : Int) = vputN n := by unfold vput; rw [if_pos hf, Int.toNat_natCast]
    have hsz : vsize (n : Int) = (vputN n).length := by rw [← hput, vput_length]
    refine vcCall_of .nil (put_spec n (by omega) _) (fun v own' N' hv => ?_)
    obtain ⟨A2, cap2, rfl, rfl, rfl, hcap⟩ := hv
    rw [hput, if_pos hf]
    refine vcIf_no (by omega) ?_
    refine vcIf_no (by omega) ?_
    refine vcIf_no (by omega) ?_
    refine vcCall_of .nil (size_spec n (by omega) _) (fun v own' N' hv => ?_)
    obtain ⟨rfl, rfl, rfl⟩ := hv
    rw [hsz]
    refine vcIf_nno rfl ?_
    refine vcIf_dec (fun hlt => ?_) (fun hge => ?_)
    · refine vcCall_of .nil (awake_spec _) (fun v own' N' hv => ?_)
      obtain ⟨rfl, rfl, rfl⟩ := hv
      exact ⟨[], _, MT, .nil, fun _ _ _ => trivial, rfl, rfl, rfl⟩
    · have he : (vputN n).length = en := by omega
      have h7 := h6 he
      refine vcSlice3_as 0 en c rfl (by omega) (by omega) (by omega) (by omega) (fun A3 hA3 => ?_)
      have hl : (bs.take en).length = en := by rw [List.length_take]; omega
      have hrow : Ent G (RowAt A3 (Bs (bs.take en))) := h1.mono fun w hw => hw.bytes hA3 (by omega) (by rw [hl, List.drop_zero])
      clear hA3 hv ht h6
      generalize bs.take en = ys at hrow h7 hl
      subst hl
      refine vcCall_of .nil (same_spec A2 A3 cap2 c (vputN n) ys _ (Ent.gnO .here fun w hw => Ob.sl_at hw) (Ent.gnG hrow) (by omega)) (fun v own' N' hv => ?_)
      obtain ⟨rfl, rfl, rfl⟩ := hv
      refine vcIf_yes h7 ?_
      refine vcCall_of .nil (awake_spec _) (fun v own' N' hv => ?_)
      obtain ⟨rfl, rfl, rfl⟩ := hv
      exact ⟨[], _, MT, .nil, fun _ _ _ => trivial, rfl, rfl, rfl⟩
end Go.Proofs.Ytklcogbbpimccaa
