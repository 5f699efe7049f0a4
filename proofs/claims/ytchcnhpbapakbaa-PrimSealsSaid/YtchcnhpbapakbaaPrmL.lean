/- The laws of layer 7: what their functions answer. -/
import Derived.Test.YtchcnhpbapakbaaPrmK
import Derived.Test.YtchcnhpbapakbaaPrmJ
namespace Go.Proofs.Ytchcnhpbapakbaa
open Go.Proofs
set_option maxRecDepth 10000

theorem same_at {A A' : Option Addr} {c d n m : Nat} {xs ys : List UInt8} {G : Mp} (hn : xs.length = n) (hm : ys.length = m) (h1 : Ent G (RowAt A (Bs xs))) (h2 : Ent G (RowAt A' (Bs ys))) (hx : n ≤ 9223372036854775807) :
    Spec Try.prog 13 #[.slice A n c, .slice A' m d] [] G (Ret (.bool (decide (xs = ys)))) := by
  subst hn; subst hm; exact same_spec A A' c d xs ys G h1 h2 hx

theorem pow_awake : powN 37 2 = 1369 := by decide +kernel
theorem awake_spec (G : Mp) : Spec Try.prog 12 #[] [] G (Ret (.bool true)) := by
  refine Spec.intro (args := []) wide Try.func12 rfl Try.call12 (by rfl) (by rfl) (fun w0 hw0 => ?_)
  intro b
  refine vcMark_of .here ?_
  refine vcCall_of .nil (seal_spec none none none (some ⟨b, 0, none⟩) 0 0 0 1 [] [] [] [120] _ (fun _ _ => RowAt.nil) (fun _ _ => RowAt.nil) (fun _ _ => RowAt.nil) (Ent.gnO .here (fun w hw => Ob.sl_at hw))) (fun v own' N' hv => ?_)
  rw [sealL_ok (by simp) (by simp)] at hv
  obtain ⟨A, c, rfl, rfl, rfl, hc⟩ := hv
  have hbl : (turnL [] [] [120] ++ tagL [] [] [] (turnL [] [] [120])).length = 17 := by rw [List.length_append, turnL_length, tagL_length]; rfl
  generalize turnL [] [] [120] ++ tagL [] [] [] (turnL [] [] [120]) = bs at hbl
  rw [hbl]
  refine vcCall_of .nil (power_spec 37 2 (by omega) (by omega) _) (fun v own' N' hv => ?_); obtain ⟨rfl, rfl, rfl⟩ := hv
  rw [pow_awake]
  exact ⟨[], _, MT, .nil, fun _ _ _ => trivial, rfl, rfl, rfl⟩

theorem digests_spec (A : Option Addr) (c : Nat) (xs : List UInt8) (G : Mp) (h1 : Ent G (RowAt A (Bs xs))) (hx : xs.length ≤ 281474976710656) :
    Spec Try.prog 3 #[.slice A xs.length c] [] G (Ret (.bool true)) := by
  refine Spec.intro (args := [_]) wide Try.func3 rfl Try.call3 (by rfl) (by rfl) (fun w0 hw0 => ?_)
  refine vcCall_of .nil (copy_spec A c xs _ (Ent.gnG h1) hx) (fun v own' N' hv => ?_); obtain ⟨A1, c1, rfl, rfl, rfl, hc1⟩ := hv
  refine vcCall_of .nil (pdig_spec A1 c1 xs _ (Ent.gnO .here (fun w hw => Ob.sl_at hw)) hx) (fun v own' N' hv => ?_); obtain ⟨rfl, rfl, rfl⟩ := hv
  intro bd
  have hdl : (dig xs).length = 16 := dig_length xs
  have hdl' : (Bs (dig xs)).length = 16 := by rw [Bs_length, hdl]
  refine ⟨hdl', vcStoreN_row _ .here hdl' (Bs_one _) ?_⟩
  refine vcDraw_mix [0,1,2,3,4,5,6,7,8,9,10,11,12] MT (by kernel_rfl) (fun _ _ => trivial) ?_
  refine vcCall_of .nil (awake_spec _) (fun v own' N' hv => ?_); obtain ⟨rfl, rfl, rfl⟩ := hv
  refine ⟨MT, .inl (fun _ h => h), fun _ _ => trivial, ?_⟩
  refine vcRange_of (by omega) ?_
  refine vcCall_of .nil (rdig_spec A c xs _ (Ent.gnG h1) hx) (fun v own' N' hv => ?_); obtain ⟨A2, c2, rfl, rfl, rfl, hc2⟩ := hv
  refine ⟨MT, .inl (fun _ h => h), fun _ _ => trivial, ?_⟩
  refine vcCall_of .nil (same_at (xs := dig xs) (ys := dig xs) hdl rfl (Ent.gnO (.there .here) (fun w hw => Ob.row_at hw)) (Ent.gnO .here (fun w hw => Ob.sl_at hw)) (by decide)) (fun v own' N' hv => ?_); obtain ⟨rfl, rfl, rfl⟩ := hv
  refine ⟨MT, .inl (fun _ h => h), fun _ _ => trivial, ?_⟩
  refine vcIf_yes rfl ?_
  refine vcCall_of .nil (same_spec A1 A c1 c xs xs _ (Ent.gnO (.there (.there .here)) (fun w hw => Ob.sl_at hw)) (Ent.gnG h1) (by omega)) (fun v own' N' hv => ?_); obtain ⟨rfl, rfl, rfl⟩ := hv
  refine ⟨MT, .inl (fun _ h => h), fun _ _ => trivial, ?_⟩
  refine ⟨[], _, MT, .nil, fun _ _ _ => trivial, ?_, rfl, rfl⟩
  simp [tupleOf]

theorem powers_spec (b e : Int) (hb : b ≤ 9223372036854775807) (he : e ≤ 9223372036854775807) (G : Mp) : Spec Try.prog 4 #[.int .i64 b, .int .i64 e] [] G (Ret (.bool true)) := by
  refine Spec.intro (args := [_, _]) wide Try.func4 rfl Try.call4 (by rfl) (by rfl) (fun w0 hw0 => ?_)
  refine vcCall_of .nil (awake_spec _) (fun v own' N' hv => ?_); obtain ⟨rfl, rfl, rfl⟩ := hv
  refine vcCall_of .nil (power_spec b e hb he _) (fun v own' N' hv => ?_); obtain ⟨rfl, rfl, rfl⟩ := hv
  refine vcCall_of .nil (rpower_spec b e hb he _) (fun v own' N' hv => ?_); obtain ⟨rfl, rfl, rfl⟩ := hv
  refine vcIf_yes rfl ?_
  refine vcCall_of .nil (public_spec e he _) (fun v own' N' hv => ?_); obtain ⟨rfl, rfl, rfl⟩ := hv
  refine vcCall_of .nil (rpower_spec 37 e (by omega) he _) (fun v own' N' hv => ?_); obtain ⟨rfl, rfl, rfl⟩ := hv
  refine vcIf_yes rfl ?_
  refine vcCall_of .nil (agree_spec e b hb he _) (fun v own' N' hv => ?_); obtain ⟨rfl, rfl, rfl⟩ := hv
  refine vcCall_of .nil (rpower_spec b e hb he _) (fun v own' N' hv => ?_); obtain ⟨rfl, rfl, rfl⟩ := hv
  refine ⟨[], _, MT, .nil, fun _ _ _ => trivial, ?_, rfl, rfl⟩
  simp [tupleOf]

theorem pow_agree (a b : Nat) : powN (powN 37 b : Nat) a = powN (powN 37 a : Nat) b := by
  have h37 : (37 : Nat) < prm := by decide
  have e1 : ∀ n : Nat, powN 37 n = 37 ^ n % prm := fun n => powN_ok (b := 37) h37
  rw [e1, e1, powN_ok (Nat.mod_lt _ (by decide)), powN_ok (Nat.mod_lt _ (by decide)), ← Nat.pow_mod, ← Nat.pow_mod, ← Nat.pow_mul, ← Nat.pow_mul, Nat.mul_comm]
/-- 37 has an inverse modulo 2^61 - 1. -/
theorem inv37 : 37 * 2181202846553494278 % prm = 1 := by decide +kernel
theorem pow37_pos (a : Nat) : 0 < powN 37 a := by
  have h37 : (37 : Nat) < prm := by decide
  rw [show powN 37 a = 37 ^ a % prm from powN_ok (b := 37) h37]
  refine Nat.pos_of_ne_zero fun h => ?_
  have h1 : (37 ^ a * 2181202846553494278 ^ a) % prm = 1 := by
    rw [← Nat.mul_pow, Nat.pow_mod, inv37, Nat.one_pow]; decide
  rw [Nat.mul_mod, h, Nat.zero_mul, Nat.zero_mod] at h1
  cases h1

theorem public_no (n : Int) (h : n < 0) : powN 37 n = 0 := powN_no (.inr (.inr h))
theorem agrees_spec (a b : Int) (ha : a ≤ 9223372036854775807) (hb : b ≤ 9223372036854775807) (G : Mp) : Spec Try.prog 5 #[.int .i64 a, .int .i64 b] [] G (Ret (.bool true)) := by
  obtain ⟨x, hx⟩ : ∃ x : Int, x = ((powN 37 a : Nat) : Int) := ⟨_, rfl⟩
  obtain ⟨y, hy⟩ : ∃ y : Int, y = ((powN 37 b : Nat) : Int) := ⟨_, rfl⟩
  obtain ⟨q, hq⟩ : ∃ q : Int, q = ((powN y a : Nat) : Int) := ⟨_, rfl⟩
  have px : ∀ G, Spec Try.prog 17 #[.int .i64 a] [] G (Ret (.int .i64 x)) := fun G => by rw [hx]; exact public_spec a ha G
  have py : ∀ G, Spec Try.prog 17 #[.int .i64 b] [] G (Ret (.int .i64 y)) := fun G => by rw [hy]; exact public_spec b hb G
  have l1 := powN_lt 37 a
  have l2 := powN_lt 37 b
  rw [prm_eq] at l1 l2
  have lx : 0 ≤ x ∧ x < 2305843009213693951 := by omega
  have ly : 0 ≤ y ∧ y < 2305843009213693951 := by omega
  have hx0 : a < 0 → x = 0 := fun h => by rw [hx, public_no a h]; rfl
  have hy0 : b < 0 → y = 0 := fun h => by rw [hy, public_no b h]; rfl
  have hag : 0 ≤ a → 0 ≤ b → q = ((powN x b : Nat) : Int) ∧ 0 < x ∧ 0 < y := by
    intro h1 h2
    obtain ⟨a', rfl⟩ := Int.eq_ofNat_of_zero_le h1
    obtain ⟨b', rfl⟩ := Int.eq_ofNat_of_zero_le h2
    have p1 := pow37_pos a'
    have p2 := pow37_pos b'
    refine ⟨?_, by omega, by omega⟩
    rw [hq, hx, hy, pow_agree a' b']
  have qa : ∀ G, Spec Try.prog 18 #[.int .i64 a, .int .i64 y] [] G (Ret (.int .i64 q)) := fun G => by rw [hq]; exact agree_spec a y (by omega) ha G
  have qb : 0 ≤ a → 0 ≤ b → ∀ G, Spec Try.prog 18 #[.int .i64 b, .int .i64 x] [] G (Ret (.int .i64 q)) := fun h1 h2 G => by rw [(hag h1 h2).1]; exact agree_spec b x (by omega) hb G
  clear hx hy hq l1 l2
  refine Spec.intro (args := [_, _]) wide Try.func5 rfl Try.call5 (by rfl) (by rfl) (fun w0 hw0 => ?_)
  refine vcCall_of .nil (px _) (fun v own' N' hv => ?_); obtain ⟨rfl, rfl, rfl⟩ := hv
  refine vcCall_of .nil (py _) (fun v own' N' hv => ?_); obtain ⟨rfl, rfl, rfl⟩ := hv
  by_cases hab : a < 0 ∨ b < 0
  · repeat' (first
      | refine vcIf_yes (by omega) ?_
      | refine vcIf_no (by omega) ?_
      | refine vcIf_dec (fun _ => ?_) (fun _ => ?_)
      | (refine vcCall_of .nil (awake_spec _) (fun v own' N' hv => ?_); obtain ⟨rfl, rfl, rfl⟩ := hv))
    all_goals exact ⟨[], _, MT, .nil, fun _ _ _ => trivial, rfl, rfl, rfl⟩
  · obtain ⟨_, p1, p2⟩ := hag (by omega) (by omega)
    refine vcIf_no (by omega) ?_
    refine vcIf_no (by omega) ?_
    refine vcCall_of .nil (qa _) (fun v own' N' hv => ?_); obtain ⟨rfl, rfl, rfl⟩ := hv
    refine vcCall_of .nil (qb (by omega) (by omega) _) (fun v own' N' hv => ?_); obtain ⟨rfl, rfl, rfl⟩ := hv
    refine vcIf_yes (by rfl) ?_
    refine vcIf_yes (by omega) ?_
    refine vcIf_yes (by omega) ?_
    refine vcIf_yes (by omega) ?_
    refine vcCall_of .nil (awake_spec _) (fun v own' N' hv => ?_); obtain ⟨rfl, rfl, rfl⟩ := hv
    exact ⟨[], _, MT, .nil, fun _ _ _ => trivial, rfl, rfl, rfl⟩

theorem masks_spec (Ak As : Option Addr) (ck cs : Nat) (key sample : List UInt8) (G : Mp) (hk : Ent G (RowAt Ak (Bs key))) (hs : Ent G (RowAt As (Bs sample))) (h1 : key.length ≤ 281474976710656) (h2 : sample.length ≤ cs) (h3 : sample.length ≤ 281474976710656) :
    Spec Try.prog 6 #[.slice Ak key.length ck, .slice As sample.length cs] [] G (Ret (.bool true)) := by
  refine Spec.intro (args := [_, _]) wide Try.func6 rfl Try.call6 (by rfl) (by rfl) (fun w0 hw0 => ?_)
  refine vcCall_of .nil (copy_spec Ak ck key _ (Ent.gnG hk) h1) (fun v own' N' hv => ?_); obtain ⟨A1, c1, rfl, rfl, rfl, hc1⟩ := hv
  refine vcCall_of .nil (copy_spec As cs sample _ (Ent.gnG hs) h3) (fun v own' N' hv => ?_); obtain ⟨A2, c2, rfl, rfl, rfl, hc2⟩ := hv
  refine vcCall_of .nil (mask_spec A1 A2 c1 c2 key sample _ (Ent.gnO (.there .here) (fun w hw => Ob.sl_at hw)) (Ent.gnO .here (fun w hw => Ob.sl_at hw)) hc2) (fun v own' N' hv => ?_); obtain ⟨rfl, rfl, rfl⟩ := hv
  intro bm
  have hml : (Bs (maskL key sample).1).length = 5 := by rw [Bs_length, maskL_length]
  refine ⟨hml, vcStoreN_row _ .here hml (Bs_one _) ?_⟩
  refine vcCall_of .nil (rmask_spec Ak As ck cs key sample _ (Ent.gnG hk) (Ent.gnG hs) h2) (fun v own' N' hv => ?_)
  obtain ⟨A3, c3, rfl, rfl, hrow, hc3⟩ := hv
  refine vcCall_of .nil (awake_spec _) (fun v own' N' hv => ?_); obtain ⟨rfl, rfl, rfl⟩ := hv
  refine vcRange_of (by omega) ?_
  refine vcCall_of .nil (same_at (xs := (maskL key sample).1) (ys := (maskL key sample).1) (maskL_length _ _) rfl (Ent.gnO .here (fun w hw => Ob.row_at hw)) (Ent.gnN (.andL (.andR hrow))) (by decide)) (fun v own' N' hv => ?_); obtain ⟨rfl, rfl, rfl⟩ := hv
  refine vcIf_yes rfl ?_
  refine ⟨[], _, MT, .nil, fun _ _ _ => trivial, ?_, rfl, rfl⟩
  simp [tupleOf]

theorem xall_prefix (secret label : List UInt8) (j : Nat) : ∀ k, (xall secret label (j + k)).take (16 * j) = xall secret label j
  | 0 => List.take_of_length_le (by rw [xall_length]; exact Nat.le_refl _)
  | k + 1 => by
    rw [← Nat.add_assoc, xall_succ, List.take_append_of_le_length (by rw [xall_length]; omega)]
    exact xall_prefix secret label j k
theorem expandL_prefix (secret label : List UInt8) (n : Nat) : ((xall secret label ((n + 20 + 15) / 16)).take (n + 20)).take n = (xall secret label ((n + 15) / 16)).take n := by
  obtain ⟨k, hk⟩ : ∃ k, (n + 20 + 15) / 16 = (n + 15) / 16 + k := ⟨(n + 20 + 15) / 16 - (n + 15) / 16, by omega⟩
  rw [List.take_take, Nat.min_eq_left (by omega), hk]
  have := xall_prefix secret label ((n + 15) / 16) k
  rw [← this, List.take_take, Nat.min_eq_left (by omega)]

theorem expands_spec (As : Option Addr) (cs : Nat) (secret : List UInt8) (lab : ByteArray) (n : Int) (G : Mp) (hs : Ent G (RowAt As (Bs secret))) (h1 : secret.length ≤ 281474976710656) :
    Spec Try.prog 7 #[.slice As secret.length cs, .string lab, .int .i64 n] [] G (Ret (.bool true)) := by
  refine Spec.intro (args := [_, _, _]) wide Try.func7 rfl Try.call7 (by rfl) (by rfl) (fun w0 hw0 => ?_)
  have hlen : (expandL secret lab.data.toList n).1.length ≤ 1024 := by
    unfold expandL
    split
    · simp
    · split
      · simp
      · rw [List.length_take]; omega
  refine vcCall_of .nil (copy_spec As cs secret _ (Ent.gnG hs) h1) (fun v own' N' hv => ?_); obtain ⟨A1, c1, rfl, rfl, rfl, hc1⟩ := hv
  refine vcCall_of .nil (expand_spec A1 c1 secret lab n _ (Ent.gnO .here (fun w hw => Ob.sl_at hw))) (fun v own' N' hv => ?_)
  obtain ⟨A2, c2, rfl, rfl, hrow, hc2⟩ := hv
  refine vcCall_of .nil (rexpand_spec As cs secret lab n _ (Ent.gnG hs)) (fun v own' N' hv => ?_)
  obtain ⟨A3, c3, rfl, rfl, rfl, hc3⟩ := hv
  refine vcCall_of .nil (same_spec A2 A3 c2 c3 _ _ _ (Ent.gnN (.andL (.andR hrow))) (Ent.gnO .here (fun w hw => Ob.sl_at hw)) (by omega)) (fun v own' N' hv => ?_); obtain ⟨rfl, rfl, rfl⟩ := hv
  refine vcIf_nno rfl ?_
  refine vcIf_nno rfl ?_
  by_cases hok : (expandL secret lab.data.toList n).2 = 0 ∧ n ≤ 1000
  · have hparts : ¬ (255 < secret.length ∨ 255 < lab.data.toList.length) ∧ ¬ (n < 0 ∨ 1024 < n) := by
      have h2 := hok.1
      unfold expandL at h2
      split at h2
      · simp at h2
      · split at h2
        · simp at h2
        · exact ⟨by assumption, by assumption⟩
    obtain ⟨n, rfl⟩ := Int.eq_ofNat_of_zero_le (show 0 ≤ n by omega)
    have e1 := expandL_ok (secret := secret) (label := lab.data.toList) (n := n) hparts.1 (by omega)
    have e2 := expandL_ok (secret := secret) (label := lab.data.toList) (n := n + 20) hparts.1 (by omega)
    have hl1 := expandL_length (secret := secret) (label := lab.data.toList) (n := n)
    have hl2 := expandL_length (secret := secret) (label := lab.data.toList) (n := n + 20)
    have hpre := expandL_prefix secret lab.data.toList n
    rw [e1] at hrow hc2 hc3 ⊢
    refine vcIf_no (by omega) ?_
    refine vcCall_of .nil (copy_spec As cs secret _ (Ent.gnG hs) h1) (fun v own' N' hv => ?_); obtain ⟨A4, c4, rfl, rfl, rfl, hc4⟩ := hv
    refine vcFit_i64 (by omega) ?_
    rw [show (n : Int) + 20 = ((n + 20 : Nat) : Int) from by omega]
    refine vcCall_of .nil (expand_spec A4 c4 secret lab (n + 20 : Nat) _ (Ent.gnO .here (fun w hw => Ob.sl_at hw))) (fun v own' N' hv => ?_)
    obtain ⟨A5, c5, rfl, rfl, hrow5, hc5⟩ := hv
    rw [e2] at hrow5 hc5 ⊢
    simp only at hrow hc2 hc3 hrow5 hc5 ⊢
    generalize (xall secret lab.data.toList ((n + 15) / 16)).take n = x at hl1 hrow hc2 hc3 hpre ⊢
    generalize (xall secret lab.data.toList ((n + 20 + 15) / 16)).take (n + 20) = y at hl2 hrow5 hc5 hpre ⊢
    refine vcIf_yes (by omega) ?_
    refine vcFit_i64 (by omega) ?_
    refine vcIf_yes (by omega) ?_
    refine vcSlice3_as 0 n c5 rfl (by omega) (by omega) (by omega) (by omega) (fun A6 hA6 => ?_)
    have hA : A6 = A5 := hA6.trans (cutA_zero A5 _ _)
    subst hA
    have hrow6 : Ent (RowAt A6 (Bs y)) (RowAt A6 (Bs x)) := fun w hw => by rw [← hpre, Bs_take]; exact RowAt.take hw n
    refine vcCall_of .nil (same_at (xs := x) (ys := x) hl1 rfl (Ent.gnN (.andR (hrow5.mono hrow6))) (Ent.gnN (.andL (.andL (.andL (.andL (.andR hrow)))))) (by omega)) (fun v own' N' hv => ?_); obtain ⟨rfl, rfl, rfl⟩ := hv
    refine vcIf_yes rfl ?_
    refine vcCall_of .nil (awake_spec _) (fun v own' N' hv => ?_); obtain ⟨rfl, rfl, rfl⟩ := hv
    exact ⟨[], _, MT, .nil, fun _ _ _ => trivial, rfl, rfl, rfl⟩
  · refine vcIf_ndec (fun h => ?_) (fun h => ?_)
    · refine vcCall_of .nil (awake_spec _) (fun v own' N' hv => ?_); obtain ⟨rfl, rfl, rfl⟩ := hv
      exact ⟨[], _, MT, .nil, fun _ _ _ => trivial, rfl, rfl, rfl⟩
    · refine vcIf_yes (by omega) ?_
      refine vcCall_of .nil (awake_spec _) (fun v own' N' hv => ?_); obtain ⟨rfl, rfl, rfl⟩ := hv
      exact ⟨[], _, MT, .nil, fun _ _ _ => trivial, rfl, rfl, rfl⟩
end Go.Proofs.Ytchcnhpbapakbaa
