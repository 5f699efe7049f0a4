/- The short form of a number, without a program. -/
import Derived.Test.YticllmnblcjjcaaVarA
namespace Go.Proofs.Yticllmnblcjjcaa

/-- The class of a number that has one. -/
def cls (n : Nat) : Nat := if n < 64 then 0 else if n < 16384 then 1 else if n < 1073741824 then 2 else 3
theorem cls_le (n : Nat) : cls n ≤ 3 := by unfold cls; split <;> (try split) <;> (try split) <;> omega
theorem cls_iff {n : Nat} (hn : n < 4611686018427387904) : ∀ c, c ≤ 3 → (n < 2 ^ (8 * 2 ^ c - 2) ↔ cls n ≤ c) := by
  intro c hc
  have h3 := cls_le n
  match c, hc with
  | 0, _ => show n < 64 ↔ _; unfold cls; split <;> (try split) <;> (try split) <;> omega
  | 1, _ => show n < 16384 ↔ _; unfold cls; split <;> (try split) <;> (try split) <;> omega
  | 2, _ => show n < 1073741824 ↔ _; unfold cls; split <;> (try split) <;> (try split) <;> omega
  | 3, _ => show n < 4611686018427387904 ↔ _; omega

def hasForm (n : Int) : Prop := 0 ≤ n ∧ n ≤ 4611686018427387903
instance (n : Int) : Decidable (hasForm n) := inferInstanceAs (Decidable (_ ∧ _))
def vclass (n : Int) : Int := if hasForm n then (cls n.toNat : Nat) else -1
def vsize (n : Int) : Nat := if hasForm n then 2 ^ cls n.toNat else 0

/-- The bytes of a number, so many of them. -/
def be : Nat → Nat → List UInt8
  | 0, _ => []
  | s + 1, n => be s (n / 256) ++ [UInt8.ofNat (n % 256)]
theorem be_length : ∀ s n, (be s n).length = s
  | 0, _ => rfl
  | s + 1, n => by simp [be, be_length s]
theorem be_cons : ∀ s n, be (s + 1) n = UInt8.ofNat (n / 256 ^ s % 256) :: be s n
  | 0, n => by simp [be]
  | s + 1, n => by
    rw [be, be_cons s (n / 256), be, List.cons_append, Nat.div_div_eq_div_mul, Nat.pow_succ, Nat.mul_comm 256]
theorem ofNat_toNat (n : Nat) (h : n < 256) : (UInt8.ofNat n).toNat = n := by rw [UInt8.toNat_ofNat']; omega
theorem beval_be : ∀ s n m, beval m (be s n) = m * 256 ^ s + n % 256 ^ s
  | 0, n, m => by simp [be, beval, Nat.mod_one]
  | s + 1, n, m => by
    rw [be, beval_snoc, beval_be s, ofNat_toNat _ (by omega)]
    have h : n % 256 ^ (s + 1) = n / 256 % 256 ^ s * 256 + n % 256 := by
      rw [Nat.pow_succ, Nat.mul_comm (256 ^ s) 256, Nat.mod_mul]; omega
    rw [h, Nat.pow_succ, Nat.add_mul, Nat.mul_assoc]; omega

/-- The shortest form of a number; nothing, if it has none. -/
def vputN (n : Nat) : List UInt8 := match be (2 ^ cls n) n with
  | [] => []
  | b :: r => UInt8.ofNat (b.toNat + 64 * cls n) :: r
def vput (n : Int) : List UInt8 := if hasForm n then vputN n.toNat else []
theorem vputN_length (n : Nat) : (vputN n).length = 2 ^ cls n := by
  have h := be_length (2 ^ cls n) n
  unfold vputN
  split <;> simp_all
theorem vput_length (n : Int) : (vput n).length = vsize n := by
  unfold vput vsize; split
  · exact vputN_length _
  · rfl
theorem vsize_le (n : Int) : vsize n ≤ 8 := by
  unfold vsize; split
  · exact Nat.le_trans (Nat.pow_le_pow_right (by omega) (cls_le n.toNat)) (by decide)
  · omega

/-- The first byte's place is free for the class. -/
theorem form_head {n : Nat} (hn : n < 4611686018427387904) : ∃ s, 2 ^ cls n = s + 1 ∧ n / 256 ^ s < 64 := by
  unfold cls
  split
  · exact ⟨0, rfl, by omega⟩
  · split
    · exact ⟨1, rfl, by omega⟩
    · split
      · exact ⟨3, rfl, by omega⟩
      · exact ⟨7, rfl, by omega⟩
theorem vputN_cons {n : Nat} (hn : n < 4611686018427387904) : ∃ s, 2 ^ cls n = s + 1 ∧ n / 256 ^ s < 64 ∧ vputN n = UInt8.ofNat (n / 256 ^ s + 64 * cls n) :: be s n := by
  obtain ⟨s, hs, hlt⟩ := form_head hn
  refine ⟨s, hs, hlt, ?_⟩
  unfold vputN
  rw [hs, be_cons]
  have := cls_le n
  rw [Nat.mod_eq_of_lt (by omega)]
  show UInt8.ofNat ((UInt8.ofNat (n / 256 ^ s)).toNat + 64 * cls n) :: be s n = _
  rw [ofNat_toNat _ (by omega)]

/-- What a form tells. -/
theorem vget_form {n : Nat} (hn : n < 4611686018427387904) (pre post : List UInt8) :
    vget (pre ++ (vputN n ++ post)) pre.length = ((n : Int), ((pre.length + 2 ^ cls n : Nat) : Int), 0) := by
  obtain ⟨s, hs, hlt, he⟩ := vputN_cons hn
  have hc := cls_le n
  unfold vget
  rw [if_neg (by simp only [List.length_append]; omega), Int.toNat_natCast, List.drop_left, he]
  simp only [List.cons_append]
  have h12 : ∀ q, q < 64 → (q + 64 * cls n) / 64 = cls n ∧ (q + 64 * cls n) % 64 = q := fun q hq => by omega
  rw [ofNat_toNat _ (by omega), (h12 _ hlt).1, (h12 _ hlt).2, hs, Nat.add_sub_cancel]
  rw [if_neg (by simp [be_length])]
  have ht : (be s n ++ post).take s = be s n := by
    have := List.take_left (l₁ := be s n) (l₂ := post)
    rwa [be_length] at this
  rw [ht, beval_be]
  have hd : n / 256 ^ s * 256 ^ s + n % 256 ^ s = n := by rw [Nat.mul_comm]; exact Nat.div_add_mod n (256 ^ s)
  rw [hd]
  simp
end Go.Proofs.Yticllmnblcjjcaa
