/- Copying and comparing bytes: what the reference's functions do. -/
import Derived.Test.YticllmnblcjjcaaUse
import Derived.Test.YticllmnblcjjcaaProg
namespace Go.Proofs.Yticllmnblcjjcaa
open Go.Proofs
set_option maxRecDepth 10000

theorem wide : Try.prog.follows .mixedOrders = true := by kernel_rfl

/-- ref.Copy. -/
theorem copy_spec (A : Option Addr) (c : Nat) (xs : List UInt8) (G : Mp) (h1 : Ent G (RowAt A (Bs xs))) (hx : xs.length ≤ 281474976710656) :
    Spec Try.prog 20 #[.slice A xs.length c] [] G (Own1 xs.length 5 1 (Bs xs)) := by
  refine Spec.intro (args := [_]) wide Try.func20 rfl Try.call20 (by rfl) (by rfl) (fun w0 hw0 => ?_)
  refine vcMk_nat xs.length rfl rfl (by omega) (by omega) (fun b => ?_)
  refine vcCpy_of _ _ (Bs xs) .here (by simp [zerosL_length]) (by simp [Bs_length]) (Bs_one xs) (Ent.gnG h1) ?_
  refine ⟨_, [], MT, .cons .here .nil, fun _ _ _ => trivial, _, _, rfl, ?_, rfl, Nat.le_refl _⟩
  have e : List.take (Nat.min xs.length xs.length * 1) (Bs xs) ++ List.drop (Nat.min xs.length xs.length * 1) (zerosL xs.length [.int .u8 0]) = Bs xs := by
    rw [show Nat.min xs.length xs.length = xs.length from Nat.min_self _, Nat.mul_one, List.take_of_length_le (by simp [Bs_length]), List.drop_eq_nil_of_le (by simp [zerosL_length])]
    simp
  exact congrArg (fun l => [Ob.sl _ _ _ _ l]) e

/-- ref.Same. -/
theorem same_spec (A A' : Option Addr) (c d : Nat) (xs ys : List UInt8) (G : Mp) (h1 : Ent G (RowAt A (Bs xs))) (h2 : Ent G (RowAt A' (Bs ys))) (hx : xs.length ≤ 9223372036854775807) :
    Spec Try.prog 16 #[.slice A xs.length c, .slice A' ys.length d] [] G (Ret (.bool (decide (xs = ys)))) := by
  refine Spec.intro (args := [_, _]) wide Try.func16 rfl Try.call16 (by rfl) (by rfl) (fun w0 hw0 => ?_)
  refine vcIf_ndec (fun hne => ?_) (fun heq => ?_)
  · refine ⟨[], [], MT, .nil, fun _ _ _ => trivial, ?_, rfl, rfl⟩
    have : xs ≠ ys := fun e => hne (by rw [e])
    simp [tupleOf, this]
  · have hl : xs.length = ys.length := by omega
    refine vcLoop_of (fun k : Nat => xs.length - k) (fun k => [(0, .slice A xs.length c), (1, .slice A' ys.length d), (5, .int .i64 k)]) (fun _ => []) (fun _ => MT) (fun k => k ≤ xs.length ∧ xs.take k = ys.take k)
      0 ⟨by omega, by simp⟩ ⟨rfl, rfl, rfl, trivial⟩ ⟨_, .nil⟩ Ent.refl ?_
    rintro k ⟨hk, ht⟩
    refine vcIf_dec (fun hlt => ?_) (fun hge => ?_)
    · refine vcDraw_quiet (by kernel_rfl) ?_
      refine vcIdx_row (Ent.gnG h1) ⟨by omega, hlt⟩ (by simp [Bs_length]) (fun a ha => ?_)
      subst ha
      refine vcLoad1_row (Ent.gnG h1) (Bs_get (by omega)) ?_
      refine vcIdx_row (Ent.gnG h2) ⟨by omega, by omega⟩ (by simp [Bs_length]) (fun a ha => ?_)
      subst ha
      refine vcLoad1_row (Ent.gnG h2) (Bs_get (by omega)) ?_
      simp only [Int.toNat_natCast]
      have hlt' : k < xs.length := by omega
      refine vcIf_ndec (fun hne => ?_) (fun heq => ?_)
      · refine ⟨[], [], MT, .nil, fun _ _ _ => trivial, ?_, rfl, rfl⟩
        have : xs ≠ ys := take_snoc_ne hlt' (by omega) (fun e => hne (by rw [e]))
        simp [tupleOf, this]
      · refine vcFit_i64 (by omega) ?_
        refine ⟨k + 1, ⟨by omega, take_snoc_eq ht hlt' (by omega) (UInt8.toNat_inj.1 (by omega))⟩, by omega, ⟨rfl, rfl, rfl, trivial⟩, ⟨_, .nil⟩, Ent.refl⟩
    · refine ⟨[], [], MT, .nil, fun _ _ _ => trivial, ?_, rfl, rfl⟩
      have hk' : k = xs.length := by omega
      subst hk'
      have : xs = ys := by rw [List.take_length, hl, List.take_length] at ht; exact ht
      simp [tupleOf, this]

theorem set_rep (k : Nat) (T : List UInt8) (y : UInt8) : (Bs (List.replicate (k + 1) 0 ++ T)).set k (B y) = Bs (List.replicate k 0 ++ y :: T) := by
  simp only [Bs, List.map_append, List.map_replicate, List.map_cons]
  rw [List.set_append_left _ _ (by simp), List.replicate_succ', List.set_append_right _ _ (by simp)]
  simp
theorem Bs_zeros (n : Nat) : zerosL n [.int .u8 0] = Bs (List.replicate n 0) := by
  rw [zerosL_one, Bs, List.map_replicate]; rfl

/-- A call that makes a slice of bytes. -/
def OwnB (bs : List UInt8) : Value → List Ob → Mp → Prop := Own1 bs.length 5 1 (Bs bs)
end Go.Proofs.Yticllmnblcjjcaa
