/- Headers: Width. -/
import Derived.Test.YtlobimomeeppeaaGrdD
namespace Go.Proofs.Ytlobimomeeppeaa
open Go.Proofs
set_option maxRecDepth 10000

def widthI (n told : Int) : Int := if n < 0 ∨ 4611686018427387903 < n ∨ told < -1 ∨ n ≤ told then 0 else if n - told < 128 then 1 else if n - told < 32768 then 2 else if n - told < 8388608 then 3 else if n - told < 2147483648 then 4 else 0
theorem widthI_no {n told : Int} (h : n < 0 ∨ 4611686018427387903 < n ∨ told < -1 ∨ n ≤ told) : widthI n told = 0 := if_pos h
def halfN : Nat → Nat
  | 1 => 128
  | 2 => 32768
  | 3 => 8388608
  | 4 => 2147483648
  | _ => 0
theorem halfN_eq (w : Nat) (h1 : 1 ≤ w) (h4 : w ≤ 4) : halfN w = 2 ^ (8 * w - 1) ∧ halfN w ≤ 2147483648 := by
  match w, h1, h4 with
  | 1, _, _ | 2, _, _ | 3, _, _ | 4, _, _ => decide
theorem halfN_next (w : Nat) (h1 : 1 ≤ w) (h4 : w < 4) : halfN w * 256 = halfN (w + 1) := by
  match w, h1, h4 with
  | 1, _, _ | 2, _, _ | 3, _, _ => rfl
/-- No width below is enough. -/
def Low (n told : Int) (w : Nat) : Prop := ∀ v, 1 ≤ v → v < w → (halfN v : Int) ≤ n - told
theorem Low.next {n told : Int} {w : Nat} (h : Low n told w) (hw : ¬ n - told < (halfN w : Int)) : Low n told (w + 1) := fun v h1 hv => by
  rcases Nat.lt_or_ge v w with hlt | hge
  · exact h v h1 hlt
  · have : v = w := by omega
    subst this; omega
theorem widthI_at {n told : Int} {w : Nat} (h : ¬ (n < 0 ∨ 4611686018427387903 < n ∨ told < -1 ∨ n ≤ told)) (hl : Low n told w) (h1 : 1 ≤ w) (h4 : w ≤ 4) (hw : n - told < (halfN w : Int)) : widthI n told = w := by
  unfold widthI
  rw [if_neg h]
  have l1 := hl 1 (by omega)
  have l2 := hl 2 (by omega)
  have l3 := hl 3 (by omega)
  simp only [halfN] at l1 l2 l3
  match w, h1, h4 with
  | 1, _, _ => simp only [halfN] at hw; rw [if_pos (by omega)]; rfl
  | 2, _, _ => simp only [halfN] at hw; rw [if_neg (by omega), if_pos (by omega)]; rfl
  | 3, _, _ => simp only [halfN] at hw; rw [if_neg (by omega), if_neg (by omega), if_pos (by omega)]; rfl
  | 4, _, _ => simp only [halfN] at hw; rw [if_neg (by omega), if_neg (by omega), if_neg (by omega), if_pos (by omega)]; rfl
theorem widthI_big {n told : Int} {w : Nat} (hl : Low n told w) (h5 : 4 < w) : widthI n told = 0 := by
  have l1 := hl 1 (by omega) (by omega)
  have l2 := hl 2 (by omega) (by omega)
  have l3 := hl 3 (by omega) (by omega)
  have l4 := hl 4 (by omega) (by omega)
  simp only [halfN] at l1 l2 l3 l4
  unfold widthI
  split
  · rfl
  · rw [if_neg (by omega), if_neg (by omega), if_neg (by omega), if_neg (by omega)]

theorem width_spec (n told : Int) (hb1 : n ≤ 9223372036854775807) (hb2 : told ≤ 9223372036854775807) (G : Mp) : Spec Try.prog 17 #[.int .i64 n, .int .i64 told] [] G (Ret (.int .i64 (widthI n told))) := by
  refine Spec.intro (args := [_, _]) wide Try.func17 rfl Try.call17 (by rfl) (by rfl) (fun w0 hw0 => ?_)
  refine vcIf_dec (fun h1 => ?_) (fun h1 => ?_)
  · rw [widthI_no (.inl h1)]; exact ⟨[], _, MT, .nil, fun _ _ _ => trivial, rfl, rfl, rfl⟩
  refine vcIf_dec (fun h2 => ?_) (fun h2 => ?_)
  · rw [widthI_no (.inr (.inl h2))]; exact ⟨[], _, MT, .nil, fun _ _ _ => trivial, rfl, rfl, rfl⟩
  refine vcIf_dec (fun h3 => ?_) (fun h3 => ?_)
  · rw [widthI_no (.inr (.inr (.inl h3)))]; exact ⟨[], _, MT, .nil, fun _ _ _ => trivial, rfl, rfl, rfl⟩
  refine vcIf_dec (fun h4 => ?_) (fun h4 => ?_)
  · rw [widthI_no (.inr (.inr (.inr h4)))]; exact ⟨[], _, MT, .nil, fun _ _ _ => trivial, rfl, rfl, rfl⟩
  have hn : ¬ (n < 0 ∨ 4611686018427387903 < n ∨ told < -1 ∨ n ≤ told) := by omega
  refine vcLoop_of (fun w : Nat => 5 - w) (fun w => [(0, .int .i64 n), (1, .int .i64 told), (5, .int .i64 w)]) (fun _ => []) (fun _ => MT) (fun w => 1 ≤ w ∧ w ≤ 5 ∧ Low n told w) 1 ⟨Nat.le_refl _, by omega, fun v h1 h2 => by omega⟩
    ⟨rfl, rfl, rfl, trivial⟩ ⟨_, .nil⟩ (fun _ _ => trivial) ?_
  rintro w ⟨hw1, hw5, hl⟩
  refine vcIf_dec (fun h5 => ?_) (fun h5 => ?_)
  · obtain ⟨e, hle⟩ := halfN_eq w hw1 (by omega)
    have e1 : (1 : Int) * 2 ^ (8 * w - 1) = ((halfN w : Nat) : Int) := by rw [e]; simp
    refine vcFit_i64 (by omega) ?_
    refine vcFit_i64 (by omega) ?_
    refine vcFit_i64 (by omega) ?_
    refine vcShl_lit (8 * w - 1) (by omega) (show 8 * w - 1 ≤ 64 by omega) ?_
    rw [e1]
    refine vcFit_i64 (by omega) ?_
    refine vcIf_dec (fun h6 => ?_) (fun h6 => ?_)
    · rw [widthI_at hn hl hw1 (by omega) h6]; exact ⟨[], _, MT, .nil, fun _ _ _ => trivial, rfl, rfl, rfl⟩
    · refine vcFit_i64 (by omega) ?_
      exact ⟨w + 1, ⟨by omega, by omega, hl.next h6⟩, by omega, ⟨rfl, rfl, rfl, trivial⟩, ⟨_, .nil⟩, fun _ _ => trivial⟩
  · rw [widthI_big hl (by omega)]; exact ⟨[], _, MT, .nil, fun _ _ _ => trivial, rfl, rfl, rfl⟩

theorem rwidth_spec (n told : Int) (hb1 : n ≤ 9223372036854775807) (hb2 : told ≤ 9223372036854775807) (G : Mp) : Spec Try.prog 18 #[.int .i64 n, .int .i64 told] [] G (Ret (.int .i64 (widthI n told))) := by
  refine Spec.intro (args := [_, _]) wide Try.func18 rfl Try.call18 (by rfl) (by rfl) (fun w0 hw0 => ?_)
  refine vcIf_dec (fun h1 => ?_) (fun h1 => ?_)
  · rw [widthI_no (.inl h1)]; exact ⟨[], _, MT, .nil, fun _ _ _ => trivial, rfl, rfl, rfl⟩
  refine vcIf_dec (fun h2 => ?_) (fun h2 => ?_)
  · rw [widthI_no (.inr (.inl h2))]; exact ⟨[], _, MT, .nil, fun _ _ _ => trivial, rfl, rfl, rfl⟩
  refine vcIf_dec (fun h3 => ?_) (fun h3 => ?_)
  · rw [widthI_no (.inr (.inr (.inl h3)))]; exact ⟨[], _, MT, .nil, fun _ _ _ => trivial, rfl, rfl, rfl⟩
  refine vcIf_dec (fun h4 => ?_) (fun h4 => ?_)
  · rw [widthI_no (.inr (.inr (.inr h4)))]; exact ⟨[], _, MT, .nil, fun _ _ _ => trivial, rfl, rfl, rfl⟩
  have hn : ¬ (n < 0 ∨ 4611686018427387903 < n ∨ told < -1 ∨ n ≤ told) := by omega
  refine vcLoop_of (fun w : Nat => 5 - w) (fun w => [(0, .int .i64 n), (1, .int .i64 told), (5, .int .i64 (128 * 256 ^ (w - 1) : Nat)), (6, .int .i64 w)]) (fun _ => []) (fun _ => MT) (fun w => 1 ≤ w ∧ w ≤ 5 ∧ Low n told w) 1 ⟨Nat.le_refl _, by omega, fun v h1 h2 => by omega⟩
    ⟨rfl, rfl, rfl, rfl, trivial⟩ ⟨_, .nil⟩ (fun _ _ => trivial) ?_
  rintro w ⟨hw1, hw5, hl⟩
  refine vcIf_dec (fun h5 => ?_) (fun h5 => ?_)
  · obtain ⟨_, hle⟩ := halfN_eq w hw1 (by omega)
    have e : 128 * 256 ^ (w - 1) = halfN w := by
      match w, hw1, (show w ≤ 4 by omega) with
      | 1, _, _ | 2, _, _ | 3, _, _ | 4, _, _ => decide
    have e' : 128 * 256 ^ (w + 1 - 1) = halfN w * 256 := by rw [← e, show w + 1 - 1 = w - 1 + 1 from by omega, Nat.pow_succ, Nat.mul_assoc]
    simp only [e]
    refine vcFit_i64 (by omega) ?_
    refine vcIf_dec (fun h6 => ?_) (fun h6 => ?_)
    · rw [widthI_at hn hl hw1 (by omega) h6]; exact ⟨[], _, MT, .nil, fun _ _ _ => trivial, rfl, rfl, rfl⟩
    · refine vcFit_i64 (by omega) ?_
      refine vcFit_i64 (by omega) ?_
      exact ⟨w + 1, ⟨by omega, by omega, hl.next h6⟩, by omega, ⟨rfl, rfl, by rw [e']; rfl, rfl, trivial⟩, ⟨_, .nil⟩, fun _ _ => trivial⟩
  · rw [widthI_big hl (by omega)]; exact ⟨[], _, MT, .nil, fun _ _ _ => trivial, rfl, rfl, rfl⟩
end Go.Proofs.Ytlobimomeeppeaa
