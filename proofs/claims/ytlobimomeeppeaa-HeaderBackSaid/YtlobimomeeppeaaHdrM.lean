/- Headers: HeaderTold. -/
import Derived.Test.YtlobimomeeppeaaHdrL
namespace Go.Proofs.Ytlobimomeeppeaa
open Go.Proofs
set_option maxRecDepth 10000

theorem and_low (n w : Nat) (hn : n ≤ 4611686018427387903) (h4 : w ≤ 4) : bitI .and .i64 (n : Int) (((256 ^ w : Nat) : Int) - 1) = ((n % 256 ^ w : Nat) : Int) := by
  have hp : (256 : Nat) ^ w ≤ 256 ^ 4 := Nat.pow_le_pow_right (by omega) h4
  have hp2 : (256 : Nat) ^ 4 = 4294967296 := by decide
  have h0 : 0 < 256 ^ w := Nat.pow_pos (by omega)
  rw [show ((256 ^ w : Nat) : Int) - 1 = ((256 ^ w - 1 : Nat) : Int) from by omega, bitI_and (by rw [max_i64]; omega) (by rw [max_i64]; omega), ← pow256_2, Nat.and_two_pow_sub_one_eq_mod]
theorem halfN_256 (w : Nat) (h1 : 1 ≤ w) (h4 : w ≤ 4) : 256 ^ w = 2 * halfN w ∧ 128 ≤ halfN w := by
  match w, h1, h4 with
  | 1, _, _ | 2, _, _ | 3, _, _ | 4, _, _ => decide
/-- A number told in enough bytes is understood. -/
theorem expandI_told {n w : Nat} {high told : Int} (h1 : 1 ≤ w) (h4 : w ≤ 4) (hn : n ≤ 4611686018427387903) (ht : -1 ≤ told) (hw : n - told < (halfN w : Int)) (hl : told ≤ high) (hh : high < n) :
    expandI high ((n % 256 ^ w : Nat) : Int) w = n := by
  obtain ⟨h, hhe⟩ := Int.eq_ofNat_of_zero_le (show 0 ≤ high + 1 by omega)
  have hs := pow256 w h1 h4
  obtain ⟨h2, h128⟩ := halfN_256 w h1 h4
  rw [expandI_ok (h := h) hhe h1 h4 (by omega) (Nat.mod_lt _ (by omega))]
  have e : n / 256 ^ w * 256 ^ w + n % 256 ^ w = n := Nat.div_add_mod' n (256 ^ w)
  have e2 : h / 256 ^ w * 256 ^ w + h % 256 ^ w = h := Nat.div_add_mod' h (256 ^ w)
  have hr : n % 256 ^ w < 256 ^ w := Nat.mod_lt _ (by omega)
  have hr2 : h % 256 ^ w < 256 ^ w := Nat.mod_lt _ (by omega)
  have hle : h / 256 ^ w ≤ n / 256 ^ w := Nat.div_le_div_right (by omega)
  have hge : n / 256 ^ w ≤ h / 256 ^ w + 1 := by
    rw [← Nat.add_div_right _ (by omega)]
    exact Nat.div_le_div_right (by omega)
  have hcase : n / 256 ^ w * 256 ^ w = h / 256 ^ w * 256 ^ w ∨ n / 256 ^ w * 256 ^ w = h / 256 ^ w * 256 ^ w + 256 ^ w := by
    rcases Nat.lt_or_ge (h / 256 ^ w) (n / 256 ^ w) with hlt | hge'
    · rw [show n / 256 ^ w = h / 256 ^ w + 1 from by omega, Nat.succ_mul]; exact .inr rfl
    · rw [show n / 256 ^ w = h / 256 ^ w from by omega]; exact .inl rfl
  generalize n / 256 ^ w * 256 ^ w = q at *
  generalize h / 256 ^ w * 256 ^ w = b at *
  generalize n % 256 ^ w = r at *
  generalize h % 256 ^ w = t at *
  clear hle hge
  rw [h2] at *
  generalize halfN w = f at *
  rcases hcase with hc | hc
  · rw [if_neg (by omega), if_neg (by omega)]; omega
  · rw [if_pos (by omega)]; omega

theorem widthI_ok {n told : Int} {w : Nat} (h : widthI n told = w) (h0 : w ≠ 0) : 1 ≤ w ∧ w ≤ 4 ∧ 0 ≤ n ∧ n ≤ 4611686018427387903 ∧ -1 ≤ told ∧ n - told < (halfN w : Int) ∧ told < n := by
  unfold widthI at h
  split at h
  · omega
  · split at h
    · obtain rfl : w = 1 := by omega
      simp only [halfN]; omega
    · split at h
      · obtain rfl : w = 2 := by omega
        simp only [halfN]; omega
      · split at h
        · obtain rfl : w = 3 := by omega
          simp only [halfN]; omega
        · split at h
          · obtain rfl : w = 4 := by omega
            simp only [halfN]; omega
          · omega
theorem widthI_0 {n told : Int} (h : widthI n told = 0) : n < 0 ∨ 4611686018427387903 < n ∨ told < -1 ∨ n ≤ told ∨ 2147483648 ≤ n - told := by
  unfold widthI at h
  split at h
  · omega
  · split at h
    · omega
    · split at h
      · omega
      · split at h
        · omega
        · split at h <;> omega
theorem widthI_nat (n told : Int) : ∃ w : Nat, widthI n told = w := by
  unfold widthI
  split
  · exact ⟨0, rfl⟩
  · split
    · exact ⟨1, rfl⟩
    · split
      · exact ⟨2, rfl⟩
      · split
        · exact ⟨3, rfl⟩
        · split
          · exact ⟨4, rfl⟩
          · exact ⟨0, rfl⟩

theorem told_spec (n told high : Int) (hb1 : n ≤ 9223372036854775807) (hb2 : told ≤ 9223372036854775807) (hb3 : high ≤ 9223372036854775807) (G : Mp) : Spec Try.prog 5 #[.int .i64 n, .int .i64 told, .int .i64 high] [] G (Ret (.bool true)) := by
  refine Spec.intro (args := [_, _, _]) wide Try.func5 rfl Try.call5 (by rfl) (by rfl) (fun w0 hw0 => ?_)
  refine vcCall_of .nil (width_spec n told hb1 hb2 _) (fun v own' N' hv => ?_); obtain ⟨rfl, rfl, rfl⟩ := hv
  obtain ⟨w, hw⟩ := widthI_nat n told
  rw [hw]
  refine vcIf_dec (fun h0 => ?_) (fun h0 => ?_)
  · obtain rfl : w = 0 := by omega
    have hd := widthI_0 hw
    refine vcIf_dec (fun g1 => ?_) (fun g1 => ?_)
    · repeat (refine vcIf_yes (by rfl) ?_)
      refine vcCall_of .nil (hawake_spec _) (fun v own' N' hv => ?_); obtain ⟨rfl, rfl, rfl⟩ := hv
      exact ⟨[], _, MT, .nil, fun _ _ _ => trivial, rfl, rfl, rfl⟩
    refine vcIf_dec (fun g2 => ?_) (fun g2 => ?_)
    · repeat (refine vcIf_yes (by rfl) ?_)
      refine vcCall_of .nil (hawake_spec _) (fun v own' N' hv => ?_); obtain ⟨rfl, rfl, rfl⟩ := hv
      exact ⟨[], _, MT, .nil, fun _ _ _ => trivial, rfl, rfl, rfl⟩
    refine vcIf_dec (fun g3 => ?_) (fun g3 => ?_)
    · repeat (refine vcIf_yes (by rfl) ?_)
      refine vcCall_of .nil (hawake_spec _) (fun v own' N' hv => ?_); obtain ⟨rfl, rfl, rfl⟩ := hv
      exact ⟨[], _, MT, .nil, fun _ _ _ => trivial, rfl, rfl, rfl⟩
    refine vcIf_dec (fun g4 => ?_) (fun g4 => ?_)
    · repeat (refine vcIf_yes (by rfl) ?_)
      refine vcCall_of .nil (hawake_spec _) (fun v own' N' hv => ?_); obtain ⟨rfl, rfl, rfl⟩ := hv
      exact ⟨[], _, MT, .nil, fun _ _ _ => trivial, rfl, rfl, rfl⟩
    refine vcFit_i64 (by omega) ?_
    refine vcIf_yes (by omega) ?_
    repeat (refine vcIf_yes (by rfl) ?_)
    refine vcCall_of .nil (hawake_spec _) (fun v own' N' hv => ?_); obtain ⟨rfl, rfl, rfl⟩ := hv
    exact ⟨[], _, MT, .nil, fun _ _ _ => trivial, rfl, rfl, rfl⟩
  obtain ⟨h1, h4, hn0, hnm, ht, hhalf, hlt⟩ := widthI_ok hw (by omega)
  obtain ⟨m, rfl⟩ := Int.eq_ofNat_of_zero_le hn0
  obtain ⟨e, hle⟩ := halfN_eq w h1 h4
  have hs := pow256 w h1 h4
  have hpw := pow256_2 w
  have e1 : (1 : Int) * 2 ^ (8 * w - 1) = ((halfN w : Nat) : Int) := by rw [e]; simp
  have e2 : (1 : Int) * 2 ^ (8 * w) = ((256 ^ w : Nat) : Int) := by rw [← hpw]; simp
  refine vcIf_no (by omega) ?_
  refine vcIf_no (by omega) ?_
  refine vcFit_i64 (by omega) ?_
  refine vcFit_i64 (by omega) ?_
  refine vcFit_i64 (by omega) ?_
  refine vcShl_lit (8 * w - 1) (by omega) (show 8 * w - 1 ≤ 64 by omega) ?_
  rw [e1]
  refine vcFit_i64 (by omega) ?_
  repeat (refine vcIf_no (by rfl) ?_)
  refine vcIf_no (by omega) ?_
  repeat (refine vcIf_no (by rfl) ?_)
  refine vcIf_dec (fun g1 => ?_) (fun g1 => ?_)
  · repeat (refine vcIf_yes (by rfl) ?_)
    refine vcCall_of .nil (hawake_spec _) (fun v own' N' hv => ?_); obtain ⟨rfl, rfl, rfl⟩ := hv
    exact ⟨[], _, MT, .nil, fun _ _ _ => trivial, rfl, rfl, rfl⟩
  refine vcIf_dec (fun g2 => ?_) (fun g2 => ?_)
  · repeat (refine vcIf_yes (by rfl) ?_)
    refine vcCall_of .nil (hawake_spec _) (fun v own' N' hv => ?_); obtain ⟨rfl, rfl, rfl⟩ := hv
    exact ⟨[], _, MT, .nil, fun _ _ _ => trivial, rfl, rfl, rfl⟩
  repeat (refine vcIf_no (by rfl) ?_)
  refine vcFit_i64 (by omega) ?_
  refine vcShl_lit (8 * w) (by omega) (show 8 * w ≤ 64 by omega) ?_
  rw [e2]
  refine vcFit_i64 (by omega) ?_
  refine vcFit_i64 (by omega) ?_
  refine vcBit_as _ (and_low m w (by omega) h4) ?_
  refine vcCall_of .nil (hexpand_spec high ((m % 256 ^ w : Nat) : Int) w hb3 (by omega) _) (fun v own' N' hv => ?_)
  rw [expandI_told h1 h4 (by omega) ht hhalf (by omega) (by omega)] at hv
  obtain ⟨rfl, rfl, rfl⟩ := hv
  refine vcIf_yes rfl ?_
  refine vcCall_of .nil (hawake_spec _) (fun v own' N' hv => ?_); obtain ⟨rfl, rfl, rfl⟩ := hv
  exact ⟨[], _, MT, .nil, fun _ _ _ => trivial, rfl, rfl, rfl⟩
end Go.Proofs.Ytlobimomeeppeaa
