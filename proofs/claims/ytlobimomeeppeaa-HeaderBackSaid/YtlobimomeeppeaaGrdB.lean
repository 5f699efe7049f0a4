/- header.Expand and the reference's. -/
import Derived.Test.YtlobimomeeppeaaGrdA
namespace Go.Proofs.Ytlobimomeeppeaa
open Go.Proofs
set_option maxRecDepth 10000

theorem pow256 (w : Nat) (h1 : 1 ≤ w) (h4 : w ≤ 4) : 256 ≤ 256 ^ w ∧ 256 ^ w ≤ 4294967296 := by
  match w, h1, h4 with
  | 1, _, _ | 2, _, _ | 3, _, _ | 4, _, _ => decide
theorem pow256_2 (w : Nat) : (2 : Nat) ^ (8 * w) = 256 ^ w := by rw [Nat.pow_mul]
/-- The number, in the terms of the program. -/
theorem expandI_ok {h p w : Nat} {high : Int} (hh : high + 1 = h) (h1 : 1 ≤ w) (h4 : w ≤ 4) (hm : h ≤ 4611686018427387904) (hp : p < 256 ^ w) :
    expandI high p w = (if (h / 256 ^ w * 256 ^ w + p : Nat) + (256 ^ w : Nat) ≤ (4611686018427387903 : Int) ∧ ((256 ^ w : Nat) : Int) / 2 ≤ h - (h / 256 ^ w * 256 ^ w + p : Nat) then ((h / 256 ^ w * 256 ^ w + p : Nat) : Int) + (256 ^ w : Nat)
      else if ((256 ^ w : Nat) : Int) ≤ (h / 256 ^ w * 256 ^ w + p : Nat) ∧ (((256 ^ w : Nat) : Int) / 2 < (h / 256 ^ w * 256 ^ w + p : Nat) - h ∨ (4611686018427387903 : Int) < (h / 256 ^ w * 256 ^ w + p : Nat)) then ((h / 256 ^ w * 256 ^ w + p : Nat) : Int) - (256 ^ w : Nat) else (h / 256 ^ w * 256 ^ w + p : Nat)) := by
  have e : (256 : Int) ^ (w : Int).toNat = ((256 ^ w : Nat) : Int) := by simp
  have e2 : (h : Int) / ((256 ^ w : Nat) : Int) * ((256 ^ w : Nat) : Int) + (p : Int) = ((h / 256 ^ w * 256 ^ w + p : Nat) : Int) := by rw [Int.natCast_add, Int.natCast_mul, Int.natCast_ediv]
  unfold expandI
  rw [e, if_neg (by omega), hh]
  simp only [e2]

theorem hexpand_spec (high part width : Int) (hb1 : high ≤ 9223372036854775807) (hb2 : part ≤ 9223372036854775807) (G : Mp) : Spec Try.prog 19 #[.int .i64 high, .int .i64 part, .int .i64 width] [] G (Ret (.int .i64 (expandI high part width))) := by
  refine Spec.intro (args := [_, _, _]) wide Try.func19 rfl Try.call19 (by rfl) (by rfl) (fun w0 hw0 => ?_)
  refine vcIf_dec (fun h1 => ?_) (fun h1 => ?_)
  · rw [expandI_no (.inl h1)]; exact ⟨[], _, MT, .nil, fun _ _ _ => trivial, rfl, rfl, rfl⟩
  refine vcIf_dec (fun h2 => ?_) (fun h2 => ?_)
  · rw [expandI_no (.inr (.inl h2))]; exact ⟨[], _, MT, .nil, fun _ _ _ => trivial, rfl, rfl, rfl⟩
  refine vcIf_dec (fun h3 => ?_) (fun h3 => ?_)
  · rw [expandI_no (.inr (.inr (.inl h3)))]; exact ⟨[], _, MT, .nil, fun _ _ _ => trivial, rfl, rfl, rfl⟩
  refine vcIf_dec (fun h4 => ?_) (fun h4 => ?_)
  · rw [expandI_no (.inr (.inr (.inr (.inl h4))))]; exact ⟨[], _, MT, .nil, fun _ _ _ => trivial, rfl, rfl, rfl⟩
  refine vcIf_dec (fun h5 => ?_) (fun h5 => ?_)
  · rw [expandI_no (.inr (.inr (.inr (.inr (.inl h5)))))]; exact ⟨[], _, MT, .nil, fun _ _ _ => trivial, rfl, rfl, rfl⟩
  obtain ⟨w, rfl⟩ := Int.eq_ofNat_of_zero_le (show 0 ≤ width by omega)
  obtain ⟨p, rfl⟩ := Int.eq_ofNat_of_zero_le (show 0 ≤ part by omega)
  obtain ⟨h, hh⟩ := Int.eq_ofNat_of_zero_le (show 0 ≤ high + 1 by omega)
  have hsz := pow256 w (by omega) (by omega)
  have hpw := pow256_2 w
  have e1 : (1 : Int) * 2 ^ (8 * w) = ((256 ^ w : Nat) : Int) := by rw [← hpw]; simp
  have e2 : (8 : Int) * w = ((8 * w : Nat) : Int) := by omega
  refine vcFit_i64 (by omega) ?_
  refine vcShl_lit (8 * w) e2 (show 8 * w ≤ 64 by omega) ?_
  rw [e1]
  refine vcFit_i64 (by omega) ?_
  refine vcIf_dec (fun h6 => ?_) (fun h6 => ?_)
  · rw [expandI_no (.inr (.inr (.inr (.inr (.inr (by simpa using h6))))))]; exact ⟨[], _, MT, .nil, fun _ _ _ => trivial, rfl, rfl, rfl⟩
  rw [expandI_ok hh (by omega) (by omega) (by omega) (by omega)]
  refine vcFit_i64 (by omega) ?_
  refine vcShl_lit (8 * w) e2 (show 8 * w ≤ 64 by omega) ?_
  rw [e1]
  refine vcFit_i64 (by omega) ?_
  refine vcFit_i64 (by omega) ?_
  rw [hh]
  have hle : h / 256 ^ w * 256 ^ w ≤ h := Nat.div_mul_le_self _ _
  have hgt : h < h / 256 ^ w * 256 ^ w + 256 ^ w := by
    have := Nat.lt_div_mul_add (a := h) (b := 256 ^ w) (by omega)
    exact this
  refine vcFit_i64 (by omega) ?_
  have ean : bitI .andNot .i64 (h : Int) (((256 ^ w : Nat) : Int) - 1) = ((h / 256 ^ w * 256 ^ w : Nat) : Int) := by
    rw [← hpw, show ((2 ^ (8 * w) : Nat) : Int) - 1 = ((2 ^ (8 * w) - 1 : Nat) : Int) from by rw [hpw]; omega]
    exact bitI_andNot h (8 * w) (by omega) (by omega)
  refine vcBit_as _ ean ?_
  have eor : bitI .or .i64 ((h / 256 ^ w * 256 ^ w : Nat) : Int) (p : Int) = ((h / 256 ^ w * 256 ^ w + p : Nat) : Int) := by
    rw [bitI_or (by rw [max_i64]; omega) (by rw [max_i64]; omega)]
    rw [← hpw, or_low _ _ _ (by rw [hpw]; omega)]
  refine vcBit_as _ eor ?_
  generalize 256 ^ w = sz at *
  generalize h / sz * sz = q at *
  generalize hn : ((q + p : Nat) : Int) = n at *
  generalize hs : ((sz : Nat) : Int) = s at *
  generalize hw' : ((h : Nat) : Int) = wt at *
  have hn0 : 0 ≤ n ∧ n ≤ wt + s := by omega
  clear ean eor e1 e2 hpw hn
  refine vcFit_i64 (by omega) ?_
  refine vcIf_dec (fun g1 => ?_) (fun g1 => ?_)
  · refine vcFit_i64 (by omega) ?_
    refine vcQuo_i64 (by omega) ?_
    refine vcIf_dec (fun g2 => ?_) (fun g2 => ?_)
    · refine vcFit_i64 (by omega) ?_
      rw [if_pos ⟨g1, g2⟩]
      exact ⟨[], _, MT, .nil, fun _ _ _ => trivial, rfl, rfl, rfl⟩
    · rw [if_neg (fun c => g2 c.2)]
      refine vcIf_dec (fun g3 => ?_) (fun g3 => ?_)
      · refine vcFit_i64 (by omega) ?_
        refine vcQuo_i64 (by omega) ?_
        refine vcIf_dec (fun g4 => ?_) (fun g4 => ?_)
        · refine vcFit_i64 (by omega) ?_
          rw [if_pos ⟨g3, .inl g4⟩]
          exact ⟨[], _, MT, .nil, fun _ _ _ => trivial, rfl, rfl, rfl⟩
        · refine vcIf_no (by omega) ?_
          rw [if_neg (fun c => by omega)]
          exact ⟨[], _, MT, .nil, fun _ _ _ => trivial, rfl, rfl, rfl⟩
      · rw [if_neg (fun c => g3 c.1)]
        exact ⟨[], _, MT, .nil, fun _ _ _ => trivial, rfl, rfl, rfl⟩
  · rw [if_neg (fun c => g1 c.1)]
    refine vcIf_dec (fun g3 => ?_) (fun g3 => ?_)
    · refine vcFit_i64 (by omega) ?_
      refine vcQuo_i64 (by omega) ?_
      refine vcIf_dec (fun g4 => ?_) (fun g4 => ?_)
      · refine vcFit_i64 (by omega) ?_
        rw [if_pos ⟨g3, .inl g4⟩]
        exact ⟨[], _, MT, .nil, fun _ _ _ => trivial, rfl, rfl, rfl⟩
      · refine vcIf_dec (fun g5 => ?_) (fun g5 => ?_)
        · refine vcFit_i64 (by omega) ?_
          rw [if_pos ⟨g3, .inr g5⟩]
          exact ⟨[], _, MT, .nil, fun _ _ _ => trivial, rfl, rfl, rfl⟩
        · rw [if_neg (fun c => by omega)]
          exact ⟨[], _, MT, .nil, fun _ _ _ => trivial, rfl, rfl, rfl⟩
    · rw [if_neg (fun c => g3 c.1)]
      exact ⟨[], _, MT, .nil, fun _ _ _ => trivial, rfl, rfl, rfl⟩
end Go.Proofs.Ytlobimomeeppeaa
