/- The reference's Expand. -/
import Derived.Test.YtlobimomeeppeaaGrdC
namespace Go.Proofs.Ytlobimomeeppeaa
open Go.Proofs
set_option maxRecDepth 10000

theorem pow256_even (w : Nat) (h1 : 1 ≤ w) : ((256 ^ w : Nat) : Int) % 2 = 0 := by
  obtain ⟨k, rfl⟩ : ∃ k, w = k + 1 := ⟨w - 1, by omega⟩
  rw [Nat.pow_succ]; omega

theorem refx_spec (high part width : Int) (hb1 : high ≤ 9223372036854775807) (hb2 : part ≤ 9223372036854775807) (G : Mp) : Spec Try.prog 20 #[.int .i64 high, .int .i64 part, .int .i64 width] [] G (Ret (.int .i64 (expandI high part width))) := by
  refine Spec.intro (args := [_, _, _]) wide Try.func20 rfl Try.call20 (by rfl) (by rfl) (fun w0 hw0 => ?_)
  refine vcIf_dec (fun h1 => ?_) (fun h1 => ?_)
  · rw [expandI_no (.inl h1)]; exact ⟨[], _, MT, .nil, fun _ _ _ => trivial, rfl, rfl, rfl⟩
  refine vcIf_dec (fun h2 => ?_) (fun h2 => ?_)
  · rw [expandI_no (.inr (.inl h2))]; exact ⟨[], _, MT, .nil, fun _ _ _ => trivial, rfl, rfl, rfl⟩
  refine vcIf_dec (fun h3 => ?_) (fun h3 => ?_)
  · rw [expandI_no (.inr (.inr (.inl h3)))]; exact ⟨[], _, MT, .nil, fun _ _ _ => trivial, rfl, rfl, rfl⟩
  refine vcIf_dec (fun h4 => ?_) (fun h4 => ?_)
  · rw [expandI_no (.inr (.inr (.inr (.inl h4))))]; exact ⟨[], _, MT, .nil, fun _ _ _ => trivial, rfl, rfl, rfl⟩
  refine vcIf_dec (fun h5 => ?_) (fun h5 => ?_)
  · rw [expandI_no (.inr (.inr (.inr (.inr (.inl h5)))))]; exact ⟨[], _, MT, .nil, fun _ _ _ => trivial, rfl, rfl, rfl⟩
  obtain ⟨w, rfl⟩ := Int.eq_ofNat_of_zero_le (show 0 ≤ width by omega)
  obtain ⟨p, rfl⟩ := Int.eq_ofNat_of_zero_le (show 0 ≤ part by omega)
  obtain ⟨h, hh⟩ := Int.eq_ofNat_of_zero_le (show 0 ≤ high + 1 by omega)
  have hsz := pow256 w (by omega) (by omega)
  refine vcLoop_of (fun k : Nat => w - k) (fun k => [(0, .int .i64 high), (1, .int .i64 p), (2, .int .i64 w), (7, .int .i64 ((256 ^ k : Nat) : Int)), (8, .int .i64 k)])
    (fun _ => []) (fun _ => MT) (fun k => k ≤ w) 0 (Nat.zero_le _) ⟨rfl, rfl, rfl, rfl, rfl, trivial⟩ ⟨[], .nil⟩ (fun _ _ => trivial) ?_
  intro k hk
  refine vcIf_dec (fun hlt => ?_) (fun hge => ?_)
  · have hk' : k < w := by omega
    have hpk : 256 ^ k ≤ 4294967296 := by
      match k, hk' with
      | 0, _ => decide
      | k + 1, _ => exact (pow256 (k + 1) (by omega) (by omega)).2
    have hp0 : 0 < 256 ^ k := Nat.pow_pos (by decide)
    refine vcFit_i64 (by omega) ?_
    refine vcFit_i64 (by omega) ?_
    refine ⟨k + 1, by omega, by omega, ⟨rfl, rfl, rfl, ?_, rfl, trivial⟩, ⟨[], .nil⟩, fun _ _ => trivial⟩
    rw [show ((256 ^ (k + 1) : Nat) : Int) = ((256 ^ k : Nat) : Int) * 256 from by rw [Nat.pow_succ]; simp]; rfl
  · have hk' : k = w := by omega
    subst hk'
    refine vcIf_dec (fun h6 => ?_) (fun h6 => ?_)
    · rw [expandI_no (.inr (.inr (.inr (.inr (.inr (by simpa using h6))))))]; exact ⟨[], _, MT, .nil, fun _ _ _ => trivial, rfl, rfl, rfl⟩
    rw [expandI_ok hh (by omega) (by omega) (by omega) (by omega)]
    refine vcFit_i64 (by omega) ?_
    refine vcQuo_i64 (by omega) ?_
    rw [hh]
    have hev := pow256_even k (by omega)
    have hle : h / 256 ^ k * 256 ^ k ≤ h := Nat.div_mul_le_self _ _
    have hgt : h < h / 256 ^ k * 256 ^ k + 256 ^ k := Nat.lt_div_mul_add (a := h) (b := 256 ^ k) (by omega)
    have hb : (h / 256 ^ k = 0 ∧ h / 256 ^ k * 256 ^ k = 0) ∨ (1 ≤ h / 256 ^ k ∧ 256 ^ k ≤ h / 256 ^ k * 256 ^ k) := by
      by_cases c : h / 256 ^ k = 0
      · rw [c]; simp
      · right
        have := Nat.mul_le_mul_right (256 ^ k) (Nat.pos_of_ne_zero c)
        rw [Nat.one_mul] at this
        exact ⟨Nat.pos_of_ne_zero c, this⟩
    have hdle : h / 256 ^ k ≤ h := Nat.div_le_self _ _
    rw [← Int.natCast_ediv]
    generalize hsE : 256 ^ k = sz at *
    generalize hbE : h / sz = b at *
    generalize hqE : b * sz = q at *
    refine vcFit_i64 (by omega) ?_
    have hne := nearK_expand (q := q) (s := sz) (p := p) (b := b) (wt := h) (by omega) (by omega) hev (by omega) (by omega) (by omega)
    refine vcLoop_of (fun i : Nat => 3 - i) (fun i => [(1, .int .i64 p), (7, .int .i64 sz), (9, .int .i64 h), (10, .int .i64 b), (11, .int .i64 (nearK q sz p b h i).1), (12, .bool (nearK q sz p b h i).2), (13, .int .i64 ((b : Int) - 1 + i))])
      (fun _ => []) (fun _ => MT) (fun i => i ≤ 3) 0 (Nat.zero_le _) ⟨rfl, rfl, rfl, rfl, rfl, rfl, ?_, trivial⟩ ⟨[], .nil⟩ (fun _ _ => trivial) ?_
    · rw [show (b : Int) - 1 + ((0 : Nat) : Int) = (b : Int) - 1 from by omega]; rfl
    intro i hi
    have hr := nearK_range q sz p b h (by omega) (by omega) (by omega) (by omega) i
    refine vcFit_i64 (by omega) ?_
    refine vcIf_dec (fun hlt => ?_) (fun hge => ?_)
    · have em : ((b : Int) - 1 + i) * sz = q + ((i : Int) - 1) * sz := by
        rw [Int.add_mul, Int.sub_mul, Int.sub_mul, ← hqE]; simp; omega
      have eb : -(sz : Int) ≤ ((i : Int) - 1) * sz ∧ ((i : Int) - 1) * sz ≤ sz := by
        match i, hi, hlt with
        | 0, _, _ | 1, _, _ | 2, _, _ => constructor <;> omega
        | 3, _, _ => omega
      refine vcFit_i64 (by rw [em]; omega) ?_
      rw [em]
      generalize hnE : (q : Int) + ((i : Int) - 1) * sz = n0 at *
      generalize hrE : nearK q sz p b h i = r at *
      have hnk : nearK q sz p b h (i + 1) = (if (b : Int) - 1 + i < 0 ∨ 4611686018427387903 < n0 + p then r else if r.2 = false ∨ farI (n0 + p) h ≤ farI r.1 h then (n0 + p, true) else r) := by rw [← hnE, ← hrE]; rfl
      refine vcFit_i64 (by omega) ?_
      obtain ⟨near, found⟩ := r
      have hend : ∀ nx fd, nearK q sz p b h (i + 1) = (nx, fd) → nearK q sz p b h (i + 1) = (nx, fd) := fun _ _ h => h
      have ei : (b : Int) - 1 + i + 1 = (b : Int) - 1 + ((i + 1 : Nat) : Int) := by omega
      refine vcIf_dec (fun g1 => ?_) (fun g1 => ?_)
      · rw [if_pos (.inl g1)] at hnk
        refine vcFit_i64 (by omega) ?_
        rw [ei]
        refine ⟨i + 1, by omega, by omega, ⟨rfl, rfl, rfl, rfl, by rw [hnk]; rfl, by rw [hnk]; rfl, rfl, trivial⟩, ⟨[], .nil⟩, fun _ _ => trivial⟩
      refine vcIf_dec (fun g2 => ?_) (fun g2 => ?_)
      · rw [if_pos (.inr g2)] at hnk
        refine vcFit_i64 (by omega) ?_
        rw [ei]
        refine ⟨i + 1, by omega, by omega, ⟨rfl, rfl, rfl, rfl, by rw [hnk]; rfl, by rw [hnk]; rfl, rfl, trivial⟩, ⟨[], .nil⟩, fun _ _ => trivial⟩
      rw [if_neg (by omega)] at hnk
      cases found with
      | false =>
        rw [if_pos (.inl rfl)] at hnk
        repeat (refine vcIf_yes (by rfl) ?_)
        refine vcFit_i64 (by omega) ?_
        rw [ei]
        refine ⟨i + 1, by omega, by omega, ⟨rfl, rfl, rfl, rfl, by rw [hnk]; rfl, by rw [hnk]; rfl, rfl, trivial⟩, ⟨[], .nil⟩, fun _ _ => trivial⟩
      | true =>
        have hn0 : 0 ≤ n0 := by rw [← em]; exact Int.mul_nonneg (by omega) (by omega)
        have hr' : 0 ≤ near ∧ near ≤ 4611686018427387903 := hr
        repeat (refine vcIf_no (by rfl) ?_)
        refine vcCall_of .nil (far_spec (n0 + p) h (by omega) (by omega) _) (fun v own' N' hv => ?_); obtain ⟨rfl, rfl, rfl⟩ := hv
        repeat (refine vcIf_no (by rfl) ?_)
        refine vcCall_of .nil (far_spec near h (by omega) (by omega) _) (fun v own' N' hv => ?_); obtain ⟨rfl, rfl, rfl⟩ := hv
        repeat (refine vcIf_no (by rfl) ?_)
        refine vcIf_dec (fun g3 => ?_) (fun g3 => ?_)
        · rw [if_pos (.inr g3)] at hnk
          refine vcFit_i64 (by omega) ?_
          rw [ei]
          refine ⟨i + 1, by omega, by omega, ⟨rfl, rfl, rfl, rfl, by rw [hnk]; rfl, by rw [hnk]; rfl, rfl, trivial⟩, ⟨[], .nil⟩, fun _ _ => trivial⟩
        · rw [if_neg (fun c => by rcases c with c | c; exact Bool.noConfusion c; exact g3 c)] at hnk
          refine vcFit_i64 (by omega) ?_
          rw [ei]
          refine ⟨i + 1, by omega, by omega, ⟨rfl, rfl, rfl, rfl, by rw [hnk]; rfl, by rw [hnk]; rfl, rfl, trivial⟩, ⟨[], .nil⟩, fun _ _ => trivial⟩
    · have : i = 3 := by omega
      subst this
      rw [hne]
      exact ⟨[], _, MT, .nil, fun _ _ _ => trivial, rfl, rfl, rfl⟩
end Go.Proofs.Ytlobimomeeppeaa
