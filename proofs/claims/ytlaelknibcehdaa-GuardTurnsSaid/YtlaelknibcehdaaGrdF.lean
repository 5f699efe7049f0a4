/- What is checked ahead of opening; unsealing. -/
import Derived.Test.YtlaelknibcehdaaGrdE
namespace Go.Proofs.Ytlaelknibcehdaa
open Go.Proofs
set_option maxRecDepth 10000

def checkI (len : Nat) (a high : Int) : Int :=
  if a < 1 ∨ (len : Int) - 20 < a then 12 else if high < -1 ∨ 4611686018427387903 < high then 10 else if 16380 < a ∨ 16400 < (len : Int) - a then 52 else 0
theorem checkI_12 {len : Nat} {a high : Int} (h : a < 1 ∨ (len : Int) - 20 < a) : checkI len a high = 12 := if_pos h
theorem checkI_10 {len : Nat} {a high : Int} (h : ¬ (a < 1 ∨ (len : Int) - 20 < a)) (h2 : high < -1 ∨ 4611686018427387903 < high) : checkI len a high = 10 := by unfold checkI; rw [if_neg h, if_pos h2]
theorem checkI_52 {len : Nat} {a high : Int} (h : ¬ (a < 1 ∨ (len : Int) - 20 < a)) (h2 : ¬ (high < -1 ∨ 4611686018427387903 < high)) (h3 : 16380 < a ∨ 16400 < (len : Int) - a) : checkI len a high = 52 := by unfold checkI; rw [if_neg h, if_neg h2, if_pos h3]
theorem checkI_0 {len : Nat} {a high : Int} (h : ¬ (a < 1 ∨ (len : Int) - 20 < a)) (h2 : ¬ (high < -1 ∨ 4611686018427387903 < high)) (h3 : ¬ (16380 < a ∨ 16400 < (len : Int) - a)) : checkI len a high = 0 := by unfold checkI; rw [if_neg h, if_neg h2, if_neg h3]
theorem checkI_zero {len : Nat} {a high : Int} (h : checkI len a high = 0) : (1 ≤ a ∧ a ≤ (len : Int) - 20) ∧ (-1 ≤ high ∧ high ≤ 4611686018427387903) ∧ a ≤ 16380 ∧ (len : Int) - a ≤ 16400 := by
  unfold checkI at h
  repeat' split at h
  all_goals omega

def checkK (k i h : Piece) (len : Nat) (a high : Int) : Int := if rightK k i h then checkI len a high else 70
theorem check_spec (k i h : Piece) (A : Option Addr) (c len : Nat) (a high : Int) (hl : len ≤ 140737488351232) (ha : -9223372036854775808 ≤ a) (ha2 : a ≤ 9223372036854775807) (G : Mp) :
    Spec Try.prog 43 #[keysV k i h, .slice A len c, .int .i64 a, .int .i64 high] [] G (Ret (.int .i64 (checkK k i h len a high))) := by
  refine Spec.intro (args := [_, _, _, _]) wide Try.func43 rfl Try.call43 (by rfl) (by rfl) (fun w0 hw0 => ?_)
  intro bx
  refine vcLoadN_0 (xs := keysL k i h) (Ent.gnO .here (fun w hw => Ob.row_at hw)) rfl ?_
  refine vcCall_of .nil (right_spec k i h _) (fun v own' N' hv => ?_); obtain ⟨rfl, rfl, rfl⟩ := hv
  cases hr : rightK k i h with
  | false =>
    rw [show checkK k i h len a high = 70 from by rw [checkK, hr]; rfl]
    exact ⟨[], _, MT, .nil, fun _ _ _ => trivial, rfl, rfl, rfl⟩
  | true =>
    rw [show checkK k i h len a high = checkI len a high from by rw [checkK, hr]; rfl]
    refine vcIf_dec (fun h1 => ?_) (fun h1 => ?_)
    · rw [checkI_12 (.inl h1)]; exact ⟨[], _, MT, .nil, fun _ _ _ => trivial, rfl, rfl, rfl⟩
    refine vcFit_i64 (by omega) ?_
    refine vcIf_dec (fun h2 => ?_) (fun h2 => ?_)
    · rw [checkI_12 (.inr h2)]; exact ⟨[], _, MT, .nil, fun _ _ _ => trivial, rfl, rfl, rfl⟩
    refine vcIf_dec (fun h3 => ?_) (fun h3 => ?_)
    · rw [checkI_10 (by omega) (.inl h3)]; exact ⟨[], _, MT, .nil, fun _ _ _ => trivial, rfl, rfl, rfl⟩
    refine vcIf_dec (fun h4 => ?_) (fun h4 => ?_)
    · rw [checkI_10 (by omega) (.inr h4)]; exact ⟨[], _, MT, .nil, fun _ _ _ => trivial, rfl, rfl, rfl⟩
    refine vcIf_dec (fun h5 => ?_) (fun h5 => ?_)
    · rw [checkI_52 (by omega) (by omega) (.inl h5)]; exact ⟨[], _, MT, .nil, fun _ _ _ => trivial, rfl, rfl, rfl⟩
    refine vcFit_i64 (by omega) ?_
    refine vcIf_dec (fun h6 => ?_) (fun h6 => ?_)
    · rw [checkI_52 (by omega) (by omega) (.inr h6)]; exact ⟨[], _, MT, .nil, fun _ _ _ => trivial, rfl, rfl, rfl⟩
    rw [checkI_0 (by omega) (by omega) (by omega)]
    exact ⟨[], _, MT, .nil, fun _ _ _ => trivial, rfl, rfl, rfl⟩
theorem rcheck_spec (A : Option Addr) (c len : Nat) (a high : Int) (hl : len ≤ 140737488351232) (G : Mp) :
    Spec Try.prog 46 #[.slice A len c, .int .i64 a, .int .i64 high] [] G (Ret (.int .i64 (checkI len a high))) := by
  refine Spec.intro (args := [_, _, _]) wide Try.func46 rfl Try.call46 (by rfl) (by rfl) (fun w0 hw0 => ?_)
  refine vcIf_dec (fun h1 => ?_) (fun h1 => ?_)
  · rw [checkI_12 (.inl h1)]
    repeat (refine vcIf_yes (by rfl) ?_)
    exact ⟨[], _, MT, .nil, fun _ _ _ => trivial, rfl, rfl, rfl⟩
  refine vcIf_dec (fun h2 => ?_) (fun h2 => ?_)
  · rw [checkI_12 (.inr (by omega))]
    repeat (refine vcIf_yes (by rfl) ?_)
    exact ⟨[], _, MT, .nil, fun _ _ _ => trivial, rfl, rfl, rfl⟩
  refine vcFit_i64 (by omega) ?_
  refine vcIf_dec (fun h7 => ?_) (fun h7 => ?_)
  · rw [checkI_12 (.inr (by omega))]; exact ⟨[], _, MT, .nil, fun _ _ _ => trivial, rfl, rfl, rfl⟩
  refine vcIf_dec (fun h3 => ?_) (fun h3 => ?_)
  · rw [checkI_10 (by omega) (.inl h3)]; exact ⟨[], _, MT, .nil, fun _ _ _ => trivial, rfl, rfl, rfl⟩
  refine vcIf_dec (fun h4 => ?_) (fun h4 => ?_)
  · rw [checkI_10 (by omega) (.inr h4)]; exact ⟨[], _, MT, .nil, fun _ _ _ => trivial, rfl, rfl, rfl⟩
  refine vcIf_dec (fun h5 => ?_) (fun h5 => ?_)
  · rw [checkI_52 (by omega) (by omega) (.inl h5)]; exact ⟨[], _, MT, .nil, fun _ _ _ => trivial, rfl, rfl, rfl⟩
  refine vcFit_i64 (by omega) ?_
  refine vcIf_dec (fun h6 => ?_) (fun h6 => ?_)
  · rw [checkI_52 (by omega) (by omega) (.inr h6)]; exact ⟨[], _, MT, .nil, fun _ _ _ => trivial, rfl, rfl, rfl⟩
  rw [checkI_0 (by omega) (by omega) (by omega)]
  exact ⟨[], _, MT, .nil, fun _ _ _ => trivial, rfl, rfl, rfl⟩

/-- A packet without its mask. -/
structure BareL where
  first : UInt8
  number : Nat
  bound : List UInt8
  sealed : List UInt8
/-- Are the bits wrong that must be nought? -/
def badB (x : UInt8) : Bool := if 128 ≤ x.toNat then decide (x.toNat / 4 % 4 ≠ 0) else decide (x.toNat / 8 % 4 ≠ 0)
def unsealL (key iv : List UInt8) (b : BareL) : List UInt8 × Int :=
  if (openL key (nonceL iv b.number) b.bound b.sealed).2 ≠ 0 then ([], 71) else if badB b.first then ([], 81) else ((openL key (nonceL iv b.number) b.bound b.sealed).1, 0)
theorem and12 (x : UInt8) : ((x &&& 12).toNat = 0) ↔ x.toNat / 4 % 4 = 0 := by
  have h : ∀ n, n < 256 → ((n &&& 12 = 0) ↔ n / 4 % 4 = 0) := by decide
  rw [UInt8.toNat_and]; exact h _ x.toNat_lt
theorem and24 (x : UInt8) : ((x &&& 24).toNat = 0) ↔ x.toNat / 8 % 4 = 0 := by
  have h : ∀ n, n < 256 → ((n &&& 24 = 0) ↔ n / 8 % 4 = 0) := by decide
  rw [UInt8.toNat_and]; exact h _ x.toNat_lt
theorem unsealL_71 {key iv : List UInt8} {b : BareL} (h : (openL key (nonceL iv b.number) b.bound b.sealed).2 ≠ 0) : unsealL key iv b = ([], 71) := if_pos h
theorem unsealL_81 {key iv : List UInt8} {b : BareL} (h : (openL key (nonceL iv b.number) b.bound b.sealed).2 = 0) (h2 : badB b.first = true) : unsealL key iv b = ([], 81) := by unfold unsealL; rw [if_neg (by omega), if_pos h2]
theorem unsealL_0 {key iv : List UInt8} {b : BareL} (h : (openL key (nonceL iv b.number) b.bound b.sealed).2 = 0) (h2 : badB b.first = false) : unsealL key iv b = ((openL key (nonceL iv b.number) b.bound b.sealed).1, 0) := by
  unfold unsealL; rw [if_neg (by omega), if_neg (by rw [h2]; decide)]

def bareV (b : BareL) (A1 : Option Addr) (c1 : Nat) (A2 : Option Addr) (c2 : Nat) : Value := .agg #[.int .u8 b.first.toNat, .int .i64 b.number, .slice A1 b.bound.length c1, .slice A2 b.sealed.length c2]
def bareVL (b : BareL) (A1 : Option Addr) (c1 : Nat) (A2 : Option Addr) (c2 : Nat) : List Value := [.int .u8 b.first.toNat, .int .i64 b.number, .slice A1 b.bound.length c1, .slice A2 b.sealed.length c2]

theorem unseal_spec (b : BareL) (A1 A2 : Option Addr) (c1 c2 : Nat) (k i h : Piece) (G : Mp) (h12 : i.2.2.length = 12) (hk : Ent G (RowAt k.1 (Bs k.2.2))) (hi : Ent G (RowAt i.1 (Bs i.2.2))) (h1 : Ent G (RowAt A1 (Bs b.bound))) (h2 : Ent G (RowAt A2 (Bs b.sealed))) (hc2 : b.sealed.length ≤ c2) :
    Spec Try.prog 45 #[bareV b A1 c1 A2 c2, keysV k i h] [] G (OwnBE (unsealL k.2.2 i.2.2 b).1 (unsealL k.2.2 i.2.2 b).2) := by
  refine Spec.intro (args := [_, _]) wide Try.func45 rfl Try.call45 (by rfl) (by rfl) (fun w0 hw0 => ?_)
  intro bx by'
  refine vcDraw_mix [0,1,2,3,4,6,7,8,9,5,10,11,12,13,14,15] (fun w => RowAt (some ⟨bx, 0, none⟩) (bareVL b A1 c1 A2 c2) w ∧ RowAt (some ⟨by', 0, none⟩) (keysL k i h) w) (by kernel_rfl) (fun w hw => ⟨(Ent.gnO (.there .here) (fun w hw => Ob.row_at hw)) w hw, (Ent.gnO .here (fun w hw => Ob.row_at hw)) w hw⟩) ?_
  refine vcLoad1_row (j := 0) (v := pieceV k) (fun w hw => hw.2) rfl ?_
  refine vcLoadN_0 (xs := keysL k i h) (fun w hw => hw.2) rfl ?_
  refine vcLoad1_row (j := 1) (v := .int .i64 b.number) (fun w hw => hw.1) rfl ?_
  refine vcLoad1_row (j := 2) (v := .slice A1 b.bound.length c1) (fun w hw => hw.1) rfl ?_
  refine vcLoad1_row (j := 3) (v := .slice A2 b.sealed.length c2) (fun w hw => hw.1) rfl ?_
  refine vcCall_of .nil (nonce_spec k i h b.number _ (Ent.gnG hi) h12) (fun v own' N' hv => ?_); obtain ⟨A3, c3, rfl, rfl, rfl, hc3⟩ := hv
  refine vcMix_same (fun w hw => ⟨(Ent.gnO (.there (.there .here)) (fun w hw => Ob.row_at hw)) w hw, (Ent.gnO (.there .here) (fun w hw => Ob.row_at hw)) w hw⟩) ?_
  refine vcCall_of .nil (open_spec k.1 A3 A1 A2 k.2.1 c3 c1 c2 k.2.2 _ b.bound b.sealed _ (Ent.gnG hk) (Ent.gnO .here (fun w hw => Ob.sl_at hw)) (Ent.gnG h1) (Ent.gnG h2) hc2) (fun v own' N' hv => ?_)
  obtain ⟨A4, c4, rfl, rfl, rfl, hc4⟩ := hv
  refine vcMix_same (fun w hw => ⟨(Ent.gnO (.there (.there (.there .here))) (fun w hw => Ob.row_at hw)) w hw, (Ent.gnO (.there (.there .here)) (fun w hw => Ob.row_at hw)) w hw⟩) ?_
  refine vcIf_ndec (fun g1 => ?_) (fun g1 => ?_)
  · exact ⟨_, _, MT, .cons .none_ .nil, fun _ _ _ => trivial, retE (unsealL_71 g1) (OwnBE_nil 71)⟩
  replace g1 : (openL k.2.2 (nonceL i.2.2 b.number) b.bound b.sealed).2 = 0 := g1
  have e12 := and12 b.first
  have e24 := and24 b.first
  have e128 := and128 b.first
  refine vcLoad1_row (j := 0) (v := .int .u8 b.first.toNat) (Ent.gnO (.there (.there (.there .here))) (fun w hw => Ob.row_at hw)) rfl ?_
  refine vcBit_as _ (and_u8 b.first 128) ?_
  refine vcIf_ndec (fun g2 => ?_) (fun g2 => ?_)
  · refine vcLoad1_row (j := 0) (v := .int .u8 b.first.toNat) (Ent.gnO (.there (.there (.there .here))) (fun w hw => Ob.row_at hw)) rfl ?_
    refine vcBit_as _ (and_u8 b.first 12) ?_
    refine vcIf_ndec (fun g3 => ?_) (fun g3 => ?_)
    · exact ⟨_, _, MT, .cons .none_ .nil, fun _ _ _ => trivial, retE (unsealL_81 g1 (by rw [badB, if_pos (by omega)]; exact decide_eq_true (by omega))) (OwnBE_nil 81)⟩
    · exact ⟨_, _, MT, .cons .here .nil, fun _ _ _ => trivial, retE (unsealL_0 g1 (by rw [badB, if_pos (by omega)]; exact decide_eq_false (by omega))) ⟨A4, c4, rfl, rfl, rfl, hc4⟩⟩
  · refine vcLoad1_row (j := 0) (v := .int .u8 b.first.toNat) (Ent.gnO (.there (.there (.there .here))) (fun w hw => Ob.row_at hw)) rfl ?_
    refine vcBit_as _ (and_u8 b.first 24) ?_
    refine vcIf_ndec (fun g3 => ?_) (fun g3 => ?_)
    · exact ⟨_, _, MT, .cons .none_ .nil, fun _ _ _ => trivial, retE (unsealL_81 g1 (by rw [badB, if_neg (by omega)]; exact decide_eq_true (by omega))) (OwnBE_nil 81)⟩
    · exact ⟨_, _, MT, .cons .here .nil, fun _ _ _ => trivial, retE (unsealL_0 g1 (by rw [badB, if_neg (by omega)]; exact decide_eq_false (by omega))) ⟨A4, c4, rfl, rfl, rfl, hc4⟩⟩

theorem runseal_spec (b : BareL) (A1 A2 : Option Addr) (c1 c2 : Nat) (Ak Ai : Option Addr) (ck ci : Nat) (key iv : List UInt8) (G : Mp) (h12 : iv.length = 12) (hn : b.number ≤ 4611686018427387903) (hk : Ent G (RowAt Ak (Bs key))) (hi : Ent G (RowAt Ai (Bs iv))) (h1 : Ent G (RowAt A1 (Bs b.bound))) (h2 : Ent G (RowAt A2 (Bs b.sealed))) (hc2 : b.sealed.length ≤ c2) :
    Spec Try.prog 48 #[bareV b A1 c1 A2 c2, .slice Ak key.length ck, .slice Ai iv.length ci] [] G (OwnBE (unsealL key iv b).1 (unsealL key iv b).2) := by
  refine Spec.intro (args := [_, _, _]) wide Try.func48 rfl Try.call48 (by rfl) (by rfl) (fun w0 hw0 => ?_)
  intro bx
  refine vcDraw_mix [0,1,2,3,5,6,7,8,4,9,10,11,12,13,14] (RowAt (some ⟨bx, 0, none⟩) (bareVL b A1 c1 A2 c2)) (by kernel_rfl) (Ent.gnO .here (fun w hw => Ob.row_at hw)) ?_
  refine vcLoad1_row (j := 1) (v := .int .i64 b.number) Ent.refl rfl ?_
  refine vcLoad1_row (j := 2) (v := .slice A1 b.bound.length c1) Ent.refl rfl ?_
  refine vcLoad1_row (j := 3) (v := .slice A2 b.sealed.length c2) Ent.refl rfl ?_
  refine vcCall_of .nil (rnonce_spec Ai ci iv b.number _ (Ent.gnG hi) h12 hn) (fun v own' N' hv => ?_); obtain ⟨A3, c3, rfl, rfl, rfl, hc3⟩ := hv
  refine vcMix_same (Ent.gnO (.there .here) (fun w hw => Ob.row_at hw)) ?_
  refine vcCall_of .nil (ropen_spec Ak A3 A1 A2 ck c3 c1 c2 key _ b.bound b.sealed _ (Ent.gnG hk) (Ent.gnO .here (fun w hw => Ob.sl_at hw)) (Ent.gnG h1) (Ent.gnG h2) hc2) (fun v own' N' hv => ?_)
  obtain ⟨A4, c4, rfl, rfl, rfl, hc4⟩ := hv
  refine vcMix_same (Ent.gnO (.there (.there .here)) (fun w hw => Ob.row_at hw)) ?_
  refine vcIf_ndec (fun g1 => ?_) (fun g1 => ?_)
  · exact ⟨_, _, MT, .cons .none_ .nil, fun _ _ _ => trivial, retE (unsealL_71 g1) (OwnBE_nil 71)⟩
  replace g1 : (openL key (nonceL iv b.number) b.bound b.sealed).2 = 0 := g1
  refine vcLoad1_row (j := 0) (v := .int .u8 b.first.toNat) (Ent.gnO (.there (.there .here)) (fun w hw => Ob.row_at hw)) rfl ?_
  have hx := b.first.toNat_lt
  refine vcIf_dec (fun g2 => ?_) (fun g2 => ?_)
  · repeat (refine vcIf_yes (by rfl) ?_)
    refine vcLoad1_row (j := 0) (v := .int .u8 b.first.toNat) (Ent.gnO (.there (.there .here)) (fun w hw => Ob.row_at hw)) rfl ?_
    repeat (refine vcIf_yes (by rfl) ?_)
    refine vcQuo_u8 (by omega) ?_
    repeat (refine vcIf_yes (by rfl) ?_)
    refine vcRem_pos (by omega) ?_
    repeat (refine vcIf_yes (by rfl) ?_)
    refine vcIf_ndec (fun g3 => ?_) (fun g3 => ?_)
    · exact ⟨_, _, MT, .cons .none_ .nil, fun _ _ _ => trivial, retE (unsealL_81 g1 (by rw [badB, if_pos (by omega)]; exact decide_eq_true (by omega))) (OwnBE_nil 81)⟩
    · repeat (refine vcIf_no (by rfl) ?_)
      refine vcLoad1_row (j := 0) (v := .int .u8 b.first.toNat) (Ent.gnO (.there (.there .here)) (fun w hw => Ob.row_at hw)) rfl ?_
      repeat (refine vcIf_no (by rfl) ?_)
      refine vcIf_no (by omega) ?_
      repeat (refine vcIf_no (by rfl) ?_)
      exact ⟨_, _, MT, .cons .here .nil, fun _ _ _ => trivial, retE (unsealL_0 g1 (by rw [badB, if_pos (by omega)]; exact decide_eq_false (by omega))) ⟨A4, c4, rfl, rfl, rfl, hc4⟩⟩
  · repeat (refine vcIf_no (by rfl) ?_)
    refine vcLoad1_row (j := 0) (v := .int .u8 b.first.toNat) (Ent.gnO (.there (.there .here)) (fun w hw => Ob.row_at hw)) rfl ?_
    repeat (refine vcIf_no (by rfl) ?_)
    refine vcIf_yes (by omega) ?_
    repeat (refine vcIf_yes (by rfl) ?_)
    refine vcLoad1_row (j := 0) (v := .int .u8 b.first.toNat) (Ent.gnO (.there (.there .here)) (fun w hw => Ob.row_at hw)) rfl ?_
    repeat (refine vcIf_yes (by rfl) ?_)
    refine vcQuo_u8 (by omega) ?_
    repeat (refine vcIf_yes (by rfl) ?_)
    refine vcRem_pos (by omega) ?_
    repeat (refine vcIf_yes (by rfl) ?_)
    refine vcIf_ndec (fun g3 => ?_) (fun g3 => ?_)
    · exact ⟨_, _, MT, .cons .none_ .nil, fun _ _ _ => trivial, retE (unsealL_81 g1 (by rw [badB, if_neg (by omega)]; exact decide_eq_true (by omega))) (OwnBE_nil 81)⟩
    · exact ⟨_, _, MT, .cons .here .nil, fun _ _ _ => trivial, retE (unsealL_0 g1 (by rw [badB, if_neg (by omega)]; exact decide_eq_false (by omega))) ⟨A4, c4, rfl, rfl, rfl, hc4⟩⟩
end Go.Proofs.Ytlaelknibcehdaa
