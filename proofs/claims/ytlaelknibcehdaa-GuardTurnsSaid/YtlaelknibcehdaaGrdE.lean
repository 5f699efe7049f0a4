/- Nonces; keys of the right lengths; what a mask reaches. -/
import Derived.Test.YtlaelknibcehdaaGrdD
import Derived.Test.YtlaelknibcehdaaVarB
namespace Go.Proofs.Ytlaelknibcehdaa
open Go.Proofs
set_option maxRecDepth 10000

/-- The nonce behind so many of its bytes. -/
def nonceK (iv : List UInt8) (n : Nat) : Nat → List UInt8
  | 0 => iv
  | j + 1 => (nonceK iv n j).set (11 - j) (((nonceK iv n j)[11 - j]?).getD 0 ^^^ UInt8.ofNat (n / 256 ^ j % 256))
theorem nonceK_length (iv : List UInt8) (n j : Nat) : (nonceK iv n j).length = iv.length := by
  induction j with
  | zero => rfl
  | succ j ih => rw [nonceK, List.length_set, ih]
def nonceL (iv : List UInt8) (n : Nat) : List UInt8 := nonceK iv n 8
theorem getD_at {l : List UInt8} {k : Nat} (h : k < l.length) : l[k]?.getD 0 = l[k] := by rw [List.getElem?_eq_getElem h]; rfl
def keysV (k i h : Piece) : Value := .agg #[pieceV k, pieceV i, pieceV h]
def keysL (k i h : Piece) : List Value := [pieceV k, pieceV i, pieceV h]

theorem vcShr_lit {kd : IntKind} {a b : Int} (n : Nat) {X : Int → Prop} (hb : b = n) (h : n ≤ kd.bits) (k : X (a / 2 ^ n)) : vcShr kd a b X := by subst hb; exact vcShr_nat h k
theorem shr_256 (n j : Nat) : byteI ((n : Int) / 2 ^ (8 * j)) = UInt8.ofNat (n / 256 ^ j % 256) := by rw [byteI_shr, pow256_2]

theorem nonce_spec (k i h : Piece) (n : Nat) (G : Mp) (hi : Ent G (RowAt i.1 (Bs i.2.2))) (h12 : i.2.2.length = 12) :
    Spec Try.prog 33 #[keysV k i h, .int .i64 n] [] G (OwnB (nonceL i.2.2 n)) := by
  obtain ⟨Ai, ci, iv⟩ := i
  replace h12 : iv.length = 12 := h12
  refine Spec.intro (args := [_, _]) wide Try.func33 rfl Try.call33 (by rfl) (by rfl) (fun w0 hw0 => ?_)
  intro bx
  refine vcLoad1_row (j := 1) (v := .slice Ai iv.length ci) (Ent.gnO .here (fun w hw => Ob.row_at hw)) rfl ?_
  refine vcCall_of .nil (clone_spec Ai ci iv _ (Ent.gnG hi) (by omega)) (fun v own' N' hv => ?_); obtain ⟨A, c, rfl, rfl, rfl, hc⟩ := hv
  refine vcLoop_of (fun j : Nat => 8 - j) (fun j => [(1, .int .i64 n), (5, .slice A iv.length c), (10, .int .i64 j)])
    (fun j => [.sl A c 5 1 (Bs (nonceK iv n j))]) (fun _ => MT) (fun j => j ≤ 8) 0 (Nat.zero_le _) ⟨rfl, rfl, rfl, trivial⟩ ⟨_, .cons .here .nil⟩ (fun _ _ => trivial) ?_
  intro j hj
  have hlj := nonceK_length iv n j
  refine vcIf_dec (fun hlt => ?_) (fun hge => ?_)
  · have hj' : j < 8 := by omega
    refine vcDraw_mix [0,1,2,3,4,5,6,7,8,9,10,11,12] (GN _ _ _) (by kernel_rfl) Ent.refl ?_
    refine vcFit_i64 (by omega) ?_
    refine vcIdx_nat (11 - j) (by omega) (by first | exact Ent.refl | assumption | exact Ent.gnG (by assumption) | exact Ent.gnG (Ent.gnG (by assumption)) | exact (Ent.gnO .here (fun w hw => Ob.sl_at hw)) | exact (Ent.gnO .here (fun w hw => Ob.row_at hw)) | exact (Ent.gnO (.there .here) (fun w hw => Ob.sl_at hw)) | exact (Ent.gnO (.there .here) (fun w hw => Ob.row_at hw)) | exact (Ent.gnO (.there (.there .here)) (fun w hw => Ob.sl_at hw)) | exact (Ent.gnO (.there (.there .here)) (fun w hw => Ob.row_at hw)) | exact (Ent.gnO (.there (.there (.there .here))) (fun w hw => Ob.sl_at hw)) | exact (Ent.gnO (.there (.there (.there .here))) (fun w hw => Ob.row_at hw)) | exact (Ent.gnO (.there (.there (.there (.there .here)))) (fun w hw => Ob.sl_at hw)) | exact (Ent.gnO (.there (.there (.there (.there .here)))) (fun w hw => Ob.row_at hw)) | exact (Ent.gnO (.there (.there (.there (.there (.there .here))))) (fun w hw => Ob.sl_at hw)) | exact (Ent.gnO (.there (.there (.there (.there (.there .here))))) (fun w hw => Ob.row_at hw))) (by omega) (by rw [Bs_length]; omega) (fun a ha => ?_)
    subst ha
    refine vcLoad1_row (by first | exact Ent.refl | assumption | exact Ent.gnG (by assumption) | exact Ent.gnG (Ent.gnG (by assumption)) | exact (Ent.gnO .here (fun w hw => Ob.sl_at hw)) | exact (Ent.gnO .here (fun w hw => Ob.row_at hw)) | exact (Ent.gnO (.there .here) (fun w hw => Ob.sl_at hw)) | exact (Ent.gnO (.there .here) (fun w hw => Ob.row_at hw)) | exact (Ent.gnO (.there (.there .here)) (fun w hw => Ob.sl_at hw)) | exact (Ent.gnO (.there (.there .here)) (fun w hw => Ob.row_at hw)) | exact (Ent.gnO (.there (.there (.there .here))) (fun w hw => Ob.sl_at hw)) | exact (Ent.gnO (.there (.there (.there .here))) (fun w hw => Ob.row_at hw)) | exact (Ent.gnO (.there (.there (.there (.there .here)))) (fun w hw => Ob.sl_at hw)) | exact (Ent.gnO (.there (.there (.there (.there .here)))) (fun w hw => Ob.row_at hw)) | exact (Ent.gnO (.there (.there (.there (.there (.there .here))))) (fun w hw => Ob.sl_at hw)) | exact (Ent.gnO (.there (.there (.there (.there (.there .here))))) (fun w hw => Ob.row_at hw))) (Bs_get (show 11 - j < (nonceK iv n j).length by omega)) ?_
    refine vcFit_i64 (by omega) ?_
    refine vcShr_lit (8 * j) (by omega) (show 8 * j ≤ 64 by omega) ?_
    refine vcFit_byte ?_
    refine vcBit_as _ (xor_u8 _ _) ?_
    refine vcIdx_some (11 - j) (by omega) (by omega) ?_
    refine vcStore1_1 _ _ .here rfl (by simp only [Ob.cells, Bs_length]; omega) rfl ?_
    refine vcMix_last (by kernel_rfl) ?_
    refine vcFit_i64 (by omega) ?_
    refine ⟨j + 1, by omega, by omega, ⟨rfl, rfl, rfl, trivial⟩, ⟨[], .cons ?_ .nil⟩, fun _ _ => trivial⟩
    rw [nonceK, ← shr_256, getD_at (by omega), ← Bs_set]
    exact .here
  · have : j = 8 := by omega
    subst this
    exact ⟨_, _, MT, .cons .here .nil, fun _ _ _ => trivial, _, _, by rw [show (nonceL iv n).length = iv.length from hlj]; rfl, rfl, rfl, by show (nonceL iv n).length ≤ c; rw [show (nonceL iv n).length = iv.length from hlj]; exact hc⟩

theorem rnonce_spec (Ai : Option Addr) (ci : Nat) (iv : List UInt8) (n : Nat) (G : Mp) (hi : Ent G (RowAt Ai (Bs iv))) (h12 : iv.length = 12) (hn : n ≤ 4611686018427387903) :
    Spec Try.prog 39 #[.slice Ai iv.length ci, .int .i64 n] [] G (OwnB (nonceL iv n)) := by
  refine Spec.intro (args := [_, _]) wide Try.func39 rfl Try.call39 (by rfl) (by rfl) (fun w0 hw0 => ?_)
  refine vcCall_of .nil (copy_spec Ai ci iv _ (Ent.gnG hi) (by omega)) (fun v own' N' hv => ?_); obtain ⟨A, c, rfl, rfl, rfl, hc⟩ := hv
  refine vcLoop_of (fun j : Nat => 8 - j) (fun j => [(1, .int .i64 (n / 256 ^ j : Nat)), (5, .slice A iv.length c), (6, .int .i64 (11 - j))])
    (fun j => [.sl A c 5 1 (Bs (nonceK iv n j))]) (fun _ => MT) (fun j => j ≤ 8) 0 (Nat.zero_le _) ⟨by simp; rfl, rfl, rfl, trivial⟩ ⟨_, .cons .here .nil⟩ (fun _ _ => trivial) ?_
  intro j hj
  have hlj := nonceK_length iv n j
  have hdn : n / 256 ^ j ≤ n := Nat.div_le_self _ _
  have hds : n / 256 ^ (j + 1) = n / 256 ^ j / 256 := by rw [Nat.pow_succ, Nat.div_div_eq_div_mul]
  have hnk : nonceK iv n (j + 1) = (nonceK iv n j).set (11 - j) (((nonceK iv n j)[11 - j]?).getD 0 ^^^ UInt8.ofNat (n / 256 ^ j % 256)) := rfl
  generalize hd : n / 256 ^ j = d at *
  refine vcIf_dec (fun hlt => ?_) (fun hge => ?_)
  · have hj' : j < 8 := by omega
    refine vcIdx_nat (11 - j) (by omega) (by first | exact Ent.refl | assumption | exact Ent.gnG (by assumption) | exact Ent.gnG (Ent.gnG (by assumption)) | exact (Ent.gnO .here (fun w hw => Ob.sl_at hw)) | exact (Ent.gnO .here (fun w hw => Ob.row_at hw)) | exact (Ent.gnO (.there .here) (fun w hw => Ob.sl_at hw)) | exact (Ent.gnO (.there .here) (fun w hw => Ob.row_at hw)) | exact (Ent.gnO (.there (.there .here)) (fun w hw => Ob.sl_at hw)) | exact (Ent.gnO (.there (.there .here)) (fun w hw => Ob.row_at hw)) | exact (Ent.gnO (.there (.there (.there .here))) (fun w hw => Ob.sl_at hw)) | exact (Ent.gnO (.there (.there (.there .here))) (fun w hw => Ob.row_at hw)) | exact (Ent.gnO (.there (.there (.there (.there .here)))) (fun w hw => Ob.sl_at hw)) | exact (Ent.gnO (.there (.there (.there (.there .here)))) (fun w hw => Ob.row_at hw)) | exact (Ent.gnO (.there (.there (.there (.there (.there .here))))) (fun w hw => Ob.sl_at hw)) | exact (Ent.gnO (.there (.there (.there (.there (.there .here))))) (fun w hw => Ob.row_at hw))) (by omega) (by rw [Bs_length]; omega) (fun a ha => ?_)
    subst ha
    refine vcLoad1_row (by first | exact Ent.refl | assumption | exact Ent.gnG (by assumption) | exact Ent.gnG (Ent.gnG (by assumption)) | exact (Ent.gnO .here (fun w hw => Ob.sl_at hw)) | exact (Ent.gnO .here (fun w hw => Ob.row_at hw)) | exact (Ent.gnO (.there .here) (fun w hw => Ob.sl_at hw)) | exact (Ent.gnO (.there .here) (fun w hw => Ob.row_at hw)) | exact (Ent.gnO (.there (.there .here)) (fun w hw => Ob.sl_at hw)) | exact (Ent.gnO (.there (.there .here)) (fun w hw => Ob.row_at hw)) | exact (Ent.gnO (.there (.there (.there .here))) (fun w hw => Ob.sl_at hw)) | exact (Ent.gnO (.there (.there (.there .here))) (fun w hw => Ob.row_at hw)) | exact (Ent.gnO (.there (.there (.there (.there .here)))) (fun w hw => Ob.sl_at hw)) | exact (Ent.gnO (.there (.there (.there (.there .here)))) (fun w hw => Ob.row_at hw)) | exact (Ent.gnO (.there (.there (.there (.there (.there .here))))) (fun w hw => Ob.sl_at hw)) | exact (Ent.gnO (.there (.there (.there (.there (.there .here))))) (fun w hw => Ob.row_at hw))) (Bs_get (show 11 - j < (nonceK iv n j).length by omega)) ?_
    refine vcRem_pos (by omega) ?_
    refine vcFit_byte ?_
    refine vcBit_as _ (xor_u8 _ _) ?_
    refine vcIdx_some (11 - j) (by omega) (by omega) ?_
    refine vcStore1_1 _ _ .here rfl (by simp only [Ob.cells, Bs_length]; omega) rfl ?_
    refine vcQuo_i64 (by omega) ?_
    refine vcFit_i64 (by omega) ?_
    refine ⟨j + 1, by omega, by omega, ⟨?_, rfl, ?_, trivial⟩, ⟨[], .cons ?_ .nil⟩, fun _ _ => trivial⟩
    · rw [hds]; rfl
    · rw [show (11 : Int) - ((j + 1 : Nat) : Int) = 11 - j - 1 from by omega]; rfl
    · have e : byteI ((d : Int) % 256) = UInt8.ofNat (d % 256) := by rw [show (d : Int) % 256 = ((d % 256 : Nat) : Int) from by omega, byteI_nat, Nat.mod_mod]
      rw [hnk, ← e, getD_at (by omega), ← Bs_set]
      exact .here
  · have : j = 8 := by omega
    subst this
    exact ⟨_, _, MT, .cons .here .nil, fun _ _ _ => trivial, _, _, by rw [show (nonceL iv n).length = iv.length from hlj]; rfl, rfl, rfl, by show (nonceL iv n).length ≤ c; rw [show (nonceL iv n).length = iv.length from hlj]; exact hc⟩

/-- What of a first byte is masked. -/
def reachB (x : UInt8) : UInt8 := if 128 ≤ x.toNat then 15 else 31
theorem and128 (x : UInt8) : ((x &&& 128).toNat = 0) ↔ x.toNat < 128 := by
  have h : ∀ n, n < 256 → ((n &&& 128 = 0) ↔ n < 128) := by decide
  rw [UInt8.toNat_and]; exact h _ x.toNat_lt
theorem and_u8 (x y : UInt8) : bitI .and .u8 (x.toNat : Int) (y.toNat : Int) = ((x &&& y).toNat : Int) := by
  rw [bitI_and (by rw [max_u8]; have := x.toNat_lt; omega) (by rw [max_u8]; have := y.toNat_lt; omega), UInt8.toNat_and]
theorem reach_spec (x : UInt8) (G : Mp) : Spec Try.prog 35 #[.int .u8 x.toNat] [] G (Ret (.int .u8 (reachB x).toNat)) := by
  refine Spec.intro (args := [_]) wide Try.func35 rfl Try.call35 (by rfl) (by rfl) (fun w0 hw0 => ?_)
  refine vcBit_as _ (and_u8 x 128) ?_
  have := and128 x
  refine vcIf_ndec (fun h => ?_) (fun h => ?_)
  · rw [reachB, if_pos (by omega)]; exact ⟨[], _, MT, .nil, fun _ _ _ => trivial, rfl, rfl, rfl⟩
  · rw [reachB, if_neg (by omega)]; exact ⟨[], _, MT, .nil, fun _ _ _ => trivial, rfl, rfl, rfl⟩
theorem rreach_spec (x : UInt8) (G : Mp) : Spec Try.prog 41 #[.int .u8 x.toNat] [] G (Ret (.int .u8 (reachB x).toNat)) := by
  refine Spec.intro (args := [_]) wide Try.func41 rfl Try.call41 (by rfl) (by rfl) (fun w0 hw0 => ?_)
  refine vcIf_dec (fun h => ?_) (fun h => ?_)
  · rw [reachB, if_pos (by omega)]; exact ⟨[], _, MT, .nil, fun _ _ _ => trivial, rfl, rfl, rfl⟩
  · rw [reachB, if_neg (by omega)]; exact ⟨[], _, MT, .nil, fun _ _ _ => trivial, rfl, rfl, rfl⟩

def rightK (k i h : Piece) : Bool := decide (k.2.2.length = 16 ∧ i.2.2.length = 12 ∧ h.2.2.length = 16)
theorem right_spec (k i h : Piece) (G : Mp) : Spec Try.prog 30 #[keysV k i h] [] G (Ret (.bool (rightK k i h))) := by
  refine Spec.intro (args := [_]) wide Try.func30 rfl Try.call30 (by rfl) (by rfl) (fun w0 hw0 => ?_)
  intro bx
  refine vcLoad1_row (j := 0) (v := pieceV k) (Ent.gnO .here (fun w hw => Ob.row_at hw)) rfl ?_
  refine vcIf_dec (fun h1 => ?_) (fun h1 => ?_)
  · repeat (refine vcIf_yes (by rfl) ?_)
    refine vcLoad1_row (j := 1) (v := pieceV i) (Ent.gnO .here (fun w hw => Ob.row_at hw)) rfl ?_
    repeat (refine vcIf_yes (by rfl) ?_)
    refine vcIf_dec (fun h2 => ?_) (fun h2 => ?_)
    · repeat (refine vcIf_yes (by rfl) ?_)
      refine vcLoad1_row (j := 2) (v := pieceV h) (Ent.gnO .here (fun w hw => Ob.row_at hw)) rfl ?_
      repeat (refine vcIf_yes (by rfl) ?_)
      rw [show rightK k i h = decide (((h.2.2.length : Nat) : Int) = 16) from decide_eq_decide.mpr (by omega)]
      refine ⟨[], _, MT, .nil, fun _ _ _ => trivial, ?_, rfl, rfl⟩
      rfl
    · repeat (refine vcIf_no (by rfl) ?_)
      rw [show rightK k i h = false from decide_eq_false (by omega)]
      refine ⟨[], _, MT, .nil, fun _ _ _ => trivial, ?_, rfl, rfl⟩
      rfl
  · repeat (refine vcIf_no (by rfl) ?_)
    rw [show rightK k i h = false from decide_eq_false (by omega)]
    refine ⟨[], _, MT, .nil, fun _ _ _ => trivial, ?_, rfl, rfl⟩
    rfl
theorem rright_spec (k i h : Piece) (G : Mp) : Spec Try.prog 36 #[keysV k i h] [] G (Ret (.bool (rightK k i h))) := by
  refine Spec.intro (args := [_]) wide Try.func36 rfl Try.call36 (by rfl) (by rfl) (fun w0 hw0 => ?_)
  intro bx
  refine vcLoad1_row (j := 0) (v := pieceV k) (Ent.gnO .here (fun w hw => Ob.row_at hw)) rfl ?_
  refine vcIf_dec (fun h1 => ?_) (fun h1 => ?_)
  · repeat (refine vcIf_yes (by rfl) ?_)
    refine vcLoad1_row (j := 1) (v := pieceV i) (Ent.gnO .here (fun w hw => Ob.row_at hw)) rfl ?_
    repeat (refine vcIf_yes (by rfl) ?_)
    refine vcIf_dec (fun h2 => ?_) (fun h2 => ?_)
    · repeat (refine vcIf_yes (by rfl) ?_)
      refine vcLoad1_row (j := 2) (v := pieceV h) (Ent.gnO .here (fun w hw => Ob.row_at hw)) rfl ?_
      repeat (refine vcIf_yes (by rfl) ?_)
      rw [show rightK k i h = decide (((h.2.2.length : Nat) : Int) = 16) from decide_eq_decide.mpr (by omega)]
      refine ⟨[], _, MT, .nil, fun _ _ _ => trivial, ?_, rfl, rfl⟩
      rfl
    · repeat (refine vcIf_no (by rfl) ?_)
      rw [show rightK k i h = false from decide_eq_false (by omega)]
      refine ⟨[], _, MT, .nil, fun _ _ _ => trivial, ?_, rfl, rfl⟩
      rfl
  · repeat (refine vcIf_no (by rfl) ?_)
    rw [show rightK k i h = false from decide_eq_false (by omega)]
    refine ⟨[], _, MT, .nil, fun _ _ _ => trivial, ?_, rfl, rfl⟩
    rfl
end Go.Proofs.Ytlaelknibcehdaa
