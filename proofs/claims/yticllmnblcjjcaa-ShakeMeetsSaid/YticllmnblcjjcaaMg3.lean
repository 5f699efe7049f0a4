/- The digest of several pieces. [Lib Join PrmB Byt PrmC PrmK Pik VarB ShkA ShkB ShkC Drp ShkD ShkE Cnc PrmD] -/
import Derived.Test.YticllmnblcjjcaaMg2
import Derived.Test.YticllmnblcjjcaaProg
section
/- Copying and comparing bytes: what the reference's functions do. -/
namespace Go.Proofs.Yticllmnblcjjcaa
open Go.Proofs
set_option maxRecDepth 10000

theorem wide : Try.prog.follows .mixedOrders = true := by kernel_rfl

/-- ref.Copy. -/
theorem copy_spec (A : Option Addr) (c : Nat) (xs : List UInt8) (G : Mp) (h1 : Ent G (RowAt A (Bs xs))) (hx : xs.length ≤ 281474976710656) :
    Spec Try.prog 20 #[.slice A xs.length c] [] G (Own1 xs.length 5 1 (Bs xs)) := by
  refine Spec.intro (args := [_]) wide Try.func20 rfl Try.call20 (by rfl) (by rfl) (fun w0 hw0 => ?_)
  refine vcMk_nat xs.length rfl rfl (by omega) (by omega) (fun b => ?_)
  refine vcCpy_of _ _ (Bs xs) .here (by simp [zerosL_length]) (by simp [Bs_length]) (Bs_one xs) (Ent.gnG h1) ?_
  refine ⟨_, [], MT, .cons .here .nil, fun _ _ _ => trivial, _, _, rfl, ?_, rfl, Nat.le_refl _⟩
  have e : List.take (Nat.min xs.length xs.length * 1) (Bs xs) ++ List.drop (Nat.min xs.length xs.length * 1) (zerosL xs.length [.int .u8 0]) = Bs xs := by
    rw [show Nat.min xs.length xs.length = xs.length from Nat.min_self _, Nat.mul_one, List.take_of_length_le (by simp [Bs_length]), List.drop_eq_nil_of_le (by simp [zerosL_length])]
    simp
  exact congrArg (fun l => [Ob.sl _ _ _ _ l]) e

/-- ref.Same. -/
theorem same_spec (A A' : Option Addr) (c d : Nat) (xs ys : List UInt8) (G : Mp) (h1 : Ent G (RowAt A (Bs xs))) (h2 : Ent G (RowAt A' (Bs ys))) (hx : xs.length ≤ 9223372036854775807) :
    Spec Try.prog 16 #[.slice A xs.length c, .slice A' ys.length d] [] G (Ret (.bool (decide (xs = ys)))) := by
  refine Spec.intro (args := [_, _]) wide Try.func16 rfl Try.call16 (by rfl) (by rfl) (fun w0 hw0 => ?_)
  refine vcIf_ndec (fun hne => ?_) (fun heq => ?_)
  · refine ⟨[], [], MT, .nil, fun _ _ _ => trivial, ?_, rfl, rfl⟩
    have : xs ≠ ys := fun e => hne (by rw [e])
    simp [tupleOf, this]
  · have hl : xs.length = ys.length := by omega
    refine vcLoop_of (fun k : Nat => xs.length - k) (fun k => [(0, .slice A xs.length c), (1, .slice A' ys.length d), (5, .int .i64 k)]) (fun _ => []) (fun _ => MT) (fun k => k ≤ xs.length ∧ xs.take k = ys.take k)
      0 ⟨by omega, by simp⟩ ⟨rfl, rfl, rfl, trivial⟩ ⟨_, .nil⟩ Ent.refl ?_
    rintro k ⟨hk, ht⟩
    refine vcIf_dec (fun hlt => ?_) (fun hge => ?_)
    · refine vcDraw_quiet (by kernel_rfl) ?_
      refine vcIdx_row (Ent.gnG h1) ⟨by omega, hlt⟩ (by simp [Bs_length]) (fun a ha => ?_)
      subst ha
      refine vcLoad1_row (Ent.gnG h1) (Bs_get (by omega)) ?_
      refine vcIdx_row (Ent.gnG h2) ⟨by omega, by omega⟩ (by simp [Bs_length]) (fun a ha => ?_)
      subst ha
      refine vcLoad1_row (Ent.gnG h2) (Bs_get (by omega)) ?_
      simp only [Int.toNat_natCast]
      have hlt' : k < xs.length := by omega
      refine vcIf_ndec (fun hne => ?_) (fun heq => ?_)
      · refine ⟨[], [], MT, .nil, fun _ _ _ => trivial, ?_, rfl, rfl⟩
        have : xs ≠ ys := take_snoc_ne hlt' (by omega) (fun e => hne (by rw [e]))
        simp [tupleOf, this]
      · refine vcFit_i64 (by omega) ?_
        refine ⟨k + 1, ⟨by omega, take_snoc_eq ht hlt' (by omega) (UInt8.toNat_inj.1 (by omega))⟩, by omega, ⟨rfl, rfl, rfl, trivial⟩, ⟨_, .nil⟩, Ent.refl⟩
    · refine ⟨[], [], MT, .nil, fun _ _ _ => trivial, ?_, rfl, rfl⟩
      have hk' : k = xs.length := by omega
      subst hk'
      have : xs = ys := by rw [List.take_length, hl, List.take_length] at ht; exact ht
      simp [tupleOf, this]

theorem set_rep (k : Nat) (T : List UInt8) (y : UInt8) : (Bs (List.replicate (k + 1) 0 ++ T)).set k (B y) = Bs (List.replicate k 0 ++ y :: T) := by
  simp only [Bs, List.map_append, List.map_replicate, List.map_cons]
  rw [List.set_append_left _ _ (by simp), List.replicate_succ', List.set_append_right _ _ (by simp)]
  simp
theorem Bs_zeros (n : Nat) : zerosL n [.int .u8 0] = Bs (List.replicate n 0) := by
  rw [zerosL_one, Bs, List.map_replicate]; rfl

/-- A call that makes a slice of bytes. -/
def OwnB (bs : List UInt8) : Value → List Ob → Mp → Prop := Own1 bs.length 5 1 (Bs bs)
end Go.Proofs.Yticllmnblcjjcaa
end

section
/- The reference's Join. -/
namespace Go.Proofs.Yticllmnblcjjcaa
open Go.Proofs
set_option maxRecDepth 10000

/-- A piece: where it lies, its room, its bytes. -/
abbrev Piece := Option Addr × Nat × List UInt8
def pieceV (p : Piece) : Value := .slice p.1 p.2.2.length p.2.1
def pieces (ps : List Piece) : List UInt8 := ps.flatMap fun p => p.2.2
theorem pieces_le (ps : List Piece) (k : Nat) : (pieces (ps.take k)).length ≤ (pieces ps).length := by
  have : pieces ps = pieces (ps.take k) ++ pieces (ps.drop k) := by
    unfold pieces; rw [← List.flatMap_append, List.take_append_drop]
  rw [this]; simp

theorem join_spec (A : Option Addr) (c : Nat) (ps : List Piece) (G : Mp) (h1 : Ent G (RowAt A (ps.map pieceV))) (h2 : ∀ p ∈ ps, Ent G (RowAt p.1 (Bs p.2.2))) (hb : (pieces ps).length ≤ 211106232532992) (hl : ps.length ≤ 4611686018427387904) :
    Spec Try.prog 39 #[.slice A ps.length c] [] G (OwnB (pieces ps)) := by
  refine Spec.intro (args := [_]) wide Try.func39 rfl Try.call39 (by rfl) (by rfl) (fun w0 hw0 => ?_)
  intro b
  refine vcLoop_of (fun g : Nat × Option Addr × Nat => ps.length - g.1) (fun g => [(0, .slice A ps.length c), (3, .slice g.2.1 (pieces (ps.take g.1)).length g.2.2), (4, .int .i64 g.1)])
    (fun g => [.sl g.2.1 g.2.2 5 1 (Bs (pieces (ps.take g.1)))]) (fun _ => MT) (fun g => g.1 ≤ ps.length ∧ (pieces (ps.take g.1)).length ≤ g.2.2) (0, some ⟨b, 0, none⟩, 0)
    ⟨Nat.zero_le _, Nat.le_refl _⟩ ⟨rfl, rfl, rfl, trivial⟩ ⟨[], .cons .here .nil⟩ (fun _ _ => trivial) ?_
  rintro ⟨k, A', cap'⟩ ⟨hk, hcap⟩
  simp only at hk hcap
  refine vcIf_dec (fun hlt => ?_) (fun hge => ?_)
  · have hk' : k < ps.length := by simp only at hlt; omega
    have hle := pieces_le ps (k + 1)
    have hsn : pieces (ps.take (k + 1)) = pieces (ps.take k) ++ ps[k].2.2 := by rw [take_snoc_get hk']; simp only [pieces, List.flatMap_append, List.flatMap_cons, List.flatMap_nil, List.append_nil]
    rw [hsn, List.length_append] at hle
    refine vcIdx_row (Ent.gnG h1) ⟨by omega, by simp only; omega⟩ (by simp) (fun a ha => ?_)
    subst ha
    refine vcLoad1_row (v := pieceV ps[k]) (Ent.gnG h1) (by simp [hk']) ?_
    refine vcApp_big (Bs (pieces (ps.take k))) _ (Bs ps[k].2.2) .here (by rw [Bs_length, Nat.mul_one]) (by rw [Bs_length, Nat.mul_one]) (by omega) (Bs_one _) (Ent.gnG (h2 _ (List.getElem_mem _))) (by simp only; omega) (fun A2 cap2 hc2 => ?_)
    refine vcFit_i64 (by omega) ?_
    refine ⟨(k + 1, A2, cap2), ⟨by simp only; omega, by simp only; rw [hsn, List.length_append]; exact hc2⟩, by simp only; omega, ⟨rfl, ?_, rfl, trivial⟩, ⟨[], .cons ?_ .nil⟩, fun _ _ => trivial⟩
    · rw [hsn, List.length_append]; rfl
    · simp only [hsn, Bs_append]; exact .here
  · have hk' : k = ps.length := by simp only at hge; omega
    subst hk'
    rw [List.take_length] at hcap
    refine ⟨_, [], MT, .cons .here .nil, fun _ _ _ => trivial, A', cap', ?_, ?_, rfl, hcap⟩
    · rw [List.take_length]; rfl
    · rw [List.take_length]
end Go.Proofs.Yticllmnblcjjcaa
end

section
/- The digest: turning words, taking in bytes. -/
namespace Go.Proofs.Yticllmnblcjjcaa
open Go.Proofs
set_option maxRecDepth 10000

theorem rot64_spec (w k : Nat) (hw : w < 18446744073709551616) (hk : k < 64) (G : Mp) : Spec Try.prog 93 #[.int .u64 w, .int .i64 k] [] G (Ret (.int .u64 (rotN w k : Nat))) := by
  refine Spec.intro (args := [_, _]) wide Try.func93 rfl Try.call93 (by rfl) (by rfl) (fun w0 hw0 => ?_)
  have hand : bitI .and .u64 (k : Int) 63 = (k : Nat) := by
    rw [show (63 : Int) = ((63 : Nat) : Int) from rfl, bitI_and (by rw [max_u64]; omega) (by rw [max_u64]; omega)]
    rw [show k &&& 63 = k % 64 from Nat.and_two_pow_sub_one_eq_mod k 6, Nat.mod_eq_of_lt hk]
  refine vcFit_u64_in (by omega) ?_
  refine vcBit_as _ hand ?_
  refine vcShl_nat (n := k) (show k ≤ 64 by omega) ?_
  refine vcFit_u64 ?_
  refine vcFit_u64_in (by omega) ?_
  rw [show (64 : Int) - k = ((64 - k : Nat) : Int) from by omega]
  refine vcShr_nat (n := 64 - k) (show 64 - k ≤ 64 by omega) ?_
  have e1 : ((w : Int) * 2 ^ k) % 18446744073709551616 = ((w * 2 ^ k % 18446744073709551616 : Nat) : Int) := by simp
  have e2 : (w : Int) / 2 ^ (64 - k) = ((w / 2 ^ (64 - k) : Nat) : Int) := by simp
  refine vcBit_as (rotN w k : Nat) ?_ ⟨[], [], MT, .nil, fun _ _ _ => trivial, rfl, rfl, rfl⟩
  rw [e1, e2, bitI_or (by rw [max_u64]; omega) (by have := Nat.div_le_self w (2 ^ (64 - k)); rw [max_u64]; omega)]
  rfl

/-- A state's cells. -/
def stV (s : Nat × Nat) : List Value := [.int .u64 s.1, .int .u64 s.2]

theorem xor64 (a b : Nat) (ha : a < 18446744073709551616) (hb : b < 18446744073709551616) : bitI .xor .u64 (a : Int) (b : Int) = ((a ^^^ b : Nat) : Int) := bitI_xor (by rw [max_u64]; omega) (by rw [max_u64]; omega)
theorem xor_lt {a b : Nat} (ha : a < 18446744073709551616) (hb : b < 18446744073709551616) : a ^^^ b < 18446744073709551616 := Nat.xor_lt_two_pow (n := 64) ha hb
theorem mul64 (a b : Nat) : ((a : Int) * (b : Int)) % 18446744073709551616 = ((a * b % 18446744073709551616 : Nat) : Int) := by simp
theorem add64 (a b : Nat) : ((a : Int) + (b : Int)) % 18446744073709551616 = (((a + b) % 18446744073709551616 : Nat) : Int) := by simp

theorem add_spec (b : Nat) (s : Nat × Nat) (hs : s.1 < 18446744073709551616 ∧ s.2 < 18446744073709551616) (A : Option Addr) (c : Nat) (xs : List UInt8) (G : Mp) (h1 : Ent G (RowAt A (Bs xs))) (hx : xs.length ≤ 9223372036854775799) :
    Spec Try.prog 92 #[.pointer (some ⟨b, 0, none⟩), .slice A xs.length c] [.row b 117 (stV s) 2] G (fun v own N => v = .tuple #[] ∧ own = [.row b 117 (stV (mixL s xs)) 2] ∧ N = MT) := by
  refine Spec.intro (args := [_, _]) wide Try.func92 rfl Try.call92 (by rfl) (by rfl) (fun w0 hw0 => ?_)
  refine vcLoop_of (fun k : Nat => xs.length - k) (fun k => [(0, .pointer (some ⟨b, 0, none⟩)), (6, .slice A xs.length c), (7, .int .i64 xs.length), (8, .int .i64 k)])
    (fun k => [.row b 117 (stV (mixL s (xs.take k))) 2]) (fun _ => MT) (fun k => k ≤ xs.length) 0 (Nat.zero_le _) ⟨rfl, rfl, rfl, rfl, trivial⟩ ⟨[], .cons .here .nil⟩ Ent.refl ?_
  intro k hk
  refine vcIf_dec (fun hlt => ?_) (fun hge => ?_)
  · have hk' : k < xs.length := by omega
    have hb := xs[k].toNat_lt
    have hl := mixL_lt s hs (xs.take k)
    have hsn : mixL s (xs.take (k + 1)) = mixN (mixL s (xs.take k)) xs[k] := by rw [take_snoc_get hk', mixL_snoc]
    generalize mixL s (xs.take k) = t at hl hsn
    have hxk : (Bs xs)[k]? = some (.int .u8 xs[k].toNat) := Bs_get hk'
    generalize xs[k] = x at hb hsn hxk
    refine vcIdx_row (Ent.gnG h1) ⟨by omega, hlt⟩ (by rw [Bs_length]; exact Nat.le_refl _) (fun a ha => ?_)
    subst ha
    refine vcLoad1_row (Ent.gnG h1) hxk ?_
    -- s.a
    refine vcDraw_mix [0, 1, 2, 3, 4, 5, 6, 7, 8, 10, 11, 12, 13, 9, 14, 15, 16, 17] (RowAt (some ⟨b, 0, none⟩) (stV t)) (by kernel_rfl) (Ent.gnO .here fun w hw => Ob.row_at hw) ?_
    refine vcLoad1_row (j := 0) (v := .int .u64 t.1) Ent.refl rfl ?_
    refine vcFit_u64_in (by omega) ?_
    refine vcBit_as _ (xor64 _ _ hl.1 (by omega)) ?_
    refine vcFit_u64 ?_
    rw [show (1099511628211 : Int) = ((1099511628211 : Nat) : Int) from rfl, mul64]
    refine vcLoad1_row (j := 1) (v := .int .u64 t.2) Ent.refl rfl ?_
    refine vcCall_of .nil (rot64_spec _ 23 (Nat.mod_lt _ (by decide)) (by omega) _) (fun v own' N' hv => ?_)
    obtain ⟨rfl, rfl, rfl⟩ := hv
    refine vcMix_same (Ent.gnO .here fun w hw => Ob.row_at hw) ?_
    refine vcFit_u64 ?_
    rw [add64]
    refine vcStore1_of _ _ ⟨b, 0, none⟩ 0 .here rfl rfl (by simp [Ob.cells, stV]) rfl ?_
    refine vcMix_last (by kernel_rfl) ?_
    -- s.b
    have hA : mixA t.1 t.2 x.toNat < 18446744073709551616 := Nat.mod_lt _ (by decide)
    refine vcDraw_mix [0, 1, 2, 3, 4, 5, 6, 7, 8, 9, 12, 13, 10, 11, 14, 15, 16, 17] (RowAt (some ⟨b, 0, none⟩) [.int .u64 (mixA t.1 t.2 x.toNat : Nat), .int .u64 t.2]) (by kernel_rfl) (Ent.gnO .here fun w hw => Ob.row_at hw) ?_
    refine vcLoad1_row (j := 1) (v := .int .u64 t.2) Ent.refl rfl ?_
    refine vcLoad1_row (j := 0) (v := .int .u64 (mixA t.1 t.2 x.toNat : Nat)) Ent.refl rfl ?_
    refine vcBit_as _ (xor64 _ _ hl.2 hA) ?_
    refine vcFit_u64_in (by omega) ?_
    refine vcCall_of .nil (rot64_spec _ 41 (xor_lt hl.2 hA) (by omega) _) (fun v own' N' hv => ?_)
    obtain ⟨rfl, rfl, rfl⟩ := hv
    refine vcMix_same (Ent.gnO .here fun w hw => Ob.row_at hw) ?_
    refine vcFit_u64 ?_
    rw [show (2654435761 : Int) = ((2654435761 : Nat) : Int) from rfl, mul64]
    refine vcFit_u64 ?_
    rw [add64]
    refine vcStore1_of _ _ ⟨b, 0, none⟩ 1 .here rfl rfl (by simp [Ob.cells, Ob.set, stV]) rfl ?_
    refine vcMix_last (by kernel_rfl) ?_
    refine vcFit_i64 (by omega) ?_
    refine ⟨k + 1, by omega, by omega, ⟨rfl, rfl, rfl, rfl, trivial⟩, ⟨[], .cons ?_ .nil⟩, fun _ _ => trivial⟩
    rw [hsn]
    exact .here
  · have hk' : k = xs.length := by omega
    subst hk'
    rw [List.take_length]
    exact ⟨_, [], MT, .cons .here .nil, fun _ _ _ => trivial, rfl, rfl, rfl⟩
end Go.Proofs.Yticllmnblcjjcaa
end

section
/- Bytes of numbers; pairs of bytes and an error. -/
namespace Go.Proofs.Yticllmnblcjjcaa
open Go.Proofs

/-- A number's last byte. -/
def byteI (e : Int) : UInt8 := UInt8.ofNat (e % 256).toNat
theorem byteI_nat (n : Nat) : byteI (n : Int) = UInt8.ofNat (n % 256) := by unfold byteI; rw [show ((n : Int) % 256).toNat = n % 256 from by omega]
theorem vcFit_byte {e : Int} {X : Int → Prop} (k : X ((byteI e).toNat : Int)) : vcFit .u8 e X := by
  refine vcFit_u8 ?_
  have h : (((byteI e).toNat : Nat) : Int) = e % 256 := by unfold byteI; rw [UInt8.toNat_ofNat']; omega
  rw [← h]; exact k
theorem byteI_div (n m : Nat) : byteI ((n : Int) / (m : Int)) = UInt8.ofNat (n / m % 256) := by rw [← byteI_nat]; congr 1
theorem byteI_shr (n k : Nat) : byteI ((n : Int) / 2 ^ k) = UInt8.ofNat (n / 2 ^ k % 256) := by rw [← byteI_nat]; congr 1
theorem OwnB_lit {bs cs : List UInt8} {b c : Nat} {N : Mp} (h : cs = bs) (hc : cs.length ≤ c) (hN : N = MT) : OwnB bs (.slice (some ⟨b, 0, none⟩) cs.length c) [.sl (some ⟨b, 0, none⟩) c 5 1 (Bs cs)] N := by
  subst h; exact ⟨_, c, rfl, rfl, hN, hc⟩

def OwnBE (bs : List UInt8) (e : Int) (v : Value) (own : List Ob) (N : Mp) : Prop := ∃ A cap, v = .tuple #[.slice A bs.length cap, .int .i64 e] ∧ own = [.sl A cap 5 1 (Bs bs)] ∧ N = MT ∧ bs.length ≤ cap
theorem OwnBE_nil (e : Int) : OwnBE [] e (.tuple #[.slice none 0 0, .int .i64 e]) [.sl none 0 5 1 []] MT := ⟨none, 0, rfl, rfl, rfl, Nat.le_refl _⟩
theorem retE {s : List UInt8 × Int} {bs : List UInt8} {e : Int} (h : s = (bs, e)) {v : Value} {own : List Ob} {N : Mp} (k : OwnBE bs e v own N) : OwnBE s.1 s.2 v own N := by subst h; exact k
def GetBE (bs : List UInt8) (e : Int) (v : Value) (own : List Ob) (N : Mp) : Prop := ∃ A cap, v = .tuple #[.slice A bs.length cap, .int .i64 e] ∧ own = [] ∧ Ent N (RowAt A (Bs bs)) ∧ bs.length ≤ cap
end Go.Proofs.Yticllmnblcjjcaa
end

section
/- Small functions of layer 7: words, pieces with their length ahead. -/
namespace Go.Proofs.Yticllmnblcjjcaa
open Go.Proofs
set_option maxRecDepth 10000

theorem long_spec (A : Option Addr) (c : Nat) (n : Nat) (G : Mp) : Spec Try.prog 88 #[.slice A n c] [] G (Ret (.bool (decide (255 < n)))) := by
  refine Spec.intro (args := [_]) wide Try.func88 rfl Try.call88 (by rfl) (by rfl) (fun w0 hw0 => ?_)
  refine ⟨[], _, MT, .nil, fun _ _ _ => trivial, ?_, rfl, rfl⟩
  exact congrArg Value.bool (decide_eq_decide.2 (by omega))
theorem short_spec (A : Option Addr) (c : Nat) (xs : List UInt8) (G : Mp) (h1 : Ent G (RowAt A (Bs xs))) (hx : xs.length ≤ 70368744177664) : Spec Try.prog 89 #[.slice A xs.length c] [] G (OwnB (txt xs)) := by
  refine Spec.intro (args := [_]) wide Try.func89 rfl Try.call89 (by rfl) (by rfl) (fun w0 hw0 => ?_)
  repeat' (first | (first | refine vcFit_i64 (by omega) ?_ | refine vcFit_byte ?_ | refine vcFit_u64_in (by omega) ?_ | refine vcRem_pos (by omega) ?_ | refine vcQuo_i64 (by omega) ?_ | refine vcShr_nat (n := _) (by decide) ?_) | (first | refine vcIf_yes (by omega) ?_ | refine vcIf_no (by omega) ?_ | refine vcIf_nyes (by omega) ?_ | refine vcIf_nno (by omega) ?_ | refine vcIf_dec (fun _ => ?_) (fun _ => ?_) | refine vcIf_ndec (fun _ => ?_) (fun _ => ?_)) | (first | refine vcIdx_some _ (by first | exact rfl | exact (Int.natCast_add _ 1).symm | exact (Int.toNat_of_nonneg (by omega)).symm) (by omega) ?_ | (refine vcIdx_nat _ (by first | exact rfl | exact (Int.natCast_add _ 1).symm | exact (Int.toNat_of_nonneg (by omega)).symm) (by first | exact Ent.refl | assumption | exact Ent.gnG (by assumption) | exact Ent.gnG (Ent.gnG (by assumption)) | exact (Ent.gnO .here (fun w hw => Ob.sl_at hw)) | exact (Ent.gnO .here (fun w hw => Ob.row_at hw)) | exact (Ent.gnO (.there .here) (fun w hw => Ob.sl_at hw)) | exact (Ent.gnO (.there .here) (fun w hw => Ob.row_at hw)) | exact (Ent.gnO (.there (.there .here)) (fun w hw => Ob.sl_at hw)) | exact (Ent.gnO (.there (.there .here)) (fun w hw => Ob.row_at hw)) | exact (Ent.gnO (.there (.there (.there .here))) (fun w hw => Ob.sl_at hw)) | exact (Ent.gnO (.there (.there (.there .here))) (fun w hw => Ob.row_at hw)) | exact (Ent.gnO (.there (.there (.there (.there .here)))) (fun w hw => Ob.sl_at hw)) | exact (Ent.gnO (.there (.there (.there (.there .here)))) (fun w hw => Ob.row_at hw)) | exact (Ent.gnO (.there (.there (.there (.there (.there .here))))) (fun w hw => Ob.sl_at hw)) | exact (Ent.gnO (.there (.there (.there (.there (.there .here))))) (fun w hw => Ob.row_at hw))) (by omega) (by first | omega | (simp only [Bs_length]; omega) | (simp; done) | (simp; omega)) (fun a ha => ?_); cases ha)) | (first | refine vcLoad1_row (by first | exact Ent.refl | assumption | exact Ent.gnG (by assumption) | exact Ent.gnG (Ent.gnG (by assumption)) | exact (Ent.gnO .here (fun w hw => Ob.sl_at hw)) | exact (Ent.gnO .here (fun w hw => Ob.row_at hw)) | exact (Ent.gnO (.there .here) (fun w hw => Ob.sl_at hw)) | exact (Ent.gnO (.there .here) (fun w hw => Ob.row_at hw)) | exact (Ent.gnO (.there (.there .here)) (fun w hw => Ob.sl_at hw)) | exact (Ent.gnO (.there (.there .here)) (fun w hw => Ob.row_at hw)) | exact (Ent.gnO (.there (.there (.there .here))) (fun w hw => Ob.sl_at hw)) | exact (Ent.gnO (.there (.there (.there .here))) (fun w hw => Ob.row_at hw)) | exact (Ent.gnO (.there (.there (.there (.there .here)))) (fun w hw => Ob.sl_at hw)) | exact (Ent.gnO (.there (.there (.there (.there .here)))) (fun w hw => Ob.row_at hw)) | exact (Ent.gnO (.there (.there (.there (.there (.there .here))))) (fun w hw => Ob.sl_at hw)) | exact (Ent.gnO (.there (.there (.there (.there (.there .here))))) (fun w hw => Ob.row_at hw))) (by first | rfl | exact Bs_get (by omega) | assumption) ?_ | refine vcLoad1_2 (by first | exact Ent.refl | assumption | exact Ent.gnG (by assumption) | exact Ent.gnG (Ent.gnG (by assumption)) | exact (Ent.gnO .here (fun w hw => Ob.sl_at hw)) | exact (Ent.gnO .here (fun w hw => Ob.row_at hw)) | exact (Ent.gnO (.there .here) (fun w hw => Ob.sl_at hw)) | exact (Ent.gnO (.there .here) (fun w hw => Ob.row_at hw)) | exact (Ent.gnO (.there (.there .here)) (fun w hw => Ob.sl_at hw)) | exact (Ent.gnO (.there (.there .here)) (fun w hw => Ob.row_at hw)) | exact (Ent.gnO (.there (.there (.there .here))) (fun w hw => Ob.sl_at hw)) | exact (Ent.gnO (.there (.there (.there .here))) (fun w hw => Ob.row_at hw)) | exact (Ent.gnO (.there (.there (.there (.there .here)))) (fun w hw => Ob.sl_at hw)) | exact (Ent.gnO (.there (.there (.there (.there .here)))) (fun w hw => Ob.row_at hw)) | exact (Ent.gnO (.there (.there (.there (.there (.there .here))))) (fun w hw => Ob.sl_at hw)) | exact (Ent.gnO (.there (.there (.there (.there (.there .here))))) (fun w hw => Ob.row_at hw))) (by first | rfl | exact Bs_get (by omega) | assumption) ?_ | refine vcLoad1_3 (by first | exact Ent.refl | assumption | exact Ent.gnG (by assumption) | exact Ent.gnG (Ent.gnG (by assumption)) | exact (Ent.gnO .here (fun w hw => Ob.sl_at hw)) | exact (Ent.gnO .here (fun w hw => Ob.row_at hw)) | exact (Ent.gnO (.there .here) (fun w hw => Ob.sl_at hw)) | exact (Ent.gnO (.there .here) (fun w hw => Ob.row_at hw)) | exact (Ent.gnO (.there (.there .here)) (fun w hw => Ob.sl_at hw)) | exact (Ent.gnO (.there (.there .here)) (fun w hw => Ob.row_at hw)) | exact (Ent.gnO (.there (.there (.there .here))) (fun w hw => Ob.sl_at hw)) | exact (Ent.gnO (.there (.there (.there .here))) (fun w hw => Ob.row_at hw)) | exact (Ent.gnO (.there (.there (.there (.there .here)))) (fun w hw => Ob.sl_at hw)) | exact (Ent.gnO (.there (.there (.there (.there .here)))) (fun w hw => Ob.row_at hw)) | exact (Ent.gnO (.there (.there (.there (.there (.there .here))))) (fun w hw => Ob.sl_at hw)) | exact (Ent.gnO (.there (.there (.there (.there (.there .here))))) (fun w hw => Ob.row_at hw))) (by first | rfl | exact Bs_get (by omega) | assumption) ?_ | refine vcLoad1_0 (by first | exact Ent.refl | assumption | exact Ent.gnG (by assumption) | exact Ent.gnG (Ent.gnG (by assumption)) | exact (Ent.gnO .here (fun w hw => Ob.sl_at hw)) | exact (Ent.gnO .here (fun w hw => Ob.row_at hw)) | exact (Ent.gnO (.there .here) (fun w hw => Ob.sl_at hw)) | exact (Ent.gnO (.there .here) (fun w hw => Ob.row_at hw)) | exact (Ent.gnO (.there (.there .here)) (fun w hw => Ob.sl_at hw)) | exact (Ent.gnO (.there (.there .here)) (fun w hw => Ob.row_at hw)) | exact (Ent.gnO (.there (.there (.there .here))) (fun w hw => Ob.sl_at hw)) | exact (Ent.gnO (.there (.there (.there .here))) (fun w hw => Ob.row_at hw)) | exact (Ent.gnO (.there (.there (.there (.there .here)))) (fun w hw => Ob.sl_at hw)) | exact (Ent.gnO (.there (.there (.there (.there .here)))) (fun w hw => Ob.row_at hw)) | exact (Ent.gnO (.there (.there (.there (.there (.there .here))))) (fun w hw => Ob.sl_at hw)) | exact (Ent.gnO (.there (.there (.there (.there (.there .here))))) (fun w hw => Ob.row_at hw))) (by first | rfl | exact Bs_get (by omega) | assumption) ?_) | (first | refine vcStore1_1 _ _ .here rfl (by first | omega | (simp only [Bs_length]; omega) | (simp; done) | (simp; omega)) rfl ?_ | refine vcStore1_2 _ _ .here rfl (by first | omega | (simp only [Bs_length]; omega) | (simp; done) | (simp; omega)) rfl ?_ | refine vcStore1_0 _ _ .here rfl (by first | omega | (simp only [Bs_length]; omega) | (simp; done) | (simp; omega)) rfl ?_ | refine vcStore1_1 _ _ (.there .here) rfl (by first | omega | (simp only [Bs_length]; omega) | (simp; done) | (simp; omega)) rfl ?_ | refine vcStore1_2 _ _ (.there .here) rfl (by first | omega | (simp only [Bs_length]; omega) | (simp; done) | (simp; omega)) rfl ?_ | refine vcStore1_0 _ _ (.there .here) rfl (by first | omega | (simp only [Bs_length]; omega) | (simp; done) | (simp; omega)) rfl ?_ | refine vcStore1_1 _ _ (.there (.there .here)) rfl (by first | omega | (simp only [Bs_length]; omega) | (simp; done) | (simp; omega)) rfl ?_ | refine vcStore1_2 _ _ (.there (.there .here)) rfl (by first | omega | (simp only [Bs_length]; omega) | (simp; done) | (simp; omega)) rfl ?_ | refine vcStore1_0 _ _ (.there (.there .here)) rfl (by first | omega | (simp only [Bs_length]; omega) | (simp; done) | (simp; omega)) rfl ?_ | refine vcStore1_1 _ _ (.there (.there (.there .here))) rfl (by first | omega | (simp only [Bs_length]; omega) | (simp; done) | (simp; omega)) rfl ?_ | refine vcStore1_2 _ _ (.there (.there (.there .here))) rfl (by first | omega | (simp only [Bs_length]; omega) | (simp; done) | (simp; omega)) rfl ?_ | refine vcStore1_0 _ _ (.there (.there (.there .here))) rfl (by first | omega | (simp only [Bs_length]; omega) | (simp; done) | (simp; omega)) rfl ?_ | refine vcStore1_1 _ _ (.there (.there (.there (.there .here)))) rfl (by first | omega | (simp only [Bs_length]; omega) | (simp; done) | (simp; omega)) rfl ?_ | refine vcStore1_2 _ _ (.there (.there (.there (.there .here)))) rfl (by first | omega | (simp only [Bs_length]; omega) | (simp; done) | (simp; omega)) rfl ?_ | refine vcStore1_0 _ _ (.there (.there (.there (.there .here)))) rfl (by first | omega | (simp only [Bs_length]; omega) | (simp; done) | (simp; omega)) rfl ?_ | refine vcStore1_1 _ _ (.there (.there (.there (.there (.there .here))))) rfl (by first | omega | (simp only [Bs_length]; omega) | (simp; done) | (simp; omega)) rfl ?_ | refine vcStore1_2 _ _ (.there (.there (.there (.there (.there .here))))) rfl (by first | omega | (simp only [Bs_length]; omega) | (simp; done) | (simp; omega)) rfl ?_ | refine vcStore1_0 _ _ (.there (.there (.there (.there (.there .here))))) rfl (by first | omega | (simp only [Bs_length]; omega) | (simp; done) | (simp; omega)) rfl ?_))
  intro b
  refine vcApp_of (Bs [byteI xs.length]) _ (Bs xs) .here rfl (by simp [Bs_length]) (by omega) (Bs_one xs) (Ent.gnG h1) (by omega) (by omega) (fun A' cap' hc => ?_)
  refine ⟨_, [], MT, .cons .here .nil, fun _ _ _ => trivial, A', cap', ?_, ?_, rfl, ?_⟩
  · show Value.slice A' (1 + xs.length) cap' = _; rw [Nat.add_comm]; rfl
  · rw [← Bs_append, byteI_nat]; rfl
  · simp [txt]; omega
theorem text_spec (A : Option Addr) (c : Nat) (xs : List UInt8) (G : Mp) (h1 : Ent G (RowAt A (Bs xs))) (hx : xs.length ≤ 70368744177664) : Spec Try.prog 41 #[.slice A xs.length c] [] G (OwnB (txt xs)) := by
  refine Spec.intro (args := [_]) wide Try.func41 rfl Try.call41 (by rfl) (by rfl) (fun w0 hw0 => ?_)
  repeat' (first | (first | refine vcFit_i64 (by omega) ?_ | refine vcFit_byte ?_ | refine vcFit_u64_in (by omega) ?_ | refine vcRem_pos (by omega) ?_ | refine vcQuo_i64 (by omega) ?_ | refine vcShr_nat (n := _) (by decide) ?_) | (first | refine vcIf_yes (by omega) ?_ | refine vcIf_no (by omega) ?_ | refine vcIf_nyes (by omega) ?_ | refine vcIf_nno (by omega) ?_ | refine vcIf_dec (fun _ => ?_) (fun _ => ?_) | refine vcIf_ndec (fun _ => ?_) (fun _ => ?_)) | (first | refine vcIdx_some _ (by first | exact rfl | exact (Int.natCast_add _ 1).symm | exact (Int.toNat_of_nonneg (by omega)).symm) (by omega) ?_ | (refine vcIdx_nat _ (by first | exact rfl | exact (Int.natCast_add _ 1).symm | exact (Int.toNat_of_nonneg (by omega)).symm) (by first | exact Ent.refl | assumption | exact Ent.gnG (by assumption) | exact Ent.gnG (Ent.gnG (by assumption)) | exact (Ent.gnO .here (fun w hw => Ob.sl_at hw)) | exact (Ent.gnO .here (fun w hw => Ob.row_at hw)) | exact (Ent.gnO (.there .here) (fun w hw => Ob.sl_at hw)) | exact (Ent.gnO (.there .here) (fun w hw => Ob.row_at hw)) | exact (Ent.gnO (.there (.there .here)) (fun w hw => Ob.sl_at hw)) | exact (Ent.gnO (.there (.there .here)) (fun w hw => Ob.row_at hw)) | exact (Ent.gnO (.there (.there (.there .here))) (fun w hw => Ob.sl_at hw)) | exact (Ent.gnO (.there (.there (.there .here))) (fun w hw => Ob.row_at hw)) | exact (Ent.gnO (.there (.there (.there (.there .here)))) (fun w hw => Ob.sl_at hw)) | exact (Ent.gnO (.there (.there (.there (.there .here)))) (fun w hw => Ob.row_at hw)) | exact (Ent.gnO (.there (.there (.there (.there (.there .here))))) (fun w hw => Ob.sl_at hw)) | exact (Ent.gnO (.there (.there (.there (.there (.there .here))))) (fun w hw => Ob.row_at hw))) (by omega) (by first | omega | (simp only [Bs_length]; omega) | (simp; done) | (simp; omega)) (fun a ha => ?_); cases ha)) | (first | refine vcLoad1_row (by first | exact Ent.refl | assumption | exact Ent.gnG (by assumption) | exact Ent.gnG (Ent.gnG (by assumption)) | exact (Ent.gnO .here (fun w hw => Ob.sl_at hw)) | exact (Ent.gnO .here (fun w hw => Ob.row_at hw)) | exact (Ent.gnO (.there .here) (fun w hw => Ob.sl_at hw)) | exact (Ent.gnO (.there .here) (fun w hw => Ob.row_at hw)) | exact (Ent.gnO (.there (.there .here)) (fun w hw => Ob.sl_at hw)) | exact (Ent.gnO (.there (.there .here)) (fun w hw => Ob.row_at hw)) | exact (Ent.gnO (.there (.there (.there .here))) (fun w hw => Ob.sl_at hw)) | exact (Ent.gnO (.there (.there (.there .here))) (fun w hw => Ob.row_at hw)) | exact (Ent.gnO (.there (.there (.there (.there .here)))) (fun w hw => Ob.sl_at hw)) | exact (Ent.gnO (.there (.there (.there (.there .here)))) (fun w hw => Ob.row_at hw)) | exact (Ent.gnO (.there (.there (.there (.there (.there .here))))) (fun w hw => Ob.sl_at hw)) | exact (Ent.gnO (.there (.there (.there (.there (.there .here))))) (fun w hw => Ob.row_at hw))) (by first | rfl | exact Bs_get (by omega) | assumption) ?_ | refine vcLoad1_2 (by first | exact Ent.refl | assumption | exact Ent.gnG (by assumption) | exact Ent.gnG (Ent.gnG (by assumption)) | exact (Ent.gnO .here (fun w hw => Ob.sl_at hw)) | exact (Ent.gnO .here (fun w hw => Ob.row_at hw)) | exact (Ent.gnO (.there .here) (fun w hw => Ob.sl_at hw)) | exact (Ent.gnO (.there .here) (fun w hw => Ob.row_at hw)) | exact (Ent.gnO (.there (.there .here)) (fun w hw => Ob.sl_at hw)) | exact (Ent.gnO (.there (.there .here)) (fun w hw => Ob.row_at hw)) | exact (Ent.gnO (.there (.there (.there .here))) (fun w hw => Ob.sl_at hw)) | exact (Ent.gnO (.there (.there (.there .here))) (fun w hw => Ob.row_at hw)) | exact (Ent.gnO (.there (.there (.there (.there .here)))) (fun w hw => Ob.sl_at hw)) | exact (Ent.gnO (.there (.there (.there (.there .here)))) (fun w hw => Ob.row_at hw)) | exact (Ent.gnO (.there (.there (.there (.there (.there .here))))) (fun w hw => Ob.sl_at hw)) | exact (Ent.gnO (.there (.there (.there (.there (.there .here))))) (fun w hw => Ob.row_at hw))) (by first | rfl | exact Bs_get (by omega) | assumption) ?_ | refine vcLoad1_3 (by first | exact Ent.refl | assumption | exact Ent.gnG (by assumption) | exact Ent.gnG (Ent.gnG (by assumption)) | exact (Ent.gnO .here (fun w hw => Ob.sl_at hw)) | exact (Ent.gnO .here (fun w hw => Ob.row_at hw)) | exact (Ent.gnO (.there .here) (fun w hw => Ob.sl_at hw)) | exact (Ent.gnO (.there .here) (fun w hw => Ob.row_at hw)) | exact (Ent.gnO (.there (.there .here)) (fun w hw => Ob.sl_at hw)) | exact (Ent.gnO (.there (.there .here)) (fun w hw => Ob.row_at hw)) | exact (Ent.gnO (.there (.there (.there .here))) (fun w hw => Ob.sl_at hw)) | exact (Ent.gnO (.there (.there (.there .here))) (fun w hw => Ob.row_at hw)) | exact (Ent.gnO (.there (.there (.there (.there .here)))) (fun w hw => Ob.sl_at hw)) | exact (Ent.gnO (.there (.there (.there (.there .here)))) (fun w hw => Ob.row_at hw)) | exact (Ent.gnO (.there (.there (.there (.there (.there .here))))) (fun w hw => Ob.sl_at hw)) | exact (Ent.gnO (.there (.there (.there (.there (.there .here))))) (fun w hw => Ob.row_at hw))) (by first | rfl | exact Bs_get (by omega) | assumption) ?_ | refine vcLoad1_0 (by first | exact Ent.refl | assumption | exact Ent.gnG (by assumption) | exact Ent.gnG (Ent.gnG (by assumption)) | exact (Ent.gnO .here (fun w hw => Ob.sl_at hw)) | exact (Ent.gnO .here (fun w hw => Ob.row_at hw)) | exact (Ent.gnO (.there .here) (fun w hw => Ob.sl_at hw)) | exact (Ent.gnO (.there .here) (fun w hw => Ob.row_at hw)) | exact (Ent.gnO (.there (.there .here)) (fun w hw => Ob.sl_at hw)) | exact (Ent.gnO (.there (.there .here)) (fun w hw => Ob.row_at hw)) | exact (Ent.gnO (.there (.there (.there .here))) (fun w hw => Ob.sl_at hw)) | exact (Ent.gnO (.there (.there (.there .here))) (fun w hw => Ob.row_at hw)) | exact (Ent.gnO (.there (.there (.there (.there .here)))) (fun w hw => Ob.sl_at hw)) | exact (Ent.gnO (.there (.there (.there (.there .here)))) (fun w hw => Ob.row_at hw)) | exact (Ent.gnO (.there (.there (.there (.there (.there .here))))) (fun w hw => Ob.sl_at hw)) | exact (Ent.gnO (.there (.there (.there (.there (.there .here))))) (fun w hw => Ob.row_at hw))) (by first | rfl | exact Bs_get (by omega) | assumption) ?_) | (first | refine vcStore1_1 _ _ .here rfl (by first | omega | (simp only [Bs_length]; omega) | (simp; done) | (simp; omega)) rfl ?_ | refine vcStore1_2 _ _ .here rfl (by first | omega | (simp only [Bs_length]; omega) | (simp; done) | (simp; omega)) rfl ?_ | refine vcStore1_0 _ _ .here rfl (by first | omega | (simp only [Bs_length]; omega) | (simp; done) | (simp; omega)) rfl ?_ | refine vcStore1_1 _ _ (.there .here) rfl (by first | omega | (simp only [Bs_length]; omega) | (simp; done) | (simp; omega)) rfl ?_ | refine vcStore1_2 _ _ (.there .here) rfl (by first | omega | (simp only [Bs_length]; omega) | (simp; done) | (simp; omega)) rfl ?_ | refine vcStore1_0 _ _ (.there .here) rfl (by first | omega | (simp only [Bs_length]; omega) | (simp; done) | (simp; omega)) rfl ?_ | refine vcStore1_1 _ _ (.there (.there .here)) rfl (by first | omega | (simp only [Bs_length]; omega) | (simp; done) | (simp; omega)) rfl ?_ | refine vcStore1_2 _ _ (.there (.there .here)) rfl (by first | omega | (simp only [Bs_length]; omega) | (simp; done) | (simp; omega)) rfl ?_ | refine vcStore1_0 _ _ (.there (.there .here)) rfl (by first | omega | (simp only [Bs_length]; omega) | (simp; done) | (simp; omega)) rfl ?_ | refine vcStore1_1 _ _ (.there (.there (.there .here))) rfl (by first | omega | (simp only [Bs_length]; omega) | (simp; done) | (simp; omega)) rfl ?_ | refine vcStore1_2 _ _ (.there (.there (.there .here))) rfl (by first | omega | (simp only [Bs_length]; omega) | (simp; done) | (simp; omega)) rfl ?_ | refine vcStore1_0 _ _ (.there (.there (.there .here))) rfl (by first | omega | (simp only [Bs_length]; omega) | (simp; done) | (simp; omega)) rfl ?_ | refine vcStore1_1 _ _ (.there (.there (.there (.there .here)))) rfl (by first | omega | (simp only [Bs_length]; omega) | (simp; done) | (simp; omega)) rfl ?_ | refine vcStore1_2 _ _ (.there (.there (.there (.there .here)))) rfl (by first | omega | (simp only [Bs_length]; omega) | (simp; done) | (simp; omega)) rfl ?_ | refine vcStore1_0 _ _ (.there (.there (.there (.there .here)))) rfl (by first | omega | (simp only [Bs_length]; omega) | (simp; done) | (simp; omega)) rfl ?_ | refine vcStore1_1 _ _ (.there (.there (.there (.there (.there .here))))) rfl (by first | omega | (simp only [Bs_length]; omega) | (simp; done) | (simp; omega)) rfl ?_ | refine vcStore1_2 _ _ (.there (.there (.there (.there (.there .here))))) rfl (by first | omega | (simp only [Bs_length]; omega) | (simp; done) | (simp; omega)) rfl ?_ | refine vcStore1_0 _ _ (.there (.there (.there (.there (.there .here))))) rfl (by first | omega | (simp only [Bs_length]; omega) | (simp; done) | (simp; omega)) rfl ?_))
  intro b1 b2
  have e : pieces [(some ⟨b1, 0, none⟩, 1, [byteI xs.length]), (A, c, xs)] = txt xs := by simp [pieces, txt, byteI_nat]
  refine vcCall_of .nil (join_spec (some ⟨b2, 0, none⟩) 2 [(some ⟨b1, 0, none⟩, 1, [byteI xs.length]), (A, c, xs)] _ (Ent.gnO .here (fun w hw => Ob.sl_at hw)) (fun p hp => ?_) (by rw [e]; simp [txt]; omega) (by simp)) (fun v own' N' hv => ?_)
  · simp only [List.mem_cons, List.not_mem_nil, or_false] at hp
    rcases hp with rfl | rfl
    · exact (Ent.gnO (.there .here) (fun w hw => Ob.sl_at hw))
    · exact Ent.gnG h1
  · rw [e] at hv
    obtain ⟨A', c', rfl, rfl, rfl, hc⟩ := hv
    exact ⟨_, _, MT, .cons .here .nil, fun _ _ _ => trivial, _, _, rfl, rfl, rfl, hc⟩
end Go.Proofs.Yticllmnblcjjcaa
end

section
/- Powers modulo 2^61 - 1. -/
namespace Go.Proofs.Yticllmnblcjjcaa
open Go.Proofs
set_option maxRecDepth 10000

theorem prm_eq : prm = 2305843009213693951 := rfl
theorem mul_parts (x0 x1 y0 y1 : Nat) : (x1 * 4294967296 + x0) * (y1 * 4294967296 + y0) = (x1 * y1) * 18446744073709551616 + (x1 * y0 + x0 * y1) * 4294967296 + x0 * y0 := by
  rw [Nat.add_mul, Nat.mul_add, Nat.mul_add, Nat.add_mul]
  have h1 : x1 * 4294967296 * (y1 * 4294967296) = x1 * y1 * 18446744073709551616 := by rw [Nat.mul_mul_mul_comm]
  have h2 : x1 * 4294967296 * y0 = x1 * y0 * 4294967296 := by rw [Nat.mul_right_comm]
  have h3 : x0 * (y1 * 4294967296) = x0 * y1 * 4294967296 := by rw [Nat.mul_assoc]
  omega
theorem prod_le {a b : Nat} (ha : a < 4294967296) (hb : b < 4294967296) : a * b ≤ 18446744065119617025 := by
  have := Nat.mul_le_mul (show a ≤ 4294967295 by omega) (show b ≤ 4294967295 by omega)
  omega
theorem and32 (n : Nat) (h : n < 18446744073709551616) : bitI .and .u64 (n : Int) 4294967295 = ((n % 4294967296 : Nat) : Int) := by
  rw [show (4294967295 : Int) = ((4294967295 : Nat) : Int) from rfl, bitI_and (by rw [max_u64]; omega) (by rw [max_u64]; omega)]
  rw [show n &&& 4294967295 = n % 4294967296 from Nat.and_two_pow_sub_one_eq_mod n 32]

theorem mul64_spec (x y : Nat) (hx : x < 18446744073709551616) (hy : y < 18446744073709551616) (G : Mp) :
    Spec Try.prog 90 #[.int .u64 x, .int .u64 y] [] G (Ret (.tuple #[.int .u64 (x * y / 18446744073709551616 : Nat), .int .u64 (x * y % 18446744073709551616 : Nat)])) := by
  refine Spec.intro (args := [_, _]) wide Try.func90 rfl Try.call90 (by rfl) (by rfl) (fun w0 hw0 => ?_)
  have hp := mul_parts (x % 4294967296) (x / 4294967296) (y % 4294967296) (y / 4294967296)
  rw [show x / 4294967296 * 4294967296 + x % 4294967296 = x from by omega, show y / 4294967296 * 4294967296 + y % 4294967296 = y from by omega] at hp
  have b1 := prod_le (show x % 4294967296 < 4294967296 by omega) (show y % 4294967296 < 4294967296 by omega)
  have b2 := prod_le (show x / 4294967296 < 4294967296 by omega) (show y % 4294967296 < 4294967296 by omega)
  have b3 := prod_le (show x % 4294967296 < 4294967296 by omega) (show y / 4294967296 < 4294967296 by omega)
  have b4 := prod_le (show x / 4294967296 < 4294967296 by omega) (show y / 4294967296 < 4294967296 by omega)
  have i1 : ((x % 4294967296 : Nat) : Int) * ((y % 4294967296 : Nat) : Int) = ((x % 4294967296 * (y % 4294967296) : Nat) : Int) := by simp
  have i2 : ((x / 4294967296 : Nat) : Int) * ((y % 4294967296 : Nat) : Int) = ((x / 4294967296 * (y % 4294967296) : Nat) : Int) := by simp
  have i3 : ((x % 4294967296 : Nat) : Int) * ((y / 4294967296 : Nat) : Int) = ((x % 4294967296 * (y / 4294967296) : Nat) : Int) := by simp
  have i4 : ((x / 4294967296 : Nat) : Int) * ((y / 4294967296 : Nat) : Int) = ((x / 4294967296 * (y / 4294967296) : Nat) : Int) := by simp
  refine vcBit_as _ (and32 x hx) ?_
  refine vcShr_nat (n := 32) (by decide) ?_
  rw [show (x : Int) / 2 ^ 32 = ((x / 4294967296 : Nat) : Int) from by simp]
  refine vcBit_as _ (and32 y hy) ?_
  refine vcShr_nat (n := 32) (by decide) ?_
  rw [show (y : Int) / 2 ^ 32 = ((y / 4294967296 : Nat) : Int) from by simp]
  rw [← mul64]
  generalize x % 4294967296 = x0 at *
  generalize x / 4294967296 = x1 at *
  generalize y % 4294967296 = y0 at *
  generalize y / 4294967296 = y1 at *
  refine vcFit_u64_in (by omega) ?_
  rw [i1]
  generalize x0 * y0 = a at *
  refine vcFit_u64_in (by omega) ?_
  rw [i2]
  generalize x1 * y0 = b at *
  refine vcShr_nat (n := 32) (by decide) ?_
  rw [show (a : Int) / 2 ^ 32 = ((a / 4294967296 : Nat) : Int) from by simp]
  refine vcFit_u64_in (by omega) ?_
  rw [show (b : Int) + ((a / 4294967296 : Nat) : Int) = ((b + a / 4294967296 : Nat) : Int) from by omega]
  refine vcBit_as _ (and32 (b + a / 4294967296) (by omega)) ?_
  refine vcShr_nat (n := 32) (by decide) ?_
  rw [show ((b + a / 4294967296 : Nat) : Int) / 2 ^ 32 = (((b + a / 4294967296) / 4294967296 : Nat) : Int) from by simp]
  refine vcFit_u64_in (by omega) ?_
  rw [i3]
  generalize x0 * y1 = c at *
  refine vcFit_u64_in (by omega) ?_
  rw [show (((b + a / 4294967296) % 4294967296 : Nat) : Int) + (c : Int) = (((b + a / 4294967296) % 4294967296 + c : Nat) : Int) from by omega]
  refine vcFit_u64_in (by omega) ?_
  rw [i4]
  generalize x1 * y1 = d at *
  refine vcFit_u64_in (by omega) ?_
  refine vcShr_nat (n := 32) (by decide) ?_
  rw [show (((b + a / 4294967296) % 4294967296 + c : Nat) : Int) / 2 ^ 32 = ((((b + a / 4294967296) % 4294967296 + c) / 4294967296 : Nat) : Int) from by simp]
  refine vcFit_u64_in (by omega) ?_
  refine vcFit_u64 ?_
  refine ⟨[], _, MT, .nil, fun _ _ _ => trivial, ?_, rfl, rfl⟩
  have e : (d : Int) + (((b + a / 4294967296) / 4294967296 : Nat) : Int) + ((((b + a / 4294967296) % 4294967296 + c) / 4294967296 : Nat) : Int) = ((x * y / 18446744073709551616 : Nat) : Int) := by omega
  show Value.tuple #[.int .u64 ((d : Int) + (((b + a / 4294967296) / 4294967296 : Nat) : Int) + ((((b + a / 4294967296) % 4294967296 + c) / 4294967296 : Nat) : Int)), .int .u64 _] = _
  rw [e]

theorem mod_mersenne (t : Nat) (h : t ≤ 2305843009213693950 * 2305843009213693950) : (if t % 2305843009213693952 + t / 2305843009213693952 < 2305843009213693951 then t % 2305843009213693952 + t / 2305843009213693952 else t % 2305843009213693952 + t / 2305843009213693952 - 2305843009213693951) = t % 2305843009213693951 := by
  split <;> omega

theorem times_spec (x y : Nat) (hx : x < prm) (hy : y < prm) (G : Mp) : Spec Try.prog 86 #[.int .u64 x, .int .u64 y] [] G (Ret (.int .u64 (x * y % prm : Nat))) := by
  refine Spec.intro (args := [_, _]) wide Try.func86 rfl Try.call86 (by rfl) (by rfl) (fun w0 hw0 => ?_)
  rw [prm_eq] at hx hy
  have hle : x * y ≤ 2305843009213693950 * 2305843009213693950 := Nat.mul_le_mul (by omega) (by omega)
  have hm := mod_mersenne (x * y) hle
  refine vcCall_of .nil (mul64_spec x y (by omega) (by omega) _) (fun v own' N' hv => ?_); obtain ⟨rfl, rfl, rfl⟩ := hv
  generalize x * y = t at hle hm ⊢
  rw [prm_eq, ← hm]
  have hand : bitI .and .u64 ((t % 18446744073709551616 : Nat) : Int) 2305843009213693951 = ((t % 2305843009213693952 : Nat) : Int) := by
    rw [show (2305843009213693951 : Int) = ((2305843009213693951 : Nat) : Int) from rfl, bitI_and (by rw [max_u64]; omega) (by rw [max_u64]; omega)]
    rw [show t % 18446744073709551616 &&& 2305843009213693951 = t % 18446744073709551616 % 2305843009213693952 from Nat.and_two_pow_sub_one_eq_mod _ 61]
    congr 1; omega
  refine vcBit_as _ hand ?_
  refine vcShr_nat (n := 61) (by decide) ?_
  refine vcShl_nat (kd := .u64) (n := 3) (by decide) ?_
  refine vcFit_u64_in (by omega) ?_
  have hor : bitI .or .u64 (((t % 18446744073709551616 : Nat) : Int) / 2 ^ 61) (((t / 18446744073709551616 : Nat) : Int) * 2 ^ 3) = ((t / 2305843009213693952 : Nat) : Int) := by
    rw [show ((t % 18446744073709551616 : Nat) : Int) / 2 ^ 61 = ((t % 18446744073709551616 / 2305843009213693952 : Nat) : Int) from by omega, show ((t / 18446744073709551616 : Nat) : Int) * 2 ^ 3 = ((t / 18446744073709551616 * 8 : Nat) : Int) from by omega,
      bitI_or (by rw [max_u64]; omega) (by rw [max_u64]; omega), Nat.or_comm, or_low _ _ 3 (by omega)]
    congr 1; omega
  refine vcBit_as _ hor ?_
  refine vcFit_u64_in (by omega) ?_
  refine vcIf_dec (fun h1 => ?_) (fun h1 => ?_)
  · refine vcFit_u64_in (by omega) ?_
    refine ⟨[], _, MT, .nil, fun _ _ _ => trivial, ?_, rfl, rfl⟩
    refine congrArg (Value.int .u64) ?_
    rw [if_neg (by omega)]; omega
  · refine ⟨[], _, MT, .nil, fun _ _ _ => trivial, ?_, rfl, rfl⟩
    refine congrArg (Value.int .u64) ?_
    rw [if_pos (by omega)]; omega

theorem rtimes_spec (x y : Nat) (hx : x < prm) (hy : y < prm) (G : Mp) : Spec Try.prog 83 #[.int .i64 x, .int .i64 y] [] G (Ret (.int .i64 (x * y % prm : Nat))) := by
  refine Spec.intro (args := [_, _]) wide Try.func83 rfl Try.call83 (by rfl) (by rfl) (fun w0 hw0 => ?_)
  rw [prm_eq] at hx hy ⊢
  refine vcLoop_of (fun g : Nat × Nat × Nat => g.2.2) (fun g => [(5, .int .i64 g.1), (0, .int .i64 g.2.1), (1, .int .i64 g.2.2)]) (fun _ => []) (fun _ => MT)
    (fun g => g.1 < 2305843009213693951 ∧ g.2.1 < 2305843009213693951 ∧ g.2.2 < 2305843009213693951 ∧ (g.1 + g.2.1 * g.2.2) % 2305843009213693951 = x * y % 2305843009213693951) (0, x, y) ⟨by simp, hx, hy, by simp⟩ ⟨rfl, rfl, rfl, trivial⟩ ⟨_, .nil⟩ (fun _ _ => trivial) ?_
  rintro ⟨o, u, v⟩ ⟨ho, hu, hv, he⟩
  simp only at ho hu hv he
  refine vcIf_dec (fun h1 => ?_) (fun h1 => ?_)
  · simp only at h1
    refine vcRem_pos (by simp only; omega) ?_
    have hstep : ∀ o' : Nat, o' % 2305843009213693951 = (o + u * (v % 2)) % 2305843009213693951 → (o' + (u + u) % 2305843009213693951 * (v / 2)) % 2305843009213693951 = x * y % 2305843009213693951 := by
      intro o' h
      rw [← he, Nat.add_mod, h, ← Nat.add_mod, Nat.add_mod (o + u * (v % 2)), Nat.mod_mul_mod, ← Nat.add_mod]
      have e : u * v = u * (v % 2) + (u + u) * (v / 2) := by
        rw [Nat.add_mul, ← Nat.mul_add, ← Nat.mul_add]
        congr 1; omega
      rw [e, Nat.add_assoc]
    refine vcIf_dec (fun h2 => ?_) (fun h2 => ?_)
    · simp only at h2
      refine vcFit_i64 (by simp only; omega) ?_
      refine vcRem_pos (by simp only; omega) ?_
      refine vcFit_i64 (by simp only; omega) ?_
      refine vcRem_pos (by simp only; omega) ?_
      refine vcQuo_i64 (by simp only; omega) ?_
      exact ⟨((o + u) % 2305843009213693951, (u + u) % 2305843009213693951, v / 2), ⟨by simp only; omega, by simp only; omega, by simp only; omega, hstep _ (by rw [show v % 2 = 1 from by omega, Nat.mul_one, Nat.mod_mod])⟩, by simp only; omega, ⟨rfl, rfl, rfl, trivial⟩, ⟨_, .nil⟩, fun _ _ => trivial⟩
    · simp only at h2
      refine vcFit_i64 (by simp only; omega) ?_
      refine vcRem_pos (by simp only; omega) ?_
      refine vcQuo_i64 (by simp only; omega) ?_
      exact ⟨(o, (u + u) % 2305843009213693951, v / 2), ⟨by simp only; omega, by simp only; omega, by simp only; omega, hstep _ (by rw [show v % 2 = 0 from by omega, Nat.mul_zero, Nat.add_zero])⟩, by simp only; omega, ⟨rfl, rfl, rfl, trivial⟩, ⟨_, .nil⟩, fun _ _ => trivial⟩
  · simp only at h1
    have hv0 : v = 0 := by omega
    subst hv0
    rw [Nat.mul_zero, Nat.add_zero, Nat.mod_eq_of_lt ho] at he
    rw [← he]
    exact ⟨[], _, MT, .nil, fun _ _ _ => trivial, rfl, rfl, rfl⟩

theorem powN_no {b e : Int} (h : b < 0 ∨ (prm : Int) ≤ b ∨ e < 0) : powN b e = 0 := if_pos h
theorem powN_ok {b e : Nat} (h : b < prm) : powN b e = b ^ e % prm := by unfold powN; rw [if_neg (by omega)]; simp
theorem powN_lt (b e : Int) : powN b e < prm := by
  unfold powN
  split
  · decide
  · exact Nat.mod_lt _ (by decide)

theorem power_spec (b e : Int) (hb : b ≤ 9223372036854775807) (he : e ≤ 9223372036854775807) (G : Mp) : Spec Try.prog 82 #[.int .i64 b, .int .i64 e] [] G (Ret (.int .i64 (powN b e : Nat))) := by
  refine Spec.intro (args := [_, _]) wide Try.func82 rfl Try.call82 (by rfl) (by rfl) (fun w0 hw0 => ?_)
  refine vcIf_dec (fun h1 => ?_) (fun h1 => ?_)
  · rw [powN_no (.inl h1)]; exact ⟨[], _, MT, .nil, fun _ _ _ => trivial, rfl, rfl, rfl⟩
  refine vcIf_dec (fun h2 => ?_) (fun h2 => ?_)
  · rw [powN_no (.inr (.inl (by rw [prm_eq]; omega)))]; exact ⟨[], _, MT, .nil, fun _ _ _ => trivial, rfl, rfl, rfl⟩
  refine vcIf_dec (fun h3 => ?_) (fun h3 => ?_)
  · rw [powN_no (.inr (.inr h3))]; exact ⟨[], _, MT, .nil, fun _ _ _ => trivial, rfl, rfl, rfl⟩
  obtain ⟨b, rfl⟩ := Int.eq_ofNat_of_zero_le (show 0 ≤ b by omega)
  obtain ⟨e, rfl⟩ := Int.eq_ofNat_of_zero_le (show 0 ≤ e by omega)
  have hbp : b < prm := by rw [prm_eq]; omega
  rw [powN_ok hbp]
  refine vcFit_u64_in (by omega) ?_
  refine vcLoop_of (fun g : Nat × Nat × Nat => g.2.2) (fun g => [(5, .int .u64 g.1), (6, .int .u64 g.2.1), (1, .int .i64 g.2.2)]) (fun _ => []) (fun _ => MT)
    (fun g => g.1 < prm ∧ g.2.1 < prm ∧ g.2.2 ≤ 9223372036854775807 ∧ (g.1 * g.2.1 ^ g.2.2) % prm = b ^ e % prm) (1, b, e) ⟨by simp [prm_eq], hbp, by simp only; omega, by simp⟩ ⟨rfl, rfl, rfl, trivial⟩ ⟨_, .nil⟩ (fun _ _ => trivial) ?_
  rintro ⟨o, x, n⟩ ⟨ho, hx, hn, hq⟩
  simp only at ho hx hn hq
  refine vcIf_dec (fun h1 => ?_) (fun h1 => ?_)
  · simp only at h1
    have hand : bitI .and .i64 ((o, x, n).2.2 : Int) 1 = ((n % 2 : Nat) : Int) := by
      rw [show (1 : Int) = ((1 : Nat) : Int) from rfl, bitI_and (by simp only [max_i64]; omega) (by rw [max_i64]; omega)]
      rw [show n &&& 1 = n % 2 from Nat.and_two_pow_sub_one_eq_mod n 1]
    refine vcBit_as _ hand ?_
    have hpow : (x * x % prm) ^ (n / 2) % prm = (x * x) ^ (n / 2) % prm := by rw [← Nat.pow_mod]
    have hxx : (x * x) ^ (n / 2) = x ^ (2 * (n / 2)) := by rw [← Nat.pow_two, ← Nat.pow_mul]
    have hm : x * x % prm < prm := Nat.mod_lt _ (by decide)
    refine vcIf_dec (fun h2 => ?_) (fun h2 => ?_)
    · refine vcCall_of .nil (times_spec o x ho hx _) (fun v own' N' hv => ?_); obtain ⟨rfl, rfl, rfl⟩ := hv
      refine vcCall_of .nil (times_spec x x hx hx _) (fun v own' N' hv => ?_); obtain ⟨rfl, rfl, rfl⟩ := hv
      refine vcShr_nat (n := 1) (by decide) ?_
      refine ⟨(o * x % prm, x * x % prm, n / 2), ⟨Nat.mod_lt _ (by decide), hm, by simp only; omega, ?_⟩, by simp only; omega, ⟨rfl, rfl, ?_, trivial⟩, ⟨_, .nil⟩, fun _ _ => trivial⟩
      · simp only
        rw [Nat.mod_mul_mod, Nat.mul_mod, hpow, ← Nat.mul_mod, hxx, Nat.mul_assoc, ← Nat.pow_succ', show (2 * (n / 2)).succ = n from by omega, hq]
      · refine congrArg (fun z => some (Value.int .i64 z)) ?_
        simp
    · refine vcCall_of .nil (times_spec x x hx hx _) (fun v own' N' hv => ?_); obtain ⟨rfl, rfl, rfl⟩ := hv
      refine vcShr_nat (n := 1) (by decide) ?_
      refine ⟨(o, x * x % prm, n / 2), ⟨ho, hm, by simp only; omega, ?_⟩, by simp only; omega, ⟨rfl, rfl, ?_, trivial⟩, ⟨_, .nil⟩, fun _ _ => trivial⟩
      · simp only
        rw [Nat.mul_mod, hpow, ← Nat.mul_mod, hxx, show 2 * (n / 2) = n from by omega, hq]
      · refine congrArg (fun z => some (Value.int .i64 z)) ?_
        simp
  · simp only at h1
    have hn0 : n = 0 := by omega
    subst hn0
    rw [Nat.pow_zero, Nat.mul_one, Nat.mod_eq_of_lt ho] at hq
    rw [prm_eq] at ho
    rw [← hq]
    refine vcFit_i64 (by simp only; omega) ?_
    exact ⟨[], _, MT, .nil, fun _ _ _ => trivial, rfl, rfl, rfl⟩

theorem rpower_nat (b : Nat) (hb : b < prm) : ∀ (n e : Nat), e ≤ n → e ≤ 9223372036854775807 → ∀ G : Mp, Spec Try.prog 70 #[.int .i64 b, .int .i64 e] [] G (Ret (.int .i64 (b ^ e % prm : Nat))) := by
  intro n
  induction n with
  | zero =>
    intro e he _ G
    have : e = 0 := by omega
    subst this
    have hb' := hb
    rw [prm_eq] at hb'
    refine Spec.intro (args := [_, _]) wide Try.func70 rfl Try.call70 (by rfl) (by rfl) (fun w0 hw0 => ?_)
    refine vcIf_no (by omega) ?_
    exact ⟨[], _, MT, .nil, fun _ _ _ => trivial, rfl, rfl, rfl⟩
  | succ n ih =>
    intro e he hmax G
    have hb' := hb
    rw [prm_eq] at hb'
    refine Spec.intro (args := [_, _]) wide Try.func70 rfl Try.call70 (by rfl) (by rfl) (fun w0 hw0 => ?_)
    refine vcIf_no (by omega) ?_
    refine vcIf_dec (fun h0 => ?_) (fun h0 => ?_)
    · have : e = 0 := by omega
      subst this
      exact ⟨[], _, MT, .nil, fun _ _ _ => trivial, rfl, rfl, rfl⟩
    refine vcQuo_i64 (by omega) ?_
    rw [show (e : Int) / 2 = ((e / 2 : Nat) : Int) from by omega]
    refine vcCall_of .nil (ih (e / 2) (by omega) (by omega) _) (fun v own' N' hv => ?_); obtain ⟨rfl, rfl, rfl⟩ := hv
    have hl : b ^ (e / 2) % prm < prm := Nat.mod_lt _ (by decide)
    refine vcCall_of .nil (rtimes_spec _ _ hl hl _) (fun v own' N' hv => ?_); obtain ⟨rfl, rfl, rfl⟩ := hv
    have hsq : b ^ (e / 2) % prm * (b ^ (e / 2) % prm) % prm = b ^ (2 * (e / 2)) % prm := by rw [← Nat.mul_mod, ← Nat.pow_add]; congr 2; omega
    rw [hsq]
    refine vcRem_pos (by omega) ?_
    refine vcIf_dec (fun h2 => ?_) (fun h2 => ?_)
    · have hl2 : b ^ (2 * (e / 2)) % prm < prm := Nat.mod_lt _ (by decide)
      refine vcCall_of .nil (rtimes_spec _ _ hl2 hb _) (fun v own' N' hv => ?_); obtain ⟨rfl, rfl, rfl⟩ := hv
      rw [Nat.mod_mul_mod, ← Nat.pow_succ, show (2 * (e / 2)).succ = e from by omega]
      exact ⟨[], _, MT, .nil, fun _ _ _ => trivial, rfl, rfl, rfl⟩
    · rw [show 2 * (e / 2) = e from by omega]
      exact ⟨[], _, MT, .nil, fun _ _ _ => trivial, rfl, rfl, rfl⟩

theorem rpower_spec (b e : Int) (hb : b ≤ 9223372036854775807) (he : e ≤ 9223372036854775807) (G : Mp) : Spec Try.prog 70 #[.int .i64 b, .int .i64 e] [] G (Ret (.int .i64 (powN b e : Nat))) := by
  by_cases h : b < 0 ∨ (prm : Int) ≤ b ∨ e < 0
  · rw [powN_no h]
    rw [prm_eq] at h
    refine Spec.intro (args := [_, _]) wide Try.func70 rfl Try.call70 (by rfl) (by rfl) (fun w0 hw0 => ?_)
    refine vcIf_dec (fun h1 => ?_) (fun h1 => ?_)
    · exact ⟨[], _, MT, .nil, fun _ _ _ => trivial, rfl, rfl, rfl⟩
    refine vcIf_dec (fun h2 => ?_) (fun h2 => ?_)
    · exact ⟨[], _, MT, .nil, fun _ _ _ => trivial, rfl, rfl, rfl⟩
    refine vcIf_yes (by omega) ?_
    exact ⟨[], _, MT, .nil, fun _ _ _ => trivial, rfl, rfl, rfl⟩
  · obtain ⟨b, rfl⟩ := Int.eq_ofNat_of_zero_le (show 0 ≤ b by omega)
    obtain ⟨e, rfl⟩ := Int.eq_ofNat_of_zero_le (show 0 ≤ e by omega)
    have hb : b < prm := by omega
    rw [powN_ok hb]
    exact rpower_nat b hb e e (Nat.le_refl _) (by omega) G
theorem public_spec (e : Int) (he : e ≤ 9223372036854775807) (G : Mp) : Spec Try.prog 66 #[.int .i64 e] [] G (Ret (.int .i64 (powN 37 e : Nat))) := by
  refine Spec.intro (args := [_]) wide Try.func66 rfl Try.call66 (by rfl) (by rfl) (fun w0 hw0 => ?_)
  refine vcCall_of .nil (power_spec 37 e (by omega) he _) (fun v own' N' hv => ?_); obtain ⟨rfl, rfl, rfl⟩ := hv
  exact ⟨[], _, MT, .nil, fun _ _ _ => trivial, rfl, rfl, rfl⟩
theorem agree_spec (e b : Int) (hb : b ≤ 9223372036854775807) (he : e ≤ 9223372036854775807) (G : Mp) : Spec Try.prog 77 #[.int .i64 e, .int .i64 b] [] G (Ret (.int .i64 (powN b e : Nat))) := by
  refine Spec.intro (args := [_, _]) wide Try.func77 rfl Try.call77 (by rfl) (by rfl) (fun w0 hw0 => ?_)
  refine vcCall_of .nil (power_spec b e hb he _) (fun v own' N' hv => ?_); obtain ⟨rfl, rfl, rfl⟩ := hv
  exact ⟨[], _, MT, .nil, fun _ _ _ => trivial, rfl, rfl, rfl⟩
end Go.Proofs.Yticllmnblcjjcaa
end

section
/- Picking objects, more. -/
namespace Go.Proofs.Yticllmnblcjjcaa
open Go.Proofs
theorem Take.mem {o : Ob} : ∀ {l : List Ob}, o ∈ l → ∃ l', Take o l l' ∧ l.Perm (o :: l')
  | x :: l, h => by
    rcases List.mem_cons.1 h with rfl | h
    · exact ⟨l, .here, .refl _⟩
    · obtain ⟨l', ht, hp⟩ := Take.mem h
      exact ⟨x :: l', .there ht, (hp.cons x).trans (List.Perm.swap o x l')⟩
theorem Pick.perm : ∀ {s l r : List Ob}, (s ++ r).Perm l → ∃ r', Pick s l r' ∧ r.Perm r'
  | [], l, r, h => ⟨l, .nil, h⟩
  | o :: s, l, r, h => by
    obtain ⟨l', ht, hp⟩ := Take.mem (h.subset (List.mem_cons_self ..))
    obtain ⟨r', hk, hr⟩ := Pick.perm (s := s) (l := l') (r := r) ((List.perm_cons o).1 (h.trans hp))
    exact ⟨r', .cons ht hk, hr⟩
theorem Pick.whole : ∀ {s : List Ob}, Pick s s []
  | [] => .nil
  | _ :: _ => .cons .here Pick.whole
theorem Pick.front : ∀ {s r : List Ob}, Pick s (s ++ r) r
  | [], _ => .nil
  | _ :: _, _ => .cons .here Pick.front
theorem Take.mid {o : Ob} : ∀ {a c : List Ob}, Take o (a ++ o :: c) (a ++ c)
  | [], _ => .here
  | _ :: _, _ => .there Take.mid
theorem Pick.under {o : Ob} : ∀ {s l r : List Ob}, Pick s l r → Pick s (o :: l) (o :: r)
  | [], _, _, .nil => .nil
  | _ :: _, _, _, .cons h k => .cons (.there h) k.under
theorem Ent.mem {G : Mp} {own : List Ob} {N R : Mp} {o : Ob} (h : o ∈ own) (k : ∀ w, o.is w → R w) : Ent (GN G own N) R := fun w hw => k w (hw.2 o h)
theorem Take.app {o : Ob} {l l' : List Ob} : ∀ {a : List Ob}, Take o l l' → Take o (a ++ l) (a ++ l')
  | [], h => h
  | _ :: _, h => .there (Take.app h)
theorem Take.last {o : Ob} {l : List Ob} : Take o (l ++ [o]) l := by
  have := Take.mid (o := o) (a := l) (c := [])
  rwa [List.append_nil] at this
theorem Take.eq {o o' : Ob} {l : List Ob} (h : o = o') : Take o (o' :: l) l := by subst h; exact .here
end Go.Proofs.Yticllmnblcjjcaa
end

section
/- slices.Clone. -/
namespace Go.Proofs.Yticllmnblcjjcaa
open Go.Proofs
set_option maxRecDepth 10000

/-- slices.Clone at []byte. -/
theorem clone_spec (A : Option Addr) (c : Nat) (xs : List UInt8) (G : Mp) (h1 : Ent G (RowAt A (Bs xs))) (hx : xs.length ≤ 211106232532992) :
    Spec Try.prog 27 #[.slice A xs.length c] [] G (Own1 xs.length 5 1 (Bs xs)) := by
  refine Spec.intro (args := [_]) wide Try.func27 rfl Try.call27 (by rfl) (by rfl) (fun w0 hw0 => ?_)
  refine vcIf_split (fun hnil => ?_) (fun _ => ?_)
  · have hA : A = none := by simpa using hnil
    subst hA
    have hxs : xs = [] := by
      cases xs with
      | nil => rfl
      | cons x r =>
        obtain ⟨a, ha, _⟩ := h1 w0 (hw0.pers w0 (Fr.refl _ _)) 0 (B x) (by simp [Bs])
        cases ha
    subst hxs
    exact ⟨_, [], MT, .cons .none_ .nil, fun _ _ _ => trivial, _, _, rfl, rfl, rfl, Nat.le_refl _⟩
  · intro b
    refine vcApp_big [] _ (Bs xs) .here rfl (by simp [Bs_length]) (by omega) (Bs_one xs) (Ent.gnG h1) (by omega) (fun A' cap' hc => ?_)
    refine ⟨_, [], MT, .cons .here .nil, fun _ _ _ => trivial, _, _, ?_, rfl, rfl, ?_⟩
    · rw [Nat.zero_add]; rfl
    · omega
end Go.Proofs.Yticllmnblcjjcaa
end

section
/- Layer 10: numbers in eight bytes, messages, lists of texts. -/
namespace Go.Proofs.Yticllmnblcjjcaa
open Go.Proofs
set_option maxRecDepth 10000

theorem be_get : ∀ {s n i : Nat} (hi : i < s), (be s n)[i]'(by rw [be_length]; exact hi) = UInt8.ofNat (n / 256 ^ (s - 1 - i) % 256)
  | s + 1, n, 0, _ => by simp only [be_cons]; rfl
  | s + 1, n, i + 1, hi => by
    simp only [be_cons, List.getElem_cons_succ]
    rw [be_get (by omega), show s + 1 - 1 - (i + 1) = s - 1 - i from by omega]
theorem fill_set {L : List UInt8} {i : Nat} (hi : i < L.length) : (Bs (L.take i ++ List.replicate (L.length - i) 0)).set i (B L[i]) = Bs (L.take (i + 1) ++ List.replicate (L.length - (i + 1)) 0) := by
  rw [take_snoc_get hi, show L.length - i = (L.length - (i + 1)) + 1 from by omega, List.replicate_succ]
  unfold Bs
  rw [← List.map_set, List.set_append_right _ _ (by rw [List.length_take]; omega), List.length_take, Nat.min_eq_left (by omega), Nat.sub_self, List.set_cons_zero, List.append_assoc]
  rfl
theorem eight_spec (n : Nat) (G : Mp) : Spec Try.prog 65 #[.int .i64 n] [] G (OwnB (be 8 n)) := by
  refine Spec.intro (args := [_]) wide Try.func65 rfl Try.call65 (by rfl) (by rfl) (fun w0 hw0 => ?_)
  refine vcMk_nat 8 rfl rfl (by decide) (by decide) (fun b => ?_)
  rw [Bs_zeros]
  refine vcLoop_of (fun k : Nat => 8 - k) (fun k => [(0, .int .i64 n), (3, .slice (some ⟨b, 0, none⟩) 8 8), (7, .int .i64 8), (8, .int .i64 k)])
    (fun k => [.sl (some ⟨b, 0, none⟩) 8 5 1 (Bs ((be 8 n).take k ++ List.replicate ((be 8 n).length - k) 0))]) (fun _ => MT) (fun k => k ≤ 8) 0 (Nat.zero_le _)
    ⟨rfl, rfl, rfl, rfl, trivial⟩ ⟨_, .cons (Take.eq (by rw [be_length]; rfl)) .nil⟩ (fun _ _ => trivial) ?_
  intro k hk
  have hl := be_length 8 n
  refine vcIf_dec (fun hlt => ?_) (fun hge => ?_)
  · have hk' : k < 8 := by omega
    refine vcFit_i64 (by omega) ?_
    refine vcFit_i64 (by omega) ?_
    refine vcShr_lit (56 - 8 * k) (by omega) (by show 56 - 8 * k ≤ 64; omega) ?_
    refine vcFit_byte ?_
    refine vcIdx_some k rfl (by omega) ?_
    refine vcStore1_1 _ _ .here rfl (by simp [Ob.cells, Bs_length]; omega) rfl ?_
    refine vcFit_i64 (by omega) ?_
    refine ⟨k + 1, by omega, by omega, ⟨rfl, rfl, rfl, rfl, trivial⟩, ⟨[], .cons (Take.eq ?_) .nil⟩, fun _ _ => trivial⟩
    rw [← fill_set (by omega), be_get hk', byteI_shr, show 256 ^ (8 - 1 - k) = 2 ^ (56 - 8 * k) from by rw [show (256 : Nat) = 2 ^ 8 from rfl, ← Nat.pow_mul]; congr 1; omega]
    rfl
  · obtain rfl : k = 8 := by omega
    refine ⟨_, [], MT, .cons .here .nil, fun _ _ _ => trivial, some ⟨b, 0, none⟩, 8, by rw [hl]; rfl, ?_, rfl, by rw [hl]; exact Nat.le_refl _⟩
    rw [hl, List.take_of_length_le (by omega)]
    simp
theorem reight_spec (n : Nat) (hn : n ≤ 9223372036854775807) (G : Mp) : Spec Try.prog 69 #[.int .i64 n] [] G (OwnB (be 8 n)) := by
  refine Spec.intro (args := [_]) wide Try.func69 rfl Try.call69 (by rfl) (by rfl) (fun w0 hw0 => ?_)
  refine vcMk_nat 8 rfl rfl (by decide) (by decide) (fun b => ?_)
  rw [Bs_zeros]
  refine vcLoop_of (fun k : Nat => 8 - k) (fun k => [(0, .int .i64 (n / 256 ^ k : Nat)), (3, .slice (some ⟨b, 0, none⟩) 8 8), (4, .int .i64 (7 - (k : Int)))])
    (fun k => [.sl (some ⟨b, 0, none⟩) 8 5 1 (Bs (List.replicate (8 - k) 0 ++ be k n))]) (fun _ => MT) (fun k => k ≤ 8) 0 (Nat.zero_le _)
    ⟨by simp [look, initFm], rfl, rfl, trivial⟩ ⟨_, .cons .here .nil⟩ (fun _ _ => trivial) ?_
  intro k hk
  have hl := be_length k n
  refine vcIf_dec (fun hlt => ?_) (fun hge => ?_)
  · have hk' : k < 8 := by omega
    have hq : n / 256 ^ k ≤ n := Nat.div_le_self _ _
    have hp : (0 : Int) ≤ ((n / 256 ^ k : Nat) : Int) := Int.natCast_nonneg _
    refine vcRem_pos ⟨hp, by decide⟩ ?_
    refine vcFit_byte ?_
    refine vcIdx_some (7 - k) (by omega) (by omega) ?_
    refine vcStore1_1 _ _ .here rfl (by simp [Ob.cells, Bs_length]; omega) rfl ?_
    refine vcQuo_i64 (by omega) ?_
    refine vcFit_i64 (by omega) ?_
    refine ⟨k + 1, by omega, by omega, ⟨?_, rfl, ?_, trivial⟩, ⟨[], .cons (Take.eq ?_) .nil⟩, fun _ _ => trivial⟩
    · refine congrArg (fun z => some (Value.int .i64 z)) ?_
      rw [Nat.pow_succ, ← Nat.div_div_eq_div_mul]; simp
    · refine congrArg (fun z => some (Value.int .i64 z)) ?_
      omega
    · rw [be_cons, show 8 - (k + 1) = 7 - k from by omega, ← set_rep, show 7 - k + 1 = 8 - k from by omega]
      have e : byteI (((n / 256 ^ k : Nat) : Int) % 256) = UInt8.ofNat (n / 256 ^ k % 256) := by
        rw [show ((n / 256 ^ k : Nat) : Int) % 256 = ((n / 256 ^ k % 256 : Nat) : Int) from by omega, byteI_nat, Nat.mod_mod]
      rw [← e]
      rfl
  · obtain rfl : k = 8 := by omega
    have hl := be_length 8 n
    exact ⟨_, [], MT, .cons .here .nil, fun _ _ _ => trivial, _, 8, by rw [hl]; rfl, rfl, rfl, by rw [hl]; exact Nat.le_refl _⟩

/-- Bytes with their length ahead, in two bytes. -/
def lng (b : List UInt8) : List UInt8 := [UInt8.ofNat (b.length / 256 % 256), UInt8.ofNat (b.length % 256)] ++ b
theorem lng_spec (A : Option Addr) (c : Nat) (xs : List UInt8) (G : Mp) (h1 : Ent G (RowAt A (Bs xs))) (hx : xs.length ≤ 70368744177664) : Spec Try.prog 35 #[.slice A xs.length c] [] G (OwnB (lng xs)) := by
  refine Spec.intro (args := [_]) wide Try.func35 rfl Try.call35 (by rfl) (by rfl) (fun w0 hw0 => ?_)
  repeat' (first | (first | refine vcFit_i64 (by omega) ?_ | refine vcFit_byte ?_ | refine vcFit_u64_in (by omega) ?_ | refine vcRem_pos (by omega) ?_ | refine vcQuo_i64 (by omega) ?_ | refine vcShr_nat (n := _) (by decide) ?_) | (first | refine vcIf_yes (by omega) ?_ | refine vcIf_no (by omega) ?_ | refine vcIf_nyes (by omega) ?_ | refine vcIf_nno (by omega) ?_ | refine vcIf_dec (fun _ => ?_) (fun _ => ?_) | refine vcIf_ndec (fun _ => ?_) (fun _ => ?_)) | (first | refine vcIdx_some _ (by first | exact rfl | exact (Int.natCast_add _ 1).symm | exact (Int.toNat_of_nonneg (by omega)).symm) (by omega) ?_ | (refine vcIdx_nat _ (by first | exact rfl | exact (Int.natCast_add _ 1).symm | exact (Int.toNat_of_nonneg (by omega)).symm) (by first | exact Ent.refl | assumption | exact Ent.gnG (by assumption) | exact Ent.gnG (Ent.gnG (by assumption)) | exact (Ent.gnO .here (fun w hw => Ob.sl_at hw)) | exact (Ent.gnO .here (fun w hw => Ob.row_at hw)) | exact (Ent.gnO (.there .here) (fun w hw => Ob.sl_at hw)) | exact (Ent.gnO (.there .here) (fun w hw => Ob.row_at hw)) | exact (Ent.gnO (.there (.there .here)) (fun w hw => Ob.sl_at hw)) | exact (Ent.gnO (.there (.there .here)) (fun w hw => Ob.row_at hw)) | exact (Ent.gnO (.there (.there (.there .here))) (fun w hw => Ob.sl_at hw)) | exact (Ent.gnO (.there (.there (.there .here))) (fun w hw => Ob.row_at hw)) | exact (Ent.gnO (.there (.there (.there (.there .here)))) (fun w hw => Ob.sl_at hw)) | exact (Ent.gnO (.there (.there (.there (.there .here)))) (fun w hw => Ob.row_at hw)) | exact (Ent.gnO (.there (.there (.there (.there (.there .here))))) (fun w hw => Ob.sl_at hw)) | exact (Ent.gnO (.there (.there (.there (.there (.there .here))))) (fun w hw => Ob.row_at hw))) (by omega) (by first | omega | (simp only [Bs_length]; omega) | (simp; done) | (simp; omega)) (fun a ha => ?_); cases ha)) | (first | refine vcLoad1_row (by first | exact Ent.refl | assumption | exact Ent.gnG (by assumption) | exact Ent.gnG (Ent.gnG (by assumption)) | exact (Ent.gnO .here (fun w hw => Ob.sl_at hw)) | exact (Ent.gnO .here (fun w hw => Ob.row_at hw)) | exact (Ent.gnO (.there .here) (fun w hw => Ob.sl_at hw)) | exact (Ent.gnO (.there .here) (fun w hw => Ob.row_at hw)) | exact (Ent.gnO (.there (.there .here)) (fun w hw => Ob.sl_at hw)) | exact (Ent.gnO (.there (.there .here)) (fun w hw => Ob.row_at hw)) | exact (Ent.gnO (.there (.there (.there .here))) (fun w hw => Ob.sl_at hw)) | exact (Ent.gnO (.there (.there (.there .here))) (fun w hw => Ob.row_at hw)) | exact (Ent.gnO (.there (.there (.there (.there .here)))) (fun w hw => Ob.sl_at hw)) | exact (Ent.gnO (.there (.there (.there (.there .here)))) (fun w hw => Ob.row_at hw)) | exact (Ent.gnO (.there (.there (.there (.there (.there .here))))) (fun w hw => Ob.sl_at hw)) | exact (Ent.gnO (.there (.there (.there (.there (.there .here))))) (fun w hw => Ob.row_at hw))) (by first | rfl | exact Bs_get (by omega) | assumption) ?_ | refine vcLoad1_2 (by first | exact Ent.refl | assumption | exact Ent.gnG (by assumption) | exact Ent.gnG (Ent.gnG (by assumption)) | exact (Ent.gnO .here (fun w hw => Ob.sl_at hw)) | exact (Ent.gnO .here (fun w hw => Ob.row_at hw)) | exact (Ent.gnO (.there .here) (fun w hw => Ob.sl_at hw)) | exact (Ent.gnO (.there .here) (fun w hw => Ob.row_at hw)) | exact (Ent.gnO (.there (.there .here)) (fun w hw => Ob.sl_at hw)) | exact (Ent.gnO (.there (.there .here)) (fun w hw => Ob.row_at hw)) | exact (Ent.gnO (.there (.there (.there .here))) (fun w hw => Ob.sl_at hw)) | exact (Ent.gnO (.there (.there (.there .here))) (fun w hw => Ob.row_at hw)) | exact (Ent.gnO (.there (.there (.there (.there .here)))) (fun w hw => Ob.sl_at hw)) | exact (Ent.gnO (.there (.there (.there (.there .here)))) (fun w hw => Ob.row_at hw)) | exact (Ent.gnO (.there (.there (.there (.there (.there .here))))) (fun w hw => Ob.sl_at hw)) | exact (Ent.gnO (.there (.there (.there (.there (.there .here))))) (fun w hw => Ob.row_at hw))) (by first | rfl | exact Bs_get (by omega) | assumption) ?_ | refine vcLoad1_3 (by first | exact Ent.refl | assumption | exact Ent.gnG (by assumption) | exact Ent.gnG (Ent.gnG (by assumption)) | exact (Ent.gnO .here (fun w hw => Ob.sl_at hw)) | exact (Ent.gnO .here (fun w hw => Ob.row_at hw)) | exact (Ent.gnO (.there .here) (fun w hw => Ob.sl_at hw)) | exact (Ent.gnO (.there .here) (fun w hw => Ob.row_at hw)) | exact (Ent.gnO (.there (.there .here)) (fun w hw => Ob.sl_at hw)) | exact (Ent.gnO (.there (.there .here)) (fun w hw => Ob.row_at hw)) | exact (Ent.gnO (.there (.there (.there .here))) (fun w hw => Ob.sl_at hw)) | exact (Ent.gnO (.there (.there (.there .here))) (fun w hw => Ob.row_at hw)) | exact (Ent.gnO (.there (.there (.there (.there .here)))) (fun w hw => Ob.sl_at hw)) | exact (Ent.gnO (.there (.there (.there (.there .here)))) (fun w hw => Ob.row_at hw)) | exact (Ent.gnO (.there (.there (.there (.there (.there .here))))) (fun w hw => Ob.sl_at hw)) | exact (Ent.gnO (.there (.there (.there (.there (.there .here))))) (fun w hw => Ob.row_at hw))) (by first | rfl | exact Bs_get (by omega) | assumption) ?_ | refine vcLoad1_0 (by first | exact Ent.refl | assumption | exact Ent.gnG (by assumption) | exact Ent.gnG (Ent.gnG (by assumption)) | exact (Ent.gnO .here (fun w hw => Ob.sl_at hw)) | exact (Ent.gnO .here (fun w hw => Ob.row_at hw)) | exact (Ent.gnO (.there .here) (fun w hw => Ob.sl_at hw)) | exact (Ent.gnO (.there .here) (fun w hw => Ob.row_at hw)) | exact (Ent.gnO (.there (.there .here)) (fun w hw => Ob.sl_at hw)) | exact (Ent.gnO (.there (.there .here)) (fun w hw => Ob.row_at hw)) | exact (Ent.gnO (.there (.there (.there .here))) (fun w hw => Ob.sl_at hw)) | exact (Ent.gnO (.there (.there (.there .here))) (fun w hw => Ob.row_at hw)) | exact (Ent.gnO (.there (.there (.there (.there .here)))) (fun w hw => Ob.sl_at hw)) | exact (Ent.gnO (.there (.there (.there (.there .here)))) (fun w hw => Ob.row_at hw)) | exact (Ent.gnO (.there (.there (.there (.there (.there .here))))) (fun w hw => Ob.sl_at hw)) | exact (Ent.gnO (.there (.there (.there (.there (.there .here))))) (fun w hw => Ob.row_at hw))) (by first | rfl | exact Bs_get (by omega) | assumption) ?_) | (first | refine vcStore1_1 _ _ .here rfl (by first | omega | (simp only [Bs_length]; omega) | (simp; done) | (simp; omega)) rfl ?_ | refine vcStore1_2 _ _ .here rfl (by first | omega | (simp only [Bs_length]; omega) | (simp; done) | (simp; omega)) rfl ?_ | refine vcStore1_0 _ _ .here rfl (by first | omega | (simp only [Bs_length]; omega) | (simp; done) | (simp; omega)) rfl ?_ | refine vcStore1_1 _ _ (.there .here) rfl (by first | omega | (simp only [Bs_length]; omega) | (simp; done) | (simp; omega)) rfl ?_ | refine vcStore1_2 _ _ (.there .here) rfl (by first | omega | (simp only [Bs_length]; omega) | (simp; done) | (simp; omega)) rfl ?_ | refine vcStore1_0 _ _ (.there .here) rfl (by first | omega | (simp only [Bs_length]; omega) | (simp; done) | (simp; omega)) rfl ?_ | refine vcStore1_1 _ _ (.there (.there .here)) rfl (by first | omega | (simp only [Bs_length]; omega) | (simp; done) | (simp; omega)) rfl ?_ | refine vcStore1_2 _ _ (.there (.there .here)) rfl (by first | omega | (simp only [Bs_length]; omega) | (simp; done) | (simp; omega)) rfl ?_ | refine vcStore1_0 _ _ (.there (.there .here)) rfl (by first | omega | (simp only [Bs_length]; omega) | (simp; done) | (simp; omega)) rfl ?_ | refine vcStore1_1 _ _ (.there (.there (.there .here))) rfl (by first | omega | (simp only [Bs_length]; omega) | (simp; done) | (simp; omega)) rfl ?_ | refine vcStore1_2 _ _ (.there (.there (.there .here))) rfl (by first | omega | (simp only [Bs_length]; omega) | (simp; done) | (simp; omega)) rfl ?_ | refine vcStore1_0 _ _ (.there (.there (.there .here))) rfl (by first | omega | (simp only [Bs_length]; omega) | (simp; done) | (simp; omega)) rfl ?_ | refine vcStore1_1 _ _ (.there (.there (.there (.there .here)))) rfl (by first | omega | (simp only [Bs_length]; omega) | (simp; done) | (simp; omega)) rfl ?_ | refine vcStore1_2 _ _ (.there (.there (.there (.there .here)))) rfl (by first | omega | (simp only [Bs_length]; omega) | (simp; done) | (simp; omega)) rfl ?_ | refine vcStore1_0 _ _ (.there (.there (.there (.there .here)))) rfl (by first | omega | (simp only [Bs_length]; omega) | (simp; done) | (simp; omega)) rfl ?_ | refine vcStore1_1 _ _ (.there (.there (.there (.there (.there .here))))) rfl (by first | omega | (simp only [Bs_length]; omega) | (simp; done) | (simp; omega)) rfl ?_ | refine vcStore1_2 _ _ (.there (.there (.there (.there (.there .here))))) rfl (by first | omega | (simp only [Bs_length]; omega) | (simp; done) | (simp; omega)) rfl ?_ | refine vcStore1_0 _ _ (.there (.there (.there (.there (.there .here))))) rfl (by first | omega | (simp only [Bs_length]; omega) | (simp; done) | (simp; omega)) rfl ?_))
  intro b
  refine vcApp_of (Bs [byteI (xs.length / 2 ^ 8), byteI xs.length]) _ (Bs xs) .here rfl (by simp [Bs_length]) (by omega) (Bs_one xs) (Ent.gnG h1) (by omega) (by omega) (fun A' cap' hc => ?_)
  refine ⟨_, [], MT, .cons .here .nil, fun _ _ _ => trivial, A', cap', ?_, ?_, rfl, ?_⟩
  · show Value.slice A' (2 + xs.length) cap' = _; rw [Nat.add_comm]; rfl
  · rw [← Bs_append, byteI_nat, byteI_shr]; rfl
  · simp [lng]; omega
def msg (k : Int) (b : List UInt8) : List UInt8 := [byteI k, UInt8.ofNat (b.length / 65536 % 256), UInt8.ofNat (b.length / 256 % 256), UInt8.ofNat (b.length % 256)] ++ b
theorem msg_length (k : Int) (b : List UInt8) : (msg k b).length = b.length + 4 := by simp [msg]
theorem msg_spec (k : Int) (A : Option Addr) (c : Nat) (xs : List UInt8) (G : Mp) (h1 : Ent G (RowAt A (Bs xs))) (hx : xs.length ≤ 70368744177664) : Spec Try.prog 67 #[.int .i64 k, .slice A xs.length c] [] G (OwnB (msg k xs)) := by
  refine Spec.intro (args := [_, _]) wide Try.func67 rfl Try.call67 (by rfl) (by rfl) (fun w0 hw0 => ?_)
  repeat' (first | (first | refine vcFit_i64 (by omega) ?_ | refine vcFit_byte ?_ | refine vcFit_u64_in (by omega) ?_ | refine vcRem_pos (by omega) ?_ | refine vcQuo_i64 (by omega) ?_ | refine vcShr_nat (n := _) (by decide) ?_) | (first | refine vcIf_yes (by omega) ?_ | refine vcIf_no (by omega) ?_ | refine vcIf_nyes (by omega) ?_ | refine vcIf_nno (by omega) ?_ | refine vcIf_dec (fun _ => ?_) (fun _ => ?_) | refine vcIf_ndec (fun _ => ?_) (fun _ => ?_)) | (first | refine vcIdx_some _ (by first | exact rfl | exact (Int.natCast_add _ 1).symm | exact (Int.toNat_of_nonneg (by omega)).symm) (by omega) ?_ | (refine vcIdx_nat _ (by first | exact rfl | exact (Int.natCast_add _ 1).symm | exact (Int.toNat_of_nonneg (by omega)).symm) (by first | exact Ent.refl | assumption | exact Ent.gnG (by assumption) | exact Ent.gnG (Ent.gnG (by assumption)) | exact (Ent.gnO .here (fun w hw => Ob.sl_at hw)) | exact (Ent.gnO .here (fun w hw => Ob.row_at hw)) | exact (Ent.gnO (.there .here) (fun w hw => Ob.sl_at hw)) | exact (Ent.gnO (.there .here) (fun w hw => Ob.row_at hw)) | exact (Ent.gnO (.there (.there .here)) (fun w hw => Ob.sl_at hw)) | exact (Ent.gnO (.there (.there .here)) (fun w hw => Ob.row_at hw)) | exact (Ent.gnO (.there (.there (.there .here))) (fun w hw => Ob.sl_at hw)) | exact (Ent.gnO (.there (.there (.there .here))) (fun w hw => Ob.row_at hw)) | exact (Ent.gnO (.there (.there (.there (.there .here)))) (fun w hw => Ob.sl_at hw)) | exact (Ent.gnO (.there (.there (.there (.there .here)))) (fun w hw => Ob.row_at hw)) | exact (Ent.gnO (.there (.there (.there (.there (.there .here))))) (fun w hw => Ob.sl_at hw)) | exact (Ent.gnO (.there (.there (.there (.there (.there .here))))) (fun w hw => Ob.row_at hw))) (by omega) (by first | omega | (simp only [Bs_length]; omega) | (simp; done) | (simp; omega)) (fun a ha => ?_); cases ha)) | (first | refine vcLoad1_row (by first | exact Ent.refl | assumption | exact Ent.gnG (by assumption) | exact Ent.gnG (Ent.gnG (by assumption)) | exact (Ent.gnO .here (fun w hw => Ob.sl_at hw)) | exact (Ent.gnO .here (fun w hw => Ob.row_at hw)) | exact (Ent.gnO (.there .here) (fun w hw => Ob.sl_at hw)) | exact (Ent.gnO (.there .here) (fun w hw => Ob.row_at hw)) | exact (Ent.gnO (.there (.there .here)) (fun w hw => Ob.sl_at hw)) | exact (Ent.gnO (.there (.there .here)) (fun w hw => Ob.row_at hw)) | exact (Ent.gnO (.there (.there (.there .here))) (fun w hw => Ob.sl_at hw)) | exact (Ent.gnO (.there (.there (.there .here))) (fun w hw => Ob.row_at hw)) | exact (Ent.gnO (.there (.there (.there (.there .here)))) (fun w hw => Ob.sl_at hw)) | exact (Ent.gnO (.there (.there (.there (.there .here)))) (fun w hw => Ob.row_at hw)) | exact (Ent.gnO (.there (.there (.there (.there (.there .here))))) (fun w hw => Ob.sl_at hw)) | exact (Ent.gnO (.there (.there (.there (.there (.there .here))))) (fun w hw => Ob.row_at hw))) (by first | rfl | exact Bs_get (by omega) | assumption) ?_ | refine vcLoad1_2 (by first | exact Ent.refl | assumption | exact Ent.gnG (by assumption) | exact Ent.gnG (Ent.gnG (by assumption)) | exact (Ent.gnO .here (fun w hw => Ob.sl_at hw)) | exact (Ent.gnO .here (fun w hw => Ob.row_at hw)) | exact (Ent.gnO (.there .here) (fun w hw => Ob.sl_at hw)) | exact (Ent.gnO (.there .here) (fun w hw => Ob.row_at hw)) | exact (Ent.gnO (.there (.there .here)) (fun w hw => Ob.sl_at hw)) | exact (Ent.gnO (.there (.there .here)) (fun w hw => Ob.row_at hw)) | exact (Ent.gnO (.there (.there (.there .here))) (fun w hw => Ob.sl_at hw)) | exact (Ent.gnO (.there (.there (.there .here))) (fun w hw => Ob.row_at hw)) | exact (Ent.gnO (.there (.there (.there (.there .here)))) (fun w hw => Ob.sl_at hw)) | exact (Ent.gnO (.there (.there (.there (.there .here)))) (fun w hw => Ob.row_at hw)) | exact (Ent.gnO (.there (.there (.there (.there (.there .here))))) (fun w hw => Ob.sl_at hw)) | exact (Ent.gnO (.there (.there (.there (.there (.there .here))))) (fun w hw => Ob.row_at hw))) (by first | rfl | exact Bs_get (by omega) | assumption) ?_ | refine vcLoad1_3 (by first | exact Ent.refl | assumption | exact Ent.gnG (by assumption) | exact Ent.gnG (Ent.gnG (by assumption)) | exact (Ent.gnO .here (fun w hw => Ob.sl_at hw)) | exact (Ent.gnO .here (fun w hw => Ob.row_at hw)) | exact (Ent.gnO (.there .here) (fun w hw => Ob.sl_at hw)) | exact (Ent.gnO (.there .here) (fun w hw => Ob.row_at hw)) | exact (Ent.gnO (.there (.there .here)) (fun w hw => Ob.sl_at hw)) | exact (Ent.gnO (.there (.there .here)) (fun w hw => Ob.row_at hw)) | exact (Ent.gnO (.there (.there (.there .here))) (fun w hw => Ob.sl_at hw)) | exact (Ent.gnO (.there (.there (.there .here))) (fun w hw => Ob.row_at hw)) | exact (Ent.gnO (.there (.there (.there (.there .here)))) (fun w hw => Ob.sl_at hw)) | exact (Ent.gnO (.there (.there (.there (.there .here)))) (fun w hw => Ob.row_at hw)) | exact (Ent.gnO (.there (.there (.there (.there (.there .here))))) (fun w hw => Ob.sl_at hw)) | exact (Ent.gnO (.there (.there (.there (.there (.there .here))))) (fun w hw => Ob.row_at hw))) (by first | rfl | exact Bs_get (by omega) | assumption) ?_ | refine vcLoad1_0 (by first | exact Ent.refl | assumption | exact Ent.gnG (by assumption) | exact Ent.gnG (Ent.gnG (by assumption)) | exact (Ent.gnO .here (fun w hw => Ob.sl_at hw)) | exact (Ent.gnO .here (fun w hw => Ob.row_at hw)) | exact (Ent.gnO (.there .here) (fun w hw => Ob.sl_at hw)) | exact (Ent.gnO (.there .here) (fun w hw => Ob.row_at hw)) | exact (Ent.gnO (.there (.there .here)) (fun w hw => Ob.sl_at hw)) | exact (Ent.gnO (.there (.there .here)) (fun w hw => Ob.row_at hw)) | exact (Ent.gnO (.there (.there (.there .here))) (fun w hw => Ob.sl_at hw)) | exact (Ent.gnO (.there (.there (.there .here))) (fun w hw => Ob.row_at hw)) | exact (Ent.gnO (.there (.there (.there (.there .here)))) (fun w hw => Ob.sl_at hw)) | exact (Ent.gnO (.there (.there (.there (.there .here)))) (fun w hw => Ob.row_at hw)) | exact (Ent.gnO (.there (.there (.there (.there (.there .here))))) (fun w hw => Ob.sl_at hw)) | exact (Ent.gnO (.there (.there (.there (.there (.there .here))))) (fun w hw => Ob.row_at hw))) (by first | rfl | exact Bs_get (by omega) | assumption) ?_) | (first | refine vcStore1_1 _ _ .here rfl (by first | omega | (simp only [Bs_length]; omega) | (simp; done) | (simp; omega)) rfl ?_ | refine vcStore1_2 _ _ .here rfl (by first | omega | (simp only [Bs_length]; omega) | (simp; done) | (simp; omega)) rfl ?_ | refine vcStore1_0 _ _ .here rfl (by first | omega | (simp only [Bs_length]; omega) | (simp; done) | (simp; omega)) rfl ?_ | refine vcStore1_1 _ _ (.there .here) rfl (by first | omega | (simp only [Bs_length]; omega) | (simp; done) | (simp; omega)) rfl ?_ | refine vcStore1_2 _ _ (.there .here) rfl (by first | omega | (simp only [Bs_length]; omega) | (simp; done) | (simp; omega)) rfl ?_ | refine vcStore1_0 _ _ (.there .here) rfl (by first | omega | (simp only [Bs_length]; omega) | (simp; done) | (simp; omega)) rfl ?_ | refine vcStore1_1 _ _ (.there (.there .here)) rfl (by first | omega | (simp only [Bs_length]; omega) | (simp; done) | (simp; omega)) rfl ?_ | refine vcStore1_2 _ _ (.there (.there .here)) rfl (by first | omega | (simp only [Bs_length]; omega) | (simp; done) | (simp; omega)) rfl ?_ | refine vcStore1_0 _ _ (.there (.there .here)) rfl (by first | omega | (simp only [Bs_length]; omega) | (simp; done) | (simp; omega)) rfl ?_ | refine vcStore1_1 _ _ (.there (.there (.there .here))) rfl (by first | omega | (simp only [Bs_length]; omega) | (simp; done) | (simp; omega)) rfl ?_ | refine vcStore1_2 _ _ (.there (.there (.there .here))) rfl (by first | omega | (simp only [Bs_length]; omega) | (simp; done) | (simp; omega)) rfl ?_ | refine vcStore1_0 _ _ (.there (.there (.there .here))) rfl (by first | omega | (simp only [Bs_length]; omega) | (simp; done) | (simp; omega)) rfl ?_ | refine vcStore1_1 _ _ (.there (.there (.there (.there .here)))) rfl (by first | omega | (simp only [Bs_length]; omega) | (simp; done) | (simp; omega)) rfl ?_ | refine vcStore1_2 _ _ (.there (.there (.there (.there .here)))) rfl (by first | omega | (simp only [Bs_length]; omega) | (simp; done) | (simp; omega)) rfl ?_ | refine vcStore1_0 _ _ (.there (.there (.there (.there .here)))) rfl (by first | omega | (simp only [Bs_length]; omega) | (simp; done) | (simp; omega)) rfl ?_ | refine vcStore1_1 _ _ (.there (.there (.there (.there (.there .here))))) rfl (by first | omega | (simp only [Bs_length]; omega) | (simp; done) | (simp; omega)) rfl ?_ | refine vcStore1_2 _ _ (.there (.there (.there (.there (.there .here))))) rfl (by first | omega | (simp only [Bs_length]; omega) | (simp; done) | (simp; omega)) rfl ?_ | refine vcStore1_0 _ _ (.there (.there (.there (.there (.there .here))))) rfl (by first | omega | (simp only [Bs_length]; omega) | (simp; done) | (simp; omega)) rfl ?_))
  intro b
  refine vcApp_of (Bs [byteI k, byteI (xs.length / 2 ^ 16), byteI (xs.length / 2 ^ 8), byteI xs.length]) _ (Bs xs) .here rfl (by simp [Bs_length]) (by omega) (Bs_one xs) (Ent.gnG h1) (by omega) (by omega) (fun A' cap' hc => ?_)
  refine ⟨_, [], MT, .cons .here .nil, fun _ _ _ => trivial, A', cap', ?_, ?_, rfl, ?_⟩
  · show Value.slice A' (4 + xs.length) cap' = _; rw [Nat.add_comm, msg_length]
  · rw [← Bs_append, byteI_nat, byteI_shr, byteI_shr]; rfl
  · rw [msg_length]; omega
theorem two_spec (n : Nat) (hn : n ≤ 9223372036854775807) (G : Mp) : Spec Try.prog 43 #[.int .i64 n] [] G (OwnB [UInt8.ofNat (n / 256 % 256), UInt8.ofNat (n % 256)]) := by
  refine Spec.intro (args := [_]) wide Try.func43 rfl Try.call43 (by rfl) (by rfl) (fun w0 hw0 => ?_)
  repeat' (first | (first | refine vcFit_i64 (by omega) ?_ | refine vcFit_byte ?_ | refine vcFit_u64_in (by omega) ?_ | refine vcRem_pos (by omega) ?_ | refine vcQuo_i64 (by omega) ?_ | refine vcShr_nat (n := _) (by decide) ?_) | (first | refine vcIf_yes (by omega) ?_ | refine vcIf_no (by omega) ?_ | refine vcIf_nyes (by omega) ?_ | refine vcIf_nno (by omega) ?_ | refine vcIf_dec (fun _ => ?_) (fun _ => ?_) | refine vcIf_ndec (fun _ => ?_) (fun _ => ?_)) | (first | refine vcIdx_some _ (by first | exact rfl | exact (Int.natCast_add _ 1).symm | exact (Int.toNat_of_nonneg (by omega)).symm) (by omega) ?_ | (refine vcIdx_nat _ (by first | exact rfl | exact (Int.natCast_add _ 1).symm | exact (Int.toNat_of_nonneg (by omega)).symm) (by first | exact Ent.refl | assumption | exact Ent.gnG (by assumption) | exact Ent.gnG (Ent.gnG (by assumption)) | exact (Ent.gnO .here (fun w hw => Ob.sl_at hw)) | exact (Ent.gnO .here (fun w hw => Ob.row_at hw)) | exact (Ent.gnO (.there .here) (fun w hw => Ob.sl_at hw)) | exact (Ent.gnO (.there .here) (fun w hw => Ob.row_at hw)) | exact (Ent.gnO (.there (.there .here)) (fun w hw => Ob.sl_at hw)) | exact (Ent.gnO (.there (.there .here)) (fun w hw => Ob.row_at hw)) | exact (Ent.gnO (.there (.there (.there .here))) (fun w hw => Ob.sl_at hw)) | exact (Ent.gnO (.there (.there (.there .here))) (fun w hw => Ob.row_at hw)) | exact (Ent.gnO (.there (.there (.there (.there .here)))) (fun w hw => Ob.sl_at hw)) | exact (Ent.gnO (.there (.there (.there (.there .here)))) (fun w hw => Ob.row_at hw)) | exact (Ent.gnO (.there (.there (.there (.there (.there .here))))) (fun w hw => Ob.sl_at hw)) | exact (Ent.gnO (.there (.there (.there (.there (.there .here))))) (fun w hw => Ob.row_at hw))) (by omega) (by first | omega | (simp only [Bs_length]; omega) | (simp; done) | (simp; omega)) (fun a ha => ?_); cases ha)) | (first | refine vcLoad1_row (by first | exact Ent.refl | assumption | exact Ent.gnG (by assumption) | exact Ent.gnG (Ent.gnG (by assumption)) | exact (Ent.gnO .here (fun w hw => Ob.sl_at hw)) | exact (Ent.gnO .here (fun w hw => Ob.row_at hw)) | exact (Ent.gnO (.there .here) (fun w hw => Ob.sl_at hw)) | exact (Ent.gnO (.there .here) (fun w hw => Ob.row_at hw)) | exact (Ent.gnO (.there (.there .here)) (fun w hw => Ob.sl_at hw)) | exact (Ent.gnO (.there (.there .here)) (fun w hw => Ob.row_at hw)) | exact (Ent.gnO (.there (.there (.there .here))) (fun w hw => Ob.sl_at hw)) | exact (Ent.gnO (.there (.there (.there .here))) (fun w hw => Ob.row_at hw)) | exact (Ent.gnO (.there (.there (.there (.there .here)))) (fun w hw => Ob.sl_at hw)) | exact (Ent.gnO (.there (.there (.there (.there .here)))) (fun w hw => Ob.row_at hw)) | exact (Ent.gnO (.there (.there (.there (.there (.there .here))))) (fun w hw => Ob.sl_at hw)) | exact (Ent.gnO (.there (.there (.there (.there (.there .here))))) (fun w hw => Ob.row_at hw))) (by first | rfl | exact Bs_get (by omega) | assumption) ?_ | refine vcLoad1_2 (by first | exact Ent.refl | assumption | exact Ent.gnG (by assumption) | exact Ent.gnG (Ent.gnG (by assumption)) | exact (Ent.gnO .here (fun w hw => Ob.sl_at hw)) | exact (Ent.gnO .here (fun w hw => Ob.row_at hw)) | exact (Ent.gnO (.there .here) (fun w hw => Ob.sl_at hw)) | exact (Ent.gnO (.there .here) (fun w hw => Ob.row_at hw)) | exact (Ent.gnO (.there (.there .here)) (fun w hw => Ob.sl_at hw)) | exact (Ent.gnO (.there (.there .here)) (fun w hw => Ob.row_at hw)) | exact (Ent.gnO (.there (.there (.there .here))) (fun w hw => Ob.sl_at hw)) | exact (Ent.gnO (.there (.there (.there .here))) (fun w hw => Ob.row_at hw)) | exact (Ent.gnO (.there (.there (.there (.there .here)))) (fun w hw => Ob.sl_at hw)) | exact (Ent.gnO (.there (.there (.there (.there .here)))) (fun w hw => Ob.row_at hw)) | exact (Ent.gnO (.there (.there (.there (.there (.there .here))))) (fun w hw => Ob.sl_at hw)) | exact (Ent.gnO (.there (.there (.there (.there (.there .here))))) (fun w hw => Ob.row_at hw))) (by first | rfl | exact Bs_get (by omega) | assumption) ?_ | refine vcLoad1_3 (by first | exact Ent.refl | assumption | exact Ent.gnG (by assumption) | exact Ent.gnG (Ent.gnG (by assumption)) | exact (Ent.gnO .here (fun w hw => Ob.sl_at hw)) | exact (Ent.gnO .here (fun w hw => Ob.row_at hw)) | exact (Ent.gnO (.there .here) (fun w hw => Ob.sl_at hw)) | exact (Ent.gnO (.there .here) (fun w hw => Ob.row_at hw)) | exact (Ent.gnO (.there (.there .here)) (fun w hw => Ob.sl_at hw)) | exact (Ent.gnO (.there (.there .here)) (fun w hw => Ob.row_at hw)) | exact (Ent.gnO (.there (.there (.there .here))) (fun w hw => Ob.sl_at hw)) | exact (Ent.gnO (.there (.there (.there .here))) (fun w hw => Ob.row_at hw)) | exact (Ent.gnO (.there (.there (.there (.there .here)))) (fun w hw => Ob.sl_at hw)) | exact (Ent.gnO (.there (.there (.there (.there .here)))) (fun w hw => Ob.row_at hw)) | exact (Ent.gnO (.there (.there (.there (.there (.there .here))))) (fun w hw => Ob.sl_at hw)) | exact (Ent.gnO (.there (.there (.there (.there (.there .here))))) (fun w hw => Ob.row_at hw))) (by first | rfl | exact Bs_get (by omega) | assumption) ?_ | refine vcLoad1_0 (by first | exact Ent.refl | assumption | exact Ent.gnG (by assumption) | exact Ent.gnG (Ent.gnG (by assumption)) | exact (Ent.gnO .here (fun w hw => Ob.sl_at hw)) | exact (Ent.gnO .here (fun w hw => Ob.row_at hw)) | exact (Ent.gnO (.there .here) (fun w hw => Ob.sl_at hw)) | exact (Ent.gnO (.there .here) (fun w hw => Ob.row_at hw)) | exact (Ent.gnO (.there (.there .here)) (fun w hw => Ob.sl_at hw)) | exact (Ent.gnO (.there (.there .here)) (fun w hw => Ob.row_at hw)) | exact (Ent.gnO (.there (.there (.there .here))) (fun w hw => Ob.sl_at hw)) | exact (Ent.gnO (.there (.there (.there .here))) (fun w hw => Ob.row_at hw)) | exact (Ent.gnO (.there (.there (.there (.there .here)))) (fun w hw => Ob.sl_at hw)) | exact (Ent.gnO (.there (.there (.there (.there .here)))) (fun w hw => Ob.row_at hw)) | exact (Ent.gnO (.there (.there (.there (.there (.there .here))))) (fun w hw => Ob.sl_at hw)) | exact (Ent.gnO (.there (.there (.there (.there (.there .here))))) (fun w hw => Ob.row_at hw))) (by first | rfl | exact Bs_get (by omega) | assumption) ?_) | (first | refine vcStore1_1 _ _ .here rfl (by first | omega | (simp only [Bs_length]; omega) | (simp; done) | (simp; omega)) rfl ?_ | refine vcStore1_2 _ _ .here rfl (by first | omega | (simp only [Bs_length]; omega) | (simp; done) | (simp; omega)) rfl ?_ | refine vcStore1_0 _ _ .here rfl (by first | omega | (simp only [Bs_length]; omega) | (simp; done) | (simp; omega)) rfl ?_ | refine vcStore1_1 _ _ (.there .here) rfl (by first | omega | (simp only [Bs_length]; omega) | (simp; done) | (simp; omega)) rfl ?_ | refine vcStore1_2 _ _ (.there .here) rfl (by first | omega | (simp only [Bs_length]; omega) | (simp; done) | (simp; omega)) rfl ?_ | refine vcStore1_0 _ _ (.there .here) rfl (by first | omega | (simp only [Bs_length]; omega) | (simp; done) | (simp; omega)) rfl ?_ | refine vcStore1_1 _ _ (.there (.there .here)) rfl (by first | omega | (simp only [Bs_length]; omega) | (simp; done) | (simp; omega)) rfl ?_ | refine vcStore1_2 _ _ (.there (.there .here)) rfl (by first | omega | (simp only [Bs_length]; omega) | (simp; done) | (simp; omega)) rfl ?_ | refine vcStore1_0 _ _ (.there (.there .here)) rfl (by first | omega | (simp only [Bs_length]; omega) | (simp; done) | (simp; omega)) rfl ?_ | refine vcStore1_1 _ _ (.there (.there (.there .here))) rfl (by first | omega | (simp only [Bs_length]; omega) | (simp; done) | (simp; omega)) rfl ?_ | refine vcStore1_2 _ _ (.there (.there (.there .here))) rfl (by first | omega | (simp only [Bs_length]; omega) | (simp; done) | (simp; omega)) rfl ?_ | refine vcStore1_0 _ _ (.there (.there (.there .here))) rfl (by first | omega | (simp only [Bs_length]; omega) | (simp; done) | (simp; omega)) rfl ?_ | refine vcStore1_1 _ _ (.there (.there (.there (.there .here)))) rfl (by first | omega | (simp only [Bs_length]; omega) | (simp; done) | (simp; omega)) rfl ?_ | refine vcStore1_2 _ _ (.there (.there (.there (.there .here)))) rfl (by first | omega | (simp only [Bs_length]; omega) | (simp; done) | (simp; omega)) rfl ?_ | refine vcStore1_0 _ _ (.there (.there (.there (.there .here)))) rfl (by first | omega | (simp only [Bs_length]; omega) | (simp; done) | (simp; omega)) rfl ?_ | refine vcStore1_1 _ _ (.there (.there (.there (.there (.there .here))))) rfl (by first | omega | (simp only [Bs_length]; omega) | (simp; done) | (simp; omega)) rfl ?_ | refine vcStore1_2 _ _ (.there (.there (.there (.there (.there .here))))) rfl (by first | omega | (simp only [Bs_length]; omega) | (simp; done) | (simp; omega)) rfl ?_ | refine vcStore1_0 _ _ (.there (.there (.there (.there (.there .here))))) rfl (by first | omega | (simp only [Bs_length]; omega) | (simp; done) | (simp; omega)) rfl ?_))
  intro b
  refine ⟨_, [], MT, .cons .here .nil, fun _ _ _ => trivial, OwnB_lit (cs := [byteI (n / (256 : Nat)), byteI ((n % 256 : Nat))]) ?_ (by simp) rfl⟩
  rw [byteI_div, byteI_nat, Nat.mod_mod]
theorem message_spec (k : Int) (A : Option Addr) (c : Nat) (xs : List UInt8) (G : Mp) (h1 : Ent G (RowAt A (Bs xs))) (hx : xs.length ≤ 70368744177664) : Spec Try.prog 71 #[.int .i64 k, .slice A xs.length c] [] G (OwnB (msg k xs)) := by
  refine Spec.intro (args := [_, _]) wide Try.func71 rfl Try.call71 (by rfl) (by rfl) (fun w0 hw0 => ?_)
  repeat' (first | (first | refine vcFit_i64 (by omega) ?_ | refine vcFit_byte ?_ | refine vcFit_u64_in (by omega) ?_ | refine vcRem_pos (by omega) ?_ | refine vcQuo_i64 (by omega) ?_ | refine vcShr_nat (n := _) (by decide) ?_) | (first | refine vcIf_yes (by omega) ?_ | refine vcIf_no (by omega) ?_ | refine vcIf_nyes (by omega) ?_ | refine vcIf_nno (by omega) ?_ | refine vcIf_dec (fun _ => ?_) (fun _ => ?_) | refine vcIf_ndec (fun _ => ?_) (fun _ => ?_)) | (first | refine vcIdx_some _ (by first | exact rfl | exact (Int.natCast_add _ 1).symm | exact (Int.toNat_of_nonneg (by omega)).symm) (by omega) ?_ | (refine vcIdx_nat _ (by first | exact rfl | exact (Int.natCast_add _ 1).symm | exact (Int.toNat_of_nonneg (by omega)).symm) (by first | exact Ent.refl | assumption | exact Ent.gnG (by assumption) | exact Ent.gnG (Ent.gnG (by assumption)) | exact (Ent.gnO .here (fun w hw => Ob.sl_at hw)) | exact (Ent.gnO .here (fun w hw => Ob.row_at hw)) | exact (Ent.gnO (.there .here) (fun w hw => Ob.sl_at hw)) | exact (Ent.gnO (.there .here) (fun w hw => Ob.row_at hw)) | exact (Ent.gnO (.there (.there .here)) (fun w hw => Ob.sl_at hw)) | exact (Ent.gnO (.there (.there .here)) (fun w hw => Ob.row_at hw)) | exact (Ent.gnO (.there (.there (.there .here))) (fun w hw => Ob.sl_at hw)) | exact (Ent.gnO (.there (.there (.there .here))) (fun w hw => Ob.row_at hw)) | exact (Ent.gnO (.there (.there (.there (.there .here)))) (fun w hw => Ob.sl_at hw)) | exact (Ent.gnO (.there (.there (.there (.there .here)))) (fun w hw => Ob.row_at hw)) | exact (Ent.gnO (.there (.there (.there (.there (.there .here))))) (fun w hw => Ob.sl_at hw)) | exact (Ent.gnO (.there (.there (.there (.there (.there .here))))) (fun w hw => Ob.row_at hw))) (by omega) (by first | omega | (simp only [Bs_length]; omega) | (simp; done) | (simp; omega)) (fun a ha => ?_); cases ha)) | (first | refine vcLoad1_row (by first | exact Ent.refl | assumption | exact Ent.gnG (by assumption) | exact Ent.gnG (Ent.gnG (by assumption)) | exact (Ent.gnO .here (fun w hw => Ob.sl_at hw)) | exact (Ent.gnO .here (fun w hw => Ob.row_at hw)) | exact (Ent.gnO (.there .here) (fun w hw => Ob.sl_at hw)) | exact (Ent.gnO (.there .here) (fun w hw => Ob.row_at hw)) | exact (Ent.gnO (.there (.there .here)) (fun w hw => Ob.sl_at hw)) | exact (Ent.gnO (.there (.there .here)) (fun w hw => Ob.row_at hw)) | exact (Ent.gnO (.there (.there (.there .here))) (fun w hw => Ob.sl_at hw)) | exact (Ent.gnO (.there (.there (.there .here))) (fun w hw => Ob.row_at hw)) | exact (Ent.gnO (.there (.there (.there (.there .here)))) (fun w hw => Ob.sl_at hw)) | exact (Ent.gnO (.there (.there (.there (.there .here)))) (fun w hw => Ob.row_at hw)) | exact (Ent.gnO (.there (.there (.there (.there (.there .here))))) (fun w hw => Ob.sl_at hw)) | exact (Ent.gnO (.there (.there (.there (.there (.there .here))))) (fun w hw => Ob.row_at hw))) (by first | rfl | exact Bs_get (by omega) | assumption) ?_ | refine vcLoad1_2 (by first | exact Ent.refl | assumption | exact Ent.gnG (by assumption) | exact Ent.gnG (Ent.gnG (by assumption)) | exact (Ent.gnO .here (fun w hw => Ob.sl_at hw)) | exact (Ent.gnO .here (fun w hw => Ob.row_at hw)) | exact (Ent.gnO (.there .here) (fun w hw => Ob.sl_at hw)) | exact (Ent.gnO (.there .here) (fun w hw => Ob.row_at hw)) | exact (Ent.gnO (.there (.there .here)) (fun w hw => Ob.sl_at hw)) | exact (Ent.gnO (.there (.there .here)) (fun w hw => Ob.row_at hw)) | exact (Ent.gnO (.there (.there (.there .here))) (fun w hw => Ob.sl_at hw)) | exact (Ent.gnO (.there (.there (.there .here))) (fun w hw => Ob.row_at hw)) | exact (Ent.gnO (.there (.there (.there (.there .here)))) (fun w hw => Ob.sl_at hw)) | exact (Ent.gnO (.there (.there (.there (.there .here)))) (fun w hw => Ob.row_at hw)) | exact (Ent.gnO (.there (.there (.there (.there (.there .here))))) (fun w hw => Ob.sl_at hw)) | exact (Ent.gnO (.there (.there (.there (.there (.there .here))))) (fun w hw => Ob.row_at hw))) (by first | rfl | exact Bs_get (by omega) | assumption) ?_ | refine vcLoad1_3 (by first | exact Ent.refl | assumption | exact Ent.gnG (by assumption) | exact Ent.gnG (Ent.gnG (by assumption)) | exact (Ent.gnO .here (fun w hw => Ob.sl_at hw)) | exact (Ent.gnO .here (fun w hw => Ob.row_at hw)) | exact (Ent.gnO (.there .here) (fun w hw => Ob.sl_at hw)) | exact (Ent.gnO (.there .here) (fun w hw => Ob.row_at hw)) | exact (Ent.gnO (.there (.there .here)) (fun w hw => Ob.sl_at hw)) | exact (Ent.gnO (.there (.there .here)) (fun w hw => Ob.row_at hw)) | exact (Ent.gnO (.there (.there (.there .here))) (fun w hw => Ob.sl_at hw)) | exact (Ent.gnO (.there (.there (.there .here))) (fun w hw => Ob.row_at hw)) | exact (Ent.gnO (.there (.there (.there (.there .here)))) (fun w hw => Ob.sl_at hw)) | exact (Ent.gnO (.there (.there (.there (.there .here)))) (fun w hw => Ob.row_at hw)) | exact (Ent.gnO (.there (.there (.there (.there (.there .here))))) (fun w hw => Ob.sl_at hw)) | exact (Ent.gnO (.there (.there (.there (.there (.there .here))))) (fun w hw => Ob.row_at hw))) (by first | rfl | exact Bs_get (by omega) | assumption) ?_ | refine vcLoad1_0 (by first | exact Ent.refl | assumption | exact Ent.gnG (by assumption) | exact Ent.gnG (Ent.gnG (by assumption)) | exact (Ent.gnO .here (fun w hw => Ob.sl_at hw)) | exact (Ent.gnO .here (fun w hw => Ob.row_at hw)) | exact (Ent.gnO (.there .here) (fun w hw => Ob.sl_at hw)) | exact (Ent.gnO (.there .here) (fun w hw => Ob.row_at hw)) | exact (Ent.gnO (.there (.there .here)) (fun w hw => Ob.sl_at hw)) | exact (Ent.gnO (.there (.there .here)) (fun w hw => Ob.row_at hw)) | exact (Ent.gnO (.there (.there (.there .here))) (fun w hw => Ob.sl_at hw)) | exact (Ent.gnO (.there (.there (.there .here))) (fun w hw => Ob.row_at hw)) | exact (Ent.gnO (.there (.there (.there (.there .here)))) (fun w hw => Ob.sl_at hw)) | exact (Ent.gnO (.there (.there (.there (.there .here)))) (fun w hw => Ob.row_at hw)) | exact (Ent.gnO (.there (.there (.there (.there (.there .here))))) (fun w hw => Ob.sl_at hw)) | exact (Ent.gnO (.there (.there (.there (.there (.there .here))))) (fun w hw => Ob.row_at hw))) (by first | rfl | exact Bs_get (by omega) | assumption) ?_) | (first | refine vcStore1_1 _ _ .here rfl (by first | omega | (simp only [Bs_length]; omega) | (simp; done) | (simp; omega)) rfl ?_ | refine vcStore1_2 _ _ .here rfl (by first | omega | (simp only [Bs_length]; omega) | (simp; done) | (simp; omega)) rfl ?_ | refine vcStore1_0 _ _ .here rfl (by first | omega | (simp only [Bs_length]; omega) | (simp; done) | (simp; omega)) rfl ?_ | refine vcStore1_1 _ _ (.there .here) rfl (by first | omega | (simp only [Bs_length]; omega) | (simp; done) | (simp; omega)) rfl ?_ | refine vcStore1_2 _ _ (.there .here) rfl (by first | omega | (simp only [Bs_length]; omega) | (simp; done) | (simp; omega)) rfl ?_ | refine vcStore1_0 _ _ (.there .here) rfl (by first | omega | (simp only [Bs_length]; omega) | (simp; done) | (simp; omega)) rfl ?_ | refine vcStore1_1 _ _ (.there (.there .here)) rfl (by first | omega | (simp only [Bs_length]; omega) | (simp; done) | (simp; omega)) rfl ?_ | refine vcStore1_2 _ _ (.there (.there .here)) rfl (by first | omega | (simp only [Bs_length]; omega) | (simp; done) | (simp; omega)) rfl ?_ | refine vcStore1_0 _ _ (.there (.there .here)) rfl (by first | omega | (simp only [Bs_length]; omega) | (simp; done) | (simp; omega)) rfl ?_ | refine vcStore1_1 _ _ (.there (.there (.there .here))) rfl (by first | omega | (simp only [Bs_length]; omega) | (simp; done) | (simp; omega)) rfl ?_ | refine vcStore1_2 _ _ (.there (.there (.there .here))) rfl (by first | omega | (simp only [Bs_length]; omega) | (simp; done) | (simp; omega)) rfl ?_ | refine vcStore1_0 _ _ (.there (.there (.there .here))) rfl (by first | omega | (simp only [Bs_length]; omega) | (simp; done) | (simp; omega)) rfl ?_ | refine vcStore1_1 _ _ (.there (.there (.there (.there .here)))) rfl (by first | omega | (simp only [Bs_length]; omega) | (simp; done) | (simp; omega)) rfl ?_ | refine vcStore1_2 _ _ (.there (.there (.there (.there .here)))) rfl (by first | omega | (simp only [Bs_length]; omega) | (simp; done) | (simp; omega)) rfl ?_ | refine vcStore1_0 _ _ (.there (.there (.there (.there .here)))) rfl (by first | omega | (simp only [Bs_length]; omega) | (simp; done) | (simp; omega)) rfl ?_ | refine vcStore1_1 _ _ (.there (.there (.there (.there (.there .here))))) rfl (by first | omega | (simp only [Bs_length]; omega) | (simp; done) | (simp; omega)) rfl ?_ | refine vcStore1_2 _ _ (.there (.there (.there (.there (.there .here))))) rfl (by first | omega | (simp only [Bs_length]; omega) | (simp; done) | (simp; omega)) rfl ?_ | refine vcStore1_0 _ _ (.there (.there (.there (.there (.there .here))))) rfl (by first | omega | (simp only [Bs_length]; omega) | (simp; done) | (simp; omega)) rfl ?_))
  intro b1 b2
  have e : pieces [(some ⟨b1, 0, none⟩, 4, [byteI k, byteI (xs.length / (65536 : Nat)), byteI ((xs.length / 256 % 256 : Nat)), byteI ((xs.length % 256 : Nat))]), (A, c, xs)] = msg k xs := by simp only [pieces, msg, List.flatMap_cons, List.flatMap_nil, List.append_nil, byteI_nat, byteI_div, Nat.mod_mod]
  refine vcCall_of .nil (join_spec (some ⟨b2, 0, none⟩) 2 [(some ⟨b1, 0, none⟩, 4, [byteI k, byteI (xs.length / (65536 : Nat)), byteI ((xs.length / 256 % 256 : Nat)), byteI ((xs.length % 256 : Nat))]), (A, c, xs)] _ (Ent.gnO .here (fun w hw => Ob.sl_at hw)) (fun p hp => ?_) (by rw [e, msg_length]; omega) (by simp)) (fun v own' N' hv => ?_)
  · simp only [List.mem_cons, List.not_mem_nil, or_false] at hp
    rcases hp with rfl | rfl
    · exact (Ent.gnO (.there .here) (fun w hw => Ob.sl_at hw))
    · exact Ent.gnG h1
  · rw [e] at hv
    obtain ⟨A', c', rfl, rfl, rfl, hc⟩ := hv
    exact ⟨_, _, MT, .cons .here .nil, fun _ _ _ => trivial, _, _, rfl, rfl, rfl, hc⟩
end Go.Proofs.Yticllmnblcjjcaa
end

section
/- Layer 10: lists of texts. -/
namespace Go.Proofs.Yticllmnblcjjcaa
open Go.Proofs
set_option maxRecDepth 10000

theorem baL_loop (b : ByteArray) : ∀ (k i : Nat) (r : List UInt8), b.size - i = k → ByteArray.toList.loop b i r = r.reverse ++ b.data.toList.drop i
  | 0, i, r, h => by
    unfold ByteArray.toList.loop
    rw [if_neg (by omega), List.drop_eq_nil_of_le (by show b.data.toList.length ≤ i; rw [Array.length_toList]; show b.size ≤ i; omega), List.append_nil]
  | k + 1, i, r, h => by
    unfold ByteArray.toList.loop
    have hi : i < b.data.toList.length := by rw [Array.length_toList]; show i < b.size; omega
    rw [if_pos (by omega), baL_loop b k (i + 1) _ (by omega), List.drop_eq_getElem_cons hi, List.reverse_cons, List.append_assoc]
    congr 2
    rw [List.cons_append, List.nil_append]
    congr 1
    show b.data[i]! = _
    rw [Array.getElem_toList]
    exact getElem!_pos b.data i (by rw [Array.length_toList] at hi; exact hi)
theorem baL (b : ByteArray) : b.toList = b.data.toList := by
  unfold ByteArray.toList
  rw [baL_loop b _ 0 [] rfl]
  rfl
theorem ba_ext {a b : ByteArray} (h : a.data.toList = b.data.toList) : a = b := by
  obtain ⟨⟨a⟩⟩ := a
  obtain ⟨⟨b⟩⟩ := b
  exact congrArg (fun l => ByteArray.mk (Array.mk l)) h
theorem ba_beq (a b : ByteArray) : (a.toList == b.toList) = decide (a = b) := by
  by_cases h : a = b
  · subst h; simp
  · have : a.toList ≠ b.toList := fun e => h (ba_ext (by rw [← baL, ← baL, e]))
    simp [h, this]

/-- A list of texts in memory. -/
def stL (ps : List ByteArray) : List Value := ps.map Value.string
theorem stL_len (ps : List ByteArray) : (stL ps).length = ps.length := by simp [stL]
theorem stL_get {ps : List ByteArray} {k : Nat} (h : k < ps.length) : (stL ps)[k]? = some (.string ps[k]) := by simp [stL, h]
theorem stL_one (ps : List ByteArray) : ∀ v ∈ stL ps, oneCell v = true := by
  intro v hv
  obtain ⟨p, _, rfl⟩ := List.mem_map.1 hv
  rfl
def PredS (f : FuncId) (cap : Array Value) (p : ByteArray → Bool) (G : Mp) : Prop := ∀ x : ByteArray, Spec Try.prog f ([Value.string x] ++ cap.toList).toArray [] G (Ret (.bool (p x)))
def idxI {α : Type} (p : α → Bool) (l : List α) : Int := match l.findIdx? p with
  | some i => i
  | none => -1
theorem idxI_take {α : Type} {p : α → Bool} {l : List α} {k : Nat} (hk : k < l.length) (h : ∀ x ∈ l.take k, p x = false) (hp : p l[k] = true) : idxI p l = k := by
  have : l.findIdx? p = some k := by
    rw [List.findIdx?_eq_some_iff_getElem]
    refine ⟨hk, hp, fun j hj => ?_⟩
    have := h l[j] (List.mem_take_iff_getElem.2 ⟨j, by omega, rfl⟩)
    simp [this]
  simp [idxI, this]
theorem idxI_none {α : Type} {p : α → Bool} {l : List α} (h : ∀ x ∈ l, p x = false) : idxI p l = -1 := by
  have : l.findIdx? p = none := List.findIdx?_eq_none_iff.2 h
  simp [idxI, this]
theorem take_all {α : Type} {p : α → Bool} {l : List α} {k : Nat} (hk : k < l.length) (h : ∀ x ∈ l.take k, p x = false) (hp : p l[k] = false) : ∀ x ∈ l.take (k + 1), p x = false := by
  rw [List.take_succ_eq_append_getElem hk]
  intro x hx
  rcases List.mem_append.1 hx with hx | hx
  · exact h x hx
  · simp only [List.mem_singleton] at hx; subst hx; exact hp
theorem idxI_any {α : Type} (p : α → Bool) (l : List α) : decide (0 ≤ idxI p l) = l.any p := by
  cases h : l.findIdx? p with
  | none =>
    have : l.any p = false := by
      rw [List.findIdx?_eq_none_iff] at h
      rw [List.any_eq_false]
      exact fun x hx => by simp [h x hx]
    simp [idxI, h, this]
  | some i =>
    have : l.any p = true := by
      rw [List.findIdx?_eq_some_iff_getElem] at h
      obtain ⟨hi, hp, _⟩ := h
      exact List.any_eq_true.2 ⟨_, List.getElem_mem hi, hp⟩
    simp [idxI, h, this]
theorem indexf_spec (A : Option Addr) (c : Nat) (l : List ByteArray) (f : FuncId) (cap : Array Value) (p : ByteArray → Bool) (G : Mp) (h1 : Ent G (RowAt A (stL l))) (hf : PredS f cap p G) (hl : l.length ≤ 9223372036854775807) :
    Spec Try.prog 56 #[.slice A l.length c, .func (.func f) #[] cap] [] G (Ret (.int .i64 (idxI p l))) := by
  refine Spec.intro (args := [_, _]) wide Try.func56 rfl Try.call56 (by rfl) (by rfl) (fun w0 hw0 => ?_)
  refine vcLoop_of (fun k : Nat => l.length - k) (fun k => [(0, .slice A l.length c), (1, .func (.func f) #[] cap), (7, .int .i64 l.length), (8, .int .i64 k)]) (fun _ => []) (fun _ => MT) (fun k => k ≤ l.length ∧ ∀ x ∈ l.take k, p x = false)
    0 ⟨by omega, by simp⟩ ⟨rfl, rfl, rfl, rfl, trivial⟩ ⟨_, .nil⟩ Ent.refl ?_
  rintro k ⟨hk, ht⟩
  refine vcIf_dec (fun hlt => ?_) (fun hge => ?_)
  · have hk' : k < l.length := by omega
    refine vcIdx_nat k rfl (Ent.gnG h1) hk' (by rw [stL_len]; omega) (fun a ha => ?_)
    subst ha
    refine vcLoad1_row (Ent.gnG h1) (stL_get hk') ?_
    refine vcCall_of .nil ((hf l[k]).weak (Ent.gnG Ent.refl)) (fun v own' N' hv => ?_)
    obtain ⟨rfl, rfl, rfl⟩ := hv
    refine vcIf_split (fun hp => ?_) (fun hp => ?_)
    · rw [idxI_take hk' ht hp]
      exact ⟨[], _, MT, .nil, fun _ _ _ => trivial, rfl, rfl, rfl⟩
    · refine vcFit_i64 (by omega) ?_
      exact ⟨k + 1, ⟨by omega, take_all hk' ht hp⟩, by omega, ⟨rfl, rfl, rfl, rfl, trivial⟩, ⟨_, .nil⟩, fun _ _ => trivial⟩
  · obtain rfl : k = l.length := by omega
    rw [idxI_none (by simpa using ht)]
    exact ⟨[], _, MT, .nil, fun _ _ _ => trivial, rfl, rfl, rfl⟩
theorem containsf_spec (A : Option Addr) (c : Nat) (l : List ByteArray) (f : FuncId) (cap : Array Value) (p : ByteArray → Bool) (G : Mp) (h1 : Ent G (RowAt A (stL l))) (hf : PredS f cap p G) (hl : l.length ≤ 9223372036854775807) :
    Spec Try.prog 48 #[.slice A l.length c, .func (.func f) #[] cap] [] G (Ret (.bool (l.any p))) := by
  refine Spec.intro (args := [_, _]) wide Try.func48 rfl Try.call48 (by rfl) (by rfl) (fun w0 hw0 => ?_)
  refine vcCall_of .nil (indexf_spec A c l f cap p _ (Ent.gnG h1) (fun x => (hf x).weak (Ent.gnG Ent.refl)) hl) (fun v own' N' hv => ?_); obtain ⟨rfl, rfl, rfl⟩ := hv
  refine ⟨[], _, MT, .nil, fun _ _ _ => trivial, ?_, rfl, rfl⟩
  rw [← idxI_any]
  rfl
def badS (p : ByteArray) : Bool := decide (p.size = 0 ∨ 32 < p.size)
theorem right1_spec (p : ByteArray) (G : Mp) : Spec Try.prog 49 #[.string p] [] G (Ret (.bool (badS p))) := by
  refine Spec.intro (args := [_]) wide Try.func49 rfl Try.call49 (by rfl) (by rfl) (fun w0 hw0 => ?_)
  refine vcIf_split (fun h => ?_) (fun h => ?_)
  · rw [ba_beq] at h
    have h := of_decide_eq_true h
    refine ⟨[], _, MT, .nil, fun _ _ _ => trivial, ?_, rfl, rfl⟩
    subst h
    rfl
  · rw [ba_beq] at h
    have h := of_decide_eq_false h
    refine ⟨[], _, MT, .nil, fun _ _ _ => trivial, ?_, rfl, rfl⟩
    have h0 : p.size ≠ 0 := fun e => h (ba_ext (by
      have : p.data.toList.length = 0 := by rw [Array.length_toList]; exact e
      rw [List.eq_nil_of_length_eq_zero this]))
    refine congrArg Value.bool (decide_eq_decide.2 ?_)
    omega
/-- Texts that may be protos. -/
def goodL (ps : List ByteArray) : Prop := 1 ≤ ps.length ∧ ps.length ≤ 8 ∧ ∀ p ∈ ps, 1 ≤ p.size ∧ p.size ≤ 32
instance (ps : List ByteArray) : Decidable (goodL ps) := inferInstanceAs (Decidable (_ ∧ _ ∧ _))
theorem goodL_any {ps : List ByteArray} : ps.any badS = false ↔ ∀ p ∈ ps, 1 ≤ p.size ∧ p.size ≤ 32 := by
  rw [List.any_eq_false]
  refine ⟨fun h p hp => ?_, fun h p hp => ?_⟩
  · have := h p hp
    simp only [badS, decide_eq_true_eq] at this
    omega
  · have := h p hp
    simp only [badS, decide_eq_true_eq]
    omega
theorem right_spec (A : Option Addr) (c : Nat) (ps : List ByteArray) (G : Mp) (h1 : Ent G (RowAt A (stL ps))) (hl : ps.length ≤ 9223372036854775807) : Spec Try.prog 25 #[.slice A ps.length c] [] G (Ret (.bool (decide (goodL ps)))) := by
  refine Spec.intro (args := [_]) wide Try.func25 rfl Try.call25 (by rfl) (by rfl) (fun w0 hw0 => ?_)
  refine vcIf_dec (fun ha => ?_) (fun ha => ?_)
  · refine vcIf_dec (fun hb => ?_) (fun hb => ?_)
    · refine vcCall_of .nil (containsf_spec A c ps 49 #[] badS _ (Ent.gnG h1) (fun x => right1_spec x _) hl) (fun v own' N' hv => ?_); obtain ⟨rfl, rfl, rfl⟩ := hv
      refine ⟨[], _, MT, .nil, fun _ _ _ => trivial, ?_, rfl, rfl⟩
      refine congrArg Value.bool ?_
      cases hany : ps.any badS with
      | true =>
        have : ¬ goodL ps := fun h => by rw [goodL_any.2 h.2.2] at hany; cases hany
        simp [this]
      | false =>
        have : goodL ps := ⟨by omega, by omega, goodL_any.1 hany⟩
        simp [this]
    · refine ⟨[], _, MT, .nil, fun _ _ _ => trivial, ?_, rfl, rfl⟩
      have : ¬ goodL ps := fun h => hb (by have := h.2.1; omega)
      exact congrArg Value.bool (by simp [this])
  · refine ⟨[], _, MT, .nil, fun _ _ _ => trivial, ?_, rfl, rfl⟩
    have : ¬ goodL ps := fun h => ha (by have := h.1; omega)
    exact congrArg Value.bool (by simp [this])
theorem goodp_spec (A : Option Addr) (c : Nat) (ps : List ByteArray) (G : Mp) (h1 : Ent G (RowAt A (stL ps))) (hl : ps.length ≤ 9223372036854775807) : Spec Try.prog 38 #[.slice A ps.length c] [] G (Ret (.bool (decide (goodL ps)))) := by
  refine Spec.intro (args := [_]) wide Try.func38 rfl Try.call38 (by rfl) (by rfl) (fun w0 hw0 => ?_)
  have bad : ¬ goodL ps → Value.bool false = .bool (decide (goodL ps)) := fun h => by simp [h]
  refine vcIf_dec (fun ha => ?_) (fun ha => ?_)
  · refine ⟨[], _, MT, .nil, fun _ _ _ => trivial, ?_, rfl, rfl⟩
    exact bad (fun h => by have := h.1; omega)
  refine vcIf_dec (fun hb => ?_) (fun hb => ?_)
  · refine ⟨[], _, MT, .nil, fun _ _ _ => trivial, ?_, rfl, rfl⟩
    exact bad (fun h => by have := h.2.1; omega)
  refine vcLoop_of (fun k : Nat => ps.length - k) (fun k => [(0, .slice A ps.length c), (3, .int .i64 k)]) (fun _ => []) (fun _ => MT) (fun k => k ≤ ps.length ∧ ∀ x ∈ ps.take k, badS x = false)
    0 ⟨by omega, by simp⟩ ⟨rfl, rfl, trivial⟩ ⟨_, .nil⟩ Ent.refl ?_
  rintro k ⟨hk, ht⟩
  refine vcIf_dec (fun hlt => ?_) (fun hge => ?_)
  · have hk' : k < ps.length := by omega
    refine vcIdx_nat k rfl (Ent.gnG h1) hk' (by rw [stL_len]; omega) (fun a ha => ?_)
    subst ha
    refine vcLoad1_row (Ent.gnG h1) (stL_get hk') ?_
    have no : badS ps[k] = true → ¬ goodL ps := fun h hg => by
      have := hg.2.2 _ (List.getElem_mem hk')
      simp only [badS, decide_eq_true_eq] at h
      omega
    refine vcIf_dec (fun hs => ?_) (fun hs => ?_)
    · refine ⟨[], _, MT, .nil, fun _ _ _ => trivial, ?_, rfl, rfl⟩
      exact bad (no (by simp only [badS, decide_eq_true_eq]; omega))
    refine vcIdx_nat k rfl (Ent.gnG h1) hk' (by rw [stL_len]; omega) (fun a ha => ?_)
    cases ha
    refine vcLoad1_row (Ent.gnG h1) (stL_get hk') ?_
    refine vcIf_dec (fun hs2 => ?_) (fun hs2 => ?_)
    · refine ⟨[], _, MT, .nil, fun _ _ _ => trivial, ?_, rfl, rfl⟩
      exact bad (no (by simp only [badS, decide_eq_true_eq]; omega))
    refine vcFit_i64 (by omega) ?_
    exact ⟨k + 1, ⟨by omega, take_all hk' ht (by simp only [badS, decide_eq_false_iff_not]; omega)⟩, by omega, ⟨rfl, rfl, trivial⟩, ⟨_, .nil⟩, fun _ _ => trivial⟩
  · obtain rfl : k = ps.length := by omega
    rw [List.take_length] at ht
    refine ⟨[], _, MT, .nil, fun _ _ _ => trivial, ?_, rfl, rfl⟩
    have : goodL ps := ⟨by omega, by omega, goodL_any.1 (List.any_eq_false.2 (fun x hx => by rw [ht x hx]; decide))⟩
    exact congrArg Value.bool (by simp [this])
theorem sclone_spec (A : Option Addr) (c : Nat) (ps : List ByteArray) (G : Mp) (h1 : Ent G (RowAt A (stL ps))) (hx : ps.length ≤ 1000000) :
    Spec Try.prog 26 #[.slice A ps.length c] [] G (Own1 ps.length 9 1 (stL ps)) := by
  refine Spec.intro (args := [_]) wide Try.func26 rfl Try.call26 (by rfl) (by rfl) (fun w0 hw0 => ?_)
  refine vcIf_split (fun hnil => ?_) (fun _ => ?_)
  · have hA : A = none := by simpa using hnil
    subst hA
    have hxs : ps = [] := by
      cases ps with
      | nil => rfl
      | cons x r =>
        obtain ⟨a, ha, _⟩ := h1 w0 (hw0.pers w0 (Fr.refl _ _)) 0 (.string x) (by simp [stL])
        cases ha
    subst hxs
    exact ⟨_, [], MT, .cons .none_ .nil, fun _ _ _ => trivial, _, _, rfl, rfl, rfl, Nat.le_refl _⟩
  · intro b
    refine vcApp_of [] _ (stL ps) .here rfl (by simp [stL_len]) (by omega) (stL_one ps) (Ent.gnG h1) (by omega) (by omega) (fun A' cap' hc => ?_)
    refine ⟨_, [], MT, .cons .here .nil, fun _ _ _ => trivial, A', cap', ?_, rfl, rfl, ?_⟩
    · rw [Nat.zero_add]; rfl
    · omega
end Go.Proofs.Yticllmnblcjjcaa
end

section
/- Layer 10: a side in memory; hello, say, Out. -/
namespace Go.Proofs.Yticllmnblcjjcaa
open Go.Proofs
set_option maxRecDepth 10000

/-- 32 bytes, one by one. -/
def rn (r : Nat → UInt8) : List UInt8 := [r 0, r 1, r 2, r 3, r 4, r 5, r 6, r 7, r 8, r 9, r 10, r 11, r 12, r 13, r 14, r 15, r 16, r 17, r 18, r 19, r 20, r 21, r 22, r 23, r 24, r 25, r 26, r 27, r 28, r 29, r 30, r 31]
structure Wn where
  kind : Int
  level : Int
  take : FuncId
abbrev Fl := Int × Piece
/-- A side: what is known of it, with its addresses. -/
structure Sk where
  server : Bool
  rnd : Nat → UInt8
  priv : Int
  pA : Option Addr
  pc : Nat
  ps : List ByteArray
  par : Piece
  wA : Option Addr
  wc : Nat
  ws : List Wn
  k0 : Piece
  k1 : Piece
  failed : Bool
  said : Piece
  oA : Option Addr
  oc : Nat
  out : List Fl
  root : Piece
  hc : Piece
  hs : Piece
  ac : Piece
  as_ : Piece
  proto : ByteArray
  peer : Piece
def cfL (server : Bool) (r : Nat → UInt8) (priv : Int) (pA : Option Addr) (pc : Nat) (ps : List ByteArray) (par : Piece) : List Value :=
  .bool server :: (Bs (rn r) ++ [.int .i64 priv, .slice pA ps.length pc, pieceV par])
def skL (s : Sk) : List Value :=
  .bool s.server :: (Bs (rn s.rnd) ++ [.int .i64 s.priv, .slice s.pA s.ps.length s.pc, pieceV s.par, .slice s.wA s.ws.length s.wc, pieceV s.k0, pieceV s.k1, .bool s.failed, pieceV s.said, .slice s.oA s.out.length s.oc, pieceV s.root, pieceV s.hc, pieceV s.hs, pieceV s.ac, pieceV s.as_, .string s.proto, pieceV s.peer])
def wnL (ws : List Wn) : List Value := ws.flatMap fun w => [.int .i64 w.kind, .int .i64 w.level, .func (.func w.take) #[] #[]]
def flV (f : Fl) : List Value := [.int .i64 f.1, pieceV f.2]
def flL (out : List Fl) : List Value := out.flatMap flV
def pO (p : Piece) : Ob := .sl p.1 p.2.1 5 1 (Bs p.2.2)
def flO (out : List Fl) : List Ob := out.map fun f => pO f.2
def skR (b : Nat) (s : Sk) : Ob := .row b 65 (skL s) 49
def skO (b : Nat) (s : Sk) : List Ob := skR b s :: pO s.k0 :: pO s.k1 :: pO s.said :: .sl s.oA s.oc 56 2 (flL s.out) :: flO s.out
theorem flL_len (l : List Fl) : (flL l).length = l.length * 2 := by
  induction l with
  | nil => rfl
  | cons f r ih => simp only [flL, List.flatMap_cons, List.length_append] at ih ⊢; rw [ih]; simp [flV]; omega
theorem flL_one (l : List Fl) : ∀ v ∈ flL l, oneCell v = true := by
  intro v hv
  simp only [flL, List.mem_flatMap] at hv
  obtain ⟨x, _, hx⟩ := hv
  simp only [flV, List.mem_cons, List.not_mem_nil, or_false] at hx
  rcases hx with rfl | rfl <;> rfl
theorem flL_app (l m : List Fl) : flL (l ++ m) = flL l ++ flL m := by simp [flL]
theorem flO_app (l m : List Fl) : flO (l ++ m) = flO l ++ flO m := by simp [flO]
theorem flL_get0 {l : List Fl} {k : Nat} (hk : k < l.length) : (flL l)[k * 2]? = some (.int .i64 l[k].1) := by
  have h : flL l = flL (l.take k) ++ flL (l.drop k) := by rw [← flL_app, List.take_append_drop]
  have hl : (flL (l.take k)).length = k * 2 := by rw [flL_len, List.length_take, Nat.min_eq_left (by omega)]
  rw [h, List.getElem?_append_right (by omega), hl, Nat.sub_self, List.drop_eq_getElem_cons hk]
  rfl
theorem flL_get1 {l : List Fl} {k : Nat} (hk : k < l.length) : (flL l)[k * 2 + 1]? = some (pieceV l[k].2) := by
  have h : flL l = flL (l.take k) ++ flL (l.drop k) := by rw [← flL_app, List.take_append_drop]
  have hl : (flL (l.take k)).length = k * 2 := by rw [flL_len, List.length_take, Nat.min_eq_left (by omega)]
  rw [h, List.getElem?_append_right (by omega), hl, show k * 2 + 1 - k * 2 = 1 from by omega, List.drop_eq_getElem_cons hk]
  rfl
theorem flL_set1 (pre : List Fl) (lv : Int) (p q : Piece) : (flL (pre ++ [(lv, p)])).set (pre.length * 2 + 1) (pieceV q) = flL (pre ++ [(lv, q)]) := by
  rw [flL_app, flL_app, List.set_append_right _ _ (by rw [flL_len]; omega), flL_len, show pre.length * 2 + 1 - pre.length * 2 = 1 from by omega]
  rfl

/-- What is said at a level, laid to what has been said. -/
def sayL (o : List (Int × List UInt8)) (lv : Int) (m : List UInt8) : List (Int × List UInt8) :=
  match o.getLast? with
  | some (l, d) => if l = lv then o.dropLast ++ [(l, d ++ m)] else o ++ [(lv, m)]
  | none => [(lv, m)]
def outs (l : List Fl) : List (Int × List UInt8) := l.map fun f => (f.1, f.2.2.2)
def SayTo (b : Nat) (s : Sk) (k lv : Int) (xs : List UInt8) (v : Value) (own : List Ob) (N : Mp) : Prop :=
  ∃ A c oA oc out, v = .tuple #[] ∧ own = skO b { s with said := (A, c, s.said.2.2 ++ msg k xs), oA := oA, oc := oc, out := out } ∧ N = MT ∧ outs out = sayL (outs s.out) lv (msg k xs)
theorem vcStore1_eq {own : List Ob} {b : Addr} {i j : Nat} {v : Value} {k : List Ob → Prop} (o o' : Ob) (rest : List Ob) (ht : Take o own rest) (hb : o.base = some b) (hi : i + j < o.cells.length) (h1 : oneCell v = true) (e : o.set (i + j) v = o')
    (hk : k (o' :: rest)) : vcStore1 own ((b.add i).add j) v k := by subst e; exact vcStore1_1 o rest ht hb hi h1 hk
theorem vcStore2_eq {own : List Ob} {b : Addr} {i j l : Nat} {v : Value} {k : List Ob → Prop} (o o' : Ob) (rest : List Ob) (ht : Take o own rest) (hb : o.base = some b) (hi : i + j + l < o.cells.length) (h1 : oneCell v = true) (e : o.set (i + j + l) v = o')
    (hk : k (o' :: rest)) : vcStore1 own (((b.add i).add j).add l) v k := by subst e; exact vcStore1_2 o rest ht hb hi h1 hk
theorem Pick.snocA {s : List Ob} {o x : Ob} : ∃ r, Pick (s ++ [o]) (o :: x :: s) r := by
  obtain ⟨r, h, _⟩ := Pick.perm (s := s ++ [o]) (l := o :: x :: s) (r := [x]) (by rw [List.append_assoc]; exact List.perm_append_comm)
  exact ⟨r, h⟩
theorem Pick.snocB {s : List Ob} {o x : Ob} : ∃ r, Pick (s ++ [o]) (x :: o :: s) r := by
  obtain ⟨r, h, _⟩ := Pick.perm (s := s ++ [o]) (l := x :: o :: s) (r := [x]) (by rw [List.append_assoc]; exact List.perm_append_comm.trans (List.Perm.swap x o s))
  exact ⟨r, h⟩
theorem sayL_same (o : List (Int × List UInt8)) (l : Int) (d m : List UInt8) : sayL (o ++ [(l, d)]) l m = o ++ [(l, d ++ m)] := by simp [sayL]
theorem sayL_new {o : List (Int × List UInt8)} {l lv : Int} {d m : List UInt8} (h : l ≠ lv) : sayL (o ++ [(l, d)]) lv m = (o ++ [(l, d)]) ++ [(lv, m)] := by simp [sayL, h]
theorem say_spec (b : Nat) (s : Sk) (k lv : Int) (A : Option Addr) (c : Nat) (xs : List UInt8) (G : Mp) (h1 : Ent G (RowAt A (Bs xs))) (hx : xs.length ≤ 1099511627776) (hsd : s.said.2.2.length ≤ 1099511627776) (ho : s.out.length ≤ 1000) (hod : ∀ f ∈ s.out, f.2.2.2.length ≤ 1099511627776) :
    Spec Try.prog 34 #[.pointer (some ⟨b, 0, none⟩), .int .i64 k, .int .i64 lv, .slice A xs.length c] (skO b s) G (SayTo b s k lv xs) := by
  refine Spec.intro (args := [_, _, _, _]) wide Try.func34 rfl Try.call34 (by rfl) (by rfl) (fun w0 hw0 => ?_)
  refine vcCall_of .nil (msg_spec k A c xs _ (Ent.gnG h1) (by omega)) (fun v own' N' hv => ?_); obtain ⟨Am, cm, rfl, rfl, rfl, hcm⟩ := hv
  have hml := msg_length k xs
  refine vcLoad1_row (j := 40) (Ent.gnO (.there .here) (fun w hw => Ob.row_at hw)) rfl ?_
  refine vcApp_big (Bs s.said.2.2) _ (Bs (msg k xs)) (.there (.there (.there (.there .here)))) (by rw [Bs_length]; omega) (by rw [Bs_length]; omega) (by decide) (Bs_one _) (Ent.gnO .here (fun w hw => Ob.sl_at hw)) (by omega) (fun As cs hcs => ?_)
  have hsl : s.said.2.2.length + (msg k xs).length = (s.said.2.2 ++ msg k xs).length := by rw [List.length_append]
  refine vcStore1_eq (skR b s) (skR b { s with said := (As, cs, s.said.2.2 ++ msg k xs) }) _ (.there (.there .here)) rfl (by show (40 : Nat) < 49; decide) rfl (by rw [hsl]; rfl) ?_
  rw [← Bs_append]
  obtain ⟨s', hs'⟩ : ∃ s', s' = { s with said := (As, cs, s.said.2.2 ++ msg k xs) } := ⟨_, rfl⟩
  rw [← hs']
  have ho1 : s'.out = s.out := by rw [hs']
  have ho2 : s'.oA = s.oA := by rw [hs']
  have ho3 : s'.oc = s.oc := by rw [hs']
  have hk0 : s'.k0 = s.k0 := by rw [hs']
  have hk1 : s'.k1 = s.k1 := by rw [hs']
  have hsd' : s'.said = (As, cs, s.said.2.2 ++ msg k xs) := by rw [hs']
  refine vcLoad1_row (j := 41) (v := .slice s'.oA s'.out.length s'.oc) (Ent.gnO .here (fun w hw => Ob.row_at hw)) rfl ?_
  rw [← ho1] at ho hod
  rw [← ho2, ← ho3, ← hk0, ← hk1, ← ho1]
  have fin : ∀ (oA : Option Addr) (oc : Nat) (out : List Fl) (own : List Ob) (N : Mp), outs out = sayL (outs s'.out) lv (msg k xs) → (∃ rest, Pick (skO b { s' with oA := oA, oc := oc, out := out }) own rest) →
      ∃ (own' rest : List Ob) (N' : Mp), Pick own' own rest ∧ (∀ w, N w → Objs rest w → N' w) ∧ SayTo b s k lv xs (tupleOf []) own' N' :=
    fun oA oc out own N ho ⟨rest, hp⟩ => ⟨_, rest, MT, hp, fun _ _ _ => trivial, As, cs, oA, oc, out, rfl, by rw [hs'], rfl, by rw [ho, ho1]⟩
  have new : sayL (outs s'.out) lv (msg k xs) = outs s'.out ++ [(lv, msg k xs)] → True := fun _ => trivial
  have e41 : ∀ v, ((skR b s').set (41 + 0) v) = .row b 65 ((skL s').set 41 v) 49 := fun _ => rfl
  refine vcIf_dec (fun hpos => ?_) (fun hnil => ?_)
  · obtain hn | ⟨pre, ⟨l, p⟩, hout⟩ := List.eq_nil_or_concat s'.out
    · exfalso
      rw [hn] at hpos
      exact absurd hpos (by decide)
    rw [List.concat_eq_append] at hout
    have hlen : s'.out.length = pre.length + 1 := by rw [hout]; simp
    have hg : s'.out[pre.length]'(by omega) = (l, p) := by simp [hout]
    refine vcLoad1_row (j := 41) (v := .slice s'.oA s'.out.length s'.oc) (Ent.gnO .here (fun w hw => Ob.row_at hw)) rfl ?_
    refine vcFit_i64 (by omega) ?_
    refine vcIdx_nats (s := 2) pre.length (by omega) (Ent.gnO (by first | ((repeat (first | exact .here | apply Take.there)); done) | exact .none_) (fun w hw => Ob.sl_at hw)) (by omega) (by rw [flL_len]; exact Nat.le_refl _) (by omega) (fun a ha => ?_)
    refine vcLoad1_2 (xs := flL s'.out) (v := .int .i64 l) (Ent.gnO (o := .sl s'.oA s'.oc 56 2 (flL s'.out)) (by first | ((repeat (first | exact .here | apply Take.there)); done) | exact .none_) (fun w hw => by rw [← ha]; exact Ob.sl_at hw)) (by have := flL_get0 (l := s'.out) (k := pre.length) (by omega); rw [hg] at this; exact this) ?_
    refine vcIf_dec (fun hlv => ?_) (fun hlv => ?_)
    · subst hlv
      refine vcDraw_mix [0,1,2,3,4,5,6,7,8,9,10,11,12,13,14,15,16,17,18,19] (MpAnd (RowAt (some ⟨b, 0, none⟩) (skL s')) (RowAt s'.oA (flL s'.out))) (by kernel_rfl) (Ent.both (Ent.gnO .here (fun w hw => Ob.row_at hw)) (Ent.gnO (by first | ((repeat (first | exact .here | apply Take.there)); done) | exact .none_) (fun w hw => Ob.sl_at hw))) ?_
      refine vcLoad1_row (j := 41) (v := .slice s'.oA s'.out.length s'.oc) (fun w hw => hw.1) rfl ?_
      refine vcFit_i64 (by omega) ?_
      refine vcLoad1_row (j := 41) (v := .slice s'.oA s'.out.length s'.oc) (fun w hw => hw.1) rfl ?_
      refine vcFit_i64 (by omega) ?_
      refine vcIdx_nats (s := 2) pre.length (by omega) (fun w hw => hw.2) (by omega) (by rw [flL_len]; exact Nat.le_refl _) (by omega) (fun a' ha' => ?_)
      obtain rfl : a' = a := by rw [ha] at ha'; cases ha'; rfl
      refine vcLoad1_2 (xs := flL s'.out) (v := pieceV p) (fun w hw => by rw [← ha]; exact hw.2) (by have := flL_get1 (l := s'.out) (k := pre.length) (by omega); rw [hg] at this; exact this) ?_
      have hpl : p.2.2.length ≤ 1099511627776 := hod (l, p) (by rw [hout]; simp)
      have hfo : flO s'.out = flO pre ++ [pO p] := by rw [hout, flO_app]; rfl
      rw [hfo]
      refine vcApp_big (Bs p.2.2) _ (Bs (msg k xs)) (.there (.there (.there (.there (.there (.there Take.last)))))) (by rw [Bs_length]; omega) (by rw [Bs_length]; omega) (by decide) (Bs_one _) (Ent.gnO (by first | ((repeat (first | exact .here | apply Take.there)); done) | exact .none_) (fun w hw => Ob.sl_at hw)) (by omega) (fun Ad cd hcd => ?_)
      refine vcMix_same (Ent.both (Ent.gnO (.there .here) (fun w hw => Ob.row_at hw)) (Ent.gnO (by first | ((repeat (first | exact .here | apply Take.there)); done) | exact .none_) (fun w hw => Ob.sl_at hw))) ?_
      refine vcIdx_nats (s := 2) pre.length (by omega) (fun w hw => hw.2) (by omega) (by rw [flL_len]; exact Nat.le_refl _) (by omega) (fun a2 ha2 => ?_)
      obtain rfl : a2 = a' := by rw [ha] at ha2; cases ha2; rfl
      refine vcStore2_eq (.sl s'.oA s'.oc 56 2 (flL s'.out)) (.sl s'.oA s'.oc 56 2 (flL (pre ++ [(l, (Ad, cd, p.2.2 ++ msg k xs))]))) _ (by first | ((repeat (first | exact .here | apply Take.there)); done) | exact .none_) ha (by show pre.length * 2 + 1 + 0 < (flL s'.out).length; rw [flL_len]; omega) rfl
        (by show Ob.sl _ _ _ _ ((flL s'.out).set (pre.length * 2 + 1) (.slice Ad (p.2.2.length + (msg k xs).length) cd)) = _; rw [hout, ← List.length_append]; exact congrArg _ (flL_set1 pre l p (Ad, cd, p.2.2 ++ msg k xs))) ?_
      refine vcMix_last (by kernel_rfl) ?_
      rw [← Bs_append]
      refine fin s'.oA s'.oc (pre ++ [(l, (Ad, cd, p.2.2 ++ msg k xs))]) _ _ (by rw [hout]; simp only [outs, List.map_append, List.map_cons, List.map_nil]; rw [sayL_same]) ?_
      obtain ⟨r, hr⟩ := Pick.snocA (s := flO pre) (o := pO (Ad, cd, p.2.2 ++ msg k xs)) (x := .sl Am cm 5 1 (Bs (msg k xs)))
      have e1 : skR b s' = skR b { s' with oA := s'.oA, oc := s'.oc, out := pre ++ [(l, (Ad, cd, p.2.2 ++ msg k xs))] } := by
        have : s'.out.length = (pre ++ [(l, ((Ad, cd, p.2.2 ++ msg k xs) : Piece))]).length := by rw [hout]; simp
        unfold skR skL
        simp only [this]
      refine ⟨r, .cons (.there (.there (Take.eq e1.symm))) (.cons (.there (.there (.there (.there .here)))) (.cons (.there (.there (.there (.there .here)))) (.cons (.there (.there (Take.eq (by rw [hsd']; rfl)))) (.cons .here ?_))))⟩
      rw [show flO (pre ++ [(l, (Ad, cd, p.2.2 ++ msg k xs))]) = flO pre ++ [pO (Ad, cd, p.2.2 ++ msg k xs)] from by rw [flO_app]; rfl]
      exact hr
    · have hsay : sayL (outs s'.out) lv (msg k xs) = outs s'.out ++ [(lv, msg k xs)] := by
        rw [hout]
        simp only [outs, List.map_append, List.map_cons, List.map_nil]
        exact sayL_new (fun e => hlv (by rw [e]))
      refine vcLoad1_row (j := 41) (v := .slice s'.oA s'.out.length s'.oc) (Ent.gnO .here (fun w hw => Ob.row_at hw)) rfl ?_
      intro b2
      refine vcApp_of (flL s'.out) _ [.int .i64 lv, .slice Am (msg k xs).length cm] (.there (.there (.there (.there (.there (.there .here)))))) (flL_len _) rfl (by decide) (by intro v hv; simp only [List.mem_cons, List.not_mem_nil, or_false] at hv; rcases hv with rfl | rfl <;> rfl) (Ent.gnO .here (fun w hw => Ob.sl_at hw)) (by omega) (by omega) (fun A2 c2 hc2 => ?_)
      have hfl : flL s'.out ++ [.int .i64 lv, .slice Am (msg k xs).length cm] = flL (s'.out ++ [(lv, (Am, cm, msg k xs))]) := by rw [flL_app]; rfl
      have hl2 : (s'.out ++ [(lv, ((Am, cm, msg k xs) : Piece))]).length = s'.out.length + 1 := by simp
      rw [hfl]
      refine vcStore1_eq (skR b s') (skR b { s' with oA := A2, oc := c2, out := s'.out ++ [(lv, (Am, cm, msg k xs))] }) _ (.there (.there .here)) rfl (by show (41 : Nat) < 49; decide) rfl (by
        show Ob.row b _ ((skL s').set 41 (.slice A2 (s'.out.length + 1) c2)) 49 = _
        rw [← hl2]; rfl) ?_
      refine fin A2 c2 (s'.out ++ [(lv, (Am, cm, msg k xs))]) _ _ (by rw [hsay]; simp only [outs, List.map_append, List.map_cons, List.map_nil]) ?_
      obtain ⟨r, hr⟩ := Pick.snocB (s := flO s'.out) (o := pO (Am, cm, msg k xs)) (x := .sl (some ⟨b2, 0, none⟩) 1 56 2 [.int .i64 lv, .slice Am (msg k xs).length cm])
      refine ⟨r, .cons .here (.cons (.there (.there (.there (.there .here)))) (.cons (.there (.there (.there (.there .here)))) (.cons (.there (.there (Take.eq (by rw [hsd']; rfl)))) (.cons .here ?_))))⟩
      rw [show flO (s'.out ++ [(lv, (Am, cm, msg k xs))]) = flO s'.out ++ [pO (Am, cm, msg k xs)] from by rw [flO_app]; rfl]
      exact hr
  · have hn : s'.out = [] := List.eq_nil_of_length_eq_zero (by omega)
    have hsay : sayL (outs s'.out) lv (msg k xs) = outs s'.out ++ [(lv, msg k xs)] := by rw [hn]; rfl
    refine vcLoad1_row (j := 41) (v := .slice s'.oA s'.out.length s'.oc) (Ent.gnO .here (fun w hw => Ob.row_at hw)) rfl ?_
    intro b2
    refine vcApp_of (flL s'.out) _ [.int .i64 lv, .slice Am (msg k xs).length cm] (.there (.there (.there (.there (.there (.there .here)))))) (flL_len _) rfl (by decide) (by intro v hv; simp only [List.mem_cons, List.not_mem_nil, or_false] at hv; rcases hv with rfl | rfl <;> rfl) (Ent.gnO .here (fun w hw => Ob.sl_at hw)) (by omega) (by omega) (fun A2 c2 hc2 => ?_)
    have hfl : flL s'.out ++ [.int .i64 lv, .slice Am (msg k xs).length cm] = flL (s'.out ++ [(lv, (Am, cm, msg k xs))]) := by rw [flL_app]; rfl
    have hl2 : (s'.out ++ [(lv, ((Am, cm, msg k xs) : Piece))]).length = s'.out.length + 1 := by simp
    rw [hfl]
    refine vcStore1_eq (skR b s') (skR b { s' with oA := A2, oc := c2, out := s'.out ++ [(lv, (Am, cm, msg k xs))] }) _ (.there (.there .here)) rfl (by show (41 : Nat) < 49; decide) rfl (by
      show Ob.row b _ ((skL s').set 41 (.slice A2 (s'.out.length + 1) c2)) 49 = _
      rw [← hl2]; rfl) ?_
    refine fin A2 c2 (s'.out ++ [(lv, (Am, cm, msg k xs))]) _ _ (by rw [hsay]; simp only [outs, List.map_append, List.map_cons, List.map_nil]) ?_
    obtain ⟨r, hr⟩ := Pick.snocB (s := flO s'.out) (o := pO (Am, cm, msg k xs)) (x := .sl (some ⟨b2, 0, none⟩) 1 56 2 [.int .i64 lv, .slice Am (msg k xs).length cm])
    refine ⟨r, .cons .here (.cons (.there (.there (.there (.there .here)))) (.cons (.there (.there (.there (.there .here)))) (.cons (.there (.there (Take.eq (by rw [hsd']; rfl)))) (.cons .here ?_))))⟩
    rw [show flO (s'.out ++ [(lv, (Am, cm, msg k xs))]) = flO s'.out ++ [pO (Am, cm, msg k xs)] from by rw [flO_app]; rfl]
    exact hr
end Go.Proofs.Yticllmnblcjjcaa
end

section
/- Contracts that keep what they drop as facts. -/
namespace Go.Proofs.Yticllmnblcjjcaa
open Go.Proofs

/-- A contract that keeps what it drops as facts. -/
theorem Spec.drop {P : Program} {f : FuncId} {args : Array Value} {A : List Ob} {G : Mp} {Post Post' : Value → List Ob → Mp → Prop} (h : Spec P f args A G Post)
    (hp : ∀ v own N, Post v own N → ∃ own' rest N', own = own' ++ rest ∧ (∀ w, N w → Objs rest w → N' w) ∧ Post' v own' N') : Spec P f args A G Post' :=
  ⟨h.1, fun w hw => (h.2 w hw).mono fun _ _ ⟨v, own, N, he, hP, hi⟩ => by
    obtain ⟨own', rest, N', rfl, hN, hP'⟩ := hp _ _ _ hP
    exact ⟨v, own', N', he, hP', Inv.drop hi hN⟩⟩
/-- Bytes that stay as they are. -/
def GetB (bs : List UInt8) (v : Value) (own : List Ob) (N : Mp) : Prop := ∃ A c, v = .slice A bs.length c ∧ own = [] ∧ Ent N (RowAt A (Bs bs)) ∧ bs.length ≤ c
theorem Spec.getB {P : Program} {f : FuncId} {args : Array Value} {A : List Ob} {G : Mp} {bs : List UInt8} (h : Spec P f args A G (OwnB bs)) : Spec P f args A G (GetB bs) :=
  h.drop fun v own N hv => by
    obtain ⟨A', c', rfl, rfl, rfl, hc⟩ := hv
    exact ⟨[], _, RowAt A' (Bs bs), rfl, fun w _ ho => Ob.sl_at (ho _ (List.mem_singleton.2 rfl)), A', c', rfl, rfl, Ent.refl, hc⟩
theorem copyG_spec (A : Option Addr) (c : Nat) (xs : List UInt8) (G : Mp) (h1 : Ent G (RowAt A (Bs xs))) (hx : xs.length ≤ 281474976710656) :
    Spec Try.prog 20 #[.slice A xs.length c] [] G (GetB xs) := (copy_spec A c xs G h1 hx).getB
theorem cutA_0 (A : Option Addr) (cap size : Nat) : cutA A cap 0 size = A := by
  unfold cutA
  split
  · rfl
  · cases A with
    | none => rfl
    | some a => simp [Addr.add]
end Go.Proofs.Yticllmnblcjjcaa
end

section
/- Layer 10: what a side tells; its secrets. -/
namespace Go.Proofs.Yticllmnblcjjcaa
open Go.Proofs
set_option maxRecDepth 10000

theorem RowAt.part {a : Addr} {xs : List Value} {w : World} (n : Nat) {ys : List Value} (h : RowAt (some a) xs w) (hy : ∀ i u, ys[i]? = some u → xs[n + i]? = some u) : RowAt (some (a.add n)) ys w := by
  intro i u hi
  obtain ⟨a', ha, hc⟩ := h (n + i) u (hy i u hi)
  cases ha
  exact ⟨_, rfl, by rw [add_add]; exact hc⟩
theorem rn_part {v : Value} {r : Nat → UInt8} {t : List Value} : ∀ i u, (Bs (rn r))[i]? = some u → (v :: (Bs (rn r) ++ t))[1 + i]? = some u := by
  intro i u h
  rw [Nat.add_comm, List.getElem?_cons_succ, List.getElem?_append_left (List.getElem?_eq_some_iff.1 h).1]
  exact h
theorem rn_len (r : Nat → UInt8) : (rn r).length = 32 := rfl
def helloL (r : Nat → UInt8) (priv : Int) : List UInt8 := rn r ++ be 8 (powN 37 priv)
theorem helloL_len (r : Nat → UInt8) (priv : Int) : (helloL r priv).length = 40 := by unfold helloL; rw [List.length_append, be_length]; rfl
theorem hello_spec (b : Nat) (s : Sk) (G : Mp) (h : Ent G (RowAt (some ⟨b, 0, none⟩) (skL s))) (hp : s.priv ≤ 9223372036854775807) :
    Spec Try.prog 33 #[.pointer (some ⟨b, 0, none⟩)] [] G (OwnB (helloL s.rnd s.priv)) := by
  refine Spec.intro (args := [_]) wide Try.func33 rfl Try.call33 (by rfl) (by rfl) (fun w0 hw0 => ?_)
  refine vcDraw_mix [0,1,2,3,4,6,7,8,9,10,5,11,12,13,14] (RowAt (some ⟨b, 0, none⟩) (skL s)) (by kernel_rfl) (Ent.gnG h) ?_
  refine vcRange_of (by omega) ?_
  refine vcLoad1_2 (v := .int .i64 s.priv) (xs := skL s) (fun w hw => hw) rfl ?_
  refine vcCall_of .nil (clone_spec (some ((⟨b, 0, none⟩ : Addr).add 1)) 32 (rn s.rnd) _ (fun w hw => RowAt.part 1 (h w hw.1.1) rn_part) (by rw [rn_len]; decide)) (fun v own' N' hv => ?_)
  obtain ⟨A1, c1, rfl, rfl, rfl, hc1⟩ := hv
  refine vcMix_same (Ent.gnG h) ?_
  refine vcCall_of .nil (public_spec s.priv hp _) (fun v own' N' hv => ?_); obtain ⟨rfl, rfl, rfl⟩ := hv
  refine vcMix_same (Ent.gnG h) ?_
  refine vcCall_of .nil (eight_spec (powN 37 s.priv) _) (fun v own' N' hv => ?_)
  obtain ⟨A2, c2, rfl, rfl, rfl, hc2⟩ := hv
  refine vcMix_same (Ent.gnG h) ?_
  refine vcApp_big (Bs (rn s.rnd)) _ (Bs (be 8 (powN 37 s.priv))) (.there .here) rfl (by rw [Bs_length, Nat.mul_one]) (by decide) (Bs_one _) (Ent.gnO .here (fun w hw => Ob.sl_at hw)) (by rw [rn_len, be_length]; decide) (fun A3 c3 hc3 => ?_)
  refine vcMix_same (Ent.gnG h) ?_
  rw [← Bs_append]
  have hl : (rn s.rnd).length + (be 8 (powN 37 s.priv)).length = (helloL s.rnd s.priv).length := by unfold helloL; rw [List.length_append]
  rw [hl] at hc3 ⊢
  exact ⟨_, _, MT, .cons .here .nil, fun _ _ _ => trivial, A3, c3, rfl, rfl, rfl, hc3⟩

def OutTo (b : Nat) (s : Sk) (v : Value) (own : List Ob) (N : Mp) : Prop :=
  v = .slice s.oA s.out.length s.oc ∧ own = skO b { s with oA := none, oc := 0, out := [] } ++ .sl s.oA s.oc 56 2 (flL s.out) :: flO s.out ∧ N = MT
theorem out_spec (b : Nat) (s : Sk) (G : Mp) : Spec Try.prog 21 #[.pointer (some ⟨b, 0, none⟩)] (skO b s) G (OutTo b s) := by
  refine Spec.intro (args := [_]) wide Try.func21 rfl Try.call21 (by rfl) (by rfl) (fun w0 hw0 => ?_)
  refine vcLoad1_row (j := 41) (v := .slice s.oA s.out.length s.oc) (Ent.gnO .here (fun w hw => Ob.row_at hw)) rfl ?_
  refine vcStore1_eq (skR b s) (skR b { s with oA := none, oc := 0, out := [] }) _ .here rfl (by show (41 : Nat) < 49; decide) rfl rfl ?_
  refine ⟨_, [], MT, ?_, fun _ _ _ => trivial, rfl, rfl, rfl⟩
  exact .cons .here (.cons .here (.cons .here (.cons .here (.cons .none_ (.cons .here Pick.whole)))))
theorem done_spec (b : Nat) (s : Sk) (G : Mp) (h : Ent G (RowAt (some ⟨b, 0, none⟩) (skL s))) : Spec Try.prog 8 #[.pointer (some ⟨b, 0, none⟩)] [] G (Ret (.bool (decide (s.ws.length = 0)))) := by
  refine Spec.intro (args := [_]) wide Try.func8 rfl Try.call8 (by rfl) (by rfl) (fun w0 hw0 => ?_)
  refine vcLoad1_row (j := 36) (v := .slice s.wA s.ws.length s.wc) (Ent.gnG h) rfl ?_
  refine ⟨[], _, MT, .nil, fun _ _ _ => trivial, ?_, rfl, rfl⟩
  exact congrArg Value.bool (decide_eq_decide.2 (by omega))
theorem proto_spec (b : Nat) (s : Sk) (G : Mp) (h : Ent G (RowAt (some ⟨b, 0, none⟩) (skL s))) : Spec Try.prog 13 #[.pointer (some ⟨b, 0, none⟩)] [] G (Ret (.string s.proto)) := by
  refine Spec.intro (args := [_]) wide Try.func13 rfl Try.call13 (by rfl) (by rfl) (fun w0 hw0 => ?_)
  refine vcLoad1_row (j := 47) (v := .string s.proto) (Ent.gnG h) rfl ?_
  exact ⟨[], _, MT, .nil, fun _ _ _ => trivial, rfl, rfl, rfl⟩
theorem peer_spec (b : Nat) (s : Sk) (G : Mp) (h : Ent G (RowAt (some ⟨b, 0, none⟩) (skL s))) (hp : Ent G (RowAt s.peer.1 (Bs s.peer.2.2))) (hl : s.peer.2.2.length ≤ 1099511627776) :
    Spec Try.prog 17 #[.pointer (some ⟨b, 0, none⟩)] [] G (OwnB s.peer.2.2) := by
  refine Spec.intro (args := [_]) wide Try.func17 rfl Try.call17 (by rfl) (by rfl) (fun w0 hw0 => ?_)
  refine vcLoad1_row (j := 48) (v := pieceV s.peer) (Ent.gnG h) rfl ?_
  refine vcCall_of .nil (clone_spec s.peer.1 s.peer.2.1 s.peer.2.2 _ (Ent.gnG hp) (by omega)) (fun v own' N' hv => ?_)
  obtain ⟨A1, c1, rfl, rfl, rfl, hc1⟩ := hv
  exact ⟨_, _, MT, .cons .here .nil, fun _ _ _ => trivial, A1, c1, rfl, rfl, rfl, hc1⟩
def GivTo (p q : Piece) (v : Value) (own : List Ob) (N : Mp) : Prop :=
  ∃ A c A' c', v = .tuple #[.agg #[.slice A p.2.2.length c, .slice A' q.2.2.length c'], .bool p.1.isSome] ∧ own = [pO (A, c, p.2.2), pO (A', c', q.2.2)] ∧ N = MT
theorem given_spec (p q : Piece) (G : Mp) (h1 : Ent G (RowAt p.1 (Bs p.2.2))) (h2 : Ent G (RowAt q.1 (Bs q.2.2))) (l1 : p.2.2.length ≤ 1099511627776) (l2 : q.2.2.length ≤ 1099511627776) :
    Spec Try.prog 37 #[.agg #[pieceV p, pieceV q]] [] G (GivTo p q) := by
  refine Spec.intro (args := [_]) wide Try.func37 rfl Try.call37 (by rfl) (by rfl) (fun w0 hw0 => ?_)
  intro b1 b2
  refine vcDraw_mix [0,1,3,4,7,8,9,2,5,6,10,11] (RowAt (some ⟨b1, 0, none⟩) [pieceV p, pieceV q]) (by kernel_rfl) (Ent.gnO (.there .here) (fun w hw => Ob.row_at hw)) ?_
  refine vcLoad1_row (j := 0) (v := pieceV p) Ent.refl rfl ?_
  refine vcLoad1_row (j := 1) (v := pieceV q) Ent.refl rfl ?_
  refine vcLoad1_row (j := 0) (v := pieceV p) Ent.refl rfl ?_
  refine vcCall_of .nil (clone_spec p.1 p.2.1 p.2.2 _ (Ent.gnG h1) (by omega)) (fun v own' N' hv => ?_)
  obtain ⟨A1, c1, rfl, rfl, rfl, hc1⟩ := hv
  refine vcMix_same (Ent.gnO (by first | ((repeat (first | exact .here | apply Take.there)); done) | exact .none_) (fun w hw => Ob.row_at hw)) ?_
  refine vcCall_of .nil (clone_spec q.1 q.2.1 q.2.2 _ (Ent.gnG h2) (by omega)) (fun v own' N' hv => ?_)
  obtain ⟨A2, c2, rfl, rfl, rfl, hc2⟩ := hv
  refine vcMix_same (Ent.gnO (by first | ((repeat (first | exact .here | apply Take.there)); done) | exact .none_) (fun w hw => Ob.row_at hw)) ?_
  refine ⟨rfl, vcStoreN_row _ (.there (.there .here)) rfl (by intro v hv; change v ∈ [Value.slice A1 p.2.2.length c1, Value.slice A2 q.2.2.length c2] at hv; simp only [List.mem_cons, List.not_mem_nil, or_false] at hv; rcases hv with rfl | rfl <;> rfl) ?_⟩
  refine vcMix_same (Ent.gnO (by first | ((repeat (first | exact .here | apply Take.there)); done) | exact .none_) (fun w hw => Ob.row_at hw)) ?_
  refine vcLoadN_0 (xs := [Value.slice A1 p.2.2.length c1, Value.slice A2 q.2.2.length c2]) (Ent.gnO .here (fun w hw => Ob.row_at hw)) rfl ?_
  refine ⟨[pO (A1, c1, p.2.2), pO (A2, c2, q.2.2)], _, MT, .cons (.there (.there .here)) (.cons (.there .here) .nil), fun _ _ _ => trivial, A1, c1, A2, c2, ?_, rfl, rfl⟩
  have e : (!p.1.isNone) = p.1.isSome := by cases p.1 <;> rfl
  rw [← e]
  rfl
theorem hand_spec (b : Nat) (s : Sk) (G : Mp) (h : Ent G (RowAt (some ⟨b, 0, none⟩) (skL s))) (h1 : Ent G (RowAt s.hc.1 (Bs s.hc.2.2))) (h2 : Ent G (RowAt s.hs.1 (Bs s.hs.2.2))) (l1 : s.hc.2.2.length ≤ 1099511627776) (l2 : s.hs.2.2.length ≤ 1099511627776) :
    Spec Try.prog 14 #[.pointer (some ⟨b, 0, none⟩)] [] G (GivTo s.hc s.hs) := by
  refine Spec.intro (args := [_]) wide Try.func14 rfl Try.call14 (by rfl) (by rfl) (fun w0 hw0 => ?_)
  intro b2
  refine vcLoadN_1 [pieceV s.hc, pieceV s.hs] (Ent.gnG h) rfl rfl ?_
  refine vcCall_of .nil (given_spec s.hc s.hs _ (Ent.gnG h1) (Ent.gnG h2) l1 l2) (fun v own' N' hv => ?_)
  obtain ⟨A1, c1, A2, c2, rfl, rfl, rfl⟩ := hv
  refine ⟨rfl, vcStoreN_row _ (.there (.there .here)) rfl (by intro v hv; change v ∈ [Value.slice A1 s.hc.2.2.length c1, Value.slice A2 s.hs.2.2.length c2] at hv; simp only [List.mem_cons, List.not_mem_nil, or_false] at hv; rcases hv with rfl | rfl <;> rfl) ?_⟩
  refine vcLoadN_0 (xs := [Value.slice A1 s.hc.2.2.length c1, Value.slice A2 s.hs.2.2.length c2]) (Ent.gnO .here (fun w hw => Ob.row_at hw)) rfl ?_
  exact ⟨[pO (A1, c1, s.hc.2.2), pO (A2, c2, s.hs.2.2)], _, MT, .cons (.there .here) (.cons (.there .here) .nil), fun _ _ _ => trivial, A1, c1, A2, c2, rfl, rfl, rfl⟩
theorem app_spec (b : Nat) (s : Sk) (G : Mp) (h : Ent G (RowAt (some ⟨b, 0, none⟩) (skL s))) (h1 : Ent G (RowAt s.ac.1 (Bs s.ac.2.2))) (h2 : Ent G (RowAt s.as_.1 (Bs s.as_.2.2))) (l1 : s.ac.2.2.length ≤ 1099511627776) (l2 : s.as_.2.2.length ≤ 1099511627776) :
    Spec Try.prog 15 #[.pointer (some ⟨b, 0, none⟩)] [] G (GivTo s.ac s.as_) := by
  refine Spec.intro (args := [_]) wide Try.func15 rfl Try.call15 (by rfl) (by rfl) (fun w0 hw0 => ?_)
  intro b2
  refine vcLoadN_1 [pieceV s.ac, pieceV s.as_] (Ent.gnG h) rfl rfl ?_
  refine vcCall_of .nil (given_spec s.ac s.as_ _ (Ent.gnG h1) (Ent.gnG h2) l1 l2) (fun v own' N' hv => ?_)
  obtain ⟨A1, c1, A2, c2, rfl, rfl, rfl⟩ := hv
  refine ⟨rfl, vcStoreN_row _ (.there (.there .here)) rfl (by intro v hv; change v ∈ [Value.slice A1 s.ac.2.2.length c1, Value.slice A2 s.as_.2.2.length c2] at hv; simp only [List.mem_cons, List.not_mem_nil, or_false] at hv; rcases hv with rfl | rfl <;> rfl) ?_⟩
  refine vcLoadN_0 (xs := [Value.slice A1 s.ac.2.2.length c1, Value.slice A2 s.as_.2.2.length c2]) (Ent.gnO .here (fun w hw => Ob.row_at hw)) rfl ?_
  exact ⟨[pO (A1, c1, s.ac.2.2), pO (A2, c2, s.as_.2.2)], _, MT, .cons (.there .here) (.cons (.there .here) .nil), fun _ _ _ => trivial, A1, c1, A2, c2, rfl, rfl, rfl⟩
end Go.Proofs.Yticllmnblcjjcaa
end

section
/- Layer 10: shake.New. -/
namespace Go.Proofs.Yticllmnblcjjcaa
open Go.Proofs
set_option maxRecDepth 10000

def nilP : Piece := (none, 0, [])
def psL (ps : List ByteArray) : List UInt8 := ps.flatMap fun p => txt p.data.toList
theorem psL_snoc {ps : List ByteArray} {k : Nat} (h : k < ps.length) : psL (ps.take (k + 1)) = psL (ps.take k) ++ txt ps[k].data.toList := by rw [take_snoc_get h, psL, List.flatMap_append]; simp [psL]
def bodyL (r : Nat → UInt8) (priv : Int) (ps : List ByteArray) (par : List UInt8) : List UInt8 := helloL r priv ++ [UInt8.ofNat (ps.length % 256)] ++ psL ps ++ lng par
def goodC (priv : Int) (ps : List ByteArray) (par : List UInt8) : Prop := 1 ≤ priv ∧ priv ≤ 4611686018427387903 ∧ goodL ps ∧ par.length ≤ 1024
instance (priv : Int) (ps : List ByteArray) (par : List UInt8) : Decidable (goodC priv ps par) := inferInstanceAs (Decidable (_ ∧ _ ∧ _ ∧ _))
def wsServer : List Wn := [⟨1, 0, 28⟩, ⟨20, 1, 29⟩]
def wsClient : List Wn := [⟨2, 0, 30⟩, ⟨8, 1, 31⟩, ⟨20, 1, 32⟩]
/-- A side as it begins; what it said, and where its things lie, given. -/
def sk0 (server : Bool) (r : Nat → UInt8) (priv : Int) (pA : Option Addr) (pc : Nat) (ps : List ByteArray) (par : Piece) (wA : Option Addr) (wc : Nat) (ws : List Wn) : Sk :=
  ⟨server, r, priv, pA, pc, ps, par, wA, wc, ws, nilP, nilP, false, nilP, none, 0, [], nilP, nilP, nilP, nilP, nilP, ByteArray.mk #[], nilP⟩
def SkF (s : Sk) : Mp := fun w => RowAt s.pA (stL s.ps) w ∧ RowAt s.wA (wnL s.ws) w ∧ ∀ p ∈ [s.par, s.root, s.hc, s.hs, s.ac, s.as_, s.peer], RowAt p.1 (Bs p.2.2) w
def hi0 (server : Bool) (r : Nat → UInt8) (priv : Int) (ps : List ByteArray) (par : List UInt8) : List UInt8 := if server then [] else msg 1 (bodyL r priv ps par)
def NewTo (server : Bool) (r : Nat → UInt8) (priv : Int) (ps : List ByteArray) (par : List UInt8) (v : Value) (own : List Ob) (N : Mp) : Prop :=
  (goodC priv ps par ∧ ∃ b pA pc pp pcc wA wc A c oA oc out, v = .tuple #[.pointer (some ⟨b, 0, none⟩), .int .i64 0] ∧
    own = skO b { sk0 server r priv pA pc ps (pp, pcc, par) wA wc (if server then wsServer else wsClient) with said := (A, c, hi0 server r priv ps par), oA := oA, oc := oc, out := out } ∧
    Ent N (SkF (sk0 server r priv pA pc ps (pp, pcc, par) wA wc (if server then wsServer else wsClient))) ∧
    outs out = (if server then [] else [(0, hi0 server r priv ps par)]) ∧ (if server then wsServer else wsClient).length ≤ wc) ∨
  (¬ goodC priv ps par ∧ v = .tuple #[.pointer none, .int .i64 100] ∧ own = [] ∧ N = MT)
theorem nil_row {w : World} : RowAt none (Bs []) w := fun i u h => by cases i <;> cases h
set_option maxHeartbeats 1000000 in
theorem new_spec (server : Bool) (r : Nat → UInt8) (priv : Int) (pA : Option Addr) (pc : Nat) (ps : List ByteArray) (par : Piece) (G : Mp) (h1 : Ent G (RowAt pA (stL ps))) (h2 : Ent G (RowAt par.1 (Bs par.2.2))) (hl : ps.length ≤ 9223372036854775807) :
    Spec Try.prog 9 #[.agg (cfL server r priv pA pc ps par).toArray] [] G (NewTo server r priv ps par.2.2) := by
  refine Spec.intro (args := [_]) wide Try.func9 rfl Try.call9 (by rfl) (by rfl) (fun w0 hw0 => ?_)
  intro b1
  have bad : ∀ (own : List Ob) (N : Mp), ¬ goodC priv ps par.2.2 → ∃ (own' rest : List Ob) (N' : Mp), Pick own' own rest ∧ (∀ w, N w → Objs rest w → N' w) ∧ NewTo server r priv ps par.2.2 (.tuple #[.pointer none, .int .i64 100]) own' N' :=
    fun own N h => ⟨[], own, MT, .nil, fun _ _ _ => trivial, .inr ⟨h, rfl, rfl, rfl⟩⟩
  refine vcLoad1_row (j := 33) (v := .int .i64 priv) (Ent.gnO .here (fun w hw => Ob.row_at hw)) rfl ?_
  refine vcIf_dec (fun ha => ?_) (fun ha => ?_)
  · exact bad _ _ (fun h => by have := h.1; omega)
  refine vcLoad1_row (j := 33) (v := .int .i64 priv) (Ent.gnO .here (fun w hw => Ob.row_at hw)) rfl ?_
  refine vcIf_dec (fun hb => ?_) (fun hb => ?_)
  · exact bad _ _ (fun h => by have := h.2.1; omega)
  refine vcLoad1_row (j := 34) (v := .slice pA ps.length pc) (Ent.gnO .here (fun w hw => Ob.row_at hw)) rfl ?_
  refine vcCall_of .nil (right_spec pA pc ps _ (Ent.gnG h1) hl) (fun v own' N' hv => ?_); obtain ⟨rfl, rfl, rfl⟩ := hv
  refine vcIf_ndec (fun hg => ?_) (fun hg => ?_)
  · exact bad _ _ (fun h => hg h.2.2.1)
  refine vcLoad1_row (j := 35) (v := pieceV par) (Ent.gnO .here (fun w hw => Ob.row_at hw)) rfl ?_
  refine vcIf_dec (fun hm => ?_) (fun hm => ?_)
  · exact bad _ _ (fun h => by have := h.2.2.2; omega)
  have hgood : goodC priv ps par.2.2 := ⟨by omega, by omega, hg, by omega⟩
  have hps : ps.length ≤ 8 := hg.2.1
  have hparl : par.2.2.length ≤ 1024 := by omega
  refine vcDraw_mix [0,1,3,4,2,6,5,7,8,9] (RowAt (some ⟨b1, 0, none⟩) (cfL server r priv pA pc ps par)) (by kernel_rfl) (Ent.gnO .here (fun w hw => Ob.row_at hw)) ?_
  refine vcLoad1_row (j := 34) (v := .slice pA ps.length pc) Ent.refl rfl ?_
  refine vcLoad1_row (j := 35) (v := pieceV par) Ent.refl rfl ?_
  refine vcCall_of .nil (sclone_spec pA pc ps _ (Ent.gnG h1) (by omega)) (fun v own' N' hv => ?_)
  obtain ⟨pA2, pc2, rfl, rfl, rfl, hpc2⟩ := hv
  refine vcMix_same (Ent.gnO (by first | ((repeat (first | exact .here | apply Take.there)); done) | exact .none_) (fun w hw => Ob.row_at hw)) ?_
  refine vcCall_of .nil (clone_spec par.1 par.2.1 par.2.2 _ (Ent.gnG h2) (by omega)) (fun v own' N' hv => ?_)
  obtain ⟨pp, pcc, rfl, rfl, rfl, hpcc⟩ := hv
  refine vcMix_same (Ent.gnO (.there (.there .here)) (fun w hw => Ob.row_at hw)) ?_
  refine vcStore1_eq (.row b1 26 (cfL server r priv pA pc ps par) 36) (.row b1 26 (cfL server r priv pA2 pc2 ps par) 36) _ (.there (.there .here)) rfl (by show (34 : Nat) < 36; decide) rfl rfl ?_
  refine vcMix_last (by kernel_rfl) ?_
  refine vcStore1_eq (.row b1 26 (cfL server r priv pA2 pc2 ps par) 36) (.row b1 26 (cfL server r priv pA2 pc2 ps (pp, pcc, par.2.2)) 36) _ .here rfl (by show (35 : Nat) < 36; decide) rfl rfl ?_
  refine vcMix_last (by kernel_rfl) ?_
  refine vcLoadN_0 (xs := cfL server r priv pA2 pc2 ps (pp, pcc, par.2.2)) (Ent.gnO .here (fun w hw => Ob.row_at hw)) rfl ?_
  intro b2
  refine vcLoad1_row (j := 0) (v := .bool server) (xs := cfL server r priv pA2 pc2 ps (pp, pcc, par.2.2)) (Ent.gnO (.there .here) (fun w hw => Ob.row_at hw)) rfl ?_
  have facts : ∀ (b3 n : Nat) (ws : List Wn) (own : List Ob) (N : Mp), (Ob.sl (some ⟨b3, 0, none⟩) n 71 3 (wnL ws) ∈ own) → (Ob.sl pp pcc 5 1 (Bs par.2.2) ∈ own) → (Ob.sl pA2 pc2 9 1 (stL ps) ∈ own) →
      ∀ w, N w → Objs own w → SkF (sk0 server r priv pA2 pc2 ps (pp, pcc, par.2.2) (some ⟨b3, 0, none⟩) n ws) w := by
    intro b3 n ws own N m1 m2 m3 w _ ho
    refine ⟨Ob.sl_at (ho _ m3), Ob.sl_at (ho _ m1), ?_⟩
    intro p hp
    simp only [sk0, List.mem_cons, List.not_mem_nil, or_false] at hp
    rcases hp with rfl | rfl | rfl | rfl | rfl | rfl | rfl
    · exact Ob.sl_at (ho _ m2)
    all_goals exact nil_row
  refine vcIf_split (fun hsv => ?_) (fun hsv => ?_)
  · subst hsv
    intro b3
    refine vcStore1_eq (skR b2 (sk0 true r priv pA2 pc2 ps (pp, pcc, par.2.2) none 0 [])) (skR b2 (sk0 true r priv pA2 pc2 ps (pp, pcc, par.2.2) (some ⟨b3, 0, none⟩) 2 wsServer)) _ (.there .here) rfl (by show (36 : Nat) < 49; decide) rfl rfl ?_
    refine ⟨skO b2 (sk0 true r priv pA2 pc2 ps (pp, pcc, par.2.2) (some ⟨b3, 0, none⟩) 2 wsServer), _, SkF (sk0 true r priv pA2 pc2 ps (pp, pcc, par.2.2) (some ⟨b3, 0, none⟩) 2 wsServer), .cons .here (.cons .none_ (.cons .none_ (.cons .none_ (.cons .none_ .nil)))), facts b3 2 wsServer _ _ (by simp [wnL, wsServer]) (by simp) (by simp), ?_⟩
    exact .inl ⟨hgood, b2, pA2, pc2, pp, pcc, some ⟨b3, 0, none⟩, 2, none, 0, none, 0, [], rfl, rfl, Ent.refl, rfl, by decide⟩
  · subst hsv
    intro b3
    refine vcStore1_eq (skR b2 (sk0 false r priv pA2 pc2 ps (pp, pcc, par.2.2) none 0 [])) (skR b2 (sk0 false r priv pA2 pc2 ps (pp, pcc, par.2.2) (some ⟨b3, 0, none⟩) 3 wsClient)) _ (.there .here) rfl (by show (36 : Nat) < 49; decide) rfl rfl ?_
    obtain ⟨s0, hs0⟩ : ∃ s0, s0 = sk0 false r priv pA2 pc2 ps (pp, pcc, par.2.2) (some ⟨b3, 0, none⟩) 3 wsClient := ⟨_, rfl⟩
    rw [← hs0]
    refine vcCall_of .nil (hello_spec b2 s0 _ (Ent.gnO .here (fun w hw => Ob.row_at hw)) (by rw [hs0]; show priv ≤ _; omega)) (fun v own' N' hv => ?_)
    obtain ⟨Ah, ch, rfl, rfl, rfl, hch⟩ := hv
    refine vcLoad1_row (j := 34) (v := .slice pA2 ps.length pc2) (xs := cfL false r priv pA2 pc2 ps (pp, pcc, par.2.2)) (Ent.gnO (by first | ((repeat (first | exact .here | apply Take.there)); done) | exact .none_) (fun w hw => Ob.row_at hw)) rfl ?_
    refine vcFit_byte ?_
    intro b4
    have hhl := helloL_len r priv
    have hs0r : s0.rnd = r := by rw [hs0]; rfl
    have hs0p : s0.priv = priv := by rw [hs0]; rfl
    rw [hs0r, hs0p] at hch ⊢
    refine vcApp_big (Bs (helloL r priv)) _ (Bs [byteI ps.length]) (.there .here) (by rw [Bs_length]; omega) rfl (by decide) (Bs_one _) (Ent.gnO .here (fun w hw => Ob.sl_at hw)) (by omega) (fun Ab cb hcb => ?_)
    refine vcLoad1_row (j := 34) (v := .slice pA2 ps.length pc2) (xs := cfL false r priv pA2 pc2 ps (pp, pcc, par.2.2)) (Ent.gnO (by first | ((repeat (first | exact .here | apply Take.there)); done) | exact .none_) (fun w hw => Ob.row_at hw)) rfl ?_
    have hpsl : ∀ k ≤ ps.length, (psL (ps.take k)).length ≤ 33 * k := by
      intro k
      induction k with
      | zero => intro _; simp [psL]
      | succ k ih =>
        intro hk
        have h32 := (hg.2.2 ps[k] (List.getElem_mem (by omega))).2
        have hds : ps[k].data.toList.length = ps[k].size := by rw [Array.length_toList]; rfl
        have := ih (by omega)
        rw [psL_snoc (by omega), List.length_append]
        simp only [txt, List.length_cons]
        omega
    obtain ⟨hd, hhd⟩ : ∃ hd, hd = helloL r priv ++ [byteI ps.length] := ⟨_, rfl⟩
    have hhdl : hd.length = 41 := by rw [hhd]; simp [hhl]
    rw [← Bs_append, ← hhd]
    refine vcLoop_of (fun g : Nat × Option Addr × Nat => ps.length - g.1) (fun g => [(1, .pointer (some ⟨b1, 0, none⟩)), (4, .pointer (some ⟨b2, 0, none⟩)), (5, .slice g.2.1 (hd ++ psL (ps.take g.1)).length g.2.2), (65, .slice pA2 ps.length pc2), (66, .int .i64 ps.length), (67, .int .i64 g.1)])
      (fun g => [pO (g.2.1, g.2.2, hd ++ psL (ps.take g.1)), skR b2 s0, .row b1 26 (cfL false r priv pA2 pc2 ps (pp, pcc, par.2.2)) 36, .sl pp pcc 5 1 (Bs par.2.2), .sl pA2 pc2 9 1 (stL ps), .sl (some ⟨b3, 0, none⟩) 3 71 3 (wnL wsClient)])
      (fun _ => MT) (fun g => g.1 ≤ ps.length) (0, Ab, cb) (Nat.zero_le _)
      ⟨rfl, rfl, by simp [psL, hhdl, hhl]; rfl, rfl, rfl, rfl, trivial⟩ ⟨_, .cons (Take.eq (by simp [psL]; rfl)) (.cons (by first | ((repeat (first | exact .here | apply Take.there)); done) | exact .none_) (.cons (by first | ((repeat (first | exact .here | apply Take.there)); done) | exact .none_) (.cons (by first | ((repeat (first | exact .here | apply Take.there)); done) | exact .none_) (.cons (by first | ((repeat (first | exact .here | apply Take.there)); done) | exact .none_) (.cons (by first | ((repeat (first | exact .here | apply Take.there)); done) | exact .none_) .nil)))))⟩ (fun _ _ => trivial) ?_
    rintro ⟨k, A, c⟩ hk
    have hk : k ≤ ps.length := hk
    refine vcIf_dec (fun hlt => ?_) (fun hge => ?_)
    · have hk' : k < ps.length := by omega
      have h32 := (hg.2.2 ps[k] (List.getElem_mem hk')).2
      have hds : ps[k].data.toList.length = ps[k].size := by rw [Array.length_toList]; rfl
      have hpk := hpsl k hk
      have hcl : (hd ++ psL (ps.take k)).length = 41 + (psL (ps.take k)).length := by rw [List.length_append, hhdl]
      refine vcIdx_nat k rfl (Ent.gnO (by first | ((repeat (first | exact .here | apply Take.there)); done) | exact .none_) (fun w hw => Ob.sl_at hw)) hk' (by rw [stL_len]; omega) (fun a ha => ?_)
      refine vcLoad1_row (xs := stL ps) (Ent.gnO (o := .sl pA2 pc2 9 1 (stL ps)) (by first | ((repeat (first | exact .here | apply Take.there)); done) | exact .none_) (fun w hw => by rw [← ha]; exact Ob.sl_at hw)) (stL_get hk') ?_
      refine vcFit_byte ?_
      intro b5
      refine vcApp_big (Bs (hd ++ psL (ps.take k))) _ (Bs [byteI ps[k].size]) (.there .here) (by rw [Bs_length]; exact (Nat.mul_one _).symm) rfl (by decide) (Bs_one _) (Ent.gnO .here (fun w hw => Ob.sl_at hw)) (by first | omega | (simp only; omega)) (fun A2 c2 hc2 => ?_)
      refine vcAppS.intro (Bs (hd ++ psL (ps.take k)) ++ Bs [byteI ps[k].size]) _ .here (by rw [List.length_append, Bs_length, Bs_length]; rfl) (by rw [hds]; first | omega | (simp only; omega)) (fun A3 c3 hc3 => ?_)
      refine vcFit_i64 (by first | omega | (simp only; omega)) ?_
      have e : Bs (hd ++ psL (ps.take k)) ++ Bs [byteI ps[k].size] ++ Bs ps[k].data.toList = Bs (hd ++ psL (ps.take (k + 1))) := by
        rw [← Bs_append, ← Bs_append, psL_snoc hk']
        simp only [txt, byteI_nat, hds, List.append_assoc, List.cons_append, List.nil_append]
      have el : (hd ++ psL (ps.take k)).length + 1 + ps[k].data.toList.length = (hd ++ psL (ps.take (k + 1))).length := by
        have := congrArg List.length e
        simpa only [List.length_append, Bs_length, List.length_cons, List.length_nil, Nat.zero_add] using this
      rw [e]
      refine ⟨(k + 1, A3, c3), hk', (by first | omega | (simp only; omega)), ⟨rfl, rfl, ?_, rfl, rfl, rfl, trivial⟩, ⟨_, .cons .here (.cons (by first | ((repeat (first | exact .here | apply Take.there)); done) | exact .none_) (.cons (by first | ((repeat (first | exact .here | apply Take.there)); done) | exact .none_) (.cons (by first | ((repeat (first | exact .here | apply Take.there)); done) | exact .none_) (.cons (by first | ((repeat (first | exact .here | apply Take.there)); done) | exact .none_) (.cons (by first | ((repeat (first | exact .here | apply Take.there)); done) | exact .none_) .nil)))))⟩, fun _ _ => trivial⟩
      exact congrArg (fun n => some (Value.slice A3 n c3)) el
    · obtain rfl : k = ps.length := by omega
      have hpk := hpsl ps.length (Nat.le_refl _)
      rw [List.take_length] at hpk ⊢
      have hcl : (hd ++ psL ps).length = 41 + (psL ps).length := by rw [List.length_append, hhdl]
      have hbody : bodyL r priv ps par.2.2 = hd ++ psL ps ++ lng par.2.2 := by rw [hhd, byteI_nat]; rfl
      have hlen : (hd ++ psL ps).length + (lng par.2.2).length = (bodyL r priv ps par.2.2).length := by rw [hbody]; simp only [List.length_append]
      have hll : (lng par.2.2).length = par.2.2.length + 2 := by simp [lng]
      refine vcLoad1_row (j := 35) (v := .slice pp par.2.2.length pcc) (xs := cfL false r priv pA2 pc2 ps (pp, pcc, par.2.2)) (Ent.gnO (by first | ((repeat (first | exact .here | apply Take.there)); done) | exact .none_) (fun w hw => Ob.row_at hw)) rfl ?_
      refine vcCall_of .nil (lng_spec pp pcc par.2.2 _ (Ent.gnO (by first | ((repeat (first | exact .here | apply Take.there)); done) | exact .none_) (fun w hw => Ob.sl_at hw)) (by omega)) (fun v own' N' hv => ?_)
      obtain ⟨Al, cl, rfl, rfl, rfl, hcl2⟩ := hv
      refine vcApp_big (Bs (hd ++ psL ps)) _ (Bs (lng par.2.2)) (.there .here) (by rw [Bs_length]; exact (Nat.mul_one _).symm) (by rw [Bs_length]; exact (Nat.mul_one _).symm) (by decide) (Bs_one _) (Ent.gnO .here (fun w hw => Ob.sl_at hw)) (by omega) (fun A2 c2 hc2 => ?_)
      rw [← Bs_append, hlen, ← hbody]
      subst hs0
      refine vcCall_of (A := skO b2 (sk0 false r priv pA2 pc2 ps (pp, pcc, par.2.2) (some ⟨b3, 0, none⟩) 3 wsClient)) (.cons (.there (.there .here)) (.cons .none_ (.cons .none_ (.cons .none_ (.cons .none_ .nil))))) (say_spec b2 _ 1 0 A2 c2 (bodyL r priv ps par.2.2) _ (Ent.gnO .here (fun w hw => Ob.sl_at hw)) (by rw [← hlen]; omega) (Nat.zero_le _) (Nat.zero_le _) (by intro f hf; cases hf)) (fun v own' N' hv => ?_)
      obtain ⟨As, cs, oA, oc, out, rfl, rfl, rfl, hout⟩ := hv
      refine ⟨_, _, SkF (sk0 false r priv pA2 pc2 ps (pp, pcc, par.2.2) (some ⟨b3, 0, none⟩) 3 wsClient), Pick.front, facts b3 3 wsClient _ _ (by simp) (by simp) (by simp), ?_⟩
      exact .inl ⟨hgood, b2, pA2, pc2, pp, pcc, some ⟨b3, 0, none⟩, 3, As, cs, oA, oc, out, rfl, rfl, Ent.refl, hout, by decide⟩
end Go.Proofs.Yticllmnblcjjcaa
end

section
/- slices.Concat over bytes. -/
namespace Go.Proofs.Yticllmnblcjjcaa
open Go.Proofs
set_option maxRecDepth 10000

theorem grow_spec (n : Nat) (hn : n ≤ 140737488355328) (G : Mp) : Spec Try.prog 80 #[.slice none 0 0, .int .i64 n] [] G (fun v own N => ∃ A cap, v = .slice A 0 cap ∧ own = [.sl A cap 5 1 []] ∧ N = MT) := by
  refine Spec.intro (args := [_, _]) wide Try.func80 rfl Try.call80 (by rfl) (by rfl) (fun w0 hw0 => ?_)
  refine vcFit_i64 (by omega) ?_
  refine vcFit_i64 (by omega) ?_
  refine vcIf_dec (fun h => ?_) (fun h => ?_)
  · refine vcSlice3_as 0 0 0 rfl rfl rfl (by omega) (by omega) (fun A' hA' => ?_)
    rw [cutA_0] at hA'
    subst hA'
    refine vcAppZ_of [] _ n (by omega) .none_ rfl (by decide) (by simp [oneCell]) (by omega) (by omega) (fun A' cap' hc => ?_)
    refine vcSlice3_as 0 0 cap' rfl (by omega) (by omega) (by omega) (by omega) (fun A2 hA2 => ?_)
    rw [cutA_0] at hA2
    subst hA2
    exact ⟨_, _, MT, .cons (.cut 0) .nil, fun _ _ _ => trivial, _, _, rfl, rfl, rfl⟩
  · exact ⟨_, _, MT, .cons .none_ .nil, fun _ _ _ => trivial, _, _, rfl, rfl, rfl⟩

theorem concat_spec (A : Option Addr) (c : Nat) (ps : List Piece) (G : Mp) (h1 : Ent G (RowAt A (ps.map pieceV))) (h2 : ∀ p ∈ ps, Ent G (RowAt p.1 (Bs p.2.2))) (hb : (pieces ps).length ≤ 140737488355328) (hl : ps.length ≤ 4611686018427387904) :
    Spec Try.prog 61 #[.slice A ps.length c] [] G (OwnB (pieces ps)) := by
  refine Spec.intro (args := [_]) wide Try.func61 rfl Try.call61 (by rfl) (by rfl) (fun w0 hw0 => ?_)
  refine vcLoop_of (fun k : Nat => ps.length - k) (fun k => [(0, .slice A ps.length c), (3, .int .i64 (pieces (ps.take k)).length), (9, .slice A ps.length c), (10, .int .i64 ps.length), (11, .int .i64 k)])
    (fun _ => []) (fun _ => MT) (fun k => k ≤ ps.length) 0 (Nat.zero_le _) ⟨rfl, rfl, rfl, rfl, rfl, trivial⟩ ⟨_, .nil⟩ (fun _ _ => trivial) ?_
  intro k hk
  refine vcIf_dec (fun hlt => ?_) (fun hge => ?_)
  · have hk' : k < ps.length := by omega
    have hle := pieces_le ps (k + 1)
    have hsn : pieces (ps.take (k + 1)) = pieces (ps.take k) ++ ps[k].2.2 := by rw [take_snoc_get hk']; simp only [pieces, List.flatMap_append, List.flatMap_cons, List.flatMap_nil, List.append_nil]
    rw [hsn, List.length_append] at hle
    refine vcIdx_row (Ent.gnG h1) ⟨by omega, by omega⟩ (by simp) (fun a ha => ?_)
    have h1' : Ent G (RowAt (some a) (ps.map pieceV)) := ha ▸ h1
    refine vcLoad1_row (v := pieceV ps[k]) (Ent.gnG h1') (by simp [hk']) ?_
    refine vcFit_i64 (by omega) ?_
    refine vcFit_i64 (by omega) ?_
    refine ⟨k + 1, by omega, by omega, ⟨rfl, ?_, rfl, rfl, rfl, trivial⟩, ⟨_, .nil⟩, fun _ _ => trivial⟩
    rw [hsn, List.length_append, Int.natCast_add]; rfl
  · have hk' : k = ps.length := by omega
    subst hk'
    rw [List.take_length]
    refine vcCall_of .nil (grow_spec (pieces ps).length hb _) (fun v own' N' hv => ?_)
    obtain ⟨A0, cap0, rfl, rfl, rfl⟩ := hv
    refine vcLoop_of (fun g : Nat × Option Addr × Nat => ps.length - g.1) (fun g => [(25, .slice A ps.length c), (26, .int .i64 ps.length), (27, .int .i64 g.1), (6, .slice g.2.1 (pieces (ps.take g.1)).length g.2.2)])
      (fun g => [.sl g.2.1 g.2.2 5 1 (Bs (pieces (ps.take g.1)))]) (fun _ => MT) (fun g => g.1 ≤ ps.length ∧ (pieces (ps.take g.1)).length ≤ g.2.2) (0, A0, cap0)
      ⟨Nat.zero_le _, Nat.zero_le _⟩ ⟨rfl, rfl, rfl, rfl, trivial⟩ ⟨[], .cons .here .nil⟩ (fun _ _ => trivial) ?_
    rintro ⟨k, A', cap'⟩ ⟨hk, hcap⟩
    simp only at hk hcap
    refine vcIf_dec (fun hlt => ?_) (fun hge => ?_)
    · have hk' : k < ps.length := by simp only at hlt; omega
      have hle := pieces_le ps (k + 1)
      have hsn : pieces (ps.take (k + 1)) = pieces (ps.take k) ++ ps[k].2.2 := by rw [take_snoc_get hk']; simp only [pieces, List.flatMap_append, List.flatMap_cons, List.flatMap_nil, List.append_nil]
      rw [hsn, List.length_append] at hle
      refine vcIdx_row (Ent.gnG h1) ⟨by omega, by simp only; omega⟩ (by simp) (fun a ha => ?_)
      have h1' : Ent G (RowAt (some a) (ps.map pieceV)) := ha ▸ h1
      refine vcLoad1_row (v := pieceV ps[k]) (Ent.gnG h1') (by simp [hk']) ?_
      refine vcApp_of (Bs (pieces (ps.take k))) _ (Bs ps[k].2.2) .here (by rw [Bs_length, Nat.mul_one]) (by rw [Bs_length, Nat.mul_one]) (by omega) (Bs_one _) (Ent.gnG (h2 _ (List.getElem_mem _))) (by simp only; omega) (by simp only; omega) (fun A2 cap2 hc2 => ?_)
      refine vcFit_i64 (by omega) ?_
      refine ⟨(k + 1, A2, cap2), ⟨by simp only; omega, by simp only; rw [hsn, List.length_append]; exact hc2⟩, by simp only; omega, ⟨rfl, rfl, rfl, ?_, trivial⟩, ⟨[], .cons ?_ .nil⟩, fun _ _ => trivial⟩
      · rw [hsn, List.length_append]; rfl
      · simp only [hsn, Bs_append]; exact .here
    · have hk' : k = ps.length := by simp only at hge; omega
      subst hk'
      rw [List.take_length] at hcap
      refine ⟨_, [], MT, .cons .here .nil, fun _ _ _ => trivial, A', cap', ?_, ?_, rfl, hcap⟩
      · rw [List.take_length]; rfl
      · rw [List.take_length]
end Go.Proofs.Yticllmnblcjjcaa
end

section
/- The digest of several pieces. -/
namespace Go.Proofs.Yticllmnblcjjcaa
open Go.Proofs
set_option maxRecDepth 10000

theorem be8_get (a k : Nat) (hk : k < 8) : (be 8 a)[k]? = some (UInt8.ofNat (a / 2 ^ (56 - 8 * k) % 256)) := by
  match k, hk with
  | 0, _ => simp [be, Nat.div_div_eq_div_mul]
  | 1, _ => simp [be, Nat.div_div_eq_div_mul]
  | 2, _ => simp [be, Nat.div_div_eq_div_mul]
  | 3, _ => simp [be, Nat.div_div_eq_div_mul]
  | 4, _ => simp [be, Nat.div_div_eq_div_mul]
  | 5, _ => simp [be, Nat.div_div_eq_div_mul]
  | 6, _ => simp [be, Nat.div_div_eq_div_mul]
  | 7, _ => simp [be]
def outK (L M : List UInt8) (k : Nat) : List UInt8 := L.take k ++ List.replicate (8 - k) 0 ++ (M.take k ++ List.replicate (8 - k) 0)
theorem outK_length (L M : List UInt8) (hL : L.length = 8) (hM : M.length = 8) (k : Nat) (hk : k ≤ 8) : (outK L M k).length = 16 := by simp [outK, hL, hM]; omega
theorem list8 {L : List UInt8} (h : L.length = 8) : ∃ a b c d e f g i, L = [a, b, c, d, e, f, g, i] := by
  match L, h with
  | [a, b, c, d, e, f, g, i], _ => exact ⟨a, b, c, d, e, f, g, i, rfl⟩
theorem outK_step {L M : List UInt8} (hL : L.length = 8) (hM : M.length = 8) (k : Nat) (hk : k < 8) (x y : UInt8) (hx : L[k]? = some x) (hy : M[k]? = some y) : ((outK L M k).set k x).set (8 + k) y = outK L M (k + 1) := by
  obtain ⟨a, b, c, d, e, f, g, i, rfl⟩ := list8 hL
  obtain ⟨a', b', c', d', e', f', g', i', rfl⟩ := list8 hM
  match k, hk with
  | 0, _ | 1, _ | 2, _ | 3, _ | 4, _ | 5, _ | 6, _ | 7, _ => cases hx; cases hy; rfl
theorem Bs_set (l : List UInt8) (k : Nat) (x : UInt8) : (Bs l).set k (.int .u8 x.toNat) = Bs (l.set k x) := by
  simp only [Bs, List.map_set]; rfl

theorem begin_spec (G : Mp) : Spec Try.prog 91 #[] [] G (Ret (.agg (stV seed0).toArray)) := by
  refine Spec.intro (args := []) wide Try.func91 rfl Try.call91 (by rfl) (by rfl) (fun w0 hw0 => ?_)
  intro b
  refine ⟨rfl, vcStoreN_row _ .here rfl (by decide) ?_⟩
  refine vcLoadN_0 (Ent.gnO .here (fun w hw => Ob.row_at hw)) rfl ?_
  exact ⟨[], _, MT, .nil, fun _ _ _ => trivial, rfl, rfl, rfl⟩

theorem of_spec (A : Option Addr) (c : Nat) (ps : List Piece) (G : Mp) (h1 : Ent G (RowAt A (ps.map pieceV))) (h2 : ∀ p ∈ ps, Ent G (RowAt p.1 (Bs p.2.2))) (hb : (pieces ps).length ≤ 4611686018427387904) (hl : ps.length ≤ 4611686018427387904) :
    Spec Try.prog 87 #[.slice A ps.length c] [] G (Ret (.agg (Bs (dig (pieces ps))).toArray)) := by
  refine Spec.intro (args := [_]) wide Try.func87 rfl Try.call87 (by rfl) (by rfl) (fun w0 hw0 => ?_)
  intro bo
  refine vcCall_of .nil (begin_spec _) (fun v own' N' hv => ?_); obtain ⟨rfl, rfl, rfl⟩ := hv
  intro bst
  refine ⟨rfl, vcStoreN_row _ .here rfl (by decide) ?_⟩
  refine vcLoop_of (fun k : Nat => ps.length - k) (fun k => [(2, .pointer (some ⟨bo, 0, none⟩)), (3, .pointer (some ⟨bst, 0, none⟩)), (9, .slice A ps.length c), (10, .int .i64 ps.length), (11, .int .i64 k), (4, .int .i64 (pieces (ps.take k)).length)])
    (fun k => [.row bst 117 (stV (mixL seed0 (pieces (ps.take k)))) 2, .row bo 107 (Bs (List.replicate 16 0)) 16]) (fun _ => MT) (fun k => k ≤ ps.length) 0 (Nat.zero_le _)
    ⟨rfl, rfl, rfl, rfl, rfl, rfl, trivial⟩ ⟨[], .cons .here (.cons .here .nil)⟩ (fun _ _ => trivial) ?_
  intro k hk
  refine vcIf_dec (fun hlt => ?_) (fun hge => ?_)
  · have hk' : k < ps.length := by omega
    have hle := pieces_le ps (k + 1)
    have hsn : pieces (ps.take (k + 1)) = pieces (ps.take k) ++ ps[k].2.2 := by rw [take_snoc_get hk']; simp only [pieces, List.flatMap_append, List.flatMap_cons, List.flatMap_nil, List.append_nil]
    rw [hsn, List.length_append] at hle
    have hbits := mixL_lt seed0 seed0_lt (pieces (ps.take k))
    refine vcIdx_nat k rfl (Ent.gnG h1) hk' (by simp) (fun a ha => ?_)
    subst ha
    refine vcLoad1_row (v := pieceV ps[k]) (Ent.gnG h1) (by simp [hk']) ?_
    refine vcCall_of (.cons .here .nil) (add_spec bst _ hbits ps[k].1 ps[k].2.1 ps[k].2.2 _ (Ent.gnG (h2 _ (List.getElem_mem _))) (by omega)) (fun v own' N' hv => ?_)
    obtain ⟨rfl, rfl, rfl⟩ := hv
    refine vcFit_i64 (by omega) ?_
    refine vcFit_i64 (by omega) ?_
    refine ⟨k + 1, by omega, by omega, ⟨rfl, rfl, rfl, rfl, rfl, ?_, trivial⟩, ⟨[], .cons ?_ (.cons .here .nil)⟩, fun _ _ => trivial⟩
    · rw [hsn, List.length_append]; rfl
    · rw [hsn, mixL_append]; exact .here
  · have hk' : k = ps.length := by omega
    subst hk'
    rw [List.take_length]
    generalize hn : pieces ps = l at hb ⊢
    repeat' (first | (first | refine vcFit_i64 (by omega) ?_ | refine vcFit_byte ?_ | refine vcFit_u64_in (by omega) ?_ | refine vcRem_pos (by omega) ?_ | refine vcQuo_i64 (by omega) ?_ | refine vcShr_nat (n := _) (by decide) ?_) | (first | refine vcIf_yes (by omega) ?_ | refine vcIf_no (by omega) ?_ | refine vcIf_nyes (by omega) ?_ | refine vcIf_nno (by omega) ?_ | refine vcIf_dec (fun _ => ?_) (fun _ => ?_) | refine vcIf_ndec (fun _ => ?_) (fun _ => ?_)) | (first | refine vcIdx_some _ (by first | exact rfl | exact (Int.natCast_add _ 1).symm | exact (Int.toNat_of_nonneg (by omega)).symm) (by omega) ?_ | (refine vcIdx_nat _ (by first | exact rfl | exact (Int.natCast_add _ 1).symm | exact (Int.toNat_of_nonneg (by omega)).symm) (by first | exact Ent.refl | assumption | exact Ent.gnG (by assumption) | exact Ent.gnG (Ent.gnG (by assumption)) | exact (Ent.gnO .here (fun w hw => Ob.sl_at hw)) | exact (Ent.gnO .here (fun w hw => Ob.row_at hw)) | exact (Ent.gnO (.there .here) (fun w hw => Ob.sl_at hw)) | exact (Ent.gnO (.there .here) (fun w hw => Ob.row_at hw)) | exact (Ent.gnO (.there (.there .here)) (fun w hw => Ob.sl_at hw)) | exact (Ent.gnO (.there (.there .here)) (fun w hw => Ob.row_at hw)) | exact (Ent.gnO (.there (.there (.there .here))) (fun w hw => Ob.sl_at hw)) | exact (Ent.gnO (.there (.there (.there .here))) (fun w hw => Ob.row_at hw)) | exact (Ent.gnO (.there (.there (.there (.there .here)))) (fun w hw => Ob.sl_at hw)) | exact (Ent.gnO (.there (.there (.there (.there .here)))) (fun w hw => Ob.row_at hw)) | exact (Ent.gnO (.there (.there (.there (.there (.there .here))))) (fun w hw => Ob.sl_at hw)) | exact (Ent.gnO (.there (.there (.there (.there (.there .here))))) (fun w hw => Ob.row_at hw))) (by omega) (by first | omega | (simp only [Bs_length]; omega) | (simp; done) | (simp; omega)) (fun a ha => ?_); cases ha)) | (first | refine vcLoad1_row (by first | exact Ent.refl | assumption | exact Ent.gnG (by assumption) | exact Ent.gnG (Ent.gnG (by assumption)) | exact (Ent.gnO .here (fun w hw => Ob.sl_at hw)) | exact (Ent.gnO .here (fun w hw => Ob.row_at hw)) | exact (Ent.gnO (.there .here) (fun w hw => Ob.sl_at hw)) | exact (Ent.gnO (.there .here) (fun w hw => Ob.row_at hw)) | exact (Ent.gnO (.there (.there .here)) (fun w hw => Ob.sl_at hw)) | exact (Ent.gnO (.there (.there .here)) (fun w hw => Ob.row_at hw)) | exact (Ent.gnO (.there (.there (.there .here))) (fun w hw => Ob.sl_at hw)) | exact (Ent.gnO (.there (.there (.there .here))) (fun w hw => Ob.row_at hw)) | exact (Ent.gnO (.there (.there (.there (.there .here)))) (fun w hw => Ob.sl_at hw)) | exact (Ent.gnO (.there (.there (.there (.there .here)))) (fun w hw => Ob.row_at hw)) | exact (Ent.gnO (.there (.there (.there (.there (.there .here))))) (fun w hw => Ob.sl_at hw)) | exact (Ent.gnO (.there (.there (.there (.there (.there .here))))) (fun w hw => Ob.row_at hw))) (by first | rfl | exact Bs_get (by omega) | assumption) ?_ | refine vcLoad1_2 (by first | exact Ent.refl | assumption | exact Ent.gnG (by assumption) | exact Ent.gnG (Ent.gnG (by assumption)) | exact (Ent.gnO .here (fun w hw => Ob.sl_at hw)) | exact (Ent.gnO .here (fun w hw => Ob.row_at hw)) | exact (Ent.gnO (.there .here) (fun w hw => Ob.sl_at hw)) | exact (Ent.gnO (.there .here) (fun w hw => Ob.row_at hw)) | exact (Ent.gnO (.there (.there .here)) (fun w hw => Ob.sl_at hw)) | exact (Ent.gnO (.there (.there .here)) (fun w hw => Ob.row_at hw)) | exact (Ent.gnO (.there (.there (.there .here))) (fun w hw => Ob.sl_at hw)) | exact (Ent.gnO (.there (.there (.there .here))) (fun w hw => Ob.row_at hw)) | exact (Ent.gnO (.there (.there (.there (.there .here)))) (fun w hw => Ob.sl_at hw)) | exact (Ent.gnO (.there (.there (.there (.there .here)))) (fun w hw => Ob.row_at hw)) | exact (Ent.gnO (.there (.there (.there (.there (.there .here))))) (fun w hw => Ob.sl_at hw)) | exact (Ent.gnO (.there (.there (.there (.there (.there .here))))) (fun w hw => Ob.row_at hw))) (by first | rfl | exact Bs_get (by omega) | assumption) ?_ | refine vcLoad1_3 (by first | exact Ent.refl | assumption | exact Ent.gnG (by assumption) | exact Ent.gnG (Ent.gnG (by assumption)) | exact (Ent.gnO .here (fun w hw => Ob.sl_at hw)) | exact (Ent.gnO .here (fun w hw => Ob.row_at hw)) | exact (Ent.gnO (.there .here) (fun w hw => Ob.sl_at hw)) | exact (Ent.gnO (.there .here) (fun w hw => Ob.row_at hw)) | exact (Ent.gnO (.there (.there .here)) (fun w hw => Ob.sl_at hw)) | exact (Ent.gnO (.there (.there .here)) (fun w hw => Ob.row_at hw)) | exact (Ent.gnO (.there (.there (.there .here))) (fun w hw => Ob.sl_at hw)) | exact (Ent.gnO (.there (.there (.there .here))) (fun w hw => Ob.row_at hw)) | exact (Ent.gnO (.there (.there (.there (.there .here)))) (fun w hw => Ob.sl_at hw)) | exact (Ent.gnO (.there (.there (.there (.there .here)))) (fun w hw => Ob.row_at hw)) | exact (Ent.gnO (.there (.there (.there (.there (.there .here))))) (fun w hw => Ob.sl_at hw)) | exact (Ent.gnO (.there (.there (.there (.there (.there .here))))) (fun w hw => Ob.row_at hw))) (by first | rfl | exact Bs_get (by omega) | assumption) ?_ | refine vcLoad1_0 (by first | exact Ent.refl | assumption | exact Ent.gnG (by assumption) | exact Ent.gnG (Ent.gnG (by assumption)) | exact (Ent.gnO .here (fun w hw => Ob.sl_at hw)) | exact (Ent.gnO .here (fun w hw => Ob.row_at hw)) | exact (Ent.gnO (.there .here) (fun w hw => Ob.sl_at hw)) | exact (Ent.gnO (.there .here) (fun w hw => Ob.row_at hw)) | exact (Ent.gnO (.there (.there .here)) (fun w hw => Ob.sl_at hw)) | exact (Ent.gnO (.there (.there .here)) (fun w hw => Ob.row_at hw)) | exact (Ent.gnO (.there (.there (.there .here))) (fun w hw => Ob.sl_at hw)) | exact (Ent.gnO (.there (.there (.there .here))) (fun w hw => Ob.row_at hw)) | exact (Ent.gnO (.there (.there (.there (.there .here)))) (fun w hw => Ob.sl_at hw)) | exact (Ent.gnO (.there (.there (.there (.there .here)))) (fun w hw => Ob.row_at hw)) | exact (Ent.gnO (.there (.there (.there (.there (.there .here))))) (fun w hw => Ob.sl_at hw)) | exact (Ent.gnO (.there (.there (.there (.there (.there .here))))) (fun w hw => Ob.row_at hw))) (by first | rfl | exact Bs_get (by omega) | assumption) ?_) | (first | refine vcStore1_1 _ _ .here rfl (by first | omega | (simp only [Bs_length]; omega) | (simp; done) | (simp; omega)) rfl ?_ | refine vcStore1_2 _ _ .here rfl (by first | omega | (simp only [Bs_length]; omega) | (simp; done) | (simp; omega)) rfl ?_ | refine vcStore1_0 _ _ .here rfl (by first | omega | (simp only [Bs_length]; omega) | (simp; done) | (simp; omega)) rfl ?_ | refine vcStore1_1 _ _ (.there .here) rfl (by first | omega | (simp only [Bs_length]; omega) | (simp; done) | (simp; omega)) rfl ?_ | refine vcStore1_2 _ _ (.there .here) rfl (by first | omega | (simp only [Bs_length]; omega) | (simp; done) | (simp; omega)) rfl ?_ | refine vcStore1_0 _ _ (.there .here) rfl (by first | omega | (simp only [Bs_length]; omega) | (simp; done) | (simp; omega)) rfl ?_ | refine vcStore1_1 _ _ (.there (.there .here)) rfl (by first | omega | (simp only [Bs_length]; omega) | (simp; done) | (simp; omega)) rfl ?_ | refine vcStore1_2 _ _ (.there (.there .here)) rfl (by first | omega | (simp only [Bs_length]; omega) | (simp; done) | (simp; omega)) rfl ?_ | refine vcStore1_0 _ _ (.there (.there .here)) rfl (by first | omega | (simp only [Bs_length]; omega) | (simp; done) | (simp; omega)) rfl ?_ | refine vcStore1_1 _ _ (.there (.there (.there .here))) rfl (by first | omega | (simp only [Bs_length]; omega) | (simp; done) | (simp; omega)) rfl ?_ | refine vcStore1_2 _ _ (.there (.there (.there .here))) rfl (by first | omega | (simp only [Bs_length]; omega) | (simp; done) | (simp; omega)) rfl ?_ | refine vcStore1_0 _ _ (.there (.there (.there .here))) rfl (by first | omega | (simp only [Bs_length]; omega) | (simp; done) | (simp; omega)) rfl ?_ | refine vcStore1_1 _ _ (.there (.there (.there (.there .here)))) rfl (by first | omega | (simp only [Bs_length]; omega) | (simp; done) | (simp; omega)) rfl ?_ | refine vcStore1_2 _ _ (.there (.there (.there (.there .here)))) rfl (by first | omega | (simp only [Bs_length]; omega) | (simp; done) | (simp; omega)) rfl ?_ | refine vcStore1_0 _ _ (.there (.there (.there (.there .here)))) rfl (by first | omega | (simp only [Bs_length]; omega) | (simp; done) | (simp; omega)) rfl ?_ | refine vcStore1_1 _ _ (.there (.there (.there (.there (.there .here))))) rfl (by first | omega | (simp only [Bs_length]; omega) | (simp; done) | (simp; omega)) rfl ?_ | refine vcStore1_2 _ _ (.there (.there (.there (.there (.there .here))))) rfl (by first | omega | (simp only [Bs_length]; omega) | (simp; done) | (simp; omega)) rfl ?_ | refine vcStore1_0 _ _ (.there (.there (.there (.there (.there .here))))) rfl (by first | omega | (simp only [Bs_length]; omega) | (simp; done) | (simp; omega)) rfl ?_))
    intro bt
    have hbits := mixL_lt seed0 seed0_lt l
    have htail : [byteI l.length, byteI ((l.length : Int) / 2 ^ 8), byteI ((l.length : Int) / 2 ^ 16), byteI ((l.length : Int) / 2 ^ 24)] = le4 l.length := by
      rw [byteI_shr, byteI_shr, byteI_shr, byteI_nat]; rfl
    refine vcCall_of (.cons (.there .here) .nil) (add_spec bst _ hbits (some ⟨bt, 0, none⟩) 4 [byteI l.length, byteI ((l.length : Int) / 2 ^ 8), byteI ((l.length : Int) / 2 ^ 16), byteI ((l.length : Int) / 2 ^ 24)] _ (Ent.gnO .here (fun w hw => Ob.sl_at hw)) (by simp)) (fun v own' N' hv => ?_)
    obtain ⟨rfl, rfl, rfl⟩ := hv
    rw [htail, ← mixL_append]
    generalize hs : mixL seed0 (l ++ le4 l.length) = s
    have hd : dig l = be 8 s.1 ++ be 8 s.2 := by unfold dig; rw [hs]
    refine vcLoop_of (fun k : Nat => 8 - k) (fun k => [(2, .pointer (some ⟨bo, 0, none⟩)), (3, .pointer (some ⟨bst, 0, none⟩)), (35, .int .i64 k)])
      (fun k => [.row bst 117 (stV s) 2, .row bo 107 (Bs (outK (be 8 s.1) (be 8 s.2) k)) 16]) (fun _ => MT) (fun k => k ≤ 8) 0 (Nat.zero_le _)
      ⟨rfl, rfl, rfl, trivial⟩ ⟨_, .cons .here (.cons (.there .here) .nil)⟩ (fun _ _ => trivial) ?_
    intro k hk
    have hol := outK_length (be 8 s.1) (be 8 s.2) (be_length _ _) (be_length _ _) k hk
    refine vcIf_dec (fun hlt => ?_) (fun hge => ?_)
    · have hk' : k < 8 := by omega
      have e1 : (56 : Int) - 8 * k = ((56 - 8 * k : Nat) : Int) := by omega
      have e2 : (8 : Int) + k = ((8 + k : Nat) : Int) := by omega
      have h64 : 56 - 8 * k ≤ IntKind.u64.bits := by show _ ≤ 64; omega
      refine vcLoad1_row (by first | exact Ent.refl | assumption | exact Ent.gnG (by assumption) | exact Ent.gnG (Ent.gnG (by assumption)) | exact (Ent.gnO .here (fun w hw => Ob.sl_at hw)) | exact (Ent.gnO .here (fun w hw => Ob.row_at hw)) | exact (Ent.gnO (.there .here) (fun w hw => Ob.sl_at hw)) | exact (Ent.gnO (.there .here) (fun w hw => Ob.row_at hw)) | exact (Ent.gnO (.there (.there .here)) (fun w hw => Ob.sl_at hw)) | exact (Ent.gnO (.there (.there .here)) (fun w hw => Ob.row_at hw)) | exact (Ent.gnO (.there (.there (.there .here))) (fun w hw => Ob.sl_at hw)) | exact (Ent.gnO (.there (.there (.there .here))) (fun w hw => Ob.row_at hw)) | exact (Ent.gnO (.there (.there (.there (.there .here)))) (fun w hw => Ob.sl_at hw)) | exact (Ent.gnO (.there (.there (.there (.there .here)))) (fun w hw => Ob.row_at hw)) | exact (Ent.gnO (.there (.there (.there (.there (.there .here))))) (fun w hw => Ob.sl_at hw)) | exact (Ent.gnO (.there (.there (.there (.there (.there .here))))) (fun w hw => Ob.row_at hw))) rfl ?_
      refine vcFit_i64 (by omega) ?_
      refine vcFit_i64 (by omega) ?_
      rw [e1]
      refine vcShr_nat h64 ?_
      refine vcFit_byte ?_
      refine vcAt_nat k rfl (by omega) ?_
      refine vcStore1_1 _ _ (.there .here) rfl (by simp [Ob.cells, Bs_length, hol]; omega) rfl ?_
      refine vcFit_i64 (by omega) ?_
      refine vcLoad1_row (by first | exact Ent.refl | assumption | exact Ent.gnG (by assumption) | exact Ent.gnG (Ent.gnG (by assumption)) | exact (Ent.gnO .here (fun w hw => Ob.sl_at hw)) | exact (Ent.gnO .here (fun w hw => Ob.row_at hw)) | exact (Ent.gnO (.there .here) (fun w hw => Ob.sl_at hw)) | exact (Ent.gnO (.there .here) (fun w hw => Ob.row_at hw)) | exact (Ent.gnO (.there (.there .here)) (fun w hw => Ob.sl_at hw)) | exact (Ent.gnO (.there (.there .here)) (fun w hw => Ob.row_at hw)) | exact (Ent.gnO (.there (.there (.there .here))) (fun w hw => Ob.sl_at hw)) | exact (Ent.gnO (.there (.there (.there .here))) (fun w hw => Ob.row_at hw)) | exact (Ent.gnO (.there (.there (.there (.there .here)))) (fun w hw => Ob.sl_at hw)) | exact (Ent.gnO (.there (.there (.there (.there .here)))) (fun w hw => Ob.row_at hw)) | exact (Ent.gnO (.there (.there (.there (.there (.there .here))))) (fun w hw => Ob.sl_at hw)) | exact (Ent.gnO (.there (.there (.there (.there (.there .here))))) (fun w hw => Ob.row_at hw))) rfl ?_
      refine vcFit_i64 (by omega) ?_
      refine vcFit_i64 (by omega) ?_
      rw [e1]
      refine vcShr_nat h64 ?_
      refine vcFit_byte ?_
      rw [e2]
      refine vcAt_nat (8 + k) rfl (by omega) ?_
      refine vcStore1_1 _ _ .here rfl (by simp [Ob.cells, Ob.set, Bs_length, hol]; omega) rfl ?_
      refine vcFit_i64 (by omega) ?_
      refine ⟨k + 1, by omega, by omega, ⟨rfl, rfl, rfl, trivial⟩, ⟨[], .cons (.there .here) (.cons ?_ .nil)⟩, fun _ _ => trivial⟩
      have hx := be8_get s.1 k hk'
      have hy := be8_get s.2 k hk'
      rw [← outK_step (be_length _ _) (be_length _ _) k hk' _ _ hx hy, ← Bs_set, ← Bs_set, ← byteI_shr, ← byteI_shr]
      exact .here
    · have hk' : k = 8 := by omega
      subst hk'
      have hfin : outK (be 8 s.1) (be 8 s.2) 8 = dig l := by
        rw [hd]; simp [outK, be_length, List.take_of_length_le]
      rw [hfin]
      have hdl : (Bs (dig l)).length = 16 := by rw [Bs_length, dig_length]
      refine vcLoadN_0 (Ent.gnO (.there .here) (fun w hw => Ob.row_at hw)) hdl ?_
      refine ⟨hdl, vcStoreN_row _ (.there .here) rfl (Bs_one _) ?_⟩
      refine vcLoadN_0 (Ent.gnO .here (fun w hw => Ob.row_at hw)) hdl ?_
      exact ⟨[], _, MT, .nil, fun _ _ _ => trivial, rfl, rfl, rfl⟩
end Go.Proofs.Yticllmnblcjjcaa
end
