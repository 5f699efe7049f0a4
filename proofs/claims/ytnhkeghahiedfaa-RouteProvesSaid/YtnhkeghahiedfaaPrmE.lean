/- The reference's digest; Digest. -/
import Derived.Test.YtnhkeghahiedfaaPrmD
namespace Go.Proofs.Ytnhkeghahiedfaa
open Go.Proofs
set_option maxRecDepth 10000

theorem rrot_spec (w k : Nat) (hw : w < 18446744073709551616) (hk : k < 64) (G : Mp) : Spec Try.prog 64 #[.int .u64 w, .int .i64 k] [] G (Ret (.int .u64 (rotN w k : Nat))) := by
  refine Spec.intro (args := [_, _]) wide Try.func64 rfl Try.call64 (by rfl) (by rfl) (fun w0 hw0 => ?_)
  refine vcFit_u64_in (by omega) ?_
  refine vcShl_nat (n := k) (show k ≤ 64 by omega) ?_
  refine vcFit_u64 ?_
  refine vcFit_i64 (by omega) ?_
  refine vcFit_u64_in (by omega) ?_
  rw [show (64 : Int) - k = ((64 - k : Nat) : Int) from by omega]
  refine vcShr_nat (n := 64 - k) (show 64 - k ≤ 64 by omega) ?_
  have e1 : ((w : Int) * 2 ^ k) % 18446744073709551616 = ((w * 2 ^ k % 18446744073709551616 : Nat) : Int) := by simp
  have e2 : (w : Int) / 2 ^ (64 - k) = ((w / 2 ^ (64 - k) : Nat) : Int) := by simp
  refine vcBit_as (rotN w k : Nat) ?_ ⟨[], [], MT, .nil, fun _ _ _ => trivial, rfl, rfl, rfl⟩
  rw [e1, e2, bitI_or (by rw [max_u64]; omega) (by have := Nat.div_le_self w (2 ^ (64 - k)); rw [max_u64]; omega)]
  rfl

def outR (L M : List UInt8) (k : Nat) : List UInt8 := List.replicate (8 - k) 0 ++ L.drop (8 - k) ++ (List.replicate (8 - k) 0 ++ M.drop (8 - k))
theorem outR_length (L M : List UInt8) (hL : L.length = 8) (hM : M.length = 8) (k : Nat) (hk : k ≤ 8) : (outR L M k).length = 16 := by simp [outR, hL, hM]; omega
theorem outR_step {L M : List UInt8} (hL : L.length = 8) (hM : M.length = 8) (k : Nat) (hk : k < 8) (x y : UInt8) (hx : L[7 - k]? = some x) (hy : M[7 - k]? = some y) : ((outR L M k).set (7 - k) x).set (15 - k) y = outR L M (k + 1) := by
  obtain ⟨a, b, c, d, e, f, g, i, rfl⟩ := list8 hL
  obtain ⟨a', b', c', d', e', f', g', i', rfl⟩ := list8 hM
  match k, hk with
  | 0, _ | 1, _ | 2, _ | 3, _ | 4, _ | 5, _ | 6, _ | 7, _ => cases hx; cases hy; rfl
theorem be8_back (a k : Nat) (hk : k < 8) : (be 8 a)[7 - k]? = some (byteI ((a / 256 ^ k : Nat) : Int)) := by
  rw [be8_get a (7 - k) (by omega), byteI_nat, show 56 - 8 * (7 - k) = 8 * k from by omega, Nat.pow_mul]
theorem le4_bytes (n : Nat) : [byteI ((n : Int) % 256), byteI ((n : Int) / 256 % 256), byteI ((n : Int) / 65536 % 256), byteI ((n : Int) / 16777216 % 256)] = le4 n := by
  have h : ∀ m : Nat, byteI ((m : Int) % 256) = UInt8.ofNat (m % 256) := fun m => by
    rw [show (m : Int) % 256 = ((m % 256 : Nat) : Int) from by omega, byteI_nat, Nat.mod_mod]
  rw [h, show (n : Int) / 256 = ((n / 256 : Nat) : Int) from by omega, h, show (n : Int) / 65536 = ((n / 65536 : Nat) : Int) from by omega, h, show (n : Int) / 16777216 = ((n / 16777216 : Nat) : Int) from by omega, h]
  rfl

theorem rdig_round (s : Nat × Nat) (x : UInt8) : (mixN s x).1 = (rotN ((s.1 ^^^ x.toNat) * 1099511628211 % 18446744073709551616) 23 + s.2) % 18446744073709551616 ∧
    (mixN s x).2 = (rotN (s.2 ^^^ (mixN s x).1) 41 * 2654435761 % 18446744073709551616 + x.toNat) % 18446744073709551616 := ⟨rfl, rfl⟩

theorem rdig_spec (A : Option Addr) (c : Nat) (xs : List UInt8) (G : Mp) (h1 : Ent G (RowAt A (Bs xs))) (hx : xs.length ≤ 281474976710656) :
    Spec Try.prog 45 #[.slice A xs.length c] [] G (OwnB (dig xs)) := by
  refine Spec.intro (args := [_]) wide Try.func45 rfl Try.call45 (by rfl) (by rfl) (fun w0 hw0 => ?_)
  repeat' (first | (first | refine vcFit_i64 (by omega) ?_ | refine vcFit_byte ?_ | refine vcFit_u64_in (by omega) ?_ | refine vcRem_pos (by omega) ?_ | refine vcQuo_i64 (by omega) ?_ | refine vcShr_nat (n := _) (by decide) ?_) | (first | refine vcIf_yes (by omega) ?_ | refine vcIf_no (by omega) ?_ | refine vcIf_nyes (by omega) ?_ | refine vcIf_nno (by omega) ?_ | refine vcIf_dec (fun _ => ?_) (fun _ => ?_) | refine vcIf_ndec (fun _ => ?_) (fun _ => ?_)) | (first | refine vcIdx_some _ (by first | exact rfl | exact (Int.natCast_add _ 1).symm | exact (Int.toNat_of_nonneg (by omega)).symm) (by omega) ?_ | (refine vcIdx_nat _ (by first | exact rfl | exact (Int.natCast_add _ 1).symm | exact (Int.toNat_of_nonneg (by omega)).symm) (by first | exact Ent.refl | assumption | exact Ent.gnG (by assumption) | exact Ent.gnG (Ent.gnG (by assumption)) | exact (Ent.gnO .here (fun w hw => Ob.sl_at hw)) | exact (Ent.gnO .here (fun w hw => Ob.row_at hw)) | exact (Ent.gnO (.there .here) (fun w hw => Ob.sl_at hw)) | exact (Ent.gnO (.there .here) (fun w hw => Ob.row_at hw)) | exact (Ent.gnO (.there (.there .here)) (fun w hw => Ob.sl_at hw)) | exact (Ent.gnO (.there (.there .here)) (fun w hw => Ob.row_at hw)) | exact (Ent.gnO (.there (.there (.there .here))) (fun w hw => Ob.sl_at hw)) | exact (Ent.gnO (.there (.there (.there .here))) (fun w hw => Ob.row_at hw)) | exact (Ent.gnO (.there (.there (.there (.there .here)))) (fun w hw => Ob.sl_at hw)) | exact (Ent.gnO (.there (.there (.there (.there .here)))) (fun w hw => Ob.row_at hw)) | exact (Ent.gnO (.there (.there (.there (.there (.there .here))))) (fun w hw => Ob.sl_at hw)) | exact (Ent.gnO (.there (.there (.there (.there (.there .here))))) (fun w hw => Ob.row_at hw))) (by omega) (by first | omega | (simp only [Bs_length]; omega) | (simp; done) | (simp; omega)) (fun a ha => ?_); cases ha)) | (first | refine vcLoad1_row (by first | exact Ent.refl | assumption | exact Ent.gnG (by assumption) | exact Ent.gnG (Ent.gnG (by assumption)) | exact (Ent.gnO .here (fun w hw => Ob.sl_at hw)) | exact (Ent.gnO .here (fun w hw => Ob.row_at hw)) | exact (Ent.gnO (.there .here) (fun w hw => Ob.sl_at hw)) | exact (Ent.gnO (.there .here) (fun w hw => Ob.row_at hw)) | exact (Ent.gnO (.there (.there .here)) (fun w hw => Ob.sl_at hw)) | exact (Ent.gnO (.there (.there .here)) (fun w hw => Ob.row_at hw)) | exact (Ent.gnO (.there (.there (.there .here))) (fun w hw => Ob.sl_at hw)) | exact (Ent.gnO (.there (.there (.there .here))) (fun w hw => Ob.row_at hw)) | exact (Ent.gnO (.there (.there (.there (.there .here)))) (fun w hw => Ob.sl_at hw)) | exact (Ent.gnO (.there (.there (.there (.there .here)))) (fun w hw => Ob.row_at hw)) | exact (Ent.gnO (.there (.there (.there (.there (.there .here))))) (fun w hw => Ob.sl_at hw)) | exact (Ent.gnO (.there (.there (.there (.there (.there .here))))) (fun w hw => Ob.row_at hw))) (by first | rfl | exact Bs_get (by omega) | assumption) ?_ | refine vcLoad1_2 (by first | exact Ent.refl | assumption | exact Ent.gnG (by assumption) | exact Ent.gnG (Ent.gnG (by assumption)) | exact (Ent.gnO .here (fun w hw => Ob.sl_at hw)) | exact (Ent.gnO .here (fun w hw => Ob.row_at hw)) | exact (Ent.gnO (.there .here) (fun w hw => Ob.sl_at hw)) | exact (Ent.gnO (.there .here) (fun w hw => Ob.row_at hw)) | exact (Ent.gnO (.there (.there .here)) (fun w hw => Ob.sl_at hw)) | exact (Ent.gnO (.there (.there .here)) (fun w hw => Ob.row_at hw)) | exact (Ent.gnO (.there (.there (.there .here))) (fun w hw => Ob.sl_at hw)) | exact (Ent.gnO (.there (.there (.there .here))) (fun w hw => Ob.row_at hw)) | exact (Ent.gnO (.there (.there (.there (.there .here)))) (fun w hw => Ob.sl_at hw)) | exact (Ent.gnO (.there (.there (.there (.there .here)))) (fun w hw => Ob.row_at hw)) | exact (Ent.gnO (.there (.there (.there (.there (.there .here))))) (fun w hw => Ob.sl_at hw)) | exact (Ent.gnO (.there (.there (.there (.there (.there .here))))) (fun w hw => Ob.row_at hw))) (by first | rfl | exact Bs_get (by omega) | assumption) ?_ | refine vcLoad1_3 (by first | exact Ent.refl | assumption | exact Ent.gnG (by assumption) | exact Ent.gnG (Ent.gnG (by assumption)) | exact (Ent.gnO .here (fun w hw => Ob.sl_at hw)) | exact (Ent.gnO .here (fun w hw => Ob.row_at hw)) | exact (Ent.gnO (.there .here) (fun w hw => Ob.sl_at hw)) | exact (Ent.gnO (.there .here) (fun w hw => Ob.row_at hw)) | exact (Ent.gnO (.there (.there .here)) (fun w hw => Ob.sl_at hw)) | exact (Ent.gnO (.there (.there .here)) (fun w hw => Ob.row_at hw)) | exact (Ent.gnO (.there (.there (.there .here))) (fun w hw => Ob.sl_at hw)) | exact (Ent.gnO (.there (.there (.there .here))) (fun w hw => Ob.row_at hw)) | exact (Ent.gnO (.there (.there (.there (.there .here)))) (fun w hw => Ob.sl_at hw)) | exact (Ent.gnO (.there (.there (.there (.there .here)))) (fun w hw => Ob.row_at hw)) | exact (Ent.gnO (.there (.there (.there (.there (.there .here))))) (fun w hw => Ob.sl_at hw)) | exact (Ent.gnO (.there (.there (.there (.there (.there .here))))) (fun w hw => Ob.row_at hw))) (by first | rfl | exact Bs_get (by omega) | assumption) ?_ | refine vcLoad1_0 (by first | exact Ent.refl | assumption | exact Ent.gnG (by assumption) | exact Ent.gnG (Ent.gnG (by assumption)) | exact (Ent.gnO .here (fun w hw => Ob.sl_at hw)) | exact (Ent.gnO .here (fun w hw => Ob.row_at hw)) | exact (Ent.gnO (.there .here) (fun w hw => Ob.sl_at hw)) | exact (Ent.gnO (.there .here) (fun w hw => Ob.row_at hw)) | exact (Ent.gnO (.there (.there .here)) (fun w hw => Ob.sl_at hw)) | exact (Ent.gnO (.there (.there .here)) (fun w hw => Ob.row_at hw)) | exact (Ent.gnO (.there (.there (.there .here))) (fun w hw => Ob.sl_at hw)) | exact (Ent.gnO (.there (.there (.there .here))) (fun w hw => Ob.row_at hw)) | exact (Ent.gnO (.there (.there (.there (.there .here)))) (fun w hw => Ob.sl_at hw)) | exact (Ent.gnO (.there (.there (.there (.there .here)))) (fun w hw => Ob.row_at hw)) | exact (Ent.gnO (.there (.there (.there (.there (.there .here))))) (fun w hw => Ob.sl_at hw)) | exact (Ent.gnO (.there (.there (.there (.there (.there .here))))) (fun w hw => Ob.row_at hw))) (by first | rfl | exact Bs_get (by omega) | assumption) ?_) | (first | refine vcStore1_1 _ _ .here rfl (by first | omega | (simp only [Bs_length]; omega) | (simp; done) | (simp; omega)) rfl ?_ | refine vcStore1_2 _ _ .here rfl (by first | omega | (simp only [Bs_length]; omega) | (simp; done) | (simp; omega)) rfl ?_ | refine vcStore1_0 _ _ .here rfl (by first | omega | (simp only [Bs_length]; omega) | (simp; done) | (simp; omega)) rfl ?_ | refine vcStore1_1 _ _ (.there .here) rfl (by first | omega | (simp only [Bs_length]; omega) | (simp; done) | (simp; omega)) rfl ?_ | refine vcStore1_2 _ _ (.there .here) rfl (by first | omega | (simp only [Bs_length]; omega) | (simp; done) | (simp; omega)) rfl ?_ | refine vcStore1_0 _ _ (.there .here) rfl (by first | omega | (simp only [Bs_length]; omega) | (simp; done) | (simp; omega)) rfl ?_ | refine vcStore1_1 _ _ (.there (.there .here)) rfl (by first | omega | (simp only [Bs_length]; omega) | (simp; done) | (simp; omega)) rfl ?_ | refine vcStore1_2 _ _ (.there (.there .here)) rfl (by first | omega | (simp only [Bs_length]; omega) | (simp; done) | (simp; omega)) rfl ?_ | refine vcStore1_0 _ _ (.there (.there .here)) rfl (by first | omega | (simp only [Bs_length]; omega) | (simp; done) | (simp; omega)) rfl ?_ | refine vcStore1_1 _ _ (.there (.there (.there .here))) rfl (by first | omega | (simp only [Bs_length]; omega) | (simp; done) | (simp; omega)) rfl ?_ | refine vcStore1_2 _ _ (.there (.there (.there .here))) rfl (by first | omega | (simp only [Bs_length]; omega) | (simp; done) | (simp; omega)) rfl ?_ | refine vcStore1_0 _ _ (.there (.there (.there .here))) rfl (by first | omega | (simp only [Bs_length]; omega) | (simp; done) | (simp; omega)) rfl ?_ | refine vcStore1_1 _ _ (.there (.there (.there (.there .here)))) rfl (by first | omega | (simp only [Bs_length]; omega) | (simp; done) | (simp; omega)) rfl ?_ | refine vcStore1_2 _ _ (.there (.there (.there (.there .here)))) rfl (by first | omega | (simp only [Bs_length]; omega) | (simp; done) | (simp; omega)) rfl ?_ | refine vcStore1_0 _ _ (.there (.there (.there (.there .here)))) rfl (by first | omega | (simp only [Bs_length]; omega) | (simp; done) | (simp; omega)) rfl ?_ | refine vcStore1_1 _ _ (.there (.there (.there (.there (.there .here))))) rfl (by first | omega | (simp only [Bs_length]; omega) | (simp; done) | (simp; omega)) rfl ?_ | refine vcStore1_2 _ _ (.there (.there (.there (.there (.there .here))))) rfl (by first | omega | (simp only [Bs_length]; omega) | (simp; done) | (simp; omega)) rfl ?_ | refine vcStore1_0 _ _ (.there (.there (.there (.there (.there .here))))) rfl (by first | omega | (simp only [Bs_length]; omega) | (simp; done) | (simp; omega)) rfl ?_))
  intro bt
  have hle4 := le4_bytes xs.length
  generalize byteI ((xs.length : Int) % 256) = y0 at hle4 ⊢
  generalize byteI ((xs.length : Int) / 256 % 256) = y1 at hle4 ⊢
  generalize byteI ((xs.length : Int) / 65536 % 256) = y2 at hle4 ⊢
  generalize byteI ((xs.length : Int) / 16777216 % 256) = y3 at hle4 ⊢
  generalize hl : xs ++ le4 xs.length = l
  have hll : l.length = xs.length + 4 := by rw [← hl]; simp [le4]
  have hget : ∀ (k : Nat) (hk : k < l.length), (∀ h : k < xs.length, xs[k] = l[k]) ∧ (∀ h : xs.length ≤ k, (le4 xs.length)[k - xs.length]? = some l[k]) := by
    intro k hk
    subst hl
    refine ⟨fun h => by rw [List.getElem_append_left h], fun h => ?_⟩
    rw [List.getElem_append_right h]
    exact List.getElem?_eq_getElem _
  refine vcLoop_of (fun k : Nat => xs.length + 4 - k) (fun k => [(0, .slice A xs.length c), (3, .int .u64 (mixL seed0 (l.take k)).1), (4, .int .u64 (mixL seed0 (l.take k)).2), (5, .int .i64 xs.length), (6, .slice (some ⟨bt, 0, none⟩) 4 4), (7, .int .i64 k)])
    (fun _ => [.sl (some ⟨bt, 0, none⟩) 4 5 1 (Bs (le4 xs.length))]) (fun _ => MT) (fun k => k ≤ xs.length + 4) 0 (Nat.zero_le _)
    ⟨rfl, rfl, rfl, rfl, rfl, rfl, trivial⟩ ⟨[], .cons (by rw [← hle4]; exact .here) .nil⟩ (fun _ _ => trivial) ?_
  intro k hk
  have hs := mixL_lt seed0 seed0_lt (l.take k)
  refine vcFit_i64 (by omega) ?_
  refine vcIf_dec (fun hlt => ?_) (fun hge => ?_)
  · have hk' : k < l.length := by omega
    have hsn : mixL seed0 (l.take (k + 1)) = mixN (mixL seed0 (l.take k)) l[k] := by rw [take_snoc_get hk', mixL_snoc]
    have hg := hget k hk'
    generalize hx : l[k] = x at hg hsn
    have hxb := x.toNat_lt
    generalize mixL seed0 (l.take k) = s at hs hsn
    have e1 : Bs xs = Bs xs := rfl
    have hrd := rdig_round s x
    have hm1 := (mixN_lt (s := s) x).1
    refine vcIf_dec (fun hlt => ?_) (fun hge => ?_)
    · have hx' := hg.1 (by omega)
      refine vcIdx_nat k rfl (Ent.gnG h1) (by omega) (by rw [Bs_length]; exact Nat.le_refl _) (fun a ha => ?_)
      subst ha
      refine vcLoad1_row (Ent.gnG h1) (Bs_get (by omega)) ?_
      rw [hx']
      refine vcFit_u64_in (by omega) ?_
      refine vcBit_as _ (xor64 _ _ hs.1 (by omega)) ?_
      refine vcFit_u64 ?_
      rw [show (1099511628211 : Int) = ((1099511628211 : Nat) : Int) from rfl, mul64]
      refine vcCall_of .nil (rrot_spec _ 23 (Nat.mod_lt _ (by decide)) (by omega) _) (fun v own' N' hv => ?_); obtain ⟨rfl, rfl, rfl⟩ := hv
      refine vcFit_u64 ?_
      rw [add64, ← hrd.1]
      refine vcBit_as _ (xor64 _ _ hs.2 hm1) ?_
      refine vcCall_of .nil (rrot_spec _ 41 (xor_lt hs.2 hm1) (by omega) _) (fun v own' N' hv => ?_); obtain ⟨rfl, rfl, rfl⟩ := hv
      refine vcFit_u64 ?_
      rw [show (2654435761 : Int) = ((2654435761 : Nat) : Int) from rfl, mul64]
      refine vcFit_u64 ?_
      rw [add64, ← hrd.2]
      refine vcFit_i64 (by omega) ?_
      refine ⟨k + 1, by omega, by omega, ⟨rfl, ?_, ?_, rfl, rfl, rfl, trivial⟩, ⟨[], .cons .here .nil⟩, fun _ _ => trivial⟩
      · rw [hsn]; rfl
      · rw [hsn]; rfl
    · have hx' := hg.2 (by omega)
      refine vcFit_i64 (by omega) ?_
      refine vcIdx_some (k - xs.length) (by omega) (by omega) ?_
      refine vcLoad1_row (v := .int .u8 x.toNat) (Ent.gnO .here (fun w hw => Ob.sl_at hw)) (by simp [Bs, hx', B]) ?_
      refine vcFit_u64_in (by omega) ?_
      refine vcBit_as _ (xor64 _ _ hs.1 (by omega)) ?_
      refine vcFit_u64 ?_
      rw [show (1099511628211 : Int) = ((1099511628211 : Nat) : Int) from rfl, mul64]
      refine vcCall_of .nil (rrot_spec _ 23 (Nat.mod_lt _ (by decide)) (by omega) _) (fun v own' N' hv => ?_); obtain ⟨rfl, rfl, rfl⟩ := hv
      refine vcFit_u64 ?_
      rw [add64, ← hrd.1]
      refine vcBit_as _ (xor64 _ _ hs.2 hm1) ?_
      refine vcCall_of .nil (rrot_spec _ 41 (xor_lt hs.2 hm1) (by omega) _) (fun v own' N' hv => ?_); obtain ⟨rfl, rfl, rfl⟩ := hv
      refine vcFit_u64 ?_
      rw [show (2654435761 : Int) = ((2654435761 : Nat) : Int) from rfl, mul64]
      refine vcFit_u64 ?_
      rw [add64, ← hrd.2]
      refine vcFit_i64 (by omega) ?_
      refine ⟨k + 1, by omega, by omega, ⟨rfl, ?_, ?_, rfl, rfl, rfl, trivial⟩, ⟨[], .cons .here .nil⟩, fun _ _ => trivial⟩
      · rw [hsn]; rfl
      · rw [hsn]; rfl
  · have hk' : k = l.length := by omega
    subst hk'
    rw [List.take_length] at hs ⊢
    generalize hq : mixL seed0 l = s at hs ⊢
    have hd : dig xs = be 8 s.1 ++ be 8 s.2 := by unfold dig; rw [hl, hq]
    refine vcMk_nat 16 rfl rfl (by decide) (by decide) (fun bo => ?_)
    refine vcLoop_of (fun k : Nat => 8 - k) (fun k => [(3, .int .u64 (s.1 / 256 ^ k : Nat)), (4, .int .u64 (s.2 / 256 ^ k : Nat)), (9, .slice (some ⟨bo, 0, none⟩) 16 16), (10, .int .i64 (7 - k))])
      (fun k => [.sl (some ⟨bo, 0, none⟩) 16 5 1 (Bs (outR (be 8 s.1) (be 8 s.2) k))]) (fun _ => MT) (fun k => k ≤ 8) 0 (Nat.zero_le _)
      ⟨by simp [look], by simp [look], rfl, rfl, trivial⟩ ⟨_, .cons .here .nil⟩ (fun _ _ => trivial) ?_
    intro k hk
    have hol := outR_length (be 8 s.1) (be 8 s.2) (be_length _ _) (be_length _ _) k hk
    refine vcIf_dec (fun hlt => ?_) (fun hge => ?_)
    · have hk' : k < 8 := by omega
      have hd1 : s.1 / 256 ^ k ≤ s.1 := Nat.div_le_self _ _
      have hd2 : s.2 / 256 ^ k ≤ s.2 := Nat.div_le_self _ _
      have hp1 : (0 : Int) ≤ ((s.1 / 256 ^ k : Nat) : Int) := Int.natCast_nonneg _
      have hp2 : (0 : Int) ≤ ((s.2 / 256 ^ k : Nat) : Int) := Int.natCast_nonneg _
      refine vcFit_i64 (by omega) ?_
      refine vcFit_byte ?_
      refine vcFit_byte ?_
      refine vcIdx_some (7 - k) (by omega) (by omega) ?_
      refine vcStore1_1 _ _ .here rfl (by simp [Ob.cells, Bs_length, hol]; omega) rfl ?_
      refine vcIdx_some (15 - k) (by omega) (by omega) ?_
      refine vcStore1_1 _ _ .here rfl (by simp [Ob.cells, Ob.set, Bs_length, hol]; omega) rfl ?_
      refine vcQuo_u64 (by omega) ?_
      refine vcQuo_u64 (by omega) ?_
      refine vcFit_i64 (by omega) ?_
      refine ⟨k + 1, by omega, by omega, ⟨?_, ?_, rfl, ?_, trivial⟩, ⟨[], .cons ?_ .nil⟩, fun _ _ => trivial⟩
      · refine congrArg (fun z => some (Value.int .u64 z)) ?_
        rw [Nat.pow_succ, ← Nat.div_div_eq_div_mul]; simp
      · refine congrArg (fun z => some (Value.int .u64 z)) ?_
        rw [Nat.pow_succ, ← Nat.div_div_eq_div_mul]; simp
      · refine congrArg (fun z => some (Value.int .i64 z)) ?_
        omega
      · rw [← outR_step (be_length _ _) (be_length _ _) k hk' _ _ (be8_back s.1 k hk') (be8_back s.2 k hk'), ← Bs_set, ← Bs_set]
        exact .here
    · have hk' : k = 8 := by omega
      subst hk'
      have hfin : outR (be 8 s.1) (be 8 s.2) 8 = dig xs := by
        rw [hd]; simp [outR]
      rw [hfin]
      have hdl : (dig xs).length = 16 := dig_length xs
      exact ⟨_, [], MT, .cons .here .nil, fun _ _ _ => trivial, _, 16, by rw [hdl]; rfl, rfl, rfl, by rw [hdl]; omega⟩

theorem pdig_spec (A : Option Addr) (c : Nat) (xs : List UInt8) (G : Mp) (h1 : Ent G (RowAt A (Bs xs))) (hx : xs.length ≤ 281474976710656) :
    Spec Try.prog 44 #[.slice A xs.length c] [] G (Ret (.agg (Bs (dig xs)).toArray)) := by
  refine Spec.intro (args := [_]) wide Try.func44 rfl Try.call44 (by rfl) (by rfl) (fun w0 hw0 => ?_)
  intro bo bp
  have e : pieces [(A, c, xs)] = xs := by simp [pieces]
  refine vcCall_of .nil (of_spec (some ⟨bp, 0, none⟩) 1 [(A, c, xs)] _ (Ent.gnO .here (fun w hw => Ob.sl_at hw)) (fun p hp => ?_) (by rw [e]; omega) (by simp)) (fun v own' N' hv => ?_)
  · obtain rfl := List.mem_singleton.1 hp
    exact Ent.gnG h1
  · rw [e] at hv
    obtain ⟨rfl, rfl, rfl⟩ := hv
    have hdl : (Bs (dig xs)).length = 16 := by rw [Bs_length, dig_length]
    refine ⟨hdl, vcStoreN_row _ (.there .here) hdl (Bs_one _) ?_⟩
    refine vcLoadN_0 (Ent.gnO .here (fun w hw => Ob.row_at hw)) hdl ?_
    exact ⟨[], _, MT, .nil, fun _ _ _ => trivial, rfl, rfl, rfl⟩
end Go.Proofs.Ytnhkeghahiedfaa
