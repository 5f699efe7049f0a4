/- Layer 10: takings: the server's hello, the choice. [PrmE PrmF PrmG PrmH PrmI PrmJ ShkM VarC VarD VarG VarH VarP ShkN ShkO ShkP] -/
import Derived.Test.YticllmnblcjjcaaMg3
import Derived.Test.YticllmnblcjjcaaMg2
section
/- The reference's digest; Digest. -/
namespace Go.Proofs.Yticllmnblcjjcaa
open Go.Proofs
set_option maxRecDepth 10000

theorem rrot_spec (w k : Nat) (hw : w < 18446744073709551616) (hk : k < 64) (G : Mp) : Spec Try.prog 72 #[.int .u64 w, .int .i64 k] [] G (Ret (.int .u64 (rotN w k : Nat))) := by
  refine Spec.intro (args := [_, _]) wide Try.func72 rfl Try.call72 (by rfl) (by rfl) (fun w0 hw0 => ?_)
  refine vcFit_u64_in (by omega) ?_
  refine vcShl_nat (n := k) (show k ≤ 64 by omega) ?_
  refine vcFit_u64 ?_
  refine vcFit_i64 (by omega) ?_
  refine vcFit_u64_in (by omega) ?_
  rw [show (64 : Int) - k = ((64 - k : Nat) : Int) from by omega]
  refine vcShr_nat (n := 64 - k) (show 64 - k ≤ 64 by omega) ?_
  have e1 : ((w : Int) * 2 ^ k) % 18446744073709551616 = ((w * 2 ^ k % 18446744073709551616 : Nat) : Int) := by simp
  have e2 : (w : Int) / 2 ^ (64 - k) = ((w / 2 ^ (64 - k) : Nat) : Int) := by simp
  refine vcBit_as (rotN w k : Nat) ?_ ⟨[], [], MT, .nil, fun _ _ _ => trivial, rfl, rfl, rfl⟩
  rw [e1, e2, bitI_or (by rw [max_u64]; omega) (by have := Nat.div_le_self w (2 ^ (64 - k)); rw [max_u64]; omega)]
  rfl

def outR (L M : List UInt8) (k : Nat) : List UInt8 := List.replicate (8 - k) 0 ++ L.drop (8 - k) ++ (List.replicate (8 - k) 0 ++ M.drop (8 - k))
theorem outR_length (L M : List UInt8) (hL : L.length = 8) (hM : M.length = 8) (k : Nat) (hk : k ≤ 8) : (outR L M k).length = 16 := by simp [outR, hL, hM]; omega
theorem outR_step {L M : List UInt8} (hL : L.length = 8) (hM : M.length = 8) (k : Nat) (hk : k < 8) (x y : UInt8) (hx : L[7 - k]? = some x) (hy : M[7 - k]? = some y) : ((outR L M k).set (7 - k) x).set (15 - k) y = outR L M (k + 1) := by
  obtain ⟨a, b, c, d, e, f, g, i, rfl⟩ := list8 hL
  obtain ⟨a', b', c', d', e', f', g', i', rfl⟩ := list8 hM
  match k, hk with
  | 0, _ | 1, _ | 2, _ | 3, _ | 4, _ | 5, _ | 6, _ | 7, _ => cases hx; cases hy; rfl
theorem be8_back (a k : Nat) (hk : k < 8) : (be 8 a)[7 - k]? = some (byteI ((a / 256 ^ k : Nat) : Int)) := by
  rw [be8_get a (7 - k) (by omega), byteI_nat, show 56 - 8 * (7 - k) = 8 * k from by omega, Nat.pow_mul]
theorem le4_bytes (n : Nat) : [byteI ((n : Int) % 256), byteI ((n : Int) / 256 % 256), byteI ((n : Int) / 65536 % 256), byteI ((n : Int) / 16777216 % 256)] = le4 n := by
  have h : ∀ m : Nat, byteI ((m : Int) % 256) = UInt8.ofNat (m % 256) := fun m => by
    rw [show (m : Int) % 256 = ((m % 256 : Nat) : Int) from by omega, byteI_nat, Nat.mod_mod]
  rw [h, show (n : Int) / 256 = ((n / 256 : Nat) : Int) from by omega, h, show (n : Int) / 65536 = ((n / 65536 : Nat) : Int) from by omega, h, show (n : Int) / 16777216 = ((n / 16777216 : Nat) : Int) from by omega, h]
  rfl

theorem rdig_round (s : Nat × Nat) (x : UInt8) : (mixN s x).1 = (rotN ((s.1 ^^^ x.toNat) * 1099511628211 % 18446744073709551616) 23 + s.2) % 18446744073709551616 ∧
    (mixN s x).2 = (rotN (s.2 ^^^ (mixN s x).1) 41 * 2654435761 % 18446744073709551616 + x.toNat) % 18446744073709551616 := ⟨rfl, rfl⟩

theorem rdig_spec (A : Option Addr) (c : Nat) (xs : List UInt8) (G : Mp) (h1 : Ent G (RowAt A (Bs xs))) (hx : xs.length ≤ 281474976710656) :
    Spec Try.prog 46 #[.slice A xs.length c] [] G (OwnB (dig xs)) := by
  refine Spec.intro (args := [_]) wide Try.func46 rfl Try.call46 (by rfl) (by rfl) (fun w0 hw0 => ?_)
  repeat' (first | (first | refine vcFit_i64 (by omega) ?_ | refine vcFit_byte ?_ | refine vcFit_u64_in (by omega) ?_ | refine vcRem_pos (by omega) ?_ | refine vcQuo_i64 (by omega) ?_ | refine vcShr_nat (n := _) (by decide) ?_) | (first | refine vcIf_yes (by omega) ?_ | refine vcIf_no (by omega) ?_ | refine vcIf_nyes (by omega) ?_ | refine vcIf_nno (by omega) ?_ | refine vcIf_dec (fun _ => ?_) (fun _ => ?_) | refine vcIf_ndec (fun _ => ?_) (fun _ => ?_)) | (first | refine vcIdx_some _ (by first | exact rfl | exact (Int.natCast_add _ 1).symm | exact (Int.toNat_of_nonneg (by omega)).symm) (by omega) ?_ | (refine vcIdx_nat _ (by first | exact rfl | exact (Int.natCast_add _ 1).symm | exact (Int.toNat_of_nonneg (by omega)).symm) (by first | exact Ent.refl | assumption | exact Ent.gnG (by assumption) | exact Ent.gnG (Ent.gnG (by assumption)) | exact (Ent.gnO .here (fun w hw => Ob.sl_at hw)) | exact (Ent.gnO .here (fun w hw => Ob.row_at hw)) | exact (Ent.gnO (.there .here) (fun w hw => Ob.sl_at hw)) | exact (Ent.gnO (.there .here) (fun w hw => Ob.row_at hw)) | exact (Ent.gnO (.there (.there .here)) (fun w hw => Ob.sl_at hw)) | exact (Ent.gnO (.there (.there .here)) (fun w hw => Ob.row_at hw)) | exact (Ent.gnO (.there (.there (.there .here))) (fun w hw => Ob.sl_at hw)) | exact (Ent.gnO (.there (.there (.there .here))) (fun w hw => Ob.row_at hw)) | exact (Ent.gnO (.there (.there (.there (.there .here)))) (fun w hw => Ob.sl_at hw)) | exact (Ent.gnO (.there (.there (.there (.there .here)))) (fun w hw => Ob.row_at hw)) | exact (Ent.gnO (.there (.there (.there (.there (.there .here))))) (fun w hw => Ob.sl_at hw)) | exact (Ent.gnO (.there (.there (.there (.there (.there .here))))) (fun w hw => Ob.row_at hw))) (by omega) (by first | omega | (simp only [Bs_length]; omega) | (simp; done) | (simp; omega)) (fun a ha => ?_); cases ha)) | (first | refine vcLoad1_row (by first | exact Ent.refl | assumption | exact Ent.gnG (by assumption) | exact Ent.gnG (Ent.gnG (by assumption)) | exact (Ent.gnO .here (fun w hw => Ob.sl_at hw)) | exact (Ent.gnO .here (fun w hw => Ob.row_at hw)) | exact (Ent.gnO (.there .here) (fun w hw => Ob.sl_at hw)) | exact (Ent.gnO (.there .here) (fun w hw => Ob.row_at hw)) | exact (Ent.gnO (.there (.there .here)) (fun w hw => Ob.sl_at hw)) | exact (Ent.gnO (.there (.there .here)) (fun w hw => Ob.row_at hw)) | exact (Ent.gnO (.there (.there (.there .here))) (fun w hw => Ob.sl_at hw)) | exact (Ent.gnO (.there (.there (.there .here))) (fun w hw => Ob.row_at hw)) | exact (Ent.gnO (.there (.there (.there (.there .here)))) (fun w hw => Ob.sl_at hw)) | exact (Ent.gnO (.there (.there (.there (.there .here)))) (fun w hw => Ob.row_at hw)) | exact (Ent.gnO (.there (.there (.there (.there (.there .here))))) (fun w hw => Ob.sl_at hw)) | exact (Ent.gnO (.there (.there (.there (.there (.there .here))))) (fun w hw => Ob.row_at hw))) (by first | rfl | exact Bs_get (by omega) | assumption) ?_ | refine vcLoad1_2 (by first | exact Ent.refl | assumption | exact Ent.gnG (by assumption) | exact Ent.gnG (Ent.gnG (by assumption)) | exact (Ent.gnO .here (fun w hw => Ob.sl_at hw)) | exact (Ent.gnO .here (fun w hw => Ob.row_at hw)) | exact (Ent.gnO (.there .here) (fun w hw => Ob.sl_at hw)) | exact (Ent.gnO (.there .here) (fun w hw => Ob.row_at hw)) | exact (Ent.gnO (.there (.there .here)) (fun w hw => Ob.sl_at hw)) | exact (Ent.gnO (.there (.there .here)) (fun w hw => Ob.row_at hw)) | exact (Ent.gnO (.there (.there (.there .here))) (fun w hw => Ob.sl_at hw)) | exact (Ent.gnO (.there (.there (.there .here))) (fun w hw => Ob.row_at hw)) | exact (Ent.gnO (.there (.there (.there (.there .here)))) (fun w hw => Ob.sl_at hw)) | exact (Ent.gnO (.there (.there (.there (.there .here)))) (fun w hw => Ob.row_at hw)) | exact (Ent.gnO (.there (.there (.there (.there (.there .here))))) (fun w hw => Ob.sl_at hw)) | exact (Ent.gnO (.there (.there (.there (.there (.there .here))))) (fun w hw => Ob.row_at hw))) (by first | rfl | exact Bs_get (by omega) | assumption) ?_ | refine vcLoad1_3 (by first | exact Ent.refl | assumption | exact Ent.gnG (by assumption) | exact Ent.gnG (Ent.gnG (by assumption)) | exact (Ent.gnO .here (fun w hw => Ob.sl_at hw)) | exact (Ent.gnO .here (fun w hw => Ob.row_at hw)) | exact (Ent.gnO (.there .here) (fun w hw => Ob.sl_at hw)) | exact (Ent.gnO (.there .here) (fun w hw => Ob.row_at hw)) | exact (Ent.gnO (.there (.there .here)) (fun w hw => Ob.sl_at hw)) | exact (Ent.gnO (.there (.there .here)) (fun w hw => Ob.row_at hw)) | exact (Ent.gnO (.there (.there (.there .here))) (fun w hw => Ob.sl_at hw)) | exact (Ent.gnO (.there (.there (.there .here))) (fun w hw => Ob.row_at hw)) | exact (Ent.gnO (.there (.there (.there (.there .here)))) (fun w hw => Ob.sl_at hw)) | exact (Ent.gnO (.there (.there (.there (.there .here)))) (fun w hw => Ob.row_at hw)) | exact (Ent.gnO (.there (.there (.there (.there (.there .here))))) (fun w hw => Ob.sl_at hw)) | exact (Ent.gnO (.there (.there (.there (.there (.there .here))))) (fun w hw => Ob.row_at hw))) (by first | rfl | exact Bs_get (by omega) | assumption) ?_ | refine vcLoad1_0 (by first | exact Ent.refl | assumption | exact Ent.gnG (by assumption) | exact Ent.gnG (Ent.gnG (by assumption)) | exact (Ent.gnO .here (fun w hw => Ob.sl_at hw)) | exact (Ent.gnO .here (fun w hw => Ob.row_at hw)) | exact (Ent.gnO (.there .here) (fun w hw => Ob.sl_at hw)) | exact (Ent.gnO (.there .here) (fun w hw => Ob.row_at hw)) | exact (Ent.gnO (.there (.there .here)) (fun w hw => Ob.sl_at hw)) | exact (Ent.gnO (.there (.there .here)) (fun w hw => Ob.row_at hw)) | exact (Ent.gnO (.there (.there (.there .here))) (fun w hw => Ob.sl_at hw)) | exact (Ent.gnO (.there (.there (.there .here))) (fun w hw => Ob.row_at hw)) | exact (Ent.gnO (.there (.there (.there (.there .here)))) (fun w hw => Ob.sl_at hw)) | exact (Ent.gnO (.there (.there (.there (.there .here)))) (fun w hw => Ob.row_at hw)) | exact (Ent.gnO (.there (.there (.there (.there (.there .here))))) (fun w hw => Ob.sl_at hw)) | exact (Ent.gnO (.there (.there (.there (.there (.there .here))))) (fun w hw => Ob.row_at hw))) (by first | rfl | exact Bs_get (by omega) | assumption) ?_) | (first | refine vcStore1_1 _ _ .here rfl (by first | omega | (simp only [Bs_length]; omega) | (simp; done) | (simp; omega)) rfl ?_ | refine vcStore1_2 _ _ .here rfl (by first | omega | (simp only [Bs_length]; omega) | (simp; done) | (simp; omega)) rfl ?_ | refine vcStore1_0 _ _ .here rfl (by first | omega | (simp only [Bs_length]; omega) | (simp; done) | (simp; omega)) rfl ?_ | refine vcStore1_1 _ _ (.there .here) rfl (by first | omega | (simp only [Bs_length]; omega) | (simp; done) | (simp; omega)) rfl ?_ | refine vcStore1_2 _ _ (.there .here) rfl (by first | omega | (simp only [Bs_length]; omega) | (simp; done) | (simp; omega)) rfl ?_ | refine vcStore1_0 _ _ (.there .here) rfl (by first | omega | (simp only [Bs_length]; omega) | (simp; done) | (simp; omega)) rfl ?_ | refine vcStore1_1 _ _ (.there (.there .here)) rfl (by first | omega | (simp only [Bs_length]; omega) | (simp; done) | (simp; omega)) rfl ?_ | refine vcStore1_2 _ _ (.there (.there .here)) rfl (by first | omega | (simp only [Bs_length]; omega) | (simp; done) | (simp; omega)) rfl ?_ | refine vcStore1_0 _ _ (.there (.there .here)) rfl (by first | omega | (simp only [Bs_length]; omega) | (simp; done) | (simp; omega)) rfl ?_ | refine vcStore1_1 _ _ (.there (.there (.there .here))) rfl (by first | omega | (simp only [Bs_length]; omega) | (simp; done) | (simp; omega)) rfl ?_ | refine vcStore1_2 _ _ (.there (.there (.there .here))) rfl (by first | omega | (simp only [Bs_length]; omega) | (simp; done) | (simp; omega)) rfl ?_ | refine vcStore1_0 _ _ (.there (.there (.there .here))) rfl (by first | omega | (simp only [Bs_length]; omega) | (simp; done) | (simp; omega)) rfl ?_ | refine vcStore1_1 _ _ (.there (.there (.there (.there .here)))) rfl (by first | omega | (simp only [Bs_length]; omega) | (simp; done) | (simp; omega)) rfl ?_ | refine vcStore1_2 _ _ (.there (.there (.there (.there .here)))) rfl (by first | omega | (simp only [Bs_length]; omega) | (simp; done) | (simp; omega)) rfl ?_ | refine vcStore1_0 _ _ (.there (.there (.there (.there .here)))) rfl (by first | omega | (simp only [Bs_length]; omega) | (simp; done) | (simp; omega)) rfl ?_ | refine vcStore1_1 _ _ (.there (.there (.there (.there (.there .here))))) rfl (by first | omega | (simp only [Bs_length]; omega) | (simp; done) | (simp; omega)) rfl ?_ | refine vcStore1_2 _ _ (.there (.there (.there (.there (.there .here))))) rfl (by first | omega | (simp only [Bs_length]; omega) | (simp; done) | (simp; omega)) rfl ?_ | refine vcStore1_0 _ _ (.there (.there (.there (.there (.there .here))))) rfl (by first | omega | (simp only [Bs_length]; omega) | (simp; done) | (simp; omega)) rfl ?_))
  intro bt
  have hle4 := le4_bytes xs.length
  generalize byteI ((xs.length : Int) % 256) = y0 at hle4 ⊢
  generalize byteI ((xs.length : Int) / 256 % 256) = y1 at hle4 ⊢
  generalize byteI ((xs.length : Int) / 65536 % 256) = y2 at hle4 ⊢
  generalize byteI ((xs.length : Int) / 16777216 % 256) = y3 at hle4 ⊢
  generalize hl : xs ++ le4 xs.length = l
  have hll : l.length = xs.length + 4 := by rw [← hl]; simp [le4]
  have hget : ∀ (k : Nat) (hk : k < l.length), (∀ h : k < xs.length, xs[k] = l[k]) ∧ (∀ h : xs.length ≤ k, (le4 xs.length)[k - xs.length]? = some l[k]) := by
    intro k hk
    subst hl
    refine ⟨fun h => by rw [List.getElem_append_left h], fun h => ?_⟩
    rw [List.getElem_append_right h]
    exact List.getElem?_eq_getElem _
  refine vcLoop_of (fun k : Nat => xs.length + 4 - k) (fun k => [(0, .slice A xs.length c), (3, .int .u64 (mixL seed0 (l.take k)).1), (4, .int .u64 (mixL seed0 (l.take k)).2), (5, .int .i64 xs.length), (6, .slice (some ⟨bt, 0, none⟩) 4 4), (7, .int .i64 k)])
    (fun _ => [.sl (some ⟨bt, 0, none⟩) 4 5 1 (Bs (le4 xs.length))]) (fun _ => MT) (fun k => k ≤ xs.length + 4) 0 (Nat.zero_le _)
    ⟨rfl, rfl, rfl, rfl, rfl, rfl, trivial⟩ ⟨[], .cons (by rw [← hle4]; exact .here) .nil⟩ (fun _ _ => trivial) ?_
  intro k hk
  have hs := mixL_lt seed0 seed0_lt (l.take k)
  refine vcFit_i64 (by omega) ?_
  refine vcIf_dec (fun hlt => ?_) (fun hge => ?_)
  · have hk' : k < l.length := by omega
    have hsn : mixL seed0 (l.take (k + 1)) = mixN (mixL seed0 (l.take k)) l[k] := by rw [take_snoc_get hk', mixL_snoc]
    have hg := hget k hk'
    generalize hx : l[k] = x at hg hsn
    have hxb := x.toNat_lt
    generalize mixL seed0 (l.take k) = s at hs hsn
    have e1 : Bs xs = Bs xs := rfl
    have hrd := rdig_round s x
    have hm1 := (mixN_lt (s := s) x).1
    refine vcIf_dec (fun hlt => ?_) (fun hge => ?_)
    · have hx' := hg.1 (by omega)
      refine vcIdx_nat k rfl (Ent.gnG h1) (by omega) (by rw [Bs_length]; exact Nat.le_refl _) (fun a ha => ?_)
      subst ha
      refine vcLoad1_row (Ent.gnG h1) (Bs_get (by omega)) ?_
      rw [hx']
      refine vcFit_u64_in (by omega) ?_
      refine vcBit_as _ (xor64 _ _ hs.1 (by omega)) ?_
      refine vcFit_u64 ?_
      rw [show (1099511628211 : Int) = ((1099511628211 : Nat) : Int) from rfl, mul64]
      refine vcCall_of .nil (rrot_spec _ 23 (Nat.mod_lt _ (by decide)) (by omega) _) (fun v own' N' hv => ?_); obtain ⟨rfl, rfl, rfl⟩ := hv
      refine vcFit_u64 ?_
      rw [add64, ← hrd.1]
      refine vcBit_as _ (xor64 _ _ hs.2 hm1) ?_
      refine vcCall_of .nil (rrot_spec _ 41 (xor_lt hs.2 hm1) (by omega) _) (fun v own' N' hv => ?_); obtain ⟨rfl, rfl, rfl⟩ := hv
      refine vcFit_u64 ?_
      rw [show (2654435761 : Int) = ((2654435761 : Nat) : Int) from rfl, mul64]
      refine vcFit_u64 ?_
      rw [add64, ← hrd.2]
      refine vcFit_i64 (by omega) ?_
      refine ⟨k + 1, by omega, by omega, ⟨rfl, ?_, ?_, rfl, rfl, rfl, trivial⟩, ⟨[], .cons .here .nil⟩, fun _ _ => trivial⟩
      · rw [hsn]; rfl
      · rw [hsn]; rfl
    · have hx' := hg.2 (by omega)
      refine vcFit_i64 (by omega) ?_
      refine vcIdx_some (k - xs.length) (by omega) (by omega) ?_
      refine vcLoad1_row (v := .int .u8 x.toNat) (Ent.gnO .here (fun w hw => Ob.sl_at hw)) (by simp [Bs, hx', B]) ?_
      refine vcFit_u64_in (by omega) ?_
      refine vcBit_as _ (xor64 _ _ hs.1 (by omega)) ?_
      refine vcFit_u64 ?_
      rw [show (1099511628211 : Int) = ((1099511628211 : Nat) : Int) from rfl, mul64]
      refine vcCall_of .nil (rrot_spec _ 23 (Nat.mod_lt _ (by decide)) (by omega) _) (fun v own' N' hv => ?_); obtain ⟨rfl, rfl, rfl⟩ := hv
      refine vcFit_u64 ?_
      rw [add64, ← hrd.1]
      refine vcBit_as _ (xor64 _ _ hs.2 hm1) ?_
      refine vcCall_of .nil (rrot_spec _ 41 (xor_lt hs.2 hm1) (by omega) _) (fun v own' N' hv => ?_); obtain ⟨rfl, rfl, rfl⟩ := hv
      refine vcFit_u64 ?_
      rw [show (2654435761 : Int) = ((2654435761 : Nat) : Int) from rfl, mul64]
      refine vcFit_u64 ?_
      rw [add64, ← hrd.2]
      refine vcFit_i64 (by omega) ?_
      refine ⟨k + 1, by omega, by omega, ⟨rfl, ?_, ?_, rfl, rfl, rfl, trivial⟩, ⟨[], .cons .here .nil⟩, fun _ _ => trivial⟩
      · rw [hsn]; rfl
      · rw [hsn]; rfl
  · have hk' : k = l.length := by omega
    subst hk'
    rw [List.take_length] at hs ⊢
    generalize hq : mixL seed0 l = s at hs ⊢
    have hd : dig xs = be 8 s.1 ++ be 8 s.2 := by unfold dig; rw [hl, hq]
    refine vcMk_nat 16 rfl rfl (by decide) (by decide) (fun bo => ?_)
    refine vcLoop_of (fun k : Nat => 8 - k) (fun k => [(3, .int .u64 (s.1 / 256 ^ k : Nat)), (4, .int .u64 (s.2 / 256 ^ k : Nat)), (9, .slice (some ⟨bo, 0, none⟩) 16 16), (10, .int .i64 (7 - k))])
      (fun k => [.sl (some ⟨bo, 0, none⟩) 16 5 1 (Bs (outR (be 8 s.1) (be 8 s.2) k))]) (fun _ => MT) (fun k => k ≤ 8) 0 (Nat.zero_le _)
      ⟨by simp [look], by simp [look], rfl, rfl, trivial⟩ ⟨_, .cons .here .nil⟩ (fun _ _ => trivial) ?_
    intro k hk
    have hol := outR_length (be 8 s.1) (be 8 s.2) (be_length _ _) (be_length _ _) k hk
    refine vcIf_dec (fun hlt => ?_) (fun hge => ?_)
    · have hk' : k < 8 := by omega
      have hd1 : s.1 / 256 ^ k ≤ s.1 := Nat.div_le_self _ _
      have hd2 : s.2 / 256 ^ k ≤ s.2 := Nat.div_le_self _ _
      have hp1 : (0 : Int) ≤ ((s.1 / 256 ^ k : Nat) : Int) := Int.natCast_nonneg _
      have hp2 : (0 : Int) ≤ ((s.2 / 256 ^ k : Nat) : Int) := Int.natCast_nonneg _
      refine vcFit_i64 (by omega) ?_
      refine vcFit_byte ?_
      refine vcFit_byte ?_
      refine vcIdx_some (7 - k) (by omega) (by omega) ?_
      refine vcStore1_1 _ _ .here rfl (by simp [Ob.cells, Bs_length, hol]; omega) rfl ?_
      refine vcIdx_some (15 - k) (by omega) (by omega) ?_
      refine vcStore1_1 _ _ .here rfl (by simp [Ob.cells, Ob.set, Bs_length, hol]; omega) rfl ?_
      refine vcQuo_u64 (by omega) ?_
      refine vcQuo_u64 (by omega) ?_
      refine vcFit_i64 (by omega) ?_
      refine ⟨k + 1, by omega, by omega, ⟨?_, ?_, rfl, ?_, trivial⟩, ⟨[], .cons ?_ .nil⟩, fun _ _ => trivial⟩
      · refine congrArg (fun z => some (Value.int .u64 z)) ?_
        rw [Nat.pow_succ, ← Nat.div_div_eq_div_mul]; simp
      · refine congrArg (fun z => some (Value.int .u64 z)) ?_
        rw [Nat.pow_succ, ← Nat.div_div_eq_div_mul]; simp
      · refine congrArg (fun z => some (Value.int .i64 z)) ?_
        omega
      · rw [← outR_step (be_length _ _) (be_length _ _) k hk' _ _ (be8_back s.1 k hk') (be8_back s.2 k hk'), ← Bs_set, ← Bs_set]
        exact .here
    · have hk' : k = 8 := by omega
      subst hk'
      have hfin : outR (be 8 s.1) (be 8 s.2) 8 = dig xs := by
        rw [hd]; simp [outR]
      rw [hfin]
      have hdl : (dig xs).length = 16 := dig_length xs
      exact ⟨_, [], MT, .cons .here .nil, fun _ _ _ => trivial, _, 16, by rw [hdl]; rfl, rfl, rfl, by rw [hdl]; omega⟩

theorem pdig_spec (A : Option Addr) (c : Nat) (xs : List UInt8) (G : Mp) (h1 : Ent G (RowAt A (Bs xs))) (hx : xs.length ≤ 281474976710656) :
    Spec Try.prog 84 #[.slice A xs.length c] [] G (Ret (.agg (Bs (dig xs)).toArray)) := by
  refine Spec.intro (args := [_]) wide Try.func84 rfl Try.call84 (by rfl) (by rfl) (fun w0 hw0 => ?_)
  intro bo bp
  have e : pieces [(A, c, xs)] = xs := by simp [pieces]
  refine vcCall_of .nil (of_spec (some ⟨bp, 0, none⟩) 1 [(A, c, xs)] _ (Ent.gnO .here (fun w hw => Ob.sl_at hw)) (fun p hp => ?_) (by rw [e]; omega) (by simp)) (fun v own' N' hv => ?_)
  · obtain rfl := List.mem_singleton.1 hp
    exact Ent.gnG h1
  · rw [e] at hv
    obtain ⟨rfl, rfl, rfl⟩ := hv
    have hdl : (Bs (dig xs)).length = 16 := by rw [Bs_length, dig_length]
    refine ⟨hdl, vcStoreN_row _ (.there .here) hdl (Bs_one _) ?_⟩
    refine vcLoadN_0 (Ent.gnO .here (fun w hw => Ob.row_at hw)) hdl ?_
    exact ⟨[], _, MT, .nil, fun _ _ _ => trivial, rfl, rfl, rfl⟩
end Go.Proofs.Yticllmnblcjjcaa
end

section
/- Turning bytes by the stream. -/
namespace Go.Proofs.Yticllmnblcjjcaa
open Go.Proofs
set_option maxRecDepth 10000

theorem xor_u8 (x y : UInt8) : bitI .xor .u8 (x.toNat : Int) (y.toNat : Int) = ((x ^^^ y).toNat : Int) := by
  rw [bitI_xor (by rw [max_u8]; have := x.toNat_lt; omega) (by rw [max_u8]; have := y.toNat_lt; omega), UInt8.toNat_xor]
theorem block_length (key nonce : List UInt8) (j : Nat) : (block key nonce j).length = 16 := dig_length _
theorem turnL_get (key nonce data : List UInt8) (j r : Nat) (hr : r < 16) (h : 16 * j + r < data.length) : (turnL key nonce data)[16 * j + r]? = some (data[16 * j + r] ^^^ ((block key nonce j)[r]?).getD 0) := by
  have e1 : (16 * j + r) / 16 = j := by omega
  have e2 : (16 * j + r) % 16 = r := by omega
  simp only [turnL, List.getElem?_map, List.getElem?_zipIdx, Nat.zero_add, Option.map_map]
  rw [List.getElem?_eq_getElem h, Option.map_some]
  simp only [Function.comp, e1, e2]
/-- One byte more of a row that is laid from the left. -/
theorem lay_set {T U : List UInt8} {k : Nat} {x : UInt8} (hT : T[k]? = some x) (hU : k < U.length) (hl : T.length = U.length) : (T.take k ++ U.drop k).set k x = T.take (k + 1) ++ U.drop (k + 1) := by
  have hk : k < T.length := by omega
  have hx : T[k] = x := by rw [List.getElem?_eq_getElem hk] at hT; exact Option.some.inj hT
  rw [List.set_append_right _ _ (by rw [List.length_take]; omega), List.length_take, Nat.min_eq_left (by omega), Nat.sub_self]
  rw [List.drop_eq_getElem_cons hU, List.set_cons_zero, List.take_succ_eq_append_getElem hk, hx]
  simp
theorem lay_length (T U : List UInt8) (k : Nat) (hl : T.length = U.length) : (T.take k ++ U.drop k).length = U.length := by simp; omega

end Go.Proofs.Yticllmnblcjjcaa
end

section
/- Tags, sealing and opening. -/
namespace Go.Proofs.Yticllmnblcjjcaa
open Go.Proofs
set_option maxRecDepth 10000

/-- Bytes of its own and an error's number. -/

theorem tagL_length (key nonce ad cipher : List UInt8) : (tagL key nonce ad cipher).length = 16 := dig_length _
theorem sealL_big {key nonce ad plain : List UInt8} (h : 255 < key.length ∨ 255 < nonce.length) : sealL key nonce ad plain = ([], 70) := if_pos h
theorem sealL_huge {key nonce ad plain : List UInt8} (h : ¬ (255 < key.length ∨ 255 < nonce.length)) (h' : 16384 < ad.length ∨ 16384 < plain.length) : sealL key nonce ad plain = ([], 52) := by unfold sealL; rw [if_neg h, if_pos h']
theorem sealL_ok {key nonce ad plain : List UInt8} (h : ¬ (255 < key.length ∨ 255 < nonce.length)) (h' : ¬ (16384 < ad.length ∨ 16384 < plain.length)) :
    sealL key nonce ad plain = (turnL key nonce plain ++ tagL key nonce ad (turnL key nonce plain), 0) := by unfold sealL; rw [if_neg h, if_neg h']

end Go.Proofs.Yticllmnblcjjcaa
end

section
/- Opening. -/
namespace Go.Proofs.Yticllmnblcjjcaa
open Go.Proofs
set_option maxRecDepth 10000

theorem openL_big {key nonce ad s : List UInt8} (h : 255 < key.length ∨ 255 < nonce.length) : openL key nonce ad s = ([], 70) := if_pos h
theorem openL_huge {key nonce ad s : List UInt8} (h : ¬ (255 < key.length ∨ 255 < nonce.length)) (h' : 16384 < ad.length ∨ 16400 < s.length) : openL key nonce ad s = ([], 52) := by unfold openL; rw [if_neg h, if_pos h']
theorem openL_short {key nonce ad s : List UInt8} (h : ¬ (255 < key.length ∨ 255 < nonce.length)) (h' : ¬ (16384 < ad.length ∨ 16400 < s.length)) (h2 : s.length < 16) : openL key nonce ad s = ([], 12) := by unfold openL; rw [if_neg h, if_neg h', if_pos h2]
theorem openL_tag {key nonce ad c t : List UInt8} (ht : t.length = 16) (h : ¬ (255 < key.length ∨ 255 < nonce.length)) (h' : ¬ (16384 < ad.length ∨ 16384 < c.length)) (h2 : tagL key nonce ad c ≠ t) : openL key nonce ad (c ++ t) = ([], 71) := by
  unfold openL; rw [if_neg h, List.length_append, ht, if_neg (by omega), if_neg (by omega), Nat.add_sub_cancel, List.take_left, List.drop_left, if_neg h2]
theorem openL_ok {key nonce ad c t : List UInt8} (ht : t.length = 16) (h : ¬ (255 < key.length ∨ 255 < nonce.length)) (h' : ¬ (16384 < ad.length ∨ 16384 < c.length)) (h2 : tagL key nonce ad c = t) : openL key nonce ad (c ++ t) = (turnL key nonce c, 0) := by
  unfold openL; rw [if_neg h, List.length_append, ht, if_neg (by omega), if_neg (by omega), Nat.add_sub_cancel, List.take_left, List.drop_left, if_pos h2]

end Go.Proofs.Yticllmnblcjjcaa
end

section
/- Masks. -/
namespace Go.Proofs.Yticllmnblcjjcaa
open Go.Proofs
set_option maxRecDepth 10000

/-- The five bytes, the error's number. -/
def maskL (key sample : List UInt8) : List UInt8 × Int :=
  if 255 < key.length then ([0, 0, 0, 0, 0], 70) else if sample.length < 16 then ([0, 0, 0, 0, 0], 12) else ((dig ([3] ++ txt key ++ sample.take 16)).take 5, 0)
theorem maskL_length (key sample : List UInt8) : (maskL key sample).1.length = 5 := by
  unfold maskL
  split
  · rfl
  · split
    · rfl
    · simp [dig_length]
theorem maskL_big {key sample : List UInt8} (h : 255 < key.length) : maskL key sample = ([0, 0, 0, 0, 0], 70) := if_pos h
theorem maskL_short {key sample : List UInt8} (h : ¬ 255 < key.length) (h' : sample.length < 16) : maskL key sample = ([0, 0, 0, 0, 0], 12) := by unfold maskL; rw [if_neg h, if_pos h']
theorem maskL_ok {key sample : List UInt8} (h : ¬ 255 < key.length) (h' : ¬ sample.length < 16) : maskL key sample = ((dig ([3] ++ txt key ++ sample.take 16)).take 5, 0) := by unfold maskL; rw [if_neg h, if_neg h']

end Go.Proofs.Yticllmnblcjjcaa
end

section
/- The reference's masks; Expand, both. -/
namespace Go.Proofs.Yticllmnblcjjcaa
open Go.Proofs
set_option maxRecDepth 10000

theorem cutA_zero (A : Option Addr) (m s : Nat) : cutA A m 0 s = A := by
  unfold cutA
  split
  · rfl
  · cases A with
    | none => rfl
    | some a => simp [add_zero]

/-- The bytes out of a secret. -/
def xblk (secret label : List UInt8) (i : Nat) : List UInt8 := dig (txt secret ++ txt label ++ [UInt8.ofNat (i % 256)])
def xall (secret label : List UInt8) (k : Nat) : List UInt8 := (List.range k).flatMap (xblk secret label)
def expandL (secret label : List UInt8) (n : Int) : List UInt8 × Int :=
  if 255 < secret.length ∨ 255 < label.length then ([], 70) else if n < 0 ∨ 1024 < n then ([], 52) else ((xall secret label ((n.toNat + 15) / 16)).take n.toNat, 0)
theorem xall_length (secret label : List UInt8) : ∀ k, (xall secret label k).length = 16 * k
  | 0 => rfl
  | k + 1 => by
    have := xall_length secret label k
    unfold xall at *
    rw [List.range_succ, List.flatMap_append, List.length_append, this]
    simp [xblk, dig_length]; omega
theorem xall_succ (secret label : List UInt8) (k : Nat) : xall secret label (k + 1) = xall secret label k ++ xblk secret label k := by
  unfold xall; rw [List.range_succ, List.flatMap_append]; simp
theorem expandL_big {secret label : List UInt8} {n : Int} (h : 255 < secret.length ∨ 255 < label.length) : expandL secret label n = ([], 70) := if_pos h
theorem expandL_huge {secret label : List UInt8} {n : Int} (h : ¬ (255 < secret.length ∨ 255 < label.length)) (h' : n < 0 ∨ 1024 < n) : expandL secret label n = ([], 52) := by unfold expandL; rw [if_neg h, if_pos h']
theorem expandL_ok {secret label : List UInt8} {n : Nat} (h : ¬ (255 < secret.length ∨ 255 < label.length)) (h' : ¬ (1024 < n)) : expandL secret label n = ((xall secret label ((n + 15) / 16)).take n, 0) := by unfold expandL; rw [if_neg h, if_neg (by omega), Int.toNat_natCast]
theorem expandL_length {secret label : List UInt8} {n : Nat} : ((xall secret label ((n + 15) / 16)).take n).length = n := by rw [List.length_take, xall_length]; omega

theorem expand_spec (As : Option Addr) (cs : Nat) (secret : List UInt8) (lab : ByteArray) (n : Int) (G : Mp) (hs : Ent G (RowAt As (Bs secret))) :
    Spec Try.prog 85 #[.slice As secret.length cs, .string lab, .int .i64 n] [] G (GetBE (expandL secret lab.data.toList n).1 (expandL secret lab.data.toList n).2) := by
  refine Spec.intro (args := [_, _, _]) wide Try.func85 rfl Try.call85 (by rfl) (by rfl) (fun w0 hw0 => ?_)
  have hll : lab.size = lab.data.toList.length := rfl
  generalize hlb : lab.data.toList = label at hll ⊢
  refine vcCall_of .nil (long_spec As cs secret.length _) (fun v own' N' hv => ?_); obtain ⟨rfl, rfl, rfl⟩ := hv
  refine vcIf_dec (fun h1 => ?_) (fun h1 => ?_)
  · rw [expandL_big (.inl h1)]
    exact ⟨[], _, MT, .nil, fun _ _ _ => trivial, none, 0, rfl, rfl, fun _ _ => RowAt.nil, Nat.le_refl _⟩
  refine vcIf_dec (fun h2 => ?_) (fun h2 => ?_)
  · rw [expandL_big (.inr (by omega))]
    exact ⟨[], _, MT, .nil, fun _ _ _ => trivial, none, 0, rfl, rfl, fun _ _ => RowAt.nil, Nat.le_refl _⟩
  have hl255 : label.length ≤ 255 := by omega
  refine vcIf_dec (fun h3 => ?_) (fun h3 => ?_)
  · rw [expandL_huge (by omega) (by omega)]
    exact ⟨[], _, MT, .nil, fun _ _ _ => trivial, none, 0, rfl, rfl, fun _ _ => RowAt.nil, Nat.le_refl _⟩
  refine vcIf_dec (fun h4 => ?_) (fun h4 => ?_)
  · rw [expandL_huge (by omega) (by omega)]
    exact ⟨[], _, MT, .nil, fun _ _ _ => trivial, none, 0, rfl, rfl, fun _ _ => RowAt.nil, Nat.le_refl _⟩
  obtain ⟨n, rfl⟩ := Int.eq_ofNat_of_zero_le (show 0 ≤ n by omega)
  rw [expandL_ok (by omega) (by omega)]
  have hfl := expandL_length (secret := secret) (label := label) (n := n)
  refine vcLoop_of (fun g : Nat × Option Addr × Nat => n + 16 - 16 * g.1) (fun g => [(0, .slice As secret.length cs), (1, .string lab), (2, .int .i64 n), (8, .slice g.2.1 (xall secret label g.1).length g.2.2), (9, .int .i64 g.1)])
    (fun g => [.sl g.2.1 g.2.2 5 1 (Bs (xall secret label g.1))]) (fun _ => MT) (fun g => 16 * g.1 < n + 16 ∧ (xall secret label g.1).length ≤ g.2.2) (0, none, 0) ⟨by omega, Nat.le_refl _⟩
    ⟨rfl, rfl, rfl, rfl, rfl, trivial⟩ ⟨_, .cons .none_ .nil⟩ (fun _ _ => trivial) ?_
  rintro ⟨k, A, c⟩ ⟨hk, hc⟩
  simp only at hk hc
  have hxl := xall_length secret label k
  refine vcIf_dec (fun hlt => ?_) (fun hge => ?_)
  · simp only at hlt
    refine vcCall_of .nil (short_spec As cs secret _ (Ent.gnG hs) (by omega)) (fun v own' N' hv => ?_); obtain ⟨A1, c1, rfl, rfl, rfl, hc1⟩ := hv
    intro bl cl hcl
    rw [hlb, hll]
    refine vcCall_of .nil (short_spec (some ⟨bl, 0, none⟩) cl label _ (Ent.gnO .here (fun w hw => Ob.sl_at hw)) (by omega)) (fun v own' N' hv => ?_); obtain ⟨A2, c2, rfl, rfl, rfl, hc2⟩ := hv
    refine vcFit_byte ?_
    intro b3 bp
    have e : pieces [(A1, c1, txt secret), (A2, c2, txt label), (some ⟨b3, 0, none⟩, 1, [byteI (k : Int)])] = txt secret ++ txt label ++ [UInt8.ofNat (k % 256)] := by simp [pieces, byteI_nat]
    have hel : (txt secret ++ txt label ++ [UInt8.ofNat (k % 256)]).length ≤ 1000 := by simp [txt]; omega
    refine vcCall_of .nil (e ▸ of_spec (some ⟨bp, 0, none⟩) 3 [(A1, c1, txt secret), (A2, c2, txt label), (some ⟨b3, 0, none⟩, 1, [byteI (k : Int)])] _ (Ent.gnO .here (fun w hw => Ob.sl_at hw)) (fun p hp => by
      simp only [List.mem_cons, List.not_mem_nil, or_false] at hp
      rcases hp with rfl | rfl | rfl
      · exact (Ent.gnO (.there (.there (.there (.there .here)))) (fun w hw => Ob.sl_at hw))
      · exact (Ent.gnO (.there (.there .here)) (fun w hw => Ob.sl_at hw))
      · exact (Ent.gnO (.there .here) (fun w hw => Ob.sl_at hw))) (by rw [e]; omega) (by simp)) (fun v own' N' hv => ?_); obtain ⟨rfl, rfl, rfl⟩ := hv
    intro bd
    have hbl : (xblk secret label k).length = 16 := dig_length _
    have hbl' : (Bs (xblk secret label k)).length = 16 := by rw [Bs_length, hbl]
    have hsn := xall_succ secret label k
    have hsl : (xall secret label (k + 1)).length = (xall secret label k).length + 16 := by rw [hsn, List.length_append, hbl]
    refine ⟨hbl', vcStoreN_row _ .here hbl' (Bs_one _) ?_⟩
    refine vcRange_of (by omega) ?_
    refine vcApp_of (Bs (xall secret label k)) _ (Bs (xblk secret label k)) (by first | ((repeat (first | exact .here | apply Take.there)); done) | exact .none_) (by rw [Bs_length, Nat.mul_one]) hbl' (by omega) (Bs_one _) (Ent.gnO .here (fun w hw => Ob.row_at hw)) (by simp only; show (_ + 16) * 1 ≤ _; omega) (by simp only; show _ + 16 ≤ _; omega) (fun A' c' hc' => ?_)
    refine vcFit_i64 (by omega) ?_
    refine ⟨(k + 1, A', c'), ⟨by simp only; omega, by simp only; rw [hsl]; exact hc'⟩, by simp only; omega, ⟨rfl, rfl, rfl, ?_, rfl, trivial⟩, ⟨_, .cons (by simp only [hsn, Bs_append]; exact .here) .nil⟩, fun _ _ => trivial⟩
    simp only [hsl]; rfl
  · simp only at hge
    have hk' : k = (n + 15) / 16 := by omega
    subst hk'
    refine vcSlice3_as 0 n n rfl (by omega) (by omega) (by simp only; omega) (by omega) (fun A' hA' => ?_)
    refine ⟨[], _, RowAt A' (Bs ((xall secret label ((n + 15) / 16)).take n)), .nil, fun w _ ho => ?_, A', n, by rw [hfl]; rfl, rfl, Ent.refl, by simp only [hfl]; omega⟩
    have hA : A' = A := hA'.trans (cutA_zero A _ _)
    subst hA
    rw [Bs_take]
    exact (Ob.sl_at (ho _ (List.mem_cons_self ..))).take n

theorem rexpand_spec (As : Option Addr) (cs : Nat) (secret : List UInt8) (lab : ByteArray) (n : Int) (G : Mp) (hs : Ent G (RowAt As (Bs secret))) :
    Spec Try.prog 44 #[.slice As secret.length cs, .string lab, .int .i64 n] [] G (OwnBE (expandL secret lab.data.toList n).1 (expandL secret lab.data.toList n).2) := by
  refine Spec.intro (args := [_, _, _]) wide Try.func44 rfl Try.call44 (by rfl) (by rfl) (fun w0 hw0 => ?_)
  have hll : lab.size = lab.data.toList.length := rfl
  generalize hlb : lab.data.toList = label at hll ⊢
  refine vcIf_dec (fun h1 => ?_) (fun h1 => ?_)
  · exact ⟨_, [], MT, .cons .none_ .nil, fun _ _ _ => trivial, retE (expandL_big (.inl (by omega))) (OwnBE_nil 70)⟩
  refine vcIf_dec (fun h2 => ?_) (fun h2 => ?_)
  · exact ⟨_, [], MT, .cons .none_ .nil, fun _ _ _ => trivial, retE (expandL_big (.inr (by omega))) (OwnBE_nil 70)⟩
  have hl255 : label.length ≤ 255 := by omega
  refine vcIf_dec (fun h3 => ?_) (fun h3 => ?_)
  · exact ⟨_, [], MT, .cons .none_ .nil, fun _ _ _ => trivial, retE (expandL_huge (by omega) (by omega)) (OwnBE_nil 52)⟩
  refine vcIf_dec (fun h4 => ?_) (fun h4 => ?_)
  · exact ⟨_, [], MT, .cons .none_ .nil, fun _ _ _ => trivial, retE (expandL_huge (by omega) (by omega)) (OwnBE_nil 52)⟩
  obtain ⟨n, rfl⟩ := Int.eq_ofNat_of_zero_le (show 0 ≤ n by omega)
  rw [expandL_ok (by omega) (by omega)]
  have hfl := expandL_length (secret := secret) (label := label) (n := n)
  intro bo
  refine vcLoop_of (fun g : Nat × Option Addr × Nat => n + 16 - 16 * g.1) (fun g => [(0, .slice As secret.length cs), (1, .string lab), (2, .int .i64 n), (8, .slice g.2.1 (xall secret label g.1).length g.2.2), (9, .int .i64 g.1)])
    (fun g => [.sl g.2.1 g.2.2 5 1 (Bs (xall secret label g.1))]) (fun _ => MT) (fun g => 16 * g.1 < n + 16 ∧ (xall secret label g.1).length ≤ g.2.2) (0, some ⟨bo, 0, none⟩, 0) ⟨by omega, Nat.le_refl _⟩
    ⟨rfl, rfl, rfl, rfl, rfl, trivial⟩ ⟨_, .cons .here .nil⟩ (fun _ _ => trivial) ?_
  rintro ⟨k, A, c⟩ ⟨hk, hc⟩
  simp only at hk hc
  have hxl := xall_length secret label k
  refine vcFit_i64 (by simp only; omega) ?_
  refine vcIf_dec (fun hlt => ?_) (fun hge => ?_)
  · simp only at hlt
    refine vcCall_of .nil (text_spec As cs secret _ (Ent.gnG hs) (by omega)) (fun v own' N' hv => ?_); obtain ⟨A1, c1, rfl, rfl, rfl, hc1⟩ := hv
    intro bl cl hcl
    rw [hlb, hll]
    refine vcCall_of .nil (text_spec (some ⟨bl, 0, none⟩) cl label _ (Ent.gnO .here (fun w hw => Ob.sl_at hw)) (by omega)) (fun v own' N' hv => ?_); obtain ⟨A2, c2, rfl, rfl, rfl, hc2⟩ := hv
    refine vcFit_byte ?_
    intro b3 bp
    have e : pieces [(A1, c1, txt secret), (A2, c2, txt label), (some ⟨b3, 0, none⟩, 1, [byteI (k : Int)])] = txt secret ++ txt label ++ [UInt8.ofNat (k % 256)] := by simp [pieces, byteI_nat]
    have hel : (txt secret ++ txt label ++ [UInt8.ofNat (k % 256)]).length ≤ 1000 := by simp [txt]; omega
    refine vcCall_of .nil (e ▸ join_spec (some ⟨bp, 0, none⟩) 3 [(A1, c1, txt secret), (A2, c2, txt label), (some ⟨b3, 0, none⟩, 1, [byteI (k : Int)])] _ (Ent.gnO .here (fun w hw => Ob.sl_at hw)) (fun p hp => by
      simp only [List.mem_cons, List.not_mem_nil, or_false] at hp
      rcases hp with rfl | rfl | rfl
      · exact (Ent.gnO (.there (.there (.there (.there .here)))) (fun w hw => Ob.sl_at hw))
      · exact (Ent.gnO (.there (.there .here)) (fun w hw => Ob.sl_at hw))
      · exact (Ent.gnO (.there .here) (fun w hw => Ob.sl_at hw))) (by rw [e]; omega) (by simp)) (fun v own' N' hv => ?_); obtain ⟨A3, c3, rfl, rfl, rfl, hc3⟩ := hv
    refine vcCall_of .nil (rdig_spec A3 c3 _ _ (Ent.gnO .here (fun w hw => Ob.sl_at hw)) (by omega)) (fun v own' N' hv => ?_); obtain ⟨A4, c4, rfl, rfl, rfl, hc4⟩ := hv
    have hbl : (xblk secret label k).length = 16 := dig_length _
    have hbl' : (Bs (xblk secret label k)).length = 16 := by rw [Bs_length, hbl]
    have hsn := xall_succ secret label k
    have hsl : (xall secret label (k + 1)).length = (xall secret label k).length + 16 := by rw [hsn, List.length_append, hbl]
    have hd : dig (txt secret ++ txt label ++ [UInt8.ofNat (k % 256)]) = xblk secret label k := rfl
    rw [hd] at hc4 ⊢
    rw [hbl]
    refine vcApp_of (Bs (xall secret label k)) _ (Bs (xblk secret label k)) (by first | ((repeat (first | exact .here | apply Take.there)); done) | exact .none_) (by rw [Bs_length, Nat.mul_one]) hbl' (by omega) (Bs_one _) (Ent.gnO .here (fun w hw => Ob.sl_at hw)) (by simp only; show (_ + 16) * 1 ≤ _; omega) (by simp only; show _ + 16 ≤ _; omega) (fun A' c' hc' => ?_)
    refine vcFit_i64 (by omega) ?_
    refine ⟨(k + 1, A', c'), ⟨by simp only; omega, by simp only; rw [hsl]; exact hc'⟩, by simp only; omega, ⟨rfl, rfl, rfl, ?_, rfl, trivial⟩, ⟨_, .cons (by simp only [hsn, Bs_append]; exact .here) .nil⟩, fun _ _ => trivial⟩
    simp only [hsl]
    rfl
  · simp only at hge
    have hk' : k = (n + 15) / 16 := by omega
    subst hk'
    refine vcSlice3_as 0 n c rfl (by omega) (by simp only; omega) (by simp only; omega) (by omega) (fun A' hA' => ?_)
    have hA : A' = A := hA'.trans (cutA_zero A _ _)
    subst hA
    have hfl' : n = ((xall secret label ((n + 15) / 16)).take n).length := hfl.symm
    have hrow : Ent (GN G [.sl A' c 5 1 (Bs (xall secret label ((n + 15) / 16)))] MT) (RowAt A' (Bs ((xall secret label ((n + 15) / 16)).take n))) := Ent.gnO .here fun w hw => by rw [Bs_take]; exact (Ob.sl_at hw).take n
    generalize hq : (xall secret label ((n + 15) / 16)).take n = q at hfl' hrow hfl ⊢
    clear hq hfl
    subst hfl'
    refine vcCall_of .nil (copy_spec A' c q _ hrow (by omega)) (fun v own' N' hv => ?_); obtain ⟨A5, c5, rfl, rfl, rfl, hc5⟩ := hv
    exact ⟨_, _, MT, .cons .here .nil, fun _ _ _ => trivial, A5, c5, rfl, rfl, rfl, hc5⟩
end Go.Proofs.Yticllmnblcjjcaa
end

section
/- Layer 10: what a side says and hears; its secrets: the objects that a message's taking may write. -/
namespace Go.Proofs.Yticllmnblcjjcaa
open Go.Proofs
set_option maxRecDepth 10000

/-- What a call leaves holds of some memory. -/
theorem Spec.live {P : Program} {f : FuncId} {args : Array Value} {A : List Ob} {G : Mp} {Post : Value → List Ob → Mp → Prop} (h : Spec P f args A G Post) :
    Spec P f args A G (fun v own N => Post v own N ∧ ∃ w, N w ∧ Objs own w) :=
  ⟨h.1, fun w hw => (h.2 w hw).mono fun _ w' ⟨v, own, N, he, hP, hi⟩ => ⟨v, own, N, he, ⟨hP, w', hi.stable w' (Nat.le_refl _) (fun _ _ _ _ => rfl), hi.objs⟩, hi⟩⟩
theorem vcStoreN_eq {own : List Ob} {b : Addr} {i : Nat} {vs : List Value} {k : List Ob → Prop} (o o' : Ob) (rest : List Ob) (ht : Take o own rest) (hb : o.base = some b) (hi : i + vs.length ≤ o.cells.length) (h1 : ∀ v ∈ vs, oneCell v = true) (e : o.setL i vs = o')
    (hk : k (o' :: rest)) : vcStoreN own (b.add i) vs k := by subst e; exact vcStoreN_1 o rest ht hb hi h1 hk
theorem two_one {a b : Value} (ha : oneCell a = true) (hb : oneCell b = true) : ∀ v ∈ [a, b], oneCell v = true := by
  intro v hv; simp only [List.mem_cons, List.not_mem_nil, or_false] at hv; rcases hv with rfl | rfl <;> assumption
theorem RowAt.some_ {A : Option Addr} {xs : List Value} {w : World} (h : RowAt A xs w) (hx : 0 < xs.length) : A.isSome = true := by
  obtain ⟨a, ha, _⟩ := h 0 xs[0] (List.getElem?_eq_getElem hx)
  rw [ha]; rfl
theorem shdig_spec (A : Option Addr) (c : Nat) (ps : List Piece) (G : Mp) (h1 : Ent G (RowAt A (ps.map pieceV))) (h2 : ∀ p ∈ ps, Ent G (RowAt p.1 (Bs p.2.2))) (hb : (pieces ps).length ≤ 140737488355328) (hl : ps.length ≤ 4611686018427387904) :
    Spec Try.prog 78 #[.slice A ps.length c] [] G (GetB (dig (pieces ps))) := by
  refine Spec.intro (args := [_]) wide Try.func78 rfl Try.call78 (by rfl) (by rfl) (fun w0 hw0 => ?_)
  refine vcCall_of .nil (concat_spec A c ps _ (Ent.gnG h1) (fun p hp => Ent.gnG (h2 p hp)) hb hl) (fun v own' N' hv => ?_); obtain ⟨A1, c1, rfl, rfl, rfl, hc1⟩ := hv
  refine vcCall_of .nil (pdig_spec A1 c1 (pieces ps) _ (Ent.gnO .here (fun w hw => Ob.sl_at hw)) (by omega)) (fun v own' N' hv => ?_); obtain ⟨rfl, rfl, rfl⟩ := hv
  intro b
  have htl : (Bs (dig (pieces ps))).length = 16 := by rw [Bs_length, dig_length]
  refine ⟨htl, vcStoreN_row _ .here htl (Bs_one _) ?_⟩
  refine vcRange_of (by omega) ?_
  refine ⟨[], _, RowAt (some ⟨b, 0, none⟩) (Bs (dig (pieces ps))), .nil, fun w _ ho => Ob.row_at (ho (.row b 107 (Bs (dig (pieces ps))) 16) (.head _)), some ⟨b, 0, none⟩, 16, ?_, rfl, Ent.refl, by rw [dig_length]; exact Nat.le_refl _⟩
  rw [dig_length]; rfl
/-- A side without what it keeps of the other one's bytes. -/
def skP (b : Nat) (s : Sk) : List Ob := skR b s :: pO s.said :: .sl s.oA s.oc 56 2 (flL s.out) :: flO s.out
def SayPTo (b : Nat) (s : Sk) (k lv : Int) (xs : List UInt8) (v : Value) (own : List Ob) (N : Mp) : Prop :=
  ∃ A c oA oc out, v = .tuple #[] ∧ own = skP b { s with said := (A, c, s.said.2.2 ++ msg k xs), oA := oA, oc := oc, out := out } ∧ N = MT ∧ outs out = sayL (outs s.out) lv (msg k xs)
theorem sayP_spec (b : Nat) (s : Sk) (k lv : Int) (A : Option Addr) (c : Nat) (xs : List UInt8) (G : Mp) (h1 : Ent G (RowAt A (Bs xs))) (hx : xs.length ≤ 1099511627776) (hsd : s.said.2.2.length ≤ 1099511627776) (ho : s.out.length ≤ 1099511627776) (hod : ∀ f ∈ s.out, f.2.2.2.length ≤ 1099511627776) :
    Spec Try.prog 34 #[.pointer (some ⟨b, 0, none⟩), .int .i64 k, .int .i64 lv, .slice A xs.length c] (skP b s) G (SayPTo b s k lv xs) := by
  refine Spec.intro (args := [_, _, _, _]) wide Try.func34 rfl Try.call34 (by rfl) (by rfl) (fun w0 hw0 => ?_)
  refine vcCall_of .nil (msg_spec k A c xs _ (Ent.gnG h1) (by omega)) (fun v own' N' hv => ?_); obtain ⟨Am, cm, rfl, rfl, rfl, hcm⟩ := hv
  have hml := msg_length k xs
  refine vcLoad1_row (j := 40) (Ent.gnO (.there .here) (fun w hw => Ob.row_at hw)) rfl ?_
  refine vcApp_big (Bs s.said.2.2) _ (Bs (msg k xs)) (.there (.there .here)) (by rw [Bs_length]; omega) (by rw [Bs_length]; omega) (by decide) (Bs_one _) (Ent.gnO .here (fun w hw => Ob.sl_at hw)) (by omega) (fun As cs hcs => ?_)
  have hsl : s.said.2.2.length + (msg k xs).length = (s.said.2.2 ++ msg k xs).length := by rw [List.length_append]
  refine vcStore1_eq (skR b s) (skR b { s with said := (As, cs, s.said.2.2 ++ msg k xs) }) _ (.there (.there .here)) rfl (by show (40 : Nat) < 49; decide) rfl (by rw [hsl]; rfl) ?_
  rw [← Bs_append]
  obtain ⟨s', hs'⟩ : ∃ s', s' = { s with said := (As, cs, s.said.2.2 ++ msg k xs) } := ⟨_, rfl⟩
  rw [← hs']
  have ho1 : s'.out = s.out := by rw [hs']
  have ho2 : s'.oA = s.oA := by rw [hs']
  have ho3 : s'.oc = s.oc := by rw [hs']
  have hk0 : s'.k0 = s.k0 := by rw [hs']
  have hk1 : s'.k1 = s.k1 := by rw [hs']
  have hsd' : s'.said = (As, cs, s.said.2.2 ++ msg k xs) := by rw [hs']
  refine vcLoad1_row (j := 41) (v := .slice s'.oA s'.out.length s'.oc) (Ent.gnO .here (fun w hw => Ob.row_at hw)) rfl ?_
  rw [← ho1] at ho hod
  rw [← ho2, ← ho3, ← ho1]
  have fin : ∀ (oA : Option Addr) (oc : Nat) (out : List Fl) (own : List Ob) (N : Mp), outs out = sayL (outs s'.out) lv (msg k xs) → (∃ rest, Pick (skP b { s' with oA := oA, oc := oc, out := out }) own rest) →
      ∃ (own' rest : List Ob) (N' : Mp), Pick own' own rest ∧ (∀ w, N w → Objs rest w → N' w) ∧ SayPTo b s k lv xs (tupleOf []) own' N' :=
    fun oA oc out own N ho ⟨rest, hp⟩ => ⟨_, rest, MT, hp, fun _ _ _ => trivial, As, cs, oA, oc, out, rfl, by rw [hs'], rfl, by rw [ho, ho1]⟩
  have new : sayL (outs s'.out) lv (msg k xs) = outs s'.out ++ [(lv, msg k xs)] → True := fun _ => trivial
  have e41 : ∀ v, ((skR b s').set (41 + 0) v) = .row b 65 ((skL s').set 41 v) 49 := fun _ => rfl
  refine vcIf_dec (fun hpos => ?_) (fun hnil => ?_)
  · obtain hn | ⟨pre, ⟨l, p⟩, hout⟩ := List.eq_nil_or_concat s'.out
    · exfalso
      rw [hn] at hpos
      exact absurd hpos (by decide)
    rw [List.concat_eq_append] at hout
    have hlen : s'.out.length = pre.length + 1 := by rw [hout]; simp
    have hg : s'.out[pre.length]'(by omega) = (l, p) := by simp [hout]
    refine vcLoad1_row (j := 41) (v := .slice s'.oA s'.out.length s'.oc) (Ent.gnO .here (fun w hw => Ob.row_at hw)) rfl ?_
    refine vcFit_i64 (by omega) ?_
    refine vcIdx_nats (s := 2) pre.length (by omega) (Ent.gnO (by first | ((repeat (first | exact .here | apply Take.there)); done) | exact .none_) (fun w hw => Ob.sl_at hw)) (by omega) (by rw [flL_len]; exact Nat.le_refl _) (by omega) (fun a ha => ?_)
    refine vcLoad1_2 (xs := flL s'.out) (v := .int .i64 l) (Ent.gnO (o := .sl s'.oA s'.oc 56 2 (flL s'.out)) (by first | ((repeat (first | exact .here | apply Take.there)); done) | exact .none_) (fun w hw => by rw [← ha]; exact Ob.sl_at hw)) (by have := flL_get0 (l := s'.out) (k := pre.length) (by omega); rw [hg] at this; exact this) ?_
    refine vcIf_dec (fun hlv => ?_) (fun hlv => ?_)
    · subst hlv
      refine vcDraw_mix [0,1,2,3,4,5,6,7,8,9,10,11,12,13,14,15,16,17,18,19] (MpAnd (RowAt (some ⟨b, 0, none⟩) (skL s')) (RowAt s'.oA (flL s'.out))) (by kernel_rfl) (Ent.both (Ent.gnO .here (fun w hw => Ob.row_at hw)) (Ent.gnO (by first | ((repeat (first | exact .here | apply Take.there)); done) | exact .none_) (fun w hw => Ob.sl_at hw))) ?_
      refine vcLoad1_row (j := 41) (v := .slice s'.oA s'.out.length s'.oc) (fun w hw => hw.1) rfl ?_
      refine vcFit_i64 (by omega) ?_
      refine vcLoad1_row (j := 41) (v := .slice s'.oA s'.out.length s'.oc) (fun w hw => hw.1) rfl ?_
      refine vcFit_i64 (by omega) ?_
      refine vcIdx_nats (s := 2) pre.length (by omega) (fun w hw => hw.2) (by omega) (by rw [flL_len]; exact Nat.le_refl _) (by omega) (fun a' ha' => ?_)
      obtain rfl : a' = a := by rw [ha] at ha'; cases ha'; rfl
      refine vcLoad1_2 (xs := flL s'.out) (v := pieceV p) (fun w hw => by rw [← ha]; exact hw.2) (by have := flL_get1 (l := s'.out) (k := pre.length) (by omega); rw [hg] at this; exact this) ?_
      have hpl : p.2.2.length ≤ 1099511627776 := hod (l, p) (by rw [hout]; simp)
      have hfo : flO s'.out = flO pre ++ [pO p] := by rw [hout, flO_app]; rfl
      rw [hfo]
      refine vcApp_big (Bs p.2.2) _ (Bs (msg k xs)) (.there (.there (.there (.there Take.last)))) (by rw [Bs_length]; omega) (by rw [Bs_length]; omega) (by decide) (Bs_one _) (Ent.gnO (by first | ((repeat (first | exact .here | apply Take.there)); done) | exact .none_) (fun w hw => Ob.sl_at hw)) (by omega) (fun Ad cd hcd => ?_)
      refine vcMix_same (Ent.both (Ent.gnO (.there .here) (fun w hw => Ob.row_at hw)) (Ent.gnO (by first | ((repeat (first | exact .here | apply Take.there)); done) | exact .none_) (fun w hw => Ob.sl_at hw))) ?_
      refine vcIdx_nats (s := 2) pre.length (by omega) (fun w hw => hw.2) (by omega) (by rw [flL_len]; exact Nat.le_refl _) (by omega) (fun a2 ha2 => ?_)
      obtain rfl : a2 = a' := by rw [ha] at ha2; cases ha2; rfl
      refine vcStore2_eq (.sl s'.oA s'.oc 56 2 (flL s'.out)) (.sl s'.oA s'.oc 56 2 (flL (pre ++ [(l, (Ad, cd, p.2.2 ++ msg k xs))]))) _ (by first | ((repeat (first | exact .here | apply Take.there)); done) | exact .none_) ha (by show pre.length * 2 + 1 + 0 < (flL s'.out).length; rw [flL_len]; omega) rfl
        (by show Ob.sl _ _ _ _ ((flL s'.out).set (pre.length * 2 + 1) (.slice Ad (p.2.2.length + (msg k xs).length) cd)) = _; rw [hout, ← List.length_append]; exact congrArg _ (flL_set1 pre l p (Ad, cd, p.2.2 ++ msg k xs))) ?_
      refine vcMix_last (by kernel_rfl) ?_
      rw [← Bs_append]
      refine fin s'.oA s'.oc (pre ++ [(l, (Ad, cd, p.2.2 ++ msg k xs))]) _ _ (by rw [hout]; simp only [outs, List.map_append, List.map_cons, List.map_nil]; rw [sayL_same]) ?_
      obtain ⟨r, hr⟩ := Pick.snocA (s := flO pre) (o := pO (Ad, cd, p.2.2 ++ msg k xs)) (x := .sl Am cm 5 1 (Bs (msg k xs)))
      have e1 : skR b s' = skR b { s' with oA := s'.oA, oc := s'.oc, out := pre ++ [(l, (Ad, cd, p.2.2 ++ msg k xs))] } := by
        have : s'.out.length = (pre ++ [(l, ((Ad, cd, p.2.2 ++ msg k xs) : Piece))]).length := by rw [hout]; simp
        unfold skR skL
        simp only [this]
      refine ⟨r, .cons (.there (.there (Take.eq e1.symm))) (.cons (.there (.there (Take.eq (by rw [hsd']; rfl)))) (.cons .here ?_))⟩
      rw [show flO (pre ++ [(l, (Ad, cd, p.2.2 ++ msg k xs))]) = flO pre ++ [pO (Ad, cd, p.2.2 ++ msg k xs)] from by rw [flO_app]; rfl]
      exact hr
    · have hsay : sayL (outs s'.out) lv (msg k xs) = outs s'.out ++ [(lv, msg k xs)] := by
        rw [hout]
        simp only [outs, List.map_append, List.map_cons, List.map_nil]
        exact sayL_new (fun e => hlv (by rw [e]))
      refine vcLoad1_row (j := 41) (v := .slice s'.oA s'.out.length s'.oc) (Ent.gnO .here (fun w hw => Ob.row_at hw)) rfl ?_
      intro b2
      refine vcApp_of (flL s'.out) _ [.int .i64 lv, .slice Am (msg k xs).length cm] (.there (.there (.there (.there .here)))) (flL_len _) rfl (by decide) (by intro v hv; simp only [List.mem_cons, List.not_mem_nil, or_false] at hv; rcases hv with rfl | rfl <;> rfl) (Ent.gnO .here (fun w hw => Ob.sl_at hw)) (by omega) (by omega) (fun A2 c2 hc2 => ?_)
      have hfl : flL s'.out ++ [.int .i64 lv, .slice Am (msg k xs).length cm] = flL (s'.out ++ [(lv, (Am, cm, msg k xs))]) := by rw [flL_app]; rfl
      have hl2 : (s'.out ++ [(lv, ((Am, cm, msg k xs) : Piece))]).length = s'.out.length + 1 := by simp
      rw [hfl]
      refine vcStore1_eq (skR b s') (skR b { s' with oA := A2, oc := c2, out := s'.out ++ [(lv, (Am, cm, msg k xs))] }) _ (.there (.there .here)) rfl (by show (41 : Nat) < 49; decide) rfl (by
        show Ob.row b _ ((skL s').set 41 (.slice A2 (s'.out.length + 1) c2)) 49 = _
        rw [← hl2]; rfl) ?_
      refine fin A2 c2 (s'.out ++ [(lv, (Am, cm, msg k xs))]) _ _ (by rw [hsay]; simp only [outs, List.map_append, List.map_cons, List.map_nil]) ?_
      obtain ⟨r, hr⟩ := Pick.snocB (s := flO s'.out) (o := pO (Am, cm, msg k xs)) (x := .sl (some ⟨b2, 0, none⟩) 1 56 2 [.int .i64 lv, .slice Am (msg k xs).length cm])
      refine ⟨r, .cons .here (.cons (.there (.there (Take.eq (by rw [hsd']; rfl)))) (.cons .here ?_))⟩
      rw [show flO (s'.out ++ [(lv, (Am, cm, msg k xs))]) = flO s'.out ++ [pO (Am, cm, msg k xs)] from by rw [flO_app]; rfl]
      exact hr
  · have hn : s'.out = [] := List.eq_nil_of_length_eq_zero (by omega)
    have hsay : sayL (outs s'.out) lv (msg k xs) = outs s'.out ++ [(lv, msg k xs)] := by rw [hn]; rfl
    refine vcLoad1_row (j := 41) (v := .slice s'.oA s'.out.length s'.oc) (Ent.gnO .here (fun w hw => Ob.row_at hw)) rfl ?_
    intro b2
    refine vcApp_of (flL s'.out) _ [.int .i64 lv, .slice Am (msg k xs).length cm] (.there (.there (.there (.there .here)))) (flL_len _) rfl (by decide) (by intro v hv; simp only [List.mem_cons, List.not_mem_nil, or_false] at hv; rcases hv with rfl | rfl <;> rfl) (Ent.gnO .here (fun w hw => Ob.sl_at hw)) (by omega) (by omega) (fun A2 c2 hc2 => ?_)
    have hfl : flL s'.out ++ [.int .i64 lv, .slice Am (msg k xs).length cm] = flL (s'.out ++ [(lv, (Am, cm, msg k xs))]) := by rw [flL_app]; rfl
    have hl2 : (s'.out ++ [(lv, ((Am, cm, msg k xs) : Piece))]).length = s'.out.length + 1 := by simp
    rw [hfl]
    refine vcStore1_eq (skR b s') (skR b { s' with oA := A2, oc := c2, out := s'.out ++ [(lv, (Am, cm, msg k xs))] }) _ (.there (.there .here)) rfl (by show (41 : Nat) < 49; decide) rfl (by
      show Ob.row b _ ((skL s').set 41 (.slice A2 (s'.out.length + 1) c2)) 49 = _
      rw [← hl2]; rfl) ?_
    refine fin A2 c2 (s'.out ++ [(lv, (Am, cm, msg k xs))]) _ _ (by rw [hsay]; simp only [outs, List.map_append, List.map_cons, List.map_nil]) ?_
    obtain ⟨r, hr⟩ := Pick.snocB (s := flO s'.out) (o := pO (Am, cm, msg k xs)) (x := .sl (some ⟨b2, 0, none⟩) 1 56 2 [.int .i64 lv, .slice Am (msg k xs).length cm])
    refine ⟨r, .cons .here (.cons (.there (.there (Take.eq (by rw [hsd']; rfl)))) (.cons .here ?_))⟩
    rw [show flO (s'.out ++ [(lv, (Am, cm, msg k xs))]) = flO s'.out ++ [pO (Am, cm, msg k xs)] from by rw [flO_app]; rfl]
    exact hr
theorem hear_spec (b : Nat) (s : Sk) (k : Int) (A : Option Addr) (c : Nat) (xs : List UInt8) (G : Mp) (h1 : Ent G (RowAt A (Bs xs))) (hx : xs.length ≤ 1099511627776) (hsd : s.said.2.2.length ≤ 1099511627776) :
    Spec Try.prog 59 #[.pointer (some ⟨b, 0, none⟩), .int .i64 k, .slice A xs.length c] (skP b s) G (fun v own N => ∃ A' c', v = .tuple #[] ∧ own = skP b { s with said := (A', c', s.said.2.2 ++ msg k xs) } ∧ N = MT) := by
  refine Spec.intro (args := [_, _, _]) wide Try.func59 rfl Try.call59 (by rfl) (by rfl) (fun w0 hw0 => ?_)
  refine vcDraw_mix [0,1,2,3,4,5,6,7,8,9,10,11] (RowAt (some ⟨b, 0, none⟩) (skL s)) (by kernel_rfl) (Ent.gnO .here (fun w hw => Ob.row_at hw)) ?_
  refine vcLoad1_row (j := 40) (v := pieceV s.said) Ent.refl rfl ?_
  refine vcCall_of .nil (msg_spec k A c xs _ (Ent.gnG h1) (by omega)) (fun v own' N' hv => ?_)
  obtain ⟨Am, cm, rfl, rfl, rfl, hcm⟩ := hv
  refine vcMix_same (Ent.gnO (.there .here) (fun w hw => Ob.row_at hw)) ?_
  have hml := msg_length k xs
  refine vcApp_big (Bs s.said.2.2) _ (Bs (msg k xs)) (.there (.there .here)) (by rw [Bs_length]; omega) (by rw [Bs_length]; omega) (by decide) (Bs_one _) (Ent.gnO .here (fun w hw => Ob.sl_at hw)) (by omega) (fun As cs hcs => ?_)
  refine vcMix_same (Ent.gnO (.there (.there .here)) (fun w hw => Ob.row_at hw)) ?_
  have hsl : s.said.2.2.length + (msg k xs).length = (s.said.2.2 ++ msg k xs).length := by rw [List.length_append]
  refine vcStore1_eq (skR b s) (skR b { s with said := (As, cs, s.said.2.2 ++ msg k xs) }) _ (.there (.there .here)) rfl (by show (40 : Nat) < 49; decide) rfl (by rw [hsl]; rfl) ?_
  rw [← Bs_append]
  refine vcMix_last (by kernel_rfl) ?_
  exact ⟨_, _, MT, .cons .here (.cons .here (.cons (.there .here) Pick.whole.under)), fun _ _ _ => trivial, As, cs, rfl, rfl, rfl⟩
def cLab : List UInt8 := [99, 32]
def sLab : List UInt8 := [115, 32]
def secL (root lab : List UInt8) : List UInt8 := (expandL root lab 16).1
theorem secL_len {root lab : List UInt8} (h1 : root.length ≤ 255) (h2 : lab.length ≤ 255) : (secL root lab).length = 16 := by
  have := expandL_ok (secret := root) (label := lab) (n := 16) (by omega) (by omega)
  unfold secL
  rw [show (16 : Int) = ((16 : Nat) : Int) from rfl, this]
  exact expandL_length
def PairTo (root lab : List UInt8) (v : Value) (own : List Ob) (N : Mp) : Prop :=
  ∃ p q : Piece, v = .agg #[pieceV p, pieceV q] ∧ own = [] ∧ p.2.2 = secL root (cLab ++ lab) ∧ q.2.2 = secL root (sLab ++ lab) ∧ Ent N (RowAt p.1 (Bs p.2.2)) ∧ Ent N (RowAt q.1 (Bs q.2.2)) ∧ p.1.isSome = true
theorem pair_spec (A : Option Addr) (c : Nat) (root : List UInt8) (lab : ByteArray) (G : Mp) (h1 : Ent G (RowAt A (Bs root))) (hr : root.length = 16) (hl : lab.size ≤ 100) :
    Spec Try.prog 79 #[.slice A root.length c, .string lab] [] G (PairTo root lab.data.toList) := by
  refine Spec.intro (args := [_, _]) wide Try.func79 rfl Try.call79 (by rfl) (by rfl) (fun w0 hw0 => ?_)
  intro b1 b2
  have hs : ∀ a : ByteArray, (a ++ lab).data.toList = a.data.toList ++ lab.data.toList := fun a => by simp
  have he : ∀ l : List UInt8, l.length ≤ 2 → (expandL root (l ++ lab.data.toList) 16).2 = 0 := fun l hl2 => by
    have hd : lab.data.toList.length = lab.size := by rw [Array.length_toList]; rfl
    have := expandL_ok (secret := root) (label := l ++ lab.data.toList) (n := 16) (by rw [List.length_append]; omega) (by omega)
    rw [show (16 : Int) = ((16 : Nat) : Int) from rfl, this]
  have hlen : ∀ l : List UInt8, l.length ≤ 2 → (secL root (l ++ lab.data.toList)).length = 16 := fun l hl2 => by
    have hd : lab.data.toList.length = lab.size := by rw [Array.length_toList]; rfl
    exact secL_len (by omega) (by rw [List.length_append]; omega)
  refine ⟨by rw [max_i64]; show ((2 + lab.size : Nat) : Int) ≤ _; omega, ?_⟩
  have hE : ∀ (a : ByteArray) (l : List UInt8) (G' : Mp), a.data.toList = l → l.length ≤ 2 → Ent G' (RowAt A (Bs root)) → Spec Try.prog 85 #[.slice A root.length c, .string (a ++ lab), .int .i64 16] [] G'
      (fun v own N => ∃ p : Piece, v = .tuple #[pieceV p, .int .i64 0] ∧ own = [] ∧ p.2.2 = secL root (l ++ lab.data.toList) ∧ Ent N (RowAt p.1 (Bs p.2.2)) ∧ p.1.isSome = true) := fun a l G' ha hl2 hG =>
    (expand_spec A c root (a ++ lab) 16 G' hG).live.mono fun v own N hv => by
      obtain ⟨⟨A1, c1, rfl, rfl, hN, hc⟩, w, hw, _⟩ := hv
      rw [hs, ha] at hN ⊢
      rw [he l hl2]
      have h16 := hlen l hl2
      refine ⟨(A1, c1, secL root (l ++ lab.data.toList)), rfl, rfl, rfl, hN, (hN w hw).some_ ?_⟩
      · show 0 < (Bs (secL root (l ++ lab.data.toList))).length; rw [Bs_length, h16]; decide
  refine vcCall_of .nil (hE _ cLab _ rfl (by decide) (Ent.gnG h1)) (fun v own' N1 hv => ?_)
  obtain ⟨p1, rfl, rfl, hp1, hN1, hs1⟩ := hv
  refine vcStore1_1 (.row b2 44 [.slice none 0 0, .slice none 0 0] 2) _ .here rfl (by show (0 : Nat) < 2; decide) rfl ?_
  refine ⟨by rw [max_i64]; show ((2 + lab.size : Nat) : Int) ≤ _; omega, ?_⟩
  refine vcCall_of .nil (hE _ sLab _ rfl (by decide) (Ent.gnG h1)) (fun v own' N2 hv => ?_)
  obtain ⟨p2, rfl, rfl, hp2, hN2, hs2⟩ := hv
  refine vcStore1_1 (.row b2 44 [pieceV p1, .slice none 0 0] 2) _ .here rfl (by show (1 : Nat) < 2; decide) rfl ?_
  refine vcLoadN_0 (xs := [pieceV p1, pieceV p2]) (Ent.gnO .here (fun w hw => Ob.row_at hw)) rfl ?_
  refine ⟨rfl, vcStoreN_row (b := b1) (ty := 44) (xs := [.slice none 0 0, .slice none 0 0]) (m := 2) _ (by first | ((repeat (first | exact .here | apply Take.there)); done) | exact .none_) rfl (by intro v hv; change v ∈ [pieceV p1, pieceV p2] at hv; simp only [List.mem_cons, List.not_mem_nil, or_false] at hv; rcases hv with rfl | rfl <;> rfl) ?_⟩
  refine vcLoadN_0 (xs := [pieceV p1, pieceV p2]) (Ent.gnO .here (fun w hw => Ob.row_at hw)) rfl ?_
  exact ⟨[], _, _, .nil, fun w hw _ => hw, p1, p2, rfl, rfl, hp1, hp2, fun w hw => hN1 w hw.1.2, fun w hw => hN2 w hw.2, hs1⟩

def hsLab : List UInt8 := [104, 115]
def apLab : List UInt8 := [97, 112]
def tkHs : List UInt8 := [116, 117, 114, 110, 112, 105, 107, 101, 32, 104, 115]
def tkAp : List UInt8 := [116, 117, 114, 110, 112, 105, 107, 101, 32, 97, 112]
def finT : List UInt8 := [102, 105, 110]
def rootL (said : List UInt8) (shared : Nat) : List UInt8 := dig (tkHs ++ be 8 shared ++ dig said)
def appL (root said : List UInt8) : List UInt8 := dig (tkAp ++ root ++ dig said)
def prfL (said secret : List UInt8) : List UInt8 := dig (finT ++ secret ++ dig said)
theorem proof_spec (b : Nat) (s : Sk) (A : Option Addr) (c : Nat) (sec : List UInt8) (G : Mp) (h : Ent G (RowAt (some ⟨b, 0, none⟩) (skL s))) (h1 : Ent G (RowAt s.said.1 (Bs s.said.2.2))) (h2 : Ent G (RowAt A (Bs sec))) (hsl : sec.length ≤ 1099511627776) (hsd : s.said.2.2.length ≤ 1099511627776) :
    Spec Try.prog 62 #[.pointer (some ⟨b, 0, none⟩), .slice A sec.length c] [] G (GetB (prfL s.said.2.2 sec)) := by
  refine Spec.intro (args := [_, _]) wide Try.func62 rfl Try.call62 (by rfl) (by rfl) (fun w0 hw0 => ?_)
  intro b1
  refine vcMark_of .here ?_
  refine vcLoad1_row (j := 40) (v := pieceV s.said) (Ent.gnG h) rfl ?_
  intro b2
  have e1 : pieces [s.said] = s.said.2.2 := by simp [pieces]
  refine vcCall_of .nil (shdig_spec (some ⟨b2, 0, none⟩) 1 [s.said] _ (Ent.gnO .here (fun w hw => Ob.sl_at hw)) (fun p hp => ?_) (by rw [e1]; omega) (by simp)) (fun v own' N1 hv => ?_)
  · obtain rfl := List.mem_singleton.1 hp
    exact Ent.gnG h1
  rw [e1] at hv
  obtain ⟨A3, c3, rfl, rfl, hr3, hc3⟩ := hv
  intro b4
  have hdl := dig_length s.said.2.2
  have e2 : pieces [(some ⟨b1, 0, none⟩, 3, finT), (A, c, sec), (A3, c3, dig s.said.2.2)] = finT ++ sec ++ dig s.said.2.2 := by simp [pieces]
  refine vcCall_of .nil (shdig_spec (some ⟨b4, 0, none⟩) 3 [(some ⟨b1, 0, none⟩, 3, finT), (A, c, sec), (A3, c3, dig s.said.2.2)] _ (Ent.gnO .here (fun w hw => Ob.sl_at hw)) (fun p hp => ?_) (by rw [e2]; simp only [List.length_append, finT, List.length_cons, List.length_nil]; omega) (by simp)) (fun v own' N2 hv => ?_)
  · simp only [List.mem_cons, List.not_mem_nil, or_false] at hp
    rcases hp with rfl | rfl | rfl
    · exact Ent.mem (o := .sl (some ⟨b1, 0, none⟩) 3 5 1 (Bs finT)) (by simp [finT, Bs, B]) (fun w hw => Ob.sl_at hw)
    · exact Ent.gnG h2
    · exact fun w hw => hr3 w hw.1.2.2
  rw [e2] at hv
  obtain ⟨A5, c5, rfl, rfl, hr5, hc5⟩ := hv
  exact ⟨[], _, _, .nil, fun w hw _ => hw, A5, c5, rfl, rfl, fun w hw => hr5 w hw.2, hc5⟩
def AgreeTo (b : Nat) (s : Sk) (shared : Nat) (v : Value) (own : List Ob) (N : Mp) : Prop :=
  ∃ r c h : Piece, v = .tuple #[] ∧ own = [skR b { s with root := r, hc := c, hs := h }] ∧ r.2.2 = rootL s.said.2.2 shared ∧ c.2.2 = secL (rootL s.said.2.2 shared) (cLab ++ hsLab) ∧ h.2.2 = secL (rootL s.said.2.2 shared) (sLab ++ hsLab) ∧
    c.1.isSome = true ∧ ∀ p ∈ [r, c, h], Ent N (RowAt p.1 (Bs p.2.2))
theorem agree10_spec (b : Nat) (s : Sk) (pub : Int) (G : Mp) (h1 : Ent G (RowAt s.said.1 (Bs s.said.2.2))) (hsd : s.said.2.2.length ≤ 1099511627776) (hpub : pub ≤ 9223372036854775807) (hpriv : s.priv ≤ 9223372036854775807) :
    Spec Try.prog 60 #[.pointer (some ⟨b, 0, none⟩), .int .i64 pub] [skR b s] G (AgreeTo b s (powN pub s.priv)) := by
  refine Spec.intro (args := [_, _]) wide Try.func60 rfl Try.call60 (by rfl) (by rfl) (fun w0 hw0 => ?_)
  refine vcLoad1_2 (v := .int .i64 s.priv) (xs := skL s) (Ent.gnO .here (fun w hw => Ob.row_at hw)) rfl ?_
  refine vcCall_of .nil (agree_spec s.priv pub hpub hpriv _) (fun v own' N' hv => ?_); obtain ⟨rfl, rfl, rfl⟩ := hv
  refine vcCall_of .nil (eight_spec (powN pub s.priv) _) (fun v own' N' hv => ?_)
  obtain ⟨A1, c1, rfl, rfl, rfl, hc1⟩ := hv
  intro b1
  refine vcMark_of .here ?_
  refine vcLoad1_row (j := 40) (v := pieceV s.said) (Ent.gnO (by first | ((repeat (first | exact .here | apply Take.there)); done) | exact .none_) (fun w hw => Ob.row_at hw)) rfl ?_
  intro b2
  have e1 : pieces [s.said] = s.said.2.2 := by simp [pieces]
  refine vcCall_of .nil (shdig_spec (some ⟨b2, 0, none⟩) 1 [s.said] _ (Ent.gnO .here (fun w hw => Ob.sl_at hw)) (fun p hp => ?_) (by rw [e1]; omega) (by simp)) (fun v own' N1 hv => ?_)
  · obtain rfl := List.mem_singleton.1 hp
    exact Ent.gnG h1
  rw [e1] at hv
  obtain ⟨A3, c3, rfl, rfl, hr3, hc3⟩ := hv
  intro b4
  have hdl := dig_length s.said.2.2
  have hbl := be_length 8 (powN pub s.priv)
  have e2 : pieces [(some ⟨b1, 0, none⟩, 11, tkHs), (A1, c1, be 8 (powN pub s.priv)), (A3, c3, dig s.said.2.2)] = tkHs ++ be 8 (powN pub s.priv) ++ dig s.said.2.2 := by simp [pieces]
  refine vcCall_of .nil (shdig_spec (some ⟨b4, 0, none⟩) 3 [(some ⟨b1, 0, none⟩, 11, tkHs), (A1, c1, be 8 (powN pub s.priv)), (A3, c3, dig s.said.2.2)] _ (Ent.gnO .here (fun w hw => Ob.sl_at hw)) (fun p hp => ?_) (by rw [e2]; simp only [List.length_append, tkHs, List.length_cons, List.length_nil]; omega) (by simp)) (fun v own' N2 hv => ?_)
  · simp only [List.mem_cons, List.not_mem_nil, or_false] at hp
    rcases hp with rfl | rfl | rfl
    · exact Ent.mem (o := .sl (some ⟨b1, 0, none⟩) 11 5 1 (Bs tkHs)) (by simp [tkHs, Bs, B]) (fun w hw => Ob.sl_at hw)
    · exact Ent.mem (o := .sl A1 c1 5 1 (Bs (be 8 (powN pub s.priv)))) (by simp) (fun w hw => Ob.sl_at hw)
    · exact fun w hw => hr3 w hw.1.2.2
  rw [e2, show dig (tkHs ++ be 8 (powN pub s.priv) ++ dig s.said.2.2) = rootL s.said.2.2 (powN pub s.priv) from rfl] at hv
  have hrl : (rootL s.said.2.2 (powN pub s.priv)).length = 16 := dig_length _
  obtain ⟨root, hroot⟩ : ∃ x, x = rootL s.said.2.2 (powN pub s.priv) := ⟨_, rfl⟩
  unfold AgreeTo
  rw [← hroot] at hv hrl ⊢
  obtain ⟨A5, c5, rfl, rfl, hr5, hc5⟩ := hv
  refine vcStore1_eq (skR b s) (skR b { s with root := (A5, c5, root) }) _ (by first | ((repeat (first | exact .here | apply Take.there)); done) | exact .none_) rfl (by show (42 : Nat) < 49; decide) rfl rfl ?_
  refine vcLoad1_row (j := 42) (v := .slice A5 root.length c5) (Ent.gnO .here (fun w hw => Ob.row_at hw)) rfl ?_
  refine vcCall_of .nil (pair_spec A5 c5 root ⟨#[104, 115]⟩ _ (fun w hw => hr5 w hw.1.2.2) hrl (by decide)) (fun v own' N3 hv => ?_)
  obtain ⟨p6, p7, rfl, rfl, hp6, hp7, hr6, hr7, hs6⟩ := hv
  refine ⟨rfl, vcStoreN_eq (skR b { s with root := (A5, c5, root) }) (skR b { s with root := (A5, c5, root), hc := p6, hs := p7 }) _ .here rfl (by show 43 + 2 ≤ 49; decide) (two_one rfl rfl) rfl ?_⟩
  refine ⟨_, _, _, .cons .here .nil, fun w hw _ => hw, (A5, c5, root), p6, p7, rfl, rfl, rfl, hp6, hp7, hs6, ?_⟩
  intro p hp
  simp only [List.mem_cons, List.not_mem_nil, or_false] at hp
  rcases hp with rfl | rfl | rfl
  · exact fun w hw => hr5 w hw.1.2
  · exact fun w hw => hr6 w hw.2
  · exact fun w hw => hr7 w hw.2
def ApplyTo (b : Nat) (s : Sk) (v : Value) (own : List Ob) (N : Mp) : Prop :=
  ∃ c h : Piece, v = .tuple #[] ∧ own = [skR b { s with ac := c, as_ := h }] ∧ c.2.2 = secL (appL s.root.2.2 s.said.2.2) (cLab ++ apLab) ∧ h.2.2 = secL (appL s.root.2.2 s.said.2.2) (sLab ++ apLab) ∧
    c.1.isSome = true ∧ ∀ p ∈ [c, h], Ent N (RowAt p.1 (Bs p.2.2))
theorem apply_spec (b : Nat) (s : Sk) (G : Mp) (h1 : Ent G (RowAt s.said.1 (Bs s.said.2.2))) (h2 : Ent G (RowAt s.root.1 (Bs s.root.2.2))) (hsd : s.said.2.2.length ≤ 1099511627776) (hrt : s.root.2.2.length ≤ 1099511627776) :
    Spec Try.prog 63 #[.pointer (some ⟨b, 0, none⟩)] [skR b s] G (ApplyTo b s) := by
  refine Spec.intro (args := [_]) wide Try.func63 rfl Try.call63 (by rfl) (by rfl) (fun w0 hw0 => ?_)
  have hdl := dig_length s.said.2.2
  have e1 : pieces [s.said] = s.said.2.2 := by simp [pieces]
  have e2 : ∀ b1 A3 c3, pieces [(some ⟨b1, 0, none⟩, 11, tkAp), s.root, (A3, c3, dig s.said.2.2)] = tkAp ++ s.root.2.2 ++ dig s.said.2.2 := fun b1 A3 c3 => by simp [pieces]
  have hal : (appL s.root.2.2 s.said.2.2).length = 16 := dig_length _
  have hd2 : ∀ b13 b1 A3 c3 (G' : Mp), Ent G' (RowAt (some ⟨b13, 0, none⟩) ([(some ⟨b1, 0, none⟩, 11, tkAp), s.root, (A3, c3, dig s.said.2.2)].map pieceV)) → Ent G' (RowAt (some ⟨b1, 0, none⟩) (Bs tkAp)) → Ent G' (RowAt s.root.1 (Bs s.root.2.2)) → Ent G' (RowAt A3 (Bs (dig s.said.2.2))) →
      Spec Try.prog 78 #[.slice (some ⟨b13, 0, none⟩) 3 3] [] G' (GetB (appL s.root.2.2 s.said.2.2)) := fun b13 b1 A3 c3 G' k1 k2 k3 k4 => by
    have := shdig_spec (some ⟨b13, 0, none⟩) 3 [(some ⟨b1, 0, none⟩, 11, tkAp), s.root, (A3, c3, dig s.said.2.2)] G' k1 (fun p hp => by
      simp only [List.mem_cons, List.not_mem_nil, or_false] at hp
      rcases hp with rfl | rfl | rfl <;> assumption) (by rw [e2]; simp only [List.length_append, tkAp, List.length_cons, List.length_nil]; omega) (by simp)
    rw [e2] at this
    exact this
  refine vcDraw_fork (.one 0 (.one 3 (.one 4 (.one 5 (.one 6 (.one 7 (.one 8 (.one 9 (.one 10 (.alt 1 (.alt 2 (.one 11 (.one 12 (.one 13 (.one 14 (.one 15 (.one 16 (.one 17 (.one 18 .nil)))))))) (.one 11 (.alt 2 (.one 12 (.one 13 (.one 14 (.one 15 (.one 16 (.one 17 (.one 18 .nil))))))) (.one 12 (.mem 2 (.one 13 (.one 14 (.one 15 (.one 16 (.one 17 (.one 18 .nil))))))))))) (.one 11 (.alt 1 (.alt 2 (.one 12 (.one 13 (.one 14 (.one 15 (.one 16 (.one 17 (.one 18 .nil))))))) (.one 12 (.mem 2 (.one 13 (.one 14 (.one 15 (.one 16 (.one 17 (.one 18 .nil))))))))) (.one 12 (.one 1 (.mem 2 (.one 13 (.one 14 (.one 15 (.one 16 (.one 17 (.one 18 .nil))))))))))))))))))))) (RowAt (some ⟨b, 0, none⟩) (skL s)) (by kernel_rfl) (Ent.gnO .here (fun w hw => Ob.row_at hw)) ?_
  refine vcLoad1_row (j := 42) (v := pieceV s.root) Ent.refl rfl ?_
  refine vcLoad1_row (j := 40) (v := pieceV s.said) Ent.refl rfl ?_
  (exact And.intro (by (intro b1; refine vcMix_same (M := RowAt (some ⟨b, 0, none⟩) (skL s)) (Ent.gnO (by first | ((repeat (first | exact .here | apply Take.there)); done) | exact .none_) (fun w hw => Ob.row_at hw)) ?_; exact And.intro (by (refine vcMark_of (by first | ((repeat (first | exact .here | apply Take.there)); done) | exact .none_) ?_; refine vcMix_same (M := RowAt (some ⟨b, 0, none⟩) (skL s)) (Ent.gnO (by first | ((repeat (first | exact .here | apply Take.there)); done) | exact .none_) (fun w hw => Ob.row_at hw)) ?_; intro b11; refine vcMix_same (M := RowAt (some ⟨b, 0, none⟩) (skL s)) (Ent.gnO (by first | ((repeat (first | exact .here | apply Take.there)); done) | exact .none_) (fun w hw => Ob.row_at hw)) ?_; refine vcCall_of .nil (e1 ▸ shdig_spec (some ⟨b11, 0, none⟩) 1 [s.said] _ (by first | exact Ent.gnO (by repeat first | exact .here | apply Take.there) (fun w hw => Ob.sl_at hw) | exact Ent.gnO (by repeat first | exact .here | apply Take.there) (fun w hw => Ob.row_at hw)) (fun p hp => by obtain rfl := List.mem_singleton.1 hp; exact Ent.gnG h1) (by rw [e1]; omega) (by simp)) (fun v own' N1 hv => ?_); obtain ⟨A3, c3, rfl, rfl, hr3, hc3⟩ := hv; refine vcMix_same (M := RowAt (some ⟨b, 0, none⟩) (skL s)) (Ent.gnO (by first | ((repeat (first | exact .here | apply Take.there)); done) | exact .none_) (fun w hw => Ob.row_at hw)) ?_; intro b13; refine vcMix_same (M := RowAt (some ⟨b, 0, none⟩) (skL s)) (Ent.gnO (by first | ((repeat (first | exact .here | apply Take.there)); done) | exact .none_) (fun w hw => Ob.row_at hw)) ?_; refine vcCall_of .nil (hd2 b13 b1 A3 c3 _ (by first | exact Ent.gnO (by repeat first | exact .here | apply Take.there) (fun w hw => Ob.sl_at hw) | exact Ent.gnO (by repeat first | exact .here | apply Take.there) (fun w hw => Ob.row_at hw)) (Ent.mem (o := .sl (some ⟨b1, 0, none⟩) 11 5 1 (Bs tkAp)) (by simp [tkAp, Bs, B]) (fun w hw => Ob.sl_at hw)) (Ent.gnG h2) (Ent.gnN (by repeat first | exact hr3 | exact Ent.andR hr3 | refine Ent.andL ?_))) (fun v own' N2 hv => ?_); obtain ⟨A5, c5, rfl, rfl, hr5, hc5⟩ := hv; refine vcMix_same (M := RowAt (some ⟨b, 0, none⟩) (skL s)) (Ent.gnO (by first | ((repeat (first | exact .here | apply Take.there)); done) | exact .none_) (fun w hw => Ob.row_at hw)) ?_; refine vcCall_of .nil (pair_spec A5 c5 (appL s.root.2.2 s.said.2.2) ⟨#[97, 112]⟩ _ (Ent.gnN (by repeat first | exact hr5 | exact Ent.andR hr5 | refine Ent.andL ?_)) hal (by decide)) (fun v own' N3 hv => ?_); obtain ⟨p6, p7, rfl, rfl, hp6, hp7, hr6, hr7, hs6⟩ := hv; refine vcMix_same (M := RowAt (some ⟨b, 0, none⟩) (skL s)) (Ent.gnO (by first | ((repeat (first | exact .here | apply Take.there)); done) | exact .none_) (fun w hw => Ob.row_at hw)) ?_; refine ⟨rfl, vcStoreN_eq (skR b s) (skR b { s with ac := p6, as_ := p7 }) _ (by first | ((repeat (first | exact .here | apply Take.there)); done) | exact .none_) rfl (by show 45 + 2 ≤ 49; decide) (two_one rfl rfl) rfl ?_⟩; refine vcMix_last (by kernel_rfl) ?_; refine ⟨_, _, _, .cons .here .nil, fun w hw _ => hw, p6, p7, rfl, rfl, hp6, hp7, hs6, ?_⟩; intro p hp; simp only [List.mem_cons, List.not_mem_nil, or_false] at hp; rcases hp with rfl | rfl; exact fun w hw => hr6 w hw.2; exact fun w hw => hr7 w hw.2)) (by (intro b11; refine vcMix_same (M := RowAt (some ⟨b, 0, none⟩) (skL s)) (Ent.gnO (by first | ((repeat (first | exact .here | apply Take.there)); done) | exact .none_) (fun w hw => Ob.row_at hw)) ?_; exact And.intro (by (refine vcMark_of (by first | ((repeat (first | exact .here | apply Take.there)); done) | exact .none_) ?_; refine vcMix_same (M := RowAt (some ⟨b, 0, none⟩) (skL s)) (Ent.gnO (by first | ((repeat (first | exact .here | apply Take.there)); done) | exact .none_) (fun w hw => Ob.row_at hw)) ?_; refine vcCall_of .nil (e1 ▸ shdig_spec (some ⟨b11, 0, none⟩) 1 [s.said] _ (by first | exact Ent.gnO (by repeat first | exact .here | apply Take.there) (fun w hw => Ob.sl_at hw) | exact Ent.gnO (by repeat first | exact .here | apply Take.there) (fun w hw => Ob.row_at hw)) (fun p hp => by obtain rfl := List.mem_singleton.1 hp; exact Ent.gnG h1) (by rw [e1]; omega) (by simp)) (fun v own' N1 hv => ?_); obtain ⟨A3, c3, rfl, rfl, hr3, hc3⟩ := hv; refine vcMix_same (M := RowAt (some ⟨b, 0, none⟩) (skL s)) (Ent.gnO (by first | ((repeat (first | exact .here | apply Take.there)); done) | exact .none_) (fun w hw => Ob.row_at hw)) ?_; intro b13; refine vcMix_same (M := RowAt (some ⟨b, 0, none⟩) (skL s)) (Ent.gnO (by first | ((repeat (first | exact .here | apply Take.there)); done) | exact .none_) (fun w hw => Ob.row_at hw)) ?_; refine vcCall_of .nil (hd2 b13 b1 A3 c3 _ (by first | exact Ent.gnO (by repeat first | exact .here | apply Take.there) (fun w hw => Ob.sl_at hw) | exact Ent.gnO (by repeat first | exact .here | apply Take.there) (fun w hw => Ob.row_at hw)) (Ent.mem (o := .sl (some ⟨b1, 0, none⟩) 11 5 1 (Bs tkAp)) (by simp [tkAp, Bs, B]) (fun w hw => Ob.sl_at hw)) (Ent.gnG h2) (Ent.gnN (by repeat first | exact hr3 | exact Ent.andR hr3 | refine Ent.andL ?_))) (fun v own' N2 hv => ?_); obtain ⟨A5, c5, rfl, rfl, hr5, hc5⟩ := hv; refine vcMix_same (M := RowAt (some ⟨b, 0, none⟩) (skL s)) (Ent.gnO (by first | ((repeat (first | exact .here | apply Take.there)); done) | exact .none_) (fun w hw => Ob.row_at hw)) ?_; refine vcCall_of .nil (pair_spec A5 c5 (appL s.root.2.2 s.said.2.2) ⟨#[97, 112]⟩ _ (Ent.gnN (by repeat first | exact hr5 | exact Ent.andR hr5 | refine Ent.andL ?_)) hal (by decide)) (fun v own' N3 hv => ?_); obtain ⟨p6, p7, rfl, rfl, hp6, hp7, hr6, hr7, hs6⟩ := hv; refine vcMix_same (M := RowAt (some ⟨b, 0, none⟩) (skL s)) (Ent.gnO (by first | ((repeat (first | exact .here | apply Take.there)); done) | exact .none_) (fun w hw => Ob.row_at hw)) ?_; refine ⟨rfl, vcStoreN_eq (skR b s) (skR b { s with ac := p6, as_ := p7 }) _ (by first | ((repeat (first | exact .here | apply Take.there)); done) | exact .none_) rfl (by show 45 + 2 ≤ 49; decide) (two_one rfl rfl) rfl ?_⟩; refine vcMix_last (by kernel_rfl) ?_; refine ⟨_, _, _, .cons .here .nil, fun w hw _ => hw, p6, p7, rfl, rfl, hp6, hp7, hs6, ?_⟩; intro p hp; simp only [List.mem_cons, List.not_mem_nil, or_false] at hp; rcases hp with rfl | rfl; exact fun w hw => hr6 w hw.2; exact fun w hw => hr7 w hw.2)) (by (refine vcCall_of .nil (e1 ▸ shdig_spec (some ⟨b11, 0, none⟩) 1 [s.said] _ (by first | exact Ent.gnO (by repeat first | exact .here | apply Take.there) (fun w hw => Ob.sl_at hw) | exact Ent.gnO (by repeat first | exact .here | apply Take.there) (fun w hw => Ob.row_at hw)) (fun p hp => by obtain rfl := List.mem_singleton.1 hp; exact Ent.gnG h1) (by rw [e1]; omega) (by simp)) (fun v own' N1 hv => ?_); obtain ⟨A3, c3, rfl, rfl, hr3, hc3⟩ := hv; refine vcMix_same (M := RowAt (some ⟨b, 0, none⟩) (skL s)) (Ent.gnO (by first | ((repeat (first | exact .here | apply Take.there)); done) | exact .none_) (fun w hw => Ob.row_at hw)) ?_; refine vcMark_of (by first | ((repeat (first | exact .here | apply Take.there)); done) | exact .none_) ?_; refine vcMix_same (M := RowAt (some ⟨b, 0, none⟩) (skL s)) (Ent.gnO (by first | ((repeat (first | exact .here | apply Take.there)); done) | exact .none_) (fun w hw => Ob.row_at hw)) ?_; intro b13; refine vcMix_same (M := RowAt (some ⟨b, 0, none⟩) (skL s)) (Ent.gnO (by first | ((repeat (first | exact .here | apply Take.there)); done) | exact .none_) (fun w hw => Ob.row_at hw)) ?_; refine vcCall_of .nil (hd2 b13 b1 A3 c3 _ (by first | exact Ent.gnO (by repeat first | exact .here | apply Take.there) (fun w hw => Ob.sl_at hw) | exact Ent.gnO (by repeat first | exact .here | apply Take.there) (fun w hw => Ob.row_at hw)) (Ent.mem (o := .sl (some ⟨b1, 0, none⟩) 11 5 1 (Bs tkAp)) (by simp [tkAp, Bs, B]) (fun w hw => Ob.sl_at hw)) (Ent.gnG h2) (Ent.gnN (by repeat first | exact hr3 | exact Ent.andR hr3 | refine Ent.andL ?_))) (fun v own' N2 hv => ?_); obtain ⟨A5, c5, rfl, rfl, hr5, hc5⟩ := hv; refine vcMix_same (M := RowAt (some ⟨b, 0, none⟩) (skL s)) (Ent.gnO (by first | ((repeat (first | exact .here | apply Take.there)); done) | exact .none_) (fun w hw => Ob.row_at hw)) ?_; refine vcCall_of .nil (pair_spec A5 c5 (appL s.root.2.2 s.said.2.2) ⟨#[97, 112]⟩ _ (Ent.gnN (by repeat first | exact hr5 | exact Ent.andR hr5 | refine Ent.andL ?_)) hal (by decide)) (fun v own' N3 hv => ?_); obtain ⟨p6, p7, rfl, rfl, hp6, hp7, hr6, hr7, hs6⟩ := hv; refine vcMix_same (M := RowAt (some ⟨b, 0, none⟩) (skL s)) (Ent.gnO (by first | ((repeat (first | exact .here | apply Take.there)); done) | exact .none_) (fun w hw => Ob.row_at hw)) ?_; refine ⟨rfl, vcStoreN_eq (skR b s) (skR b { s with ac := p6, as_ := p7 }) _ (by first | ((repeat (first | exact .here | apply Take.there)); done) | exact .none_) rfl (by show 45 + 2 ≤ 49; decide) (two_one rfl rfl) rfl ?_⟩; refine vcMix_last (by kernel_rfl) ?_; refine ⟨_, _, _, .cons .here .nil, fun w hw _ => hw, p6, p7, rfl, rfl, hp6, hp7, hs6, ?_⟩; intro p hp; simp only [List.mem_cons, List.not_mem_nil, or_false] at hp; rcases hp with rfl | rfl; exact fun w hw => hr6 w hw.2; exact fun w hw => hr7 w hw.2)))))) (by (intro b11; refine vcMix_same (M := RowAt (some ⟨b, 0, none⟩) (skL s)) (Ent.gnO (by first | ((repeat (first | exact .here | apply Take.there)); done) | exact .none_) (fun w hw => Ob.row_at hw)) ?_; exact And.intro (by (intro b1; refine vcMix_same (M := RowAt (some ⟨b, 0, none⟩) (skL s)) (Ent.gnO (by first | ((repeat (first | exact .here | apply Take.there)); done) | exact .none_) (fun w hw => Ob.row_at hw)) ?_; exact And.intro (by (refine vcMark_of (by first | ((repeat (first | exact .here | apply Take.there)); done) | exact .none_) ?_; refine vcMix_same (M := RowAt (some ⟨b, 0, none⟩) (skL s)) (Ent.gnO (by first | ((repeat (first | exact .here | apply Take.there)); done) | exact .none_) (fun w hw => Ob.row_at hw)) ?_; refine vcCall_of .nil (e1 ▸ shdig_spec (some ⟨b11, 0, none⟩) 1 [s.said] _ (by first | exact Ent.gnO (by repeat first | exact .here | apply Take.there) (fun w hw => Ob.sl_at hw) | exact Ent.gnO (by repeat first | exact .here | apply Take.there) (fun w hw => Ob.row_at hw)) (fun p hp => by obtain rfl := List.mem_singleton.1 hp; exact Ent.gnG h1) (by rw [e1]; omega) (by simp)) (fun v own' N1 hv => ?_); obtain ⟨A3, c3, rfl, rfl, hr3, hc3⟩ := hv; refine vcMix_same (M := RowAt (some ⟨b, 0, none⟩) (skL s)) (Ent.gnO (by first | ((repeat (first | exact .here | apply Take.there)); done) | exact .none_) (fun w hw => Ob.row_at hw)) ?_; intro b13; refine vcMix_same (M := RowAt (some ⟨b, 0, none⟩) (skL s)) (Ent.gnO (by first | ((repeat (first | exact .here | apply Take.there)); done) | exact .none_) (fun w hw => Ob.row_at hw)) ?_; refine vcCall_of .nil (hd2 b13 b1 A3 c3 _ (by first | exact Ent.gnO (by repeat first | exact .here | apply Take.there) (fun w hw => Ob.sl_at hw) | exact Ent.gnO (by repeat first | exact .here | apply Take.there) (fun w hw => Ob.row_at hw)) (Ent.mem (o := .sl (some ⟨b1, 0, none⟩) 11 5 1 (Bs tkAp)) (by simp [tkAp, Bs, B]) (fun w hw => Ob.sl_at hw)) (Ent.gnG h2) (Ent.gnN (by repeat first | exact hr3 | exact Ent.andR hr3 | refine Ent.andL ?_))) (fun v own' N2 hv => ?_); obtain ⟨A5, c5, rfl, rfl, hr5, hc5⟩ := hv; refine vcMix_same (M := RowAt (some ⟨b, 0, none⟩) (skL s)) (Ent.gnO (by first | ((repeat (first | exact .here | apply Take.there)); done) | exact .none_) (fun w hw => Ob.row_at hw)) ?_; refine vcCall_of .nil (pair_spec A5 c5 (appL s.root.2.2 s.said.2.2) ⟨#[97, 112]⟩ _ (Ent.gnN (by repeat first | exact hr5 | exact Ent.andR hr5 | refine Ent.andL ?_)) hal (by decide)) (fun v own' N3 hv => ?_); obtain ⟨p6, p7, rfl, rfl, hp6, hp7, hr6, hr7, hs6⟩ := hv; refine vcMix_same (M := RowAt (some ⟨b, 0, none⟩) (skL s)) (Ent.gnO (by first | ((repeat (first | exact .here | apply Take.there)); done) | exact .none_) (fun w hw => Ob.row_at hw)) ?_; refine ⟨rfl, vcStoreN_eq (skR b s) (skR b { s with ac := p6, as_ := p7 }) _ (by first | ((repeat (first | exact .here | apply Take.there)); done) | exact .none_) rfl (by show 45 + 2 ≤ 49; decide) (two_one rfl rfl) rfl ?_⟩; refine vcMix_last (by kernel_rfl) ?_; refine ⟨_, _, _, .cons .here .nil, fun w hw _ => hw, p6, p7, rfl, rfl, hp6, hp7, hs6, ?_⟩; intro p hp; simp only [List.mem_cons, List.not_mem_nil, or_false] at hp; rcases hp with rfl | rfl; exact fun w hw => hr6 w hw.2; exact fun w hw => hr7 w hw.2)) (by (refine vcCall_of .nil (e1 ▸ shdig_spec (some ⟨b11, 0, none⟩) 1 [s.said] _ (by first | exact Ent.gnO (by repeat first | exact .here | apply Take.there) (fun w hw => Ob.sl_at hw) | exact Ent.gnO (by repeat first | exact .here | apply Take.there) (fun w hw => Ob.row_at hw)) (fun p hp => by obtain rfl := List.mem_singleton.1 hp; exact Ent.gnG h1) (by rw [e1]; omega) (by simp)) (fun v own' N1 hv => ?_); obtain ⟨A3, c3, rfl, rfl, hr3, hc3⟩ := hv; refine vcMix_same (M := RowAt (some ⟨b, 0, none⟩) (skL s)) (Ent.gnO (by first | ((repeat (first | exact .here | apply Take.there)); done) | exact .none_) (fun w hw => Ob.row_at hw)) ?_; refine vcMark_of (by first | ((repeat (first | exact .here | apply Take.there)); done) | exact .none_) ?_; refine vcMix_same (M := RowAt (some ⟨b, 0, none⟩) (skL s)) (Ent.gnO (by first | ((repeat (first | exact .here | apply Take.there)); done) | exact .none_) (fun w hw => Ob.row_at hw)) ?_; intro b13; refine vcMix_same (M := RowAt (some ⟨b, 0, none⟩) (skL s)) (Ent.gnO (by first | ((repeat (first | exact .here | apply Take.there)); done) | exact .none_) (fun w hw => Ob.row_at hw)) ?_; refine vcCall_of .nil (hd2 b13 b1 A3 c3 _ (by first | exact Ent.gnO (by repeat first | exact .here | apply Take.there) (fun w hw => Ob.sl_at hw) | exact Ent.gnO (by repeat first | exact .here | apply Take.there) (fun w hw => Ob.row_at hw)) (Ent.mem (o := .sl (some ⟨b1, 0, none⟩) 11 5 1 (Bs tkAp)) (by simp [tkAp, Bs, B]) (fun w hw => Ob.sl_at hw)) (Ent.gnG h2) (Ent.gnN (by repeat first | exact hr3 | exact Ent.andR hr3 | refine Ent.andL ?_))) (fun v own' N2 hv => ?_); obtain ⟨A5, c5, rfl, rfl, hr5, hc5⟩ := hv; refine vcMix_same (M := RowAt (some ⟨b, 0, none⟩) (skL s)) (Ent.gnO (by first | ((repeat (first | exact .here | apply Take.there)); done) | exact .none_) (fun w hw => Ob.row_at hw)) ?_; refine vcCall_of .nil (pair_spec A5 c5 (appL s.root.2.2 s.said.2.2) ⟨#[97, 112]⟩ _ (Ent.gnN (by repeat first | exact hr5 | exact Ent.andR hr5 | refine Ent.andL ?_)) hal (by decide)) (fun v own' N3 hv => ?_); obtain ⟨p6, p7, rfl, rfl, hp6, hp7, hr6, hr7, hs6⟩ := hv; refine vcMix_same (M := RowAt (some ⟨b, 0, none⟩) (skL s)) (Ent.gnO (by first | ((repeat (first | exact .here | apply Take.there)); done) | exact .none_) (fun w hw => Ob.row_at hw)) ?_; refine ⟨rfl, vcStoreN_eq (skR b s) (skR b { s with ac := p6, as_ := p7 }) _ (by first | ((repeat (first | exact .here | apply Take.there)); done) | exact .none_) rfl (by show 45 + 2 ≤ 49; decide) (two_one rfl rfl) rfl ?_⟩; refine vcMix_last (by kernel_rfl) ?_; refine ⟨_, _, _, .cons .here .nil, fun w hw _ => hw, p6, p7, rfl, rfl, hp6, hp7, hs6, ?_⟩; intro p hp; simp only [List.mem_cons, List.not_mem_nil, or_false] at hp; rcases hp with rfl | rfl; exact fun w hw => hr6 w hw.2; exact fun w hw => hr7 w hw.2)))) (by (refine vcCall_of .nil (e1 ▸ shdig_spec (some ⟨b11, 0, none⟩) 1 [s.said] _ (by first | exact Ent.gnO (by repeat first | exact .here | apply Take.there) (fun w hw => Ob.sl_at hw) | exact Ent.gnO (by repeat first | exact .here | apply Take.there) (fun w hw => Ob.row_at hw)) (fun p hp => by obtain rfl := List.mem_singleton.1 hp; exact Ent.gnG h1) (by rw [e1]; omega) (by simp)) (fun v own' N1 hv => ?_); obtain ⟨A3, c3, rfl, rfl, hr3, hc3⟩ := hv; refine vcMix_same (M := RowAt (some ⟨b, 0, none⟩) (skL s)) (Ent.gnO (by first | ((repeat (first | exact .here | apply Take.there)); done) | exact .none_) (fun w hw => Ob.row_at hw)) ?_; intro b1; refine vcMix_same (M := RowAt (some ⟨b, 0, none⟩) (skL s)) (Ent.gnO (by first | ((repeat (first | exact .here | apply Take.there)); done) | exact .none_) (fun w hw => Ob.row_at hw)) ?_; refine vcMark_of (by first | ((repeat (first | exact .here | apply Take.there)); done) | exact .none_) ?_; refine vcMix_same (M := RowAt (some ⟨b, 0, none⟩) (skL s)) (Ent.gnO (by first | ((repeat (first | exact .here | apply Take.there)); done) | exact .none_) (fun w hw => Ob.row_at hw)) ?_; intro b13; refine vcMix_same (M := RowAt (some ⟨b, 0, none⟩) (skL s)) (Ent.gnO (by first | ((repeat (first | exact .here | apply Take.there)); done) | exact .none_) (fun w hw => Ob.row_at hw)) ?_; refine vcCall_of .nil (hd2 b13 b1 A3 c3 _ (by first | exact Ent.gnO (by repeat first | exact .here | apply Take.there) (fun w hw => Ob.sl_at hw) | exact Ent.gnO (by repeat first | exact .here | apply Take.there) (fun w hw => Ob.row_at hw)) (Ent.mem (o := .sl (some ⟨b1, 0, none⟩) 11 5 1 (Bs tkAp)) (by simp [tkAp, Bs, B]) (fun w hw => Ob.sl_at hw)) (Ent.gnG h2) (Ent.gnN (by repeat first | exact hr3 | exact Ent.andR hr3 | refine Ent.andL ?_))) (fun v own' N2 hv => ?_); obtain ⟨A5, c5, rfl, rfl, hr5, hc5⟩ := hv; refine vcMix_same (M := RowAt (some ⟨b, 0, none⟩) (skL s)) (Ent.gnO (by first | ((repeat (first | exact .here | apply Take.there)); done) | exact .none_) (fun w hw => Ob.row_at hw)) ?_; refine vcCall_of .nil (pair_spec A5 c5 (appL s.root.2.2 s.said.2.2) ⟨#[97, 112]⟩ _ (Ent.gnN (by repeat first | exact hr5 | exact Ent.andR hr5 | refine Ent.andL ?_)) hal (by decide)) (fun v own' N3 hv => ?_); obtain ⟨p6, p7, rfl, rfl, hp6, hp7, hr6, hr7, hs6⟩ := hv; refine vcMix_same (M := RowAt (some ⟨b, 0, none⟩) (skL s)) (Ent.gnO (by first | ((repeat (first | exact .here | apply Take.there)); done) | exact .none_) (fun w hw => Ob.row_at hw)) ?_; refine ⟨rfl, vcStoreN_eq (skR b s) (skR b { s with ac := p6, as_ := p7 }) _ (by first | ((repeat (first | exact .here | apply Take.there)); done) | exact .none_) rfl (by show 45 + 2 ≤ 49; decide) (two_one rfl rfl) rfl ?_⟩; refine vcMix_last (by kernel_rfl) ?_; refine ⟨_, _, _, .cons .here .nil, fun w hw _ => hw, p6, p7, rfl, rfl, hp6, hp7, hs6, ?_⟩; intro p hp; simp only [List.mem_cons, List.not_mem_nil, or_false] at hp; rcases hp with rfl | rfl; exact fun w hw => hr6 w hw.2; exact fun w hw => hr7 w hw.2)))))
end Go.Proofs.Yticllmnblcjjcaa
end

section
/- Get, the program's and the reference's, is the document's. -/
namespace Go.Proofs.Yticllmnblcjjcaa
open Go.Proofs
set_option maxRecDepth 10000

theorem vget_place {bs : List UInt8} {at_ : Int} (h : at_ < 0 ∨ (bs.length : Int) < at_) : vget bs at_ = (0, 0, 11) := if_pos h
theorem vget_end {bs : List UInt8} {p : Nat} (h1 : p ≤ bs.length) (h : bs.drop p = []) : vget bs p = (0, 0, 12) := by
  unfold vget; rw [if_neg (by omega), Int.toNat_natCast, h]
theorem vget_short {bs : List UInt8} {p : Nat} {b : UInt8} {r : List UInt8} (h1 : p ≤ bs.length) (h : bs.drop p = b :: r) (hs : r.length + 1 < 2 ^ (b.toNat / 64)) : vget bs p = (0, 0, 12) := by
  unfold vget; rw [if_neg (by omega), Int.toNat_natCast, h]; exact if_pos hs
theorem vget_ok {bs : List UInt8} {p : Nat} {b : UInt8} {r : List UInt8} (h1 : p ≤ bs.length) (h : bs.drop p = b :: r) (hs : ¬ r.length + 1 < 2 ^ (b.toNat / 64)) :
    vget bs p = (((beval (b.toNat % 64) (r.take (2 ^ (b.toNat / 64) - 1)) : Nat) : Int), (p : Int) + (2 ^ (b.toNat / 64) : Nat), 0) := by
  unfold vget; rw [if_neg (by omega), Int.toNat_natCast, h]; exact if_neg hs

theorem fdiv_64 (b : UInt8) : ((b.toNat : Int).fdiv (2 ^ (min (6 : Int).toNat IntKind.u8.bits))) = ((b.toNat / 64 : Nat) : Int) := by
  rw [Int.fdiv_eq_ediv_of_nonneg _ (by decide)]
  show (b.toNat : Int) / 64 = _
  omega
theorem and_63 (b : UInt8) : bitI .and .u8 (b.toNat : Int) 63 = ((b.toNat % 64 : Nat) : Int) := by
  have h := b.toNat_lt
  rw [show (63 : Int) = ((63 : Nat) : Int) from rfl, bitI_and (by rw [max_u8]; omega) (by rw [max_u8]; omega)]
  rw [show b.toNat &&& 63 = b.toNat % 64 from Nat.and_two_pow_sub_one_eq_mod b.toNat 6]
theorem or_byte (n : Nat) (x : UInt8) (h : n < 36028797018963968) : bitI .or .i64 ((n : Int) * 2 ^ 8) (x.toNat : Int) = ((n * 256 + x.toNat : Nat) : Int) := by
  have hx := x.toNat_lt
  rw [show (n : Int) * 2 ^ 8 = ((n * 256 : Nat) : Int) from by omega, bitI_or (by rw [max_i64]; omega) (by rw [max_i64]; omega)]
  rw [show n * 256 ||| x.toNat = n * 256 + x.toNat from or_low n x.toNat 8 (by omega)]

end Go.Proofs.Yticllmnblcjjcaa
end

section
/- How many bits a number has, and the class of a number. -/
namespace Go.Proofs.Yticllmnblcjjcaa
open Go.Proofs
set_option maxRecDepth 10000

def lenTab : ByteArray := ⟨(([0, 1, 2, 2, 3, 3, 3, 3] ++ List.replicate 8 4 ++ List.replicate 16 5 ++ List.replicate 32 6 ++ List.replicate 64 7 ++ List.replicate 128 8 : List UInt8)).toArray⟩
theorem lenTab_get : ∀ b : Fin 256, ∃ t : Fin 9, lenTab[b.val]? = some (UInt8.ofNat t.val) ∧ ∀ j : Fin 9, t.val ≤ j.val ↔ b.val < 2 ^ j.val := by decide +kernel
theorem lenTab_at {b : Nat} (h : b < 256) : ∃ t : Nat, t ≤ 8 ∧ lenTab[b]? = some (UInt8.ofNat t) ∧ ∀ j, t ≤ j ↔ b < 2 ^ j := by
  obtain ⟨⟨t, ht⟩, h1, h2⟩ := lenTab_get ⟨b, h⟩
  refine ⟨t, by omega, h1, fun j => ?_⟩
  by_cases hj : j < 9
  · exact h2 ⟨j, hj⟩
  · have : 2 ^ 8 ≤ 2 ^ j := Nat.pow_le_pow_right (by omega) (by omega)
    simp only [] at *
    omega
theorem len_shift {n s t : Nat} (h : s = 0 ∨ 2 ^ s ≤ n) (ht : ∀ j, t ≤ j ↔ n / 2 ^ s < 2 ^ j) (k : Nat) : s + t ≤ k ↔ n < 2 ^ k := by
  by_cases hk : s ≤ k
  · obtain ⟨j, rfl⟩ := Nat.exists_eq_add_of_le hk
    rw [Nat.pow_add, Nat.mul_comm (2 ^ s) (2 ^ j), ← Nat.div_lt_iff_lt_mul (Nat.two_pow_pos s), ← ht j]
    omega
  · have : 2 ^ k ≤ 2 ^ s := Nat.pow_le_pow_right (by omega) (by omega)
    rcases h with h | h <;> omega

/-- How many bits. -/
def Bits (n : Nat) (v : Value) (own : List Ob) (N : Mp) : Prop := (∃ L : Nat, v = .int .i64 L ∧ L ≤ 64 ∧ ∀ k, L ≤ k ↔ n < 2 ^ k) ∧ own = [] ∧ N = MT

end Go.Proofs.Yticllmnblcjjcaa
end

section
/- The class and the size of a number; the reference's Put and Get. -/
namespace Go.Proofs.Yticllmnblcjjcaa
open Go.Proofs
set_option maxRecDepth 10000

end Go.Proofs.Yticllmnblcjjcaa
end

section
/- The reference's Put and Get. -/
namespace Go.Proofs.Yticllmnblcjjcaa
open Go.Proofs
set_option maxRecDepth 10000

end Go.Proofs.Yticllmnblcjjcaa
end

section
/- Readers: what their calls do, the program's and the reference's. -/
namespace Go.Proofs.Yticllmnblcjjcaa
open Go.Proofs
set_option maxRecDepth 10000

def rdV (A : Option Addr) (c n : Nat) (at_ : Nat) (f : Int) : List Value := [.slice A n c, .int .i64 at_, .int .i64 f]
/-- A number's call: what it answers, the place and the fault behind it. -/
def rnum (bs : List UInt8) (s : Nat × Int) : Int × (Nat × Int) := if s.2 ≠ 0 then (0, s) else if (vget bs s.1).2.2 ≠ 0 then (0, (s.1, (vget bs s.1).2.2)) else ((vget bs s.1).1, ((vget bs s.1).2.1.toNat, 0))
def rbytes (bs : List UInt8) (n : Int) (s : Nat × Int) : List UInt8 × (Nat × Int) :=
  if s.2 ≠ 0 then ([], s) else if n < 0 then ([], (s.1, 10)) else if (bs.length : Int) - s.1 < n then ([], (s.1, 12)) else ((bs.drop s.1).take n.toNat, (s.1 + n.toNat, 0))
def rleft (bs : List UInt8) (s : Nat × Int) : Int := if s.2 ≠ 0 then 0 else (bs.length : Int) - s.1
def rbyte (bs : List UInt8) (s : Nat × Int) : Int × (Nat × Int) := ((match (rbytes bs 1 s).1 with | [] => 0 | b :: _ => (b.toNat : Int)), (rbytes bs 1 s).2)
theorem vget_cases (bs : List UInt8) (p : Nat) (hp : p ≤ bs.length) : (∃ e : Int, vget bs p = (0, 0, e) ∧ e ≠ 0) ∨ ∃ n en : Nat, vget bs p = ((n : Int), (en : Int), 0) ∧ en ≤ bs.length := by
  cases h : bs.drop p with
  | nil => exact .inl ⟨12, vget_end hp h, by decide⟩
  | cons b r =>
    by_cases hs : r.length + 1 < 2 ^ (b.toNat / 64)
    · exact .inl ⟨12, vget_short hp h hs, by decide⟩
    · have hl := congrArg List.length h
      rw [List.length_drop, List.length_cons] at hl
      exact .inr ⟨_, p + 2 ^ (b.toNat / 64), vget_ok hp h hs, by omega⟩
theorem rnum_le (bs : List UInt8) (s : Nat × Int) (hs : s.1 ≤ bs.length) : (rnum bs s).2.1 ≤ bs.length := by
  unfold rnum
  split
  · exact hs
  · split
    · exact hs
    · rcases vget_cases bs s.1 hs with ⟨e, h, hne⟩ | ⟨n, en, h, hle⟩
      · rename_i hh; rw [h] at hh; exact absurd hne hh
      · rw [h]; simpa using hle
theorem rbytes_le (bs : List UInt8) (n : Int) (s : Nat × Int) (hs : s.1 ≤ bs.length) : (rbytes bs n s).2.1 ≤ bs.length := by
  unfold rbytes
  split
  · exact hs
  · split
    · exact hs
    · split
      · exact hs
      · simp only; omega
theorem rnum_fault {bs : List UInt8} {p : Nat} {f : Int} (h : f ≠ 0) : rnum bs (p, f) = (0, (p, f)) := if_pos h
theorem rnum_no {bs : List UInt8} {p : Nat} {e : Int} (h : vget bs p = (0, 0, e)) (he : e ≠ 0) : rnum bs (p, 0) = (0, (p, e)) := by unfold rnum; simp [h, he]
theorem rnum_ok {bs : List UInt8} {p n en : Nat} (h : vget bs p = ((n : Int), (en : Int), 0)) : rnum bs (p, 0) = ((n : Int), (en, 0)) := by unfold rnum; simp [h]
/-- What a reader's call leaves. -/
def RdPost (T : TypeId) (b : Nat) (A : Option Addr) (c n : Nat) (u : Value) (s : Nat × Int) (v : Value) (own : List Ob) (N : Mp) : Prop := v = u ∧ own = [.row b T (rdV A c n s.1 s.2) 3] ∧ N = MT
def RdPostB (T : TypeId) (b : Nat) (A : Option Addr) (c n : Nat) (bs : List UInt8) (s : Nat × Int) (v : Value) (own : List Ob) (N : Mp) : Prop := ∃ A' c', v = .slice A' bs.length c' ∧ own = [.sl A' c' 5 1 (Bs bs), .row b T (rdV A c n s.1 s.2) 3] ∧ N = MT ∧ bs.length ≤ c'

theorem left_spec (b : Nat) (A : Option Addr) (c : Nat) (bs : List UInt8) (p : Nat) (f : Int) (G : Mp) (hm : bs.length ≤ 211106232532992) (hp : p ≤ bs.length) :
    Spec Try.prog 75 #[.pointer (some ⟨b, 0, none⟩)] [.row b 102 (rdV A c bs.length p f) 3] G (RdPost 102 b A c bs.length (.int .i64 (rleft bs (p, f))) (p, f)) := by
  refine Spec.intro (args := [_]) wide Try.func75 rfl Try.call75 (by rfl) (by rfl) (fun w0 hw0 => ?_)
  refine vcLoad1_row (j := 2) (v := .int .i64 f) (Ent.gnO .here (fun w hw => Ob.row_at hw)) rfl ?_
  refine vcIf_ndec (fun hf => ?_) (fun hf => ?_)
  · rw [show rleft bs (p, f) = 0 from if_pos hf]
    exact ⟨_, [], MT, .cons .here .nil, fun _ _ _ => trivial, rfl, rfl, rfl⟩
  rw [show rleft bs (p, f) = (bs.length : Int) - p from if_neg (by simpa using hf)]
  refine vcDraw_quiet (by kernel_rfl) ?_
  refine vcLoad1_row (j := 0) (v := .slice A bs.length c) (Ent.gnO .here (fun w hw => Ob.row_at hw)) rfl ?_
  refine vcLoad1_row (j := 1) (v := .int .i64 p) (Ent.gnO .here (fun w hw => Ob.row_at hw)) rfl ?_
  refine vcFit_i64 (by omega) ?_
  exact ⟨_, [], MT, .cons .here .nil, fun _ _ _ => trivial, rfl, rfl, rfl⟩

theorem fault_spec (b : Nat) (A : Option Addr) (c n : Nat) (p : Nat) (f : Int) (G : Mp) :
    Spec Try.prog 74 #[.pointer (some ⟨b, 0, none⟩)] [.row b 102 (rdV A c n p f) 3] G (RdPost 102 b A c n (.int .i64 f) (p, f)) := by
  refine Spec.intro (args := [_]) wide Try.func74 rfl Try.call74 (by rfl) (by rfl) (fun w0 hw0 => ?_)
  refine vcLoad1_row (j := 2) (v := .int .i64 f) (Ent.gnO .here (fun w hw => Ob.row_at hw)) rfl ?_
  exact ⟨_, [], MT, .cons .here .nil, fun _ _ _ => trivial, rfl, rfl, rfl⟩
theorem vopen_spec (A : Option Addr) (c : Nat) (bs : List UInt8) (G : Mp) (h1 : Ent G (RowAt A (Bs bs))) (hx : bs.length ≤ 211106232532992) :
    Spec Try.prog 50 #[.slice A bs.length c] [] G (fun v own N => ∃ b A' c', v = .pointer (some ⟨b, 0, none⟩) ∧ own = [.row b 102 (rdV A' c' bs.length 0 0) 3, .sl A' c' 5 1 (Bs bs)] ∧ N = MT ∧ bs.length ≤ c') := by
  refine Spec.intro (args := [_]) wide Try.func50 rfl Try.call50 (by rfl) (by rfl) (fun w0 hw0 => ?_)
  refine vcCall_of .nil (clone_spec A c bs _ (Ent.gnG h1) hx) (fun v own' N' hv => ?_); obtain ⟨A1, c1, rfl, rfl, rfl, hc1⟩ := hv
  intro b
  exact ⟨_, [], MT, .cons .here (.cons .here .nil), fun _ _ _ => trivial, b, A1, c1, rfl, rfl, rfl, hc1⟩

theorem rbytes_fault {bs : List UInt8} {n : Int} {p : Nat} {f : Int} (h : f ≠ 0) : rbytes bs n (p, f) = ([], (p, f)) := if_pos h
theorem rbytes_neg {bs : List UInt8} {n : Int} {p : Nat} (h : n < 0) : rbytes bs n (p, 0) = ([], (p, 10)) := by unfold rbytes; simp [h]
theorem rbytes_short {bs : List UInt8} {n : Int} {p : Nat} (h : ¬ n < 0) (h' : (bs.length : Int) - p < n) : rbytes bs n (p, 0) = ([], (p, 12)) := by unfold rbytes; simp [h, h']
theorem rbytes_ok {bs : List UInt8} {n p : Nat} (h' : ¬ (bs.length : Int) - p < n) : rbytes bs n (p, 0) = ((bs.drop p).take n, (p + n, 0)) := by
  unfold rbytes
  rw [if_neg (by simp), if_neg (by omega), if_neg h']
  simp
theorem bytes_spec (b : Nat) (A : Option Addr) (c : Nat) (bs : List UInt8) (n : Int) (p : Nat) (f : Int) (G : Mp) (h1 : Ent G (RowAt A (Bs bs))) (hc : bs.length ≤ c) (hm : bs.length ≤ 211106232532992) (hp : p ≤ bs.length) :
    Spec Try.prog 73 #[.pointer (some ⟨b, 0, none⟩), .int .i64 n] [.row b 102 (rdV A c bs.length p f) 3] G (RdPostB 102 b A c bs.length (rbytes bs n (p, f)).1 (rbytes bs n (p, f)).2) := by
  refine Spec.intro (args := [_, _]) wide Try.func73 rfl Try.call73 (by rfl) (by rfl) (fun w0 hw0 => ?_)
  refine vcLoad1_row (j := 2) (v := .int .i64 f) (Ent.gnO .here (fun w hw => Ob.row_at hw)) rfl ?_
  refine vcIf_ndec (fun hf => ?_) (fun hf => ?_)
  · rw [rbytes_fault hf]
    exact ⟨_, [], MT, .cons .none_ (.cons .here .nil), fun _ _ _ => trivial, none, 0, rfl, rfl, rfl, Nat.le_refl _⟩
  subst hf
  refine vcIf_dec (fun hn => ?_) (fun hn => ?_)
  · rw [rbytes_neg hn]
    refine vcStore1_1 _ _ .here rfl (show (2 : Nat) < 3 by decide) rfl ?_
    exact ⟨_, [], MT, .cons .none_ (.cons .here .nil), fun _ _ _ => trivial, none, 0, rfl, rfl, rfl, Nat.le_refl _⟩
  obtain ⟨n, rfl⟩ := Int.eq_ofNat_of_zero_le (show 0 ≤ n by omega)
  refine vcCall_of (.cons .here .nil) (left_spec b A c bs p 0 _ (by omega) hp) (fun v own' N' hv => ?_)
  obtain ⟨rfl, rfl, rfl⟩ := hv
  rw [show rleft bs (p, 0) = (bs.length : Int) - p from if_neg (by simp)]
  refine vcIf_dec (fun hs => ?_) (fun hs => ?_)
  · rw [rbytes_short hn hs]
    refine vcStore1_1 _ _ .here rfl (show (2 : Nat) < 3 by decide) rfl ?_
    exact ⟨_, [], MT, .cons .none_ (.cons .here .nil), fun _ _ _ => trivial, none, 0, rfl, rfl, rfl, Nat.le_refl _⟩
  rw [rbytes_ok hs]
  refine vcLoad1_row (j := 1) (v := .int .i64 p) (Ent.gnO .here (fun w hw => Ob.row_at hw)) rfl ?_
  refine vcFit_i64 (by omega) ?_
  rw [show (p : Int) + n = ((p + n : Nat) : Int) from by omega]
  refine vcStore1_1 _ _ .here rfl (show (1 : Nat) < 3 by decide) rfl ?_
  refine vcDraw_mix [0,1,2,3,4,5,6,7,8,9,10,11,12,13,14,15,16] (RowAt (some ⟨b, 0, none⟩) (rdV A c bs.length (p + n) 0)) (by kernel_rfl) (Ent.gnO .here (fun w hw => Ob.row_at hw)) ?_
  refine vcLoad1_row (j := 0) (v := .slice A bs.length c) Ent.refl rfl ?_
  refine vcLoad1_row (j := 1) (v := .int .i64 (p + n : Nat)) Ent.refl rfl ?_
  refine vcFit_i64 (by omega) ?_
  refine vcLoad1_row (j := 1) (v := .int .i64 (p + n : Nat)) Ent.refl rfl ?_
  have hl : ((bs.drop p).take n).length = n := by rw [List.length_take, List.length_drop]; omega
  refine vcSlice3_as p n (c - p) (by omega) (by omega) (by omega) (by omega) (by omega) (fun A' hA' => ?_)
  have hrow : Ent G (RowAt A' (Bs ((bs.drop p).take n))) := h1.mono fun w hw => hw.bytes hA' (by omega) (by rw [hl])
  generalize (bs.drop p).take n = q at hl hrow ⊢
  subst hl
  refine vcCall_of .nil (clone_spec A' (c - p) q _ (Ent.gnG hrow) (by omega)) (fun v own' N' hv => ?_); obtain ⟨A1, c1, rfl, rfl, rfl, hc1⟩ := hv
  refine vcMix_same (Ent.gnO (.there .here) (fun w hw => Ob.row_at hw)) ?_
  exact ⟨_, [], MT, .cons .here (.cons .here .nil), fun _ _ _ => trivial, A1, c1, rfl, rfl, rfl, hc1⟩
theorem byte_spec (b : Nat) (A : Option Addr) (c : Nat) (bs : List UInt8) (p : Nat) (f : Int) (G : Mp) (h1 : Ent G (RowAt A (Bs bs))) (hc : bs.length ≤ c) (hm : bs.length ≤ 211106232532992) (hp : p ≤ bs.length) :
    Spec Try.prog 52 #[.pointer (some ⟨b, 0, none⟩)] [.row b 102 (rdV A c bs.length p f) 3] G (RdPost 102 b A c bs.length (.int .i64 (rbyte bs (p, f)).1) (rbyte bs (p, f)).2) := by
  refine Spec.intro (args := [_]) wide Try.func52 rfl Try.call52 (by rfl) (by rfl) (fun w0 hw0 => ?_)
  refine vcCall_of (.cons .here .nil) (bytes_spec b A c bs 1 p f _ (Ent.gnG h1) hc hm hp) (fun v own' N' hv => ?_)
  unfold rbyte
  generalize rbytes bs 1 (p, f) = q at hv ⊢
  obtain ⟨l, s⟩ := q
  obtain ⟨A1, c1, rfl, rfl, rfl, hc1⟩ := hv
  simp only at hc1 ⊢
  cases l with
  | nil => exact ⟨_, [_], MT, .cons (.there .here) .nil, fun _ _ _ => trivial, rfl, rfl, rfl⟩
  | cons x r =>
    refine vcIdx_nat 0 rfl (Ent.gnO .here (fun w hw => Ob.sl_at hw)) (by simp) (by simp [Bs_length]) (fun a ha => ?_)
    subst ha
    refine vcLoad1_row (v := .int .u8 x.toNat) (Ent.gnO .here (fun w hw => Ob.sl_at hw)) rfl ?_
    refine vcFit_i64 (by have := x.toNat_lt; omega) ?_
    exact ⟨_, [_], MT, .cons (.there .here) .nil, fun _ _ _ => trivial, rfl, rfl, rfl⟩

end Go.Proofs.Yticllmnblcjjcaa
end

section
/- Layer 10: reading a message's body. -/
namespace Go.Proofs.Yticllmnblcjjcaa
open Go.Proofs
set_option maxRecDepth 10000

theorem bequalG_spec (A B : Option Addr) (c d : Nat) (xs ys : List UInt8) (G : Mp) (h1 : Ent G (RowAt A (Bs xs))) (h2 : Ent G (RowAt B (Bs ys))) : Spec Try.prog 81 #[.slice A xs.length c, .slice B ys.length d] [] G (Ret (.bool (decide (xs = ys)))) := by
  refine Spec.intro (args := [_, _]) wide Try.func81 rfl Try.call81 (by rfl) (by rfl) (fun w0 hw0 => ?_)
  refine vcBytesStr.intro xs rfl (Ent.gnG h1) ?_
  refine vcBytesStr.intro ys rfl (Ent.gnG h2) ?_
  refine ⟨[], _, MT, .nil, fun _ _ _ => trivial, ?_, rfl, rfl⟩
  refine congrArg Value.bool ?_
  rw [ba_beq]
  exact decide_eq_decide.2 ⟨fun h => by injection h with h; injection h, fun h => by rw [h]⟩
theorem sindex_spec (A : Option Addr) (c : Nat) (l : List ByteArray) (x : ByteArray) (G : Mp) (h1 : Ent G (RowAt A (stL l))) (hl : l.length ≤ 9223372036854775807) :
    Spec Try.prog 76 #[.slice A l.length c, .string x] [] G (Ret (.int .i64 (idxI (fun y => decide (x = y)) l))) := by
  refine Spec.intro (args := [_, _]) wide Try.func76 rfl Try.call76 (by rfl) (by rfl) (fun w0 hw0 => ?_)
  refine vcLoop_of (fun k : Nat => l.length - k) (fun k => [(0, .slice A l.length c), (1, .string x), (7, .int .i64 l.length), (8, .int .i64 k)]) (fun _ => []) (fun _ => MT) (fun k => k ≤ l.length ∧ ∀ y ∈ l.take k, decide (x = y) = false)
    0 ⟨by omega, by simp⟩ ⟨rfl, rfl, rfl, rfl, trivial⟩ ⟨_, .nil⟩ Ent.refl ?_
  rintro k ⟨hk, ht⟩
  refine vcIf_dec (fun hlt => ?_) (fun hge => ?_)
  · have hk' : k < l.length := by omega
    refine vcIdx_nat k rfl (Ent.gnG h1) hk' (by rw [stL_len]; omega) (fun a ha => ?_)
    subst ha
    refine vcLoad1_row (Ent.gnG h1) (stL_get hk') ?_
    refine vcIf_is (decide (x = l[k])) (ba_beq _ _) ?_
    refine vcIf_dec (fun hp => ?_) (fun hp => ?_)
    · rw [idxI_take (p := fun y => decide (x = y)) hk' ht (decide_eq_true hp)]
      exact ⟨[], _, MT, .nil, fun _ _ _ => trivial, rfl, rfl, rfl⟩
    · refine vcFit_i64 (by omega) ?_
      exact ⟨k + 1, ⟨by omega, take_all hk' ht (decide_eq_false hp)⟩, by omega, ⟨rfl, rfl, rfl, rfl, trivial⟩, ⟨_, .nil⟩, fun _ _ => trivial⟩
  · obtain rfl : k = l.length := by omega
    rw [idxI_none (by simpa using ht)]
    exact ⟨[], _, MT, .nil, fun _ _ _ => trivial, rfl, rfl, rfl⟩
theorem scontains_spec (A : Option Addr) (c : Nat) (l : List ByteArray) (x : ByteArray) (G : Mp) (h1 : Ent G (RowAt A (stL l))) (hl : l.length ≤ 9223372036854775807) :
    Spec Try.prog 58 #[.slice A l.length c, .string x] [] G (Ret (.bool (l.any fun y => decide (x = y)))) := by
  refine Spec.intro (args := [_, _]) wide Try.func58 rfl Try.call58 (by rfl) (by rfl) (fun w0 hw0 => ?_)
  refine vcCall_of .nil (sindex_spec A c l x _ (Ent.gnG h1) hl) (fun v own' N' hv => ?_); obtain ⟨rfl, rfl, rfl⟩ := hv
  refine ⟨[], _, MT, .nil, fun _ _ _ => trivial, ?_, rfl, rfl⟩
  rw [← idxI_any]
  rfl

/-- A contract that drops some of its objects. -/
theorem Spec.dropP {P : Program} {f : FuncId} {args : Array Value} {A : List Ob} {G : Mp} {Post Post' : Value → List Ob → Mp → Prop} (h : Spec P f args A G Post)
    (hp : ∀ v own N, Post v own N → ∃ own' rest N', Pick own' own rest ∧ (∀ w, N w → Objs rest w → N' w) ∧ Post' v own' N') : Spec P f args A G Post' :=
  ⟨h.1, fun w hw => (h.2 w hw).mono fun _ _ ⟨v, own, N, he, hP, hi⟩ => by
    obtain ⟨own', rest, N', hk, hN, hP'⟩ := hp _ _ _ hP
    exact ⟨v, own', N', he, hP', Inv.drop (hi.picked hk) hN⟩⟩
/-- A reader over a message's body. -/
def rdR (b : Nat) (A : Option Addr) (c : Nat) (bs : List UInt8) (s : Nat × Int) : Ob := .row b 102 (rdV A c bs.length s.1 s.2) 3
def shortR (bs : List UInt8) (s : Nat × Int) : List UInt8 × (Nat × Int) := rbytes bs (rbyte bs s).1 (rbyte bs s).2
def longR (bs : List UInt8) (s : Nat × Int) : List UInt8 × (Nat × Int) := match (rbytes bs 2 s).1 with
  | x :: y :: _ => rbytes bs (x.toNat * 256 + y.toNat : Nat) (rbytes bs 2 s).2
  | _ => ([], (rbytes bs 2 s).2)
def helloR (bs : List UInt8) (s : Nat × Int) : Nat × (Nat × Int) := (beval 0 (rbytes bs 8 (rbytes bs 32 s).2).1, (rbytes bs 8 (rbytes bs 32 s).2).2)
def wholeR (bs : List UInt8) (s : Nat × Int) : Bool := decide (s.2 = 0 ∧ s.1 = bs.length)
theorem rbyte_le {bs : List UInt8} {s : Nat × Int} (h : s.1 ≤ bs.length) : (rbyte bs s).2.1 ≤ bs.length := rbytes_le bs 1 s h
theorem rbytes_len (bs : List UInt8) (n : Nat) (s : Nat × Int) (h : s.1 ≤ bs.length) : (rbytes bs n s).1.length = n ∨ (rbytes bs n s).1 = [] := by
  unfold rbytes
  split
  · exact .inr rfl
  · rw [if_neg (by omega)]
    split
    · exact .inr rfl
    · left; simp only [List.length_take, List.length_drop]; omega
theorem rbytes_len' (bs : List UInt8) (n : Int) (s : Nat × Int) : (rbytes bs n s).1.length ≤ bs.length := by
  unfold rbytes
  split
  · simp
  · split
    · simp
    · split
      · simp
      · simp only [List.length_take, List.length_drop]; omega
theorem helloR_le {bs : List UInt8} {s : Nat × Int} (h : s.1 ≤ bs.length) : (helloR bs s).2.1 ≤ bs.length := rbytes_le bs 8 _ (rbytes_le bs 32 s h)
theorem shortR_le {bs : List UInt8} {s : Nat × Int} (h : s.1 ≤ bs.length) : (shortR bs s).2.1 ≤ bs.length := rbytes_le bs _ _ (rbyte_le h)
theorem longR_le {bs : List UInt8} {s : Nat × Int} (h : s.1 ≤ bs.length) : (longR bs s).2.1 ≤ bs.length := by
  unfold longR
  split
  · exact rbytes_le bs _ _ (rbytes_le bs 2 s h)
  · exact rbytes_le bs 2 s h
theorem longR_len (bs : List UInt8) (s : Nat × Int) : (longR bs s).1.length ≤ bs.length := by
  unfold longR
  split
  · exact rbytes_len' bs _ _
  · simp
/-- What reading leaves: bytes, new, and the reader further on. -/
def RdB (b : Nat) (A : Option Addr) (c : Nat) (bs : List UInt8) (r : List UInt8 × (Nat × Int)) (v : Value) (own : List Ob) (N : Mp) : Prop :=
  ∃ p : Piece, p.2.2 = r.1 ∧ v = pieceV p ∧ own = [rdR b A c bs r.2] ∧ Ent N (RowAt p.1 (Bs p.2.2))
theorem rdB_spec (b : Nat) (A : Option Addr) (c : Nat) (bs : List UInt8) (n : Int) (s : Nat × Int) (G : Mp) (h1 : Ent G (RowAt A (Bs bs))) (hc : bs.length ≤ c) (hm : bs.length ≤ 211106232532992) (hp : s.1 ≤ bs.length) :
    Spec Try.prog 73 #[.pointer (some ⟨b, 0, none⟩), .int .i64 n] [rdR b A c bs s] G (RdB b A c bs (rbytes bs n s)) :=
  (bytes_spec b A c bs n s.1 s.2 G h1 hc hm hp).dropP fun v own N hv => by
    obtain ⟨A', c', rfl, rfl, rfl, hc'⟩ := hv
    exact ⟨[rdR b A c bs (rbytes bs n s).2], [.sl A' c' 5 1 (Bs (rbytes bs n s).1)], RowAt A' (Bs (rbytes bs n s).1), .cons (.there .here) .nil, fun w _ ho => Ob.sl_at (ho _ (List.mem_singleton.2 rfl)), (A', c', (rbytes bs n s).1), rfl, rfl, rfl, Ent.refl⟩
theorem rbyte_spec (b : Nat) (A : Option Addr) (c : Nat) (bs : List UInt8) (s : Nat × Int) (G : Mp) (h1 : Ent G (RowAt A (Bs bs))) (hc : bs.length ≤ c) (hm : bs.length ≤ 211106232532992) (hp : s.1 ≤ bs.length) :
    Spec Try.prog 52 #[.pointer (some ⟨b, 0, none⟩)] [rdR b A c bs s] G (fun v own N => v = .int .i64 (rbyte bs s).1 ∧ own = [rdR b A c bs (rbyte bs s).2] ∧ N = MT) := byte_spec b A c bs s.1 s.2 G h1 hc hm hp
def ptV (b : Nat) : Value := .agg #[.pointer (some ⟨b, 0, none⟩)]
theorem shortR_spec (b : Nat) (A : Option Addr) (c : Nat) (bs : List UInt8) (s : Nat × Int) (G : Mp) (h1 : Ent G (RowAt A (Bs bs))) (hc : bs.length ≤ c) (hm : bs.length ≤ 211106232532992) (hp : s.1 ≤ bs.length) :
    Spec Try.prog 53 #[ptV b] [rdR b A c bs s] G (RdB b A c bs (shortR bs s)) := by
  refine Spec.intro (args := [_]) wide Try.func53 rfl Try.call53 (by rfl) (by rfl) (fun w0 hw0 => ?_)
  intro b1
  refine vcDraw_mix [0,1,2,3,4,5,6] (RowAt (some ⟨b1, 0, none⟩) [.pointer (some ⟨b, 0, none⟩)]) (by kernel_rfl) (Ent.gnO .here (fun w hw => Ob.row_at hw)) ?_
  refine vcLoad1_row (j := 0) (v := .pointer (some ⟨b, 0, none⟩)) Ent.refl rfl ?_
  refine vcLoad1_row (j := 0) (v := .pointer (some ⟨b, 0, none⟩)) Ent.refl rfl ?_
  refine vcCall_of (.cons (.there .here) .nil) (rbyte_spec b A c bs s _ (Ent.gnG h1) hc hm hp) (fun v own' N' hv => ?_)
  obtain ⟨rfl, rfl, rfl⟩ := hv
  refine vcMix_same (Ent.gnO (.there .here) (fun w hw => Ob.row_at hw)) ?_
  refine vcCall_of (.cons .here .nil) (rdB_spec b A c bs (rbyte bs s).1 (rbyte bs s).2 _ (Ent.gnG h1) hc hm (rbyte_le hp)) (fun v own' N' hv => ?_)
  obtain ⟨p, hp', rfl, rfl, hN⟩ := hv
  refine vcMix_same (Ent.gnO (.there .here) (fun w hw => Ob.row_at hw)) ?_
  exact ⟨_, _, _, .cons .here .nil, fun w hw _ => hw, p, hp', rfl, rfl, fun w hw => hN w hw.2⟩
theorem longR_spec (b : Nat) (A : Option Addr) (c : Nat) (bs : List UInt8) (s : Nat × Int) (G : Mp) (h1 : Ent G (RowAt A (Bs bs))) (hc : bs.length ≤ c) (hm : bs.length ≤ 211106232532992) (hp : s.1 ≤ bs.length) :
    Spec Try.prog 54 #[ptV b] [rdR b A c bs s] G (RdB b A c bs (longR bs s)) := by
  refine Spec.intro (args := [_]) wide Try.func54 rfl Try.call54 (by rfl) (by rfl) (fun w0 hw0 => ?_)
  intro b1
  refine vcLoad1_row (j := 0) (v := .pointer (some ⟨b, 0, none⟩)) (xs := [.pointer (some ⟨b, 0, none⟩)]) (Ent.gnO .here (fun w hw => Ob.row_at hw)) rfl ?_
  refine vcCall_of (.cons (.there .here) .nil) (rdB_spec b A c bs 2 s _ (Ent.gnG h1) hc hm hp) (fun v own' N' hv => ?_)
  obtain ⟨⟨A1, c1, l⟩, hl, rfl, rfl, hN⟩ := hv
  have hlen : (rbytes bs 2 s).1.length = 2 ∨ (rbytes bs 2 s).1 = [] := rbytes_len bs 2 s hp
  simp only at hl hN
  unfold longR
  rw [← hl] at hlen ⊢
  refine vcIf_dec (fun hlt => ?_) (fun hge => ?_)
  · have : l = [] := by
      rcases hlen with h | h
      · simp only at hlt; omega
      · exact h
    subst this
    exact ⟨_, _, _, .cons .here .nil, fun w hw _ => hw, (none, 0, []), rfl, rfl, rfl, fun w hw => RowAt.nil⟩
  simp only at hge
  obtain ⟨x, y, rfl⟩ : ∃ x y, l = [x, y] := by
    rcases hlen with h | h
    · match l, h with
      | [x, y], _ => exact ⟨x, y, rfl⟩
    · rw [h] at hge; simp at hge
  have hx := x.toNat_lt
  have hy := y.toNat_lt
  refine vcDraw_mix [0,1,2,3,4,5,6,7,8,9,10,11,12,13] (MpAnd (RowAt (some ⟨b1, 0, none⟩) [.pointer (some ⟨b, 0, none⟩)]) (RowAt A1 (Bs [x, y]))) (by kernel_rfl) (Ent.both (Ent.gnO (.there .here) (fun w hw => Ob.row_at hw)) (fun w hw => hN w hw.1.2.2)) ?_
  refine vcLoad1_row (j := 0) (v := .pointer (some ⟨b, 0, none⟩)) (xs := [.pointer (some ⟨b, 0, none⟩)]) (fun w hw => hw.1) rfl ?_
  refine vcIdx_nat 0 rfl (fun w hw => hw.2) (by simp) (by simp [Bs_length]) (fun a ha => ?_)
  subst ha
  refine vcLoad1_row (v := .int .u8 x.toNat) (fun w hw => hw.2) rfl ?_
  refine vcFit_i64 (by omega) ?_
  refine vcShl_lit 8 rfl (by decide) ?_
  refine vcFit_i64 (by omega) ?_
  refine vcIdx_nat 1 rfl (fun w hw => hw.2) (by simp) (by simp [Bs_length]) (fun a ha => ?_)
  cases ha
  refine vcLoad1_row (v := .int .u8 y.toNat) (fun w hw => hw.2) rfl ?_
  refine vcFit_i64 (by omega) ?_
  have hor : bitI .or .i64 ((x.toNat : Int) * 2 ^ 8) (y.toNat : Int) = ((x.toNat * 256 + y.toNat : Nat) : Int) := by
    rw [show ((x.toNat : Int) * 2 ^ 8) = ((x.toNat * 2 ^ 8 : Nat) : Int) from by omega, bitI_or (by rw [max_i64]; omega) (by rw [max_i64]; omega), or_low _ _ _ (by omega)]
  refine vcBit_as _ hor ?_
  refine vcCall_of (.cons .here .nil) (rdB_spec b A c bs (x.toNat * 256 + y.toNat : Nat) (rbytes bs 2 s).2 _ (Ent.gnG h1) hc hm (rbytes_le bs 2 s hp)) (fun v own' N' hv => ?_)
  obtain ⟨p, hp', rfl, rfl, hN2⟩ := hv
  refine vcMix_same (Ent.both (Ent.gnO (.there .here) (fun w hw => Ob.row_at hw)) (fun w hw => hN w hw.1.2.1.2)) ?_
  exact ⟨_, _, _, .cons .here .nil, fun w hw _ => hw, p, hp', rfl, rfl, fun w hw => hN2 w hw.2⟩
theorem wholeR_spec (b : Nat) (A : Option Addr) (c : Nat) (bs : List UInt8) (s : Nat × Int) (G : Mp) (hm : bs.length ≤ 211106232532992) (hp : s.1 ≤ bs.length) :
    Spec Try.prog 55 #[ptV b] [rdR b A c bs s] G (fun v own N => v = .bool (wholeR bs s) ∧ own = [rdR b A c bs s] ∧ N = MT) := by
  refine Spec.intro (args := [_]) wide Try.func55 rfl Try.call55 (by rfl) (by rfl) (fun w0 hw0 => ?_)
  intro b1
  refine vcLoad1_row (j := 0) (v := .pointer (some ⟨b, 0, none⟩)) (xs := [.pointer (some ⟨b, 0, none⟩)]) (Ent.gnO .here (fun w hw => Ob.row_at hw)) rfl ?_
  refine vcCall_of (.cons (.there .here) .nil) (fault_spec b A c bs.length s.1 s.2 _) (fun v own' N' hv => ?_)
  obtain ⟨rfl, rfl, rfl⟩ := hv
  refine vcIf_dec (fun hf => ?_) (fun hf => ?_)
  · refine vcLoad1_row (j := 0) (v := .pointer (some ⟨b, 0, none⟩)) (xs := [.pointer (some ⟨b, 0, none⟩)]) (Ent.gnO (.there .here) (fun w hw => Ob.row_at hw)) rfl ?_
    refine vcCall_of (.cons .here .nil) (left_spec b A c bs s.1 s.2 _ hm hp) (fun v own' N' hv => ?_)
    obtain ⟨rfl, rfl, rfl⟩ := hv
    refine ⟨_, _, _, .cons .here .nil, fun w hw _ => trivial, ?_, rfl, rfl⟩
    refine congrArg Value.bool (decide_eq_decide.2 ?_)
    rw [show rleft bs (s.1, s.2) = (bs.length : Int) - s.1 from if_neg (fun h => h hf)]
    exact ⟨fun h => ⟨hf, by omega⟩, fun h => by omega⟩
  · refine ⟨_, _, _, .cons .here .nil, fun w hw _ => trivial, ?_, rfl, rfl⟩
    exact congrArg Value.bool (decide_eq_false (fun h => hf h.1)).symm
theorem helloR_spec (b : Nat) (A : Option Addr) (c : Nat) (bs : List UInt8) (s : Nat × Int) (G : Mp) (h1 : Ent G (RowAt A (Bs bs))) (hc : bs.length ≤ c) (hm : bs.length ≤ 211106232532992) (hp : s.1 ≤ bs.length) :
    Spec Try.prog 51 #[ptV b] [rdR b A c bs s] G (fun v own N => v = .tuple #[.int .i64 ((helloR bs s).1 % 4611686018427387904 : Nat), .bool (decide (1 ≤ (helloR bs s).1 ∧ (helloR bs s).1 ≤ 2305843009213693950))] ∧ own = [rdR b A c bs (helloR bs s).2] ∧ N = MT) := by
  refine Spec.intro (args := [_]) wide Try.func51 rfl Try.call51 (by rfl) (by rfl) (fun w0 hw0 => ?_)
  intro b1
  refine vcLoad1_row (j := 0) (v := .pointer (some ⟨b, 0, none⟩)) (xs := [.pointer (some ⟨b, 0, none⟩)]) (Ent.gnO .here (fun w hw => Ob.row_at hw)) rfl ?_
  refine vcCall_of (.cons (.there .here) .nil) (rdB_spec b A c bs 32 s _ (Ent.gnG h1) hc hm hp) (fun v own' N' hv => ?_)
  obtain ⟨p1, hp1, rfl, rfl, hN1⟩ := hv
  refine vcLoad1_row (j := 0) (v := .pointer (some ⟨b, 0, none⟩)) (xs := [.pointer (some ⟨b, 0, none⟩)]) (Ent.gnO (.there .here) (fun w hw => Ob.row_at hw)) rfl ?_
  have hp2 := rbytes_le bs 32 s hp
  refine vcCall_of (.cons .here .nil) (rdB_spec b A c bs 8 (rbytes bs 32 s).2 _ (Ent.gnG h1) hc hm hp2) (fun v own' N' hv => ?_)
  obtain ⟨⟨A2, c2, l⟩, hl, rfl, rfl, hN2⟩ := hv
  have hl8 : (rbytes bs 8 (rbytes bs 32 s).2).1.length = 8 ∨ (rbytes bs 8 (rbytes bs 32 s).2).1 = [] := rbytes_len bs 8 _ hp2
  simp only at hl hN2
  unfold helloR
  generalize (rbytes bs 8 (rbytes bs 32 s).2).2 = s3
  rw [← hl] at hl8 ⊢
  have hl8 : l.length ≤ 8 := by
    rcases hl8 with h | h
    · omega
    · rw [h]; simp
  have hlt : ∀ k ≤ l.length, beval 0 (l.take k) < 256 ^ k := fun k hk => by
    have := beval_lt (l.take k) 0 1 (by omega)
    rw [List.length_take, Nat.min_eq_left hk] at this
    omega
  refine vcLoop_of (fun k : Nat => l.length - k) (fun k => [(4, .int .u64 (beval 0 (l.take k) : Nat)), (12, .slice A2 l.length c2), (13, .int .i64 l.length), (14, .int .i64 k)]) (fun _ => [rdR b A c bs s3]) (fun _ => RowAt A2 (Bs l)) (fun k => k ≤ l.length) 0 (Nat.zero_le _)
    ⟨rfl, rfl, rfl, rfl, trivial⟩ ⟨_, .cons .here .nil⟩ (fun w hw => hN2 w hw.2) ?_
  intro k hk
  refine vcIf_dec (fun hlt' => ?_) (fun hge => ?_)
  · have hk' : k < l.length := by omega
    have hb := hlt k hk
    have hb2 := hlt (k + 1) (by omega)
    have hp8 : 256 ^ (k + 1) ≤ 256 ^ 8 := Nat.pow_le_pow_right (by decide) (by omega)
    have h64 : (256 : Nat) ^ 8 = 18446744073709551616 := by decide
    have hs : beval 0 (l.take (k + 1)) = beval 0 (l.take k) * 256 + l[k].toNat := by rw [take_snoc_get hk', beval_snoc]
    have hx := l[k].toNat_lt
    refine vcIdx_nat k rfl (Ent.gnN Ent.refl) hk' (by rw [Bs_length]; omega) (fun a ha => ?_)
    subst ha
    refine vcLoad1_row (v := .int .u8 l[k].toNat) (Ent.gnN Ent.refl) (Bs_get hk') ?_
    refine vcShl_lit 8 rfl (by decide) ?_
    refine vcFit_u64_in (by omega) ?_
    refine vcFit_u64_in (by omega) ?_
    have hor : bitI .or .u64 ((beval 0 (l.take k) : Nat) * 2 ^ 8 : Int) (l[k].toNat : Int) = ((beval 0 (l.take (k + 1)) : Nat) : Int) := by
      rw [hs, show ((beval 0 (l.take k) : Nat) * 2 ^ 8 : Int) = ((beval 0 (l.take k) * 2 ^ 8 : Nat) : Int) from by omega, bitI_or (by rw [max_u64]; omega) (by rw [max_u64]; omega), or_low _ _ _ (by omega)]
    refine vcBit_as _ hor ?_
    refine vcFit_i64 (by omega) ?_
    exact ⟨k + 1, by omega, by omega, ⟨rfl, rfl, rfl, rfl, trivial⟩, ⟨_, .cons .here .nil⟩, Ent.refl⟩
  · obtain rfl : k = l.length := by omega
    have hb := hlt l.length (Nat.le_refl _)
    have hp8 : 256 ^ l.length ≤ 256 ^ 8 := Nat.pow_le_pow_right (by decide) (by omega)
    have h64 : (256 : Nat) ^ 8 = 18446744073709551616 := by decide
    rw [List.take_length] at hb ⊢
    have han : bitI .and .u64 ((beval 0 l : Nat) : Int) 4611686018427387903 = ((beval 0 l % 4611686018427387904 : Nat) : Int) := by
      rw [show (4611686018427387903 : Int) = ((4611686018427387903 : Nat) : Int) from rfl, bitI_and (by rw [max_u64]; omega) (by rw [max_u64]; omega), show (4611686018427387903 : Nat) = 2 ^ 62 - 1 from by decide, Nat.and_two_pow_sub_one_eq_mod]
    refine vcBit_as _ han ?_
    refine vcFit_i64 (by omega) ?_
    refine vcIf_dec (fun h1' => ?_) (fun h1' => ?_)
    · refine ⟨_, _, _, .cons .here .nil, fun w hw _ => trivial, ?_, rfl, rfl⟩
      have e : decide ((beval 0 l : Nat) ≤ (2305843009213693950 : Int)) = decide (1 ≤ beval 0 l ∧ beval 0 l ≤ 2305843009213693950) := decide_eq_decide.2 (by omega)
      rw [← e]
      rfl
    · refine ⟨_, _, _, .cons .here .nil, fun w hw _ => trivial, ?_, rfl, rfl⟩
      have e : false = decide (1 ≤ beval 0 l ∧ beval 0 l ≤ 2305843009213693950) := (decide_eq_false (by omega)).symm
      rw [← e]
      rfl
end Go.Proofs.Yticllmnblcjjcaa
end

section
/- Layer 10: the messages' takings, as functions; those of both finisheds, of the server's hello, of the choice. -/
namespace Go.Proofs.Yticllmnblcjjcaa
open Go.Proofs
set_option maxRecDepth 10000

/-- A side without its addresses. -/
structure SP where
  server : Bool
  rnd : Nat → UInt8
  priv : Int
  ps : List ByteArray
  par : List UInt8
  ws : List Wn
  k0 : List UInt8
  k1 : List UInt8
  failed : Bool
  said : List UInt8
  out : List (Int × List UInt8)
  root : List UInt8
  hc : List UInt8
  hs : List UInt8
  ac : List UInt8
  as_ : List UInt8
  proto : ByteArray
  peer : List UInt8
  hasH : Bool
  hasA : Bool
def pu (s : Sk) : SP := ⟨s.server, s.rnd, s.priv, s.ps, s.par.2.2, s.ws, s.k0.2.2, s.k1.2.2, s.failed, s.said.2.2, outs s.out, s.root.2.2, s.hc.2.2, s.hs.2.2, s.ac.2.2, s.as_.2.2, s.proto, s.peer.2.2, s.hc.1.isSome, s.ac.1.isSome⟩
def hearS (s : SP) (k : Int) (b : List UInt8) : SP := { s with said := s.said ++ msg k b }
def sayS (s : SP) (k lv : Int) (b : List UInt8) : SP := { s with said := s.said ++ msg k b, out := sayL s.out lv (msg k b) }
def agreeS (s : SP) (pub : Int) : SP := { s with root := rootL s.said (powN pub s.priv), hc := secL (rootL s.said (powN pub s.priv)) (cLab ++ hsLab), hs := secL (rootL s.said (powN pub s.priv)) (sLab ++ hsLab), hasH := true }
def applyS (s : SP) : SP := { s with ac := secL (appL s.root s.said) (cLab ++ apLab), as_ := secL (appL s.root s.said) (sLab ++ apLab), hasA := true }
def okN (n : Nat) : Prop := 1 ≤ n ∧ n ≤ 2305843009213693950
instance (n : Nat) : Decidable (okN n) := inferInstanceAs (Decidable (_ ∧ _))
def pubN (n : Nat) : Int := (n % 4611686018427387904 : Nat)
def checkS (s : SP) (body sec : List UInt8) : Int := if body.length ≠ 16 then 100 else if body ≠ prfL s.said sec then 103 else 0
def takeSH (s : SP) (body : List UInt8) : SP × Int :=
  if okN (helloR body (0, 0)).1 ∧ wholeR body (helloR body (0, 0)).2 = true then (agreeS (hearS s 2 body) (pubN (helloR body (0, 0)).1), 0) else (s, 100)
def strB (l : List UInt8) : ByteArray := ⟨l.toArray⟩
def takeCho (s : SP) (body : List UInt8) : SP × Int :=
  if wholeR body (longR body (shortR body (0, 0)).2).2 = true ∧ (longR body (shortR body (0, 0)).2).1.length ≤ 1024 ∧ goodL [strB (shortR body (0, 0)).1] then
    if s.ps.any (fun y => decide (strB (shortR body (0, 0)).1 = y)) = true then ({ hearS s 8 body with proto := strB (shortR body (0, 0)).1, peer := (longR body (shortR body (0, 0)).2).1 }, 0) else (s, 102)
  else (s, 100)
def takeSF (s : SP) (body : List UInt8) : SP × Int :=
  if checkS s body s.hs ≠ 0 then (s, checkS s body s.hs) else (sayS (applyS (hearS s 20 body)) 20 1 (prfL (hearS s 20 body).said s.hc), 0)
def takeCF (s : SP) (body : List UInt8) : SP × Int :=
  if checkS s body s.hc ≠ 0 then (s, checkS s body s.hc) else (hearS s 20 body, 0)

/-- How much a side has said. -/
def szS (s : SP) : Nat := s.said.length + s.out.length + (s.out.map fun f => f.2.length).sum
structure OkP (s : SP) : Prop where
  priv : s.priv ≤ 9223372036854775807
  ps : s.ps.length ≤ 8
  par : s.par.length ≤ 1024
  root : s.root.length ≤ 255
  hc : s.hc.length ≤ 255
  hs : s.hs.length ≤ 255
theorem sum_le {l : List (Int × List UInt8)} {f : Int × List UInt8} (h : f ∈ l) : f.2.length ≤ (l.map fun f => f.2.length).sum := by
  induction l with
  | nil => cases h
  | cons x r ih =>
    simp only [List.map_cons, List.sum_cons]
    rcases List.mem_cons.1 h with rfl | h
    · omega
    · have := ih h; omega
theorem outs_mem {l : List Fl} {f : Fl} (h : f ∈ l) : f.2.2.2.length ≤ ((outs l).map fun f => f.2.length).sum := sum_le (f := (f.1, f.2.2.2)) (List.mem_map.2 ⟨f, h, rfl⟩)
theorem sayL_size (o : List (Int × List UInt8)) (lv : Int) (m : List UInt8) : (sayL o lv m).length + ((sayL o lv m).map fun f => f.2.length).sum ≤ o.length + (o.map fun f => f.2.length).sum + m.length + 1 := by
  unfold sayL
  cases h : o.getLast? with
  | none =>
    simp
    omega
  | some f =>
    obtain ⟨l, d⟩ := f
    obtain ⟨r, rfl⟩ : ∃ r, o = r ++ [(l, d)] := by
      rw [List.getLast?_eq_some_iff] at h
      exact h
    simp only [List.dropLast_concat]
    split <;> simp <;> omega
theorem szS_say (s : SP) (k lv : Int) (b : List UInt8) : szS (sayS s k lv b) ≤ szS s + 2 * b.length + 9 := by
  have := sayL_size s.out lv (msg k b)
  unfold szS sayS
  simp only [List.length_append, msg_length] at *
  omega
theorem szS_hear (s : SP) (k : Int) (b : List UInt8) : szS (hearS s k b) = szS s + b.length + 4 := by
  unfold szS hearS
  simp only [List.length_append, msg_length]
  omega

/-- What a message's taking leaves. -/
structure Same10 (s s' : Sk) : Prop where
  k0 : s'.k0 = s.k0
  k1 : s'.k1 = s.k1
  wA : s'.wA = s.wA
  wc : s'.wc = s.wc
  ws : s'.ws = s.ws
  failed : s'.failed = s.failed
def TakeTo (b : Nat) (s : Sk) (r : SP × Int) (v : Value) (own : List Ob) (N : Mp) : Prop :=
  v = .int .i64 r.2 ∧ ∃ s', own = skP b s' ∧ pu s' = r.1 ∧ Ent (MpAnd (SkF s) N) (SkF s') ∧ Same10 s s'
theorem SkF.piece {s : Sk} {p : Piece} {w : World} (h : SkF s w) (hp : p ∈ [s.par, s.root, s.hc, s.hs, s.ac, s.as_, s.peer]) : RowAt p.1 (Bs p.2.2) w := h.2.2 p hp
theorem TakeTo.same {b : Nat} {s : Sk} {e : Int} {r : SP × Int} (h : r = (pu s, e)) {N : Mp} : TakeTo b s r (.int .i64 e) (skP b s) N := by
  subst h
  exact ⟨rfl, s, rfl, rfl, fun w hw => hw.1, ⟨rfl, rfl, rfl, rfl, rfl, rfl⟩⟩
theorem check10_spec (b : Nat) (s : Sk) (A A' : Option Addr) (c c' : Nat) (body sec : List UInt8) (G : Mp) (h : Ent G (RowAt (some ⟨b, 0, none⟩) (skL s))) (h1 : Ent G (RowAt s.said.1 (Bs s.said.2.2))) (hb : Ent G (RowAt A (Bs body))) (h2 : Ent G (RowAt A' (Bs sec))) (hsl : sec.length ≤ 1099511627776) (hsd : s.said.2.2.length ≤ 1099511627776) :
    Spec Try.prog 64 #[.pointer (some ⟨b, 0, none⟩), .slice A body.length c, .slice A' sec.length c'] [] G (Ret (.int .i64 (checkS (pu s) body sec))) := by
  refine Spec.intro (args := [_, _, _]) wide Try.func64 rfl Try.call64 (by rfl) (by rfl) (fun w0 hw0 => ?_)
  refine vcIf_ndec (fun hl => ?_) (fun hl => ?_)
  · rw [show checkS (pu s) body sec = 100 from if_pos (by omega)]
    exact ⟨[], _, MT, .nil, fun _ _ _ => trivial, rfl, rfl, rfl⟩
  have hl : body.length = 16 := by omega
  refine vcCall_of .nil (proof_spec b s A' c' sec _ (Ent.gnG h) (Ent.gnG h1) (Ent.gnG h2) hsl hsd) (fun v own' N' hv => ?_)
  obtain ⟨A3, c3, rfl, rfl, hr3, hc3⟩ := hv
  refine vcCall_of .nil (bequalG_spec A A3 c c3 body (prfL s.said.2.2 sec) _ (Ent.gnG hb) (fun w hw => hr3 w hw.1.2.2)) (fun v own' N' hv => ?_); obtain ⟨rfl, rfl, rfl⟩ := hv
  refine vcIf_ndec (fun he => ?_) (fun he => ?_)
  · rw [show checkS (pu s) body sec = 103 from by unfold checkS; rw [if_neg (by omega)]; exact if_pos he]
    exact ⟨[], _, MT, .nil, fun _ _ _ => trivial, rfl, rfl, rfl⟩
  · rw [show checkS (pu s) body sec = 0 from by unfold checkS; rw [if_neg (by omega)]; exact if_neg (fun h => h he)]
    exact ⟨[], _, MT, .nil, fun _ _ _ => trivial, rfl, rfl, rfl⟩
theorem takeCF_spec (b : Nat) (s : Sk) (A : Option Addr) (c : Nat) (body : List UInt8) (G : Mp) (hf : Ent G (SkF s)) (hb : Ent G (RowAt A (Bs body))) (hbl : body.length ≤ 1000000) (hsz : szS (pu s) ≤ 1000000000000) (ok : OkP (pu s)) :
    Spec Try.prog 29 #[.pointer (some ⟨b, 0, none⟩), .slice A body.length c] (skP b s) G (TakeTo b s (takeCF (pu s) body)) := by
  refine Spec.intro (args := [_, _]) wide Try.func29 rfl Try.call29 (by rfl) (by rfl) (fun w0 hw0 => ?_)
  have hsd : s.said.2.2.length ≤ 1000000000000 := by have : (pu s).said.length ≤ szS (pu s) := by unfold szS; omega
                                                     exact Nat.le_trans this hsz
  have hhc : s.hc.2.2.length ≤ 255 := ok.hc
  refine vcLoad1_2 (v := pieceV s.hc) (xs := skL s) (Ent.gnO .here (fun w hw => Ob.row_at hw)) rfl ?_
  refine vcCall_of .nil (check10_spec b s A s.hc.1 c s.hc.2.1 body s.hc.2.2 _ (Ent.gnO .here (fun w hw => Ob.row_at hw)) (Ent.gnO (o := pO s.said) (.there .here) (fun w hw => Ob.sl_at hw)) (Ent.gnG hb) (Ent.gnG (hf.mono fun w hw => hw.piece (by simp))) (by omega) (by omega)) (fun v own' N' hv => ?_)
  obtain ⟨rfl, rfl, rfl⟩ := hv
  refine vcIf_ndec (fun he => ?_) (fun he => ?_)
  · exact ⟨skP b s, _, MT, Pick.whole, fun _ _ _ => trivial, TakeTo.same (if_pos he)⟩
  refine vcCall_of Pick.whole (hear_spec b s 20 A c body _ (Ent.gnG hb) (by omega) (by omega)) (fun v own' N' hv => ?_)
  obtain ⟨A1, c1, rfl, rfl, rfl⟩ := hv
  refine ⟨_, _, MT, Pick.front, fun _ _ _ => trivial, ?_⟩
  rw [show takeCF (pu s) body = (hearS (pu s) 20 body, 0) from if_neg (fun h => h he)]
  exact ⟨rfl, _, rfl, rfl, fun w hw => hw.1, ⟨rfl, rfl, rfl, rfl, rfl, rfl⟩⟩
theorem takeSF_spec (b : Nat) (s : Sk) (A : Option Addr) (c : Nat) (body : List UInt8) (G : Mp) (hf : Ent G (SkF s)) (hb : Ent G (RowAt A (Bs body))) (hbl : body.length ≤ 1000000) (hsz : szS (pu s) ≤ 1000000000000) (ok : OkP (pu s)) :
    Spec Try.prog 32 #[.pointer (some ⟨b, 0, none⟩), .slice A body.length c] (skP b s) G (TakeTo b s (takeSF (pu s) body)) := by
  refine Spec.intro (args := [_, _]) wide Try.func32 rfl Try.call32 (by rfl) (by rfl) (fun w0 hw0 => ?_)
  have hsd : s.said.2.2.length ≤ 1000000000000 := by have : (pu s).said.length ≤ szS (pu s) := by unfold szS; omega
                                                     exact Nat.le_trans this hsz
  have hhs : s.hs.2.2.length ≤ 255 := ok.hs
  have hhc : s.hc.2.2.length ≤ 255 := ok.hc
  have hrt : s.root.2.2.length ≤ 255 := ok.root
  refine vcLoad1_2 (v := pieceV s.hs) (xs := skL s) (Ent.gnO .here (fun w hw => Ob.row_at hw)) rfl ?_
  refine vcCall_of .nil (check10_spec b s A s.hs.1 c s.hs.2.1 body s.hs.2.2 _ (Ent.gnO .here (fun w hw => Ob.row_at hw)) (Ent.gnO (o := pO s.said) (.there .here) (fun w hw => Ob.sl_at hw)) (Ent.gnG hb) (Ent.gnG (hf.mono fun w hw => hw.piece (by simp))) (by omega) (by omega)) (fun v own' N' hv => ?_)
  obtain ⟨rfl, rfl, rfl⟩ := hv
  refine vcIf_ndec (fun he => ?_) (fun he => ?_)
  · exact ⟨skP b s, _, MT, Pick.whole, fun _ _ _ => trivial, TakeTo.same (if_pos he)⟩
  refine vcCall_of Pick.whole (hear_spec b s 20 A c body _ (Ent.gnG hb) (by omega) (by omega)) (fun v own' N' hv => ?_)
  obtain ⟨A1, c1, rfl, rfl, rfl⟩ := hv
  have hml := msg_length 20 body
  obtain ⟨s1, hs1⟩ : ∃ s1, s1 = { s with said := (A1, c1, s.said.2.2 ++ msg 20 body) } := ⟨_, rfl⟩
  have hsaid : s1.said.2.2.length = s.said.2.2.length + body.length + 4 := by rw [hs1]; simp only [List.length_append]; omega
  have hf1 : Ent G (SkF s1) := by rw [hs1]; exact hf
  have hroot : s1.root = s.root := by rw [hs1]
  have hhc1 : s1.hc = s.hc := by rw [hs1]
  have hpu1 : pu s1 = hearS (pu s) 20 body := by rw [hs1]; rfl
  rw [← hs1]
  refine vcCall_of (.cons .here .nil) (apply_spec b s1 _ (Ent.gnO (o := pO s1.said) .here (fun w hw => Ob.sl_at hw)) (Ent.gnG (hf1.mono fun w hw => hw.piece (by simp))) (by omega) (by rw [hroot]; omega)) (fun v own' N2 hv => ?_)
  obtain ⟨pc, ph, rfl, rfl, hpc, hph, hps, hN2⟩ := hv
  obtain ⟨s2, hs2⟩ : ∃ s2, s2 = { s1 with ac := pc, as_ := ph } := ⟨_, rfl⟩
  have hsaid2 : s2.said = s1.said := by rw [hs2]
  have hout2 : s2.out = s.out := by rw [hs2, hs1]
  have hf2 : ∀ w, SkF s1 w → N2 w → SkF s2 w := fun w h h2 => by
    rw [hs2]
    refine ⟨h.1, h.2.1, fun p hp => ?_⟩
    simp only [List.mem_cons, List.not_mem_nil, or_false] at hp
    rcases hp with rfl | rfl | rfl | rfl | rfl | rfl | rfl
    · exact h.piece (by simp)
    · exact h.piece (by simp)
    · exact h.piece (by simp)
    · exact h.piece (by simp)
    · exact hN2 _ (by simp) w h2
    · exact hN2 _ (by simp) w h2
    · exact h.piece (by simp)
  have hpu2 : pu s2 = applyS (pu s1) := by
    rw [hs2]; unfold pu applyS; simp only [hpc, hph, hps]
  have ho2 : skR b { s1 with ac := pc, as_ := ph } = skR b s2 := by rw [hs2]
  rw [ho2]
  refine vcLoad1_2 (v := pieceV s2.hc) (xs := skL s2) (Ent.gnO .here (fun w hw => Ob.row_at hw)) rfl ?_
  have hhc2 : s2.hc = s.hc := by rw [hs2]; exact hhc1
  refine vcCall_of .nil (proof_spec b s2 s2.hc.1 s2.hc.2.1 s2.hc.2.2 _ (Ent.gnO .here (fun w hw => Ob.row_at hw)) (by rw [hsaid2]; exact Ent.gnO (o := pO s1.said) (.there .here) (fun w hw => Ob.sl_at hw)) (by rw [hhc2]; exact Ent.gnG (hf.mono fun w hw => hw.piece (by simp))) (by rw [hhc2]; omega) (by rw [hsaid2]; omega)) (fun v own' N3 hv => ?_)
  obtain ⟨A3, c3, rfl, rfl, hr3, hc3⟩ := hv
  have hprl : (prfL s2.said.2.2 s2.hc.2.2).length = 16 := dig_length _
  have hszo : s.out.length + ((outs s.out).map fun f => f.2.length).sum ≤ 1000000000000 := by
    have : (outs s.out).length = s.out.length := by simp [outs]
    have h2 : szS (pu s) = s.said.2.2.length + (outs s.out).length + ((outs s.out).map fun f => f.2.length).sum := rfl
    omega
  have hown : skP b s2 = skR b s2 :: pO s1.said :: .sl s1.oA s1.oc 56 2 (flL s1.out) :: flO s1.out := by rw [hs2]; rfl
  refine vcCall_of (A := skP b s2) (by rw [hown]; exact Pick.front) (sayP_spec b s2 20 1 A3 c3 (prfL s2.said.2.2 s2.hc.2.2) _ (fun w hw => hr3 w hw.1.2.2) (by omega) (by rw [hsaid2]; omega) (by rw [hout2]; omega) (fun f hf => by rw [hout2] at hf; have := outs_mem hf; omega)) (fun v own' N4 hv => ?_)
  obtain ⟨A4, c4, oA, oc, out, rfl, rfl, rfl, hout⟩ := hv
  refine ⟨_, _, _, Pick.front, fun w hw _ => hw, ?_⟩
  have e : takeSF (pu s) body = (sayS (pu s2) 20 1 (prfL s2.said.2.2 s2.hc.2.2), 0) := by
    unfold takeSF
    rw [show checkS (pu s) body (pu s).hs = 0 from he, if_neg (fun h => h rfl), hpu2, hpu1]
    have e1 : s2.said.2.2 = (hearS (pu s) 20 body).said := by rw [hsaid2, ← hpu1]; rfl
    rw [e1, hhc2]
    rfl
  rw [e]
  refine ⟨rfl, { s2 with said := (A4, c4, s2.said.2.2 ++ msg 20 (prfL s2.said.2.2 s2.hc.2.2)), oA := oA, oc := oc, out := out }, rfl, ?_, fun w hw => hf2 w (by rw [hs1]; exact hw.1) hw.2.1.1.2, by rw [hs2, hs1]; exact ⟨rfl, rfl, rfl, rfl, rfl, rfl⟩⟩
  unfold pu sayS
  simp only [hout]
end Go.Proofs.Yticllmnblcjjcaa
end

section
/- Layer 10: takings: the server's hello, the choice. -/
namespace Go.Proofs.Yticllmnblcjjcaa
open Go.Proofs
set_option maxRecDepth 10000

theorem said_le {s : Sk} {n : Nat} (h : szS (pu s) ≤ n) : s.said.2.2.length ≤ n := by
  have : (pu s).said.length ≤ szS (pu s) := by unfold szS; omega
  exact Nat.le_trans this h
theorem out_le {s : Sk} {n : Nat} (h : szS (pu s) ≤ n) : s.out.length ≤ n ∧ ∀ f ∈ s.out, f.2.2.2.length ≤ n := by
  have e : (outs s.out).length = s.out.length := by simp [outs]
  have h2 : szS (pu s) = s.said.2.2.length + (outs s.out).length + ((outs s.out).map fun f => f.2.length).sum := rfl
  exact ⟨by omega, fun f hf => by have := outs_mem hf; omega⟩
theorem takeSH_spec (b : Nat) (s : Sk) (A : Option Addr) (c : Nat) (body : List UInt8) (G : Mp) (hb : Ent G (RowAt A (Bs body))) (hbl : body.length ≤ 1000000) (hsz : szS (pu s) ≤ 1000000000000) (ok : OkP (pu s)) :
    Spec Try.prog 30 #[.pointer (some ⟨b, 0, none⟩), .slice A body.length c] (skP b s) G (TakeTo b s (takeSH (pu s) body)) := by
  refine Spec.intro (args := [_, _]) wide Try.func30 rfl Try.call30 (by rfl) (by rfl) (fun w0 hw0 => ?_)
  have hsd := said_le hsz
  refine vcCall_of .nil (vopen_spec A c body _ (Ent.gnG hb) (by omega)) (fun v own' N' hv => ?_)
  obtain ⟨br, Ar, cr, rfl, rfl, rfl, hcr⟩ := hv
  intro b5
  refine vcStore1_0 (.row b5 84 [.pointer none] 1) _ .here rfl Nat.zero_lt_one rfl ?_
  refine vcLoadN_0 (xs := [.pointer (some ⟨br, 0, none⟩)]) (Ent.gnO .here (fun w hw => Ob.row_at hw)) rfl ?_
  refine vcCall_of (.cons (.there .here) .nil) (helloR_spec br Ar cr body (0, 0) _ (Ent.gnO (.there .here) (fun w hw => Ob.sl_at hw)) hcr (by omega) (Nat.zero_le _)) (fun v own' N' hv => ?_)
  obtain ⟨rfl, rfl, rfl⟩ := hv
  have hle := helloR_le (bs := body) (s := (0, 0)) (Nat.zero_le _)
  have bad : ∀ (r : List Ob) (N : Mp), ¬ (okN (helloR body (0, 0)).1 ∧ wholeR body (helloR body (0, 0)).2 = true) → (∃ rest, Pick (skP b s) r rest) → ∃ (own' rest : List Ob) (N' : Mp), Pick own' r rest ∧ (∀ w, N w → Objs rest w → N' w) ∧ TakeTo b s (takeSH (pu s) body) (.int .i64 100) own' N' :=
    fun r N h ⟨rest, hp⟩ => ⟨skP b s, rest, MT, hp, fun _ _ _ => trivial, TakeTo.same (if_neg h)⟩
  refine vcIf_ndec (fun hok => ?_) (fun hok => ?_)
  · exact bad _ _ (fun h => hok h.1) ⟨_, Pick.under (Pick.under (Pick.under Pick.whole))⟩
  refine vcLoadN_0 (xs := [.pointer (some ⟨br, 0, none⟩)]) (Ent.gnO (o := .row b5 84 [.pointer (some ⟨br, 0, none⟩)] 1) (.there .here) (fun w hw => Ob.row_at hw)) rfl ?_
  refine vcCall_of (.cons .here .nil) (wholeR_spec br Ar cr body (helloR body (0, 0)).2 _ (by omega) hle) (fun v own' N' hv => ?_)
  obtain ⟨rfl, rfl, rfl⟩ := hv
  refine vcIf_split (fun hw => ?_) (fun hw => ?_)
  · exact bad _ _ (fun h => by rw [h.2] at hw; cases hw) ⟨_, (by first | exact Pick.front | exact Pick.whole | exact Pick.under (Pick.front) | exact Pick.under (Pick.whole) | exact Pick.under (Pick.under (Pick.front)) | exact Pick.under (Pick.under (Pick.whole)) | exact Pick.under (Pick.under (Pick.under (Pick.front))) | exact Pick.under (Pick.under (Pick.under (Pick.whole))) | exact Pick.under (Pick.under (Pick.under (Pick.under (Pick.front)))) | exact Pick.under (Pick.under (Pick.under (Pick.under (Pick.whole)))) | exact Pick.under (Pick.under (Pick.under (Pick.under (Pick.under (Pick.front))))) | exact Pick.under (Pick.under (Pick.under (Pick.under (Pick.under (Pick.whole))))) | exact Pick.under (Pick.under (Pick.under (Pick.under (Pick.under (Pick.under (Pick.front)))))) | exact Pick.under (Pick.under (Pick.under (Pick.under (Pick.under (Pick.under (Pick.whole)))))) | exact Pick.under (Pick.under (Pick.under (Pick.under (Pick.under (Pick.under (Pick.under (Pick.front))))))) | exact Pick.under (Pick.under (Pick.under (Pick.under (Pick.under (Pick.under (Pick.under (Pick.whole))))))))⟩
  have hwt : wholeR body (helloR body (0, 0)).2 = true := by cases h : wholeR body (helloR body (0, 0)).2 <;> simp_all
  refine vcCall_of (A := skP b s) (by first | exact Pick.front | exact Pick.whole | exact Pick.under (Pick.front) | exact Pick.under (Pick.whole) | exact Pick.under (Pick.under (Pick.front)) | exact Pick.under (Pick.under (Pick.whole)) | exact Pick.under (Pick.under (Pick.under (Pick.front))) | exact Pick.under (Pick.under (Pick.under (Pick.whole))) | exact Pick.under (Pick.under (Pick.under (Pick.under (Pick.front)))) | exact Pick.under (Pick.under (Pick.under (Pick.under (Pick.whole)))) | exact Pick.under (Pick.under (Pick.under (Pick.under (Pick.under (Pick.front))))) | exact Pick.under (Pick.under (Pick.under (Pick.under (Pick.under (Pick.whole))))) | exact Pick.under (Pick.under (Pick.under (Pick.under (Pick.under (Pick.under (Pick.front)))))) | exact Pick.under (Pick.under (Pick.under (Pick.under (Pick.under (Pick.under (Pick.whole)))))) | exact Pick.under (Pick.under (Pick.under (Pick.under (Pick.under (Pick.under (Pick.under (Pick.front))))))) | exact Pick.under (Pick.under (Pick.under (Pick.under (Pick.under (Pick.under (Pick.under (Pick.whole)))))))) (hear_spec b s 2 A c body _ (Ent.gnG hb) (by omega) (by omega)) (fun v own' N' hv => ?_)
  obtain ⟨A1, c1, rfl, rfl, rfl⟩ := hv
  have hml := msg_length 2 body
  obtain ⟨s1, hs1⟩ : ∃ s1, s1 = { s with said := (A1, c1, s.said.2.2 ++ msg 2 body) } := ⟨_, rfl⟩
  have hsaid : s1.said.2.2.length = s.said.2.2.length + body.length + 4 := by rw [hs1]; simp only [List.length_append]; omega
  have hpriv : s1.priv = s.priv := by rw [hs1]
  have hpu1 : pu s1 = hearS (pu s) 2 body := by rw [hs1]; rfl
  have hp63 : s.priv ≤ 9223372036854775807 := ok.priv
  rw [← hs1]
  refine vcCall_of (.cons .here .nil) (agree10_spec b s1 (pubN (helloR body (0, 0)).1) _ (Ent.gnO (o := pO s1.said) .here (fun w hw => Ob.sl_at hw)) (by omega) (by unfold pubN; omega) (by rw [hpriv]; exact hp63)) (fun v own' N2 hv => ?_)
  obtain ⟨pr, pc, ph, rfl, rfl, hpr, hpc, hph, hps, hN2⟩ := hv
  refine ⟨skP b { s1 with root := pr, hc := pc, hs := ph }, _, _, Pick.front, fun w hw _ => hw, ?_⟩
  rw [show takeSH (pu s) body = (agreeS (pu s1) (pubN (helloR body (0, 0)).1), 0) from by rw [hpu1]; exact if_pos ⟨hok, hwt⟩]
  refine ⟨rfl, _, rfl, ?_, fun w hw => ?_, by rw [hs1]; exact ⟨rfl, rfl, rfl, rfl, rfl, rfl⟩⟩
  · unfold pu agreeS; simp only [hpr, hpc, hph, hps]
  · have h : SkF s1 w := by rw [hs1]; exact hw.1
    refine ⟨h.1, h.2.1, fun p hp => ?_⟩
    simp only [List.mem_cons, List.not_mem_nil, or_false] at hp
    rcases hp with rfl | rfl | rfl | rfl | rfl | rfl | rfl
    · exact h.piece (by simp)
    · exact hN2 _ (by simp) w hw.2.2
    · exact hN2 _ (by simp) w hw.2.2
    · exact hN2 _ (by simp) w hw.2.2
    · exact h.piece (by simp)
    · exact h.piece (by simp)
    · exact h.piece (by simp)
theorem takeCho_spec (b : Nat) (s : Sk) (A : Option Addr) (c : Nat) (body : List UInt8) (G : Mp) (hf : Ent G (SkF s)) (hb : Ent G (RowAt A (Bs body))) (hbl : body.length ≤ 1000000) (hsz : szS (pu s) ≤ 1000000000000) (ok : OkP (pu s)) :
    Spec Try.prog 31 #[.pointer (some ⟨b, 0, none⟩), .slice A body.length c] (skP b s) G (TakeTo b s (takeCho (pu s) body)) := by
  refine Spec.intro (args := [_, _]) wide Try.func31 rfl Try.call31 (by rfl) (by rfl) (fun w0 hw0 => ?_)
  have hsd := said_le hsz
  refine vcCall_of .nil (vopen_spec A c body _ (Ent.gnG hb) (by omega)) (fun v own' N' hv => ?_)
  obtain ⟨br, Ar, cr, rfl, rfl, rfl, hcr⟩ := hv
  intro b5
  refine vcStore1_0 (.row b5 84 [.pointer none] 1) _ .here rfl Nat.zero_lt_one rfl ?_
  refine vcLoadN_0 (xs := [.pointer (some ⟨br, 0, none⟩)]) (Ent.gnO .here (fun w hw => Ob.row_at hw)) rfl ?_
  refine vcCall_of (.cons (.there .here) .nil) (shortR_spec br Ar cr body (0, 0) _ (Ent.gnO (.there .here) (fun w hw => Ob.sl_at hw)) hcr (by omega) (Nat.zero_le _)) (fun v own' N1 hv => ?_)
  have hle1 := shortR_le (bs := body) (s := (0, 0)) (Nat.zero_le _)
  have hbody : takeCho (pu s) body = if wholeR body (longR body (shortR body (0, 0)).2).2 = true ∧ (longR body (shortR body (0, 0)).2).1.length ≤ 1024 ∧ goodL [strB (shortR body (0, 0)).1] then
    if s.ps.any (fun y => decide (strB (shortR body (0, 0)).1 = y)) = true then ({ hearS (pu s) 8 body with proto := strB (shortR body (0, 0)).1, peer := (longR body (shortR body (0, 0)).2).1 }, 0) else (pu s, 102)
    else (pu s, 100) := rfl
  rw [hbody]
  generalize shortR body (0, 0) = r1 at hv hle1 ⊢
  obtain ⟨l1, s1⟩ := r1
  obtain ⟨⟨A1, c1, l⟩, hl, rfl, rfl, hN1⟩ := hv
  simp only at hl hN1 hle1 ⊢
  subst hl
  refine vcBytesStr.intro l rfl (fun w hw => hN1 w hw.1.2.2) ?_
  refine vcLoadN_0 (xs := [.pointer (some ⟨br, 0, none⟩)]) (Ent.gnO (o := .row b5 84 [.pointer (some ⟨br, 0, none⟩)] 1) (.there .here) (fun w hw => Ob.row_at hw)) rfl ?_
  refine vcCall_of (.cons .here .nil) (longR_spec br Ar cr body s1 _ (Ent.gnO (.there .here) (fun w hw => Ob.sl_at hw)) hcr (by omega) hle1) (fun v own' N2 hv => ?_)
  have hle2 := longR_le (bs := body) (s := s1) hle1
  have hll2 := longR_len body s1
  generalize longR body s1 = r2 at hv hle2 hll2 ⊢
  obtain ⟨l2, s2⟩ := r2
  obtain ⟨⟨A2, c2, l'⟩, hl, rfl, rfl, hN2⟩ := hv
  simp only at hl hN2 hle2 hll2 ⊢
  subst hl
  refine vcLoadN_0 (xs := [.pointer (some ⟨br, 0, none⟩)]) (Ent.gnO (o := .row b5 84 [.pointer (some ⟨br, 0, none⟩)] 1) (.there .here) (fun w hw => Ob.row_at hw)) rfl ?_
  refine vcCall_of (.cons .here .nil) (wholeR_spec br Ar cr body s2 _ (by omega) hle2) (fun v own' N' hv => ?_)
  obtain ⟨rfl, rfl, rfl⟩ := hv
  have bad : ∀ (e : Int) (r : List Ob) (N : Mp) (t : SP × Int), t = (pu s, e) → (∃ rest, Pick (skP b s) r rest) → ∃ (own' rest : List Ob) (N' : Mp), Pick own' r rest ∧ (∀ w, N w → Objs rest w → N' w) ∧ TakeTo b s t (.int .i64 e) own' N' :=
    fun e r N t h ⟨rest, hp⟩ => ⟨skP b s, rest, MT, hp, fun _ _ _ => trivial, TakeTo.same h⟩
  refine vcIf_split (fun hw => ?_) (fun hw => ?_)
  · exact bad _ _ _ _ (if_neg (fun h => by rw [h.1] at hw; cases hw)) ⟨_, (by first | exact Pick.front | exact Pick.whole | exact Pick.under (Pick.front) | exact Pick.under (Pick.whole) | exact Pick.under (Pick.under (Pick.front)) | exact Pick.under (Pick.under (Pick.whole)) | exact Pick.under (Pick.under (Pick.under (Pick.front))) | exact Pick.under (Pick.under (Pick.under (Pick.whole))) | exact Pick.under (Pick.under (Pick.under (Pick.under (Pick.front)))) | exact Pick.under (Pick.under (Pick.under (Pick.under (Pick.whole)))) | exact Pick.under (Pick.under (Pick.under (Pick.under (Pick.under (Pick.front))))) | exact Pick.under (Pick.under (Pick.under (Pick.under (Pick.under (Pick.whole))))) | exact Pick.under (Pick.under (Pick.under (Pick.under (Pick.under (Pick.under (Pick.front)))))) | exact Pick.under (Pick.under (Pick.under (Pick.under (Pick.under (Pick.under (Pick.whole)))))) | exact Pick.under (Pick.under (Pick.under (Pick.under (Pick.under (Pick.under (Pick.under (Pick.front))))))) | exact Pick.under (Pick.under (Pick.under (Pick.under (Pick.under (Pick.under (Pick.under (Pick.whole))))))))⟩
  have hwt : wholeR body s2 = true := by cases h : wholeR body s2 <;> simp_all
  refine vcIf_dec (fun hlong => ?_) (fun hlong => ?_)
  · simp only at hlong
    exact bad _ _ _ _ (if_neg (fun h => by have := h.2.1; omega)) ⟨_, (by first | exact Pick.front | exact Pick.whole | exact Pick.under (Pick.front) | exact Pick.under (Pick.whole) | exact Pick.under (Pick.under (Pick.front)) | exact Pick.under (Pick.under (Pick.whole)) | exact Pick.under (Pick.under (Pick.under (Pick.front))) | exact Pick.under (Pick.under (Pick.under (Pick.whole))) | exact Pick.under (Pick.under (Pick.under (Pick.under (Pick.front)))) | exact Pick.under (Pick.under (Pick.under (Pick.under (Pick.whole)))) | exact Pick.under (Pick.under (Pick.under (Pick.under (Pick.under (Pick.front))))) | exact Pick.under (Pick.under (Pick.under (Pick.under (Pick.under (Pick.whole))))) | exact Pick.under (Pick.under (Pick.under (Pick.under (Pick.under (Pick.under (Pick.front)))))) | exact Pick.under (Pick.under (Pick.under (Pick.under (Pick.under (Pick.under (Pick.whole)))))) | exact Pick.under (Pick.under (Pick.under (Pick.under (Pick.under (Pick.under (Pick.under (Pick.front))))))) | exact Pick.under (Pick.under (Pick.under (Pick.under (Pick.under (Pick.under (Pick.under (Pick.whole))))))))⟩
  simp only at hlong
  intro b27
  refine vcCall_of .nil (right_spec (some ⟨b27, 0, none⟩) 1 [strB l] _ (Ent.gnO .here (fun w hw => Ob.sl_at hw)) (by simp)) (fun v own' N' hv => ?_); obtain ⟨rfl, rfl, rfl⟩ := hv
  refine vcIf_ndec (fun hg => ?_) (fun hg => ?_)
  · exact bad _ _ _ _ (if_neg (fun h => hg h.2.2)) ⟨_, (by first | exact Pick.front | exact Pick.whole | exact Pick.under (Pick.front) | exact Pick.under (Pick.whole) | exact Pick.under (Pick.under (Pick.front)) | exact Pick.under (Pick.under (Pick.whole)) | exact Pick.under (Pick.under (Pick.under (Pick.front))) | exact Pick.under (Pick.under (Pick.under (Pick.whole))) | exact Pick.under (Pick.under (Pick.under (Pick.under (Pick.front)))) | exact Pick.under (Pick.under (Pick.under (Pick.under (Pick.whole)))) | exact Pick.under (Pick.under (Pick.under (Pick.under (Pick.under (Pick.front))))) | exact Pick.under (Pick.under (Pick.under (Pick.under (Pick.under (Pick.whole))))) | exact Pick.under (Pick.under (Pick.under (Pick.under (Pick.under (Pick.under (Pick.front)))))) | exact Pick.under (Pick.under (Pick.under (Pick.under (Pick.under (Pick.under (Pick.whole)))))) | exact Pick.under (Pick.under (Pick.under (Pick.under (Pick.under (Pick.under (Pick.under (Pick.front))))))) | exact Pick.under (Pick.under (Pick.under (Pick.under (Pick.under (Pick.under (Pick.under (Pick.whole))))))))⟩
  have hps : s.ps.length ≤ 8 := ok.ps
  refine vcLoad1_2 (v := .slice s.pA s.ps.length s.pc) (xs := skL s) (Ent.mem (o := skR b s) (by simp [skP]) (fun w hw => Ob.row_at hw)) rfl ?_
  refine vcCall_of .nil (scontains_spec s.pA s.pc s.ps (strB l) _ (Ent.gnG (hf.mono fun w hw => hw.1)) (by omega)) (fun v own' N' hv => ?_); obtain ⟨rfl, rfl, rfl⟩ := hv
  rw [if_pos ⟨hwt, by omega, hg⟩]
  refine vcIf_split (fun hc => ?_) (fun hc => ?_)
  · exact bad _ _ _ _ (if_neg (fun h => by rw [h] at hc; cases hc)) ⟨_, (by first | exact Pick.front | exact Pick.whole | exact Pick.under (Pick.front) | exact Pick.under (Pick.whole) | exact Pick.under (Pick.under (Pick.front)) | exact Pick.under (Pick.under (Pick.whole)) | exact Pick.under (Pick.under (Pick.under (Pick.front))) | exact Pick.under (Pick.under (Pick.under (Pick.whole))) | exact Pick.under (Pick.under (Pick.under (Pick.under (Pick.front)))) | exact Pick.under (Pick.under (Pick.under (Pick.under (Pick.whole)))) | exact Pick.under (Pick.under (Pick.under (Pick.under (Pick.under (Pick.front))))) | exact Pick.under (Pick.under (Pick.under (Pick.under (Pick.under (Pick.whole))))) | exact Pick.under (Pick.under (Pick.under (Pick.under (Pick.under (Pick.under (Pick.front)))))) | exact Pick.under (Pick.under (Pick.under (Pick.under (Pick.under (Pick.under (Pick.whole)))))) | exact Pick.under (Pick.under (Pick.under (Pick.under (Pick.under (Pick.under (Pick.under (Pick.front))))))) | exact Pick.under (Pick.under (Pick.under (Pick.under (Pick.under (Pick.under (Pick.under (Pick.whole))))))))⟩
  have hct : (s.ps.any fun y => decide (strB l = y)) = true := by cases h : s.ps.any fun y => decide (strB l = y) <;> simp_all
  rw [if_pos hct]
  refine vcCall_of (A := skP b s) (by first | exact Pick.front | exact Pick.whole | exact Pick.under (Pick.front) | exact Pick.under (Pick.whole) | exact Pick.under (Pick.under (Pick.front)) | exact Pick.under (Pick.under (Pick.whole)) | exact Pick.under (Pick.under (Pick.under (Pick.front))) | exact Pick.under (Pick.under (Pick.under (Pick.whole))) | exact Pick.under (Pick.under (Pick.under (Pick.under (Pick.front)))) | exact Pick.under (Pick.under (Pick.under (Pick.under (Pick.whole)))) | exact Pick.under (Pick.under (Pick.under (Pick.under (Pick.under (Pick.front))))) | exact Pick.under (Pick.under (Pick.under (Pick.under (Pick.under (Pick.whole))))) | exact Pick.under (Pick.under (Pick.under (Pick.under (Pick.under (Pick.under (Pick.front)))))) | exact Pick.under (Pick.under (Pick.under (Pick.under (Pick.under (Pick.under (Pick.whole)))))) | exact Pick.under (Pick.under (Pick.under (Pick.under (Pick.under (Pick.under (Pick.under (Pick.front))))))) | exact Pick.under (Pick.under (Pick.under (Pick.under (Pick.under (Pick.under (Pick.under (Pick.whole)))))))) (hear_spec b s 8 A c body _ (Ent.gnG hb) (by omega) (by omega)) (fun v own' N' hv => ?_)
  obtain ⟨A3, c3, rfl, rfl, rfl⟩ := hv
  obtain ⟨s3, hs3⟩ : ∃ s3, s3 = { s with said := (A3, c3, s.said.2.2 ++ msg 8 body) } := ⟨_, rfl⟩
  have hpu3 : pu s3 = hearS (pu s) 8 body := by rw [hs3]; rfl
  rw [← hs3]
  refine vcStore1_eq (skR b s3) (skR b { s3 with proto := strB l }) _ .here rfl (by show (47 : Nat) < 49; decide) rfl rfl ?_
  refine vcStore1_eq (skR b { s3 with proto := strB l }) (skR b { s3 with proto := strB l, peer := (A2, c2, l') }) _ .here rfl (by show (48 : Nat) < 49; decide) rfl rfl ?_
  refine ⟨skP b { s3 with proto := strB l, peer := (A2, c2, l') }, _, _, Pick.front, fun w hw _ => hw, rfl, _, rfl, ?_, fun w hw => ?_, by rw [hs3]; exact ⟨rfl, rfl, rfl, rfl, rfl, rfl⟩⟩
  · rw [← hpu3]; rfl
  · have h : SkF s3 w := by rw [hs3]; exact hw.1
    refine ⟨h.1, h.2.1, fun p hp => ?_⟩
    simp only [List.mem_cons, List.not_mem_nil, or_false] at hp
    rcases hp with rfl | rfl | rfl | rfl | rfl | rfl | rfl
    · exact h.piece (by simp)
    · exact h.piece (by simp)
    · exact h.piece (by simp)
    · exact h.piece (by simp)
    · exact h.piece (by simp)
    · exact h.piece (by simp)
    · exact ((Ent.gnN (by repeat first | exact hN2 | exact Ent.andR hN2 | refine Ent.andL ?_)) : Ent (GN MT [] _) (RowAt A2 (Bs l'))) w ⟨⟨trivial, hw.2⟩, fun _ h => by cases h⟩
end Go.Proofs.Yticllmnblcjjcaa
end
