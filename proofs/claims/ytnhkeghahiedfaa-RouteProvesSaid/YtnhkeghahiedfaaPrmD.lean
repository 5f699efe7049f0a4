/- The digest of several pieces. -/
import Derived.Test.YtnhkeghahiedfaaPrmC
namespace Go.Proofs.Ytnhkeghahiedfaa
open Go.Proofs
set_option maxRecDepth 10000

theorem be8_get (a k : Nat) (hk : k < 8) : (be 8 a)[k]? = some (UInt8.ofNat (a / 2 ^ (56 - 8 * k) % 256)) := by
  match k, hk with
  | 0, _ => simp [be, Nat.div_div_eq_div_mul]
  | 1, _ => simp [be, Nat.div_div_eq_div_mul]
  | 2, _ => simp [be, Nat.div_div_eq_div_mul]
  | 3, _ => simp [be, Nat.div_div_eq_div_mul]
  | 4, _ => simp [be, Nat.div_div_eq_div_mul]
  | 5, _ => simp [be, Nat.div_div_eq_div_mul]
  | 6, _ => simp [be, Nat.div_div_eq_div_mul]
  | 7, _ => simp [be]
def outK (L M : List UInt8) (k : Nat) : List UInt8 := L.take k ++ List.replicate (8 - k) 0 ++ (M.take k ++ List.replicate (8 - k) 0)
theorem outK_length (L M : List UInt8) (hL : L.length = 8) (hM : M.length = 8) (k : Nat) (hk : k ≤ 8) : (outK L M k).length = 16 := by simp [outK, hL, hM]; omega
theorem list8 {L : List UInt8} (h : L.length = 8) : ∃ a b c d e f g i, L = [a, b, c, d, e, f, g, i] := by
  match L, h with
  | [a, b, c, d, e, f, g, i], _ => exact ⟨a, b, c, d, e, f, g, i, rfl⟩
theorem outK_step {L M : List UInt8} (hL : L.length = 8) (hM : M.length = 8) (k : Nat) (hk : k < 8) (x y : UInt8) (hx : L[k]? = some x) (hy : M[k]? = some y) : ((outK L M k).set k x).set (8 + k) y = outK L M (k + 1) := by
  obtain ⟨a, b, c, d, e, f, g, i, rfl⟩ := list8 hL
  obtain ⟨a', b', c', d', e', f', g', i', rfl⟩ := list8 hM
  match k, hk with
  | 0, _ | 1, _ | 2, _ | 3, _ | 4, _ | 5, _ | 6, _ | 7, _ => cases hx; cases hy; rfl
theorem Bs_set (l : List UInt8) (k : Nat) (x : UInt8) : (Bs l).set k (.int .u8 x.toNat) = Bs (l.set k x) := by
  simp only [Bs, List.map_set]; rfl

theorem begin_spec (G : Mp) : Spec Try.prog 70 #[] [] G (Ret (.agg (stV seed0).toArray)) := by
  refine Spec.intro (args := []) wide Try.func70 rfl Try.call70 (by rfl) (by rfl) (fun w0 hw0 => ?_)
  intro b
  refine ⟨rfl, vcStoreN_row _ .here rfl (by decide) ?_⟩
  refine vcLoadN_0 (Ent.gnO .here (fun w hw => Ob.row_at hw)) rfl ?_
  exact ⟨[], _, MT, .nil, fun _ _ _ => trivial, rfl, rfl, rfl⟩

theorem of_spec (A : Option Addr) (c : Nat) (ps : List Piece) (G : Mp) (h1 : Ent G (RowAt A (ps.map pieceV))) (h2 : ∀ p ∈ ps, Ent G (RowAt p.1 (Bs p.2.2))) (hb : (pieces ps).length ≤ 4611686018427387904) (hl : ps.length ≤ 4611686018427387904) :
    Spec Try.prog 63 #[.slice A ps.length c] [] G (Ret (.agg (Bs (dig (pieces ps))).toArray)) := by
  refine Spec.intro (args := [_]) wide Try.func63 rfl Try.call63 (by rfl) (by rfl) (fun w0 hw0 => ?_)
  intro bo
  refine vcCall_of .nil (begin_spec _) (fun v own' N' hv => ?_); obtain ⟨rfl, rfl, rfl⟩ := hv
  intro bst
  refine ⟨rfl, vcStoreN_row _ .here rfl (by decide) ?_⟩
  refine vcLoop_of (fun k : Nat => ps.length - k) (fun k => [(2, .pointer (some ⟨bo, 0, none⟩)), (3, .pointer (some ⟨bst, 0, none⟩)), (9, .slice A ps.length c), (10, .int .i64 ps.length), (11, .int .i64 k), (4, .int .i64 (pieces (ps.take k)).length)])
    (fun k => [.row bst 107 (stV (mixL seed0 (pieces (ps.take k)))) 2, .row bo 82 (Bs (List.replicate 16 0)) 16]) (fun _ => MT) (fun k => k ≤ ps.length) 0 (Nat.zero_le _)
    ⟨rfl, rfl, rfl, rfl, rfl, rfl, trivial⟩ ⟨[], .cons .here (.cons .here .nil)⟩ (fun _ _ => trivial) ?_
  intro k hk
  refine vcIf_dec (fun hlt => ?_) (fun hge => ?_)
  · have hk' : k < ps.length := by omega
    have hle := pieces_le ps (k + 1)
    have hsn : pieces (ps.take (k + 1)) = pieces (ps.take k) ++ ps[k].2.2 := by rw [take_snoc_get hk']; simp only [pieces, List.flatMap_append, List.flatMap_cons, List.flatMap_nil, List.append_nil]
    rw [hsn, List.length_append] at hle
    have hbits := mixL_lt seed0 seed0_lt (pieces (ps.take k))
    refine vcIdx_nat k rfl (Ent.gnG h1) hk' (by simp) (fun a ha => ?_)
    subst ha
    refine vcLoad1_row (v := pieceV ps[k]) (Ent.gnG h1) (by simp [hk']) ?_
    refine vcCall_of (.cons .here .nil) (add_spec bst _ hbits ps[k].1 ps[k].2.1 ps[k].2.2 _ (Ent.gnG (h2 _ (List.getElem_mem _))) (by omega)) (fun v own' N' hv => ?_)
    obtain ⟨rfl, rfl, rfl⟩ := hv
    refine vcFit_i64 (by omega) ?_
    refine vcFit_i64 (by omega) ?_
    refine ⟨k + 1, by omega, by omega, ⟨rfl, rfl, rfl, rfl, rfl, ?_, trivial⟩, ⟨[], .cons ?_ (.cons .here .nil)⟩, fun _ _ => trivial⟩
    · rw [hsn, List.length_append]; rfl
    · rw [hsn, mixL_append]; exact .here
  · have hk' : k = ps.length := by omega
    subst hk'
    rw [List.take_length]
    generalize hn : pieces ps = l at hb ⊢
    repeat' (first | (first | refine vcFit_i64 (by omega) ?_ | refine vcFit_byte ?_ | refine vcFit_u64_in (by omega) ?_ | refine vcRem_pos (by omega) ?_ | refine vcQuo_i64 (by omega) ?_ | refine vcShr_nat (n := _) (by decide) ?_) | (first | refine vcIf_yes (by omega) ?_ | refine vcIf_no (by omega) ?_ | refine vcIf_nyes (by omega) ?_ | refine vcIf_nno (by omega) ?_ | refine vcIf_dec (fun _ => ?_) (fun _ => ?_) | refine vcIf_ndec (fun _ => ?_) (fun _ => ?_)) | (first | refine vcIdx_some _ (by first | exact rfl | exact (Int.natCast_add _ 1).symm | exact (Int.toNat_of_nonneg (by omega)).symm) (by omega) ?_ | (refine vcIdx_nat _ (by first | exact rfl | exact (Int.natCast_add _ 1).symm | exact (Int.toNat_of_nonneg (by omega)).symm) (by first | exact Ent.refl | assumption | exact Ent.gnG (by assumption) | exact Ent.gnG (Ent.gnG (by assumption)) | exact (Ent.gnO .here (fun w hw => Ob.sl_at hw)) | exact (Ent.gnO .here (fun w hw => Ob.row_at hw)) | exact (Ent.gnO (.there .here) (fun w hw => Ob.sl_at hw)) | exact (Ent.gnO (.there .here) (fun w hw => Ob.row_at hw)) | exact (Ent.gnO (.there (.there .here)) (fun w hw => Ob.sl_at hw)) | exact (Ent.gnO (.there (.there .here)) (fun w hw => Ob.row_at hw)) | exact (Ent.gnO (.there (.there (.there .here))) (fun w hw => Ob.sl_at hw)) | exact (Ent.gnO (.there (.there (.there .here))) (fun w hw => Ob.row_at hw)) | exact (Ent.gnO (.there (.there (.there (.there .here)))) (fun w hw => Ob.sl_at hw)) | exact (Ent.gnO (.there (.there (.there (.there .here)))) (fun w hw => Ob.row_at hw)) | exact (Ent.gnO (.there (.there (.there (.there (.there .here))))) (fun w hw => Ob.sl_at hw)) | exact (Ent.gnO (.there (.there (.there (.there (.there .here))))) (fun w hw => Ob.row_at hw))) (by omega) (by first | omega | (simp only [Bs_length]; omega) | (simp; done) | (simp; omega)) (fun a ha => ?_); cases ha)) | (first | refine vcLoad1_row (by first | exact Ent.refl | assumption | exact Ent.gnG (by assumption) | exact Ent.gnG (Ent.gnG (by assumption)) | exact (Ent.gnO .here (fun w hw => Ob.sl_at hw)) | exact (Ent.gnO .here (fun w hw => Ob.row_at hw)) | exact (Ent.gnO (.there .here) (fun w hw => Ob.sl_at hw)) | exact (Ent.gnO (.there .here) (fun w hw => Ob.row_at hw)) | exact (Ent.gnO (.there (.there .here)) (fun w hw => Ob.sl_at hw)) | exact (Ent.gnO (.there (.there .here)) (fun w hw => Ob.row_at hw)) | exact (Ent.gnO (.there (.there (.there .here))) (fun w hw => Ob.sl_at hw)) | exact (Ent.gnO (.there (.there (.there .here))) (fun w hw => Ob.row_at hw)) | exact (Ent.gnO (.there (.there (.there (.there .here)))) (fun w hw => Ob.sl_at hw)) | exact (Ent.gnO (.there (.there (.there (.there .here)))) (fun w hw => Ob.row_at hw)) | exact (Ent.gnO (.there (.there (.there (.there (.there .here))))) (fun w hw => Ob.sl_at hw)) | exact (Ent.gnO (.there (.there (.there (.there (.there .here))))) (fun w hw => Ob.row_at hw))) (by first | rfl | exact Bs_get (by omega) | assumption) ?_ | refine vcLoad1_2 (by first | exact Ent.refl | assumption | exact Ent.gnG (by assumption) | exact Ent.gnG (Ent.gnG (by assumption)) | exact (Ent.gnO .here (fun w hw => Ob.sl_at hw)) | exact (Ent.gnO .here (fun w hw => Ob.row_at hw)) | exact (Ent.gnO (.there .here) (fun w hw => Ob.sl_at hw)) | exact (Ent.gnO (.there .here) (fun w hw => Ob.row_at hw)) | exact (Ent.gnO (.there (.there .here)) (fun w hw => Ob.sl_at hw)) | exact (Ent.gnO (.there (.there .here)) (fun w hw => Ob.row_at hw)) | exact (Ent.gnO (.there (.there (.there .here))) (fun w hw => Ob.sl_at hw)) | exact (Ent.gnO (.there (.there (.there .here))) (fun w hw => Ob.row_at hw)) | exact (Ent.gnO (.there (.there (.there (.there .here)))) (fun w hw => Ob.sl_at hw)) | exact (Ent.gnO (.there (.there (.there (.there .here)))) (fun w hw => Ob.row_at hw)) | exact (Ent.gnO (.there (.there (.there (.there (.there .here))))) (fun w hw => Ob.sl_at hw)) | exact (Ent.gnO (.there (.there (.there (.there (.there .here))))) (fun w hw => Ob.row_at hw))) (by first | rfl | exact Bs_get (by omega) | assumption) ?_ | refine vcLoad1_3 (by first | exact Ent.refl | assumption | exact Ent.gnG (by assumption) | exact Ent.gnG (Ent.gnG (by assumption)) | exact (Ent.gnO .here (fun w hw => Ob.sl_at hw)) | exact (Ent.gnO .here (fun w hw => Ob.row_at hw)) | exact (Ent.gnO (.there .here) (fun w hw => Ob.sl_at hw)) | exact (Ent.gnO (.there .here) (fun w hw => Ob.row_at hw)) | exact (Ent.gnO (.there (.there .here)) (fun w hw => Ob.sl_at hw)) | exact (Ent.gnO (.there (.there .here)) (fun w hw => Ob.row_at hw)) | exact (Ent.gnO (.there (.there (.there .here))) (fun w hw => Ob.sl_at hw)) | exact (Ent.gnO (.there (.there (.there .here))) (fun w hw => Ob.row_at hw)) | exact (Ent.gnO (.there (.there (.there (.there .here)))) (fun w hw => Ob.sl_at hw)) | exact (Ent.gnO (.there (.there (.there (.there .here)))) (fun w hw => Ob.row_at hw)) | exact (Ent.gnO (.there (.there (.there (.there (.there .here))))) (fun w hw => Ob.sl_at hw)) | exact (Ent.gnO (.there (.there (.there (.there (.there .here))))) (fun w hw => Ob.row_at hw))) (by first | rfl | exact Bs_get (by omega) | assumption) ?_ | refine vcLoad1_0 (by first | exact Ent.refl | assumption | exact Ent.gnG (by assumption) | exact Ent.gnG (Ent.gnG (by assumption)) | exact (Ent.gnO .here (fun w hw => Ob.sl_at hw)) | exact (Ent.gnO .here (fun w hw => Ob.row_at hw)) | exact (Ent.gnO (.there .here) (fun w hw => Ob.sl_at hw)) | exact (Ent.gnO (.there .here) (fun w hw => Ob.row_at hw)) | exact (Ent.gnO (.there (.there .here)) (fun w hw => Ob.sl_at hw)) | exact (Ent.gnO (.there (.there .here)) (fun w hw => Ob.row_at hw)) | exact (Ent.gnO (.there (.there (.there .here))) (fun w hw => Ob.sl_at hw)) | exact (Ent.gnO (.there (.there (.there .here))) (fun w hw => Ob.row_at hw)) | exact (Ent.gnO (.there (.there (.there (.there .here)))) (fun w hw => Ob.sl_at hw)) | exact (Ent.gnO (.there (.there (.there (.there .here)))) (fun w hw => Ob.row_at hw)) | exact (Ent.gnO (.there (.there (.there (.there (.there .here))))) (fun w hw => Ob.sl_at hw)) | exact (Ent.gnO (.there (.there (.there (.there (.there .here))))) (fun w hw => Ob.row_at hw))) (by first | rfl | exact Bs_get (by omega) | assumption) ?_) | (first | refine vcStore1_1 _ _ .here rfl (by first | omega | (simp only [Bs_length]; omega) | (simp; done) | (simp; omega)) rfl ?_ | refine vcStore1_2 _ _ .here rfl (by first | omega | (simp only [Bs_length]; omega) | (simp; done) | (simp; omega)) rfl ?_ | refine vcStore1_0 _ _ .here rfl (by first | omega | (simp only [Bs_length]; omega) | (simp; done) | (simp; omega)) rfl ?_ | refine vcStore1_1 _ _ (.there .here) rfl (by first | omega | (simp only [Bs_length]; omega) | (simp; done) | (simp; omega)) rfl ?_ | refine vcStore1_2 _ _ (.there .here) rfl (by first | omega | (simp only [Bs_length]; omega) | (simp; done) | (simp; omega)) rfl ?_ | refine vcStore1_0 _ _ (.there .here) rfl (by first | omega | (simp only [Bs_length]; omega) | (simp; done) | (simp; omega)) rfl ?_ | refine vcStore1_1 _ _ (.there (.there .here)) rfl (by first | omega | (simp only [Bs_length]; omega) | (simp; done) | (simp; omega)) rfl ?_ | refine vcStore1_2 _ _ (.there (.there .here)) rfl (by first | omega | (simp only [Bs_length]; omega) | (simp; done) | (simp; omega)) rfl ?_ | refine vcStore1_0 _ _ (.there (.there .here)) rfl (by first | omega | (simp only [Bs_length]; omega) | (simp; done) | (simp; omega)) rfl ?_ | refine vcStore1_1 _ _ (.there (.there (.there .here))) rfl (by first | omega | (simp only [Bs_length]; omega) | (simp; done) | (simp; omega)) rfl ?_ | refine vcStore1_2 _ _ (.there (.there (.there .here))) rfl (by first | omega | (simp only [Bs_length]; omega) | (simp; done) | (simp; omega)) rfl ?_ | refine vcStore1_0 _ _ (.there (.there (.there .here))) rfl (by first | omega | (simp only [Bs_length]; omega) | (simp; done) | (simp; omega)) rfl ?_ | refine vcStore1_1 _ _ (.there (.there (.there (.there .here)))) rfl (by first | omega | (simp only [Bs_length]; omega) | (simp; done) | (simp; omega)) rfl ?_ | refine vcStore1_2 _ _ (.there (.there (.there (.there .here)))) rfl (by first | omega | (simp only [Bs_length]; omega) | (simp; done) | (simp; omega)) rfl ?_ | refine vcStore1_0 _ _ (.there (.there (.there (.there .here)))) rfl (by first | omega | (simp only [Bs_length]; omega) | (simp; done) | (simp; omega)) rfl ?_ | refine vcStore1_1 _ _ (.there (.there (.there (.there (.there .here))))) rfl (by first | omega | (simp only [Bs_length]; omega) | (simp; done) | (simp; omega)) rfl ?_ | refine vcStore1_2 _ _ (.there (.there (.there (.there (.there .here))))) rfl (by first | omega | (simp only [Bs_length]; omega) | (simp; done) | (simp; omega)) rfl ?_ | refine vcStore1_0 _ _ (.there (.there (.there (.there (.there .here))))) rfl (by first | omega | (simp only [Bs_length]; omega) | (simp; done) | (simp; omega)) rfl ?_))
    intro bt
    have hbits := mixL_lt seed0 seed0_lt l
    have htail : [byteI l.length, byteI ((l.length : Int) / 2 ^ 8), byteI ((l.length : Int) / 2 ^ 16), byteI ((l.length : Int) / 2 ^ 24)] = le4 l.length := by
      rw [byteI_shr, byteI_shr, byteI_shr, byteI_nat]; rfl
    refine vcCall_of (.cons (.there .here) .nil) (add_spec bst _ hbits (some ⟨bt, 0, none⟩) 4 [byteI l.length, byteI ((l.length : Int) / 2 ^ 8), byteI ((l.length : Int) / 2 ^ 16), byteI ((l.length : Int) / 2 ^ 24)] _ (Ent.gnO .here (fun w hw => Ob.sl_at hw)) (by simp)) (fun v own' N' hv => ?_)
    obtain ⟨rfl, rfl, rfl⟩ := hv
    rw [htail, ← mixL_append]
    generalize hs : mixL seed0 (l ++ le4 l.length) = s
    have hd : dig l = be 8 s.1 ++ be 8 s.2 := by unfold dig; rw [hs]
    refine vcLoop_of (fun k : Nat => 8 - k) (fun k => [(2, .pointer (some ⟨bo, 0, none⟩)), (3, .pointer (some ⟨bst, 0, none⟩)), (35, .int .i64 k)])
      (fun k => [.row bst 107 (stV s) 2, .row bo 82 (Bs (outK (be 8 s.1) (be 8 s.2) k)) 16]) (fun _ => MT) (fun k => k ≤ 8) 0 (Nat.zero_le _)
      ⟨rfl, rfl, rfl, trivial⟩ ⟨_, .cons .here (.cons (.there .here) .nil)⟩ (fun _ _ => trivial) ?_
    intro k hk
    have hol := outK_length (be 8 s.1) (be 8 s.2) (be_length _ _) (be_length _ _) k hk
    refine vcIf_dec (fun hlt => ?_) (fun hge => ?_)
    · have hk' : k < 8 := by omega
      have e1 : (56 : Int) - 8 * k = ((56 - 8 * k : Nat) : Int) := by omega
      have e2 : (8 : Int) + k = ((8 + k : Nat) : Int) := by omega
      have h64 : 56 - 8 * k ≤ IntKind.u64.bits := by show _ ≤ 64; omega
      refine vcLoad1_row (by first | exact Ent.refl | assumption | exact Ent.gnG (by assumption) | exact Ent.gnG (Ent.gnG (by assumption)) | exact (Ent.gnO .here (fun w hw => Ob.sl_at hw)) | exact (Ent.gnO .here (fun w hw => Ob.row_at hw)) | exact (Ent.gnO (.there .here) (fun w hw => Ob.sl_at hw)) | exact (Ent.gnO (.there .here) (fun w hw => Ob.row_at hw)) | exact (Ent.gnO (.there (.there .here)) (fun w hw => Ob.sl_at hw)) | exact (Ent.gnO (.there (.there .here)) (fun w hw => Ob.row_at hw)) | exact (Ent.gnO (.there (.there (.there .here))) (fun w hw => Ob.sl_at hw)) | exact (Ent.gnO (.there (.there (.there .here))) (fun w hw => Ob.row_at hw)) | exact (Ent.gnO (.there (.there (.there (.there .here)))) (fun w hw => Ob.sl_at hw)) | exact (Ent.gnO (.there (.there (.there (.there .here)))) (fun w hw => Ob.row_at hw)) | exact (Ent.gnO (.there (.there (.there (.there (.there .here))))) (fun w hw => Ob.sl_at hw)) | exact (Ent.gnO (.there (.there (.there (.there (.there .here))))) (fun w hw => Ob.row_at hw))) rfl ?_
      refine vcFit_i64 (by omega) ?_
      refine vcFit_i64 (by omega) ?_
      rw [e1]
      refine vcShr_nat h64 ?_
      refine vcFit_byte ?_
      refine vcAt_nat k rfl (by omega) ?_
      refine vcStore1_1 _ _ (.there .here) rfl (by simp [Ob.cells, Bs_length, hol]; omega) rfl ?_
      refine vcFit_i64 (by omega) ?_
      refine vcLoad1_row (by first | exact Ent.refl | assumption | exact Ent.gnG (by assumption) | exact Ent.gnG (Ent.gnG (by assumption)) | exact (Ent.gnO .here (fun w hw => Ob.sl_at hw)) | exact (Ent.gnO .here (fun w hw => Ob.row_at hw)) | exact (Ent.gnO (.there .here) (fun w hw => Ob.sl_at hw)) | exact (Ent.gnO (.there .here) (fun w hw => Ob.row_at hw)) | exact (Ent.gnO (.there (.there .here)) (fun w hw => Ob.sl_at hw)) | exact (Ent.gnO (.there (.there .here)) (fun w hw => Ob.row_at hw)) | exact (Ent.gnO (.there (.there (.there .here))) (fun w hw => Ob.sl_at hw)) | exact (Ent.gnO (.there (.there (.there .here))) (fun w hw => Ob.row_at hw)) | exact (Ent.gnO (.there (.there (.there (.there .here)))) (fun w hw => Ob.sl_at hw)) | exact (Ent.gnO (.there (.there (.there (.there .here)))) (fun w hw => Ob.row_at hw)) | exact (Ent.gnO (.there (.there (.there (.there (.there .here))))) (fun w hw => Ob.sl_at hw)) | exact (Ent.gnO (.there (.there (.there (.there (.there .here))))) (fun w hw => Ob.row_at hw))) rfl ?_
      refine vcFit_i64 (by omega) ?_
      refine vcFit_i64 (by omega) ?_
      rw [e1]
      refine vcShr_nat h64 ?_
      refine vcFit_byte ?_
      rw [e2]
      refine vcAt_nat (8 + k) rfl (by omega) ?_
      refine vcStore1_1 _ _ .here rfl (by simp [Ob.cells, Ob.set, Bs_length, hol]; omega) rfl ?_
      refine vcFit_i64 (by omega) ?_
      refine ⟨k + 1, by omega, by omega, ⟨rfl, rfl, rfl, trivial⟩, ⟨[], .cons (.there .here) (.cons ?_ .nil)⟩, fun _ _ => trivial⟩
      have hx := be8_get s.1 k hk'
      have hy := be8_get s.2 k hk'
      rw [← outK_step (be_length _ _) (be_length _ _) k hk' _ _ hx hy, ← Bs_set, ← Bs_set, ← byteI_shr, ← byteI_shr]
      exact .here
    · have hk' : k = 8 := by omega
      subst hk'
      have hfin : outK (be 8 s.1) (be 8 s.2) 8 = dig l := by
        rw [hd]; simp [outK, be_length, List.take_of_length_le]
      rw [hfin]
      have hdl : (Bs (dig l)).length = 16 := by rw [Bs_length, dig_length]
      refine vcLoadN_0 (Ent.gnO (.there .here) (fun w hw => Ob.row_at hw)) hdl ?_
      refine ⟨hdl, vcStoreN_row _ (.there .here) rfl (Bs_one _) ?_⟩
      refine vcLoadN_0 (Ent.gnO .here (fun w hw => Ob.row_at hw)) hdl ?_
      exact ⟨[], _, MT, .nil, fun _ _ _ => trivial, rfl, rfl, rfl⟩
end Go.Proofs.Ytnhkeghahiedfaa
