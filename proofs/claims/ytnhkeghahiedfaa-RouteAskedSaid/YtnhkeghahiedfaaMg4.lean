/- RouteAsked: asking packets, tables, ids. [PrmC PrmD PrmE PrmF RteB RteC PrmG PrmH PrmI PrmJ RteD RteE RteF Sbk RteG RteH Pik AskA AskB] -/
import Derived.Test.YtnhkeghahiedfaaMg3
import Derived.Test.YtnhkeghahiedfaaMg2
section
/- Small functions of layer 7: words, pieces with their length ahead. -/
namespace Go.Proofs.Ytnhkeghahiedfaa
open Go.Proofs
set_option maxRecDepth 10000

theorem word_spec (n : Nat) (G : Mp) : Spec Try.prog 66 #[.int .i64 n] [] G (OwnB (word4 n)) := by
  refine Spec.intro (args := [_]) wide Try.func66 rfl Try.call66 (by rfl) (by rfl) (fun w0 hw0 => ?_)
  repeat' (first | (first | refine vcFit_i64 (by omega) ?_ | refine vcFit_byte ?_ | refine vcFit_u64_in (by omega) ?_ | refine vcRem_pos (by omega) ?_ | refine vcQuo_i64 (by omega) ?_ | refine vcShr_nat (n := _) (by decide) ?_) | (first | refine vcIf_yes (by omega) ?_ | refine vcIf_no (by omega) ?_ | refine vcIf_nyes (by omega) ?_ | refine vcIf_nno (by omega) ?_ | refine vcIf_dec (fun _ => ?_) (fun _ => ?_) | refine vcIf_ndec (fun _ => ?_) (fun _ => ?_)) | (first | refine vcIdx_some _ (by first | exact rfl | exact (Int.natCast_add _ 1).symm | exact (Int.toNat_of_nonneg (by omega)).symm) (by omega) ?_ | (refine vcIdx_nat _ (by first | exact rfl | exact (Int.natCast_add _ 1).symm | exact (Int.toNat_of_nonneg (by omega)).symm) (by first | exact Ent.refl | assumption | exact Ent.gnG (by assumption) | exact Ent.gnG (Ent.gnG (by assumption)) | exact (Ent.gnO .here (fun w hw => Ob.sl_at hw)) | exact (Ent.gnO .here (fun w hw => Ob.row_at hw)) | exact (Ent.gnO (.there .here) (fun w hw => Ob.sl_at hw)) | exact (Ent.gnO (.there .here) (fun w hw => Ob.row_at hw)) | exact (Ent.gnO (.there (.there .here)) (fun w hw => Ob.sl_at hw)) | exact (Ent.gnO (.there (.there .here)) (fun w hw => Ob.row_at hw)) | exact (Ent.gnO (.there (.there (.there .here))) (fun w hw => Ob.sl_at hw)) | exact (Ent.gnO (.there (.there (.there .here))) (fun w hw => Ob.row_at hw)) | exact (Ent.gnO (.there (.there (.there (.there .here)))) (fun w hw => Ob.sl_at hw)) | exact (Ent.gnO (.there (.there (.there (.there .here)))) (fun w hw => Ob.row_at hw)) | exact (Ent.gnO (.there (.there (.there (.there (.there .here))))) (fun w hw => Ob.sl_at hw)) | exact (Ent.gnO (.there (.there (.there (.there (.there .here))))) (fun w hw => Ob.row_at hw))) (by omega) (by first | omega | (simp only [Bs_length]; omega) | (simp; done) | (simp; omega)) (fun a ha => ?_); cases ha)) | (first | refine vcLoad1_row (by first | exact Ent.refl | assumption | exact Ent.gnG (by assumption) | exact Ent.gnG (Ent.gnG (by assumption)) | exact (Ent.gnO .here (fun w hw => Ob.sl_at hw)) | exact (Ent.gnO .here (fun w hw => Ob.row_at hw)) | exact (Ent.gnO (.there .here) (fun w hw => Ob.sl_at hw)) | exact (Ent.gnO (.there .here) (fun w hw => Ob.row_at hw)) | exact (Ent.gnO (.there (.there .here)) (fun w hw => Ob.sl_at hw)) | exact (Ent.gnO (.there (.there .here)) (fun w hw => Ob.row_at hw)) | exact (Ent.gnO (.there (.there (.there .here))) (fun w hw => Ob.sl_at hw)) | exact (Ent.gnO (.there (.there (.there .here))) (fun w hw => Ob.row_at hw)) | exact (Ent.gnO (.there (.there (.there (.there .here)))) (fun w hw => Ob.sl_at hw)) | exact (Ent.gnO (.there (.there (.there (.there .here)))) (fun w hw => Ob.row_at hw)) | exact (Ent.gnO (.there (.there (.there (.there (.there .here))))) (fun w hw => Ob.sl_at hw)) | exact (Ent.gnO (.there (.there (.there (.there (.there .here))))) (fun w hw => Ob.row_at hw))) (by first | rfl | exact Bs_get (by omega) | assumption) ?_ | refine vcLoad1_2 (by first | exact Ent.refl | assumption | exact Ent.gnG (by assumption) | exact Ent.gnG (Ent.gnG (by assumption)) | exact (Ent.gnO .here (fun w hw => Ob.sl_at hw)) | exact (Ent.gnO .here (fun w hw => Ob.row_at hw)) | exact (Ent.gnO (.there .here) (fun w hw => Ob.sl_at hw)) | exact (Ent.gnO (.there .here) (fun w hw => Ob.row_at hw)) | exact (Ent.gnO (.there (.there .here)) (fun w hw => Ob.sl_at hw)) | exact (Ent.gnO (.there (.there .here)) (fun w hw => Ob.row_at hw)) | exact (Ent.gnO (.there (.there (.there .here))) (fun w hw => Ob.sl_at hw)) | exact (Ent.gnO (.there (.there (.there .here))) (fun w hw => Ob.row_at hw)) | exact (Ent.gnO (.there (.there (.there (.there .here)))) (fun w hw => Ob.sl_at hw)) | exact (Ent.gnO (.there (.there (.there (.there .here)))) (fun w hw => Ob.row_at hw)) | exact (Ent.gnO (.there (.there (.there (.there (.there .here))))) (fun w hw => Ob.sl_at hw)) | exact (Ent.gnO (.there (.there (.there (.there (.there .here))))) (fun w hw => Ob.row_at hw))) (by first | rfl | exact Bs_get (by omega) | assumption) ?_ | refine vcLoad1_3 (by first | exact Ent.refl | assumption | exact Ent.gnG (by assumption) | exact Ent.gnG (Ent.gnG (by assumption)) | exact (Ent.gnO .here (fun w hw => Ob.sl_at hw)) | exact (Ent.gnO .here (fun w hw => Ob.row_at hw)) | exact (Ent.gnO (.there .here) (fun w hw => Ob.sl_at hw)) | exact (Ent.gnO (.there .here) (fun w hw => Ob.row_at hw)) | exact (Ent.gnO (.there (.there .here)) (fun w hw => Ob.sl_at hw)) | exact (Ent.gnO (.there (.there .here)) (fun w hw => Ob.row_at hw)) | exact (Ent.gnO (.there (.there (.there .here))) (fun w hw => Ob.sl_at hw)) | exact (Ent.gnO (.there (.there (.there .here))) (fun w hw => Ob.row_at hw)) | exact (Ent.gnO (.there (.there (.there (.there .here)))) (fun w hw => Ob.sl_at hw)) | exact (Ent.gnO (.there (.there (.there (.there .here)))) (fun w hw => Ob.row_at hw)) | exact (Ent.gnO (.there (.there (.there (.there (.there .here))))) (fun w hw => Ob.sl_at hw)) | exact (Ent.gnO (.there (.there (.there (.there (.there .here))))) (fun w hw => Ob.row_at hw))) (by first | rfl | exact Bs_get (by omega) | assumption) ?_ | refine vcLoad1_0 (by first | exact Ent.refl | assumption | exact Ent.gnG (by assumption) | exact Ent.gnG (Ent.gnG (by assumption)) | exact (Ent.gnO .here (fun w hw => Ob.sl_at hw)) | exact (Ent.gnO .here (fun w hw => Ob.row_at hw)) | exact (Ent.gnO (.there .here) (fun w hw => Ob.sl_at hw)) | exact (Ent.gnO (.there .here) (fun w hw => Ob.row_at hw)) | exact (Ent.gnO (.there (.there .here)) (fun w hw => Ob.sl_at hw)) | exact (Ent.gnO (.there (.there .here)) (fun w hw => Ob.row_at hw)) | exact (Ent.gnO (.there (.there (.there .here))) (fun w hw => Ob.sl_at hw)) | exact (Ent.gnO (.there (.there (.there .here))) (fun w hw => Ob.row_at hw)) | exact (Ent.gnO (.there (.there (.there (.there .here)))) (fun w hw => Ob.sl_at hw)) | exact (Ent.gnO (.there (.there (.there (.there .here)))) (fun w hw => Ob.row_at hw)) | exact (Ent.gnO (.there (.there (.there (.there (.there .here))))) (fun w hw => Ob.sl_at hw)) | exact (Ent.gnO (.there (.there (.there (.there (.there .here))))) (fun w hw => Ob.row_at hw))) (by first | rfl | exact Bs_get (by omega) | assumption) ?_) | (first | refine vcStore1_1 _ _ .here rfl (by first | omega | (simp only [Bs_length]; omega) | (simp; done) | (simp; omega)) rfl ?_ | refine vcStore1_2 _ _ .here rfl (by first | omega | (simp only [Bs_length]; omega) | (simp; done) | (simp; omega)) rfl ?_ | refine vcStore1_0 _ _ .here rfl (by first | omega | (simp only [Bs_length]; omega) | (simp; done) | (simp; omega)) rfl ?_ | refine vcStore1_1 _ _ (.there .here) rfl (by first | omega | (simp only [Bs_length]; omega) | (simp; done) | (simp; omega)) rfl ?_ | refine vcStore1_2 _ _ (.there .here) rfl (by first | omega | (simp only [Bs_length]; omega) | (simp; done) | (simp; omega)) rfl ?_ | refine vcStore1_0 _ _ (.there .here) rfl (by first | omega | (simp only [Bs_length]; omega) | (simp; done) | (simp; omega)) rfl ?_ | refine vcStore1_1 _ _ (.there (.there .here)) rfl (by first | omega | (simp only [Bs_length]; omega) | (simp; done) | (simp; omega)) rfl ?_ | refine vcStore1_2 _ _ (.there (.there .here)) rfl (by first | omega | (simp only [Bs_length]; omega) | (simp; done) | (simp; omega)) rfl ?_ | refine vcStore1_0 _ _ (.there (.there .here)) rfl (by first | omega | (simp only [Bs_length]; omega) | (simp; done) | (simp; omega)) rfl ?_ | refine vcStore1_1 _ _ (.there (.there (.there .here))) rfl (by first | omega | (simp only [Bs_length]; omega) | (simp; done) | (simp; omega)) rfl ?_ | refine vcStore1_2 _ _ (.there (.there (.there .here))) rfl (by first | omega | (simp only [Bs_length]; omega) | (simp; done) | (simp; omega)) rfl ?_ | refine vcStore1_0 _ _ (.there (.there (.there .here))) rfl (by first | omega | (simp only [Bs_length]; omega) | (simp; done) | (simp; omega)) rfl ?_ | refine vcStore1_1 _ _ (.there (.there (.there (.there .here)))) rfl (by first | omega | (simp only [Bs_length]; omega) | (simp; done) | (simp; omega)) rfl ?_ | refine vcStore1_2 _ _ (.there (.there (.there (.there .here)))) rfl (by first | omega | (simp only [Bs_length]; omega) | (simp; done) | (simp; omega)) rfl ?_ | refine vcStore1_0 _ _ (.there (.there (.there (.there .here)))) rfl (by first | omega | (simp only [Bs_length]; omega) | (simp; done) | (simp; omega)) rfl ?_ | refine vcStore1_1 _ _ (.there (.there (.there (.there (.there .here))))) rfl (by first | omega | (simp only [Bs_length]; omega) | (simp; done) | (simp; omega)) rfl ?_ | refine vcStore1_2 _ _ (.there (.there (.there (.there (.there .here))))) rfl (by first | omega | (simp only [Bs_length]; omega) | (simp; done) | (simp; omega)) rfl ?_ | refine vcStore1_0 _ _ (.there (.there (.there (.there (.there .here))))) rfl (by first | omega | (simp only [Bs_length]; omega) | (simp; done) | (simp; omega)) rfl ?_))
  intro b
  refine ⟨_, [], MT, .cons .here .nil, fun _ _ _ => trivial, OwnB_lit (cs := [byteI (n / 2 ^ 24), byteI (n / 2 ^ 16), byteI (n / 2 ^ 8), byteI n]) ?_ (by simp) rfl⟩
  rw [byteI_shr, byteI_shr, byteI_shr, byteI_nat]; rfl
theorem long_spec (A : Option Addr) (c : Nat) (n : Nat) (G : Mp) : Spec Try.prog 46 #[.slice A n c] [] G (Ret (.bool (decide (255 < n)))) := by
  refine Spec.intro (args := [_]) wide Try.func46 rfl Try.call46 (by rfl) (by rfl) (fun w0 hw0 => ?_)
  refine ⟨[], _, MT, .nil, fun _ _ _ => trivial, ?_, rfl, rfl⟩
  exact congrArg Value.bool (decide_eq_decide.2 (by omega))
theorem short_spec (A : Option Addr) (c : Nat) (xs : List UInt8) (G : Mp) (h1 : Ent G (RowAt A (Bs xs))) (hx : xs.length ≤ 70368744177664) : Spec Try.prog 65 #[.slice A xs.length c] [] G (OwnB (txt xs)) := by
  refine Spec.intro (args := [_]) wide Try.func65 rfl Try.call65 (by rfl) (by rfl) (fun w0 hw0 => ?_)
  repeat' (first | (first | refine vcFit_i64 (by omega) ?_ | refine vcFit_byte ?_ | refine vcFit_u64_in (by omega) ?_ | refine vcRem_pos (by omega) ?_ | refine vcQuo_i64 (by omega) ?_ | refine vcShr_nat (n := _) (by decide) ?_) | (first | refine vcIf_yes (by omega) ?_ | refine vcIf_no (by omega) ?_ | refine vcIf_nyes (by omega) ?_ | refine vcIf_nno (by omega) ?_ | refine vcIf_dec (fun _ => ?_) (fun _ => ?_) | refine vcIf_ndec (fun _ => ?_) (fun _ => ?_)) | (first | refine vcIdx_some _ (by first | exact rfl | exact (Int.natCast_add _ 1).symm | exact (Int.toNat_of_nonneg (by omega)).symm) (by omega) ?_ | (refine vcIdx_nat _ (by first | exact rfl | exact (Int.natCast_add _ 1).symm | exact (Int.toNat_of_nonneg (by omega)).symm) (by first | exact Ent.refl | assumption | exact Ent.gnG (by assumption) | exact Ent.gnG (Ent.gnG (by assumption)) | exact (Ent.gnO .here (fun w hw => Ob.sl_at hw)) | exact (Ent.gnO .here (fun w hw => Ob.row_at hw)) | exact (Ent.gnO (.there .here) (fun w hw => Ob.sl_at hw)) | exact (Ent.gnO (.there .here) (fun w hw => Ob.row_at hw)) | exact (Ent.gnO (.there (.there .here)) (fun w hw => Ob.sl_at hw)) | exact (Ent.gnO (.there (.there .here)) (fun w hw => Ob.row_at hw)) | exact (Ent.gnO (.there (.there (.there .here))) (fun w hw => Ob.sl_at hw)) | exact (Ent.gnO (.there (.there (.there .here))) (fun w hw => Ob.row_at hw)) | exact (Ent.gnO (.there (.there (.there (.there .here)))) (fun w hw => Ob.sl_at hw)) | exact (Ent.gnO (.there (.there (.there (.there .here)))) (fun w hw => Ob.row_at hw)) | exact (Ent.gnO (.there (.there (.there (.there (.there .here))))) (fun w hw => Ob.sl_at hw)) | exact (Ent.gnO (.there (.there (.there (.there (.there .here))))) (fun w hw => Ob.row_at hw))) (by omega) (by first | omega | (simp only [Bs_length]; omega) | (simp; done) | (simp; omega)) (fun a ha => ?_); cases ha)) | (first | refine vcLoad1_row (by first | exact Ent.refl | assumption | exact Ent.gnG (by assumption) | exact Ent.gnG (Ent.gnG (by assumption)) | exact (Ent.gnO .here (fun w hw => Ob.sl_at hw)) | exact (Ent.gnO .here (fun w hw => Ob.row_at hw)) | exact (Ent.gnO (.there .here) (fun w hw => Ob.sl_at hw)) | exact (Ent.gnO (.there .here) (fun w hw => Ob.row_at hw)) | exact (Ent.gnO (.there (.there .here)) (fun w hw => Ob.sl_at hw)) | exact (Ent.gnO (.there (.there .here)) (fun w hw => Ob.row_at hw)) | exact (Ent.gnO (.there (.there (.there .here))) (fun w hw => Ob.sl_at hw)) | exact (Ent.gnO (.there (.there (.there .here))) (fun w hw => Ob.row_at hw)) | exact (Ent.gnO (.there (.there (.there (.there .here)))) (fun w hw => Ob.sl_at hw)) | exact (Ent.gnO (.there (.there (.there (.there .here)))) (fun w hw => Ob.row_at hw)) | exact (Ent.gnO (.there (.there (.there (.there (.there .here))))) (fun w hw => Ob.sl_at hw)) | exact (Ent.gnO (.there (.there (.there (.there (.there .here))))) (fun w hw => Ob.row_at hw))) (by first | rfl | exact Bs_get (by omega) | assumption) ?_ | refine vcLoad1_2 (by first | exact Ent.refl | assumption | exact Ent.gnG (by assumption) | exact Ent.gnG (Ent.gnG (by assumption)) | exact (Ent.gnO .here (fun w hw => Ob.sl_at hw)) | exact (Ent.gnO .here (fun w hw => Ob.row_at hw)) | exact (Ent.gnO (.there .here) (fun w hw => Ob.sl_at hw)) | exact (Ent.gnO (.there .here) (fun w hw => Ob.row_at hw)) | exact (Ent.gnO (.there (.there .here)) (fun w hw => Ob.sl_at hw)) | exact (Ent.gnO (.there (.there .here)) (fun w hw => Ob.row_at hw)) | exact (Ent.gnO (.there (.there (.there .here))) (fun w hw => Ob.sl_at hw)) | exact (Ent.gnO (.there (.there (.there .here))) (fun w hw => Ob.row_at hw)) | exact (Ent.gnO (.there (.there (.there (.there .here)))) (fun w hw => Ob.sl_at hw)) | exact (Ent.gnO (.there (.there (.there (.there .here)))) (fun w hw => Ob.row_at hw)) | exact (Ent.gnO (.there (.there (.there (.there (.there .here))))) (fun w hw => Ob.sl_at hw)) | exact (Ent.gnO (.there (.there (.there (.there (.there .here))))) (fun w hw => Ob.row_at hw))) (by first | rfl | exact Bs_get (by omega) | assumption) ?_ | refine vcLoad1_3 (by first | exact Ent.refl | assumption | exact Ent.gnG (by assumption) | exact Ent.gnG (Ent.gnG (by assumption)) | exact (Ent.gnO .here (fun w hw => Ob.sl_at hw)) | exact (Ent.gnO .here (fun w hw => Ob.row_at hw)) | exact (Ent.gnO (.there .here) (fun w hw => Ob.sl_at hw)) | exact (Ent.gnO (.there .here) (fun w hw => Ob.row_at hw)) | exact (Ent.gnO (.there (.there .here)) (fun w hw => Ob.sl_at hw)) | exact (Ent.gnO (.there (.there .here)) (fun w hw => Ob.row_at hw)) | exact (Ent.gnO (.there (.there (.there .here))) (fun w hw => Ob.sl_at hw)) | exact (Ent.gnO (.there (.there (.there .here))) (fun w hw => Ob.row_at hw)) | exact (Ent.gnO (.there (.there (.there (.there .here)))) (fun w hw => Ob.sl_at hw)) | exact (Ent.gnO (.there (.there (.there (.there .here)))) (fun w hw => Ob.row_at hw)) | exact (Ent.gnO (.there (.there (.there (.there (.there .here))))) (fun w hw => Ob.sl_at hw)) | exact (Ent.gnO (.there (.there (.there (.there (.there .here))))) (fun w hw => Ob.row_at hw))) (by first | rfl | exact Bs_get (by omega) | assumption) ?_ | refine vcLoad1_0 (by first | exact Ent.refl | assumption | exact Ent.gnG (by assumption) | exact Ent.gnG (Ent.gnG (by assumption)) | exact (Ent.gnO .here (fun w hw => Ob.sl_at hw)) | exact (Ent.gnO .here (fun w hw => Ob.row_at hw)) | exact (Ent.gnO (.there .here) (fun w hw => Ob.sl_at hw)) | exact (Ent.gnO (.there .here) (fun w hw => Ob.row_at hw)) | exact (Ent.gnO (.there (.there .here)) (fun w hw => Ob.sl_at hw)) | exact (Ent.gnO (.there (.there .here)) (fun w hw => Ob.row_at hw)) | exact (Ent.gnO (.there (.there (.there .here))) (fun w hw => Ob.sl_at hw)) | exact (Ent.gnO (.there (.there (.there .here))) (fun w hw => Ob.row_at hw)) | exact (Ent.gnO (.there (.there (.there (.there .here)))) (fun w hw => Ob.sl_at hw)) | exact (Ent.gnO (.there (.there (.there (.there .here)))) (fun w hw => Ob.row_at hw)) | exact (Ent.gnO (.there (.there (.there (.there (.there .here))))) (fun w hw => Ob.sl_at hw)) | exact (Ent.gnO (.there (.there (.there (.there (.there .here))))) (fun w hw => Ob.row_at hw))) (by first | rfl | exact Bs_get (by omega) | assumption) ?_) | (first | refine vcStore1_1 _ _ .here rfl (by first | omega | (simp only [Bs_length]; omega) | (simp; done) | (simp; omega)) rfl ?_ | refine vcStore1_2 _ _ .here rfl (by first | omega | (simp only [Bs_length]; omega) | (simp; done) | (simp; omega)) rfl ?_ | refine vcStore1_0 _ _ .here rfl (by first | omega | (simp only [Bs_length]; omega) | (simp; done) | (simp; omega)) rfl ?_ | refine vcStore1_1 _ _ (.there .here) rfl (by first | omega | (simp only [Bs_length]; omega) | (simp; done) | (simp; omega)) rfl ?_ | refine vcStore1_2 _ _ (.there .here) rfl (by first | omega | (simp only [Bs_length]; omega) | (simp; done) | (simp; omega)) rfl ?_ | refine vcStore1_0 _ _ (.there .here) rfl (by first | omega | (simp only [Bs_length]; omega) | (simp; done) | (simp; omega)) rfl ?_ | refine vcStore1_1 _ _ (.there (.there .here)) rfl (by first | omega | (simp only [Bs_length]; omega) | (simp; done) | (simp; omega)) rfl ?_ | refine vcStore1_2 _ _ (.there (.there .here)) rfl (by first | omega | (simp only [Bs_length]; omega) | (simp; done) | (simp; omega)) rfl ?_ | refine vcStore1_0 _ _ (.there (.there .here)) rfl (by first | omega | (simp only [Bs_length]; omega) | (simp; done) | (simp; omega)) rfl ?_ | refine vcStore1_1 _ _ (.there (.there (.there .here))) rfl (by first | omega | (simp only [Bs_length]; omega) | (simp; done) | (simp; omega)) rfl ?_ | refine vcStore1_2 _ _ (.there (.there (.there .here))) rfl (by first | omega | (simp only [Bs_length]; omega) | (simp; done) | (simp; omega)) rfl ?_ | refine vcStore1_0 _ _ (.there (.there (.there .here))) rfl (by first | omega | (simp only [Bs_length]; omega) | (simp; done) | (simp; omega)) rfl ?_ | refine vcStore1_1 _ _ (.there (.there (.there (.there .here)))) rfl (by first | omega | (simp only [Bs_length]; omega) | (simp; done) | (simp; omega)) rfl ?_ | refine vcStore1_2 _ _ (.there (.there (.there (.there .here)))) rfl (by first | omega | (simp only [Bs_length]; omega) | (simp; done) | (simp; omega)) rfl ?_ | refine vcStore1_0 _ _ (.there (.there (.there (.there .here)))) rfl (by first | omega | (simp only [Bs_length]; omega) | (simp; done) | (simp; omega)) rfl ?_ | refine vcStore1_1 _ _ (.there (.there (.there (.there (.there .here))))) rfl (by first | omega | (simp only [Bs_length]; omega) | (simp; done) | (simp; omega)) rfl ?_ | refine vcStore1_2 _ _ (.there (.there (.there (.there (.there .here))))) rfl (by first | omega | (simp only [Bs_length]; omega) | (simp; done) | (simp; omega)) rfl ?_ | refine vcStore1_0 _ _ (.there (.there (.there (.there (.there .here))))) rfl (by first | omega | (simp only [Bs_length]; omega) | (simp; done) | (simp; omega)) rfl ?_))
  intro b
  refine vcApp_of (Bs [byteI xs.length]) _ (Bs xs) .here rfl (by simp [Bs_length]) (by omega) (Bs_one xs) (Ent.gnG h1) (by omega) (by omega) (fun A' cap' hc => ?_)
  refine ⟨_, [], MT, .cons .here .nil, fun _ _ _ => trivial, A', cap', ?_, ?_, rfl, ?_⟩
  · show Value.slice A' (1 + xs.length) cap' = _; rw [Nat.add_comm]; rfl
  · rw [← Bs_append, byteI_nat]; rfl
  · simp [txt]; omega
end Go.Proofs.Ytnhkeghahiedfaa
end

section
/- The digest of several pieces. -/
namespace Go.Proofs.Ytnhkeghahiedfaa
open Go.Proofs
set_option maxRecDepth 10000

theorem be8_get (a k : Nat) (hk : k < 8) : (be 8 a)[k]? = some (UInt8.ofNat (a / 2 ^ (56 - 8 * k) % 256)) := by
  match k, hk with
  | 0, _ => simp [be, Nat.div_div_eq_div_mul]
  | 1, _ => simp [be, Nat.div_div_eq_div_mul]
  | 2, _ => simp [be, Nat.div_div_eq_div_mul]
  | 3, _ => simp [be, Nat.div_div_eq_div_mul]
  | 4, _ => simp [be, Nat.div_div_eq_div_mul]
  | 5, _ => simp [be, Nat.div_div_eq_div_mul]
  | 6, _ => simp [be, Nat.div_div_eq_div_mul]
  | 7, _ => simp [be]
def outK (L M : List UInt8) (k : Nat) : List UInt8 := L.take k ++ List.replicate (8 - k) 0 ++ (M.take k ++ List.replicate (8 - k) 0)
theorem outK_length (L M : List UInt8) (hL : L.length = 8) (hM : M.length = 8) (k : Nat) (hk : k ≤ 8) : (outK L M k).length = 16 := by simp [outK, hL, hM]; omega
theorem list8 {L : List UInt8} (h : L.length = 8) : ∃ a b c d e f g i, L = [a, b, c, d, e, f, g, i] := by
  match L, h with
  | [a, b, c, d, e, f, g, i], _ => exact ⟨a, b, c, d, e, f, g, i, rfl⟩
theorem outK_step {L M : List UInt8} (hL : L.length = 8) (hM : M.length = 8) (k : Nat) (hk : k < 8) (x y : UInt8) (hx : L[k]? = some x) (hy : M[k]? = some y) : ((outK L M k).set k x).set (8 + k) y = outK L M (k + 1) := by
  obtain ⟨a, b, c, d, e, f, g, i, rfl⟩ := list8 hL
  obtain ⟨a', b', c', d', e', f', g', i', rfl⟩ := list8 hM
  match k, hk with
  | 0, _ | 1, _ | 2, _ | 3, _ | 4, _ | 5, _ | 6, _ | 7, _ => cases hx; cases hy; rfl
theorem Bs_set (l : List UInt8) (k : Nat) (x : UInt8) : (Bs l).set k (.int .u8 x.toNat) = Bs (l.set k x) := by
  simp only [Bs, List.map_set]; rfl

theorem begin_spec (G : Mp) : Spec Try.prog 70 #[] [] G (Ret (.agg (stV seed0).toArray)) := by
  refine Spec.intro (args := []) wide Try.func70 rfl Try.call70 (by rfl) (by rfl) (fun w0 hw0 => ?_)
  intro b
  refine ⟨rfl, vcStoreN_row _ .here rfl (by decide) ?_⟩
  refine vcLoadN_0 (Ent.gnO .here (fun w hw => Ob.row_at hw)) rfl ?_
  exact ⟨[], _, MT, .nil, fun _ _ _ => trivial, rfl, rfl, rfl⟩

theorem of_spec (A : Option Addr) (c : Nat) (ps : List Piece) (G : Mp) (h1 : Ent G (RowAt A (ps.map pieceV))) (h2 : ∀ p ∈ ps, Ent G (RowAt p.1 (Bs p.2.2))) (hb : (pieces ps).length ≤ 4611686018427387904) (hl : ps.length ≤ 4611686018427387904) :
    Spec Try.prog 63 #[.slice A ps.length c] [] G (Ret (.agg (Bs (dig (pieces ps))).toArray)) := by
  refine Spec.intro (args := [_]) wide Try.func63 rfl Try.call63 (by rfl) (by rfl) (fun w0 hw0 => ?_)
  intro bo
  refine vcCall_of .nil (begin_spec _) (fun v own' N' hv => ?_); obtain ⟨rfl, rfl, rfl⟩ := hv
  intro bst
  refine ⟨rfl, vcStoreN_row _ .here rfl (by decide) ?_⟩
  refine vcLoop_of (fun k : Nat => ps.length - k) (fun k => [(2, .pointer (some ⟨bo, 0, none⟩)), (3, .pointer (some ⟨bst, 0, none⟩)), (9, .slice A ps.length c), (10, .int .i64 ps.length), (11, .int .i64 k), (4, .int .i64 (pieces (ps.take k)).length)])
    (fun k => [.row bst 107 (stV (mixL seed0 (pieces (ps.take k)))) 2, .row bo 82 (Bs (List.replicate 16 0)) 16]) (fun _ => MT) (fun k => k ≤ ps.length) 0 (Nat.zero_le _)
    ⟨rfl, rfl, rfl, rfl, rfl, rfl, trivial⟩ ⟨[], .cons .here (.cons .here .nil)⟩ (fun _ _ => trivial) ?_
  intro k hk
  refine vcIf_dec (fun hlt => ?_) (fun hge => ?_)
  · have hk' : k < ps.length := by omega
    have hle := pieces_le ps (k + 1)
    have hsn : pieces (ps.take (k + 1)) = pieces (ps.take k) ++ ps[k].2.2 := by rw [take_snoc_get hk']; simp only [pieces, List.flatMap_append, List.flatMap_cons, List.flatMap_nil, List.append_nil]
    rw [hsn, List.length_append] at hle
    have hbits := mixL_lt seed0 seed0_lt (pieces (ps.take k))
    refine vcIdx_nat k rfl (Ent.gnG h1) hk' (by simp) (fun a ha => ?_)
    subst ha
    refine vcLoad1_row (v := pieceV ps[k]) (Ent.gnG h1) (by simp [hk']) ?_
    refine vcCall_of (.cons .here .nil) (add_spec bst _ hbits ps[k].1 ps[k].2.1 ps[k].2.2 _ (Ent.gnG (h2 _ (List.getElem_mem _))) (by omega)) (fun v own' N' hv => ?_)
    obtain ⟨rfl, rfl, rfl⟩ := hv
    refine vcFit_i64 (by omega) ?_
    refine vcFit_i64 (by omega) ?_
    refine ⟨k + 1, by omega, by omega, ⟨rfl, rfl, rfl, rfl, rfl, ?_, trivial⟩, ⟨[], .cons ?_ (.cons .here .nil)⟩, fun _ _ => trivial⟩
    · rw [hsn, List.length_append]; rfl
    · rw [hsn, mixL_append]; exact .here
  · have hk' : k = ps.length := by omega
    subst hk'
    rw [List.take_length]
    generalize hn : pieces ps = l at hb ⊢
    repeat' (first | (first | refine vcFit_i64 (by omega) ?_ | refine vcFit_byte ?_ | refine vcFit_u64_in (by omega) ?_ | refine vcRem_pos (by omega) ?_ | refine vcQuo_i64 (by omega) ?_ | refine vcShr_nat (n := _) (by decide) ?_) | (first | refine vcIf_yes (by omega) ?_ | refine vcIf_no (by omega) ?_ | refine vcIf_nyes (by omega) ?_ | refine vcIf_nno (by omega) ?_ | refine vcIf_dec (fun _ => ?_) (fun _ => ?_) | refine vcIf_ndec (fun _ => ?_) (fun _ => ?_)) | (first | refine vcIdx_some _ (by first | exact rfl | exact (Int.natCast_add _ 1).symm | exact (Int.toNat_of_nonneg (by omega)).symm) (by omega) ?_ | (refine vcIdx_nat _ (by first | exact rfl | exact (Int.natCast_add _ 1).symm | exact (Int.toNat_of_nonneg (by omega)).symm) (by first | exact Ent.refl | assumption | exact Ent.gnG (by assumption) | exact Ent.gnG (Ent.gnG (by assumption)) | exact (Ent.gnO .here (fun w hw => Ob.sl_at hw)) | exact (Ent.gnO .here (fun w hw => Ob.row_at hw)) | exact (Ent.gnO (.there .here) (fun w hw => Ob.sl_at hw)) | exact (Ent.gnO (.there .here) (fun w hw => Ob.row_at hw)) | exact (Ent.gnO (.there (.there .here)) (fun w hw => Ob.sl_at hw)) | exact (Ent.gnO (.there (.there .here)) (fun w hw => Ob.row_at hw)) | exact (Ent.gnO (.there (.there (.there .here))) (fun w hw => Ob.sl_at hw)) | exact (Ent.gnO (.there (.there (.there .here))) (fun w hw => Ob.row_at hw)) | exact (Ent.gnO (.there (.there (.there (.there .here)))) (fun w hw => Ob.sl_at hw)) | exact (Ent.gnO (.there (.there (.there (.there .here)))) (fun w hw => Ob.row_at hw)) | exact (Ent.gnO (.there (.there (.there (.there (.there .here))))) (fun w hw => Ob.sl_at hw)) | exact (Ent.gnO (.there (.there (.there (.there (.there .here))))) (fun w hw => Ob.row_at hw))) (by omega) (by first | omega | (simp only [Bs_length]; omega) | (simp; done) | (simp; omega)) (fun a ha => ?_); cases ha)) | (first | refine vcLoad1_row (by first | exact Ent.refl | assumption | exact Ent.gnG (by assumption) | exact Ent.gnG (Ent.gnG (by assumption)) | exact (Ent.gnO .here (fun w hw => Ob.sl_at hw)) | exact (Ent.gnO .here (fun w hw => Ob.row_at hw)) | exact (Ent.gnO (.there .here) (fun w hw => Ob.sl_at hw)) | exact (Ent.gnO (.there .here) (fun w hw => Ob.row_at hw)) | exact (Ent.gnO (.there (.there .here)) (fun w hw => Ob.sl_at hw)) | exact (Ent.gnO (.there (.there .here)) (fun w hw => Ob.row_at hw)) | exact (Ent.gnO (.there (.there (.there .here))) (fun w hw => Ob.sl_at hw)) | exact (Ent.gnO (.there (.there (.there .here))) (fun w hw => Ob.row_at hw)) | exact (Ent.gnO (.there (.there (.there (.there .here)))) (fun w hw => Ob.sl_at hw)) | exact (Ent.gnO (.there (.there (.there (.there .here)))) (fun w hw => Ob.row_at hw)) | exact (Ent.gnO (.there (.there (.there (.there (.there .here))))) (fun w hw => Ob.sl_at hw)) | exact (Ent.gnO (.there (.there (.there (.there (.there .here))))) (fun w hw => Ob.row_at hw))) (by first | rfl | exact Bs_get (by omega) | assumption) ?_ | refine vcLoad1_2 (by first | exact Ent.refl | assumption | exact Ent.gnG (by assumption) | exact Ent.gnG (Ent.gnG (by assumption)) | exact (Ent.gnO .here (fun w hw => Ob.sl_at hw)) | exact (Ent.gnO .here (fun w hw => Ob.row_at hw)) | exact (Ent.gnO (.there .here) (fun w hw => Ob.sl_at hw)) | exact (Ent.gnO (.there .here) (fun w hw => Ob.row_at hw)) | exact (Ent.gnO (.there (.there .here)) (fun w hw => Ob.sl_at hw)) | exact (Ent.gnO (.there (.there .here)) (fun w hw => Ob.row_at hw)) | exact (Ent.gnO (.there (.there (.there .here))) (fun w hw => Ob.sl_at hw)) | exact (Ent.gnO (.there (.there (.there .here))) (fun w hw => Ob.row_at hw)) | exact (Ent.gnO (.there (.there (.there (.there .here)))) (fun w hw => Ob.sl_at hw)) | exact (Ent.gnO (.there (.there (.there (.there .here)))) (fun w hw => Ob.row_at hw)) | exact (Ent.gnO (.there (.there (.there (.there (.there .here))))) (fun w hw => Ob.sl_at hw)) | exact (Ent.gnO (.there (.there (.there (.there (.there .here))))) (fun w hw => Ob.row_at hw))) (by first | rfl | exact Bs_get (by omega) | assumption) ?_ | refine vcLoad1_3 (by first | exact Ent.refl | assumption | exact Ent.gnG (by assumption) | exact Ent.gnG (Ent.gnG (by assumption)) | exact (Ent.gnO .here (fun w hw => Ob.sl_at hw)) | exact (Ent.gnO .here (fun w hw => Ob.row_at hw)) | exact (Ent.gnO (.there .here) (fun w hw => Ob.sl_at hw)) | exact (Ent.gnO (.there .here) (fun w hw => Ob.row_at hw)) | exact (Ent.gnO (.there (.there .here)) (fun w hw => Ob.sl_at hw)) | exact (Ent.gnO (.there (.there .here)) (fun w hw => Ob.row_at hw)) | exact (Ent.gnO (.there (.there (.there .here))) (fun w hw => Ob.sl_at hw)) | exact (Ent.gnO (.there (.there (.there .here))) (fun w hw => Ob.row_at hw)) | exact (Ent.gnO (.there (.there (.there (.there .here)))) (fun w hw => Ob.sl_at hw)) | exact (Ent.gnO (.there (.there (.there (.there .here)))) (fun w hw => Ob.row_at hw)) | exact (Ent.gnO (.there (.there (.there (.there (.there .here))))) (fun w hw => Ob.sl_at hw)) | exact (Ent.gnO (.there (.there (.there (.there (.there .here))))) (fun w hw => Ob.row_at hw))) (by first | rfl | exact Bs_get (by omega) | assumption) ?_ | refine vcLoad1_0 (by first | exact Ent.refl | assumption | exact Ent.gnG (by assumption) | exact Ent.gnG (Ent.gnG (by assumption)) | exact (Ent.gnO .here (fun w hw => Ob.sl_at hw)) | exact (Ent.gnO .here (fun w hw => Ob.row_at hw)) | exact (Ent.gnO (.there .here) (fun w hw => Ob.sl_at hw)) | exact (Ent.gnO (.there .here) (fun w hw => Ob.row_at hw)) | exact (Ent.gnO (.there (.there .here)) (fun w hw => Ob.sl_at hw)) | exact (Ent.gnO (.there (.there .here)) (fun w hw => Ob.row_at hw)) | exact (Ent.gnO (.there (.there (.there .here))) (fun w hw => Ob.sl_at hw)) | exact (Ent.gnO (.there (.there (.there .here))) (fun w hw => Ob.row_at hw)) | exact (Ent.gnO (.there (.there (.there (.there .here)))) (fun w hw => Ob.sl_at hw)) | exact (Ent.gnO (.there (.there (.there (.there .here)))) (fun w hw => Ob.row_at hw)) | exact (Ent.gnO (.there (.there (.there (.there (.there .here))))) (fun w hw => Ob.sl_at hw)) | exact (Ent.gnO (.there (.there (.there (.there (.there .here))))) (fun w hw => Ob.row_at hw))) (by first | rfl | exact Bs_get (by omega) | assumption) ?_) | (first | refine vcStore1_1 _ _ .here rfl (by first | omega | (simp only [Bs_length]; omega) | (simp; done) | (simp; omega)) rfl ?_ | refine vcStore1_2 _ _ .here rfl (by first | omega | (simp only [Bs_length]; omega) | (simp; done) | (simp; omega)) rfl ?_ | refine vcStore1_0 _ _ .here rfl (by first | omega | (simp only [Bs_length]; omega) | (simp; done) | (simp; omega)) rfl ?_ | refine vcStore1_1 _ _ (.there .here) rfl (by first | omega | (simp only [Bs_length]; omega) | (simp; done) | (simp; omega)) rfl ?_ | refine vcStore1_2 _ _ (.there .here) rfl (by first | omega | (simp only [Bs_length]; omega) | (simp; done) | (simp; omega)) rfl ?_ | refine vcStore1_0 _ _ (.there .here) rfl (by first | omega | (simp only [Bs_length]; omega) | (simp; done) | (simp; omega)) rfl ?_ | refine vcStore1_1 _ _ (.there (.there .here)) rfl (by first | omega | (simp only [Bs_length]; omega) | (simp; done) | (simp; omega)) rfl ?_ | refine vcStore1_2 _ _ (.there (.there .here)) rfl (by first | omega | (simp only [Bs_length]; omega) | (simp; done) | (simp; omega)) rfl ?_ | refine vcStore1_0 _ _ (.there (.there .here)) rfl (by first | omega | (simp only [Bs_length]; omega) | (simp; done) | (simp; omega)) rfl ?_ | refine vcStore1_1 _ _ (.there (.there (.there .here))) rfl (by first | omega | (simp only [Bs_length]; omega) | (simp; done) | (simp; omega)) rfl ?_ | refine vcStore1_2 _ _ (.there (.there (.there .here))) rfl (by first | omega | (simp only [Bs_length]; omega) | (simp; done) | (simp; omega)) rfl ?_ | refine vcStore1_0 _ _ (.there (.there (.there .here))) rfl (by first | omega | (simp only [Bs_length]; omega) | (simp; done) | (simp; omega)) rfl ?_ | refine vcStore1_1 _ _ (.there (.there (.there (.there .here)))) rfl (by first | omega | (simp only [Bs_length]; omega) | (simp; done) | (simp; omega)) rfl ?_ | refine vcStore1_2 _ _ (.there (.there (.there (.there .here)))) rfl (by first | omega | (simp only [Bs_length]; omega) | (simp; done) | (simp; omega)) rfl ?_ | refine vcStore1_0 _ _ (.there (.there (.there (.there .here)))) rfl (by first | omega | (simp only [Bs_length]; omega) | (simp; done) | (simp; omega)) rfl ?_ | refine vcStore1_1 _ _ (.there (.there (.there (.there (.there .here))))) rfl (by first | omega | (simp only [Bs_length]; omega) | (simp; done) | (simp; omega)) rfl ?_ | refine vcStore1_2 _ _ (.there (.there (.there (.there (.there .here))))) rfl (by first | omega | (simp only [Bs_length]; omega) | (simp; done) | (simp; omega)) rfl ?_ | refine vcStore1_0 _ _ (.there (.there (.there (.there (.there .here))))) rfl (by first | omega | (simp only [Bs_length]; omega) | (simp; done) | (simp; omega)) rfl ?_))
    intro bt
    have hbits := mixL_lt seed0 seed0_lt l
    have htail : [byteI l.length, byteI ((l.length : Int) / 2 ^ 8), byteI ((l.length : Int) / 2 ^ 16), byteI ((l.length : Int) / 2 ^ 24)] = le4 l.length := by
      rw [byteI_shr, byteI_shr, byteI_shr, byteI_nat]; rfl
    refine vcCall_of (.cons (.there .here) .nil) (add_spec bst _ hbits (some ⟨bt, 0, none⟩) 4 [byteI l.length, byteI ((l.length : Int) / 2 ^ 8), byteI ((l.length : Int) / 2 ^ 16), byteI ((l.length : Int) / 2 ^ 24)] _ (Ent.gnO .here (fun w hw => Ob.sl_at hw)) (by simp)) (fun v own' N' hv => ?_)
    obtain ⟨rfl, rfl, rfl⟩ := hv
    rw [htail, ← mixL_append]
    generalize hs : mixL seed0 (l ++ le4 l.length) = s
    have hd : dig l = be 8 s.1 ++ be 8 s.2 := by unfold dig; rw [hs]
    refine vcLoop_of (fun k : Nat => 8 - k) (fun k => [(2, .pointer (some ⟨bo, 0, none⟩)), (3, .pointer (some ⟨bst, 0, none⟩)), (35, .int .i64 k)])
      (fun k => [.row bst 107 (stV s) 2, .row bo 82 (Bs (outK (be 8 s.1) (be 8 s.2) k)) 16]) (fun _ => MT) (fun k => k ≤ 8) 0 (Nat.zero_le _)
      ⟨rfl, rfl, rfl, trivial⟩ ⟨_, .cons .here (.cons (.there .here) .nil)⟩ (fun _ _ => trivial) ?_
    intro k hk
    have hol := outK_length (be 8 s.1) (be 8 s.2) (be_length _ _) (be_length _ _) k hk
    refine vcIf_dec (fun hlt => ?_) (fun hge => ?_)
    · have hk' : k < 8 := by omega
      have e1 : (56 : Int) - 8 * k = ((56 - 8 * k : Nat) : Int) := by omega
      have e2 : (8 : Int) + k = ((8 + k : Nat) : Int) := by omega
      have h64 : 56 - 8 * k ≤ IntKind.u64.bits := by show _ ≤ 64; omega
      refine vcLoad1_row (by first | exact Ent.refl | assumption | exact Ent.gnG (by assumption) | exact Ent.gnG (Ent.gnG (by assumption)) | exact (Ent.gnO .here (fun w hw => Ob.sl_at hw)) | exact (Ent.gnO .here (fun w hw => Ob.row_at hw)) | exact (Ent.gnO (.there .here) (fun w hw => Ob.sl_at hw)) | exact (Ent.gnO (.there .here) (fun w hw => Ob.row_at hw)) | exact (Ent.gnO (.there (.there .here)) (fun w hw => Ob.sl_at hw)) | exact (Ent.gnO (.there (.there .here)) (fun w hw => Ob.row_at hw)) | exact (Ent.gnO (.there (.there (.there .here))) (fun w hw => Ob.sl_at hw)) | exact (Ent.gnO (.there (.there (.there .here))) (fun w hw => Ob.row_at hw)) | exact (Ent.gnO (.there (.there (.there (.there .here)))) (fun w hw => Ob.sl_at hw)) | exact (Ent.gnO (.there (.there (.there (.there .here)))) (fun w hw => Ob.row_at hw)) | exact (Ent.gnO (.there (.there (.there (.there (.there .here))))) (fun w hw => Ob.sl_at hw)) | exact (Ent.gnO (.there (.there (.there (.there (.there .here))))) (fun w hw => Ob.row_at hw))) rfl ?_
      refine vcFit_i64 (by omega) ?_
      refine vcFit_i64 (by omega) ?_
      rw [e1]
      refine vcShr_nat h64 ?_
      refine vcFit_byte ?_
      refine vcAt_nat k rfl (by omega) ?_
      refine vcStore1_1 _ _ (.there .here) rfl (by simp [Ob.cells, Bs_length, hol]; omega) rfl ?_
      refine vcFit_i64 (by omega) ?_
      refine vcLoad1_row (by first | exact Ent.refl | assumption | exact Ent.gnG (by assumption) | exact Ent.gnG (Ent.gnG (by assumption)) | exact (Ent.gnO .here (fun w hw => Ob.sl_at hw)) | exact (Ent.gnO .here (fun w hw => Ob.row_at hw)) | exact (Ent.gnO (.there .here) (fun w hw => Ob.sl_at hw)) | exact (Ent.gnO (.there .here) (fun w hw => Ob.row_at hw)) | exact (Ent.gnO (.there (.there .here)) (fun w hw => Ob.sl_at hw)) | exact (Ent.gnO (.there (.there .here)) (fun w hw => Ob.row_at hw)) | exact (Ent.gnO (.there (.there (.there .here))) (fun w hw => Ob.sl_at hw)) | exact (Ent.gnO (.there (.there (.there .here))) (fun w hw => Ob.row_at hw)) | exact (Ent.gnO (.there (.there (.there (.there .here)))) (fun w hw => Ob.sl_at hw)) | exact (Ent.gnO (.there (.there (.there (.there .here)))) (fun w hw => Ob.row_at hw)) | exact (Ent.gnO (.there (.there (.there (.there (.there .here))))) (fun w hw => Ob.sl_at hw)) | exact (Ent.gnO (.there (.there (.there (.there (.there .here))))) (fun w hw => Ob.row_at hw))) rfl ?_
      refine vcFit_i64 (by omega) ?_
      refine vcFit_i64 (by omega) ?_
      rw [e1]
      refine vcShr_nat h64 ?_
      refine vcFit_byte ?_
      rw [e2]
      refine vcAt_nat (8 + k) rfl (by omega) ?_
      refine vcStore1_1 _ _ .here rfl (by simp [Ob.cells, Ob.set, Bs_length, hol]; omega) rfl ?_
      refine vcFit_i64 (by omega) ?_
      refine ⟨k + 1, by omega, by omega, ⟨rfl, rfl, rfl, trivial⟩, ⟨[], .cons (.there .here) (.cons ?_ .nil)⟩, fun _ _ => trivial⟩
      have hx := be8_get s.1 k hk'
      have hy := be8_get s.2 k hk'
      rw [← outK_step (be_length _ _) (be_length _ _) k hk' _ _ hx hy, ← Bs_set, ← Bs_set, ← byteI_shr, ← byteI_shr]
      exact .here
    · have hk' : k = 8 := by omega
      subst hk'
      have hfin : outK (be 8 s.1) (be 8 s.2) 8 = dig l := by
        rw [hd]; simp [outK, be_length, List.take_of_length_le]
      rw [hfin]
      have hdl : (Bs (dig l)).length = 16 := by rw [Bs_length, dig_length]
      refine vcLoadN_0 (Ent.gnO (.there .here) (fun w hw => Ob.row_at hw)) hdl ?_
      refine ⟨hdl, vcStoreN_row _ (.there .here) rfl (Bs_one _) ?_⟩
      refine vcLoadN_0 (Ent.gnO .here (fun w hw => Ob.row_at hw)) hdl ?_
      exact ⟨[], _, MT, .nil, fun _ _ _ => trivial, rfl, rfl, rfl⟩
end Go.Proofs.Ytnhkeghahiedfaa
end

section
/- The reference's digest; Digest. -/
namespace Go.Proofs.Ytnhkeghahiedfaa
open Go.Proofs
set_option maxRecDepth 10000

theorem rrot_spec (w k : Nat) (hw : w < 18446744073709551616) (hk : k < 64) (G : Mp) : Spec Try.prog 64 #[.int .u64 w, .int .i64 k] [] G (Ret (.int .u64 (rotN w k : Nat))) := by
  refine Spec.intro (args := [_, _]) wide Try.func64 rfl Try.call64 (by rfl) (by rfl) (fun w0 hw0 => ?_)
  refine vcFit_u64_in (by omega) ?_
  refine vcShl_nat (n := k) (show k ≤ 64 by omega) ?_
  refine vcFit_u64 ?_
  refine vcFit_i64 (by omega) ?_
  refine vcFit_u64_in (by omega) ?_
  rw [show (64 : Int) - k = ((64 - k : Nat) : Int) from by omega]
  refine vcShr_nat (n := 64 - k) (show 64 - k ≤ 64 by omega) ?_
  have e1 : ((w : Int) * 2 ^ k) % 18446744073709551616 = ((w * 2 ^ k % 18446744073709551616 : Nat) : Int) := by simp
  have e2 : (w : Int) / 2 ^ (64 - k) = ((w / 2 ^ (64 - k) : Nat) : Int) := by simp
  refine vcBit_as (rotN w k : Nat) ?_ ⟨[], [], MT, .nil, fun _ _ _ => trivial, rfl, rfl, rfl⟩
  rw [e1, e2, bitI_or (by rw [max_u64]; omega) (by have := Nat.div_le_self w (2 ^ (64 - k)); rw [max_u64]; omega)]
  rfl

def outR (L M : List UInt8) (k : Nat) : List UInt8 := List.replicate (8 - k) 0 ++ L.drop (8 - k) ++ (List.replicate (8 - k) 0 ++ M.drop (8 - k))
theorem outR_length (L M : List UInt8) (hL : L.length = 8) (hM : M.length = 8) (k : Nat) (hk : k ≤ 8) : (outR L M k).length = 16 := by simp [outR, hL, hM]; omega
theorem outR_step {L M : List UInt8} (hL : L.length = 8) (hM : M.length = 8) (k : Nat) (hk : k < 8) (x y : UInt8) (hx : L[7 - k]? = some x) (hy : M[7 - k]? = some y) : ((outR L M k).set (7 - k) x).set (15 - k) y = outR L M (k + 1) := by
  obtain ⟨a, b, c, d, e, f, g, i, rfl⟩ := list8 hL
  obtain ⟨a', b', c', d', e', f', g', i', rfl⟩ := list8 hM
  match k, hk with
  | 0, _ | 1, _ | 2, _ | 3, _ | 4, _ | 5, _ | 6, _ | 7, _ => cases hx; cases hy; rfl
theorem be8_back (a k : Nat) (hk : k < 8) : (be 8 a)[7 - k]? = some (byteI ((a / 256 ^ k : Nat) : Int)) := by
  rw [be8_get a (7 - k) (by omega), byteI_nat, show 56 - 8 * (7 - k) = 8 * k from by omega, Nat.pow_mul]
theorem le4_bytes (n : Nat) : [byteI ((n : Int) % 256), byteI ((n : Int) / 256 % 256), byteI ((n : Int) / 65536 % 256), byteI ((n : Int) / 16777216 % 256)] = le4 n := by
  have h : ∀ m : Nat, byteI ((m : Int) % 256) = UInt8.ofNat (m % 256) := fun m => by
    rw [show (m : Int) % 256 = ((m % 256 : Nat) : Int) from by omega, byteI_nat, Nat.mod_mod]
  rw [h, show (n : Int) / 256 = ((n / 256 : Nat) : Int) from by omega, h, show (n : Int) / 65536 = ((n / 65536 : Nat) : Int) from by omega, h, show (n : Int) / 16777216 = ((n / 16777216 : Nat) : Int) from by omega, h]
  rfl

theorem rdig_round (s : Nat × Nat) (x : UInt8) : (mixN s x).1 = (rotN ((s.1 ^^^ x.toNat) * 1099511628211 % 18446744073709551616) 23 + s.2) % 18446744073709551616 ∧
    (mixN s x).2 = (rotN (s.2 ^^^ (mixN s x).1) 41 * 2654435761 % 18446744073709551616 + x.toNat) % 18446744073709551616 := ⟨rfl, rfl⟩

theorem rdig_spec (A : Option Addr) (c : Nat) (xs : List UInt8) (G : Mp) (h1 : Ent G (RowAt A (Bs xs))) (hx : xs.length ≤ 281474976710656) :
    Spec Try.prog 45 #[.slice A xs.length c] [] G (OwnB (dig xs)) := by
  refine Spec.intro (args := [_]) wide Try.func45 rfl Try.call45 (by rfl) (by rfl) (fun w0 hw0 => ?_)
  repeat' (first | (first | refine vcFit_i64 (by omega) ?_ | refine vcFit_byte ?_ | refine vcFit_u64_in (by omega) ?_ | refine vcRem_pos (by omega) ?_ | refine vcQuo_i64 (by omega) ?_ | refine vcShr_nat (n := _) (by decide) ?_) | (first | refine vcIf_yes (by omega) ?_ | refine vcIf_no (by omega) ?_ | refine vcIf_nyes (by omega) ?_ | refine vcIf_nno (by omega) ?_ | refine vcIf_dec (fun _ => ?_) (fun _ => ?_) | refine vcIf_ndec (fun _ => ?_) (fun _ => ?_)) | (first | refine vcIdx_some _ (by first | exact rfl | exact (Int.natCast_add _ 1).symm | exact (Int.toNat_of_nonneg (by omega)).symm) (by omega) ?_ | (refine vcIdx_nat _ (by first | exact rfl | exact (Int.natCast_add _ 1).symm | exact (Int.toNat_of_nonneg (by omega)).symm) (by first | exact Ent.refl | assumption | exact Ent.gnG (by assumption) | exact Ent.gnG (Ent.gnG (by assumption)) | exact (Ent.gnO .here (fun w hw => Ob.sl_at hw)) | exact (Ent.gnO .here (fun w hw => Ob.row_at hw)) | exact (Ent.gnO (.there .here) (fun w hw => Ob.sl_at hw)) | exact (Ent.gnO (.there .here) (fun w hw => Ob.row_at hw)) | exact (Ent.gnO (.there (.there .here)) (fun w hw => Ob.sl_at hw)) | exact (Ent.gnO (.there (.there .here)) (fun w hw => Ob.row_at hw)) | exact (Ent.gnO (.there (.there (.there .here))) (fun w hw => Ob.sl_at hw)) | exact (Ent.gnO (.there (.there (.there .here))) (fun w hw => Ob.row_at hw)) | exact (Ent.gnO (.there (.there (.there (.there .here)))) (fun w hw => Ob.sl_at hw)) | exact (Ent.gnO (.there (.there (.there (.there .here)))) (fun w hw => Ob.row_at hw)) | exact (Ent.gnO (.there (.there (.there (.there (.there .here))))) (fun w hw => Ob.sl_at hw)) | exact (Ent.gnO (.there (.there (.there (.there (.there .here))))) (fun w hw => Ob.row_at hw))) (by omega) (by first | omega | (simp only [Bs_length]; omega) | (simp; done) | (simp; omega)) (fun a ha => ?_); cases ha)) | (first | refine vcLoad1_row (by first | exact Ent.refl | assumption | exact Ent.gnG (by assumption) | exact Ent.gnG (Ent.gnG (by assumption)) | exact (Ent.gnO .here (fun w hw => Ob.sl_at hw)) | exact (Ent.gnO .here (fun w hw => Ob.row_at hw)) | exact (Ent.gnO (.there .here) (fun w hw => Ob.sl_at hw)) | exact (Ent.gnO (.there .here) (fun w hw => Ob.row_at hw)) | exact (Ent.gnO (.there (.there .here)) (fun w hw => Ob.sl_at hw)) | exact (Ent.gnO (.there (.there .here)) (fun w hw => Ob.row_at hw)) | exact (Ent.gnO (.there (.there (.there .here))) (fun w hw => Ob.sl_at hw)) | exact (Ent.gnO (.there (.there (.there .here))) (fun w hw => Ob.row_at hw)) | exact (Ent.gnO (.there (.there (.there (.there .here)))) (fun w hw => Ob.sl_at hw)) | exact (Ent.gnO (.there (.there (.there (.there .here)))) (fun w hw => Ob.row_at hw)) | exact (Ent.gnO (.there (.there (.there (.there (.there .here))))) (fun w hw => Ob.sl_at hw)) | exact (Ent.gnO (.there (.there (.there (.there (.there .here))))) (fun w hw => Ob.row_at hw))) (by first | rfl | exact Bs_get (by omega) | assumption) ?_ | refine vcLoad1_2 (by first | exact Ent.refl | assumption | exact Ent.gnG (by assumption) | exact Ent.gnG (Ent.gnG (by assumption)) | exact (Ent.gnO .here (fun w hw => Ob.sl_at hw)) | exact (Ent.gnO .here (fun w hw => Ob.row_at hw)) | exact (Ent.gnO (.there .here) (fun w hw => Ob.sl_at hw)) | exact (Ent.gnO (.there .here) (fun w hw => Ob.row_at hw)) | exact (Ent.gnO (.there (.there .here)) (fun w hw => Ob.sl_at hw)) | exact (Ent.gnO (.there (.there .here)) (fun w hw => Ob.row_at hw)) | exact (Ent.gnO (.there (.there (.there .here))) (fun w hw => Ob.sl_at hw)) | exact (Ent.gnO (.there (.there (.there .here))) (fun w hw => Ob.row_at hw)) | exact (Ent.gnO (.there (.there (.there (.there .here)))) (fun w hw => Ob.sl_at hw)) | exact (Ent.gnO (.there (.there (.there (.there .here)))) (fun w hw => Ob.row_at hw)) | exact (Ent.gnO (.there (.there (.there (.there (.there .here))))) (fun w hw => Ob.sl_at hw)) | exact (Ent.gnO (.there (.there (.there (.there (.there .here))))) (fun w hw => Ob.row_at hw))) (by first | rfl | exact Bs_get (by omega) | assumption) ?_ | refine vcLoad1_3 (by first | exact Ent.refl | assumption | exact Ent.gnG (by assumption) | exact Ent.gnG (Ent.gnG (by assumption)) | exact (Ent.gnO .here (fun w hw => Ob.sl_at hw)) | exact (Ent.gnO .here (fun w hw => Ob.row_at hw)) | exact (Ent.gnO (.there .here) (fun w hw => Ob.sl_at hw)) | exact (Ent.gnO (.there .here) (fun w hw => Ob.row_at hw)) | exact (Ent.gnO (.there (.there .here)) (fun w hw => Ob.sl_at hw)) | exact (Ent.gnO (.there (.there .here)) (fun w hw => Ob.row_at hw)) | exact (Ent.gnO (.there (.there (.there .here))) (fun w hw => Ob.sl_at hw)) | exact (Ent.gnO (.there (.there (.there .here))) (fun w hw => Ob.row_at hw)) | exact (Ent.gnO (.there (.there (.there (.there .here)))) (fun w hw => Ob.sl_at hw)) | exact (Ent.gnO (.there (.there (.there (.there .here)))) (fun w hw => Ob.row_at hw)) | exact (Ent.gnO (.there (.there (.there (.there (.there .here))))) (fun w hw => Ob.sl_at hw)) | exact (Ent.gnO (.there (.there (.there (.there (.there .here))))) (fun w hw => Ob.row_at hw))) (by first | rfl | exact Bs_get (by omega) | assumption) ?_ | refine vcLoad1_0 (by first | exact Ent.refl | assumption | exact Ent.gnG (by assumption) | exact Ent.gnG (Ent.gnG (by assumption)) | exact (Ent.gnO .here (fun w hw => Ob.sl_at hw)) | exact (Ent.gnO .here (fun w hw => Ob.row_at hw)) | exact (Ent.gnO (.there .here) (fun w hw => Ob.sl_at hw)) | exact (Ent.gnO (.there .here) (fun w hw => Ob.row_at hw)) | exact (Ent.gnO (.there (.there .here)) (fun w hw => Ob.sl_at hw)) | exact (Ent.gnO (.there (.there .here)) (fun w hw => Ob.row_at hw)) | exact (Ent.gnO (.there (.there (.there .here))) (fun w hw => Ob.sl_at hw)) | exact (Ent.gnO (.there (.there (.there .here))) (fun w hw => Ob.row_at hw)) | exact (Ent.gnO (.there (.there (.there (.there .here)))) (fun w hw => Ob.sl_at hw)) | exact (Ent.gnO (.there (.there (.there (.there .here)))) (fun w hw => Ob.row_at hw)) | exact (Ent.gnO (.there (.there (.there (.there (.there .here))))) (fun w hw => Ob.sl_at hw)) | exact (Ent.gnO (.there (.there (.there (.there (.there .here))))) (fun w hw => Ob.row_at hw))) (by first | rfl | exact Bs_get (by omega) | assumption) ?_) | (first | refine vcStore1_1 _ _ .here rfl (by first | omega | (simp only [Bs_length]; omega) | (simp; done) | (simp; omega)) rfl ?_ | refine vcStore1_2 _ _ .here rfl (by first | omega | (simp only [Bs_length]; omega) | (simp; done) | (simp; omega)) rfl ?_ | refine vcStore1_0 _ _ .here rfl (by first | omega | (simp only [Bs_length]; omega) | (simp; done) | (simp; omega)) rfl ?_ | refine vcStore1_1 _ _ (.there .here) rfl (by first | omega | (simp only [Bs_length]; omega) | (simp; done) | (simp; omega)) rfl ?_ | refine vcStore1_2 _ _ (.there .here) rfl (by first | omega | (simp only [Bs_length]; omega) | (simp; done) | (simp; omega)) rfl ?_ | refine vcStore1_0 _ _ (.there .here) rfl (by first | omega | (simp only [Bs_length]; omega) | (simp; done) | (simp; omega)) rfl ?_ | refine vcStore1_1 _ _ (.there (.there .here)) rfl (by first | omega | (simp only [Bs_length]; omega) | (simp; done) | (simp; omega)) rfl ?_ | refine vcStore1_2 _ _ (.there (.there .here)) rfl (by first | omega | (simp only [Bs_length]; omega) | (simp; done) | (simp; omega)) rfl ?_ | refine vcStore1_0 _ _ (.there (.there .here)) rfl (by first | omega | (simp only [Bs_length]; omega) | (simp; done) | (simp; omega)) rfl ?_ | refine vcStore1_1 _ _ (.there (.there (.there .here))) rfl (by first | omega | (simp only [Bs_length]; omega) | (simp; done) | (simp; omega)) rfl ?_ | refine vcStore1_2 _ _ (.there (.there (.there .here))) rfl (by first | omega | (simp only [Bs_length]; omega) | (simp; done) | (simp; omega)) rfl ?_ | refine vcStore1_0 _ _ (.there (.there (.there .here))) rfl (by first | omega | (simp only [Bs_length]; omega) | (simp; done) | (simp; omega)) rfl ?_ | refine vcStore1_1 _ _ (.there (.there (.there (.there .here)))) rfl (by first | omega | (simp only [Bs_length]; omega) | (simp; done) | (simp; omega)) rfl ?_ | refine vcStore1_2 _ _ (.there (.there (.there (.there .here)))) rfl (by first | omega | (simp only [Bs_length]; omega) | (simp; done) | (simp; omega)) rfl ?_ | refine vcStore1_0 _ _ (.there (.there (.there (.there .here)))) rfl (by first | omega | (simp only [Bs_length]; omega) | (simp; done) | (simp; omega)) rfl ?_ | refine vcStore1_1 _ _ (.there (.there (.there (.there (.there .here))))) rfl (by first | omega | (simp only [Bs_length]; omega) | (simp; done) | (simp; omega)) rfl ?_ | refine vcStore1_2 _ _ (.there (.there (.there (.there (.there .here))))) rfl (by first | omega | (simp only [Bs_length]; omega) | (simp; done) | (simp; omega)) rfl ?_ | refine vcStore1_0 _ _ (.there (.there (.there (.there (.there .here))))) rfl (by first | omega | (simp only [Bs_length]; omega) | (simp; done) | (simp; omega)) rfl ?_))
  intro bt
  have hle4 := le4_bytes xs.length
  generalize byteI ((xs.length : Int) % 256) = y0 at hle4 ⊢
  generalize byteI ((xs.length : Int) / 256 % 256) = y1 at hle4 ⊢
  generalize byteI ((xs.length : Int) / 65536 % 256) = y2 at hle4 ⊢
  generalize byteI ((xs.length : Int) / 16777216 % 256) = y3 at hle4 ⊢
  generalize hl : xs ++ le4 xs.length = l
  have hll : l.length = xs.length + 4 := by rw [← hl]; simp [le4]
  have hget : ∀ (k : Nat) (hk : k < l.length), (∀ h : k < xs.length, xs[k] = l[k]) ∧ (∀ h : xs.length ≤ k, (le4 xs.length)[k - xs.length]? = some l[k]) := by
    intro k hk
    subst hl
    refine ⟨fun h => by rw [List.getElem_append_left h], fun h => ?_⟩
    rw [List.getElem_append_right h]
    exact List.getElem?_eq_getElem _
  refine vcLoop_of (fun k : Nat => xs.length + 4 - k) (fun k => [(0, .slice A xs.length c), (3, .int .u64 (mixL seed0 (l.take k)).1), (4, .int .u64 (mixL seed0 (l.take k)).2), (5, .int .i64 xs.length), (6, .slice (some ⟨bt, 0, none⟩) 4 4), (7, .int .i64 k)])
    (fun _ => [.sl (some ⟨bt, 0, none⟩) 4 5 1 (Bs (le4 xs.length))]) (fun _ => MT) (fun k => k ≤ xs.length + 4) 0 (Nat.zero_le _)
    ⟨rfl, rfl, rfl, rfl, rfl, rfl, trivial⟩ ⟨[], .cons (by rw [← hle4]; exact .here) .nil⟩ (fun _ _ => trivial) ?_
  intro k hk
  have hs := mixL_lt seed0 seed0_lt (l.take k)
  refine vcFit_i64 (by omega) ?_
  refine vcIf_dec (fun hlt => ?_) (fun hge => ?_)
  · have hk' : k < l.length := by omega
    have hsn : mixL seed0 (l.take (k + 1)) = mixN (mixL seed0 (l.take k)) l[k] := by rw [take_snoc_get hk', mixL_snoc]
    have hg := hget k hk'
    generalize hx : l[k] = x at hg hsn
    have hxb := x.toNat_lt
    generalize mixL seed0 (l.take k) = s at hs hsn
    have e1 : Bs xs = Bs xs := rfl
    have hrd := rdig_round s x
    have hm1 := (mixN_lt (s := s) x).1
    refine vcIf_dec (fun hlt => ?_) (fun hge => ?_)
    · have hx' := hg.1 (by omega)
      refine vcIdx_nat k rfl (Ent.gnG h1) (by omega) (by rw [Bs_length]; exact Nat.le_refl _) (fun a ha => ?_)
      subst ha
      refine vcLoad1_row (Ent.gnG h1) (Bs_get (by omega)) ?_
      rw [hx']
      refine vcFit_u64_in (by omega) ?_
      refine vcBit_as _ (xor64 _ _ hs.1 (by omega)) ?_
      refine vcFit_u64 ?_
      rw [show (1099511628211 : Int) = ((1099511628211 : Nat) : Int) from rfl, mul64]
      refine vcCall_of .nil (rrot_spec _ 23 (Nat.mod_lt _ (by decide)) (by omega) _) (fun v own' N' hv => ?_); obtain ⟨rfl, rfl, rfl⟩ := hv
      refine vcFit_u64 ?_
      rw [add64, ← hrd.1]
      refine vcBit_as _ (xor64 _ _ hs.2 hm1) ?_
      refine vcCall_of .nil (rrot_spec _ 41 (xor_lt hs.2 hm1) (by omega) _) (fun v own' N' hv => ?_); obtain ⟨rfl, rfl, rfl⟩ := hv
      refine vcFit_u64 ?_
      rw [show (2654435761 : Int) = ((2654435761 : Nat) : Int) from rfl, mul64]
      refine vcFit_u64 ?_
      rw [add64, ← hrd.2]
      refine vcFit_i64 (by omega) ?_
      refine ⟨k + 1, by omega, by omega, ⟨rfl, ?_, ?_, rfl, rfl, rfl, trivial⟩, ⟨[], .cons .here .nil⟩, fun _ _ => trivial⟩
      · rw [hsn]; rfl
      · rw [hsn]; rfl
    · have hx' := hg.2 (by omega)
      refine vcFit_i64 (by omega) ?_
      refine vcIdx_some (k - xs.length) (by omega) (by omega) ?_
      refine vcLoad1_row (v := .int .u8 x.toNat) (Ent.gnO .here (fun w hw => Ob.sl_at hw)) (by simp [Bs, hx', B]) ?_
      refine vcFit_u64_in (by omega) ?_
      refine vcBit_as _ (xor64 _ _ hs.1 (by omega)) ?_
      refine vcFit_u64 ?_
      rw [show (1099511628211 : Int) = ((1099511628211 : Nat) : Int) from rfl, mul64]
      refine vcCall_of .nil (rrot_spec _ 23 (Nat.mod_lt _ (by decide)) (by omega) _) (fun v own' N' hv => ?_); obtain ⟨rfl, rfl, rfl⟩ := hv
      refine vcFit_u64 ?_
      rw [add64, ← hrd.1]
      refine vcBit_as _ (xor64 _ _ hs.2 hm1) ?_
      refine vcCall_of .nil (rrot_spec _ 41 (xor_lt hs.2 hm1) (by omega) _) (fun v own' N' hv => ?_); obtain ⟨rfl, rfl, rfl⟩ := hv
      refine vcFit_u64 ?_
      rw [show (2654435761 : Int) = ((2654435761 : Nat) : Int) from rfl, mul64]
      refine vcFit_u64 ?_
      rw [add64, ← hrd.2]
      refine vcFit_i64 (by omega) ?_
      refine ⟨k + 1, by omega, by omega, ⟨rfl, ?_, ?_, rfl, rfl, rfl, trivial⟩, ⟨[], .cons .here .nil⟩, fun _ _ => trivial⟩
      · rw [hsn]; rfl
      · rw [hsn]; rfl
  · have hk' : k = l.length := by omega
    subst hk'
    rw [List.take_length] at hs ⊢
    generalize hq : mixL seed0 l = s at hs ⊢
    have hd : dig xs = be 8 s.1 ++ be 8 s.2 := by unfold dig; rw [hl, hq]
    refine vcMk_nat 16 rfl rfl (by decide) (by decide) (fun bo => ?_)
    refine vcLoop_of (fun k : Nat => 8 - k) (fun k => [(3, .int .u64 (s.1 / 256 ^ k : Nat)), (4, .int .u64 (s.2 / 256 ^ k : Nat)), (9, .slice (some ⟨bo, 0, none⟩) 16 16), (10, .int .i64 (7 - k))])
      (fun k => [.sl (some ⟨bo, 0, none⟩) 16 5 1 (Bs (outR (be 8 s.1) (be 8 s.2) k))]) (fun _ => MT) (fun k => k ≤ 8) 0 (Nat.zero_le _)
      ⟨by simp [look], by simp [look], rfl, rfl, trivial⟩ ⟨_, .cons .here .nil⟩ (fun _ _ => trivial) ?_
    intro k hk
    have hol := outR_length (be 8 s.1) (be 8 s.2) (be_length _ _) (be_length _ _) k hk
    refine vcIf_dec (fun hlt => ?_) (fun hge => ?_)
    · have hk' : k < 8 := by omega
      have hd1 : s.1 / 256 ^ k ≤ s.1 := Nat.div_le_self _ _
      have hd2 : s.2 / 256 ^ k ≤ s.2 := Nat.div_le_self _ _
      have hp1 : (0 : Int) ≤ ((s.1 / 256 ^ k : Nat) : Int) := Int.natCast_nonneg _
      have hp2 : (0 : Int) ≤ ((s.2 / 256 ^ k : Nat) : Int) := Int.natCast_nonneg _
      refine vcFit_i64 (by omega) ?_
      refine vcFit_byte ?_
      refine vcFit_byte ?_
      refine vcIdx_some (7 - k) (by omega) (by omega) ?_
      refine vcStore1_1 _ _ .here rfl (by simp [Ob.cells, Bs_length, hol]; omega) rfl ?_
      refine vcIdx_some (15 - k) (by omega) (by omega) ?_
      refine vcStore1_1 _ _ .here rfl (by simp [Ob.cells, Ob.set, Bs_length, hol]; omega) rfl ?_
      refine vcQuo_u64 (by omega) ?_
      refine vcQuo_u64 (by omega) ?_
      refine vcFit_i64 (by omega) ?_
      refine ⟨k + 1, by omega, by omega, ⟨?_, ?_, rfl, ?_, trivial⟩, ⟨[], .cons ?_ .nil⟩, fun _ _ => trivial⟩
      · refine congrArg (fun z => some (Value.int .u64 z)) ?_
        rw [Nat.pow_succ, ← Nat.div_div_eq_div_mul]; simp
      · refine congrArg (fun z => some (Value.int .u64 z)) ?_
        rw [Nat.pow_succ, ← Nat.div_div_eq_div_mul]; simp
      · refine congrArg (fun z => some (Value.int .i64 z)) ?_
        omega
      · rw [← outR_step (be_length _ _) (be_length _ _) k hk' _ _ (be8_back s.1 k hk') (be8_back s.2 k hk'), ← Bs_set, ← Bs_set]
        exact .here
    · have hk' : k = 8 := by omega
      subst hk'
      have hfin : outR (be 8 s.1) (be 8 s.2) 8 = dig xs := by
        rw [hd]; simp [outR]
      rw [hfin]
      have hdl : (dig xs).length = 16 := dig_length xs
      exact ⟨_, [], MT, .cons .here .nil, fun _ _ _ => trivial, _, 16, by rw [hdl]; rfl, rfl, rfl, by rw [hdl]; omega⟩

theorem pdig_spec (A : Option Addr) (c : Nat) (xs : List UInt8) (G : Mp) (h1 : Ent G (RowAt A (Bs xs))) (hx : xs.length ≤ 281474976710656) :
    Spec Try.prog 44 #[.slice A xs.length c] [] G (Ret (.agg (Bs (dig xs)).toArray)) := by
  refine Spec.intro (args := [_]) wide Try.func44 rfl Try.call44 (by rfl) (by rfl) (fun w0 hw0 => ?_)
  intro bo bp
  have e : pieces [(A, c, xs)] = xs := by simp [pieces]
  refine vcCall_of .nil (of_spec (some ⟨bp, 0, none⟩) 1 [(A, c, xs)] _ (Ent.gnO .here (fun w hw => Ob.sl_at hw)) (fun p hp => ?_) (by rw [e]; omega) (by simp)) (fun v own' N' hv => ?_)
  · obtain rfl := List.mem_singleton.1 hp
    exact Ent.gnG h1
  · rw [e] at hv
    obtain ⟨rfl, rfl, rfl⟩ := hv
    have hdl : (Bs (dig xs)).length = 16 := by rw [Bs_length, dig_length]
    refine ⟨hdl, vcStoreN_row _ (.there .here) hdl (Bs_one _) ?_⟩
    refine vcLoadN_0 (Ent.gnO .here (fun w hw => Ob.row_at hw)) hdl ?_
    exact ⟨[], _, MT, .nil, fun _ _ _ => trivial, rfl, rfl, rfl⟩
end Go.Proofs.Ytnhkeghahiedfaa
end

section
/- Turning bytes by the stream. -/
namespace Go.Proofs.Ytnhkeghahiedfaa
open Go.Proofs
set_option maxRecDepth 10000

theorem xor_u8 (x y : UInt8) : bitI .xor .u8 (x.toNat : Int) (y.toNat : Int) = ((x ^^^ y).toNat : Int) := by
  rw [bitI_xor (by rw [max_u8]; have := x.toNat_lt; omega) (by rw [max_u8]; have := y.toNat_lt; omega), UInt8.toNat_xor]
theorem block_length (key nonce : List UInt8) (j : Nat) : (block key nonce j).length = 16 := dig_length _
theorem turnL_get (key nonce data : List UInt8) (j r : Nat) (hr : r < 16) (h : 16 * j + r < data.length) : (turnL key nonce data)[16 * j + r]? = some (data[16 * j + r] ^^^ ((block key nonce j)[r]?).getD 0) := by
  have e1 : (16 * j + r) / 16 = j := by omega
  have e2 : (16 * j + r) % 16 = r := by omega
  simp only [turnL, List.getElem?_map, List.getElem?_zipIdx, Nat.zero_add, Option.map_map]
  rw [List.getElem?_eq_getElem h, Option.map_some]
  simp only [Function.comp, e1, e2]
/-- One byte more of a row that is laid from the left. -/
theorem lay_set {T U : List UInt8} {k : Nat} {x : UInt8} (hT : T[k]? = some x) (hU : k < U.length) (hl : T.length = U.length) : (T.take k ++ U.drop k).set k x = T.take (k + 1) ++ U.drop (k + 1) := by
  have hk : k < T.length := by omega
  have hx : T[k] = x := by rw [List.getElem?_eq_getElem hk] at hT; exact Option.some.inj hT
  rw [List.set_append_right _ _ (by rw [List.length_take]; omega), List.length_take, Nat.min_eq_left (by omega), Nat.sub_self]
  rw [List.drop_eq_getElem_cons hU, List.set_cons_zero, List.take_succ_eq_append_getElem hk, hx]
  simp
theorem lay_length (T U : List UInt8) (k : Nat) (hl : T.length = U.length) : (T.take k ++ U.drop k).length = U.length := by simp; omega

theorem turn_spec (Ak An Ad : Option Addr) (ck cn cd : Nat) (key nonce data : List UInt8) (G : Mp) (hk : Ent G (RowAt Ak (Bs key))) (hn : Ent G (RowAt An (Bs nonce))) (hd : Ent G (RowAt Ad (Bs data)))
    (h1 : key.length ≤ 1000000000) (h2 : nonce.length ≤ 1000000000) (h3 : data.length ≤ 1000000000000) :
    Spec Try.prog 47 #[.slice Ak key.length ck, .slice An nonce.length cn, .slice Ad data.length cd] [] G (OwnB (turnL key nonce data)) := by
  refine Spec.intro (args := [_, _, _]) wide Try.func47 rfl Try.call47 (by rfl) (by rfl) (fun w0 hw0 => ?_)
  refine vcMk_nat data.length rfl rfl (by omega) (by omega) (fun bo => ?_)
  intro bh
  refine vcCall_of .nil (short_spec Ak ck key _ (Ent.gnG hk) (by omega)) (fun v own' N' hv => ?_); obtain ⟨A1, c1, rfl, rfl, rfl, hc1⟩ := hv
  have ht1 : (txt key).length = key.length + 1 := by simp [txt]
  have ht2 : (txt nonce).length = nonce.length + 1 := by simp [txt]
  refine vcApp_of (Bs [1]) _ (Bs (txt key)) (.there .here) rfl (by rw [Bs_length, Nat.mul_one]) (by omega) (Bs_one _) (Ent.gnO .here (fun w hw => Ob.sl_at hw)) (by rw [ht1]; omega) (by rw [ht1]; omega) (fun A2 c2 hc2 => ?_)
  refine vcCall_of .nil (short_spec An cn nonce _ (Ent.gnG hn) (by omega)) (fun v own' N' hv => ?_); obtain ⟨A3, c3, rfl, rfl, rfl, hc3⟩ := hv
  refine vcApp_of (Bs [1] ++ Bs (txt key)) _ (Bs (txt nonce)) (.there .here) (by simp only [Bs_length, List.length_append, List.length_singleton, Nat.mul_one]) (by rw [Bs_length, Nat.mul_one]) (by omega) (Bs_one _) (Ent.gnO .here (fun w hw => Ob.sl_at hw)) (by rw [ht1, ht2]; omega) (by rw [ht1, ht2]; omega) (fun A4 c4 hc4 => ?_)
  rw [← Bs_append, ← Bs_append]
  generalize hh : [1] ++ txt key ++ txt nonce = head
  have hhl : 1 + (txt key).length + (txt nonce).length = head.length := by rw [← hh]; simp only [List.length_append, List.length_singleton]
  rw [hhl] at hc4 ⊢
  have hbl : ∀ j, block key nonce j = dig (head ++ word4 j) := fun j => by rw [← hh]; rfl
  have hTl := turnL_length key nonce data
  generalize hT : turnL key nonce data = T at hTl ⊢
  have hTg : ∀ (j r : Nat) (hr : r < 16) (h : 16 * j + r < data.length), T[16 * j + r]? = some (data[16 * j + r] ^^^ ((block key nonce j)[r]?).getD 0) := fun j r hr h => by rw [← hT]; exact turnL_get key nonce data j r hr h
  generalize hZ : List.replicate data.length (0 : UInt8) = Z
  have hZl : Z.length = data.length := by rw [← hZ]; simp
  have hZ' : zerosL data.length [.int .u8 0] = Bs Z := by rw [Bs_zeros, hZ]
  refine vcLoop_of (fun j : Nat => data.length + 16 - 16 * j) (fun j => [(2, .slice Ad data.length cd), (7, .slice (some ⟨bo, 0, none⟩) data.length data.length), (8, .slice A4 head.length c4), (9, .int .i64 (16 * j : Nat))])
    (fun j => [.sl A4 c4 5 1 (Bs head), .sl (some ⟨bo, 0, none⟩) data.length 5 1 (Bs (T.take (16 * j) ++ Z.drop (16 * j)))]) (fun _ => MT) (fun j => 16 * j < data.length + 16) 0 (by omega)
    ⟨rfl, rfl, rfl, rfl, trivial⟩ ⟨_, .cons .here (.cons (.there (.there (by rw [hZ']; exact .here))) .nil)⟩ (fun _ _ => trivial) ?_
  intro j hj
  refine vcIf_dec (fun hlt => ?_) (fun hge => ?_)
  · have hlt' : 16 * j < data.length := by omega
    refine vcQuo_i64 (by omega) ?_
    rw [show ((16 * j : Nat) : Int) / 16 = (j : Nat) from by omega]
    refine vcCall_of .nil (word_spec j _) (fun v own' N' hv => ?_); obtain ⟨A5, c5, rfl, rfl, rfl, hc5⟩ := hv
    intro bp
    have e : pieces [(A4, c4, head), (A5, c5, word4 j)] = head ++ word4 j := by simp [pieces]
    refine vcCall_of .nil (of_spec (some ⟨bp, 0, none⟩) 2 [(A4, c4, head), (A5, c5, word4 j)] _ (Ent.gnO .here (fun w hw => Ob.sl_at hw)) (fun p hp => ?_) (by rw [e, ← hh]; simp [txt, word4]; omega) (by simp)) (fun v own' N' hv => ?_)
    · simp only [List.mem_cons, List.not_mem_nil, or_false] at hp
      rcases hp with rfl | rfl
      · exact (Ent.gnO (.there (.there .here)) (fun w hw => Ob.sl_at hw))
      · exact (Ent.gnO (.there .here) (fun w hw => Ob.sl_at hw))
    rw [e, ← hbl] at hv
    obtain ⟨rfl, rfl, rfl⟩ := hv
    intro bd
    have hbll := block_length key nonce j
    have hbl' : (Bs (block key nonce j)).length = 16 := by rw [Bs_length, hbll]
    refine ⟨hbl', vcStoreN_row _ .here hbl' (Bs_one _) ?_⟩
    have hTj := hTg j
    clear hTg hbl
    generalize block key nonce j = d at hbll hbl' hTj ⊢
    refine vcLoop_of (fun r : Nat => 16 - r) (fun r => [(2, .slice Ad data.length cd), (7, .slice (some ⟨bo, 0, none⟩) data.length data.length), (8, .slice A4 head.length c4), (9, .int .i64 (16 * j : Nat)), (10, .pointer (some ⟨bd, 0, none⟩)), (11, .int .i64 (16 * j + r : Nat))])
      (fun r => [.row bd 82 (Bs d) 16, .sl A4 c4 5 1 (Bs head), .sl (some ⟨bo, 0, none⟩) data.length 5 1 (Bs (T.take (16 * j + r) ++ Z.drop (16 * j + r)))]) (fun _ => MT) (fun r => r ≤ 16 ∧ 16 * j + r ≤ data.length) 0 ⟨by omega, by omega⟩
      ⟨rfl, rfl, rfl, rfl, rfl, rfl, trivial⟩ ⟨_, .cons .here (.cons (.there (.there .here)) (.cons (.there (.there .here)) .nil))⟩ (fun _ _ => trivial) ?_
    rintro r ⟨hr1, hr2⟩
    have hlay := lay_length T Z (16 * j + r) (by omega)
    refine vcFit_i64 (by omega) ?_
    refine vcIf_dec (fun hin => ?_) (fun hout => ?_)
    · have hmin : r < 16 ∧ 16 * j + r < data.length := by
        split at hin <;> omega
      refine vcDraw_mix [0,1,2,3,4,5,6,7,8,9,10,11,12,13] (GN _ _ _) (by kernel_rfl) Ent.refl ?_
      refine vcIdx_nat (16 * j + r) rfl (by first | exact Ent.refl | assumption | exact Ent.gnG (by assumption) | exact Ent.gnG (Ent.gnG (by assumption)) | exact (Ent.gnO .here (fun w hw => Ob.sl_at hw)) | exact (Ent.gnO .here (fun w hw => Ob.row_at hw)) | exact (Ent.gnO (.there .here) (fun w hw => Ob.sl_at hw)) | exact (Ent.gnO (.there .here) (fun w hw => Ob.row_at hw)) | exact (Ent.gnO (.there (.there .here)) (fun w hw => Ob.sl_at hw)) | exact (Ent.gnO (.there (.there .here)) (fun w hw => Ob.row_at hw)) | exact (Ent.gnO (.there (.there (.there .here))) (fun w hw => Ob.sl_at hw)) | exact (Ent.gnO (.there (.there (.there .here))) (fun w hw => Ob.row_at hw)) | exact (Ent.gnO (.there (.there (.there (.there .here)))) (fun w hw => Ob.sl_at hw)) | exact (Ent.gnO (.there (.there (.there (.there .here)))) (fun w hw => Ob.row_at hw)) | exact (Ent.gnO (.there (.there (.there (.there (.there .here))))) (fun w hw => Ob.sl_at hw)) | exact (Ent.gnO (.there (.there (.there (.there (.there .here))))) (fun w hw => Ob.row_at hw))) hmin.2 (by rw [Bs_length]; exact Nat.le_refl _) (fun a ha => ?_)
      subst ha
      refine vcLoad1_row (by first | exact Ent.refl | assumption | exact Ent.gnG (by assumption) | exact Ent.gnG (Ent.gnG (by assumption)) | exact (Ent.gnO .here (fun w hw => Ob.sl_at hw)) | exact (Ent.gnO .here (fun w hw => Ob.row_at hw)) | exact (Ent.gnO (.there .here) (fun w hw => Ob.sl_at hw)) | exact (Ent.gnO (.there .here) (fun w hw => Ob.row_at hw)) | exact (Ent.gnO (.there (.there .here)) (fun w hw => Ob.sl_at hw)) | exact (Ent.gnO (.there (.there .here)) (fun w hw => Ob.row_at hw)) | exact (Ent.gnO (.there (.there (.there .here))) (fun w hw => Ob.sl_at hw)) | exact (Ent.gnO (.there (.there (.there .here))) (fun w hw => Ob.row_at hw)) | exact (Ent.gnO (.there (.there (.there (.there .here)))) (fun w hw => Ob.sl_at hw)) | exact (Ent.gnO (.there (.there (.there (.there .here)))) (fun w hw => Ob.row_at hw)) | exact (Ent.gnO (.there (.there (.there (.there (.there .here))))) (fun w hw => Ob.sl_at hw)) | exact (Ent.gnO (.there (.there (.there (.there (.there .here))))) (fun w hw => Ob.row_at hw))) (Bs_get hmin.2) ?_
      refine vcFit_i64 (by omega) ?_
      refine vcAt_nat r (by omega) hmin.1 ?_
      refine vcLoad1_row (Ent.gnO .here (fun w hw => Ob.row_at hw)) (Bs_get (by omega)) ?_
      refine vcBit_as _ (xor_u8 _ _) ?_
      have hTr := hTj r hmin.1 hmin.2
      rw [List.getElem?_eq_getElem (show r < d.length by omega), Option.getD_some] at hTr
      refine vcIdx_some (16 * j + r) rfl hmin.2 ?_
      refine vcStore1_1 _ _ (.there (.there .here)) rfl (by simp only [Ob.cells, Bs_length, hlay]; omega) rfl ?_
      refine vcMix_last (by kernel_rfl) ?_
      refine vcFit_i64 (by omega) ?_
      refine ⟨r + 1, ⟨by omega, by omega⟩, by omega, ⟨rfl, rfl, rfl, rfl, rfl, rfl, trivial⟩, ⟨[], .cons (.there .here) (.cons (.there .here) (.cons ?_ .nil))⟩, fun _ _ => trivial⟩
      rw [← Nat.add_assoc, ← lay_set hTr (by omega) (by omega), ← Bs_set]
      exact .here
    · have hr : (r = 16 ∨ 16 * j + r = data.length) := by
        split at hout <;> omega
      refine vcFit_i64 (by omega) ?_
      rcases hr with rfl | hr
      · refine ⟨j + 1, by omega, by omega, ⟨rfl, rfl, rfl, rfl, trivial⟩, ⟨_, .cons (.there .here) (.cons (.there .here) .nil)⟩, fun _ _ => trivial⟩
      · refine ⟨j + 1, by omega, by omega, ⟨rfl, rfl, rfl, rfl, trivial⟩, ⟨[.row bd 82 (Bs d) 16], .cons (.there .here) (.cons ?_ .nil)⟩, fun _ _ => trivial⟩
        rw [hr, List.take_of_length_le (show T.length ≤ data.length by omega), List.drop_of_length_le (show Z.length ≤ data.length by omega), List.take_of_length_le (show T.length ≤ 16 * (j + 1) by omega), List.drop_of_length_le (show Z.length ≤ 16 * (j + 1) by omega)]
        exact .there .here
  · rw [List.take_of_length_le (show T.length ≤ 16 * j by omega), List.drop_of_length_le (show Z.length ≤ 16 * j by omega), List.append_nil]
    exact ⟨_, _, MT, .cons (.there .here) .nil, fun _ _ _ => trivial, _, _, by rw [hTl]; rfl, rfl, rfl, by omega⟩

end Go.Proofs.Ytnhkeghahiedfaa
end

section
/- Ids: digests, masks, values. -/
namespace Go.Proofs.Ytnhkeghahiedfaa
open Go.Proofs
set_option maxRecDepth 10000

theorem fill_set {α : Type} {T Z : List α} {k : Nat} (hk : k < T.length) (hz : T.length = Z.length) : (T.take k ++ Z.drop k).set k (T[k]) = T.take (k + 1) ++ Z.drop (k + 1) := by
  have h1 : (T.take k).length = k := by rw [List.length_take]; omega
  have e1 : Z.drop k = Z[k]'(by omega) :: Z.drop (k + 1) := List.drop_eq_getElem_cons (by omega)
  rw [List.set_append_right _ _ (by omega), h1, Nat.sub_self, e1, List.set_cons_zero, List.take_succ_eq_append_getElem hk, List.append_assoc]
  rfl
/-- Eight bytes under a mask. -/
def xorD (d id : List UInt8) : List UInt8 := (List.range 8).map fun i => id[i]?.getD 0 ^^^ d[i]?.getD 0
theorem xorD_length (d id : List UInt8) : (xorD d id).length = 8 := by simp [xorD]
theorem xorD_get {d id : List UInt8} {i : Nat} (h : i < 8) (h2 : i < id.length) (h3 : i < d.length) : (xorD d id)[i]'(by rw [xorD_length]; exact h) = id[i] ^^^ d[i] := by
  simp [xorD, h2, h3]
def cidD (s : List UInt8) : List UInt8 := dig ([99, 105, 100] ++ s)
theorem digest_spec (A : Option Addr) (c : Nat) (ps : List Piece) (G : Mp) (h1 : Ent G (RowAt A (ps.map pieceV))) (h2 : ∀ p ∈ ps, Ent G (RowAt p.1 (Bs p.2.2))) (hb : (pieces ps).length ≤ 140737488355328) (hl : ps.length ≤ 4611686018427387904) :
    Spec Try.prog 29 #[.slice A ps.length c] [] G (GetB (dig (pieces ps))) := by
  refine Spec.intro (args := [_]) wide Try.func29 rfl Try.call29 (by rfl) (by rfl) (fun w0 hw0 => ?_)
  refine vcCall_of .nil (concat_spec A c ps _ (Ent.gnG h1) (fun p hp => Ent.gnG (h2 p hp)) hb hl) (fun v own' N' hv => ?_); obtain ⟨A1, c1, rfl, rfl, rfl, hc1⟩ := hv
  refine vcCall_of .nil (pdig_spec A1 c1 (pieces ps) _ (Ent.gnO .here (fun w hw => Ob.sl_at hw)) (by omega)) (fun v own' N' hv => ?_); obtain ⟨rfl, rfl, rfl⟩ := hv
  intro b
  have htl : (Bs (dig (pieces ps))).length = 16 := by rw [Bs_length, dig_length]
  refine ⟨htl, vcStoreN_row _ .here htl (Bs_one _) ?_⟩
  refine vcRange_of (by omega) ?_
  refine ⟨[], _, RowAt (some ⟨b, 0, none⟩) (Bs (dig (pieces ps))), .nil, fun w _ ho => Ob.row_at (ho (.row b 82 (Bs (dig (pieces ps))) 16) (.head _)), some ⟨b, 0, none⟩, 16, ?_, rfl, Ent.refl, by rw [dig_length]; exact Nat.le_refl _⟩
  rw [dig_length]; rfl
theorem rdigest_spec (A : Option Addr) (c : Nat) (ps : List Piece) (G : Mp) (h1 : Ent G (RowAt A (ps.map pieceV))) (h2 : ∀ p ∈ ps, Ent G (RowAt p.1 (Bs p.2.2))) (hb : (pieces ps).length ≤ 140737488355328) (hl : ps.length ≤ 4611686018427387904) :
    Spec Try.prog 30 #[.slice A ps.length c] [] G (OwnB (dig (pieces ps))) := by
  refine Spec.intro (args := [_]) wide Try.func30 rfl Try.call30 (by rfl) (by rfl) (fun w0 hw0 => ?_)
  refine vcCall_of .nil (join_spec A c ps _ (Ent.gnG h1) (fun p hp => Ent.gnG (h2 p hp)) (by omega) hl) (fun v own' N' hv => ?_); obtain ⟨A1, c1, rfl, rfl, rfl, hc1⟩ := hv
  refine vcCall_of .nil (rdig_spec A1 c1 (pieces ps) _ (Ent.gnO .here (fun w hw => Ob.sl_at hw)) (by omega)) (fun v own' N' hv => ?_); obtain ⟨A2, c2, rfl, rfl, rfl, hc2⟩ := hv
  exact ⟨_, _, MT, .cons .here .nil, fun _ _ _ => trivial, A2, c2, rfl, rfl, rfl, hc2⟩

def turnI (s id : List UInt8) : List UInt8 := xorD (cidD s) id
theorem cid_pieces (b : Nat) (As : Option Addr) (cs : Nat) (s : List UInt8) : pieces [(some ⟨b, 0, none⟩, 3, [99, 105, 100]), (As, cs, s)] = [99, 105, 100] ++ s := by simp [pieces]

theorem rturn13_spec (As Ai : Option Addr) (cs ci : Nat) (s id : List UInt8) (G : Mp) (hs : Ent G (RowAt As (Bs s))) (hi : Ent G (RowAt Ai (Bs id))) (hl : s.length ≤ 1000000000) (h8 : id.length = 8) :
    Spec Try.prog 25 #[.slice As s.length cs, .slice Ai id.length ci] [] G (OwnB (turnI s id)) := by
  refine Spec.intro (args := [_, _]) wide Try.func25 rfl Try.call25 (by rfl) (by rfl) (fun w0 hw0 => ?_)
  intro b3
  refine vcMark_of .here ?_
  intro bp
  have e := cid_pieces b3 As cs s
  refine vcCall_of .nil (e ▸ rdigest_spec (some ⟨bp, 0, none⟩) 2 [(some ⟨b3, 0, none⟩, 3, [99, 105, 100]), (As, cs, s)] _ (Ent.gnO .here (fun w hw => Ob.sl_at hw)) (fun p hp => by
    simp only [List.mem_cons, List.not_mem_nil, or_false] at hp
    rcases hp with rfl | rfl
    · exact (Ent.gnO (.there .here) (fun w hw => Ob.sl_at hw))
    · exact Ent.gnG hs) (by rw [e]; simp; omega) (by simp)) (fun v own' N1 hv => ?_)
  obtain ⟨Am, cm, rfl, rfl, rfl, hcm⟩ := hv
  have hm16 : (dig ([99, 105, 100] ++ s)).length = 16 := dig_length _
  refine vcCall_of .nil (copy_spec Ai ci id _ (Ent.gnG hi) (by omega)) (fun v own' N' hv => ?_); obtain ⟨Ao, co, rfl, rfl, rfl, hco⟩ := hv
  rw [show turnI s id = xorD (dig ([99, 105, 100] ++ s)) id from rfl]
  generalize dig ([99, 105, 100] ++ s) = m at *
  have hx8 := xorD_length m id
  refine vcLoop_of (fun k : Nat => 8 - k) (fun k => [(1, .slice Ai id.length ci), (5, .slice Am m.length cm), (6, .slice Ao id.length co), (7, .int .i64 k)])
    (fun k => [.sl Ao co 5 1 (Bs ((xorD m id).take k ++ id.drop k)), .sl Am cm 5 1 (Bs m)]) (fun _ => MT) (fun k => k ≤ 8) 0 (Nat.zero_le _)
    ⟨rfl, rfl, rfl, rfl, trivial⟩ ⟨_, .cons (by rw [List.take_zero, List.nil_append, List.drop_zero]; exact .here) (.cons (by first | ((repeat (first | exact .here | apply Take.there)); done) | exact .none_) .nil)⟩ (fun _ _ => trivial) ?_
  intro k hk
  refine vcIf_dec (fun hlt => ?_) (fun hge => ?_)
  · have hk8 : k < 8 := by omega
    have hcur : ((xorD m id).take k ++ id.drop k).length = 8 := by rw [List.length_append, List.length_take, List.length_drop, hx8]; omega
    have hget : ((xorD m id).take k ++ id.drop k)[k]'(by omega) = id[k]'(by omega) := by
      rw [List.getElem_append_right (by rw [List.length_take, hx8]; omega)]
      simp [List.length_take, hx8, Nat.min_eq_left hk]
    refine vcDraw_mix [0,1,2,3,4,5,6,7,8,9,10] (fun w => RowAt Ao (Bs ((xorD m id).take k ++ id.drop k)) w ∧ RowAt Am (Bs m) w) (by kernel_rfl) (fun w hw => ⟨((Ent.gnO .here (fun w hw => Ob.sl_at hw)) : Ent _ (RowAt Ao _)) w hw, ((Ent.gnO (.there .here) (fun w hw => Ob.sl_at hw)) : Ent _ (RowAt Am _)) w hw⟩) ?_
    refine vcIdx_nat k rfl (fun w hw => hw.1) (by omega) (by rw [Bs_length]; omega) (fun ao ha => ?_)
    subst ha
    refine vcLoad1_row (v := .int .u8 (id[k]'(by omega)).toNat) (fun w hw => hw.1) (by rw [Bs_get (by omega), hget]) ?_
    refine vcIdx_nat k rfl (fun w hw => hw.2) (by omega) (by rw [Bs_length]; omega) (fun am ha => ?_)
    subst ha
    refine vcLoad1_row (v := .int .u8 (m[k]'(by omega)).toNat) (fun w hw => hw.2) (Bs_get (by omega)) ?_
    refine vcBit_as _ (xor_u8 _ _) ?_
    refine vcIdx_some k rfl (by omega) ?_
    refine vcStore1_1 _ _ .here rfl (by simp only [Ob.cells, Bs_length]; omega) rfl ?_
    have hst : ((xorD m id).take k ++ id.drop k).set k (id[k]'(by omega) ^^^ m[k]'(by omega)) = (xorD m id).take (k + 1) ++ id.drop (k + 1) := by
      rw [← xorD_get hk8 (by omega) (by omega)]
      exact fill_set (by omega) (by omega)
    have hrow : Ob.set (.sl (some ao) co 5 1 (Bs ((xorD m id).take k ++ id.drop k))) (k + 0) (.int .u8 ((id[k]'(by omega) ^^^ m[k]'(by omega)).toNat)) = .sl (some ao) co 5 1 (Bs ((xorD m id).take (k + 1) ++ id.drop (k + 1))) := by
      rw [← hst, ← Bs_set]; rfl
    rw [hrow]
    refine vcMix_last (by kernel_rfl) ?_
    refine vcFit_i64 (by omega) ?_
    refine ⟨k + 1, by omega, by omega, ⟨rfl, rfl, rfl, rfl, trivial⟩, ⟨_, .cons .here (.cons (by first | ((repeat (first | exact .here | apply Take.there)); done) | exact .none_) .nil)⟩, fun _ _ => trivial⟩
  · have : k = 8 := by omega
    subst this
    rw [List.take_of_length_le (by omega), List.drop_eq_nil_of_le (by omega), List.append_nil]
    exact ⟨_, _, MT, .cons .here .nil, fun _ _ _ => trivial, Ao, co, by rw [hx8, ← h8]; rfl, rfl, rfl, by omega⟩
end Go.Proofs.Ytnhkeghahiedfaa
end

section
/- Ids: the program's mask, numbers of bytes. -/
namespace Go.Proofs.Ytnhkeghahiedfaa
open Go.Proofs
set_option maxRecDepth 10000

theorem rturn_8 (As Ai : Option Addr) (cs ci : Nat) (s id : List UInt8) (G : Mp) (hs : Ent G (RowAt As (Bs s))) (hi : Ent G (RowAt Ai (Bs id))) (hl : s.length ≤ 1000000000) (h8 : id.length = 8) :
    Spec Try.prog 22 #[.slice As s.length cs, .slice Ai id.length ci] [] G (OwnB (turnI s id)) := by
  refine Spec.intro (args := [_, _]) wide Try.func22 rfl Try.call22 (by rfl) (by rfl) (fun w0 hw0 => ?_)
  intro b3
  refine vcMark_of .here ?_
  intro bp
  have e := cid_pieces b3 As cs s
  refine vcCall_of .nil (e ▸ digest_spec (some ⟨bp, 0, none⟩) 2 [(some ⟨b3, 0, none⟩, 3, [99, 105, 100]), (As, cs, s)] _ (Ent.gnO .here (fun w hw => Ob.sl_at hw)) (fun p hp => by
    simp only [List.mem_cons, List.not_mem_nil, or_false] at hp
    rcases hp with rfl | rfl
    · exact (Ent.gnO (.there .here) (fun w hw => Ob.sl_at hw))
    · exact Ent.gnG hs) (by rw [e]; simp; omega) (by simp)) (fun v own' N1 hv => ?_)
  obtain ⟨Am, cm, rfl, rfl, hrm, hcm⟩ := hv
  have hm16 : (dig ([99, 105, 100] ++ s)).length = 16 := dig_length _
  rw [show turnI s id = xorD (dig ([99, 105, 100] ++ s)) id from rfl]
  generalize dig ([99, 105, 100] ++ s) = m at *
  have hx8 := xorD_length m id
  refine vcMk_nat 8 rfl rfl (by omega) (by omega) (fun bo => ?_)
  rw [Bs_zeros]
  have hz : ∀ l : List UInt8, (List.replicate 8 l).length = 8 := by simp
  refine vcLoop_of (fun k : Nat => 8 - k) (fun k => [(1, .slice Ai id.length ci), (5, .slice Am m.length cm), (6, .slice (some ⟨bo, 0, none⟩) 8 8), (15, .int .i64 8), (16, .int .i64 k)])
    (fun k => [.sl (some ⟨bo, 0, none⟩) 8 5 1 (Bs ((xorD m id).take k ++ (List.replicate 8 (0 : UInt8)).drop k))]) (fun _ => RowAt Am (Bs m)) (fun k => k ≤ 8) 0 (Nat.zero_le _)
    ⟨rfl, rfl, rfl, rfl, rfl, trivial⟩ ⟨_, .cons (by rw [List.take_zero, List.nil_append, List.drop_zero]; exact .here) .nil⟩ (by repeat first | exact Ent.andR hrm | refine Ent.andL ?_) ?_
  intro k hk
  refine vcIf_dec (fun hlt => ?_) (fun hge => ?_)
  · have hk8 : k < 8 := by omega
    have hcur : ((xorD m id).take k ++ (List.replicate 8 (0 : UInt8)).drop k).length = 8 := by rw [List.length_append, List.length_take, List.length_drop, hx8, List.length_replicate]; omega
    refine vcDraw_mix [0,1,2,3,4,5,6,7,8,9,10,11,12] (fun w => RowAt Ai (Bs id) w ∧ RowAt Am (Bs m) w) (by kernel_rfl) (fun w hw => ⟨hi w hw.1.1, hw.1.2⟩) ?_
    refine vcIdx_nat k rfl (fun w hw => hw.1) (by omega) (by rw [Bs_length]; omega) (fun ai ha => ?_)
    refine vcLoad1_row (v := .int .u8 (id[k]'(by omega)).toNat) (fun w hw => ha ▸ hw.1) (Bs_get (by omega)) ?_
    refine vcIdx_nat k rfl (fun w hw => hw.2) (by omega) (by rw [Bs_length]; omega) (fun am ha2 => ?_)
    refine vcLoad1_row (v := .int .u8 (m[k]'(by omega)).toNat) (fun w hw => ha2 ▸ hw.2) (Bs_get (by omega)) ?_
    refine vcBit_as _ (xor_u8 _ _) ?_
    refine vcIdx_some k rfl (by omega) ?_
    refine vcStore1_1 _ _ .here rfl (by simp only [Ob.cells, Bs_length]; omega) rfl ?_
    have hst : ((xorD m id).take k ++ (List.replicate 8 (0 : UInt8)).drop k).set k (id[k]'(by omega) ^^^ m[k]'(by omega)) = (xorD m id).take (k + 1) ++ (List.replicate 8 (0 : UInt8)).drop (k + 1) := by
      rw [← xorD_get hk8 (by omega) (by omega)]
      exact fill_set (by omega) (by rw [List.length_replicate]; omega)
    have hrow : Ob.set (.sl (some ⟨bo, 0, none⟩) 8 5 1 (Bs ((xorD m id).take k ++ (List.replicate 8 (0 : UInt8)).drop k))) (k + 0) (.int .u8 ((id[k]'(by omega) ^^^ m[k]'(by omega)).toNat)) = .sl (some ⟨bo, 0, none⟩) 8 5 1 (Bs ((xorD m id).take (k + 1) ++ (List.replicate 8 (0 : UInt8)).drop (k + 1))) := by
      rw [← hst, ← Bs_set]; rfl
    rw [hrow]
    refine vcMix_last (by kernel_rfl) ?_
    refine vcFit_i64 (by omega) ?_
    refine ⟨k + 1, by omega, by omega, ⟨rfl, rfl, rfl, rfl, rfl, trivial⟩, ⟨_, .cons .here .nil⟩, Ent.refl⟩
  · have : k = 8 := by omega
    subst this
    rw [List.take_of_length_le (by omega), List.drop_eq_nil_of_le (by simp), List.append_nil]
    exact ⟨_, _, MT, .cons .here .nil, fun _ _ _ => trivial, _, 8, by rw [hx8]; rfl, rfl, rfl, by omega⟩

/-- The number of bytes, the highest first. -/
theorem beval_le (l : List UInt8) (h : l.length ≤ 7) : beval 0 l < 72057594037927936 := by
  have := beval_lt l 0 1 (by omega)
  have h2 : 256 ^ l.length ≤ 256 ^ 7 := Nat.pow_le_pow_right (by omega) h
  have h3 : (256 : Nat) ^ 7 = 72057594037927936 := by decide
  omega
theorem beval_appendR : ∀ (a b : List UInt8) (n : Nat), beval n (a ++ b) = beval (beval n a) b
  | [], _, _ => rfl
  | _ :: r, b, _ => beval_appendR r b _
theorem beval_geR : ∀ (l : List UInt8) (n : Nat), n ≤ beval n l
  | [], n => Nat.le_refl n
  | x :: r, n => Nat.le_trans (by omega) (beval_geR r (n * 256 + x.toNat))
theorem value_spec (A : Option Addr) (c : Nat) (bs : List UInt8) (G : Mp) (h1 : Ent G (RowAt A (Bs bs))) (h7 : beval 0 bs < 4611686018427387904) (hl : bs.length ≤ 100) :
    Spec Try.prog 24 #[.slice A bs.length c] [] G (Ret (.int .i64 (beval 0 bs : Nat))) := by
  refine Spec.intro (args := [_]) wide Try.func24 rfl Try.call24 (by rfl) (by rfl) (fun w0 hw0 => ?_)
  refine vcLoop_of (fun k : Nat => bs.length - k) (fun k => [(3, .int .i64 (beval 0 (bs.take k) : Nat)), (6, .slice A bs.length c), (7, .int .i64 bs.length), (8, .int .i64 k)]) (fun _ => []) (fun _ => MT) (fun k => k ≤ bs.length) 0 (Nat.zero_le _)
    ⟨rfl, rfl, rfl, rfl, trivial⟩ ⟨_, .nil⟩ (fun _ _ => trivial) ?_
  intro k hk
  refine vcIf_dec (fun hlt => ?_) (fun hge => ?_)
  · have hk' : k < bs.length := by omega
    have hle : beval 0 (bs.take (k + 1)) ≤ beval 0 bs := by
      have e : bs = bs.take (k + 1) ++ bs.drop (k + 1) := (List.take_append_drop _ _).symm
      generalize bs.take (k + 1) = x at e ⊢
      generalize bs.drop (k + 1) = y at e
      subst e
      rw [beval_appendR]
      exact beval_geR y _
    have hs : beval 0 (bs.take (k + 1)) = beval 0 (bs.take k) * 256 + bs[k].toNat := by rw [take_snoc_get hk', beval_snoc]
    have hx := bs[k].toNat_lt
    refine vcIdx_nat k rfl (Ent.gnG h1) hk' (by rw [Bs_length]; omega) (fun a ha => ?_)
    have h1' : Ent G (RowAt (some a) (Bs bs)) := ha ▸ h1
    refine vcLoad1_row (v := .int .u8 bs[k].toNat) (Ent.gnG h1') (Bs_get hk') ?_
    refine vcShl_lit 8 rfl (by decide) ?_
    refine vcFit_i64 (by omega) ?_
    refine vcFit_i64 (by omega) ?_
    have hor : bitI .or .i64 ((beval 0 (bs.take k) : Nat) * 2 ^ 8 : Int) (bs[k].toNat : Int) = ((beval 0 (bs.take (k + 1)) : Nat) : Int) := by
      rw [hs, show ((beval 0 (bs.take k) : Nat) * 2 ^ 8 : Int) = ((beval 0 (bs.take k) * 2 ^ 8 : Nat) : Int) from by omega, bitI_or (by rw [max_i64]; omega) (by rw [max_i64]; omega), or_low _ _ _ (by omega)]
    refine vcBit_as _ hor ?_
    refine vcFit_i64 (by omega) ?_
    exact ⟨k + 1, by omega, by omega, ⟨rfl, rfl, rfl, rfl, trivial⟩, ⟨_, .nil⟩, fun _ _ => trivial⟩
  · have hk' : k = bs.length := by omega
    subst hk'
    rw [List.take_length]
    exact ⟨[], _, MT, .nil, fun _ _ _ => trivial, rfl, rfl, rfl⟩
theorem rvalue_spec (A : Option Addr) (c : Nat) (bs : List UInt8) (G : Mp) (h1 : Ent G (RowAt A (Bs bs))) (h7 : beval 0 bs < 4611686018427387904) (hl : bs.length ≤ 100) :
    Spec Try.prog 28 #[.slice A bs.length c] [] G (Ret (.int .i64 (beval 0 bs : Nat))) := by
  refine Spec.intro (args := [_]) wide Try.func28 rfl Try.call28 (by rfl) (by rfl) (fun w0 hw0 => ?_)
  refine vcLoop_of (fun k : Nat => bs.length - k) (fun k => [(0, .slice A bs.length c), (3, .int .i64 (beval 0 (bs.take k) : Nat)), (4, .int .i64 k)]) (fun _ => []) (fun _ => MT) (fun k => k ≤ bs.length) 0 (Nat.zero_le _)
    ⟨rfl, rfl, rfl, trivial⟩ ⟨_, .nil⟩ (fun _ _ => trivial) ?_
  intro k hk
  refine vcIf_dec (fun hlt => ?_) (fun hge => ?_)
  · have hk' : k < bs.length := by omega
    have hle : beval 0 (bs.take (k + 1)) ≤ beval 0 bs := by
      have e : bs = bs.take (k + 1) ++ bs.drop (k + 1) := (List.take_append_drop _ _).symm
      generalize bs.take (k + 1) = x at e ⊢
      generalize bs.drop (k + 1) = y at e
      subst e
      rw [beval_appendR]
      exact beval_geR y _
    have hs : beval 0 (bs.take (k + 1)) = beval 0 (bs.take k) * 256 + bs[k].toNat := by rw [take_snoc_get hk', beval_snoc]
    have hx := bs[k].toNat_lt
    refine vcFit_i64 (by omega) ?_
    refine vcIdx_nat k rfl (Ent.gnG h1) hk' (by rw [Bs_length]; omega) (fun a ha => ?_)
    have h1' : Ent G (RowAt (some a) (Bs bs)) := ha ▸ h1
    refine vcLoad1_row (v := .int .u8 bs[k].toNat) (Ent.gnG h1') (Bs_get hk') ?_
    refine vcFit_i64 (by omega) ?_
    refine vcFit_i64 (by omega) ?_
    refine vcFit_i64 (by omega) ?_
    refine ⟨k + 1, by omega, by omega, ⟨rfl, ?_, rfl, trivial⟩, ⟨_, .nil⟩, fun _ _ => trivial⟩
    rw [hs, Int.natCast_add, Int.natCast_mul]; rfl
  · have hk' : k = bs.length := by omega
    subst hk'
    rw [List.take_length]
    exact ⟨[], _, MT, .nil, fun _ _ _ => trivial, rfl, rfl, rfl⟩
theorem rnumberR_spec (m s : Nat) (hm : m < 4611686018427387904) (h8 : s ≤ 8) (G : Mp) : Spec Try.prog 27 #[.int .i64 m, .int .i64 s] [] G (OwnB (be s m)) := by
  refine Spec.intro (args := [_, _]) wide Try.func27 rfl Try.call27 (by rfl) (by rfl) (fun w0 hw0 => ?_)
  refine vcMk_nat s rfl rfl (by omega) (by omega) (fun b => ?_)
  rw [Bs_zeros]
  refine vcFit_i64 (by omega) ?_
  refine vcLoop_of (fun g : Nat × Nat × List UInt8 => g.1) (fun g => [(0, .int .i64 g.2.1), (5, .slice (some ⟨b, 0, none⟩) s s), (6, .int .i64 ((g.1 : Int) - 1))])
    (fun g => [.sl (some ⟨b, 0, none⟩) s 5 1 (Bs (List.replicate g.1 0 ++ g.2.2))]) (fun _ => MT)
    (fun g => g.1 ≤ s ∧ g.2.1 ≤ 4611686018427387903 ∧ g.2.2.length + g.1 = s ∧ be s m = be g.1 g.2.1 ++ g.2.2) (s, m, []) ⟨Nat.le_refl _, by simp only; omega, by simp, by simp⟩
    ⟨rfl, rfl, rfl, trivial⟩ ⟨_, .cons (by rw [List.append_nil]; exact .here) .nil⟩ (fun _ _ => trivial) ?_
  rintro ⟨k, x, T⟩ ⟨hk1, hk2, hk3, hk4⟩
  simp only at hk1 hk2 hk3 hk4
  refine vcIf_dec (fun h4 => ?_) (fun h4 => ?_)
  · obtain ⟨j, rfl⟩ : ∃ j, k = j + 1 := ⟨k - 1, by omega⟩
    refine vcRem_pos (by omega) ?_
    refine vcFit_u8_in (by omega) ?_
    have hjj : ((j + 1 : Nat) : Int) - 1 = j := by omega
    simp only [hjj]
    refine vcIdx_row (Ent.gnO .here fun w hw => Ob.sl_at hw) ⟨by omega, by omega⟩ (by rw [Bs_length, List.length_append, List.length_replicate]; omega) (fun a ha => ?_)
    cases ha
    refine vcStore1_of _ _ ⟨b, 0, none⟩ j .here rfl rfl (by simp only [Ob.cells]; rw [Bs_length, List.length_append]; simp; omega) rfl ?_
    refine vcQuo_i64 (by omega) ?_
    refine vcFit_i64 (by omega) ?_
    refine ⟨(j, x / 256, UInt8.ofNat (x % 256) :: T), ⟨by simp only; omega, by simp only; omega, by simp; omega, ?_⟩, by simp only; omega, ⟨?_, rfl, rfl, trivial⟩, ⟨[], .cons ?_ .nil⟩, fun _ _ => trivial⟩
    · rw [hk4, be]; simp
    · rfl
    · have e : (Value.int .u8 ((x : Int) % 256)) = B (UInt8.ofNat (x % 256)) := by
        unfold B; rw [ofNat_toNat _ (by omega)]; rfl
      simp only [Ob.set, e, set_rep]
      exact .here
  · have hk0 : k = 0 := by omega
    subst hk0
    have hT : T = be s m := by rw [hk4]; rfl
    subst hT
    exact ⟨_, _, MT, .cons .here .nil, fun _ _ _ => trivial, _, s, by rw [be_length]; rfl, rfl, rfl, by rw [be_length]; exact Nat.le_refl _⟩
end Go.Proofs.Ytnhkeghahiedfaa
end

section
/- Tags, sealing and opening. -/
namespace Go.Proofs.Ytnhkeghahiedfaa
open Go.Proofs
set_option maxRecDepth 10000

/-- Bytes of its own and an error's number. -/

theorem tagL_length (key nonce ad cipher : List UInt8) : (tagL key nonce ad cipher).length = 16 := dig_length _
theorem tag_spec (Ak An Aa Ac : Option Addr) (ck cn ca cc : Nat) (key nonce ad cipher : List UInt8) (G : Mp) (hk : Ent G (RowAt Ak (Bs key))) (hn : Ent G (RowAt An (Bs nonce))) (ha : Ent G (RowAt Aa (Bs ad))) (hc : Ent G (RowAt Ac (Bs cipher)))
    (h1 : key.length ≤ 1000000000) (h2 : nonce.length ≤ 1000000000) (h3 : ad.length ≤ 1000000000) (h4 : cipher.length ≤ 1000000000000) :
    Spec Try.prog 48 #[.slice Ak key.length ck, .slice An nonce.length cn, .slice Aa ad.length ca, .slice Ac cipher.length cc] [] G (Ret (.agg (Bs (tagL key nonce ad cipher)).toArray)) := by
  refine Spec.intro (args := [_, _, _, _]) wide Try.func48 rfl Try.call48 (by rfl) (by rfl) (fun w0 hw0 => ?_)
  intro bo b2
  refine vcCall_of .nil (short_spec Ak ck key _ (Ent.gnG hk) (by omega)) (fun v own' N' hv => ?_); obtain ⟨A1, c1, rfl, rfl, rfl, hc1⟩ := hv
  refine vcCall_of .nil (short_spec An cn nonce _ (Ent.gnG hn) (by omega)) (fun v own' N' hv => ?_); obtain ⟨A2, c2, rfl, rfl, rfl, hc2⟩ := hv
  refine vcCall_of .nil (word_spec ad.length _) (fun v own' N' hv => ?_); obtain ⟨A3, c3, rfl, rfl, rfl, hc3⟩ := hv
  intro bp
  have e : pieces [(some ⟨b2, 0, none⟩, 1, [2]), (A1, c1, txt key), (A2, c2, txt nonce), (A3, c3, word4 ad.length), (Aa, ca, ad), (Ac, cc, cipher)] = [2] ++ txt key ++ txt nonce ++ word4 ad.length ++ ad ++ cipher := by simp [pieces]
  have hel : ([2] ++ txt key ++ txt nonce ++ word4 ad.length ++ ad ++ cipher).length ≤ 2000000000000 := by simp [txt, word4]; omega
  refine vcCall_of .nil (e ▸ of_spec (some ⟨bp, 0, none⟩) 6 [(some ⟨b2, 0, none⟩, 1, [2]), (A1, c1, txt key), (A2, c2, txt nonce), (A3, c3, word4 ad.length), (Aa, ca, ad), (Ac, cc, cipher)] _ (Ent.gnO .here (fun w hw => Ob.sl_at hw)) (fun p hp => by
    simp only [List.mem_cons, List.not_mem_nil, or_false] at hp
    rcases hp with rfl | rfl | rfl | rfl | rfl | rfl
    · exact (Ent.gnO (.there (.there (.there (.there .here)))) (fun w hw => Ob.sl_at hw))
    · exact (Ent.gnO (.there (.there (.there .here))) (fun w hw => Ob.sl_at hw))
    · exact (Ent.gnO (.there (.there .here)) (fun w hw => Ob.sl_at hw))
    · exact (Ent.gnO (.there .here) (fun w hw => Ob.sl_at hw))
    · exact Ent.gnG ha
    · exact Ent.gnG hc) (by rw [e]; omega) (by simp)) (fun v own' N' hv => ?_); obtain ⟨rfl, rfl, rfl⟩ := hv
  have htl : (Bs (tagL key nonce ad cipher)).length = 16 := by rw [Bs_length, tagL_length]
  refine ⟨htl, vcStoreN_row _ (.there (.there (.there (.there (.there .here))))) htl (Bs_one _) ?_⟩
  refine vcLoadN_0 (Ent.gnO .here (fun w hw => Ob.row_at hw)) htl ?_
  exact ⟨[], _, MT, .nil, fun _ _ _ => trivial, rfl, rfl, rfl⟩
theorem sealL_big {key nonce ad plain : List UInt8} (h : 255 < key.length ∨ 255 < nonce.length) : sealL key nonce ad plain = ([], 70) := if_pos h
theorem sealL_huge {key nonce ad plain : List UInt8} (h : ¬ (255 < key.length ∨ 255 < nonce.length)) (h' : 16384 < ad.length ∨ 16384 < plain.length) : sealL key nonce ad plain = ([], 52) := by unfold sealL; rw [if_neg h, if_pos h']
theorem sealL_ok {key nonce ad plain : List UInt8} (h : ¬ (255 < key.length ∨ 255 < nonce.length)) (h' : ¬ (16384 < ad.length ∨ 16384 < plain.length)) :
    sealL key nonce ad plain = (turnL key nonce plain ++ tagL key nonce ad (turnL key nonce plain), 0) := by unfold sealL; rw [if_neg h, if_neg h']

theorem seal_spec (Ak An Aa Ap : Option Addr) (ck cn ca cp : Nat) (key nonce ad plain : List UInt8) (G : Mp) (hk : Ent G (RowAt Ak (Bs key))) (hn : Ent G (RowAt An (Bs nonce))) (ha : Ent G (RowAt Aa (Bs ad))) (hp : Ent G (RowAt Ap (Bs plain))) :
    Spec Try.prog 32 #[.slice Ak key.length ck, .slice An nonce.length cn, .slice Aa ad.length ca, .slice Ap plain.length cp] [] G (OwnBE (sealL key nonce ad plain).1 (sealL key nonce ad plain).2) := by
  refine Spec.intro (args := [_, _, _, _]) wide Try.func32 rfl Try.call32 (by rfl) (by rfl) (fun w0 hw0 => ?_)
  refine vcCall_of .nil (long_spec Ak ck key.length _) (fun v own' N' hv => ?_); obtain ⟨rfl, rfl, rfl⟩ := hv
  refine vcIf_dec (fun h1 => ?_) (fun h1 => ?_)
  · exact ⟨_, [], MT, .cons .none_ .nil, fun _ _ _ => trivial, retE (sealL_big (.inl h1)) (OwnBE_nil 70)⟩
  refine vcCall_of .nil (long_spec An cn nonce.length _) (fun v own' N' hv => ?_); obtain ⟨rfl, rfl, rfl⟩ := hv
  refine vcIf_dec (fun h2 => ?_) (fun h2 => ?_)
  · exact ⟨_, [], MT, .cons .none_ .nil, fun _ _ _ => trivial, retE (sealL_big (.inr h2)) (OwnBE_nil 70)⟩
  refine vcIf_dec (fun h3 => ?_) (fun h3 => ?_)
  · exact ⟨_, [], MT, .cons .none_ .nil, fun _ _ _ => trivial, retE (sealL_huge (by omega) (.inl (by omega))) (OwnBE_nil 52)⟩
  refine vcIf_dec (fun h4 => ?_) (fun h4 => ?_)
  · exact ⟨_, [], MT, .cons .none_ .nil, fun _ _ _ => trivial, retE (sealL_huge (by omega) (.inr (by omega))) (OwnBE_nil 52)⟩
  rw [sealL_ok (by omega) (by omega)]
  have htl := turnL_length key nonce plain
  refine vcCall_of .nil (turn_spec Ak An Ap ck cn cp key nonce plain _ (Ent.gnG hk) (Ent.gnG hn) (Ent.gnG hp) (by omega) (by omega) (by omega)) (fun v own' N' hv => ?_); obtain ⟨A1, c1, rfl, rfl, rfl, hc1⟩ := hv
  refine vcCall_of .nil (tag_spec Ak An Aa A1 ck cn ca c1 key nonce ad (turnL key nonce plain) _ (Ent.gnG hk) (Ent.gnG hn) (Ent.gnG ha) (Ent.gnO .here (fun w hw => Ob.sl_at hw)) (by omega) (by omega) (by omega) (by omega)) (fun v own' N' hv => ?_); obtain ⟨rfl, rfl, rfl⟩ := hv
  intro bt
  have ht := tagL_length key nonce ad (turnL key nonce plain)
  generalize tagL key nonce ad (turnL key nonce plain) = t at ht ⊢
  generalize turnL key nonce plain = c at htl hc1 ⊢
  have htl' : (Bs t).length = 16 := by rw [Bs_length, ht]
  refine ⟨htl', vcStoreN_row _ .here htl' (Bs_one _) ?_⟩
  refine vcRange_of (by omega) ?_
  refine vcApp_of (Bs c) _ (Bs t) (.there .here) (by rw [Bs_length, Nat.mul_one]) htl' (by omega) (Bs_one _) (Ent.gnO .here (fun w hw => Ob.row_at hw)) (by show (c.length + 16) * 1 ≤ _; omega) (by show c.length + 16 ≤ _; omega) (fun A2 c2 hc2 => ?_)
  refine ⟨_, [.row bt 82 (Bs t) 16], MT, .cons .here .nil, fun _ _ _ => trivial, A2, c2, ?_, ?_, rfl, ?_⟩
  · rw [List.length_append, ht]; rfl
  · rw [Bs_append]
  · rw [List.length_append, ht]; exact hc2

end Go.Proofs.Ytnhkeghahiedfaa
end

section
/- Opening. -/
namespace Go.Proofs.Ytnhkeghahiedfaa
open Go.Proofs
set_option maxRecDepth 10000

theorem openL_big {key nonce ad s : List UInt8} (h : 255 < key.length ∨ 255 < nonce.length) : openL key nonce ad s = ([], 70) := if_pos h
theorem openL_huge {key nonce ad s : List UInt8} (h : ¬ (255 < key.length ∨ 255 < nonce.length)) (h' : 16384 < ad.length ∨ 16400 < s.length) : openL key nonce ad s = ([], 52) := by unfold openL; rw [if_neg h, if_pos h']
theorem openL_short {key nonce ad s : List UInt8} (h : ¬ (255 < key.length ∨ 255 < nonce.length)) (h' : ¬ (16384 < ad.length ∨ 16400 < s.length)) (h2 : s.length < 16) : openL key nonce ad s = ([], 12) := by unfold openL; rw [if_neg h, if_neg h', if_pos h2]
theorem openL_tag {key nonce ad c t : List UInt8} (ht : t.length = 16) (h : ¬ (255 < key.length ∨ 255 < nonce.length)) (h' : ¬ (16384 < ad.length ∨ 16384 < c.length)) (h2 : tagL key nonce ad c ≠ t) : openL key nonce ad (c ++ t) = ([], 71) := by
  unfold openL; rw [if_neg h, List.length_append, ht, if_neg (by omega), if_neg (by omega), Nat.add_sub_cancel, List.take_left, List.drop_left, if_neg h2]
theorem openL_ok {key nonce ad c t : List UInt8} (ht : t.length = 16) (h : ¬ (255 < key.length ∨ 255 < nonce.length)) (h' : ¬ (16384 < ad.length ∨ 16384 < c.length)) (h2 : tagL key nonce ad c = t) : openL key nonce ad (c ++ t) = (turnL key nonce c, 0) := by
  unfold openL; rw [if_neg h, List.length_append, ht, if_neg (by omega), if_neg (by omega), Nat.add_sub_cancel, List.take_left, List.drop_left, if_pos h2]

theorem open_spec (Ak An Aa As : Option Addr) (ck cn ca cs : Nat) (key nonce ad s : List UInt8) (G : Mp) (hk : Ent G (RowAt Ak (Bs key))) (hn : Ent G (RowAt An (Bs nonce))) (ha : Ent G (RowAt Aa (Bs ad))) (hs : Ent G (RowAt As (Bs s))) (hcs : s.length ≤ cs) :
    Spec Try.prog 34 #[.slice Ak key.length ck, .slice An nonce.length cn, .slice Aa ad.length ca, .slice As s.length cs] [] G (OwnBE (openL key nonce ad s).1 (openL key nonce ad s).2) := by
  refine Spec.intro (args := [_, _, _, _]) wide Try.func34 rfl Try.call34 (by rfl) (by rfl) (fun w0 hw0 => ?_)
  refine vcCall_of .nil (long_spec Ak ck key.length _) (fun v own' N' hv => ?_); obtain ⟨rfl, rfl, rfl⟩ := hv
  refine vcIf_dec (fun h1 => ?_) (fun h1 => ?_)
  · exact ⟨_, [], MT, .cons .none_ .nil, fun _ _ _ => trivial, retE (openL_big (.inl h1)) (OwnBE_nil 70)⟩
  refine vcCall_of .nil (long_spec An cn nonce.length _) (fun v own' N' hv => ?_); obtain ⟨rfl, rfl, rfl⟩ := hv
  refine vcIf_dec (fun h2 => ?_) (fun h2 => ?_)
  · exact ⟨_, [], MT, .cons .none_ .nil, fun _ _ _ => trivial, retE (openL_big (.inr h2)) (OwnBE_nil 70)⟩
  refine vcIf_dec (fun h3 => ?_) (fun h3 => ?_)
  · exact ⟨_, [], MT, .cons .none_ .nil, fun _ _ _ => trivial, retE (openL_huge (by omega) (.inl (by omega))) (OwnBE_nil 52)⟩
  refine vcIf_dec (fun h4 => ?_) (fun h4 => ?_)
  · exact ⟨_, [], MT, .cons .none_ .nil, fun _ _ _ => trivial, retE (openL_huge (by omega) (.inr (by omega))) (OwnBE_nil 52)⟩
  refine vcIf_dec (fun h5 => ?_) (fun h5 => ?_)
  · exact ⟨_, [], MT, .cons .none_ .nil, fun _ _ _ => trivial, retE (openL_short (by omega) (by omega) (by omega)) (OwnBE_nil 12)⟩
  obtain ⟨c, t, rfl, ht⟩ : ∃ c t, s = c ++ t ∧ t.length = 16 := ⟨s.take (s.length - 16), s.drop (s.length - 16), (List.take_append_drop _ _).symm, by rw [List.length_drop]; omega⟩
  have hl : (c ++ t).length = c.length + 16 := by rw [List.length_append, ht]
  rw [hl] at hcs h4 h5 ⊢
  refine vcFit_i64 (by omega) ?_
  refine vcSlice3_as 0 c.length cs rfl (by omega) (by omega) (by omega) (by omega) (fun A1 hA1 => ?_)
  have hc : Ent G (RowAt A1 (Bs c)) := hs.mono fun w hw => hw.bytes hA1 (by rw [hl]; omega) (by simp)
  refine vcDraw_mix [0, 1, 2, 3, 5, 6, 7, 8, 9, 10, 4, 11] (GN _ _ _) (by kernel_rfl) Ent.refl ?_
  refine vcSlice3_as c.length 16 (cs - c.length) rfl (by omega) (by omega) (by omega) (by omega) (fun A2 hA2 => ?_)
  have hrt : Ent G (RowAt A2 (Bs t)) := hs.mono fun w hw => hw.bytes hA2 (by rw [hl]; omega) (by simp)
  have htl : (Bs t).length = 16 := by rw [Bs_length, ht]
  refine ⟨by omega, vcPtr_row (Ent.gnG hrt) (by omega) (fun a ha => ?_)⟩
  subst ha
  refine vcLoadN_0 (Ent.gnG hrt) htl ?_
  refine vcCall_of .nil (tag_spec Ak An Aa A1 ck cn ca cs key nonce ad c _ (Ent.gnG hk) (Ent.gnG hn) (Ent.gnG ha) (Ent.gnG hc) (by omega) (by omega) (by omega) (by omega)) (fun v own' N' hv => ?_); obtain ⟨rfl, rfl, rfl⟩ := hv
  refine vcMix_same (fun w hw => ⟨⟨hw.1.1, hw.1.2.1⟩, hw.2⟩) ?_
  have hgl := tagL_length key nonce ad c
  refine vcEqA_of (List.replicate 16 (.i .u8)) (by kernel_rfl) (by have := fitsL_bytes (tagL key nonce ad c); rw [hgl] at this; exact this) (by have := fitsL_bytes t; rw [ht] at this; exact this) (tagL key nonce ad c = t) Bs_inj ?_
  refine vcIf_ndec (fun h6 => ?_) (fun h6 => ?_)
  · exact ⟨_, [], MT, .cons .none_ .nil, fun _ _ _ => trivial, retE (openL_tag ht (by omega) (by omega) h6) (OwnBE_nil 71)⟩
  · rw [openL_ok ht (by omega) (by omega) h6]
    have htn := turnL_length key nonce c
    refine vcCall_of .nil (turn_spec Ak An A1 ck cn cs key nonce c _ (Ent.gnG hk) (Ent.gnG hn) (Ent.gnG hc) (by omega) (by omega) (by omega)) (fun v own' N' hv => ?_); obtain ⟨A3, c3, rfl, rfl, rfl, hc3⟩ := hv
    exact ⟨_, _, MT, .cons .here .nil, fun _ _ _ => trivial, A3, c3, rfl, rfl, rfl, hc3⟩

end Go.Proofs.Ytnhkeghahiedfaa
end

section
/- Masks. -/
namespace Go.Proofs.Ytnhkeghahiedfaa
open Go.Proofs
set_option maxRecDepth 10000

/-- The five bytes, the error's number. -/
def maskL (key sample : List UInt8) : List UInt8 × Int :=
  if 255 < key.length then ([0, 0, 0, 0, 0], 70) else if sample.length < 16 then ([0, 0, 0, 0, 0], 12) else ((dig ([3] ++ txt key ++ sample.take 16)).take 5, 0)
theorem maskL_length (key sample : List UInt8) : (maskL key sample).1.length = 5 := by
  unfold maskL
  split
  · rfl
  · split
    · rfl
    · simp [dig_length]
theorem maskL_big {key sample : List UInt8} (h : 255 < key.length) : maskL key sample = ([0, 0, 0, 0, 0], 70) := if_pos h
theorem maskL_short {key sample : List UInt8} (h : ¬ 255 < key.length) (h' : sample.length < 16) : maskL key sample = ([0, 0, 0, 0, 0], 12) := by unfold maskL; rw [if_neg h, if_pos h']
theorem maskL_ok {key sample : List UInt8} (h : ¬ 255 < key.length) (h' : ¬ sample.length < 16) : maskL key sample = ((dig ([3] ++ txt key ++ sample.take 16)).take 5, 0) := by unfold maskL; rw [if_neg h, if_neg h']

end Go.Proofs.Ytnhkeghahiedfaa
end

section
/- The reference's masks; Expand, both. -/
namespace Go.Proofs.Ytnhkeghahiedfaa
open Go.Proofs
set_option maxRecDepth 10000

theorem cutA_zero (A : Option Addr) (m s : Nat) : cutA A m 0 s = A := by
  unfold cutA
  split
  · rfl
  · cases A with
    | none => rfl
    | some a => simp [add_zero]

/-- The bytes out of a secret. -/
def xblk (secret label : List UInt8) (i : Nat) : List UInt8 := dig (txt secret ++ txt label ++ [UInt8.ofNat (i % 256)])
def xall (secret label : List UInt8) (k : Nat) : List UInt8 := (List.range k).flatMap (xblk secret label)
def expandL (secret label : List UInt8) (n : Int) : List UInt8 × Int :=
  if 255 < secret.length ∨ 255 < label.length then ([], 70) else if n < 0 ∨ 1024 < n then ([], 52) else ((xall secret label ((n.toNat + 15) / 16)).take n.toNat, 0)
theorem xall_length (secret label : List UInt8) : ∀ k, (xall secret label k).length = 16 * k
  | 0 => rfl
  | k + 1 => by
    have := xall_length secret label k
    unfold xall at *
    rw [List.range_succ, List.flatMap_append, List.length_append, this]
    simp [xblk, dig_length]; omega
theorem xall_succ (secret label : List UInt8) (k : Nat) : xall secret label (k + 1) = xall secret label k ++ xblk secret label k := by
  unfold xall; rw [List.range_succ, List.flatMap_append]; simp
theorem expandL_big {secret label : List UInt8} {n : Int} (h : 255 < secret.length ∨ 255 < label.length) : expandL secret label n = ([], 70) := if_pos h
theorem expandL_huge {secret label : List UInt8} {n : Int} (h : ¬ (255 < secret.length ∨ 255 < label.length)) (h' : n < 0 ∨ 1024 < n) : expandL secret label n = ([], 52) := by unfold expandL; rw [if_neg h, if_pos h']
theorem expandL_ok {secret label : List UInt8} {n : Nat} (h : ¬ (255 < secret.length ∨ 255 < label.length)) (h' : ¬ (1024 < n)) : expandL secret label n = ((xall secret label ((n + 15) / 16)).take n, 0) := by unfold expandL; rw [if_neg h, if_neg (by omega), Int.toNat_natCast]
theorem expandL_length {secret label : List UInt8} {n : Nat} : ((xall secret label ((n + 15) / 16)).take n).length = n := by rw [List.length_take, xall_length]; omega

theorem expand_spec (As : Option Addr) (cs : Nat) (secret : List UInt8) (lab : ByteArray) (n : Int) (G : Mp) (hs : Ent G (RowAt As (Bs secret))) :
    Spec Try.prog 58 #[.slice As secret.length cs, .string lab, .int .i64 n] [] G (GetBE (expandL secret lab.data.toList n).1 (expandL secret lab.data.toList n).2) := by
  refine Spec.intro (args := [_, _, _]) wide Try.func58 rfl Try.call58 (by rfl) (by rfl) (fun w0 hw0 => ?_)
  have hll : lab.size = lab.data.toList.length := rfl
  generalize hlb : lab.data.toList = label at hll ⊢
  refine vcCall_of .nil (long_spec As cs secret.length _) (fun v own' N' hv => ?_); obtain ⟨rfl, rfl, rfl⟩ := hv
  refine vcIf_dec (fun h1 => ?_) (fun h1 => ?_)
  · rw [expandL_big (.inl h1)]
    exact ⟨[], _, MT, .nil, fun _ _ _ => trivial, none, 0, rfl, rfl, fun _ _ => RowAt.nil, Nat.le_refl _⟩
  refine vcIf_dec (fun h2 => ?_) (fun h2 => ?_)
  · rw [expandL_big (.inr (by omega))]
    exact ⟨[], _, MT, .nil, fun _ _ _ => trivial, none, 0, rfl, rfl, fun _ _ => RowAt.nil, Nat.le_refl _⟩
  have hl255 : label.length ≤ 255 := by omega
  refine vcIf_dec (fun h3 => ?_) (fun h3 => ?_)
  · rw [expandL_huge (by omega) (by omega)]
    exact ⟨[], _, MT, .nil, fun _ _ _ => trivial, none, 0, rfl, rfl, fun _ _ => RowAt.nil, Nat.le_refl _⟩
  refine vcIf_dec (fun h4 => ?_) (fun h4 => ?_)
  · rw [expandL_huge (by omega) (by omega)]
    exact ⟨[], _, MT, .nil, fun _ _ _ => trivial, none, 0, rfl, rfl, fun _ _ => RowAt.nil, Nat.le_refl _⟩
  obtain ⟨n, rfl⟩ := Int.eq_ofNat_of_zero_le (show 0 ≤ n by omega)
  rw [expandL_ok (by omega) (by omega)]
  have hfl := expandL_length (secret := secret) (label := label) (n := n)
  refine vcLoop_of (fun g : Nat × Option Addr × Nat => n + 16 - 16 * g.1) (fun g => [(0, .slice As secret.length cs), (1, .string lab), (2, .int .i64 n), (8, .slice g.2.1 (xall secret label g.1).length g.2.2), (9, .int .i64 g.1)])
    (fun g => [.sl g.2.1 g.2.2 5 1 (Bs (xall secret label g.1))]) (fun _ => MT) (fun g => 16 * g.1 < n + 16 ∧ (xall secret label g.1).length ≤ g.2.2) (0, none, 0) ⟨by omega, Nat.le_refl _⟩
    ⟨rfl, rfl, rfl, rfl, rfl, trivial⟩ ⟨_, .cons .none_ .nil⟩ (fun _ _ => trivial) ?_
  rintro ⟨k, A, c⟩ ⟨hk, hc⟩
  simp only at hk hc
  have hxl := xall_length secret label k
  refine vcIf_dec (fun hlt => ?_) (fun hge => ?_)
  · simp only at hlt
    refine vcCall_of .nil (short_spec As cs secret _ (Ent.gnG hs) (by omega)) (fun v own' N' hv => ?_); obtain ⟨A1, c1, rfl, rfl, rfl, hc1⟩ := hv
    intro bl cl hcl
    rw [hlb, hll]
    refine vcCall_of .nil (short_spec (some ⟨bl, 0, none⟩) cl label _ (Ent.gnO .here (fun w hw => Ob.sl_at hw)) (by omega)) (fun v own' N' hv => ?_); obtain ⟨A2, c2, rfl, rfl, rfl, hc2⟩ := hv
    refine vcFit_byte ?_
    intro b3 bp
    have e : pieces [(A1, c1, txt secret), (A2, c2, txt label), (some ⟨b3, 0, none⟩, 1, [byteI (k : Int)])] = txt secret ++ txt label ++ [UInt8.ofNat (k % 256)] := by simp [pieces, byteI_nat]
    have hel : (txt secret ++ txt label ++ [UInt8.ofNat (k % 256)]).length ≤ 1000 := by simp [txt]; omega
    refine vcCall_of .nil (e ▸ of_spec (some ⟨bp, 0, none⟩) 3 [(A1, c1, txt secret), (A2, c2, txt label), (some ⟨b3, 0, none⟩, 1, [byteI (k : Int)])] _ (Ent.gnO .here (fun w hw => Ob.sl_at hw)) (fun p hp => by
      simp only [List.mem_cons, List.not_mem_nil, or_false] at hp
      rcases hp with rfl | rfl | rfl
      · exact (Ent.gnO (.there (.there (.there (.there .here)))) (fun w hw => Ob.sl_at hw))
      · exact (Ent.gnO (.there (.there .here)) (fun w hw => Ob.sl_at hw))
      · exact (Ent.gnO (.there .here) (fun w hw => Ob.sl_at hw))) (by rw [e]; omega) (by simp)) (fun v own' N' hv => ?_); obtain ⟨rfl, rfl, rfl⟩ := hv
    intro bd
    have hbl : (xblk secret label k).length = 16 := dig_length _
    have hbl' : (Bs (xblk secret label k)).length = 16 := by rw [Bs_length, hbl]
    have hsn := xall_succ secret label k
    have hsl : (xall secret label (k + 1)).length = (xall secret label k).length + 16 := by rw [hsn, List.length_append, hbl]
    refine ⟨hbl', vcStoreN_row _ .here hbl' (Bs_one _) ?_⟩
    refine vcRange_of (by omega) ?_
    refine vcApp_of (Bs (xall secret label k)) _ (Bs (xblk secret label k)) (by first | ((repeat (first | exact .here | apply Take.there)); done) | exact .none_) (by rw [Bs_length, Nat.mul_one]) hbl' (by omega) (Bs_one _) (Ent.gnO .here (fun w hw => Ob.row_at hw)) (by simp only; show (_ + 16) * 1 ≤ _; omega) (by simp only; show _ + 16 ≤ _; omega) (fun A' c' hc' => ?_)
    refine vcFit_i64 (by omega) ?_
    refine ⟨(k + 1, A', c'), ⟨by simp only; omega, by simp only; rw [hsl]; exact hc'⟩, by simp only; omega, ⟨rfl, rfl, rfl, ?_, rfl, trivial⟩, ⟨_, .cons (by simp only [hsn, Bs_append]; exact .here) .nil⟩, fun _ _ => trivial⟩
    simp only [hsl]; rfl
  · simp only at hge
    have hk' : k = (n + 15) / 16 := by omega
    subst hk'
    refine vcSlice3_as 0 n n rfl (by omega) (by omega) (by simp only; omega) (by omega) (fun A' hA' => ?_)
    refine ⟨[], _, RowAt A' (Bs ((xall secret label ((n + 15) / 16)).take n)), .nil, fun w _ ho => ?_, A', n, by rw [hfl]; rfl, rfl, Ent.refl, by simp only [hfl]; omega⟩
    have hA : A' = A := hA'.trans (cutA_zero A _ _)
    subst hA
    rw [Bs_take]
    exact (Ob.sl_at (ho _ (List.mem_cons_self ..))).take n

end Go.Proofs.Ytnhkeghahiedfaa
end

section
/- Ids: Make, Read, Reset. -/
namespace Go.Proofs.Ytnhkeghahiedfaa
open Go.Proofs
set_option maxRecDepth 10000

def idP (w n : Nat) : List UInt8 := [byteI w] ++ be 7 n
theorem idP_length (w n : Nat) : (idP w n).length = 8 := by simp [idP, be_length]
def idB (s : List UInt8) (w n : Nat) : List UInt8 := turnI s (idP w n)
def makeL (s : List UInt8) (w n : Int) : List UInt8 × Int := if s.length ≠ 16 then ([], 70) else if w < 0 ∨ 255 < w ∨ n < 0 ∨ 72057594037927935 < n then ([], 10) else (idB s w.toNat n.toNat, 0)
theorem makeL_70 {s : List UInt8} {w n : Int} (h : s.length ≠ 16) : makeL s w n = ([], 70) := if_pos h
theorem makeL_10 {s : List UInt8} {w n : Int} (h : s.length = 16) (h2 : w < 0 ∨ 255 < w ∨ n < 0 ∨ 72057594037927935 < n) : makeL s w n = ([], 10) := by unfold makeL; rw [if_neg (by omega), if_pos h2]
theorem makeL_0 {s : List UInt8} {w n : Nat} (h : s.length = 16) (h2 : ¬ ((w : Int) < 0 ∨ 255 < (w : Int) ∨ (n : Int) < 0 ∨ 72057594037927935 < (n : Int))) : makeL s w n = (idB s w n, 0) := by unfold makeL; rw [if_neg (by omega), if_neg h2]; rfl

theorem make_spec (As : Option Addr) (cs : Nat) (s : List UInt8) (w n : Int) (G : Mp) (hs : Ent G (RowAt As (Bs s))) :
    Spec Try.prog 8 #[.slice As s.length cs, .int .i64 w, .int .i64 n] [] G (OwnBE (makeL s w n).1 (makeL s w n).2) := by
  refine Spec.introC (args := [_, _, _]) wide Try.func8 rfl Try.call8 (by rfl) (by rfl) [5] (fun w0 hw0 => ?_)
  refine vcCut_of (fun _ : Unit => [(0, .slice As s.length cs), (1, .int .i64 w), (2, .int .i64 n)]) (fun _ => []) (fun _ => MT) (fun _ => s.length = 16 ∧ ¬ (w < 0 ∨ 255 < w ∨ n < 0 ∨ 72057594037927935 < n)) ?_ ?_
  · refine vcIf_ndec (fun h1 => ?_) (fun h1 => ?_)
    · exact ⟨_, _, MT, .cons .none_ .nil, fun _ _ _ => trivial, retE (makeL_70 (by omega)) (OwnBE_nil 70)⟩
    have h16 : s.length = 16 := by omega
    have e10 := fun h => @makeL_10 s w n h16 h
    refine vcIf_dec (fun h2 => ?_) (fun h2 => ?_)
    · repeat (refine vcIf_yes (by rfl) ?_)
      exact ⟨_, _, MT, .cons .none_ .nil, fun _ _ _ => trivial, retE (e10 (by omega)) (OwnBE_nil 10)⟩
    repeat (refine vcIf_no (by rfl) ?_)
    refine vcIf_dec (fun h3 => ?_) (fun h3 => ?_)
    · repeat (refine vcIf_yes (by rfl) ?_)
      exact ⟨_, _, MT, .cons .none_ .nil, fun _ _ _ => trivial, retE (e10 (by omega)) (OwnBE_nil 10)⟩
    repeat (refine vcIf_no (by rfl) ?_)
    refine vcIf_dec (fun h4 => ?_) (fun h4 => ?_)
    · repeat (refine vcIf_yes (by rfl) ?_)
      exact ⟨_, _, MT, .cons .none_ .nil, fun _ _ _ => trivial, retE (e10 (by omega)) (OwnBE_nil 10)⟩
    repeat (refine vcIf_no (by rfl) ?_)
    refine vcIf_dec (fun h5 => ?_) (fun h5 => ?_)
    · exact ⟨_, _, MT, .cons .none_ .nil, fun _ _ _ => trivial, retE (e10 (by omega)) (OwnBE_nil 10)⟩
    exact ⟨(), ⟨h16, by omega⟩, ⟨rfl, rfl, rfl, trivial⟩, ⟨_, .nil⟩, fun _ _ => trivial⟩
  rintro ⟨⟩ ⟨h16, hr⟩
  obtain ⟨w, rfl⟩ := Int.eq_ofNat_of_zero_le (show 0 ≤ w by omega)
  obtain ⟨n, rfl⟩ := Int.eq_ofNat_of_zero_le (show 0 ≤ n by omega)
  rw [makeL_0 h16 hr]
  refine vcFit_byte ?_
  intro bo
  refine vcCall_of .nil (numberR_spec n 7 (by omega) (by decide) (by decide) _) (fun v own' N' hv => ?_); obtain ⟨A1, c1, rfl, rfl, rfl, hc1⟩ := hv
  refine vcApp_of (Bs [byteI w]) _ (Bs (be 7 n)) (by first | ((repeat (first | exact .here | apply Take.there)); done) | exact .none_) rfl (by rw [Bs_length, Nat.mul_one]) (by decide) (Bs_one _) (by first | exact Ent.gnO (by repeat first | exact .here | apply Take.there) (fun w hw => Ob.sl_at hw) | exact Ent.gnO (by repeat first | exact .here | apply Take.there) (fun w hw => Ob.row_at hw)) (by rw [be_length]; decide) (by rw [be_length]; decide) (fun A2 c2 hc2 => ?_)
  rw [show 1 + (be 7 n).length = (idP w n).length from by rw [idP_length, be_length], ← Bs_append, show [byteI ↑w] ++ be 7 n = idP w n from rfl]
  have h8 := idP_length w n
  unfold idB
  generalize idP w n = p at *
  refine vcCall_of .nil (rturn_8 As A2 cs c2 s p _ (Ent.gnG hs) (Ent.gnO .here (fun w hw => Ob.sl_at hw)) (by omega) h8) (fun v own' N' hv => ?_)
  obtain ⟨A3, c3, rfl, rfl, rfl, hc3⟩ := hv
  exact ⟨_, _, MT, .cons (by first | ((repeat (first | exact .here | apply Take.there)); done) | exact .none_) .nil, fun _ _ _ => trivial, A3, c3, rfl, rfl, rfl, hc3⟩

theorem rmake_spec (As : Option Addr) (cs : Nat) (s : List UInt8) (w n : Int) (G : Mp) (hs : Ent G (RowAt As (Bs s))) :
    Spec Try.prog 12 #[.slice As s.length cs, .int .i64 w, .int .i64 n] [] G (OwnBE (makeL s w n).1 (makeL s w n).2) := by
  refine Spec.introC (args := [_, _, _]) wide Try.func12 rfl Try.call12 (by rfl) (by rfl) [5] (fun w0 hw0 => ?_)
  refine vcIf_ndec (fun h1 => ?_) (fun h1 => ?_)
  · exact ⟨_, _, MT, .cons .none_ .nil, fun _ _ _ => trivial, retE (makeL_70 (by omega)) (OwnBE_nil 70)⟩
  have h16 : s.length = 16 := by omega
  have e10 := fun h => @makeL_10 s w n h16 h
  refine vcCut_of (fun _ : Unit => [(0, .slice As s.length cs), (1, .int .i64 w), (2, .int .i64 n)]) (fun _ => []) (fun _ => MT) (fun _ => ¬ (w < 0 ∨ 255 < w ∨ n < 0 ∨ 72057594037927935 < n)) ?_ ?_
  · refine vcIf_dec (fun h2 => ?_) (fun h2 => ?_)
    · repeat (refine vcIf_yes (by rfl) ?_)
      exact ⟨_, _, MT, .cons .none_ .nil, fun _ _ _ => trivial, retE (e10 (by omega)) (OwnBE_nil 10)⟩
    repeat (refine vcIf_no (by rfl) ?_)
    refine vcIf_dec (fun h3 => ?_) (fun h3 => ?_)
    · repeat (refine vcIf_yes (by rfl) ?_)
      exact ⟨_, _, MT, .cons .none_ .nil, fun _ _ _ => trivial, retE (e10 (by omega)) (OwnBE_nil 10)⟩
    repeat (refine vcIf_no (by rfl) ?_)
    refine vcIf_dec (fun h4 => ?_) (fun h4 => ?_)
    · repeat (refine vcIf_yes (by rfl) ?_)
      exact ⟨_, _, MT, .cons .none_ .nil, fun _ _ _ => trivial, retE (e10 (by omega)) (OwnBE_nil 10)⟩
    repeat (refine vcIf_no (by rfl) ?_)
    refine vcIf_dec (fun h5 => ?_) (fun h5 => ?_)
    · exact ⟨_, _, MT, .cons .none_ .nil, fun _ _ _ => trivial, retE (e10 (by omega)) (OwnBE_nil 10)⟩
    exact ⟨(), by omega, ⟨rfl, rfl, rfl, trivial⟩, ⟨_, .nil⟩, fun _ _ => trivial⟩
  rintro ⟨⟩ hr
  obtain ⟨w, rfl⟩ := Int.eq_ofNat_of_zero_le (show 0 ≤ w by omega)
  obtain ⟨n, rfl⟩ := Int.eq_ofNat_of_zero_le (show 0 ≤ n by omega)
  rw [makeL_0 h16 hr]
  refine vcCall_of .nil (rnumberR_spec w 1 (by omega) (by decide) _) (fun v own' N' hv => ?_); obtain ⟨A0, c0, rfl, rfl, rfl, hc0⟩ := hv
  refine vcCall_of .nil (rnumberR_spec n 7 (by omega) (by decide) _) (fun v own' N' hv => ?_); obtain ⟨A1, c1, rfl, rfl, rfl, hc1⟩ := hv
  intro bp
  have e1 : pieces [(A0, c0, be 1 w), (A1, c1, be 7 n)] = idP w n := by simp [pieces, idP, be, byteI_nat]
  refine vcCall_of .nil (e1 ▸ join_spec (some ⟨bp, 0, none⟩) 2 [(A0, c0, be 1 w), (A1, c1, be 7 n)] _ (Ent.gnO .here (fun w hw => Ob.sl_at hw)) (fun p hp => by
    simp only [List.mem_cons, List.not_mem_nil, or_false] at hp
    rcases hp with rfl | rfl
    · exact (Ent.gnO (.there (.there .here)) (fun w hw => Ob.sl_at hw))
    · exact (Ent.gnO (.there .here) (fun w hw => Ob.sl_at hw))) (by rw [e1, idP_length]; decide) (by simp)) (fun v own' N' hv => ?_); obtain ⟨A2, c2, rfl, rfl, rfl, hc2⟩ := hv
  have h8 := idP_length w n
  unfold idB
  generalize idP w n = p at *
  refine vcCall_of .nil (rturn13_spec As A2 cs c2 s p _ (Ent.gnG hs) (Ent.gnO .here (fun w hw => Ob.sl_at hw)) (by omega) h8) (fun v own' N' hv => ?_)
  obtain ⟨A3, c3, rfl, rfl, rfl, hc3⟩ := hv
  exact ⟨_, _, MT, .cons (by first | ((repeat (first | exact .here | apply Take.there)); done) | exact .none_) .nil, fun _ _ _ => trivial, A3, c3, rfl, rfl, rfl, hc3⟩

def readL (s id : List UInt8) : Int × Int × Int := if s.length ≠ 16 then (0, 0, 70) else if id.length ≠ 8 then (0, 0, 61) else (((turnI s id)[0]?.getD 0).toNat, (beval 0 ((turnI s id).drop 1) : Nat), 0)
def tup3i (p : Int × Int × Int) : Value := .tuple #[.int .i64 p.1, .int .i64 p.2.1, .int .i64 p.2.2]
theorem read_spec (As Ai : Option Addr) (cs ci : Nat) (s id : List UInt8) (G : Mp) (hs : Ent G (RowAt As (Bs s))) (hi : Ent G (RowAt Ai (Bs id))) :
    Spec Try.prog 10 #[.slice As s.length cs, .slice Ai id.length ci] [] G (Ret (tup3i (readL s id))) := by
  refine Spec.introC (args := [_, _]) wide Try.func10 rfl Try.call10 (by rfl) (by rfl) [5] (fun w0 hw0 => ?_)
  refine vcCut_of (fun _ : Unit => [(0, .slice As s.length cs), (1, .slice Ai id.length ci)]) (fun _ => []) (fun _ => MT) (fun _ => s.length = 16 ∧ id.length = 8) ?_ ?_
  · refine vcIf_ndec (fun h1 => ?_) (fun h1 => ?_)
    · rw [show readL s id = (0, 0, 70) from if_pos (by omega)]
      exact ⟨[], _, MT, .nil, fun _ _ _ => trivial, rfl, rfl, rfl⟩
    refine vcIf_ndec (fun h2 => ?_) (fun h2 => ?_)
    · rw [show readL s id = (0, 0, 61) from by unfold readL; rw [if_neg (by omega), if_pos (by omega)]]
      exact ⟨[], _, MT, .nil, fun _ _ _ => trivial, rfl, rfl, rfl⟩
    exact ⟨(), ⟨by omega, by omega⟩, ⟨rfl, rfl, trivial⟩, ⟨_, .nil⟩, fun _ _ => trivial⟩
  rintro ⟨⟩ ⟨h16, h8⟩
  rw [show readL s id = ((((turnI s id)[0]?.getD 0).toNat : Int), ((beval 0 ((turnI s id).drop 1) : Nat) : Int), (0 : Int)) from by unfold readL; rw [if_neg (by omega), if_neg (by omega)]]
  refine vcCall_of .nil (rturn_8 As Ai cs ci s id _ (Ent.gnG hs) (Ent.gnG hi) (by omega) h8) (fun v own' N' hv => ?_)
  obtain ⟨A3, c3, rfl, rfl, rfl, hc3⟩ := hv
  have hx8 : (turnI s id).length = 8 := xorD_length _ _
  generalize turnI s id = b at *
  have hb7 := beval_le (b.drop 1) (by rw [List.length_drop]; omega)
  have hb0 : b[0]?.getD 0 = b[0]'(by omega) := by rw [List.getElem?_eq_getElem (by omega)]; rfl
  rw [hb0]
  have hb0l := (b[0]'(by omega)).toNat_lt
  refine vcDraw_mix [0,1,2,3,4,5,6,7,8,9] (RowAt A3 (Bs b)) (by kernel_rfl) (Ent.gnO .here (fun w hw => Ob.sl_at hw)) ?_
  refine vcIdx_nat 0 rfl Ent.refl (by omega) (by rw [Bs_length]; exact Nat.le_refl _) (fun a ha => ?_)
  subst ha
  refine vcLoad1_row (v := .int .u8 (b[0]'(by omega)).toNat) Ent.refl (Bs_get (by omega)) ?_
  refine vcFit_i64 (by omega) ?_
  refine vcSlice3_as 1 (b.drop 1).length (c3 - 1) (by rfl) (by rw [List.length_drop]; omega) (by omega) (by omega) (by rw [List.length_drop]; omega) (fun A4 hA4 => ?_)
  have hrow : ∀ w, RowAt (some a) (Bs b) w → RowAt A4 (Bs (b.drop 1)) w := fun w hw => hw.bytes hA4 (by omega) (by rw [List.take_length])
  refine vcCall_of .nil (value_spec A4 (c3 - 1) (b.drop 1) _ (Ent.mono (Ent.gnO .here (fun w hw => Ob.sl_at hw)) hrow) (by omega) (by rw [List.length_drop]; omega)) (fun v own' N' hv => ?_); obtain ⟨rfl, rfl, rfl⟩ := hv
  refine vcMix_same (Ent.gnO .here (fun w hw => Ob.sl_at hw)) ?_
  exact ⟨[], _, MT, .nil, fun _ _ _ => trivial, rfl, rfl, rfl⟩
end Go.Proofs.Ytnhkeghahiedfaa
end

section
/- Ids: the reference's Read, Reset; making and reading undo each other; awake. -/
namespace Go.Proofs.Ytnhkeghahiedfaa
open Go.Proofs
set_option maxRecDepth 10000

theorem rread_spec (As Ai : Option Addr) (cs ci : Nat) (s id : List UInt8) (G : Mp) (hs : Ent G (RowAt As (Bs s))) (hi : Ent G (RowAt Ai (Bs id))) :
    Spec Try.prog 13 #[.slice As s.length cs, .slice Ai id.length ci] [] G (Ret (tup3i (readL s id))) := by
  refine Spec.intro (args := [_, _]) wide Try.func13 rfl Try.call13 (by rfl) (by rfl) (fun w0 hw0 => ?_)
  refine vcIf_ndec (fun h1 => ?_) (fun h1 => ?_)
  · rw [show readL s id = (0, 0, 70) from if_pos (by omega)]
    exact ⟨[], _, MT, .nil, fun _ _ _ => trivial, rfl, rfl, rfl⟩
  refine vcIf_ndec (fun h2 => ?_) (fun h2 => ?_)
  · rw [show readL s id = (0, 0, 61) from by unfold readL; rw [if_neg (by omega), if_pos (by omega)]]
    exact ⟨[], _, MT, .nil, fun _ _ _ => trivial, rfl, rfl, rfl⟩
  have h16 : s.length = 16 := by omega
  have h8 : id.length = 8 := by omega
  rw [show readL s id = ((((turnI s id)[0]?.getD 0).toNat : Int), ((beval 0 ((turnI s id).drop 1) : Nat) : Int), (0 : Int)) from by unfold readL; rw [if_neg (by omega), if_neg (by omega)]]
  refine vcCall_of .nil (rturn13_spec As Ai cs ci s id _ (Ent.gnG hs) (Ent.gnG hi) (by omega) h8) (fun v own' N' hv => ?_)
  obtain ⟨A3, c3, rfl, rfl, rfl, hc3⟩ := hv
  have hx8 : (turnI s id).length = 8 := xorD_length _ _
  generalize turnI s id = b at *
  have hb7 := beval_le (b.drop 1) (by rw [List.length_drop]; omega)
  have hb0 : b[0]?.getD 0 = b[0]'(by omega) := by rw [List.getElem?_eq_getElem (by omega)]; rfl
  rw [hb0]
  have hb0l := (b[0]'(by omega)).toNat_lt
  refine vcDraw_mix [0,1,2,3,4,5,6,7,8,9] (RowAt A3 (Bs b)) (by kernel_rfl) (Ent.gnO .here (fun w hw => Ob.sl_at hw)) ?_
  refine vcIdx_nat 0 rfl Ent.refl (by omega) (by rw [Bs_length]; exact Nat.le_refl _) (fun a ha => ?_)
  subst ha
  refine vcLoad1_row (v := .int .u8 (b[0]'(by omega)).toNat) Ent.refl (Bs_get (by omega)) ?_
  refine vcFit_i64 (by omega) ?_
  refine vcSlice3_as 1 (b.drop 1).length (c3 - 1) (by rfl) (by rw [List.length_drop]; omega) (by omega) (by omega) (by rw [List.length_drop]; omega) (fun A4 hA4 => ?_)
  have hrow : ∀ w, RowAt (some a) (Bs b) w → RowAt A4 (Bs (b.drop 1)) w := fun w hw => hw.bytes hA4 (by omega) (by rw [List.take_length])
  refine vcCall_of .nil (rvalue_spec A4 (c3 - 1) (b.drop 1) _ (Ent.mono (Ent.gnO .here (fun w hw => Ob.sl_at hw)) hrow) (by omega) (by rw [List.length_drop]; omega)) (fun v own' N' hv => ?_); obtain ⟨rfl, rfl, rfl⟩ := hv
  refine vcMix_same (Ent.gnO .here (fun w hw => Ob.sl_at hw)) ?_
  exact ⟨[], _, MT, .nil, fun _ _ _ => trivial, rfl, rfl, rfl⟩

def resetB (s id : List UInt8) : List UInt8 := dig ([114, 101, 115, 101, 116] ++ s ++ id)
def resetL (s id : List UInt8) : List UInt8 × Int := if s.length ≠ 16 then ([], 70) else if 20 < id.length then ([], 61) else (resetB s id, 0)
theorem retG {s : List UInt8 × Int} {bs : List UInt8} {e : Int} (h : s = (bs, e)) {v : Value} {own : List Ob} {N : Mp} (k : GetBE bs e v own N) : GetBE s.1 s.2 v own N := by subst h; exact k
theorem GetBE_nil (e : Int) (N : Mp) : GetBE [] e (.tuple #[.slice none 0 0, .int .i64 e]) [] N := ⟨none, 0, rfl, rfl, fun _ _ => RowAt.nil, Nat.le_refl _⟩
theorem reset_spec (As Ai : Option Addr) (cs ci : Nat) (s id : List UInt8) (G : Mp) (hs : Ent G (RowAt As (Bs s))) (hi : Ent G (RowAt Ai (Bs id))) :
    Spec Try.prog 14 #[.slice As s.length cs, .slice Ai id.length ci] [] G (GetBE (resetL s id).1 (resetL s id).2) := by
  refine Spec.introC (args := [_, _]) wide Try.func14 rfl Try.call14 (by rfl) (by rfl) [5] (fun w0 hw0 => ?_)
  refine vcCut_of (fun _ : Unit => [(0, .slice As s.length cs), (1, .slice Ai id.length ci)]) (fun _ => []) (fun _ => MT) (fun _ => s.length = 16 ∧ id.length ≤ 20) ?_ ?_
  · refine vcIf_ndec (fun h1 => ?_) (fun h1 => ?_)
    · exact ⟨[], _, MT, .nil, fun _ _ _ => trivial, retG (if_pos (by omega)) (GetBE_nil 70 _)⟩
    refine vcIf_dec (fun h2 => ?_) (fun h2 => ?_)
    · exact ⟨[], _, MT, .nil, fun _ _ _ => trivial, retG (by unfold resetL; rw [if_neg (by omega), if_pos (by omega)]) (GetBE_nil 61 _)⟩
    exact ⟨(), ⟨by omega, by omega⟩, ⟨rfl, rfl, trivial⟩, ⟨_, .nil⟩, fun _ _ => trivial⟩
  rintro ⟨⟩ ⟨h16, h20⟩
  rw [show resetL s id = (resetB s id, 0) from by unfold resetL; rw [if_neg (by omega), if_neg (by omega)]]
  intro b5
  refine vcMark_of .here ?_
  intro bp
  have e : pieces [(some ⟨b5, 0, none⟩, 5, [114, 101, 115, 101, 116]), (As, cs, s), (Ai, ci, id)] = [114, 101, 115, 101, 116] ++ s ++ id := by simp [pieces]
  refine vcCall_of .nil (e ▸ digest_spec (some ⟨bp, 0, none⟩) 3 [(some ⟨b5, 0, none⟩, 5, [114, 101, 115, 101, 116]), (As, cs, s), (Ai, ci, id)] _ (Ent.gnO .here (fun w hw => Ob.sl_at hw)) (fun p hp => by
    simp only [List.mem_cons, List.not_mem_nil, or_false] at hp
    rcases hp with rfl | rfl | rfl
    · exact (Ent.gnO (.there .here) (fun w hw => Ob.sl_at hw))
    · exact Ent.gnG hs
    · exact Ent.gnG hi) (by rw [e]; simp; omega) (by simp)) (fun v own' N1 hv => ?_)
  obtain ⟨Am, cm, rfl, rfl, hrm, hcm⟩ := hv
  exact ⟨[], _, _, .nil, fun _ h _ => h, Am, cm, rfl, rfl, Ent.andR hrm, hcm⟩
theorem rreset_spec (As Ai : Option Addr) (cs ci : Nat) (s id : List UInt8) (G : Mp) (hs : Ent G (RowAt As (Bs s))) (hi : Ent G (RowAt Ai (Bs id))) :
    Spec Try.prog 15 #[.slice As s.length cs, .slice Ai id.length ci] [] G (OwnBE (resetL s id).1 (resetL s id).2) := by
  refine Spec.intro (args := [_, _]) wide Try.func15 rfl Try.call15 (by rfl) (by rfl) (fun w0 hw0 => ?_)
  refine vcIf_ndec (fun h1 => ?_) (fun h1 => ?_)
  · exact ⟨_, _, MT, .cons .none_ .nil, fun _ _ _ => trivial, retE (if_pos (by omega)) (OwnBE_nil 70)⟩
  refine vcIf_dec (fun h2 => ?_) (fun h2 => ?_)
  · exact ⟨_, _, MT, .cons .none_ .nil, fun _ _ _ => trivial, retE (by unfold resetL; rw [if_neg (by omega), if_pos (by omega)]) (OwnBE_nil 61)⟩
  rw [show resetL s id = (resetB s id, 0) from by unfold resetL; rw [if_neg (by omega), if_neg (by omega)]]
  intro b5
  refine vcMark_of .here ?_
  intro bp
  have e : pieces [(some ⟨b5, 0, none⟩, 5, [114, 101, 115, 101, 116]), (As, cs, s), (Ai, ci, id)] = [114, 101, 115, 101, 116] ++ s ++ id := by simp [pieces]
  refine vcCall_of .nil (e ▸ rdigest_spec (some ⟨bp, 0, none⟩) 3 [(some ⟨b5, 0, none⟩, 5, [114, 101, 115, 101, 116]), (As, cs, s), (Ai, ci, id)] _ (Ent.gnO .here (fun w hw => Ob.sl_at hw)) (fun p hp => by
    simp only [List.mem_cons, List.not_mem_nil, or_false] at hp
    rcases hp with rfl | rfl | rfl
    · exact (Ent.gnO (.there .here) (fun w hw => Ob.sl_at hw))
    · exact Ent.gnG hs
    · exact Ent.gnG hi) (by rw [e]; simp; omega) (by simp)) (fun v own' N1 hv => ?_)
  obtain ⟨Am, cm, rfl, rfl, rfl, hcm⟩ := hv
  exact ⟨_, _, MT, .cons .here .nil, fun _ _ _ => trivial, Am, cm, rfl, rfl, rfl, hcm⟩

theorem xorD_back (d id : List UInt8) (h : id.length = 8) : xorD d (xorD d id) = id := by
  apply List.ext_getElem
  · rw [xorD_length, h]
  · intro i h1 h2
    have hi : i < 8 := by rw [xorD_length] at h1; exact h1
    simp only [xorD, List.getElem_map, List.getElem_range, List.getElem?_map, List.getElem?_range hi, Option.map_some, Option.getD_some]
    rw [UInt8.xor_assoc, UInt8.xor_self, UInt8.xor_zero, List.getElem?_eq_getElem h2]; rfl
theorem read_make {s : List UInt8} {w n : Nat} (hs : s.length = 16) (hw : w ≤ 255) (hn : n ≤ 72057594037927935) : readL s (idB s w n) = ((w : Int), (n : Int), 0) := by
  have e : turnI s (idB s w n) = idP w n := xorD_back _ _ (idP_length w n)
  have e2 : beval 0 (be 7 n) = n := by
    rw [beval_be, show (256 : Nat) ^ 7 = 72057594037927936 from by decide]; omega
  unfold readL
  rw [if_neg (by omega), if_neg (by rw [show (idB s w n).length = 8 from xorD_length _ _]; omega), e]
  have h0 : (idP w n)[0]?.getD 0 = byteI w := rfl
  have h1 : (idP w n).drop 1 = be 7 n := rfl
  rw [h0, h1, e2, byteI_nat, ofNat_toNat _ (by omega), Nat.mod_eq_of_lt (by omega)]
theorem be_beval (l : List UInt8) : ∀ h : Nat, be l.length (beval h l) = l := by
  have key : ∀ k (l : List UInt8), l.length = k → ∀ h, be k (beval h l) = l := by
    intro k
    induction k with
    | zero => intro l hl h; rw [List.eq_nil_of_length_eq_zero hl]; rfl
    | succ k ih =>
      intro l hl h
      obtain ⟨r, x, rfl⟩ : ∃ r x, l = r ++ [x] := ⟨l.dropLast, l.getLast (by intro e; simp [e] at hl), (List.dropLast_concat_getLast _).symm⟩
      have hx := x.toNat_lt
      rw [beval_snoc, be, show (beval h r * 256 + x.toNat) / 256 = beval h r from by omega, ih r (by simpa using hl), show (beval h r * 256 + x.toNat) % 256 = x.toNat from by omega]
      simp
  exact key l.length l rfl
theorem make_read {s id : List UInt8} (hs : s.length = 16) (hi : id.length = 8) : ∃ w n : Nat, readL s id = ((w : Int), (n : Int), 0) ∧ w ≤ 255 ∧ n ≤ 72057594037927935 ∧ idB s w n = id := by
  have hx8 : (turnI s id).length = 8 := xorD_length _ _
  have hb7 := beval_le ((turnI s id).drop 1) (by rw [List.length_drop]; omega)
  have hb0 := ((turnI s id)[0]?.getD 0).toNat_lt
  refine ⟨((turnI s id)[0]?.getD 0).toNat, beval 0 ((turnI s id).drop 1), by unfold readL; rw [if_neg (by omega), if_neg (by omega)], by omega, by omega, ?_⟩
  have e : idP ((turnI s id)[0]?.getD 0).toNat (beval 0 ((turnI s id).drop 1)) = turnI s id := by
    have h7 : ((turnI s id).drop 1).length = 7 := by rw [List.length_drop]; omega
    have hb := be_beval ((turnI s id).drop 1) 0
    rw [h7] at hb
    unfold idP
    rw [hb, byteI_nat]
    generalize turnI s id = b at *
    cases b with
    | nil => simp at hx8
    | cons x r => simp
  unfold idB
  rw [e]
  exact xorD_back _ _ hi

theorem secret_spec (G : Mp) : Spec Try.prog 19 #[] [] G (OwnB [48, 49, 50, 51, 52, 53, 54, 55, 56, 57, 97, 98, 99, 100, 101, 102]) := by
  refine Spec.intro (args := []) wide Try.func19 rfl Try.call19 (by rfl) (by rfl) (fun w0 hw0 => ?_)
  intro b
  refine vcMark_of .here ?_
  exact ⟨_, _, MT, .cons .here .nil, fun _ _ _ => trivial, some ⟨b, 0, none⟩, 16, rfl, rfl, rfl, by decide⟩
theorem awake_spec (G : Mp) : Spec Try.prog 7 #[] [] G (Ret (.bool true)) := by
  refine Spec.intro (args := []) wide Try.func7 rfl Try.call7 (by rfl) (by rfl) (fun w0 hw0 => ?_)
  refine vcCall_of .nil (secret_spec _) (fun v own' N' hv => ?_); obtain ⟨A0, c0, rfl, rfl, rfl, hc0⟩ := hv
  refine vcCall_of .nil (make_spec A0 c0 _ 3 77 _ (Ent.gnO .here (fun w hw => Ob.sl_at hw))) (fun v own' N1 hv => ?_)
  rw [show makeL [48, 49, 50, 51, 52, 53, 54, 55, 56, 57, 97, 98, 99, 100, 101, 102] 3 77 = (idB [48, 49, 50, 51, 52, 53, 54, 55, 56, 57, 97, 98, 99, 100, 101, 102] 3 77, 0) from makeL_0 (w := 3) (n := 77) (by decide) (by decide)] at hv
  obtain ⟨A1, c1, rfl, rfl, rfl, hc1⟩ := hv
  refine vcCall_of .nil (secret_spec _) (fun v own' N' hv => ?_); obtain ⟨A2, c2, rfl, rfl, rfl, hc2⟩ := hv
  have h8 : (idB [48, 49, 50, 51, 52, 53, 54, 55, 56, 57, 97, 98, 99, 100, 101, 102] 3 77).length = 8 := xorD_length _ _
  have hr := read_make (s := [48, 49, 50, 51, 52, 53, 54, 55, 56, 57, 97, 98, 99, 100, 101, 102]) (w := 3) (n := 77) (by decide) (by decide) (by decide)
  generalize idB [48, 49, 50, 51, 52, 53, 54, 55, 56, 57, 97, 98, 99, 100, 101, 102] 3 77 = id at *
  refine vcCall_of .nil (read_spec A2 A1 c2 c1 _ id _ (Ent.gnO .here (fun w hw => Ob.sl_at hw)) (Ent.gnO (.there .here) (fun w hw => Ob.sl_at hw))) (fun v own' N2 hv => ?_)
  rw [hr] at hv
  obtain ⟨rfl, rfl, rfl⟩ := hv
  refine vcIf_yes (show ((id.length : Nat) : Int) = 8 by omega) ?_
  exact ⟨[], _, MT, .nil, fun _ _ _ => trivial, rfl, rfl, rfl⟩
end Go.Proofs.Ytnhkeghahiedfaa
end

section
/- The laws RouteIds and RouteApart. -/
namespace Go.Proofs.Ytnhkeghahiedfaa
open Go.Proofs
set_option maxRecDepth 10000

theorem makeL_len (s : List UInt8) (w n : Int) : (makeL s w n).1.length ≤ 8 := by
  unfold makeL
  split
  · exact Nat.zero_le _
  split
  · exact Nat.zero_le _
  · show (idB _ _ _).length ≤ 8
    rw [show (idB s w.toNat n.toNat).length = 8 from xorD_length _ _]; exact Nat.le_refl _
theorem resetL_len (s id : List UInt8) : (resetL s id).1.length ≤ 16 := by
  unfold resetL
  split
  · exact Nat.zero_le _
  split
  · exact Nat.zero_le _
  · show (dig _).length ≤ 16
    rw [dig_length]; exact Nat.le_refl _
def HasB (G : Mp) (p : Piece) : Prop := Ent G (RowAt p.1 (Bs p.2.2)) ∧ p.2.2.length ≤ p.2.1 ∧ p.2.2.length ≤ 140737488351232
def idsV (s id : Piece) (w n : Int) : Value := .agg #[pieceV s, pieceV id, .int .i64 w, .int .i64 n]
def idsC (s id : Piece) (w n : Int) : List Value := [pieceV s, pieceV id, .int .i64 w, .int .i64 n]

set_option maxHeartbeats 2000000 in
theorem ids_spec (s id : Piece) (w n : Int) (G : Mp) (hs : HasB G s) (hi : HasB G id) : Spec Try.prog 4 #[idsV s id w n] [] G (Ret (.bool true)) := by
  obtain ⟨As, cs, s⟩ := s
  obtain ⟨Ai, ci, id⟩ := id
  obtain ⟨hs, _, ls⟩ := hs
  obtain ⟨hi, _, li⟩ := hi
  simp only at hs hi ls li
  refine Spec.intro (args := [_]) wide Try.func4 rfl Try.call4 (by rfl) (by rfl) (fun w0 hw0 => ?_)
  intro bx
  refine vcDraw_quiet (by kernel_rfl) ?_
  refine vcLoad1_row (j := 0) (v := pieceV (As, cs, s)) ((Ent.gnO .here (fun w hw => Ob.row_at hw)) : Ent _ (RowAt (some ⟨bx, 0, none⟩) (idsC (As, cs, s) (Ai, ci, id) w n))) rfl ?_
  refine vcLoad1_row (j := 1) (v := pieceV (Ai, ci, id)) ((Ent.gnO .here (fun w hw => Ob.row_at hw)) : Ent _ (RowAt (some ⟨bx, 0, none⟩) (idsC (As, cs, s) (Ai, ci, id) w n))) rfl ?_
  refine vcLoad1_row (j := 2) (v := .int .i64 w) ((Ent.gnO .here (fun w hw => Ob.row_at hw)) : Ent _ (RowAt (some ⟨bx, 0, none⟩) (idsC (As, cs, s) (Ai, ci, id) w n))) rfl ?_
  refine vcLoad1_row (j := 3) (v := .int .i64 n) ((Ent.gnO .here (fun w hw => Ob.row_at hw)) : Ent _ (RowAt (some ⟨bx, 0, none⟩) (idsC (As, cs, s) (Ai, ci, id) w n))) rfl ?_
  refine vcCall_of .nil (copy_spec As cs s _ (Ent.gnG hs) (by omega)) (fun v own' N' hv => ?_); obtain ⟨A1, c1, rfl, rfl, rfl, hc1⟩ := hv
  refine vcCall_of .nil (make_spec A1 c1 s w n _ (Ent.gnO .here (fun w hw => Ob.sl_at hw))) (fun v own' N1 hv => ?_)
  obtain ⟨A2, c2, rfl, rfl, rfl, hc2⟩ := hv
  refine vcCall_of .nil (rmake_spec As cs s w n _ (Ent.gnG hs)) (fun v own' N1 hv => ?_)
  obtain ⟨A3, c3, rfl, rfl, rfl, hc3⟩ := hv
  refine vcCall_of .nil (copy_spec As cs s _ (Ent.gnG hs) (by omega)) (fun v own' N' hv => ?_); obtain ⟨A4, c4, rfl, rfl, rfl, hc4⟩ := hv
  refine vcCall_of .nil (copy_spec Ai ci id _ (Ent.gnG hi) (by omega)) (fun v own' N' hv => ?_); obtain ⟨A5, c5, rfl, rfl, rfl, hc5⟩ := hv
  refine vcCall_of .nil (read_spec A4 A5 c4 c5 s id _ (Ent.gnO (.there .here) (fun w hw => Ob.sl_at hw)) (Ent.gnO .here (fun w hw => Ob.sl_at hw))) (fun v own' N' hv => ?_); obtain ⟨rfl, rfl, rfl⟩ := hv
  refine vcCall_of .nil (rread_spec As Ai cs ci s id _ (Ent.gnG hs) (Ent.gnG hi)) (fun v own' N' hv => ?_); obtain ⟨rfl, rfl, rfl⟩ := hv
  refine vcCall_of .nil (copy_spec As cs s _ (Ent.gnG hs) (by omega)) (fun v own' N' hv => ?_); obtain ⟨A6, c6, rfl, rfl, rfl, hc6⟩ := hv
  refine vcCall_of .nil (copy_spec Ai ci id _ (Ent.gnG hi) (by omega)) (fun v own' N' hv => ?_); obtain ⟨A7, c7, rfl, rfl, rfl, hc7⟩ := hv
  refine vcCall_of .nil (reset_spec A6 A7 c6 c7 s id _ (Ent.gnO (.there .here) (fun w hw => Ob.sl_at hw)) (Ent.gnO .here (fun w hw => Ob.sl_at hw))) (fun v own' N2 hv => ?_)
  obtain ⟨A8, c8, rfl, rfl, hr8, hc8⟩ := hv
  refine vcCall_of .nil (rreset_spec As Ai cs ci s id _ (Ent.gnG hs) (Ent.gnG hi)) (fun v own' N1 hv => ?_)
  obtain ⟨A9, c9, rfl, rfl, rfl, hc9⟩ := hv
  have hl1 := makeL_len s w n
  have hl2 := resetL_len s id
  generalize makeL s w n = r1 at *
  generalize resetL s id = r2 at *
  generalize readL s id = r3 at *
  refine vcCall_of .nil (awake_spec _) (fun v own' N' hv => ?_); obtain ⟨rfl, rfl, rfl⟩ := hv
  refine vcCall_of .nil (same_spec A2 A3 c2 c3 r1.1 r1.1 _ (by first | exact Ent.gnO (by repeat first | exact .here | apply Take.there) (fun w hw => Ob.sl_at hw) | exact Ent.gnO (by repeat first | exact .here | apply Take.there) (fun w hw => Ob.row_at hw)) (by first | exact Ent.gnO (by repeat first | exact .here | apply Take.there) (fun w hw => Ob.sl_at hw) | exact Ent.gnO (by repeat first | exact .here | apply Take.there) (fun w hw => Ob.row_at hw)) (by omega)) (fun v own' N' hv => ?_); obtain ⟨rfl, rfl, rfl⟩ := hv
  refine vcIf_yes rfl ?_
  refine vcIf_yes rfl ?_
  refine vcIf_yes rfl ?_
  refine vcIf_yes rfl ?_
  refine vcIf_yes rfl ?_
  refine vcCall_of .nil (same_spec A8 A9 c8 c9 r2.1 r2.1 _ (Ent.gnN (by repeat first | exact Ent.andR hr8 | refine Ent.andL ?_)) (by first | exact Ent.gnO (by repeat first | exact .here | apply Take.there) (fun w hw => Ob.sl_at hw) | exact Ent.gnO (by repeat first | exact .here | apply Take.there) (fun w hw => Ob.row_at hw)) (by omega)) (fun v own' N' hv => ?_); obtain ⟨rfl, rfl, rfl⟩ := hv
  refine vcIf_yes rfl ?_
  refine ⟨[], _, MT, .nil, fun _ _ _ => trivial, ?_, rfl, rfl⟩
  simp [tupleOf]

set_option maxHeartbeats 2000000 in
theorem apart_spec (s id : Piece) (w n : Int) (G : Mp) (hs : HasB G s) (hi : HasB G id) : Spec Try.prog 3 #[idsV s id w n] [] G (Ret (.bool true)) := by
  obtain ⟨As, cs, s⟩ := s
  obtain ⟨Ai, ci, id⟩ := id
  obtain ⟨hs, _, ls⟩ := hs
  obtain ⟨hi, _, li⟩ := hi
  simp only at hs hi ls li
  refine Spec.introC (args := [_]) wide Try.func3 rfl Try.call3 (by rfl) (by rfl) [11] (fun w0 hw0 => ?_)
  intro bx
  refine vcDraw_quiet (by kernel_rfl) ?_
  refine vcLoad1_row (j := 0) (v := pieceV (As, cs, s)) ((Ent.gnO .here (fun w hw => Ob.row_at hw)) : Ent _ (RowAt (some ⟨bx, 0, none⟩) (idsC (As, cs, s) (Ai, ci, id) w n))) rfl ?_
  refine vcLoad1_row (j := 1) (v := pieceV (Ai, ci, id)) ((Ent.gnO .here (fun w hw => Ob.row_at hw)) : Ent _ (RowAt (some ⟨bx, 0, none⟩) (idsC (As, cs, s) (Ai, ci, id) w n))) rfl ?_
  refine vcLoad1_row (j := 2) (v := .int .i64 w) ((Ent.gnO .here (fun w hw => Ob.row_at hw)) : Ent _ (RowAt (some ⟨bx, 0, none⟩) (idsC (As, cs, s) (Ai, ci, id) w n))) rfl ?_
  refine vcLoad1_row (j := 3) (v := .int .i64 n) ((Ent.gnO .here (fun w hw => Ob.row_at hw)) : Ent _ (RowAt (some ⟨bx, 0, none⟩) (idsC (As, cs, s) (Ai, ci, id) w n))) rfl ?_
  refine vcIf_ndec (fun h16 => ?_) (fun h16 => ?_)
  · refine vcCall_of .nil (awake_spec _) (fun v own' N' hv => ?_); obtain ⟨rfl, rfl, rfl⟩ := hv
    exact ⟨[], _, MT, .nil, fun _ _ _ => trivial, rfl, rfl, rfl⟩
  have h16 : s.length = 16 := by simp only at h16; omega
  refine vcCall_of .nil (copy_spec As cs s _ (Ent.gnG hs) (by omega)) (fun v own' N' hv => ?_); obtain ⟨A1, c1, rfl, rfl, rfl, hc1⟩ := hv
  refine vcCall_of .nil (make_spec A1 c1 s w n _ (Ent.gnO .here (fun w hw => Ob.sl_at hw))) (fun v own' N1 hv => ?_)
  obtain ⟨A2, c2, rfl, rfl, rfl, hc2⟩ := hv
  refine vcCut_of (fun _ : Unit => [(3, .slice As s.length cs), (4, .slice Ai id.length ci)]) (fun _ => []) (fun _ => MT) (fun _ => True) ?_ ?_
  · by_cases hr : w < 0 ∨ 255 < w ∨ n < 0 ∨ 72057594037927935 < n
    · rw [makeL_10 h16 hr] at hc2 ⊢
      refine vcIf_dec (fun h1 => ?_) (fun h1 => ?_)
      · repeat (refine vcIf_yes (by rfl) ?_)
        refine vcIf_dec (fun h2 => ?_) (fun h2 => ?_)
        · repeat (refine vcIf_yes (by rfl) ?_)
          refine vcIf_dec (fun h3 => ?_) (fun h3 => ?_)
          · repeat (refine vcIf_yes (by rfl) ?_)
            refine vcIf_no (by omega) ?_
            exact ⟨(), trivial, ⟨rfl, rfl, trivial⟩, ⟨_, .nil⟩, fun _ _ => trivial⟩
          repeat (refine vcIf_no (by rfl) ?_)
          exact ⟨(), trivial, ⟨rfl, rfl, trivial⟩, ⟨_, .nil⟩, fun _ _ => trivial⟩
        repeat (refine vcIf_no (by rfl) ?_)
        exact ⟨(), trivial, ⟨rfl, rfl, trivial⟩, ⟨_, .nil⟩, fun _ _ => trivial⟩
      repeat (refine vcIf_no (by rfl) ?_)
      exact ⟨(), trivial, ⟨rfl, rfl, trivial⟩, ⟨_, .nil⟩, fun _ _ => trivial⟩
    · obtain ⟨w, rfl⟩ := Int.eq_ofNat_of_zero_le (show 0 ≤ w by omega)
      obtain ⟨n, rfl⟩ := Int.eq_ofNat_of_zero_le (show 0 ≤ n by omega)
      rw [makeL_0 h16 hr] at hc2 ⊢
      have h8 : (idB s w n).length = 8 := xorD_length _ _
      have hrd := read_make h16 (show w ≤ 255 by omega) (show n ≤ 72057594037927935 by omega)
      generalize idB s w n = p at *
      refine vcCall_of .nil (copy_spec As cs s _ (Ent.gnG hs) (by omega)) (fun v own' N' hv => ?_); obtain ⟨A3, c3, rfl, rfl, rfl, hc3⟩ := hv
      refine vcCall_of .nil (read_spec A3 A2 c3 c2 s p _ (Ent.gnO .here (fun w hw => Ob.sl_at hw)) (Ent.gnO (.there .here) (fun w hw => Ob.sl_at hw))) (fun v own' N2 hv => ?_)
      rw [hrd] at hv
      obtain ⟨rfl, rfl, rfl⟩ := hv
      refine vcIf_nno rfl ?_
      refine vcIf_nno rfl ?_
      refine vcIf_nno (show ((p.length : Nat) : Int) = 8 by omega) ?_
      exact ⟨(), trivial, ⟨rfl, rfl, trivial⟩, ⟨_, .nil⟩, fun _ _ => trivial⟩
  rintro ⟨⟩ _
  refine vcIf_ndec (fun h8 => ?_) (fun h8 => ?_)
  · refine vcCall_of .nil (awake_spec _) (fun v own' N' hv => ?_); obtain ⟨rfl, rfl, rfl⟩ := hv
    exact ⟨[], _, MT, .nil, fun _ _ _ => trivial, rfl, rfl, rfl⟩
  have h8 : id.length = 8 := by omega
  obtain ⟨w', n', hrd, hw', hn', hid⟩ := make_read h16 h8
  refine vcCall_of .nil (copy_spec As cs s _ (Ent.gnG hs) (by omega)) (fun v own' N' hv => ?_); obtain ⟨A3, c3, rfl, rfl, rfl, hc3⟩ := hv
  refine vcCall_of .nil (copy_spec Ai ci id _ (Ent.gnG hi) (by omega)) (fun v own' N' hv => ?_); obtain ⟨A4, c4, rfl, rfl, rfl, hc4⟩ := hv
  refine vcCall_of .nil (read_spec A3 A4 c3 c4 s id _ (Ent.gnO (.there .here) (fun w hw => Ob.sl_at hw)) (Ent.gnO .here (fun w hw => Ob.sl_at hw))) (fun v own' N2 hv => ?_)
  rw [hrd] at hv
  obtain ⟨rfl, rfl, rfl⟩ := hv
  refine vcCall_of .nil (copy_spec As cs s _ (Ent.gnG hs) (by omega)) (fun v own' N' hv => ?_); obtain ⟨A5, c5, rfl, rfl, rfl, hc5⟩ := hv
  refine vcCall_of .nil (make_spec A5 c5 s w' n' _ (Ent.gnO .here (fun w hw => Ob.sl_at hw))) (fun v own' N1 hv => ?_)
  rw [makeL_0 h16 (by omega), hid] at hv
  obtain ⟨A6, c6, rfl, rfl, rfl, hc6⟩ := hv
  refine vcCall_of .nil (same_spec A6 Ai c6 ci id id _ (Ent.gnO .here (fun w hw => Ob.sl_at hw)) (Ent.gnG hi) (by omega)) (fun v own' N' hv => ?_); obtain ⟨rfl, rfl, rfl⟩ := hv
  refine vcIf_yes rfl ?_
  refine vcCall_of .nil (awake_spec _) (fun v own' N' hv => ?_); obtain ⟨rfl, rfl, rfl⟩ := hv
  exact ⟨[], _, MT, .nil, fun _ _ _ => trivial, rfl, rfl, rfl⟩
end Go.Proofs.Ytnhkeghahiedfaa
end

section
/- Opening undoes sealing. -/
namespace Go.Proofs.Ytnhkeghahiedfaa
open Go.Proofs

theorem xor_back (x y : UInt8) : x ^^^ y ^^^ y = x := by rw [UInt8.xor_assoc, UInt8.xor_self, UInt8.xor_zero]

theorem turn_back (key nonce data : List UInt8) : turnL key nonce (turnL key nonce data) = data := by
  apply List.ext_getElem?
  intro i
  simp only [turnL, List.getElem?_map, List.getElem?_zipIdx, Option.map_map]
  cases h : data[i]? with
  | none => rfl
  | some x => simp [xor_back]
theorem seal_back {key nonce ad data : List UInt8} (h : ¬ (255 < key.length ∨ 255 < nonce.length)) (h' : ¬ (16384 < ad.length ∨ 16384 < data.length)) :
    openL key nonce ad (sealL key nonce ad data).1 = (data, 0) := by
  rw [sealL_ok h h', openL_ok (tagL_length _ _ _ _) h (by rw [turnL_length]; exact h') rfl, turn_back]

theorem sealL_length {key nonce ad plain : List UInt8} (h : ¬ (255 < key.length ∨ 255 < nonce.length)) (h' : ¬ (16384 < ad.length ∨ 16384 < plain.length)) : (sealL key nonce ad plain).1.length = plain.length + 16 := by
  rw [sealL_ok h h', List.length_append, turnL_length, tagL_length]
end Go.Proofs.Ytnhkeghahiedfaa
end

section
/- Tokens and proofs. -/
namespace Go.Proofs.Ytnhkeghahiedfaa
open Go.Proofs
set_option maxRecDepth 10000

def GetB16 (bs : List UInt8) (v : Value) (own : List Ob) (N : Mp) : Prop := ∃ A, v = .slice A 16 16 ∧ own = [] ∧ Ent N (RowAt A (Bs bs))
theorem digest16_spec (A : Option Addr) (c : Nat) (ps : List Piece) (G : Mp) (h1 : Ent G (RowAt A (ps.map pieceV))) (h2 : ∀ p ∈ ps, Ent G (RowAt p.1 (Bs p.2.2))) (hb : (pieces ps).length ≤ 140737488355328) (hl : ps.length ≤ 4611686018427387904) :
    Spec Try.prog 29 #[.slice A ps.length c] [] G (GetB16 (dig (pieces ps))) := by
  refine Spec.intro (args := [_]) wide Try.func29 rfl Try.call29 (by rfl) (by rfl) (fun w0 hw0 => ?_)
  refine vcCall_of .nil (concat_spec A c ps _ (Ent.gnG h1) (fun p hp => Ent.gnG (h2 p hp)) hb hl) (fun v own' N' hv => ?_); obtain ⟨A1, c1, rfl, rfl, rfl, hc1⟩ := hv
  refine vcCall_of .nil (pdig_spec A1 c1 (pieces ps) _ (Ent.gnO .here (fun w hw => Ob.sl_at hw)) (by omega)) (fun v own' N' hv => ?_); obtain ⟨rfl, rfl, rfl⟩ := hv
  intro b
  have htl : (Bs (dig (pieces ps))).length = 16 := by rw [Bs_length, dig_length]
  refine ⟨htl, vcStoreN_row _ .here htl (Bs_one _) ?_⟩
  refine vcRange_of (by omega) ?_
  exact ⟨[], _, RowAt (some ⟨b, 0, none⟩) (Bs (dig (pieces ps))), .nil, fun w _ ho => Ob.row_at (ho (.row b 82 (Bs (dig (pieces ps))) 16) (.head _)), some ⟨b, 0, none⟩, rfl, rfl, Ent.refl⟩

def tokD (s : List UInt8) : List UInt8 := dig ([116, 111, 107, 101, 110] ++ s)
def nonD (addr until_ : Nat) (id : List UInt8) : List UInt8 := dig ([110, 111, 110, 99, 101] ++ be 4 addr ++ be 8 until_ ++ id)
def nonT (addr until_ : Nat) (id : List UInt8) : List UInt8 := (nonD addr until_ id).take 12
theorem nonT_length (addr u : Nat) (id : List UInt8) : (nonT addr u id).length = 12 := by unfold nonT nonD; rw [List.length_take, dig_length]; rfl
theorem tokD_length (s : List UInt8) : (tokD s).length = 16 := dig_length _
def sealT (s : List UInt8) (addr u : Nat) (id : List UInt8) : List UInt8 := (sealL (tokD s) (nonT addr u id) (be 4 addr) (be 8 u ++ id)).1
def tokB (s : List UInt8) (addr u : Nat) (id : List UInt8) : List UInt8 := nonT addr u id ++ sealT s addr u id
theorem sealT_length {s : List UInt8} {addr u : Nat} {id : List UInt8} (h : id.length ≤ 20) : (sealT s addr u id).length = id.length + 24 := by
  unfold sealT
  rw [sealL_length (by rw [tokD_length, nonT_length]; omega) (by rw [be_length, List.length_append, be_length]; omega), List.length_append, be_length]; omega
theorem tokB_length {s : List UInt8} {addr u : Nat} {id : List UInt8} (h : id.length ≤ 20) : (tokB s addr u id).length = id.length + 36 := by
  unfold tokB; rw [List.length_append, nonT_length, sealT_length h]; omega

theorem tokenKey_spec (As : Option Addr) (cs : Nat) (s : List UInt8) (G : Mp) (hs : Ent G (RowAt As (Bs s))) (hl : s.length ≤ 1000000000) : Spec Try.prog 33 #[.slice As s.length cs] [] G (GetB16 (tokD s)) := by
  refine Spec.intro (args := [_]) wide Try.func33 rfl Try.call33 (by rfl) (by rfl) (fun w0 hw0 => ?_)
  intro b5
  refine vcMark_of .here ?_
  intro bp
  have e : pieces [(some ⟨b5, 0, none⟩, 5, [116, 111, 107, 101, 110]), (As, cs, s)] = [116, 111, 107, 101, 110] ++ s := by simp [pieces]
  refine vcCall_of .nil (e ▸ digest16_spec (some ⟨bp, 0, none⟩) 2 [(some ⟨b5, 0, none⟩, 5, [116, 111, 107, 101, 110]), (As, cs, s)] _ (Ent.gnO .here (fun w hw => Ob.sl_at hw)) (fun p hp => by
    simp only [List.mem_cons, List.not_mem_nil, or_false] at hp
    rcases hp with rfl | rfl
    · exact (Ent.gnO (.there .here) (fun w hw => Ob.sl_at hw))
    · exact Ent.gnG hs) (by rw [e]; simp; omega) (by simp)) (fun v own' N1 hv => ?_)
  obtain ⟨Am, rfl, rfl, hrm⟩ := hv
  exact ⟨[], _, _, .nil, fun _ h _ => h, Am, rfl, rfl, Ent.andR hrm⟩
theorem tokenNonce_spec (Ai : Option Addr) (ci : Nat) (addr u : Nat) (id : List UInt8) (G : Mp) (hi : Ent G (RowAt Ai (Bs id))) (hl : id.length ≤ 1000000000) (ha : addr < 4611686018427387904) (hu : u < 4611686018427387904) :
    Spec Try.prog 31 #[.int .i64 addr, .int .i64 u, .slice Ai id.length ci] [] G (fun v own N => ∃ A, v = .slice A 12 16 ∧ own = [] ∧ Ent N (RowAt A (Bs (nonT addr u id)))) := by
  refine Spec.intro (args := [_, _, _]) wide Try.func31 rfl Try.call31 (by rfl) (by rfl) (fun w0 hw0 => ?_)
  intro b5
  refine vcMark_of .here ?_
  refine vcCall_of .nil (numberR_spec addr 4 ha (by decide) (by decide) _) (fun v own' N' hv => ?_); obtain ⟨A1, c1, rfl, rfl, rfl, hc1⟩ := hv
  refine vcCall_of .nil (numberR_spec u 8 hu (by decide) (by decide) _) (fun v own' N' hv => ?_); obtain ⟨A2, c2, rfl, rfl, rfl, hc2⟩ := hv
  rw [be_length] at *
  intro bp
  have e : pieces [(some ⟨b5, 0, none⟩, 5, [110, 111, 110, 99, 101]), (A1, c1, be 4 addr), (A2, c2, be 8 u), (Ai, ci, id)] = [110, 111, 110, 99, 101] ++ be 4 addr ++ be 8 u ++ id := by simp [pieces]
  have hv1 : [(some ⟨b5, 0, none⟩, 5, [110, 111, 110, 99, 101]), (A1, c1, be 4 addr), (A2, c2, be 8 u), (Ai, ci, id)].map pieceV = [.slice (some ⟨b5, 0, none⟩) 5 5, .slice A1 4 c1, .slice A2 8 c2, .slice Ai id.length ci] := by simp [pieceV, be_length]
  refine vcCall_of .nil (e ▸ digest16_spec (some ⟨bp, 0, none⟩) 4 [(some ⟨b5, 0, none⟩, 5, [110, 111, 110, 99, 101]), (A1, c1, be 4 addr), (A2, c2, be 8 u), (Ai, ci, id)] _ (by rw [hv1]; exact (Ent.gnO .here (fun w hw => Ob.sl_at hw))) (fun p hp => by
    simp only [List.mem_cons, List.not_mem_nil, or_false] at hp
    rcases hp with rfl | rfl | rfl | rfl
    · exact (Ent.gnO (.there (.there (.there .here))) (fun w hw => Ob.sl_at hw))
    · exact (Ent.gnO (.there (.there .here)) (fun w hw => Ob.sl_at hw))
    · exact (Ent.gnO (.there .here) (fun w hw => Ob.sl_at hw))
    · exact Ent.gnG hi) (by rw [e]; simp [be_length]; omega) (by simp)) (fun v own' N1 hv => ?_)
  obtain ⟨Am, rfl, rfl, hrm⟩ := hv
  refine vcSlice3_as 0 12 16 rfl rfl rfl (by omega) (by omega) (fun A' hA' => ?_)
  rw [cutA_0] at hA'
  subst hA'
  refine ⟨[], _, _, .nil, fun _ h _ => h, A', rfl, rfl, Ent.andR (hrm.mono fun w hw => ?_)⟩
  rw [nonT, Bs_take]
  exact hw.take 12

theorem sealQ_spec (Ak An Aa Ap : Option Addr) (ck cn ca cp lk ln la lp : Nat) (key nonce ad plain : List UInt8) (G : Mp) (hk : Ent G (RowAt Ak (Bs key))) (hn : Ent G (RowAt An (Bs nonce))) (ha : Ent G (RowAt Aa (Bs ad))) (hp : Ent G (RowAt Ap (Bs plain))) (ek : lk = key.length) (en : ln = nonce.length) (ea : la = ad.length) (ep : lp = plain.length) :
    Spec Try.prog 32 #[.slice Ak lk ck, .slice An ln cn, .slice Aa la ca, .slice Ap lp cp] [] G (OwnBE (sealL key nonce ad plain).1 (sealL key nonce ad plain).2) := by
  subst ek; subst en; subst ea; subst ep
  exact seal_spec Ak An Aa Ap ck cn ca cp key nonce ad plain G hk hn ha hp
theorem openQ_spec (Ak An Aa As : Option Addr) (ck cn ca cs lk ln la ls : Nat) (key nonce ad s : List UInt8) (G : Mp) (hk : Ent G (RowAt Ak (Bs key))) (hn : Ent G (RowAt An (Bs nonce))) (ha : Ent G (RowAt Aa (Bs ad))) (hs : Ent G (RowAt As (Bs s))) (hcs : s.length ≤ cs) (ek : lk = key.length) (en : ln = nonce.length) (ea : la = ad.length) (es : ls = s.length) :
    Spec Try.prog 34 #[.slice Ak lk ck, .slice An ln cn, .slice Aa la ca, .slice As ls cs] [] G (OwnBE (openL key nonce ad s).1 (openL key nonce ad s).2) := by
  subst ek; subst en; subst ea; subst es
  exact open_spec Ak An Aa As ck cn ca cs key nonce ad s G hk hn ha hs hcs
def tokE (sl : Nat) (addr u : Int) (il : Nat) : Int := if sl ≠ 16 then 70 else if addr < 0 ∨ 4294967295 < addr then 131 else if u < 0 ∨ 4611686018427387903 < u then 10 else if 20 < il then 61 else 0
def tokenL (s : List UInt8) (addr u : Int) (id : List UInt8) : List UInt8 × Int := if tokE s.length addr u id.length ≠ 0 then ([], tokE s.length addr u id.length) else (tokB s addr.toNat u.toNat id, 0)
theorem tokE_0 {sl : Nat} {addr u : Int} {il : Nat} (h : tokE sl addr u il = 0) : sl = 16 ∧ (0 ≤ addr ∧ addr ≤ 4294967295) ∧ (0 ≤ u ∧ u ≤ 4611686018427387903) ∧ il ≤ 20 := by
  unfold tokE at h
  split at h
  · exact absurd h (by decide)
  split at h
  · exact absurd h (by decide)
  split at h
  · exact absurd h (by decide)
  split at h
  · exact absurd h (by decide)
  omega
theorem tokenL_e {s : List UInt8} {addr u : Int} {id : List UInt8} {e : Int} (h : tokE s.length addr u id.length = e) (he : e ≠ 0) : tokenL s addr u id = ([], e) := by subst h; exact if_pos he

theorem token_spec (As Ai : Option Addr) (cs ci : Nat) (s id : List UInt8) (addr u : Int) (G : Mp) (hs : Ent G (RowAt As (Bs s))) (hi : Ent G (RowAt Ai (Bs id))) :
    Spec Try.prog 16 #[.slice As s.length cs, .int .i64 addr, .int .i64 u, .slice Ai id.length ci] [] G (OwnBE (tokenL s addr u id).1 (tokenL s addr u id).2) := by
  refine Spec.introC (args := [_, _, _, _]) wide Try.func16 rfl Try.call16 (by rfl) (by rfl) [9] (fun w0 hw0 => ?_)
  refine vcCut_of (fun _ : Unit => [(0, .slice As s.length cs), (1, .int .i64 addr), (2, .int .i64 u), (3, .slice Ai id.length ci)]) (fun _ => []) (fun _ => MT) (fun _ => tokE s.length addr u id.length = 0) ?_ ?_
  · refine vcIf_ndec (fun h1 => ?_) (fun h1 => ?_)
    · exact ⟨_, _, MT, .cons .none_ .nil, fun _ _ _ => trivial, retE (tokenL_e (e := 70) (if_pos (by omega)) (by decide)) (OwnBE_nil 70)⟩
    have e131 := fun (h : addr < 0 ∨ 4294967295 < addr) => @tokenL_e s addr u id 131 (by unfold tokE; rw [if_neg (by omega), if_pos h]) (by decide)
    refine vcIf_dec (fun h2 => ?_) (fun h2 => ?_)
    · repeat (refine vcIf_yes (by rfl) ?_)
      exact ⟨_, _, MT, .cons .none_ .nil, fun _ _ _ => trivial, retE (e131 (by omega)) (OwnBE_nil 131)⟩
    repeat (refine vcIf_no (by rfl) ?_)
    refine vcIf_dec (fun h3 => ?_) (fun h3 => ?_)
    · exact ⟨_, _, MT, .cons .none_ .nil, fun _ _ _ => trivial, retE (e131 (by omega)) (OwnBE_nil 131)⟩
    have e10 := fun (h : u < 0 ∨ 4611686018427387903 < u) => @tokenL_e s addr u id 10 (by unfold tokE; rw [if_neg (by omega), if_neg (by omega), if_pos h]) (by decide)
    refine vcIf_dec (fun h4 => ?_) (fun h4 => ?_)
    · repeat (refine vcIf_yes (by rfl) ?_)
      exact ⟨_, _, MT, .cons .none_ .nil, fun _ _ _ => trivial, retE (e10 (by omega)) (OwnBE_nil 10)⟩
    repeat (refine vcIf_no (by rfl) ?_)
    refine vcIf_dec (fun h5 => ?_) (fun h5 => ?_)
    · exact ⟨_, _, MT, .cons .none_ .nil, fun _ _ _ => trivial, retE (e10 (by omega)) (OwnBE_nil 10)⟩
    refine vcIf_dec (fun h6 => ?_) (fun h6 => ?_)
    · exact ⟨_, _, MT, .cons .none_ .nil, fun _ _ _ => trivial, retE (tokenL_e (e := 61) (by unfold tokE; rw [if_neg (by omega), if_neg (by omega), if_neg (by omega), if_pos (by omega)]) (by decide)) (OwnBE_nil 61)⟩
    exact ⟨(), by unfold tokE; rw [if_neg (by omega), if_neg (by omega), if_neg (by omega), if_neg (by omega)], ⟨rfl, rfl, rfl, rfl, trivial⟩, ⟨_, .nil⟩, fun _ _ => trivial⟩
  rintro ⟨⟩ he
  obtain ⟨h16, ha, hu, hl⟩ := tokE_0 he
  obtain ⟨addr, rfl⟩ := Int.eq_ofNat_of_zero_le ha.1
  obtain ⟨u, rfl⟩ := Int.eq_ofNat_of_zero_le hu.1
  rw [show tokenL s addr u id = (tokB s addr u id, 0) from if_neg (by omega)]
  refine vcCall_of .nil (tokenNonce_spec Ai ci addr u id _ (Ent.gnG hi) (by omega) (by omega) (by omega)) (fun v own' N1 hv => ?_)
  obtain ⟨An, rfl, rfl, hrn⟩ := hv
  refine vcCall_of .nil (tokenKey_spec As cs s _ (Ent.gnG hs) (by omega)) (fun v own' N2 hv => ?_)
  obtain ⟨Ak, rfl, rfl, hrk⟩ := hv
  refine vcCall_of .nil (numberR_spec addr 4 (by omega) (by decide) (by decide) _) (fun v own' N' hv => ?_); obtain ⟨A1, c1, rfl, rfl, rfl, hc1⟩ := hv
  refine vcCall_of .nil (numberR_spec u 8 (by omega) (by decide) (by decide) _) (fun v own' N' hv => ?_); obtain ⟨A2, c2, rfl, rfl, rfl, hc2⟩ := hv
  have hl8 := be_length 8 u
  have hl4 := be_length 4 addr
  refine vcApp_of (Bs (be 8 u)) _ (Bs id) (by first | ((repeat (first | exact .here | apply Take.there)); done) | exact .none_) (by rw [Bs_length, Nat.mul_one]) (by rw [Bs_length, Nat.mul_one]) (by decide) (Bs_one _) (Ent.gnG hi) (by omega) (by omega) (fun A3 c3 hc3 => ?_)
  rw [← Bs_append, show (be 8 u).length + id.length = (be 8 u ++ id).length from (List.length_append ..).symm]
  have hsl := sealT_length (s := s) (addr := addr) (u := u) hl
  have hnl := nonT_length addr u id
  have htl := tokD_length s
  refine vcCall_of .nil (sealQ_spec Ak An A1 A3 16 16 c1 c3 16 12 (be 4 addr).length (be 8 u ++ id).length (tokD s) (nonT addr u id) (be 4 addr) (be 8 u ++ id) _ (Ent.gnN (by repeat first | exact Ent.andR hrk | refine Ent.andL ?_)) (Ent.gnN (by repeat first | exact Ent.andR hrn | refine Ent.andL ?_)) (Ent.gnO (.there .here) (fun w hw => Ob.sl_at hw)) (Ent.gnO .here (fun w hw => Ob.sl_at hw)) htl.symm hnl.symm rfl rfl) (fun v own' N3 hv => ?_)
  rw [show (sealL (tokD s) (nonT addr u id) (be 4 addr) (be 8 u ++ id)).1 = sealT s addr u id from rfl] at hv
  generalize (sealL (tokD s) (nonT addr u id) (be 4 addr) (be 8 u ++ id)).2 = e2 at hv
  obtain ⟨A4, c4, rfl, rfl, rfl, hc4⟩ := hv
  refine vcApp_far (Bs (nonT addr u id)) (Bs (sealT s addr u id)) (by omega) (Ent.gnN (by repeat first | exact Ent.andR hrn | refine Ent.andL ?_)) (by rw [Bs_length, hnl]) (by rw [Bs_length, Nat.mul_one]) (Bs_one _) (Ent.gnO .here (fun w hw => Ob.sl_at hw)) (by omega) (by omega) (fun b5 c5 hc5 => ?_)
  rw [← Bs_append, show 12 + (sealT s addr u id).length = (tokB s addr u id).length from by unfold tokB; rw [List.length_append, hnl]] at *
  exact ⟨_, _, MT, .cons (by first | ((repeat (first | exact .here | apply Take.there)); done) | exact .none_) .nil, fun _ _ _ => trivial, some ⟨b5, 0, none⟩, c5, rfl, rfl, rfl, hc5⟩
end Go.Proofs.Ytnhkeghahiedfaa
end

section
/- A proof of a token; the law RouteProves. -/
namespace Go.Proofs.Ytnhkeghahiedfaa
open Go.Proofs
set_option maxRecDepth 10000

theorem bequal_spec (A B : Option Addr) (c d : Nat) (xs : List UInt8) (n m : Nat) (hn : n = xs.length) (hm : m = xs.length) (G : Mp) (h1 : Ent G (RowAt A (Bs xs))) (h2 : Ent G (RowAt B (Bs xs))) : Spec Try.prog 35 #[.slice A n c, .slice B m d] [] G (Ret (.bool true)) := by
  refine Spec.intro (args := [_, _]) wide Try.func35 rfl Try.call35 (by rfl) (by rfl) (fun w0 hw0 => ?_)
  refine vcBytesStr.intro xs hn (Ent.gnG h1) ?_
  refine vcBytesStr.intro xs hm (Ent.gnG h2) ?_
  refine ⟨[], _, MT, .nil, fun _ _ _ => trivial, ?_, rfl, rfl⟩
  exact congrArg Value.bool (beq_self_eq_true _)

theorem plain_facts (u : Nat) (id : List UInt8) (hu : u ≤ 4611686018427387903) : (be 8 u ++ id).length = 8 + id.length ∧ (be 8 u ++ id).take 8 = be 8 u ∧ (be 8 u ++ id).drop 8 = id ∧ ∃ x : UInt8, (be 8 u ++ id)[0]? = some x ∧ x.toNat < 64 := by
  have h8 := be_length 8 u
  refine ⟨by rw [List.length_append, h8], List.take_left' h8, List.drop_left' h8, UInt8.ofNat (u / 256 ^ 7 % 256), ?_, ?_⟩
  · rw [be_cons]; rfl
  · rw [ofNat_toNat _ (by omega), show (256 : Nat) ^ 7 = 72057594037927936 from by decide]; omega
theorem beval8 {u : Nat} (hu : u ≤ 4611686018427387903) : beval 0 (be 8 u) = u := by
  rw [beval_be, show (256 : Nat) ^ 8 = 18446744073709551616 from by decide]; omega

theorem valueQ_spec (A : Option Addr) (c n : Nat) (bs : List UInt8) (G : Mp) (hn : n = bs.length) (h1 : Ent G (RowAt A (Bs bs))) (h7 : beval 0 bs < 4611686018427387904) (hl : bs.length ≤ 100) :
    Spec Try.prog 24 #[.slice A n c] [] G (Ret (.int .i64 (beval 0 bs : Nat))) := by
  subst hn; exact value_spec A c bs G h1 h7 hl
theorem tokenNonceQ_spec (Ai : Option Addr) (ci n : Nat) (addr u : Nat) (id : List UInt8) (G : Mp) (hn : n = id.length) (hi : Ent G (RowAt Ai (Bs id))) (hl : id.length ≤ 1000000000) (ha : addr < 4611686018427387904) (hu : u < 4611686018427387904) :
    Spec Try.prog 31 #[.int .i64 addr, .int .i64 u, .slice Ai n ci] [] G (fun v own N => ∃ A, v = .slice A 12 16 ∧ own = [] ∧ Ent N (RowAt A (Bs (nonT addr u id)))) := by
  subst hn; exact tokenNonce_spec Ai ci addr u id G hi hl ha hu
def proofR (now : Int) (u : Nat) (id : List UInt8) : List UInt8 × Int := if (u : Int) < now then ([], 130) else (id, 0)
set_option maxHeartbeats 1000000 in
theorem proof_spec (As At : Option Addr) (cs ct : Nat) (s : List UInt8) (addr u : Nat) (id : List UInt8) (now : Int) (G : Mp) (hs : Ent G (RowAt As (Bs s))) (ht : Ent G (RowAt At (Bs (tokB s addr u id)))) (h16 : s.length = 16) (ha : addr ≤ 4294967295) (hu : u ≤ 4611686018427387903) (hl : id.length ≤ 20) (hct : (tokB s addr u id).length ≤ ct) :
    Spec Try.prog 17 #[.slice As s.length cs, .int .i64 addr, .int .i64 now, .slice At (tokB s addr u id).length ct] [] G (GetBE (proofR now u id).1 (proofR now u id).2) := by
  refine Spec.intro (args := [_, _, _, _]) wide Try.func17 rfl Try.call17 (by rfl) (by rfl) (fun w0 hw0 => ?_)
  have htl := tokB_length (s := s) (addr := addr) (u := u) hl
  have hnl := nonT_length addr u id
  have hkl := tokD_length s
  have hsl := sealT_length (s := s) (addr := addr) (u := u) hl
  have hT12 : (tokB s addr u id).take 12 = nonT addr u id := List.take_left' hnl
  have hTd : (tokB s addr u id).drop 12 = sealT s addr u id := List.drop_left' hnl
  generalize tokB s addr u id = T at *
  refine vcIf_nno (by omega) ?_
  refine vcIf_no (by omega) ?_
  refine vcIf_no (by omega) ?_
  refine vcDraw_mix [0,2,3,4,6,7,1,5,8,9,10,11,12,13] MT (by kernel_rfl) (fun _ _ => trivial) ?_
  refine vcSlice3_as 0 12 ct rfl rfl (by omega) (by omega) (by omega) (fun A1 hA1 => ?_)
  rw [cutA_0] at hA1
  obtain rfl := hA1.symm
  refine vcSlice3_as 12 (T.length - 12) (ct - 12) rfl (by omega) (by omega) (by omega) (by omega) (fun A2 hA2 => ?_)
  have hr1 : Ent G (RowAt At (Bs (nonT addr u id))) := ht.mono fun w hw => by rw [← hT12, Bs_take]; exact hw.take 12
  have hr2 : Ent G (RowAt A2 (Bs (sealT s addr u id))) := ht.mono fun w hw => hTd ▸ hw.bytes hA2 (by omega) (by rw [List.take_length])
  refine vcCall_of .nil (tokenKey_spec As cs s _ (Ent.gnG hs) (by omega)) (fun v own' N1 hv => ?_)
  obtain ⟨Ak, rfl, rfl, hrk⟩ := hv
  refine vcMix_same (fun _ _ => trivial) ?_
  refine vcCall_of .nil (numberR_spec addr 4 (by omega) (by decide) (by decide) _) (fun v own' N' hv => ?_); obtain ⟨A3, c3, rfl, rfl, rfl, hc3⟩ := hv
  refine vcMix_same (fun _ _ => trivial) ?_
  refine vcCall_of .nil (openQ_spec Ak At A3 A2 16 ct c3 (ct - 12) 16 12 (be 4 addr).length (T.length - 12) (tokD s) (nonT addr u id) (be 4 addr) (sealT s addr u id) _ (Ent.gnN (by repeat first | exact Ent.andR hrk | refine Ent.andL ?_)) (Ent.gnG hr1) (Ent.gnO .here (fun w hw => Ob.sl_at hw)) (Ent.gnG hr2) (by omega) hkl.symm hnl.symm rfl (by omega)) (fun v own' N2 hv => ?_)
  have hop : openL (tokD s) (nonT addr u id) (be 4 addr) (sealT s addr u id) = (be 8 u ++ id, 0) := seal_back (by omega) (by rw [be_length, List.length_append, be_length]; omega)
  rw [hop] at hv
  obtain ⟨hpl, hp8, hpd, x, hpx, hx⟩ := plain_facts u id hu
  have hbv := beval8 hu
  rw [← hp8] at hbv
  generalize be 8 u ++ id = p at *
  obtain ⟨A5, c5, rfl, rfl, rfl, hc5⟩ := hv
  refine vcMix_same (fun _ _ => trivial) ?_
  simp only at hc5 ⊢
  refine vcIf_no (by omega) ?_
  repeat (refine vcIf_no (by rfl) ?_)
  refine vcIf_no (by omega) ?_
  repeat (refine vcIf_no (by rfl) ?_)
  refine vcIdx_nat 0 rfl (Ent.gnO .here (fun w hw => Ob.sl_at hw)) (by omega) (by rw [Bs_length]; omega) (fun a ha => ?_)
  cases ha
  refine vcLoad1_row (v := .int .u8 x.toNat) (Ent.gnO .here (fun w hw => Ob.sl_at hw)) (by simp [Bs, B, hpx]) ?_
  refine vcIf_no (by omega) ?_
  refine vcDraw_mix [0,1,3,4,2,5,6] MT (by kernel_rfl) (fun _ _ => trivial) ?_
  refine vcSlice3_as 0 8 c5 rfl rfl (by omega) (by omega) (by omega) (fun A6 hA6 => ?_)
  rw [cutA_0] at hA6
  subst hA6
  refine vcSlice3_as 8 id.length (c5 - 8) rfl (by omega) (by omega) (by omega) (by omega) (fun A7 hA7 => ?_)
  have hrow8 : ∀ w, RowAt (some a) (Bs p) w → RowAt (some a) (Bs (p.take 8)) w := fun w hw => by rw [Bs_take]; exact hw.take 8
  have hrowd : ∀ w, RowAt (some a) (Bs p) w → RowAt A7 (Bs id) w := fun w hw => hw.bytes hA7 (by omega) (by rw [hpd, List.take_length])
  refine vcCall_of .nil (valueQ_spec (some a) c5 8 (p.take 8) _ (by rw [List.length_take]; omega) (Ent.mono (Ent.gnO .here (fun w hw => Ob.sl_at hw)) hrow8) (by omega) (by rw [List.length_take]; omega)) (fun v own' N' hv => ?_); obtain ⟨rfl, rfl, rfl⟩ := hv
  rw [hbv]
  refine vcMix_same (fun _ _ => trivial) ?_
  refine vcDraw_mix [0,1,2,3,4,5,6,7,8,9,10,11,12] MT (by kernel_rfl) (fun _ _ => trivial) ?_
  refine vcIf_dec (fun hnow => ?_) (fun hnow => ?_)
  · repeat (refine vcIf_yes (by rfl) ?_)
    rw [show proofR now u id = ([], 130) from if_pos (by omega)]
    exact ⟨[], _, MT, .nil, fun _ _ _ => trivial, GetBE_nil 130 _⟩
  · rw [show proofR now u id = (id, 0) from if_neg (by omega)]
    refine vcSlice3_as 0 12 ct rfl rfl (by omega) (by omega) (by omega) (fun A8 hA8 => ?_)
    rw [cutA_0] at hA8
    obtain rfl := hA8.symm
    refine vcCall_of .nil (tokenNonceQ_spec A7 (c5 - 8) id.length addr u id _ rfl (Ent.mono (Ent.gnO .here (fun w hw => Ob.sl_at hw)) hrowd) (by omega) (by omega) (by omega)) (fun v own' N3 hv => ?_)
    obtain ⟨A9, rfl, rfl, hr9⟩ := hv
    refine vcMix_same (fun _ _ => trivial) ?_
    refine vcCall_of .nil (bequal_spec At A9 ct 16 (nonT addr u id) 12 12 hnl.symm hnl.symm _ (Ent.gnG hr1) (Ent.gnN (by repeat first | exact Ent.andR hr9 | refine Ent.andL ?_))) (fun v own' N' hv => ?_); obtain ⟨rfl, rfl, rfl⟩ := hv
    refine vcMix_same (fun _ _ => trivial) ?_
    refine ⟨[], _, RowAt A7 (Bs id), .nil, fun w _ ho => hrowd w (Ob.sl_at (ho (.sl (some a) c5 5 1 (Bs p)) (by simp))), A7, c5 - 8, rfl, rfl, Ent.refl, show id.length ≤ c5 - 8 by omega⟩

def askV (s id tok : Piece) (addr from_ u now : Int) : Value := .agg #[pieceV s, .int .i64 addr, .int .i64 from_, .int .i64 u, .int .i64 now, pieceV id, pieceV tok]
def askC (s id tok : Piece) (addr from_ u now : Int) : List Value := [pieceV s, .int .i64 addr, .int .i64 from_, .int .i64 u, .int .i64 now, pieceV id, pieceV tok]

set_option maxHeartbeats 1000000 in
theorem proves_spec (s id tok : Piece) (addr from_ u now : Int) (G : Mp) (hs : HasB G s) (hi : HasB G id) : Spec Try.prog 5 #[askV s id tok addr from_ u now] [] G (Ret (.bool true)) := by
  obtain ⟨As, cs, s⟩ := s
  obtain ⟨Ai, ci, id⟩ := id
  obtain ⟨hs, _, ls⟩ := hs
  obtain ⟨hi, _, li⟩ := hi
  simp only at hs hi ls li
  refine Spec.intro (args := [_]) wide Try.func5 rfl Try.call5 (by rfl) (by rfl) (fun w0 hw0 => ?_)
  intro bx
  refine vcDraw_mix [0,1,3,4,5,6,7,8,2,9,10,11,12,13,14,15] (RowAt (some ⟨bx, 0, none⟩) (askC (As, cs, s) (Ai, ci, id) tok addr from_ u now)) (by kernel_rfl) (Ent.gnO .here (fun w hw => Ob.row_at hw)) ?_
  refine vcLoad1_row (j := 0) (v := pieceV (As, cs, s)) Ent.refl rfl ?_
  refine vcLoad1_row (j := 1) (v := .int .i64 addr) Ent.refl rfl ?_
  refine vcLoad1_row (j := 3) (v := .int .i64 u) Ent.refl rfl ?_
  refine vcLoad1_row (j := 5) (v := pieceV (Ai, ci, id)) Ent.refl rfl ?_
  refine vcCall_of .nil (copy_spec As cs s _ (Ent.gnG hs) (by omega)) (fun v own' N' hv => ?_); obtain ⟨A1, c1, rfl, rfl, rfl, hc1⟩ := hv
  refine vcMix_same (by first | exact Ent.gnO (by repeat first | exact .here | apply Take.there) (fun w hw => Ob.sl_at hw) | exact Ent.gnO (by repeat first | exact .here | apply Take.there) (fun w hw => Ob.row_at hw)) ?_
  refine vcCall_of .nil (copy_spec Ai ci id _ (Ent.gnG hi) (by omega)) (fun v own' N' hv => ?_); obtain ⟨A2, c2, rfl, rfl, rfl, hc2⟩ := hv
  refine vcMix_same (by first | exact Ent.gnO (by repeat first | exact .here | apply Take.there) (fun w hw => Ob.sl_at hw) | exact Ent.gnO (by repeat first | exact .here | apply Take.there) (fun w hw => Ob.row_at hw)) ?_
  refine vcCall_of .nil (token_spec A1 A2 c1 c2 s id addr u _ (Ent.gnO (.there .here) (fun w hw => Ob.sl_at hw)) (Ent.gnO .here (fun w hw => Ob.sl_at hw))) (fun v own' N1 hv => ?_)
  obtain ⟨A3, c3, rfl, rfl, rfl, hc3⟩ := hv
  refine vcMix_same (by first | exact Ent.gnO (by repeat first | exact .here | apply Take.there) (fun w hw => Ob.sl_at hw) | exact Ent.gnO (by repeat first | exact .here | apply Take.there) (fun w hw => Ob.row_at hw)) ?_
  by_cases he : tokE s.length addr u id.length = 0
  · obtain ⟨h16, ha, hu, hl⟩ := tokE_0 he
    obtain ⟨addr, rfl⟩ := Int.eq_ofNat_of_zero_le ha.1
    obtain ⟨u, rfl⟩ := Int.eq_ofNat_of_zero_le hu.1
    rw [show tokenL s addr u id = (tokB s addr u id, 0) from if_neg (by omega)] at hc3 ⊢
    have htl := tokB_length (s := s) (addr := addr) (u := u) hl
    refine vcDraw_mix [0,1,3,4,5,6,7,2,8,9,10,11,12,13,14] (RowAt (some ⟨bx, 0, none⟩) (askC (As, cs, s) (Ai, ci, id) tok addr from_ u now)) (by kernel_rfl) (by first | exact Ent.gnO (by repeat first | exact .here | apply Take.there) (fun w hw => Ob.sl_at hw) | exact Ent.gnO (by repeat first | exact .here | apply Take.there) (fun w hw => Ob.row_at hw)) ?_
    refine vcLoad1_row (j := 0) (v := pieceV (As, cs, s)) Ent.refl rfl ?_
    refine vcLoad1_row (j := 1) (v := .int .i64 addr) Ent.refl rfl ?_
    refine vcLoad1_row (j := 4) (v := .int .i64 now) Ent.refl rfl ?_
    refine vcCall_of .nil (copy_spec As cs s _ (Ent.gnG hs) (by omega)) (fun v own' N' hv => ?_); obtain ⟨A4, c4, rfl, rfl, rfl, hc4⟩ := hv
    refine vcMix_same (by first | exact Ent.gnO (by repeat first | exact .here | apply Take.there) (fun w hw => Ob.sl_at hw) | exact Ent.gnO (by repeat first | exact .here | apply Take.there) (fun w hw => Ob.row_at hw)) ?_
    refine vcCall_of .nil (copy_spec A3 c3 (tokB s addr u id) _ (by first | exact Ent.gnO (by repeat first | exact .here | apply Take.there) (fun w hw => Ob.sl_at hw) | exact Ent.gnO (by repeat first | exact .here | apply Take.there) (fun w hw => Ob.row_at hw)) (by omega)) (fun v own' N' hv => ?_); obtain ⟨A5, c5, rfl, rfl, rfl, hc5⟩ := hv
    refine vcMix_same (by first | exact Ent.gnO (by repeat first | exact .here | apply Take.there) (fun w hw => Ob.sl_at hw) | exact Ent.gnO (by repeat first | exact .here | apply Take.there) (fun w hw => Ob.row_at hw)) ?_
    refine vcCall_of .nil (proof_spec A4 A5 c4 c5 s addr u id now _ (Ent.gnO (.there .here) (fun w hw => Ob.sl_at hw)) (Ent.gnO .here (fun w hw => Ob.sl_at hw)) h16 (by omega) (by omega) hl hc5) (fun v own' N2 hv => ?_)
    obtain ⟨A6, c6, rfl, rfl, hr6, hc6⟩ := hv
    refine vcMix_same (by first | exact Ent.gnO (by repeat first | exact .here | apply Take.there) (fun w hw => Ob.sl_at hw) | exact Ent.gnO (by repeat first | exact .here | apply Take.there) (fun w hw => Ob.row_at hw)) ?_
    refine vcLoad1_row (j := 4) (v := .int .i64 now) ((by first | exact Ent.gnO (by repeat first | exact .here | apply Take.there) (fun w hw => Ob.sl_at hw) | exact Ent.gnO (by repeat first | exact .here | apply Take.there) (fun w hw => Ob.row_at hw)) : Ent _ (RowAt (some ⟨bx, 0, none⟩) (askC (As, cs, s) (Ai, ci, id) tok addr from_ u now))) rfl ?_
    refine vcLoad1_row (j := 3) (v := .int .i64 u) ((by first | exact Ent.gnO (by repeat first | exact .here | apply Take.there) (fun w hw => Ob.sl_at hw) | exact Ent.gnO (by repeat first | exact .here | apply Take.there) (fun w hw => Ob.row_at hw)) : Ent _ (RowAt (some ⟨bx, 0, none⟩) (askC (As, cs, s) (Ai, ci, id) tok addr from_ u now))) rfl ?_
    refine vcIf_dec (fun hnow => ?_) (fun hnow => ?_)
    · rw [show proofR now u id = ([], 130) from if_pos (by omega)]
      refine vcCall_of .nil (awake_spec _) (fun v own' N' hv => ?_); obtain ⟨rfl, rfl, rfl⟩ := hv
      exact ⟨[], _, MT, .nil, fun _ _ _ => trivial, rfl, rfl, rfl⟩
    · rw [show proofR now u id = (id, 0) from if_neg (by omega)] at hr6 hc6 ⊢
      refine vcLoad1_row (j := 5) (v := pieceV (Ai, ci, id)) ((by first | exact Ent.gnO (by repeat first | exact .here | apply Take.there) (fun w hw => Ob.sl_at hw) | exact Ent.gnO (by repeat first | exact .here | apply Take.there) (fun w hw => Ob.row_at hw)) : Ent _ (RowAt (some ⟨bx, 0, none⟩) (askC (As, cs, s) (Ai, ci, id) tok addr from_ u now))) rfl ?_
      refine vcCall_of .nil (same_spec A6 Ai c6 ci id id _ (Ent.gnN (by repeat first | exact Ent.andR hr6 | refine Ent.andL ?_)) (Ent.gnG hi) (by omega)) (fun v own' N' hv => ?_); obtain ⟨rfl, rfl, rfl⟩ := hv
      refine vcIf_yes rfl ?_
      refine vcCall_of .nil (awake_spec _) (fun v own' N' hv => ?_); obtain ⟨rfl, rfl, rfl⟩ := hv
      exact ⟨[], _, MT, .nil, fun _ _ _ => trivial, rfl, rfl, rfl⟩
  · rw [show tokenL s addr u id = ([], tokE s.length addr u id.length) from if_pos he] at hc3 ⊢
    refine vcIf_nyes he ?_
    refine vcCall_of .nil (awake_spec _) (fun v own' N' hv => ?_); obtain ⟨rfl, rfl, rfl⟩ := hv
    exact ⟨[], _, MT, .nil, fun _ _ _ => trivial, rfl, rfl, rfl⟩
end Go.Proofs.Ytnhkeghahiedfaa
end

section
/- Picking objects, more. -/
namespace Go.Proofs.Ytnhkeghahiedfaa
open Go.Proofs
theorem Take.mem {o : Ob} : ∀ {l : List Ob}, o ∈ l → ∃ l', Take o l l' ∧ l.Perm (o :: l')
  | x :: l, h => by
    rcases List.mem_cons.1 h with rfl | h
    · exact ⟨l, .here, .refl _⟩
    · obtain ⟨l', ht, hp⟩ := Take.mem h
      exact ⟨x :: l', .there ht, (hp.cons x).trans (List.Perm.swap o x l')⟩
theorem Pick.perm : ∀ {s l r : List Ob}, (s ++ r).Perm l → ∃ r', Pick s l r' ∧ r.Perm r'
  | [], l, r, h => ⟨l, .nil, h⟩
  | o :: s, l, r, h => by
    obtain ⟨l', ht, hp⟩ := Take.mem (h.subset (List.mem_cons_self ..))
    obtain ⟨r', hk, hr⟩ := Pick.perm (s := s) (l := l') (r := r) ((List.perm_cons o).1 (h.trans hp))
    exact ⟨r', .cons ht hk, hr⟩
theorem Pick.whole : ∀ {s : List Ob}, Pick s s []
  | [] => .nil
  | _ :: _ => .cons .here Pick.whole
theorem Pick.front : ∀ {s r : List Ob}, Pick s (s ++ r) r
  | [], _ => .nil
  | _ :: _, _ => .cons .here Pick.front
theorem Take.mid {o : Ob} : ∀ {a c : List Ob}, Take o (a ++ o :: c) (a ++ c)
  | [], _ => .here
  | _ :: _, _ => .there Take.mid
theorem Pick.under {o : Ob} : ∀ {s l r : List Ob}, Pick s l r → Pick s (o :: l) (o :: r)
  | [], _, _, .nil => .nil
  | _ :: _, _, _, .cons h k => .cons (.there h) k.under
theorem Ent.mem {G : Mp} {own : List Ob} {N R : Mp} {o : Ob} (h : o ∈ own) (k : ∀ w, o.is w → R w) : Ent (GN G own N) R := fun w hw => k w (hw.2 o h)
theorem Take.app {o : Ob} {l l' : List Ob} : ∀ {a : List Ob}, Take o l l' → Take o (a ++ l) (a ++ l')
  | [], h => h
  | _ :: _, h => .there (Take.app h)
theorem Take.last {o : Ob} {l : List Ob} : Take o (l ++ [o]) l := by
  have := Take.mid (o := o) (a := l) (c := [])
  rwa [List.append_nil] at this
theorem Take.eq {o o' : Ob} {l : List Ob} (h : o = o') : Take o (o' :: l) l := by subst h; exact .here
end Go.Proofs.Ytnhkeghahiedfaa
end

section
/- RouteAsked, plain: an asking packet is read back. -/
namespace Go.Proofs.Ytnhkeghahiedfaa
open Go.Proofs
set_option maxRecDepth 10000

theorem takeP_pre (pre xs ys : List UInt8) : takeP (pre ++ (xs ++ ys)) xs.length pre.length = .ok (xs, (pre ++ xs).length) := by
  unfold takeP
  rw [if_neg (by simp only [List.length_append]; omega), List.drop_left, List.take_left, List.length_append]
theorem takeP_pre1 (pre : List UInt8) (x : UInt8) (ys : List UInt8) : takeP (pre ++ (x :: ys)) 1 pre.length = .ok ([x], (pre ++ [x]).length) := takeP_pre pre [x] ys
theorem numP_pre (pre ys : List UInt8) (n : Nat) (hn : n < 4611686018427387904) : numP (pre ++ (vput n ++ ys)) pre.length = .ok (n, (pre ++ vput n).length) := by
  have hf : hasForm (n : Int) := ⟨by omega, by omega⟩
  have hv : vput (n : Int) = vputN n := by unfold vput; rw [if_pos hf, Int.toNat_natCast]
  rw [hv]
  unfold numP
  rw [vget_form hn, if_neg (fun h => h rfl), List.length_append, vputN_length]
  simp only [Int.toNat_natCast]
theorem byteI_len (l : List UInt8) (h : l.length ≤ 20) : (byteI l.length).toNat = l.length := by rw [byteI_nat, ofNat_toNat _ (by omega)]; omega
theorem cidP_pre (pre l ys : List UInt8) (h : l.length ≤ 20) : cidP (pre ++ (byteI l.length :: (l ++ ys))) pre.length = .ok (l, (pre ++ [byteI l.length] ++ l).length) := by
  unfold cidP
  rw [takeP_pre1]
  have e : beval 0 [byteI l.length] = l.length := by simp [beval, byteI_len l h]
  simp only [e]
  rw [if_neg (by omega)]
  have := takeP_pre (pre ++ [byteI l.length]) l ys
  rw [List.append_assoc, List.singleton_append] at this
  exact this
/-- An asking packet. -/
def askB (peer id tok : List UInt8) : List UInt8 := [192, 0, 0, 0, 1, byteI id.length] ++ id ++ [byteI peer.length] ++ peer ++ vput tok.length ++ tok ++ [67, 232] ++ List.replicate 1200 0
theorem vput_1000 : vput 1000 = [67, 232] := by decide
theorem ask_len (peer id tok : List UInt8) : (askB peer id tok).length = 1209 + id.length + peer.length + (vput tok.length).length + tok.length := by
  simp only [askB, List.length_append, List.length_cons, List.length_nil, List.length_replicate]
  omega
theorem ask_parse (peer id tok : List UInt8) (hi : id.length ≤ 20) (hp : peer.length ≤ 20) (ht : tok.length ≤ 16384) : ∃ st en, parseL (askB peer id tok) 8 = .ok (⟨1, 1, id, peer, tok, [], 1000⟩, st, en) := by
  obtain ⟨f, hfe⟩ : ∃ f : UInt8, f = 192 := ⟨_, rfl⟩
  have hf : f.toNat = 192 := by rw [hfe]; rfl
  have hkn : kindN f = 1 := by unfold kindN; omega
  obtain ⟨rest, hrest⟩ : ∃ rest : List UInt8, rest = List.replicate 1200 0 := ⟨_, rfl⟩
  have hrl : rest.length = 1200 := by rw [hrest, List.length_replicate]
  obtain ⟨bs, hbs⟩ : ∃ bs, bs = f :: ([0, 0, 0, 1] ++ (byteI id.length :: (id ++ (byteI peer.length :: (peer ++ (vput tok.length ++ (tok ++ (vput 1000 ++ rest)))))))) := ⟨_, rfl⟩
  have e : askB peer id tok = bs := by rw [hbs, hfe, hrest, vput_1000]; simp [askB]
  obtain ⟨p4, hp4⟩ : ∃ p, p = [f] ++ [0, 0, 0, 1] ++ [byteI id.length] ++ id ++ [byteI peer.length] ++ peer := ⟨_, rfl⟩
  have hb4 : bs = p4 ++ (vput tok.length ++ (tok ++ (vput 1000 ++ rest))) := by rw [hbs, hp4]; simp
  have h1 : takeP bs 1 0 = .ok ([f], 1) := by rw [hbs]; exact takeP_pre1 [] f _
  have h2 : wordP bs 1 = .ok (1, 5) := by
    have := takeP_pre [f] [0, 0, 0, 1] (byteI id.length :: (id ++ (byteI peer.length :: (peer ++ (vput tok.length ++ (tok ++ (vput 1000 ++ rest)))))))
    unfold wordP
    rw [hbs, show takeP (f :: ([0, 0, 0, 1] ++ (byteI id.length :: (id ++ (byteI peer.length :: (peer ++ (vput tok.length ++ (tok ++ (vput 1000 ++ rest))))))))) 4 1 = _ from this]
    rfl
  have h3 : cidP bs 5 = .ok (id, ([f] ++ [0, 0, 0, 1] ++ [byteI id.length] ++ id).length) := by
    have := cidP_pre ([f] ++ [0, 0, 0, 1]) id (byteI peer.length :: (peer ++ (vput tok.length ++ (tok ++ (vput 1000 ++ rest))))) hi
    rw [hbs]
    exact this
  have h4 : cidP bs ([f] ++ [0, 0, 0, 1] ++ [byteI id.length] ++ id).length = .ok (peer, p4.length) := by
    have := cidP_pre ([f] ++ [0, 0, 0, 1] ++ [byteI id.length] ++ id) peer (vput tok.length ++ (tok ++ (vput 1000 ++ rest))) hp
    rw [hp4, ← this]
    congr 1
    all_goals (rw [hbs]; simp)
  have h5 : tokP bs f p4.length = .ok (tok, (p4 ++ vput tok.length ++ tok).length) := by
    unfold tokP
    have hb6 : bs = (p4 ++ vput tok.length) ++ (tok ++ (vput 1000 ++ rest)) := by rw [hb4]; simp
    have hn1 : numP bs p4.length = .ok (tok.length, (p4 ++ vput tok.length).length) := by rw [hb4]; exact numP_pre p4 _ _ (by omega)
    have ht1 : takeP bs tok.length (p4 ++ vput tok.length).length = .ok (tok, (p4 ++ vput tok.length ++ tok).length) := by rw [hb6]; exact takeP_pre _ _ _
    rw [if_pos hkn, hn1]
    simp only
    rw [ht1]
  have h6 : lenP bs tok (p4 ++ vput tok.length ++ tok).length = .ok (tok, 1000, (p4 ++ vput tok.length ++ tok ++ vput 1000).length) := by
    have hb7 : bs = (p4 ++ vput tok.length ++ tok) ++ (vput ((1000 : Nat) : Int) ++ rest) := by rw [hb4]; simp
    have hn1 : numP bs (p4 ++ vput tok.length ++ tok).length = .ok (1000, (p4 ++ vput tok.length ++ tok ++ vput 1000).length) := by
      conv => lhs; rw [hb7]
      exact numP_pre _ _ 1000 (by omega)
    have hlen : bs.length = (p4 ++ vput tok.length ++ tok ++ vput 1000).length + rest.length := by
      rw [hb7]
      simp only [List.length_append]
      show _ + ((vput 1000).length + rest.length) = _
      omega
    unfold lenP
    rw [hn1]
    simp only
    rw [if_neg (by omega)]
  have h7 : kindP bs f p4.length = .ok (tok, 1000, (p4 ++ vput tok.length ++ tok ++ vput 1000).length) := by
    unfold kindP
    rw [if_neg (by omega), h5]
    exact h6
  have h8 : restP bs f 1 id peer p4.length = .ok (⟨1, 1, id, peer, tok, [], 1000⟩, (p4 ++ vput tok.length ++ tok ++ vput 1000).length) := by
    unfold restP
    rw [if_neg (by decide), if_pos rfl, if_neg (by omega), h7, hkn]
    rfl
  have hP : parseP bs 8 = if f.toNat < 128 then shortP bs 8 f 1 else longP bs f 1 := by
    unfold parseP
    rw [h1]
    rfl
  refine ⟨(p4 ++ vput tok.length ++ tok ++ vput 1000).length, (p4 ++ vput tok.length ++ tok ++ vput 1000).length + 1000, ?_⟩
  rw [e]
  unfold parseL
  rw [if_neg (by decide), show (8 : Int).toNat = 8 from rfl, hP, if_neg (by omega)]
  unfold longP
  rw [h2]
  simp only
  rw [h3]
  simp only
  rw [h4]
  simp only
  rw [h8]
  simp only [endP]
  rw [if_pos (by decide)]
end Go.Proofs.Ytnhkeghahiedfaa
end

section
/- RouteAsked: asking packets, tables, ids. -/
namespace Go.Proofs.Ytnhkeghahiedfaa
open Go.Proofs
set_option maxRecDepth 10000

theorem vput_le9 (n : Int) : (vput n).length ≤ 8 := by rw [vput_length]; exact vsize_le n
theorem asked_spec (peer id tok : Piece) (G : Mp) (hp : Ent G (RowAt peer.1 (Bs peer.2.2))) (hi : Ent G (RowAt id.1 (Bs id.2.2))) (ht : Ent G (RowAt tok.1 (Bs tok.2.2))) (lp : peer.2.2.length ≤ 1000) (li : id.2.2.length ≤ 1000) (lt : tok.2.2.length ≤ 100000) :
    Spec Try.prog 21 #[pieceV peer, pieceV id, pieceV tok] [] G (OwnB (askB peer.2.2 id.2.2 tok.2.2)) := by
  refine Spec.intro (args := [_, _, _]) wide Try.func21 rfl Try.call21 (by rfl) (by rfl) (fun w0 hw0 => ?_)
  refine vcFit_byte ?_
  intro b1
  refine vcFit_byte ?_
  intro b2
  refine vcCall_of .nil (rput_spec tok.2.2.length _) (fun v own' N' hv => ?_)
  obtain ⟨A3, c3, rfl, rfl, rfl, hc3⟩ := hv
  intro b4 b5
  have hv9 := vput_le9 tok.2.2.length
  obtain ⟨ps, hps⟩ : ∃ ps : List Piece, ps = [(some ⟨b1, 0, none⟩, 6, [192, 0, 0, 0, 1, byteI id.2.2.length]), id, (some ⟨b2, 0, none⟩, 1, [byteI peer.2.2.length]), peer, (A3, c3, vput tok.2.2.length), tok, (some ⟨b4, 0, none⟩, 2, [67, 232])] := ⟨_, rfl⟩
  have e : pieces ps = [192, 0, 0, 0, 1, byteI id.2.2.length] ++ id.2.2 ++ [byteI peer.2.2.length] ++ peer.2.2 ++ vput tok.2.2.length ++ tok.2.2 ++ [67, 232] := by rw [hps]; simp [pieces]
  have el : (pieces ps).length ≤ 110000 := by
    rw [e]; simp only [List.length_append, List.length_cons, List.length_nil]; omega
  have hj : ∀ G' : Mp, Ent G' (RowAt (some ⟨b5, 0, none⟩) (ps.map pieceV)) → (∀ p ∈ ps, Ent G' (RowAt p.1 (Bs p.2.2))) → Spec Try.prog 26 #[.slice (some ⟨b5, 0, none⟩) 7 7] [] G' (OwnB (pieces ps)) := fun G' a1 a2 => by
    have h := join_spec (some ⟨b5, 0, none⟩) 7 ps G' a1 a2 (by omega) (by rw [hps]; simp)
    rw [show ps.length = 7 from by rw [hps]; rfl] at h
    exact h
  refine vcCall_of .nil (hj _ (by rw [hps]; exact Ent.gnO .here (fun w hw => Ob.sl_at hw)) (fun p hp' => ?_)) (fun v own' N' hv => ?_)
  · rw [hps] at hp'
    simp only [List.mem_cons, List.not_mem_nil, or_false] at hp'
    rcases hp' with rfl | rfl | rfl | rfl | rfl | rfl | rfl
    · exact Ent.gnO (.there (.there (.there (.there .here)))) (fun w hw => Ob.sl_at hw)
    · exact Ent.gnG hi
    · exact Ent.gnO (.there (.there (.there .here))) (fun w hw => Ob.sl_at hw)
    · exact Ent.gnG hp
    · exact Ent.gnO (.there (.there .here)) (fun w hw => Ob.sl_at hw)
    · exact Ent.gnG ht
    · exact Ent.gnO (.there .here) (fun w hw => Ob.sl_at hw)
  obtain ⟨A6, c6, rfl, rfl, rfl, hc6⟩ := hv
  refine vcAppZ_of (Bs (pieces ps)) _ 1200 rfl .here (by rw [Bs_length, Nat.mul_one]) (by decide) (by simp [oneCell]) (by omega) (by omega) (fun A7 c7 hc7 => ?_)
  rw [Bs_zeros, ← Bs_append]
  have hask : pieces ps ++ List.replicate 1200 0 = askB peer.2.2 id.2.2 tok.2.2 := by rw [e]; rfl
  have hlen : (pieces ps).length + 1200 = (askB peer.2.2 id.2.2 tok.2.2).length := by rw [← hask, List.length_append, List.length_replicate]
  rw [hask]
  rw [hlen] at hc7 ⊢
  exact ⟨_, _, MT, .cons .here .nil, fun _ _ _ => trivial, A7, c7, rfl, rfl, rfl, hc7⟩
theorem short_spec2 (A : Option Addr) (c : Nat) (xs : List UInt8) (G : Mp) (h1 : Ent G (RowAt A (Bs xs))) (hx : xs.length ≤ 70368744177664) : Spec Try.prog 40 #[.slice A xs.length c] [] G (OwnB (byteI xs.length :: xs)) := by
  refine Spec.intro (args := [_]) wide Try.func40 rfl Try.call40 (by rfl) (by rfl) (fun w0 hw0 => ?_)
  refine vcFit_byte ?_
  intro b
  refine vcApp_of (Bs [byteI xs.length]) _ (Bs xs) .here rfl (by simp [Bs_length]) (by omega) (Bs_one xs) (Ent.gnG h1) (by omega) (by omega) (fun A' cap' hc => ?_)
  refine ⟨_, [], MT, .cons .here .nil, fun _ _ _ => trivial, A', cap', ?_, ?_, rfl, ?_⟩
  · show Value.slice A' (1 + xs.length) cap' = _; rw [Nat.add_comm]; rfl
  · rw [← Bs_append]; rfl
  · simp; omega

/-- A table with no ids yet. -/
def tbL (s : Piece) (n : Int) (m1 m2 : Nat) : List Value := [pieceV s, .int .i64 9, .int .i64 3, .bool true, .int .i64 n, .map (some m1), .map (some m2)]
def tbR (b : Nat) (s : Piece) (n : Int) (m1 m2 : Nat) : Ob := .row b 67 (tbL s n m1 m2) 7
def tbO (b : Nat) (s : Piece) (n : Int) (m1 m2 : Nat) : List Ob := [tbR b s n m1 m2, .map m1 [] 0, .sl s.1 s.2.1 5 1 (Bs s.2.2)]
theorem new_spec (s : Piece) (G : Mp) (hs : Ent G (RowAt s.1 (Bs s.2.2))) (h16 : s.2.2.length = 16) :
    Spec Try.prog 18 #[.agg #[pieceV s, .int .i64 9, .int .i64 3, .bool true]] [] G (fun v own N => ∃ b A c m1 m2, v = .tuple #[.pointer (some ⟨b, 0, none⟩), .int .i64 0] ∧ own = tbO b (A, c, s.2.2) 0 m1 m2 ∧ N = MT) := by
  refine Spec.intro (args := [_]) wide Try.func18 rfl Try.call18 (by rfl) (by rfl) (fun w0 hw0 => ?_)
  intro b1
  obtain ⟨cl, hcl⟩ : ∃ cl : List Value, cl = [pieceV s, .int .i64 9, .int .i64 3, .bool true] := ⟨_, rfl⟩
  refine vcLoad1_row (j := 0) (v := pieceV s) (xs := [pieceV s, .int .i64 9, .int .i64 3, .bool true]) (Ent.gnO .here (fun w hw => Ob.row_at hw)) rfl ?_
  refine vcIf_nno (by show ((s.2.2.length : Nat) : Int) = 16; omega) ?_
  refine vcLoad1_row (j := 1) (v := .int .i64 9) (xs := [pieceV s, .int .i64 9, .int .i64 3, .bool true]) (Ent.gnO .here (fun w hw => Ob.row_at hw)) rfl ?_
  refine vcLoad1_row (j := 1) (v := .int .i64 9) (xs := [pieceV s, .int .i64 9, .int .i64 3, .bool true]) (Ent.gnO .here (fun w hw => Ob.row_at hw)) rfl ?_
  refine vcLoad1_row (j := 2) (v := .int .i64 3) (xs := [pieceV s, .int .i64 9, .int .i64 3, .bool true]) (Ent.gnO .here (fun w hw => Ob.row_at hw)) rfl ?_
  refine vcLoad1_row (j := 2) (v := .int .i64 3) (xs := [pieceV s, .int .i64 9, .int .i64 3, .bool true]) (Ent.gnO .here (fun w hw => Ob.row_at hw)) rfl ?_
  refine vcLoad1_row (j := 0) (v := pieceV s) (xs := [pieceV s, .int .i64 9, .int .i64 3, .bool true]) (Ent.gnO .here (fun w hw => Ob.row_at hw)) rfl ?_
  refine vcCall_of .nil (clone_spec s.1 s.2.1 s.2.2 _ (Ent.gnG hs) (by omega)) (fun v own' N' hv => ?_)
  obtain ⟨A1, c1, rfl, rfl, rfl, hc1⟩ := hv
  refine vcStore1_1 (.row b1 51 [pieceV s, .int .i64 9, .int .i64 3, .bool true] 4) _ (.there .here) rfl (by show (0 : Nat) < 4; decide) rfl ?_
  refine vcLoadN_0 (xs := [.slice A1 s.2.2.length c1, .int .i64 9, .int .i64 3, .bool true]) (Ent.gnO .here (fun w hw => Ob.row_at hw)) rfl ?_
  intro m1 m2 b
  exact ⟨tbO b (A1, c1, s.2.2) 0 m1 m2, _, MT, .cons .here (.cons (.there .here) (.cons (.there (.there .here)) .nil)), fun _ _ _ => trivial, b, A1, c1, m1, m2, rfl, rfl, rfl⟩
theorem next_spec (b : Nat) (s : Piece) (m1 m2 : Nat) (G : Mp) (h16 : s.2.2.length = 16) :
    Spec Try.prog 60 #[.pointer (some ⟨b, 0, none⟩)] (tbO b s 0 m1 m2) G (fun v own N => ∃ A c, v = .slice A (idB s.2.2 9 0).length c ∧ own = tbO b s 1 m1 m2 ++ [.sl A c 5 1 (Bs (idB s.2.2 9 0))] ∧ N = MT ∧ (idB s.2.2 9 0).length ≤ c) := by
  refine Spec.intro (args := [_]) wide Try.func60 rfl Try.call60 (by rfl) (by rfl) (fun w0 hw0 => ?_)
  refine vcDraw_mix [0,1,2,3,4,5,6,7,8,9,10,11,12,13,14,15,16,17,18,19] (RowAt (some ⟨b, 0, none⟩) (tbL s 0 m1 m2)) (by kernel_rfl) (Ent.gnO .here (fun w hw => Ob.row_at hw)) ?_
  refine vcLoad1_2 (v := pieceV s) (xs := tbL s 0 m1 m2) Ent.refl rfl ?_
  refine vcLoad1_2 (v := .int .i64 9) (xs := tbL s 0 m1 m2) Ent.refl rfl ?_
  refine vcLoad1_row (j := 4) (v := .int .i64 0) Ent.refl rfl ?_
  refine vcCall_of .nil (make_spec s.1 s.2.1 s.2.2 9 0 _ (Ent.gnO (o := .sl s.1 s.2.1 5 1 (Bs s.2.2)) (.there (.there .here)) (fun w hw => Ob.sl_at hw))) (fun v own' N' hv => ?_)
  rw [show makeL s.2.2 9 0 = (idB s.2.2 9 0, 0) from makeL_0 (w := 9) (n := 0) h16 (by decide)] at hv
  obtain ⟨A1, c1, rfl, rfl, rfl, hc1⟩ := hv
  refine vcMix_same (Ent.gnO (.there .here) (fun w hw => Ob.row_at hw)) ?_
  refine vcLoad1_row (j := 4) (v := .int .i64 0) (xs := tbL s 0 m1 m2) (Ent.gnO (.there .here) (fun w hw => Ob.row_at hw)) rfl ?_
  refine vcFit_i64 (by decide) ?_
  refine vcStore1_1 (tbR b s 0 m1 m2) _ (.there .here) rfl (by show (4 : Nat) < 7; decide) rfl ?_
  exact ⟨tbO b s 1 m1 m2 ++ [.sl A1 c1 5 1 (Bs (idB s.2.2 9 0))], _, MT, .cons .here (.cons (.there .here) (.cons (.there .here) (.cons .here .nil))), fun _ _ _ => trivial, A1, c1, rfl, rfl, rfl, hc1⟩
end Go.Proofs.Ytnhkeghahiedfaa
end
