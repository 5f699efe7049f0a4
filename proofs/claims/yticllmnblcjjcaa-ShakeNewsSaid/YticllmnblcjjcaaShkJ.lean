/- Layer 10: copied, made. -/
import Derived.Test.YticllmnblcjjcaaShkI
namespace Go.Proofs.Yticllmnblcjjcaa
open Go.Proofs
set_option maxRecDepth 10000

theorem psL_le : ∀ (ps : List ByteArray), (∀ p ∈ ps, p.size ≤ 32) → (psL ps).length ≤ 33 * ps.length
  | [], _ => Nat.zero_le _
  | p :: r, h => by
    have h1 := psL_le r (fun q hq => h q (.tail _ hq))
    have h2 := h p (.head _)
    have h3 : p.data.toList.length = p.size := by rw [Array.length_toList]; rfl
    simp only [psL, List.flatMap_cons, List.length_append, txt, List.length_cons] at h1 ⊢
    omega
theorem hi0_le {server : Bool} {r : Nat → UInt8} {priv : Int} {ps : List ByteArray} {par : List UInt8} (h : goodC priv ps par) : (hi0 server r priv ps par).length ≤ 1400 := by
  unfold hi0
  split
  · exact Nat.zero_le _
  · rw [msg_length]
    have h1 := psL_le ps (fun p hp => (h.2.2.1.2.2 p hp).2)
    have h2 := h.2.2.1.2.1
    have h3 := h.2.2.2
    simp only [bodyL, lng, List.length_append, helloL_len, List.length_cons, List.length_nil]
    omega
theorem copied_spec (server : Bool) (r : Nat → UInt8) (priv : Int) (pA : Option Addr) (pc : Nat) (ps : List ByteArray) (par : Piece) (G : Mp) (h1 : Ent G (RowAt pA (stL ps))) (h2 : Ent G (RowAt par.1 (Bs par.2.2))) (hl : ps.length ≤ 8796093021952) (hl2 : par.2.2.length ≤ 281474976710656) :
    Spec Try.prog 10 #[.agg (cfL server r priv pA pc ps par).toArray] [] G (fun v own N => ∃ pA2 pc2 pp pcc, v = .agg (cfL server r priv pA2 pc2 ps (pp, pcc, par.2.2)).toArray ∧ own = [.sl pA2 pc2 9 1 (stL ps), pO (pp, pcc, par.2.2)] ∧ N = MT) := by
  refine Spec.intro (args := [_]) wide Try.func10 rfl Try.call10 (by rfl) (by rfl) (fun w0 hw0 => ?_)
  intro b1 b2
  refine vcLoad1_row (j := 35) (v := pieceV par) (xs := cfL server r priv pA pc ps par) (Ent.gnO (.there .here) (fun w hw => Ob.row_at hw)) rfl ?_
  refine vcCall_of .nil (copy_spec par.1 par.2.1 par.2.2 _ (Ent.gnG h2) hl2) (fun v own' N' hv => ?_)
  obtain ⟨pp, pcc, rfl, rfl, rfl, hpcc⟩ := hv
  refine vcStore1_eq (.row b1 26 (cfL server r priv pA pc ps par) 36) (.row b1 26 (cfL server r priv pA pc ps (pp, pcc, par.2.2)) 36) _ (.there (.there .here)) rfl (by show (35 : Nat) < 36; decide) rfl rfl ?_
  intro b3
  refine vcLoad1_row (j := 34) (v := .slice pA ps.length pc) (xs := cfL server r priv pA pc ps (pp, pcc, par.2.2)) (Ent.gnO (.there .here) (fun w hw => Ob.row_at hw)) rfl ?_
  refine vcApp_of [] _ (stL ps) .here rfl (by rw [stL_len]; exact (Nat.mul_one _).symm) (by decide) (stL_one ps) (Ent.gnG h1) (by omega) (by omega) (fun pA2 pc2 hpc2 => ?_)
  rw [Nat.zero_add, List.nil_append]
  refine vcStore1_eq (.row b1 26 (cfL server r priv pA pc ps (pp, pcc, par.2.2)) 36) (.row b1 26 (cfL server r priv pA2 pc2 ps (pp, pcc, par.2.2)) 36) _ (.there .here) rfl (by show (34 : Nat) < 36; decide) rfl rfl ?_
  refine vcLoadN_0 (xs := cfL server r priv pA2 pc2 ps (pp, pcc, par.2.2)) (Ent.gnO .here (fun w hw => Ob.row_at hw)) rfl ?_
  refine ⟨rfl, vcStoreN_row (vs := cfL server r priv pA2 pc2 ps (pp, pcc, par.2.2)) _ (.there (.there (.there .here))) rfl ?_ ?_⟩
  · intro v hv
    simp only [cfL, List.mem_cons, List.mem_append, List.not_mem_nil, or_false] at hv
    rcases hv with rfl | hv | rfl | rfl | rfl
    · rfl
    · exact Bs_one _ v hv
    all_goals rfl
  refine vcLoadN_0 (xs := cfL server r priv pA2 pc2 ps (pp, pcc, par.2.2)) (Ent.gnO .here (fun w hw => Ob.row_at hw)) rfl ?_
  exact ⟨[.sl pA2 pc2 9 1 (stL ps), pO (pp, pcc, par.2.2)], _, MT, .cons (by first | ((repeat (first | exact .here | apply Take.there)); done) | exact .none_) (.cons (by first | ((repeat (first | exact .here | apply Take.there)); done) | exact .none_) .nil), fun _ _ _ => trivial, pA2, pc2, pp, pcc, rfl, rfl, rfl⟩
end Go.Proofs.Yticllmnblcjjcaa
