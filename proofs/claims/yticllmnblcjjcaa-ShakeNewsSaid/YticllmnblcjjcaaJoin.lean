/- The reference's Join. -/
import Derived.Test.YticllmnblcjjcaaLib
namespace Go.Proofs.Yticllmnblcjjcaa
open Go.Proofs
set_option maxRecDepth 10000

/-- A piece: where it lies, its room, its bytes. -/
abbrev Piece := Option Addr × Nat × List UInt8
def pieceV (p : Piece) : Value := .slice p.1 p.2.2.length p.2.1
def pieces (ps : List Piece) : List UInt8 := ps.flatMap fun p => p.2.2
theorem pieces_le (ps : List Piece) (k : Nat) : (pieces (ps.take k)).length ≤ (pieces ps).length := by
  have : pieces ps = pieces (ps.take k) ++ pieces (ps.drop k) := by
    unfold pieces; rw [← List.flatMap_append, List.take_append_drop]
  rw [this]; simp

theorem join_spec (A : Option Addr) (c : Nat) (ps : List Piece) (G : Mp) (h1 : Ent G (RowAt A (ps.map pieceV))) (h2 : ∀ p ∈ ps, Ent G (RowAt p.1 (Bs p.2.2))) (hb : (pieces ps).length ≤ 211106232532992) (hl : ps.length ≤ 4611686018427387904) :
    Spec Try.prog 39 #[.slice A ps.length c] [] G (OwnB (pieces ps)) := by
  refine Spec.intro (args := [_]) wide Try.func39 rfl Try.call39 (by rfl) (by rfl) (fun w0 hw0 => ?_)
  intro b
  refine vcLoop_of (fun g : Nat × Option Addr × Nat => ps.length - g.1) (fun g => [(0, .slice A ps.length c), (3, .slice g.2.1 (pieces (ps.take g.1)).length g.2.2), (4, .int .i64 g.1)])
    (fun g => [.sl g.2.1 g.2.2 5 1 (Bs (pieces (ps.take g.1)))]) (fun _ => MT) (fun g => g.1 ≤ ps.length ∧ (pieces (ps.take g.1)).length ≤ g.2.2) (0, some ⟨b, 0, none⟩, 0)
    ⟨Nat.zero_le _, Nat.le_refl _⟩ ⟨rfl, rfl, rfl, trivial⟩ ⟨[], .cons .here .nil⟩ (fun _ _ => trivial) ?_
  rintro ⟨k, A', cap'⟩ ⟨hk, hcap⟩
  simp only at hk hcap
  refine vcIf_dec (fun hlt => ?_) (fun hge => ?_)
  · have hk' : k < ps.length := by simp only at hlt; omega
    have hle := pieces_le ps (k + 1)
    have hsn : pieces (ps.take (k + 1)) = pieces (ps.take k) ++ ps[k].2.2 := by rw [take_snoc_get hk']; simp only [pieces, List.flatMap_append, List.flatMap_cons, List.flatMap_nil, List.append_nil]
    rw [hsn, List.length_append] at hle
    refine vcIdx_row (Ent.gnG h1) ⟨by omega, by simp only; omega⟩ (by simp) (fun a ha => ?_)
    subst ha
    refine vcLoad1_row (v := pieceV ps[k]) (Ent.gnG h1) (by simp [hk']) ?_
    refine vcApp_big (Bs (pieces (ps.take k))) _ (Bs ps[k].2.2) .here (by rw [Bs_length, Nat.mul_one]) (by rw [Bs_length, Nat.mul_one]) (by omega) (Bs_one _) (Ent.gnG (h2 _ (List.getElem_mem _))) (by simp only; omega) (fun A2 cap2 hc2 => ?_)
    refine vcFit_i64 (by omega) ?_
    refine ⟨(k + 1, A2, cap2), ⟨by simp only; omega, by simp only; rw [hsn, List.length_append]; exact hc2⟩, by simp only; omega, ⟨rfl, ?_, rfl, trivial⟩, ⟨[], .cons ?_ .nil⟩, fun _ _ => trivial⟩
    · rw [hsn, List.length_append]; rfl
    · simp only [hsn, Bs_append]; exact .here
  · have hk' : k = ps.length := by simp only at hge; omega
    subst hk'
    rw [List.take_length] at hcap
    refine ⟨_, [], MT, .cons .here .nil, fun _ _ _ => trivial, A', cap', ?_, ?_, rfl, hcap⟩
    · rw [List.take_length]; rfl
    · rw [List.take_length]
end Go.Proofs.Yticllmnblcjjcaa
