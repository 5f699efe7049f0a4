/- slices.Concat over bytes. -/
import Derived.Test.YtaknehiifafhfaaJoin
import Derived.Test.YtaknehiifafhfaaDrp
namespace Go.Proofs.Ytaknehiifafhfaa
open Go.Proofs
set_option maxRecDepth 10000

theorem grow_spec (n : Nat) (hn : n ≤ 140737488355328) (G : Mp) : Spec Try.prog 51 #[.slice none 0 0, .int .i64 n] [] G (fun v own N => ∃ A cap, v = .slice A 0 cap ∧ own = [.sl A cap 5 1 []] ∧ N = MT) := by
  refine Spec.intro (args := [_, _]) wide Try.func51 rfl Try.call51 (by rfl) (by rfl) (fun w0 hw0 => ?_)
  refine vcFit_i64 (by omega) ?_
  refine vcFit_i64 (by omega) ?_
  refine vcIf_dec (fun h => ?_) (fun h => ?_)
  · refine vcSlice3_as 0 0 0 rfl rfl rfl (by omega) (by omega) (fun A' hA' => ?_)
    rw [cutA_0] at hA'
    subst hA'
    refine vcAppZ_of [] _ n (by omega) .none_ rfl (by decide) (by simp [oneCell]) (by omega) (by omega) (fun A' cap' hc => ?_)
    refine vcSlice3_as 0 0 cap' rfl (by omega) (by omega) (by omega) (by omega) (fun A2 hA2 => ?_)
    rw [cutA_0] at hA2
    subst hA2
    exact ⟨_, _, MT, .cons (.cut 0) .nil, fun _ _ _ => trivial, _, _, rfl, rfl, rfl⟩
  · exact ⟨_, _, MT, .cons .none_ .nil, fun _ _ _ => trivial, _, _, rfl, rfl, rfl⟩

theorem concat_spec (A : Option Addr) (c : Nat) (ps : List Piece) (G : Mp) (h1 : Ent G (RowAt A (ps.map pieceV))) (h2 : ∀ p ∈ ps, Ent G (RowAt p.1 (Bs p.2.2))) (hb : (pieces ps).length ≤ 140737488355328) (hl : ps.length ≤ 4611686018427387904) :
    Spec Try.prog 40 #[.slice A ps.length c] [] G (OwnB (pieces ps)) := by
  refine Spec.intro (args := [_]) wide Try.func40 rfl Try.call40 (by rfl) (by rfl) (fun w0 hw0 => ?_)
  refine vcLoop_of (fun k : Nat => ps.length - k) (fun k => [(0, .slice A ps.length c), (3, .int .i64 (pieces (ps.take k)).length), (9, .slice A ps.length c), (10, .int .i64 ps.length), (11, .int .i64 k)])
    (fun _ => []) (fun _ => MT) (fun k => k ≤ ps.length) 0 (Nat.zero_le _) ⟨rfl, rfl, rfl, rfl, rfl, trivial⟩ ⟨_, .nil⟩ (fun _ _ => trivial) ?_
  intro k hk
  refine vcIf_dec (fun hlt => ?_) (fun hge => ?_)
  · have hk' : k < ps.length := by omega
    have hle := pieces_le ps (k + 1)
    have hsn : pieces (ps.take (k + 1)) = pieces (ps.take k) ++ ps[k].2.2 := by rw [take_snoc_get hk']; simp only [pieces, List.flatMap_append, List.flatMap_cons, List.flatMap_nil, List.append_nil]
    rw [hsn, List.length_append] at hle
    refine vcIdx_row (Ent.gnG h1) ⟨by omega, by omega⟩ (by simp) (fun a ha => ?_)
    have h1' : Ent G (RowAt (some a) (ps.map pieceV)) := ha ▸ h1
    refine vcLoad1_row (v := pieceV ps[k]) (Ent.gnG h1') (by simp [hk']) ?_
    refine vcFit_i64 (by omega) ?_
    refine vcFit_i64 (by omega) ?_
    refine ⟨k + 1, by omega, by omega, ⟨rfl, ?_, rfl, rfl, rfl, trivial⟩, ⟨_, .nil⟩, fun _ _ => trivial⟩
    rw [hsn, List.length_append, Int.natCast_add]; rfl
  · have hk' : k = ps.length := by omega
    subst hk'
    rw [List.take_length]
    refine vcCall_of .nil (grow_spec (pieces ps).length hb _) (fun v own' N' hv => ?_)
    obtain ⟨A0, cap0, rfl, rfl, rfl⟩ := hv
    refine vcLoop_of (fun g : Nat × Option Addr × Nat => ps.length - g.1) (fun g => [(25, .slice A ps.length c), (26, .int .i64 ps.length), (27, .int .i64 g.1), (6, .slice g.2.1 (pieces (ps.take g.1)).length g.2.2)])
      (fun g => [.sl g.2.1 g.2.2 5 1 (Bs (pieces (ps.take g.1)))]) (fun _ => MT) (fun g => g.1 ≤ ps.length ∧ (pieces (ps.take g.1)).length ≤ g.2.2) (0, A0, cap0)
      ⟨Nat.zero_le _, Nat.zero_le _⟩ ⟨rfl, rfl, rfl, rfl, trivial⟩ ⟨[], .cons .here .nil⟩ (fun _ _ => trivial) ?_
    rintro ⟨k, A', cap'⟩ ⟨hk, hcap⟩
    simp only at hk hcap
    refine vcIf_dec (fun hlt => ?_) (fun hge => ?_)
    · have hk' : k < ps.length := by simp only at hlt; omega
      have hle := pieces_le ps (k + 1)
      have hsn : pieces (ps.take (k + 1)) = pieces (ps.take k) ++ ps[k].2.2 := by rw [take_snoc_get hk']; simp only [pieces, List.flatMap_append, List.flatMap_cons, List.flatMap_nil, List.append_nil]
      rw [hsn, List.length_append] at hle
      refine vcIdx_row (Ent.gnG h1) ⟨by omega, by simp only; omega⟩ (by simp) (fun a ha => ?_)
      have h1' : Ent G (RowAt (some a) (ps.map pieceV)) := ha ▸ h1
      refine vcLoad1_row (v := pieceV ps[k]) (Ent.gnG h1') (by simp [hk']) ?_
      refine vcApp_of (Bs (pieces (ps.take k))) _ (Bs ps[k].2.2) .here (by rw [Bs_length, Nat.mul_one]) (by rw [Bs_length, Nat.mul_one]) (by omega) (Bs_one _) (Ent.gnG (h2 _ (List.getElem_mem _))) (by simp only; omega) (by simp only; omega) (fun A2 cap2 hc2 => ?_)
      refine vcFit_i64 (by omega) ?_
      refine ⟨(k + 1, A2, cap2), ⟨by simp only; omega, by simp only; rw [hsn, List.length_append]; exact hc2⟩, by simp only; omega, ⟨rfl, rfl, rfl, ?_, trivial⟩, ⟨[], .cons ?_ .nil⟩, fun _ _ => trivial⟩
      · rw [hsn, List.length_append]; rfl
      · simp only [hsn, Bs_append]; exact .here
    · have hk' : k = ps.length := by simp only at hge; omega
      subst hk'
      rw [List.take_length] at hcap
      refine ⟨_, [], MT, .cons .here .nil, fun _ _ _ => trivial, A', cap', ?_, ?_, rfl, hcap⟩
      · rw [List.take_length]; rfl
      · rw [List.take_length]
end Go.Proofs.Ytaknehiifafhfaa
