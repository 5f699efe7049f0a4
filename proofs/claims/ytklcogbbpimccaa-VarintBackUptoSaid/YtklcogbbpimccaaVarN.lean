/- The reference's Join; the law VarintBack: what its function answers. -/
import Derived.Test.YtklcogbbpimccaaVarM
namespace Go.Proofs.Ytklcogbbpimccaa
open Go.Proofs
set_option maxRecDepth 10000

/-- A piece: where it lies, its room, its bytes. -/
abbrev Piece := Option Addr × Nat × List UInt8
def pieceV (p : Piece) : Value := .slice p.1 p.2.2.length p.2.1
def pieces (ps : List Piece) : List UInt8 := ps.flatMap fun p => p.2.2
theorem pieces_le (ps : List Piece) (k : Nat) : (pieces (ps.take k)).length ≤ (pieces ps).length := by
  have : pieces ps = pieces (ps.take k) ++ pieces (ps.drop k) := by
    unfold pieces; rw [← List.flatMap_append, List.take_append_drop]
  rw [this]; simp

theorem join_spec (A : Option Addr) (c : Nat) (ps : List Piece) (G : Mp) (h1 : Ent G (RowAt A (ps.map pieceV))) (h2 : ∀ p ∈ ps, Ent G (RowAt p.1 (Bs p.2.2))) (hb : (pieces ps).length ≤ 140737488355328) (hl : ps.length ≤ 4611686018427387904) :
    Spec Try.prog 15 #[.slice A ps.length c] [] G (OwnB (pieces ps)) := by
  refine Spec.intro (args := [_]) wide Try.func15 rfl Try.call15 (by rfl) (by rfl) (fun w0 hw0 => ?_)
  intro b
  refine vcLoop_of (fun g : Nat × Option Addr × Nat => ps.length - g.1) (fun g => [(0, .slice A ps.length c), (3, .slice g.2.1 (pieces (ps.take g.1)).length g.2.2), (4, .int .i64 g.1)])
    (fun g => [.sl g.2.1 g.2.2 5 1 (Bs (pieces (ps.take g.1)))]) (fun _ => MT) (fun g => g.1 ≤ ps.length ∧ (pieces (ps.take g.1)).length ≤ g.2.2) (0, some ⟨b, 0, none⟩, 0)
    ⟨Nat.zero_le _, Nat.le_refl _⟩ ⟨rfl, rfl, rfl, trivial⟩ ⟨[], .cons .here .nil⟩ (fun _ _ => trivial) ?_
  rintro ⟨k, A', cap'⟩ ⟨hk, hcap⟩
  simp only at hk hcap
  refine vcIf_dec (fun hlt => ?_) (fun hge => ?_)
  · have hk' : k < ps.length := by simp only at hlt; omega
    have hle := pieces_le ps (k + 1)
    have hsn : pieces (ps.take (k + 1)) = pieces (ps.take k) ++ ps[k].2.2 := by rw [take_snoc_get hk']; simp only [pieces, List.flatMap_append, List.flatMap_cons, List.flatMap_nil, List.append_nil]
    rw [hsn, List.length_append] at hle
    refine vcIdx_row (Ent.gnG h1) ⟨by omega, by simp only; omega⟩ (by simp) (fun a ha => ?_)
    subst ha
    refine vcLoad1_row (v := pieceV ps[k]) (Ent.gnG h1) (by simp [hk']) ?_
    refine vcApp_of (Bs (pieces (ps.take k))) _ (Bs ps[k].2.2) .here (by rw [Bs_length, Nat.mul_one]) (by rw [Bs_length, Nat.mul_one]) (by omega) (Bs_one _) (Ent.gnG (h2 _ (List.getElem_mem _))) (by simp only; omega) (by simp only; omega) (fun A2 cap2 hc2 => ?_)
    refine vcFit_i64 (by omega) ?_
    refine ⟨(k + 1, A2, cap2), ⟨by simp only; omega, by simp only; rw [hsn, List.length_append]; exact hc2⟩, by simp only; omega, ⟨rfl, ?_, rfl, trivial⟩, ⟨[], .cons ?_ .nil⟩, fun _ _ => trivial⟩
    · rw [hsn, List.length_append]; rfl
    · simp only [hsn, Bs_append]; exact .here
  · have hk' : k = ps.length := by simp only at hge; omega
    subst hk'
    rw [List.take_length] at hcap
    refine ⟨_, [], MT, .cons .here .nil, fun _ _ _ => trivial, A', cap', ?_, ?_, rfl, hcap⟩
    · rw [List.take_length]; rfl
    · rw [List.take_length]

theorem back_spec (A B : Option Addr) (c d : Nat) (before behind : List UInt8) (n : Int) (hn : -9223372036854775808 ≤ n ∧ n ≤ 9223372036854775807) (G : Mp) (h1 : Ent G (RowAt A (Bs before))) (h2 : Ent G (RowAt B (Bs behind))) (hb : before.length + behind.length ≤ 1048576) :
    Spec Try.prog 4 #[.slice A before.length c, .int .i64 n, .slice B behind.length d] [] G (Ret (.bool true)) := by
  refine Spec.intro (args := [_, _, _]) wide Try.func4 rfl Try.call4 (by rfl) (by rfl) (fun w0 hw0 => ?_)
  have h8 := vsize_le n
  have hl := vput_length n
  refine vcCall_of .nil (put_spec n hn _) (fun v own' N' hv => ?_)
  obtain ⟨A1, cap, rfl, rfl, rfl, hcap⟩ := hv
  by_cases hf : hasForm n
  · obtain ⟨m, rfl⟩ := Int.eq_ofNat_of_zero_le hf.1
    have hm : m < 4611686018427387904 := by have := hf.2; omega
    have hput : vput (m : Int) = vputN m := by unfold vput; rw [if_pos hf, Int.toNat_natCast]
    have hvl := vputN_length m
    rw [if_pos hf, hput]
    rw [hput] at hl hcap
    refine vcIf_no (by have := hf.2; omega) ?_
    intro b
    refine vcCall_of .nil (join_spec (some ⟨b, 0, none⟩) 3 [(A, c, before), (A1, cap, vputN m), (B, d, behind)] _ (Ent.gnO .here fun w hw => Ob.sl_at hw) ?_ ?_ (by simp)) (fun v own' N' hv => ?_)
    · intro p hp
      simp only [List.mem_cons, List.not_mem_nil, or_false] at hp
      rcases hp with rfl | rfl | rfl
      · exact Ent.gnG h1
      · exact Ent.gnO (.there .here) fun w hw => Ob.sl_at hw
      · exact Ent.gnG h2
    · simp [pieces]; omega
    obtain ⟨A2, cap2, rfl, rfl, rfl, hcap2⟩ := hv
    have hp : pieces [(A, c, before), (A1, cap, vputN m), (B, d, behind)] = before ++ (vputN m ++ behind) := by simp [pieces]
    rw [hp]
    rw [hp] at hcap2
    have hlen : (before ++ (vputN m ++ behind)).length ≤ 1048584 := by simp only [List.length_append]; omega
    refine vcCall_of .nil (get_spec A2 cap2 (before ++ (vputN m ++ behind)) before.length _ (Ent.gnO .here fun w hw => Ob.sl_at hw) hcap2 (by omega)) (fun v own' N' hv => ?_)
    obtain ⟨rfl, rfl, rfl⟩ := hv
    have ht : tup3 (vget (before ++ (vputN m ++ behind)) before.length) = .tuple #[.int .i64 m, .int .i64 (before.length + 2 ^ cls m : Nat), .int .i64 0] := by rw [vget_form hm]; rfl
    rw [ht]
    refine vcCall_of .nil (awake_spec _) (fun v own' N' hv => ?_)
    obtain ⟨rfl, rfl, rfl⟩ := hv
    refine vcIf_yes rfl ?_
    refine vcFit_i64 (by omega) ?_
    refine ⟨[], _, MT, .nil, fun _ _ _ => trivial, ?_, rfl, rfl⟩
    exact congrArg Value.bool (decide_eq_true (by rw [hvl]; omega))
  · have hput : vput n = [] := by unfold vput; rw [if_neg hf]
    rw [if_neg hf, hput]
    refine vcIf_dec (fun h0 => ?_) (fun h0 => ?_)
    · refine vcCall_of .nil (awake_spec _) (fun v own' N' hv => ?_)
      obtain ⟨rfl, rfl, rfl⟩ := hv
      exact ⟨[], _, MT, .nil, fun _ _ _ => trivial, rfl, rfl, rfl⟩
    · refine vcIf_yes (by unfold hasForm at hf; omega) ?_
      refine vcCall_of .nil (awake_spec _) (fun v own' N' hv => ?_)
      obtain ⟨rfl, rfl, rfl⟩ := hv
      exact ⟨[], _, MT, .nil, fun _ _ _ => trivial, rfl, rfl, rfl⟩
end Go.Proofs.Ytklcogbbpimccaa
