/- Headers: the packets of a datagram, by the reference. -/
import Derived.Test.YtlobimomeeppeaaHdrN
namespace Go.Proofs.Ytlobimomeeppeaa
open Go.Proofs
set_option maxRecDepth 10000

set_option maxHeartbeats 1000000 in
theorem rsplit_spec (A : Option Addr) (c : Nat) (bs : List UInt8) (cid : Int) (G : Mp) (h1 : Ent G (RowAt A (Bs bs))) (hc : bs.length ≤ c) (hm : bs.length ≤ 140737488351232) :
    Spec Try.prog 22 #[.slice A bs.length c, .int .i64 cid] [] G (SplitPost (splitT bs cid)) := by
  refine Spec.intro (args := [_, _]) wide Try.func22 rfl Try.call22 (by rfl) (by rfl) (fun w0 hw0 => ?_)
  refine vcIf_dec (fun g1 => ?_) (fun g1 => ?_)
  · rw [show splitT bs cid = ([], 52) from if_pos (by omega)]
    exact ⟨[], _, MT, .nil, fun _ _ _ => trivial, none, 0, [], rfl, rfl, rfl, fun _ _ => RowAt.nil, fun _ _ x hx => (List.not_mem_nil hx).elim, fun x hx => (List.not_mem_nil hx).elim⟩
  refine vcIf_dec (fun g2 => ?_) (fun g2 => ?_)
  · rw [show splitT bs cid = ([], 12) from (if_neg (by omega)).trans (if_pos (by omega))]
    exact ⟨[], _, MT, .nil, fun _ _ _ => trivial, none, 0, [], rfl, rfl, rfl, fun _ _ => RowAt.nil, fun _ _ x hx => (List.not_mem_nil hx).elim, fun x hx => (List.not_mem_nil hx).elim⟩
  have hS : splitT bs cid = match parseL bs cid with
      | .error e => ([], e)
      | .ok _ => (piecesL bs cid 0, 0) := (if_neg (by omega)).trans (if_neg (by omega))
  refine vcLoop_of (fun g : Nat × List PP × Pl => bs.length - g.1) (fun g => [(0, .slice A bs.length c), (1, .int .i64 cid), (6, .slice g.2.2.1 g.2.1.length g.2.2.2), (7, .int .i64 g.1)])
    (fun g => [.sl g.2.2.1 g.2.2.2 50 10 (g.2.1.flatMap pieceC)]) (fun g => lMem g.2.1)
    (fun g => g.1 ≤ bs.length ∧ g.2.1.length ≤ g.1 ∧ piecesL bs cid 0 = g.2.1.map (·.1) ++ piecesL bs cid g.1 ∧ (∀ x ∈ g.2.1, x.cap) ∧ (0 < g.1 → ∃ r, parseL bs cid = .ok r) ∧ g.2.1.length ≤ g.2.2.2)
    (0, [], none, 0) ⟨Nat.zero_le _, Nat.zero_le _, rfl, fun x hx => (List.not_mem_nil hx).elim, fun h => absurd h (Nat.not_lt_zero 0), Nat.le_refl _⟩
    ⟨rfl, rfl, rfl, rfl, trivial⟩ ⟨_, .cons (by first | ((repeat (first | exact .here | apply Take.there)); done) | exact .none_) .nil⟩ (fun _ _ x hx => (List.not_mem_nil hx).elim) ?_
  rintro ⟨p, l, Al, cl⟩ ⟨hp, hll, hpl, hcap, hfirst, hlc⟩
  simp only at hp hll hpl hcap hfirst hlc
  refine vcIf_dec (fun hlt => ?_) (fun hge => ?_)
  · have hld : (bs.drop p).length = bs.length - p := List.length_drop
    refine vcSlice3_as p (bs.drop p).length (c - p) rfl (by omega) (by omega) (by omega) (by omega) (fun A' hA' => ?_)
    have hr2 : Ent G (RowAt A' (Bs (bs.drop p))) := h1.mono fun w hw => hw.bytes hA' (by omega) (by rw [List.take_length])
    refine vcCall_of .nil (rparse_spec A' (c - p) (bs.drop p) cid _ (Ent.gnG hr2) (by omega) (by omega)) (fun v own' N' hv => ?_)
    obtain ⟨d, s, t, vs, rfl, rfl, hm1⟩ := hv
    intro b7
    refine ⟨rfl, vcStoreN_row _ (by first | ((repeat (first | exact .here | apply Take.there)); done) | exact .none_) (by rfl) (by simp [oneCell, cellsL, hdrOf, hdrC]) ?_⟩
    cases hpp : parseL (bs.drop p) cid with
    | error e =>
      rw [parseT_err hpp]
      refine vcIf_nyes (parseL_ne hpp) ?_
      repeat (refine vcIf_yes (by rfl) ?_)
      refine vcIf_dec (fun hz => ?_) (fun hz => ?_)
      · repeat (refine vcIf_yes (by rfl) ?_)
        obtain rfl : p = 0 := by simp only at hz; omega
        rw [List.drop_zero] at hpp
        rw [hS, hpp]
        exact ⟨[], _, MT, .nil, fun _ _ _ => trivial, none, 0, [], rfl, rfl, rfl, fun _ _ => RowAt.nil, fun _ _ x hx => (List.not_mem_nil hx).elim, fun x hx => (List.not_mem_nil hx).elim⟩
      · repeat (refine vcIf_no (by rfl) ?_)
        refine vcIf_nyes (parseL_ne hpp) ?_
        obtain ⟨r0, hr0⟩ := hfirst (by simp only at hz; omega)
        rw [piecesL_err hpp, List.append_nil] at hpl
        rw [hS, hr0]
        simp only
        skip
        exact ⟨[], _, MpAnd (RowAt Al (l.flatMap pieceC)) (lMem l), .nil, fun w hN ho => ⟨Ob.sl_at (ho (.sl Al cl 50 10 (l.flatMap pieceC)) (by simp)), (by repeat first | exact Ent.refl | refine Ent.andL ?_ : Ent _ (lMem l)) w hN⟩, Al, cl, l, hpl.symm, rfl, rfl, fun w hw => hw.1, fun w hw => hw.2, hcap⟩
    | ok r =>
      obtain ⟨h, a, en⟩ := r
      obtain ⟨ha1, hae, hen⟩ := parseL_bounds hpp
      rw [parseT_ok hpp] at hm1 ⊢
      simp only at hm1
      rw [piecesL_ok (by omega) hpp (by omega)] at hpl
      refine vcLoadN_0 (xs := hdrOf h d s t vs) (by first | exact Ent.gnO (by repeat first | exact .here | apply Take.there) (fun w hw => Ob.sl_at hw) | exact Ent.gnO (by repeat first | exact .here | apply Take.there) (fun w hw => Ob.row_at hw)) rfl ?_
      refine vcFit_i64 (by simp only; omega) ?_
      refine vcFit_i64 (by simp only; omega) ?_
      intro bn
      let x : PP := (⟨h, p, p + a, p + en⟩, d, s, t, vs)
      have hfl := flatMap_len pieceC_length l
      refine vcApp_of (l.flatMap pieceC) _ (pieceC x) (by first | ((repeat (first | exact .here | apply Take.there)); done) | exact .none_) hfl rfl (by decide) (by simp [pieceC, PP.hdr, hdrOf, hdrC, oneCell]) (by first | exact Ent.gnO (by repeat first | exact .here | apply Take.there) (fun w hw => Ob.sl_at hw) | exact Ent.gnO (by repeat first | exact .here | apply Take.there) (fun w hw => Ob.row_at hw)) (by simp only; omega) (by simp only; omega) (fun Al' cl' hcl' => ?_)
      refine vcFit_i64 (by simp only; omega) ?_
      refine ⟨(p + en, l ++ [x], Al', cl'), ⟨by simp only; omega, by simp only [List.length_append, List.length_cons, List.length_nil]; omega, by simp only [List.map_append, List.map_cons, List.map_nil, List.append_assoc, List.singleton_append]; exact hpl, ?_, fun _ => ?_, by simp only [List.length_append, List.length_cons, List.length_nil]; exact hcl'⟩, by simp only; omega,
        ⟨rfl, rfl, by simp only [List.length_append, List.length_cons, List.length_nil]; rfl, rfl, trivial⟩, ⟨_, .cons (by simp only [List.flatMap_append, List.flatMap_cons, List.flatMap_nil, List.append_nil]; exact .here) .nil⟩, ?_⟩
      · intro y hy
        rcases List.mem_append.1 hy with hy | hy
        · exact hcap y hy
        · obtain rfl := List.mem_singleton.1 hy
          exact ⟨hm1.cd, hm1.cs, hm1.ct, hm1.cv⟩
      · rcases Nat.eq_zero_or_pos p with h0 | h0
        · subst h0; rw [List.drop_zero] at hpp; exact ⟨_, hpp⟩
        · exact hfirst h0
      · intro w hw y hy
        rcases List.mem_append.1 hy with hy | hy
        · exact (by repeat first | exact Ent.refl | refine Ent.andL ?_ : Ent _ (lMem l)) w hw y hy
        · obtain rfl := List.mem_singleton.1 hy
          exact ⟨(by repeat first | exact Ent.andR hm1.dst | refine Ent.andL ?_ : Ent _ (RowAt d.1 (Bs h.dst))) w hw, (by repeat first | exact Ent.andR hm1.src | refine Ent.andL ?_ : Ent _ (RowAt s.1 (Bs h.src))) w hw, (by repeat first | exact Ent.andR hm1.tok | refine Ent.andL ?_ : Ent _ (RowAt t.1 (Bs h.tok))) w hw, (by repeat first | exact Ent.andR hm1.vers | refine Ent.andL ?_ : Ent _ (RowAt vs.1 (h.vers.map nI))) w hw⟩
  · obtain rfl : p = bs.length := by simp only at hge; omega
    obtain ⟨r0, hr0⟩ := hfirst (by omega)
    rw [piecesL_end (Nat.lt_irrefl _), List.append_nil] at hpl
    rw [hS, hr0]
    simp only
    skip
    exact ⟨[], _, MpAnd (RowAt Al (l.flatMap pieceC)) (lMem l), .nil, fun w hN ho => ⟨Ob.sl_at (ho (.sl Al cl 50 10 (l.flatMap pieceC)) (by simp)), (by repeat first | exact Ent.refl | refine Ent.andL ?_ : Ent _ (lMem l)) w hN⟩, Al, cl, l, hpl.symm, rfl, rfl, fun w hw => hw.1, fun w hw => hw.2, hcap⟩
end Go.Proofs.Ytlobimomeeppeaa
