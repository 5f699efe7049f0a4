/- Headers: the packets of a datagram. -/
import Derived.Test.YtlobimomeeppeaaHdrM
import Derived.Test.YtlobimomeeppeaaFlat
namespace Go.Proofs.Ytlobimomeeppeaa
open Go.Proofs
set_option maxRecDepth 10000

structure PieceL where
  h : HdrL
  from_ : Nat
  at_ : Nat
  end_ : Nat
/-- The packets from a place on. -/
def piecesL (bs : List UInt8) (cid : Int) (p : Nat) : List PieceL :=
  if _h : p < bs.length then match parseL (bs.drop p) cid with
    | .error _ => []
    | .ok (h, a, e) => ⟨h, p, p + a, p + e⟩ :: piecesL bs cid (p + max 1 e)
  else []
termination_by bs.length - p
decreasing_by omega
def splitT (bs : List UInt8) (cid : Int) : List PieceL × Int :=
  if 16384 < bs.length then ([], 52) else if bs.length = 0 then ([], 12) else match parseL bs cid with
    | .error e => ([], e)
    | .ok _ => (piecesL bs cid 0, 0)
theorem piecesL_end {bs : List UInt8} {cid : Int} {p : Nat} (h : ¬ p < bs.length) : piecesL bs cid p = [] := by rw [piecesL]; exact dif_neg h
theorem piecesL_err {bs : List UInt8} {cid : Int} {p : Nat} {e : Int} (h : parseL (bs.drop p) cid = .error e) : piecesL bs cid p = [] := by
  rw [piecesL]
  split
  · rw [h]
  · rfl
theorem piecesL_ok {bs : List UInt8} {cid : Int} {p a e : Nat} {hd : HdrL} (hp : p < bs.length) (h : parseL (bs.drop p) cid = .ok (hd, a, e)) (he : 1 ≤ e) : piecesL bs cid p = ⟨hd, p, p + a, p + e⟩ :: piecesL bs cid (p + e) := by
  rw [piecesL, dif_pos hp, h]
  simp only [Nat.max_eq_right he]

abbrev PP := PieceL × Pl × Pl × Pl × Pl
def PP.hdr (x : PP) : List Value := hdrOf x.1.h x.2.1 x.2.2.1 x.2.2.2.1 x.2.2.2.2
def pieceC (x : PP) : List Value := x.hdr ++ [.int .i64 x.1.from_, .int .i64 x.1.at_, .int .i64 x.1.end_]
theorem pieceC_length (x : PP) : (pieceC x).length = 10 := rfl
def PP.mem (x : PP) : Mp := fun w => RowAt x.2.1.1 (Bs x.1.h.dst) w ∧ RowAt x.2.2.1.1 (Bs x.1.h.src) w ∧ RowAt x.2.2.2.1.1 (Bs x.1.h.tok) w ∧ RowAt x.2.2.2.2.1 (x.1.h.vers.map nI) w
structure PP.cap (x : PP) : Prop where
  cd : x.1.h.dst.length ≤ x.2.1.2
  cs : x.1.h.src.length ≤ x.2.2.1.2
  ct : x.1.h.tok.length ≤ x.2.2.2.1.2
  cv : x.1.h.vers.length ≤ x.2.2.2.2.2
def lMem (l : List PP) : Mp := fun w => ∀ x ∈ l, x.mem w
def SplitPost (r : List PieceL × Int) (v : Value) (own : List Ob) (N : Mp) : Prop :=
  ∃ A c, ∃ l : List PP, l.map (·.1) = r.1 ∧ v = .tuple #[.slice A l.length c, .int .i64 r.2] ∧ own = [] ∧ Ent N (RowAt A (l.flatMap pieceC)) ∧ Ent N (lMem l) ∧ ∀ x ∈ l, x.cap

theorem cidP_ge {bs xs : List UInt8} {p q : Nat} (h : cidP bs p = .ok (xs, q)) : p ≤ q := by
  unfold cidP at h
  split at h
  · cases h
  · rename_i ht
    obtain ⟨_, h5, _, _⟩ := takeP_ok ht
    split at h
    · cases h
    · obtain ⟨_, h2, h3, h4⟩ := takeP_ok h; omega
theorem numP_ge {bs : List UInt8} {p n q : Nat} (hp : p ≤ bs.length) (h : numP bs p = .ok (n, q)) : p ≤ q := by
  have hv := (numP_ok hp h).1
  cases hd : bs.drop p with
  | nil => rw [vget_end hp hd] at hv; cases hv
  | cons b r =>
    by_cases hs : r.length + 1 < 2 ^ (b.toNat / 64)
    · rw [vget_short hp hd hs] at hv; cases hv
    · rw [vget_ok hp hd hs] at hv
      simp only [Prod.mk.injEq] at hv
      generalize 2 ^ (b.toNat / 64) = m at hv
      omega
theorem restP_ge {bs : List UInt8} {x : UInt8} {v : Nat} {d s : List UInt8} {p : Nat} {h : HdrL} {q : Nat} (hp : p ≤ bs.length) (hr : restP bs x v d s p = .ok (h, q)) : p ≤ q := by
  unfold restP at hr
  split at hr
  · split at hr
    · cases hr
    · cases hr; exact hp
  · split at hr
    · split at hr
      · cases hr
      · cases hk : kindP bs x p with
        | error e => rw [hk] at hr; cases hr
        | ok r =>
          obtain ⟨tok, l, q'⟩ := r
          rw [hk] at hr
          cases hr
          unfold kindP at hk
          split at hk
          · split at hk
            · cases hk
            · cases hk; omega
          · cases ht : tokP bs x p with
            | error e => rw [ht] at hk; cases hk
            | ok r =>
              obtain ⟨tk, q2⟩ := r
              rw [ht] at hk
              have h2 : p ≤ q2 := by
                unfold tokP at ht
                split at ht
                · split at ht
                  · cases ht
                  · rename_i hn
                    have := numP_ge hp hn
                    obtain ⟨_, h2, h3, h4⟩ := takeP_ok ht; omega
                · cases ht; exact Nat.le_refl _
              have hq2 := tokP_le hp ht
              simp only [lenP] at hk
              split at hk
              · cases hk
              · rename_i hn
                have := numP_ge hq2 hn
                split at hk
                · cases hk
                · cases hk; omega
    · cases hr; exact Nat.le_refl _

/-- What is read lies in the bytes. -/
theorem parseL_bounds {bs : List UInt8} {cid : Int} {h : HdrL} {a e : Nat} (hp : parseL bs cid = .ok (h, a, e)) : 1 ≤ a ∧ a ≤ e ∧ e ≤ bs.length := by
  unfold parseL at hp
  split at hp
  · cases hp
  · unfold parseP at hp
    split at hp
    · cases hp
    · rename_i f p hf
      obtain ⟨_, hf2, hf3, _⟩ := takeP_ok hf
      split at hp
      · unfold shortP at hp
        split at hp
        · cases hp
        · split at hp
          · cases hp
          · rename_i hd
            cases hp
            obtain ⟨_, h2, h3, h4⟩ := takeP_ok hd
            omega
      · unfold longP at hp
        split at hp
        · cases hp
        · rename_i v p2 hw
          have hp2 : 1 ≤ p2 := by
            unfold wordP at hw
            split at hw
            · cases hw
            · rename_i ht; cases hw; obtain ⟨_, h2, _, _⟩ := takeP_ok ht; omega
          split at hp
          · cases hp
          · rename_i d p3 hd
            split at hp
            · cases hp
            · rename_i s p4 hs
              split at hp
              · cases hp
              · rename_i r hr
                obtain ⟨hh, q⟩ := r
                cases hp
                have h4 := (cidP_len hs).2
                have hle3 : p2 ≤ p3 := cidP_ge hd
                have hle4 : p3 ≤ p4 := cidP_ge hs
                obtain ⟨h1, _, _, hc⟩ := restP_ok h4 hr
                have hge := restP_ge h4 hr
                simp only
                split <;> omega

theorem cidP_ne {bs : List UInt8} {p : Nat} {e : Int} (h : cidP bs p = .error e) : e ≠ 0 := by
  unfold cidP at h
  split at h
  · rename_i ht; cases h; rw [(takeP_err ht).1]; decide
  · split at h
    · cases h; decide
    · rw [(takeP_err h).1]; decide
theorem kindP_ne {bs : List UInt8} {x : UInt8} {p : Nat} {e : Int} (h : kindP bs x p = .error e) : e ≠ 0 := by
  unfold kindP at h
  split at h
  · split at h
    · cases h; decide
    · cases h
  · split at h
    · rename_i ht
      cases h
      unfold tokP at ht
      split at ht
      · split at ht
        · rename_i hn
          cases ht
          unfold numP at hn
          split at hn
          · cases hn; decide
          · cases hn
        · rw [(takeP_err ht).1]; decide
      · cases ht
    · unfold lenP at h
      split at h
      · rename_i hn
        cases h
        unfold numP at hn
        split at hn
        · cases hn; decide
        · cases hn
      · split at h
        · cases h; decide
        · cases h
theorem restP_ne {bs : List UInt8} {x : UInt8} {v : Nat} {d s : List UInt8} {p : Nat} {e : Int} (h : restP bs x v d s p = .error e) : e ≠ 0 := by
  unfold restP at h
  split at h
  · split at h
    · cases h; decide
    · cases h
  · split at h
    · split at h
      · cases h; decide
      · split at h
        · rename_i hk; cases h; exact kindP_ne hk
        · cases h
    · cases h
theorem parseL_ne {bs : List UInt8} {cid e : Int} (h : parseL bs cid = .error e) : e ≠ 0 := by
  unfold parseL at h
  split at h
  · cases h; decide
  · unfold parseP at h
    split at h
    · rename_i ht; cases h; rw [(takeP_err ht).1]; decide
    · split at h
      · unfold shortP at h
        split at h
        · cases h; decide
        · split at h
          · rename_i ht; cases h; rw [(takeP_err ht).1]; decide
          · cases h
      · unfold longP at h
        split at h
        · rename_i hw
          cases h
          unfold wordP at hw
          split at hw
          · rename_i ht; cases hw; rw [(takeP_err ht).1]; decide
          · cases hw
        · split at h
          · rename_i hc; cases h; exact cidP_ne hc
          · split at h
            · rename_i hc; cases h; exact cidP_ne hc
            · split at h
              · rename_i hr; cases h; exact restP_ne hr
              · cases h

theorem clip_spec (A : Option Addr) (n c : Nat) (hc : n ≤ c) (G : Mp) : Spec Try.prog 43 #[.slice A n c] [] G (Ret (.slice A n n)) := by
  refine Spec.intro (args := [_]) wide Try.func43 rfl Try.call43 (by rfl) (by rfl) (fun w0 hw0 => ?_)
  refine vcSlice3_as 0 n n rfl (by omega) (by omega) (by omega) (Nat.le_refl _) (fun A' hA' => ?_)
  rw [cutA_0] at hA'
  subst hA'
  exact ⟨[], _, MT, .nil, fun _ _ _ => trivial, rfl, rfl, rfl⟩

set_option maxHeartbeats 1000000 in
theorem split_spec (A : Option Addr) (c : Nat) (bs : List UInt8) (cid : Int) (G : Mp) (h1 : Ent G (RowAt A (Bs bs))) (hc : bs.length ≤ c) (hm : bs.length ≤ 140737488351232) :
    Spec Try.prog 21 #[.slice A bs.length c, .int .i64 cid] [] G (SplitPost (splitT bs cid)) := by
  refine Spec.intro (args := [_, _]) wide Try.func21 rfl Try.call21 (by rfl) (by rfl) (fun w0 hw0 => ?_)
  refine vcIf_dec (fun g1 => ?_) (fun g1 => ?_)
  · rw [show splitT bs cid = ([], 52) from if_pos (by omega)]
    exact ⟨[], _, MT, .nil, fun _ _ _ => trivial, none, 0, [], rfl, rfl, rfl, fun _ _ => RowAt.nil, fun _ _ x hx => (List.not_mem_nil hx).elim, fun x hx => (List.not_mem_nil hx).elim⟩
  refine vcIf_dec (fun g2 => ?_) (fun g2 => ?_)
  · rw [show splitT bs cid = ([], 12) from (if_neg (by omega)).trans (if_pos (by omega))]
    exact ⟨[], _, MT, .nil, fun _ _ _ => trivial, none, 0, [], rfl, rfl, rfl, fun _ _ => RowAt.nil, fun _ _ x hx => (List.not_mem_nil hx).elim, fun x hx => (List.not_mem_nil hx).elim⟩
  have hS : splitT bs cid = match parseL bs cid with
      | .error e => ([], e)
      | .ok _ => (piecesL bs cid 0, 0) := (if_neg (by omega)).trans (if_neg (by omega))
  refine vcLoop_of (fun g : Nat × List PP × Pl => bs.length - g.1) (fun g => [(0, .slice A bs.length c), (1, .int .i64 cid), (4, .slice g.2.2.1 g.2.1.length g.2.2.2), (6, .int .i64 g.1)])
    (fun g => [.sl g.2.2.1 g.2.2.2 48 10 (g.2.1.flatMap pieceC)]) (fun g => lMem g.2.1)
    (fun g => g.1 ≤ bs.length ∧ g.2.1.length ≤ g.1 ∧ piecesL bs cid 0 = g.2.1.map (·.1) ++ piecesL bs cid g.1 ∧ (∀ x ∈ g.2.1, x.cap) ∧ (0 < g.1 → ∃ r, parseL bs cid = .ok r) ∧ g.2.1.length ≤ g.2.2.2)
    (0, [], none, 0) ⟨Nat.zero_le _, Nat.zero_le _, rfl, fun x hx => (List.not_mem_nil hx).elim, fun h => absurd h (Nat.not_lt_zero 0), Nat.le_refl _⟩
    ⟨rfl, rfl, rfl, rfl, trivial⟩ ⟨_, .cons (by first | ((repeat (first | exact .here | apply Take.there)); done) | exact .none_) .nil⟩ (fun _ _ x hx => (List.not_mem_nil hx).elim) ?_
  rintro ⟨p, l, Al, cl⟩ ⟨hp, hll, hpl, hcap, hfirst, hlc⟩
  simp only at hp hll hpl hcap hfirst hlc
  refine vcIf_dec (fun hlt => ?_) (fun hge => ?_)
  · have hld : (bs.drop p).length = bs.length - p := List.length_drop
    refine vcSlice3_as p (bs.drop p).length (c - p) rfl (by omega) (by omega) (by omega) (by omega) (fun A' hA' => ?_)
    have hr2 : Ent G (RowAt A' (Bs (bs.drop p))) := h1.mono fun w hw => hw.bytes hA' (by omega) (by rw [List.take_length])
    refine vcCall_of .nil (parse_spec A' (c - p) (bs.drop p) cid _ (Ent.gnG hr2) (by omega) (.inl (by omega))) (fun v own' N' hv => ?_)
    obtain ⟨d, s, t, vs, rfl, rfl, hm1⟩ := hv
    intro b7
    refine ⟨rfl, vcStoreN_row _ (by first | ((repeat (first | exact .here | apply Take.there)); done) | exact .none_) (by rfl) (by simp [oneCell, cellsL, hdrOf, hdrC]) ?_⟩
    cases hpp : parseL (bs.drop p) cid with
    | error e =>
      rw [parseT_err hpp]
      refine vcIf_nyes (parseL_ne hpp) ?_
      refine vcIf_dec (fun hz => ?_) (fun hz => ?_)
      · obtain rfl : p = 0 := by simp only at hz; omega
        rw [List.drop_zero] at hpp
        rw [hS, hpp]
        exact ⟨[], _, MT, .nil, fun _ _ _ => trivial, none, 0, [], rfl, rfl, rfl, fun _ _ => RowAt.nil, fun _ _ x hx => (List.not_mem_nil hx).elim, fun x hx => (List.not_mem_nil hx).elim⟩
      · obtain ⟨r0, hr0⟩ := hfirst (by simp only at hz; omega)
        rw [piecesL_err hpp, List.append_nil] at hpl
        rw [hS, hr0]
        simp only
        refine vcCall_of .nil (clip_spec Al l.length cl hlc _) (fun v own' N' hv => ?_); obtain ⟨rfl, rfl, rfl⟩ := hv
        exact ⟨[], _, MpAnd (RowAt Al (l.flatMap pieceC)) (lMem l), .nil, fun w hN ho => ⟨Ob.sl_at (ho (.sl Al cl 48 10 (l.flatMap pieceC)) (by simp)), (by repeat first | exact Ent.refl | refine Ent.andL ?_ : Ent _ (lMem l)) w hN⟩, Al, l.length, l, hpl.symm, rfl, rfl, fun w hw => hw.1, fun w hw => hw.2, hcap⟩
    | ok r =>
      obtain ⟨h, a, en⟩ := r
      obtain ⟨ha1, hae, hen⟩ := parseL_bounds hpp
      rw [parseT_ok hpp] at hm1 ⊢
      simp only at hm1
      rw [piecesL_ok (by omega) hpp (by omega)] at hpl
      refine vcLoadN_0 (xs := hdrOf h d s t vs) (by first | exact Ent.gnO (by repeat first | exact .here | apply Take.there) (fun w hw => Ob.sl_at hw) | exact Ent.gnO (by repeat first | exact .here | apply Take.there) (fun w hw => Ob.row_at hw)) rfl ?_
      refine vcFit_i64 (by simp only; omega) ?_
      refine vcFit_i64 (by simp only; omega) ?_
      intro bn
      let x : PP := (⟨h, p, p + a, p + en⟩, d, s, t, vs)
      have hfl := flatMap_len pieceC_length l
      refine vcApp_of (l.flatMap pieceC) _ (pieceC x) (by first | ((repeat (first | exact .here | apply Take.there)); done) | exact .none_) hfl rfl (by decide) (by simp [pieceC, PP.hdr, hdrOf, hdrC, oneCell]) (by first | exact Ent.gnO (by repeat first | exact .here | apply Take.there) (fun w hw => Ob.sl_at hw) | exact Ent.gnO (by repeat first | exact .here | apply Take.there) (fun w hw => Ob.row_at hw)) (by simp only; omega) (by simp only; omega) (fun Al' cl' hcl' => ?_)
      refine vcFit_i64 (by simp only; omega) ?_
      refine ⟨(p + en, l ++ [x], Al', cl'), ⟨by simp only; omega, by simp only [List.length_append, List.length_cons, List.length_nil]; omega, by simp only [List.map_append, List.map_cons, List.map_nil, List.append_assoc, List.singleton_append]; exact hpl, ?_, fun _ => ?_, by simp only [List.length_append, List.length_cons, List.length_nil]; exact hcl'⟩, by simp only; omega,
        ⟨rfl, rfl, by simp only [List.length_append, List.length_cons, List.length_nil]; rfl, rfl, trivial⟩, ⟨_, .cons (by simp only [List.flatMap_append, List.flatMap_cons, List.flatMap_nil, List.append_nil]; exact .here) .nil⟩, ?_⟩
      · intro y hy
        rcases List.mem_append.1 hy with hy | hy
        · exact hcap y hy
        · obtain rfl := List.mem_singleton.1 hy
          exact ⟨hm1.cd, hm1.cs, hm1.ct, hm1.cv⟩
      · rcases Nat.eq_zero_or_pos p with h0 | h0
        · subst h0; rw [List.drop_zero] at hpp; exact ⟨_, hpp⟩
        · exact hfirst h0
      · intro w hw y hy
        rcases List.mem_append.1 hy with hy | hy
        · exact (by repeat first | exact Ent.refl | refine Ent.andL ?_ : Ent _ (lMem l)) w hw y hy
        · obtain rfl := List.mem_singleton.1 hy
          exact ⟨(by repeat first | exact Ent.andR hm1.dst | refine Ent.andL ?_ : Ent _ (RowAt d.1 (Bs h.dst))) w hw, (by repeat first | exact Ent.andR hm1.src | refine Ent.andL ?_ : Ent _ (RowAt s.1 (Bs h.src))) w hw, (by repeat first | exact Ent.andR hm1.tok | refine Ent.andL ?_ : Ent _ (RowAt t.1 (Bs h.tok))) w hw, (by repeat first | exact Ent.andR hm1.vers | refine Ent.andL ?_ : Ent _ (RowAt vs.1 (h.vers.map nI))) w hw⟩
  · obtain rfl : p = bs.length := by simp only at hge; omega
    obtain ⟨r0, hr0⟩ := hfirst (by omega)
    rw [piecesL_end (Nat.lt_irrefl _), List.append_nil] at hpl
    rw [hS, hr0]
    simp only
    refine vcCall_of .nil (clip_spec Al l.length cl hlc _) (fun v own' N' hv => ?_); obtain ⟨rfl, rfl, rfl⟩ := hv
    exact ⟨[], _, MpAnd (RowAt Al (l.flatMap pieceC)) (lMem l), .nil, fun w hN ho => ⟨Ob.sl_at (ho (.sl Al cl 48 10 (l.flatMap pieceC)) (by simp)), (by repeat first | exact Ent.refl | refine Ent.andL ?_ : Ent _ (lMem l)) w hN⟩, Al, l.length, l, hpl.symm, rfl, rfl, fun w hw => hw.1, fun w hw => hw.2, hcap⟩
end Go.Proofs.Ytlobimomeeppeaa
