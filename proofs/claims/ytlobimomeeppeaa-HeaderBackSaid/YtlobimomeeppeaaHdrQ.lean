/- Headers: HeaderTiles. -/
import Derived.Test.YtlobimomeeppeaaHdrP
namespace Go.Proofs.Ytlobimomeeppeaa
open Go.Proofs
set_option maxRecDepth 10000

theorem restP_kind {bs : List UInt8} {x : UInt8} {v : Nat} {d s : List UInt8} {p : Nat} {h : HdrL} {q : Nat} (hr : restP bs x v d s p = .ok (h, q)) : (h.kind = 1 ∨ h.kind = 2 ∨ h.kind = 3) ∨ h.len = 0 := by
  unfold restP at hr
  split at hr
  · split at hr
    · cases hr
    · cases hr; exact .inr rfl
  · split at hr
    · split at hr
      · cases hr
      · split at hr
        · cases hr
        · rename_i tok l q' hk
          cases hr
          show (((kindN x : Nat) : Int) = 1 ∨ ((kindN x : Nat) : Int) = 2 ∨ ((kindN x : Nat) : Int) = 3) ∨ l = 0
          unfold kindP at hk
          split at hk
          · split at hk
            · cases hk
            · cases hk; exact .inr rfl
          · rename_i h4
            refine .inl ?_
            unfold kindN at h4 ⊢
            omega
    · cases hr; exact .inr rfl
theorem parseL_kind {bs : List UInt8} {cid : Int} {h : HdrL} {a e : Nat} (hp : parseL bs cid = .ok (h, a, e)) : (h.kind = 1 ∨ h.kind = 2 ∨ h.kind = 3) ∨ e = bs.length := by
  unfold parseL at hp
  split at hp
  · cases hp
  · unfold parseP at hp
    split at hp
    · cases hp
    · split at hp
      · unfold shortP at hp
        split at hp
        · cases hp
        · split at hp
          · cases hp
          · cases hp; exact .inr rfl
      · unfold longP at hp
        split at hp
        · cases hp
        · split at hp
          · cases hp
          · split at hp
            · cases hp
            · split at hp
              · cases hp
              · rename_i r hr
                obtain ⟨hh, q⟩ := r
                cases hp
                rcases restP_kind hr with hk | hk
                · exact .inl hk
                · exact .inr (if_neg (show ¬ 0 < hh.len by omega))
theorem piecesL_cons {bs : List UInt8} {cid : Int} {p : Nat} {x : PieceL} {r : List PieceL} (h : piecesL bs cid p = x :: r) :
    p < bs.length ∧ x.from_ = p ∧ p < x.at_ ∧ x.at_ ≤ x.end_ ∧ x.end_ ≤ bs.length ∧ r = piecesL bs cid x.end_ ∧ (r ≠ [] → x.h.kind = 1 ∨ x.h.kind = 2 ∨ x.h.kind = 3) := by
  by_cases hp : p < bs.length
  · cases hpp : parseL (bs.drop p) cid with
    | error e => rw [piecesL_err hpp] at h; cases h
    | ok t =>
      obtain ⟨hd, a, e⟩ := t
      obtain ⟨h1, h2, h3⟩ := parseL_bounds hpp
      rw [List.length_drop] at h3
      rw [piecesL_ok hp hpp (by omega)] at h
      obtain ⟨rfl, rfl⟩ := List.cons.inj h
      refine ⟨hp, rfl, by simp only; omega, by simp only; omega, by simp only; omega, rfl, fun hne => ?_⟩
      rcases parseL_kind hpp with hk | hk
      · exact hk
      · rw [List.length_drop] at hk
        exact absurd (piecesL_end (by omega)) hne
  · rw [piecesL_end hp] at h; cases h
theorem splitT_ok {bs : List UInt8} {cid : Int} (h : (splitT bs cid).2 = 0) : (splitT bs cid).1 = piecesL bs cid 0 ∧ 0 < (splitT bs cid).1.length := by
  unfold splitT at h ⊢
  split
  · rename_i h1; rw [if_pos h1] at h; exact absurd h (by decide)
  · rename_i h1
    rw [if_neg h1] at h
    split
    · rename_i h2; rw [if_pos h2] at h; exact absurd h (by decide)
    · rename_i h2
      rw [if_neg h2] at h
      split
      · rename_i e hp; rw [hp] at h; exact absurd h (parseL_ne hp)
      · rename_i t hp
        refine ⟨rfl, ?_⟩
        obtain ⟨hd, a, e⟩ := t
        have hb := parseL_bounds hp
        rw [piecesL_ok (a := a) (e := e) (hd := hd) (by omega) (by rw [List.drop_zero]; exact hp) (by omega)]
        simp
theorem splitT_no {bs : List UInt8} {cid : Int} (h : (splitT bs cid).2 ≠ 0) : (splitT bs cid).1 = [] := by
  unfold splitT at h ⊢
  split
  · rfl
  · rename_i h1
    rw [if_neg h1] at h
    split
    · rfl
    · rename_i h2
      rw [if_neg h2] at h
      split
      · rfl
      · rename_i t hp; rw [hp] at h; exact absurd rfl h

set_option maxHeartbeats 1000000 in
theorem tiles_spec (A : Option Addr) (c : Nat) (bs : List UInt8) (cid : Int) (G : Mp) (h1 : Ent G (RowAt A (Bs bs))) (hm : bs.length ≤ 140737488351232) : Spec Try.prog 7 #[.slice A bs.length c, .int .i64 cid] [] G (Ret (.bool true)) := by
  refine Spec.intro (args := [_, _]) wide Try.func7 rfl Try.call7 (by rfl) (by rfl) (fun w0 hw0 => ?_)
  refine vcCall_of .nil (copy_spec A c bs _ (Ent.gnG h1) (by omega)) (fun v own' N' hv => ?_)
  obtain ⟨A0, c0, rfl, rfl, rfl, hc0⟩ := hv
  refine vcCall_of .nil (split_spec A0 c0 bs cid _ (by first | exact Ent.gnO (by repeat first | exact .here | apply Take.there) (fun w hw => Ob.sl_at hw) | exact Ent.gnO (by repeat first | exact .here | apply Take.there) (fun w hw => Ob.row_at hw)) (by omega) hm) (fun v own' N1 hv => ?_)
  obtain ⟨A1, c1, l, hl, rfl, rfl, hr1, hm1, hcap1⟩ := hv
  have hcnt : l.length ≤ bs.length := by rw [← List.length_map (f := fun x : PP => x.1), hl]; exact splitT_count bs cid
  refine vcIf_ndec (fun he => ?_) (fun he => ?_)
  · have hl0 : l.length = 0 := by rw [← List.length_map (f := fun x : PP => x.1), hl, splitT_no he]; rfl
    rw [hl0]
    refine vcCall_of .nil (hawake_spec _) (fun v own' N' hv => ?_)
    obtain ⟨rfl, rfl, rfl⟩ := hv
    exact ⟨[], _, MT, .nil, fun _ _ _ => trivial, rfl, rfl, rfl⟩
  obtain ⟨hlp, hpos⟩ := splitT_ok he
  rw [hlp] at hl
  have hlpos : 0 < l.length := by rw [← List.length_map (f := fun x : PP => x.1), hl, ← hlp]; exact hpos
  refine vcLoop_of (fun g : Nat × Nat => l.length - g.1) (fun g => [(0, .slice A bs.length c), (5, .slice A1 l.length c1), (7, .int .i64 g.2), (25, .slice A1 l.length c1), (26, .int .i64 l.length), (27, .int .i64 g.1)]) (fun _ => [])
    (fun _ => RowAt A1 (l.flatMap pieceC)) (fun g => g.1 ≤ l.length ∧ piecesL bs cid g.2 = (l.drop g.1).map (·.1)) (0, 0) ⟨Nat.zero_le _, hl.symm⟩
    ⟨rfl, rfl, rfl, rfl, rfl, rfl, trivial⟩ ⟨_, .nil⟩ (by repeat first | exact Ent.andR hr1 | refine Ent.andL ?_) ?_
  rintro ⟨k, p⟩ ⟨hk, hp⟩
  simp only at hk hp
  refine vcIf_dec (fun hlt => ?_) (fun hge => ?_)
  · have hk1 : k < l.length := by simp only at hlt; omega
    rw [List.drop_eq_getElem_cons hk1, List.map_cons] at hp
    obtain ⟨hpn, hfr, hat, hae, hen, hrest, hkind⟩ := piecesL_cons hp
    have hfl := flatMap_len pieceC_length l
    refine vcIdx_nats (s := 10) k rfl (Ent.gnN Ent.refl) hk1 (by rw [hfl]; exact Nat.le_refl _) (by decide) (fun a ha => ?_)
    subst ha
    refine vcLoadN_1 (j := k * 10) (pieceC l[k]) (Ent.gnN Ent.refl) rfl (flatMap_chunk pieceC_length l k hk1) ?_
    intro b9
    refine ⟨rfl, vcStoreN_row _ (by first | ((repeat (first | exact .here | apply Take.there)); done) | exact .none_) (by rfl) (by simp [oneCell, cellsL, pieceC, PP.hdr, hdrOf, hdrC]) ?_⟩
    refine vcLoad1_row (j := 7) (v := .int .i64 l[k].1.from_) ((by first | exact Ent.gnO (by repeat first | exact .here | apply Take.there) (fun w hw => Ob.sl_at hw) | exact Ent.gnO (by repeat first | exact .here | apply Take.there) (fun w hw => Ob.row_at hw)) : Ent _ (RowAt (some ⟨b9, 0, none⟩) (pieceC l[k]))) rfl ?_
    refine vcIf_nno (congrArg Int.ofNat hfr) ?_
    repeat (refine vcIf_no (by rfl) ?_)
    refine vcLoad1_row (j := 8) (v := .int .i64 l[k].1.at_) ((by first | exact Ent.gnO (by repeat first | exact .here | apply Take.there) (fun w hw => Ob.sl_at hw) | exact Ent.gnO (by repeat first | exact .here | apply Take.there) (fun w hw => Ob.row_at hw)) : Ent _ (RowAt (some ⟨b9, 0, none⟩) (pieceC l[k]))) rfl ?_
    repeat (refine vcIf_no (by rfl) ?_)
    refine vcLoad1_row (j := 7) (v := .int .i64 l[k].1.from_) ((by first | exact Ent.gnO (by repeat first | exact .here | apply Take.there) (fun w hw => Ob.sl_at hw) | exact Ent.gnO (by repeat first | exact .here | apply Take.there) (fun w hw => Ob.row_at hw)) : Ent _ (RowAt (some ⟨b9, 0, none⟩) (pieceC l[k]))) rfl ?_
    repeat (refine vcIf_no (by rfl) ?_)
    refine vcIf_no (by omega) ?_
    repeat (refine vcIf_no (by rfl) ?_)
    refine vcLoad1_row (j := 8) (v := .int .i64 l[k].1.at_) ((by first | exact Ent.gnO (by repeat first | exact .here | apply Take.there) (fun w hw => Ob.sl_at hw) | exact Ent.gnO (by repeat first | exact .here | apply Take.there) (fun w hw => Ob.row_at hw)) : Ent _ (RowAt (some ⟨b9, 0, none⟩) (pieceC l[k]))) rfl ?_
    repeat (refine vcIf_no (by rfl) ?_)
    refine vcLoad1_row (j := 9) (v := .int .i64 l[k].1.end_) ((by first | exact Ent.gnO (by repeat first | exact .here | apply Take.there) (fun w hw => Ob.sl_at hw) | exact Ent.gnO (by repeat first | exact .here | apply Take.there) (fun w hw => Ob.row_at hw)) : Ent _ (RowAt (some ⟨b9, 0, none⟩) (pieceC l[k]))) rfl ?_
    repeat (refine vcIf_no (by rfl) ?_)
    refine vcIf_no (by omega) ?_
    repeat (refine vcIf_no (by rfl) ?_)
    refine vcLoad1_row (j := 9) (v := .int .i64 l[k].1.end_) ((by first | exact Ent.gnO (by repeat first | exact .here | apply Take.there) (fun w hw => Ob.sl_at hw) | exact Ent.gnO (by repeat first | exact .here | apply Take.there) (fun w hw => Ob.row_at hw)) : Ent _ (RowAt (some ⟨b9, 0, none⟩) (pieceC l[k]))) rfl ?_
    repeat (refine vcIf_no (by rfl) ?_)
    refine vcIf_no (by omega) ?_
    repeat (refine vcIf_no (by rfl) ?_)
    refine vcFit_i64 (by omega) ?_
    refine vcIf_dec (fun hlast => ?_) (fun hlast => ?_)
    · have hne : (l.drop (k + 1)).map (·.1) ≠ [] := by
        intro h0
        have := congrArg List.length h0
        simp only [List.length_map, List.length_drop, List.length_nil] at this hlast
        omega
      rcases hkind hne with hkd | hkd | hkd
      · repeat (refine vcIf_yes (by rfl) ?_)
        refine vcLoad1_row (j := 0) (v := .int .i64 1) ((by first | exact Ent.gnO (by repeat first | exact .here | apply Take.there) (fun w hw => Ob.sl_at hw) | exact Ent.gnO (by repeat first | exact .here | apply Take.there) (fun w hw => Ob.row_at hw)) : Ent _ (RowAt (some ⟨b9, 0, none⟩) (pieceC l[k]))) (by show some (Value.int .i64 l[k].1.h.kind) = _; rw [hkd]) ?_
        repeat (first | refine vcIf_yes (by rfl) ?_ | refine vcIf_no (by rfl) ?_)
        refine vcLoad1_row (j := 9) (v := .int .i64 l[k].1.end_) ((by first | exact Ent.gnO (by repeat first | exact .here | apply Take.there) (fun w hw => Ob.sl_at hw) | exact Ent.gnO (by repeat first | exact .here | apply Take.there) (fun w hw => Ob.row_at hw)) : Ent _ (RowAt (some ⟨b9, 0, none⟩) (pieceC l[k]))) rfl ?_
        refine vcFit_i64 (by simp only; omega) ?_
        exact ⟨(k + 1, l[k].1.end_), ⟨hk1, hrest.symm⟩, by simp only; omega, ⟨rfl, rfl, rfl, rfl, rfl, rfl, trivial⟩, ⟨_, .nil⟩, (by repeat first | exact Ent.refl | refine Ent.andL ?_)⟩
      · repeat (refine vcIf_yes (by rfl) ?_)
        refine vcLoad1_row (j := 0) (v := .int .i64 2) ((by first | exact Ent.gnO (by repeat first | exact .here | apply Take.there) (fun w hw => Ob.sl_at hw) | exact Ent.gnO (by repeat first | exact .here | apply Take.there) (fun w hw => Ob.row_at hw)) : Ent _ (RowAt (some ⟨b9, 0, none⟩) (pieceC l[k]))) (by show some (Value.int .i64 l[k].1.h.kind) = _; rw [hkd]) ?_
        repeat (first | refine vcIf_yes (by rfl) ?_ | refine vcIf_no (by rfl) ?_)
        refine vcLoad1_row (j := 0) (v := .int .i64 2) ((by first | exact Ent.gnO (by repeat first | exact .here | apply Take.there) (fun w hw => Ob.sl_at hw) | exact Ent.gnO (by repeat first | exact .here | apply Take.there) (fun w hw => Ob.row_at hw)) : Ent _ (RowAt (some ⟨b9, 0, none⟩) (pieceC l[k]))) (by show some (Value.int .i64 l[k].1.h.kind) = _; rw [hkd]) ?_
        repeat (first | refine vcIf_yes (by rfl) ?_ | refine vcIf_no (by rfl) ?_)
        refine vcLoad1_row (j := 9) (v := .int .i64 l[k].1.end_) ((by first | exact Ent.gnO (by repeat first | exact .here | apply Take.there) (fun w hw => Ob.sl_at hw) | exact Ent.gnO (by repeat first | exact .here | apply Take.there) (fun w hw => Ob.row_at hw)) : Ent _ (RowAt (some ⟨b9, 0, none⟩) (pieceC l[k]))) rfl ?_
        refine vcFit_i64 (by simp only; omega) ?_
        exact ⟨(k + 1, l[k].1.end_), ⟨hk1, hrest.symm⟩, by simp only; omega, ⟨rfl, rfl, rfl, rfl, rfl, rfl, trivial⟩, ⟨_, .nil⟩, (by repeat first | exact Ent.refl | refine Ent.andL ?_)⟩
      · repeat (refine vcIf_yes (by rfl) ?_)
        refine vcLoad1_row (j := 0) (v := .int .i64 3) ((by first | exact Ent.gnO (by repeat first | exact .here | apply Take.there) (fun w hw => Ob.sl_at hw) | exact Ent.gnO (by repeat first | exact .here | apply Take.there) (fun w hw => Ob.row_at hw)) : Ent _ (RowAt (some ⟨b9, 0, none⟩) (pieceC l[k]))) (by show some (Value.int .i64 l[k].1.h.kind) = _; rw [hkd]) ?_
        repeat (first | refine vcIf_yes (by rfl) ?_ | refine vcIf_no (by rfl) ?_)
        refine vcLoad1_row (j := 0) (v := .int .i64 3) ((by first | exact Ent.gnO (by repeat first | exact .here | apply Take.there) (fun w hw => Ob.sl_at hw) | exact Ent.gnO (by repeat first | exact .here | apply Take.there) (fun w hw => Ob.row_at hw)) : Ent _ (RowAt (some ⟨b9, 0, none⟩) (pieceC l[k]))) (by show some (Value.int .i64 l[k].1.h.kind) = _; rw [hkd]) ?_
        repeat (first | refine vcIf_yes (by rfl) ?_ | refine vcIf_no (by rfl) ?_)
        refine vcLoad1_row (j := 0) (v := .int .i64 3) ((by first | exact Ent.gnO (by repeat first | exact .here | apply Take.there) (fun w hw => Ob.sl_at hw) | exact Ent.gnO (by repeat first | exact .here | apply Take.there) (fun w hw => Ob.row_at hw)) : Ent _ (RowAt (some ⟨b9, 0, none⟩) (pieceC l[k]))) (by show some (Value.int .i64 l[k].1.h.kind) = _; rw [hkd]) ?_
        repeat (first | refine vcIf_yes (by rfl) ?_ | refine vcIf_no (by rfl) ?_)
        refine vcLoad1_row (j := 9) (v := .int .i64 l[k].1.end_) ((by first | exact Ent.gnO (by repeat first | exact .here | apply Take.there) (fun w hw => Ob.sl_at hw) | exact Ent.gnO (by repeat first | exact .here | apply Take.there) (fun w hw => Ob.row_at hw)) : Ent _ (RowAt (some ⟨b9, 0, none⟩) (pieceC l[k]))) rfl ?_
        refine vcFit_i64 (by simp only; omega) ?_
        exact ⟨(k + 1, l[k].1.end_), ⟨hk1, hrest.symm⟩, by simp only; omega, ⟨rfl, rfl, rfl, rfl, rfl, rfl, trivial⟩, ⟨_, .nil⟩, (by repeat first | exact Ent.refl | refine Ent.andL ?_)⟩
    · repeat (refine vcIf_no (by rfl) ?_)
      refine vcLoad1_row (j := 9) (v := .int .i64 l[k].1.end_) ((by first | exact Ent.gnO (by repeat first | exact .here | apply Take.there) (fun w hw => Ob.sl_at hw) | exact Ent.gnO (by repeat first | exact .here | apply Take.there) (fun w hw => Ob.row_at hw)) : Ent _ (RowAt (some ⟨b9, 0, none⟩) (pieceC l[k]))) rfl ?_
      refine vcFit_i64 (by simp only; omega) ?_
      exact ⟨(k + 1, l[k].1.end_), ⟨hk1, hrest.symm⟩, by simp only; omega, ⟨rfl, rfl, rfl, rfl, rfl, rfl, trivial⟩, ⟨_, .nil⟩, (by repeat first | exact Ent.refl | refine Ent.andL ?_)⟩
  · refine vcIf_yes (by omega) ?_
    repeat (refine vcIf_yes (by rfl) ?_)
    refine vcCall_of .nil (hawake_spec _) (fun v own' N' hv => ?_)
    obtain ⟨rfl, rfl, rfl⟩ := hv
    exact ⟨[], _, MT, .nil, fun _ _ _ => trivial, rfl, rfl, rfl⟩
end Go.Proofs.Ytlobimomeeppeaa
