/- Unprotect, and the reference's. -/
import Derived.Test.YtlaelknibcehdaaGrdI
namespace Go.Proofs.Ytlaelknibcehdaa
open Go.Proofs
set_option maxRecDepth 10000

def eOf (right : Bool) (len : Nat) (a high : Int) : Int := if right then checkI len a high else 70
def unprotL (right : Bool) (key iv hp P : List UInt8) (a high : Int) : Int × List UInt8 × UInt8 × Int :=
  if eOf right P.length a high ≠ 0 then (0, [], 0, eOf right P.length a high)
  else if (unsealL key iv (bareL hp P a.toNat high)).2 ≠ 0 then (0, [], 0, (unsealL key iv (bareL hp P a.toNat high)).2)
  else ((bareL hp P a.toNat high).number, (unsealL key iv (bareL hp P a.toNat high)).1, (bareL hp P a.toNat high).first, 0)
def OwnU (r : Int × List UInt8 × UInt8 × Int) (v : Value) (own : List Ob) (N : Mp) : Prop := ∃ A cap, v = .tuple #[.int .i64 r.1, .slice A r.2.1.length cap, .int .u8 r.2.2.1.toNat, .int .i64 r.2.2.2] ∧ own = [.sl A cap 5 1 (Bs r.2.1)] ∧ N = MT ∧ r.2.1.length ≤ cap
theorem OwnU_nil (e : Int) : OwnU (0, [], 0, e) (.tuple #[.int .i64 0, .slice none 0 0, .int .u8 0, .int .i64 e]) [.sl none 0 5 1 []] MT := ⟨none, 0, rfl, rfl, rfl, Nat.le_refl _⟩
theorem retU {s r : Int × List UInt8 × UInt8 × Int} (h : s = r) {v : Value} {own : List Ob} {N : Mp} (k : OwnU r v own N) : OwnU s v own N := by subst h; exact k
theorem unprotL_e {right : Bool} {key iv hp P : List UInt8} {a high : Int} (h : eOf right P.length a high ≠ 0) : unprotL right key iv hp P a high = (0, [], 0, eOf right P.length a high) := if_pos h
theorem unprotL_f {right : Bool} {key iv hp P : List UInt8} {a : Nat} {high : Int} (h : eOf right P.length a high = 0) (h2 : (unsealL key iv (bareL hp P a high)).2 ≠ 0) : unprotL right key iv hp P a high = (0, [], 0, (unsealL key iv (bareL hp P a high)).2) := by
  unfold unprotL; rw [if_neg (by omega)]; exact if_pos h2
theorem unprotL_ok {right : Bool} {key iv hp P : List UInt8} {a : Nat} {high : Int} (h : eOf right P.length a high = 0) (h2 : (unsealL key iv (bareL hp P a high)).2 = 0) : unprotL right key iv hp P a high = (((bareL hp P a high).number : Int), (unsealL key iv (bareL hp P a high)).1, (bareL hp P a high).first, 0) := by
  unfold unprotL; rw [if_neg (by omega)]; exact if_neg (by rw [Int.toNat_natCast]; omega)
theorem eOf_zero {right : Bool} {len : Nat} {a high : Int} (h : eOf right len a high = 0) : right = true ∧ (1 ≤ a ∧ a ≤ (len : Int) - 20) ∧ (-1 ≤ high ∧ high ≤ 4611686018427387903) ∧ a ≤ 16380 ∧ (len : Int) - a ≤ 16400 := by
  unfold eOf at h
  cases right with
  | false => exact absurd (show (70 : Int) = 0 from h) (by decide)
  | true => exact ⟨rfl, checkI_zero h⟩
theorem rightK_true {k i h : Piece} (hr : rightK k i h = true) : k.2.2.length = 16 ∧ i.2.2.length = 12 ∧ h.2.2.length = 16 := of_decide_eq_true hr
theorem bareL_number {hp P : List UInt8} {a : Nat} {high : Int} (h4 : -1 ≤ high) (h5 : high ≤ 4611686018427387903) : (bareL hp P a high).number ≤ 4611686018427387903 := by
  obtain ⟨hN, hhN⟩ := Int.eq_ofNat_of_zero_le (show 0 ≤ high + 1 by omega)
  unfold bareL bareM
  generalize firstB P (maskOf hp P a) = f
  have hplt := partN_lt (lowL P a (maskOf hp P a) (f.toNat % 4 + 1))
  rw [lowL_length] at hplt
  have := expandI_range hhN (by omega) (by omega) (by omega) hplt
  show (expandI _ _ _).toNat ≤ _
  omega

set_option maxHeartbeats 1000000 in
theorem unprot_spec (k i h : Piece) (Ap : Option Addr) (cp : Nat) (P : List UInt8) (a high : Int) (G : Mp) (hk : Ent G (RowAt k.1 (Bs k.2.2))) (hi : Ent G (RowAt i.1 (Bs i.2.2))) (hh : Ent G (RowAt h.1 (Bs h.2.2))) (hP : Ent G (RowAt Ap (Bs P))) (hcp : P.length ≤ cp)
    (hl : P.length ≤ 140737488351232) (ha : -9223372036854775808 ≤ a) (ha2 : a ≤ 9223372036854775807) :
    Spec Try.prog 17 #[keysV k i h, .slice Ap P.length cp, .int .i64 a, .int .i64 high] [] G (OwnU (unprotL (rightK k i h) k.2.2 i.2.2 h.2.2 P a high)) := by
  refine Spec.intro (args := [_, _, _, _]) wide Try.func17 rfl Try.call17 (by rfl) (by rfl) (fun w0 hw0 => ?_)
  intro bx
  refine vcLoadN_0 (xs := keysL k i h) (Ent.gnO .here (fun w hw => Ob.row_at hw)) rfl ?_
  refine vcCall_of .nil (check_spec k i h Ap cp P.length a high hl ha ha2 _) (fun v own' N' hv => ?_); obtain ⟨rfl, rfl, rfl⟩ := hv
  rw [show checkK k i h P.length a high = eOf (rightK k i h) P.length a high from rfl]
  refine vcIf_ndec (fun h1 => ?_) (fun h1 => ?_)
  · exact ⟨_, _, MT, .cons .none_ .nil, fun _ _ _ => trivial, retU (unprotL_e h1) (OwnU_nil _)⟩
  obtain ⟨hrt, hz1, hz2, hz3, hz4⟩ := eOf_zero h1
  obtain ⟨hk16, hi12, hh16⟩ := rightK_true hrt
  obtain ⟨a, rfl⟩ := Int.eq_ofNat_of_zero_le (show 0 ≤ a by omega)
  refine vcLoad1_row (j := 2) (v := pieceV h) (Ent.gnO .here (fun w hw => Ob.row_at hw)) rfl ?_
  refine vcCall_of .nil (unmask_spec h.1 Ap h.2.1 cp h.2.2 P a high _ (Ent.gnG hh) (Ent.gnG hP) hcp (by omega) (by omega) (by omega) (by omega) (by omega)) (fun v own' N' hv => ?_)
  obtain ⟨A1, c1, A2, c2, rfl, rfl, hr1, hr2, hc1, hc2⟩ := hv
  have hnum := bareL_number (hp := h.2.2) (P := P) (a := a) (high := high) (by omega) (by omega)
  have hf := @unprotL_f (rightK k i h) k.2.2 i.2.2 h.2.2 P a high h1
  have ho := @unprotL_ok (rightK k i h) k.2.2 i.2.2 h.2.2 P a high h1
  generalize bareL h.2.2 P a high = b at *
  intro bo
  refine ⟨rfl, vcStoreN_row _ .here rfl (by simp [bareV, oneCell, cellsL]) ?_⟩
  refine vcLoadN_0 (xs := bareVL b A1 c1 A2 c2) (Ent.gnO .here (fun w hw => Ob.row_at hw)) rfl ?_
  refine vcLoadN_0 (xs := keysL k i h) (Ent.gnO (.there .here) (fun w hw => Ob.row_at hw)) rfl ?_
  refine vcCall_of .nil (unseal_spec b A1 A2 c1 c2 k i h _ hi12 (Ent.gnG hk) (Ent.gnG hi) (Ent.gnN (Ent.andR hr1)) (Ent.gnN (Ent.andR hr2)) hc2) (fun v own' N' hv => ?_)
  obtain ⟨A3, c3, rfl, rfl, rfl, hc3⟩ := hv
  refine vcIf_ndec (fun h2 => ?_) (fun h2 => ?_)
  · exact ⟨_, _, MT, .cons .none_ .nil, fun _ _ _ => trivial, retU (hf h2) (OwnU_nil _)⟩
  · refine vcDraw_quiet (by kernel_rfl) ?_
    refine vcLoad1_row (j := 1) (v := .int .i64 b.number) (Ent.gnO (.there .here) (fun w hw => Ob.row_at hw)) rfl ?_
    refine vcLoad1_row (j := 0) (v := .int .u8 b.first.toNat) (Ent.gnO (.there .here) (fun w hw => Ob.row_at hw)) rfl ?_
    exact ⟨_, _, MT, .cons (by first | exact .here | exact (.there .here) | exact (.there (.there .here)) | exact (.there (.there (.there .here))) | exact (.there (.there (.there (.there .here)))) | exact (.there (.there (.there (.there (.there .here))))) | exact (.there (.there (.there (.there (.there (.there .here)))))) | exact (.there (.there (.there (.there (.there (.there (.there .here))))))) | exact (.there (.there (.there (.there (.there (.there (.there (.there .here)))))))) | exact (.there (.there (.there (.there (.there (.there (.there (.there (.there .here))))))))) | exact (.there (.there (.there (.there (.there (.there (.there (.there (.there (.there .here)))))))))) | exact (.there (.there (.there (.there (.there (.there (.there (.there (.there (.there (.there .here))))))))))) | exact (.there (.there (.there (.there (.there (.there (.there (.there (.there (.there (.there (.there .here)))))))))))) | exact (.there (.there (.there (.there (.there (.there (.there (.there (.there (.there (.there (.there (.there .here))))))))))))) | exact (.there (.there (.there (.there (.there (.there (.there (.there (.there (.there (.there (.there (.there (.there .here)))))))))))))) | exact (.there (.there (.there (.there (.there (.there (.there (.there (.there (.there (.there (.there (.there (.there (.there .here))))))))))))))) | exact (.there (.there (.there (.there (.there (.there (.there (.there (.there (.there (.there (.there (.there (.there (.there (.there .here)))))))))))))))) | exact (.there (.there (.there (.there (.there (.there (.there (.there (.there (.there (.there (.there (.there (.there (.there (.there (.there .here))))))))))))))))) | exact .none_) .nil, fun _ _ _ => trivial, retU (ho h2) ⟨A3, c3, rfl, rfl, rfl, hc3⟩⟩

set_option maxHeartbeats 1000000 in
theorem runprot_spec (k i h : Piece) (Ap : Option Addr) (cp : Nat) (P : List UInt8) (a high : Int) (G : Mp) (hk : Ent G (RowAt k.1 (Bs k.2.2))) (hi : Ent G (RowAt i.1 (Bs i.2.2))) (hh : Ent G (RowAt h.1 (Bs h.2.2))) (hP : Ent G (RowAt Ap (Bs P))) (hcp : P.length ≤ cp)
    (hl : P.length ≤ 140737488351232) :
    Spec Try.prog 18 #[keysV k i h, .slice Ap P.length cp, .int .i64 a, .int .i64 high] [] G (OwnU (unprotL (rightK k i h) k.2.2 i.2.2 h.2.2 P a high)) := by
  refine Spec.intro (args := [_, _, _, _]) wide Try.func18 rfl Try.call18 (by rfl) (by rfl) (fun w0 hw0 => ?_)
  intro bx
  refine vcLoadN_0 (xs := keysL k i h) (Ent.gnO .here (fun w hw => Ob.row_at hw)) rfl ?_
  refine vcCall_of .nil (rright_spec k i h _) (fun v own' N' hv => ?_); obtain ⟨rfl, rfl, rfl⟩ := hv
  cases hrt : rightK k i h with
  | false =>
    exact ⟨_, _, MT, .cons .none_ .nil, fun _ _ _ => trivial, retU (unprotL_e (right := false) (P := P) (a := a) (high := high) (show (70 : Int) ≠ 0 by decide)) (OwnU_nil 70)⟩
  | true =>
    refine vcCall_of .nil (rcheck_spec Ap cp P.length a high hl _) (fun v own' N' hv => ?_); obtain ⟨rfl, rfl, rfl⟩ := hv
    rw [show checkI P.length a high = eOf true P.length a high from rfl]
    refine vcIf_ndec (fun h1 => ?_) (fun h1 => ?_)
    · exact ⟨_, _, MT, .cons .none_ .nil, fun _ _ _ => trivial, retU (unprotL_e h1) (OwnU_nil _)⟩
    obtain ⟨_, hz1, hz2, hz3, hz4⟩ := eOf_zero h1
    obtain ⟨hk16, hi12, hh16⟩ := rightK_true hrt
    obtain ⟨a, rfl⟩ := Int.eq_ofNat_of_zero_le (show 0 ≤ a by omega)
    refine vcLoad1_row (j := 2) (v := pieceV h) (Ent.gnO .here (fun w hw => Ob.row_at hw)) rfl ?_
    refine vcCall_of .nil (runmask_spec h.1 Ap h.2.1 cp h.2.2 P a high _ (Ent.gnG hh) (Ent.gnG hP) hcp (by omega) (by omega) (by omega) (by omega) (by omega)) (fun v own' N' hv => ?_)
    obtain ⟨A1, c1, rfl, rfl, rfl, hc1⟩ := hv
    have hnum := bareL_number (hp := h.2.2) (P := P) (a := a) (high := high) (by omega) (by omega)
    have hf := @unprotL_f true k.2.2 i.2.2 h.2.2 P a high h1
    have ho := @unprotL_ok true k.2.2 i.2.2 h.2.2 P a high h1
    have hr2 : Ent G (RowAt (cutA Ap cp (a + ((firstB P (maskOf h.2.2 P a)).toNat % 4 + 1)) 1) (Bs (bareL h.2.2 P a high).sealed)) := hP.mono fun w hw => hw.bytes rfl hcp (by show P.drop _ = (P.drop _).take (P.drop _).length; rw [List.take_length])
    have hc2 : (bareL h.2.2 P a high).sealed.length ≤ cp - (a + ((firstB P (maskOf h.2.2 P a)).toNat % 4 + 1)) := by
      show (P.drop _).length ≤ _
      rw [List.length_drop]; omega
    generalize a + ((firstB P (maskOf h.2.2 P a)).toNat % 4 + 1) = l at *
    generalize bareL h.2.2 P a high = b at *
    intro bo
    refine ⟨rfl, vcStoreN_row _ .here rfl (by simp [bareV, oneCell, cellsL]) ?_⟩
    refine vcLoadN_0 (xs := bareVL b A1 c1 (cutA Ap cp l 1) (cp - l)) (Ent.gnO .here (fun w hw => Ob.row_at hw)) rfl ?_
    refine vcLoad1_row (j := 0) (v := pieceV k) (Ent.gnO (.there (.there .here)) (fun w hw => Ob.row_at hw)) rfl ?_
    refine vcLoad1_row (j := 1) (v := pieceV i) (Ent.gnO (.there (.there .here)) (fun w hw => Ob.row_at hw)) rfl ?_
    refine vcCall_of .nil (runseal_spec b A1 (cutA Ap cp l 1) c1 (cp - l) k.1 i.1 k.2.1 i.2.1 k.2.2 i.2.2 _ hi12 hnum (Ent.gnG hk) (Ent.gnG hi) (Ent.gnO (.there .here) (fun w hw => Ob.sl_at hw)) (Ent.gnG hr2) hc2) (fun v own' N' hv => ?_)
    obtain ⟨A3, c3, rfl, rfl, rfl, hc3⟩ := hv
    refine vcIf_ndec (fun h2 => ?_) (fun h2 => ?_)
    · exact ⟨_, _, MT, .cons .none_ .nil, fun _ _ _ => trivial, retU (hf h2) (OwnU_nil _)⟩
    · refine vcDraw_quiet (by kernel_rfl) ?_
      refine vcLoad1_row (j := 1) (v := .int .i64 b.number) (Ent.gnO (.there .here) (fun w hw => Ob.row_at hw)) rfl ?_
      refine vcLoad1_row (j := 0) (v := .int .u8 b.first.toNat) (Ent.gnO (.there .here) (fun w hw => Ob.row_at hw)) rfl ?_
      exact ⟨_, _, MT, .cons (by first | exact .here | exact (.there .here) | exact (.there (.there .here)) | exact (.there (.there (.there .here))) | exact (.there (.there (.there (.there .here)))) | exact (.there (.there (.there (.there (.there .here))))) | exact (.there (.there (.there (.there (.there (.there .here)))))) | exact (.there (.there (.there (.there (.there (.there (.there .here))))))) | exact (.there (.there (.there (.there (.there (.there (.there (.there .here)))))))) | exact (.there (.there (.there (.there (.there (.there (.there (.there (.there .here))))))))) | exact (.there (.there (.there (.there (.there (.there (.there (.there (.there (.there .here)))))))))) | exact (.there (.there (.there (.there (.there (.there (.there (.there (.there (.there (.there .here))))))))))) | exact (.there (.there (.there (.there (.there (.there (.there (.there (.there (.there (.there (.there .here)))))))))))) | exact (.there (.there (.there (.there (.there (.there (.there (.there (.there (.there (.there (.there (.there .here))))))))))))) | exact (.there (.there (.there (.there (.there (.there (.there (.there (.there (.there (.there (.there (.there (.there .here)))))))))))))) | exact (.there (.there (.there (.there (.there (.there (.there (.there (.there (.there (.there (.there (.there (.there (.there .here))))))))))))))) | exact (.there (.there (.there (.there (.there (.there (.there (.there (.there (.there (.there (.there (.there (.there (.there (.there .here)))))))))))))))) | exact (.there (.there (.there (.there (.there (.there (.there (.there (.there (.there (.there (.there (.there (.there (.there (.there (.there .here))))))))))))))))) | exact .none_) .nil, fun _ _ _ => trivial, retU (ho h2) ⟨A3, c3, rfl, rfl, rfl, hc3⟩⟩
end Go.Proofs.Ytlaelknibcehdaa
