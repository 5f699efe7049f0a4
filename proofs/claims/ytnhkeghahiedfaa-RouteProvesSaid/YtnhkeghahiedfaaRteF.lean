/- The laws RouteIds and RouteApart. -/
import Derived.Test.YtnhkeghahiedfaaRteE
namespace Go.Proofs.Ytnhkeghahiedfaa
open Go.Proofs
set_option maxRecDepth 10000

theorem makeL_len (s : List UInt8) (w n : Int) : (makeL s w n).1.length ≤ 8 := by
  unfold makeL
  split
  · exact Nat.zero_le _
  split
  · exact Nat.zero_le _
  · show (idB _ _ _).length ≤ 8
    rw [show (idB s w.toNat n.toNat).length = 8 from xorD_length _ _]; exact Nat.le_refl _
theorem resetL_len (s id : List UInt8) : (resetL s id).1.length ≤ 16 := by
  unfold resetL
  split
  · exact Nat.zero_le _
  split
  · exact Nat.zero_le _
  · show (dig _).length ≤ 16
    rw [dig_length]; exact Nat.le_refl _
def HasB (G : Mp) (p : Piece) : Prop := Ent G (RowAt p.1 (Bs p.2.2)) ∧ p.2.2.length ≤ p.2.1 ∧ p.2.2.length ≤ 140737488351232
def idsV (s id : Piece) (w n : Int) : Value := .agg #[pieceV s, pieceV id, .int .i64 w, .int .i64 n]
def idsC (s id : Piece) (w n : Int) : List Value := [pieceV s, pieceV id, .int .i64 w, .int .i64 n]

set_option maxHeartbeats 2000000 in
theorem ids_spec (s id : Piece) (w n : Int) (G : Mp) (hs : HasB G s) (hi : HasB G id) : Spec Try.prog 4 #[idsV s id w n] [] G (Ret (.bool true)) := by
  obtain ⟨As, cs, s⟩ := s
  obtain ⟨Ai, ci, id⟩ := id
  obtain ⟨hs, _, ls⟩ := hs
  obtain ⟨hi, _, li⟩ := hi
  simp only at hs hi ls li
  refine Spec.intro (args := [_]) wide Try.func4 rfl Try.call4 (by rfl) (by rfl) (fun w0 hw0 => ?_)
  intro bx
  refine vcDraw_quiet (by kernel_rfl) ?_
  refine vcLoad1_row (j := 0) (v := pieceV (As, cs, s)) ((Ent.gnO .here (fun w hw => Ob.row_at hw)) : Ent _ (RowAt (some ⟨bx, 0, none⟩) (idsC (As, cs, s) (Ai, ci, id) w n))) rfl ?_
  refine vcLoad1_row (j := 1) (v := pieceV (Ai, ci, id)) ((Ent.gnO .here (fun w hw => Ob.row_at hw)) : Ent _ (RowAt (some ⟨bx, 0, none⟩) (idsC (As, cs, s) (Ai, ci, id) w n))) rfl ?_
  refine vcLoad1_row (j := 2) (v := .int .i64 w) ((Ent.gnO .here (fun w hw => Ob.row_at hw)) : Ent _ (RowAt (some ⟨bx, 0, none⟩) (idsC (As, cs, s) (Ai, ci, id) w n))) rfl ?_
  refine vcLoad1_row (j := 3) (v := .int .i64 n) ((Ent.gnO .here (fun w hw => Ob.row_at hw)) : Ent _ (RowAt (some ⟨bx, 0, none⟩) (idsC (As, cs, s) (Ai, ci, id) w n))) rfl ?_
  refine vcCall_of .nil (copy_spec As cs s _ (Ent.gnG hs) (by omega)) (fun v own' N' hv => ?_); obtain ⟨A1, c1, rfl, rfl, rfl, hc1⟩ := hv
  refine vcCall_of .nil (make_spec A1 c1 s w n _ (Ent.gnO .here (fun w hw => Ob.sl_at hw))) (fun v own' N1 hv => ?_)
  obtain ⟨A2, c2, rfl, rfl, rfl, hc2⟩ := hv
  refine vcCall_of .nil (rmake_spec As cs s w n _ (Ent.gnG hs)) (fun v own' N1 hv => ?_)
  obtain ⟨A3, c3, rfl, rfl, rfl, hc3⟩ := hv
  refine vcCall_of .nil (copy_spec As cs s _ (Ent.gnG hs) (by omega)) (fun v own' N' hv => ?_); obtain ⟨A4, c4, rfl, rfl, rfl, hc4⟩ := hv
  refine vcCall_of .nil (copy_spec Ai ci id _ (Ent.gnG hi) (by omega)) (fun v own' N' hv => ?_); obtain ⟨A5, c5, rfl, rfl, rfl, hc5⟩ := hv
  refine vcCall_of .nil (read_spec A4 A5 c4 c5 s id _ (Ent.gnO (.there .here) (fun w hw => Ob.sl_at hw)) (Ent.gnO .here (fun w hw => Ob.sl_at hw))) (fun v own' N' hv => ?_); obtain ⟨rfl, rfl, rfl⟩ := hv
  refine vcCall_of .nil (rread_spec As Ai cs ci s id _ (Ent.gnG hs) (Ent.gnG hi)) (fun v own' N' hv => ?_); obtain ⟨rfl, rfl, rfl⟩ := hv
  refine vcCall_of .nil (copy_spec As cs s _ (Ent.gnG hs) (by omega)) (fun v own' N' hv => ?_); obtain ⟨A6, c6, rfl, rfl, rfl, hc6⟩ := hv
  refine vcCall_of .nil (copy_spec Ai ci id _ (Ent.gnG hi) (by omega)) (fun v own' N' hv => ?_); obtain ⟨A7, c7, rfl, rfl, rfl, hc7⟩ := hv
  refine vcCall_of .nil (reset_spec A6 A7 c6 c7 s id _ (Ent.gnO (.there .here) (fun w hw => Ob.sl_at hw)) (Ent.gnO .here (fun w hw => Ob.sl_at hw))) (fun v own' N2 hv => ?_)
  obtain ⟨A8, c8, rfl, rfl, hr8, hc8⟩ := hv
  refine vcCall_of .nil (rreset_spec As Ai cs ci s id _ (Ent.gnG hs) (Ent.gnG hi)) (fun v own' N1 hv => ?_)
  obtain ⟨A9, c9, rfl, rfl, rfl, hc9⟩ := hv
  have hl1 := makeL_len s w n
  have hl2 := resetL_len s id
  generalize makeL s w n = r1 at *
  generalize resetL s id = r2 at *
  generalize readL s id = r3 at *
  refine vcCall_of .nil (awake_spec _) (fun v own' N' hv => ?_); obtain ⟨rfl, rfl, rfl⟩ := hv
  refine vcCall_of .nil (same_spec A2 A3 c2 c3 r1.1 r1.1 _ (by first | exact Ent.gnO .here (fun w hw => Ob.sl_at hw) | exact Ent.gnO .here (fun w hw => Ob.row_at hw) | exact Ent.gnO (.there .here) (fun w hw => Ob.sl_at hw) | exact Ent.gnO (.there .here) (fun w hw => Ob.row_at hw) | exact Ent.gnO (.there (.there .here)) (fun w hw => Ob.sl_at hw) | exact Ent.gnO (.there (.there .here)) (fun w hw => Ob.row_at hw) | exact Ent.gnO (.there (.there (.there .here))) (fun w hw => Ob.sl_at hw) | exact Ent.gnO (.there (.there (.there .here))) (fun w hw => Ob.row_at hw) | exact Ent.gnO (.there (.there (.there (.there .here)))) (fun w hw => Ob.sl_at hw) | exact Ent.gnO (.there (.there (.there (.there .here)))) (fun w hw => Ob.row_at hw) | exact Ent.gnO (.there (.there (.there (.there (.there .here))))) (fun w hw => Ob.sl_at hw) | exact Ent.gnO (.there (.there (.there (.there (.there .here))))) (fun w hw => Ob.row_at hw) | exact Ent.gnO (.there (.there (.there (.there (.there (.there .here)))))) (fun w hw => Ob.sl_at hw) | exact Ent.gnO (.there (.there (.there (.there (.there (.there .here)))))) (fun w hw => Ob.row_at hw) | exact Ent.gnO (.there (.there (.there (.there (.there (.there (.there .here))))))) (fun w hw => Ob.sl_at hw) | exact Ent.gnO (.there (.there (.there (.there (.there (.there (.there .here))))))) (fun w hw => Ob.row_at hw) | exact Ent.gnO (.there (.there (.there (.there (.there (.there (.there (.there .here)))))))) (fun w hw => Ob.sl_at hw) | exact Ent.gnO (.there (.there (.there (.there (.there (.there (.there (.there .here)))))))) (fun w hw => Ob.row_at hw) | exact Ent.gnO (.there (.there (.there (.there (.there (.there (.there (.there (.there .here))))))))) (fun w hw => Ob.sl_at hw) | exact Ent.gnO (.there (.there (.there (.there (.there (.there (.there (.there (.there .here))))))))) (fun w hw => Ob.row_at hw) | exact Ent.gnO (.there (.there (.there (.there (.there (.there (.there (.there (.there (.there .here)))))))))) (fun w hw => Ob.sl_at hw) | exact Ent.gnO (.there (.there (.there (.there (.there (.there (.there (.there (.there (.there .here)))))))))) (fun w hw => Ob.row_at hw) | exact Ent.gnO (.there (.there (.there (.there (.there (.there (.there (.there (.there (.there (.there .here))))))))))) (fun w hw => Ob.sl_at hw) | exact Ent.gnO (.there (.there (.there (.there (.there (.there (.there (.there (.there (.there (.there .here))))))))))) (fun w hw => Ob.row_at hw) | exact Ent.gnO (.there (.there (.there (.there (.there (.there (.there (.there (.there (.there (.there (.there .here)))))))))))) (fun w hw => Ob.sl_at hw) | exact Ent.gnO (.there (.there (.there (.there (.there (.there (.there (.there (.there (.there (.there (.there .here)))))))))))) (fun w hw => Ob.row_at hw) | exact Ent.gnO (.there (.there (.there (.there (.there (.there (.there (.there (.there (.there (.there (.there (.there .here))))))))))))) (fun w hw => Ob.sl_at hw) | exact Ent.gnO (.there (.there (.there (.there (.there (.there (.there (.there (.there (.there (.there (.there (.there .here))))))))))))) (fun w hw => Ob.row_at hw)) (by first | exact Ent.gnO .here (fun w hw => Ob.sl_at hw) | exact Ent.gnO .here (fun w hw => Ob.row_at hw) | exact Ent.gnO (.there .here) (fun w hw => Ob.sl_at hw) | exact Ent.gnO (.there .here) (fun w hw => Ob.row_at hw) | exact Ent.gnO (.there (.there .here)) (fun w hw => Ob.sl_at hw) | exact Ent.gnO (.there (.there .here)) (fun w hw => Ob.row_at hw) | exact Ent.gnO (.there (.there (.there .here))) (fun w hw => Ob.sl_at hw) | exact Ent.gnO (.there (.there (.there .here))) (fun w hw => Ob.row_at hw) | exact Ent.gnO (.there (.there (.there (.there .here)))) (fun w hw => Ob.sl_at hw) | exact Ent.gnO (.there (.there (.there (.there .here)))) (fun w hw => Ob.row_at hw) | exact Ent.gnO (.there (.there (.there (.there (.there .here))))) (fun w hw => Ob.sl_at hw) | exact Ent.gnO (.there (.there (.there (.there (.there .here))))) (fun w hw => Ob.row_at hw) | exact Ent.gnO (.there (.there (.there (.there (.there (.there .here)))))) (fun w hw => Ob.sl_at hw) | exact Ent.gnO (.there (.there (.there (.there (.there (.there .here)))))) (fun w hw => Ob.row_at hw) | exact Ent.gnO (.there (.there (.there (.there (.there (.there (.there .here))))))) (fun w hw => Ob.sl_at hw) | exact Ent.gnO (.there (.there (.there (.there (.there (.there (.there .here))))))) (fun w hw => Ob.row_at hw) | exact Ent.gnO (.there (.there (.there (.there (.there (.there (.there (.there .here)))))))) (fun w hw => Ob.sl_at hw) | exact Ent.gnO (.there (.there (.there (.there (.there (.there (.there (.there .here)))))))) (fun w hw => Ob.row_at hw) | exact Ent.gnO (.there (.there (.there (.there (.there (.there (.there (.there (.there .here))))))))) (fun w hw => Ob.sl_at hw) | exact Ent.gnO (.there (.there (.there (.there (.there (.there (.there (.there (.there .here))))))))) (fun w hw => Ob.row_at hw) | exact Ent.gnO (.there (.there (.there (.there (.there (.there (.there (.there (.there (.there .here)))))))))) (fun w hw => Ob.sl_at hw) | exact Ent.gnO (.there (.there (.there (.there (.there (.there (.there (.there (.there (.there .here)))))))))) (fun w hw => Ob.row_at hw) | exact Ent.gnO (.there (.there (.there (.there (.there (.there (.there (.there (.there (.there (.there .here))))))))))) (fun w hw => Ob.sl_at hw) | exact Ent.gnO (.there (.there (.there (.there (.there (.there (.there (.there (.there (.there (.there .here))))))))))) (fun w hw => Ob.row_at hw) | exact Ent.gnO (.there (.there (.there (.there (.there (.there (.there (.there (.there (.there (.there (.there .here)))))))))))) (fun w hw => Ob.sl_at hw) | exact Ent.gnO (.there (.there (.there (.there (.there (.there (.there (.there (.there (.there (.there (.there .here)))))))))))) (fun w hw => Ob.row_at hw) | exact Ent.gnO (.there (.there (.there (.there (.there (.there (.there (.there (.there (.there (.there (.there (.there .here))))))))))))) (fun w hw => Ob.sl_at hw) | exact Ent.gnO (.there (.there (.there (.there (.there (.there (.there (.there (.there (.there (.there (.there (.there .here))))))))))))) (fun w hw => Ob.row_at hw)) (by omega)) (fun v own' N' hv => ?_); obtain ⟨rfl, rfl, rfl⟩ := hv
  refine vcIf_yes rfl ?_
  refine vcIf_yes rfl ?_
  refine vcIf_yes rfl ?_
  refine vcIf_yes rfl ?_
  refine vcIf_yes rfl ?_
  refine vcCall_of .nil (same_spec A8 A9 c8 c9 r2.1 r2.1 _ (Ent.gnN (by repeat first | exact Ent.andR hr8 | refine Ent.andL ?_)) (by first | exact Ent.gnO .here (fun w hw => Ob.sl_at hw) | exact Ent.gnO .here (fun w hw => Ob.row_at hw) | exact Ent.gnO (.there .here) (fun w hw => Ob.sl_at hw) | exact Ent.gnO (.there .here) (fun w hw => Ob.row_at hw) | exact Ent.gnO (.there (.there .here)) (fun w hw => Ob.sl_at hw) | exact Ent.gnO (.there (.there .here)) (fun w hw => Ob.row_at hw) | exact Ent.gnO (.there (.there (.there .here))) (fun w hw => Ob.sl_at hw) | exact Ent.gnO (.there (.there (.there .here))) (fun w hw => Ob.row_at hw) | exact Ent.gnO (.there (.there (.there (.there .here)))) (fun w hw => Ob.sl_at hw) | exact Ent.gnO (.there (.there (.there (.there .here)))) (fun w hw => Ob.row_at hw) | exact Ent.gnO (.there (.there (.there (.there (.there .here))))) (fun w hw => Ob.sl_at hw) | exact Ent.gnO (.there (.there (.there (.there (.there .here))))) (fun w hw => Ob.row_at hw) | exact Ent.gnO (.there (.there (.there (.there (.there (.there .here)))))) (fun w hw => Ob.sl_at hw) | exact Ent.gnO (.there (.there (.there (.there (.there (.there .here)))))) (fun w hw => Ob.row_at hw) | exact Ent.gnO (.there (.there (.there (.there (.there (.there (.there .here))))))) (fun w hw => Ob.sl_at hw) | exact Ent.gnO (.there (.there (.there (.there (.there (.there (.there .here))))))) (fun w hw => Ob.row_at hw) | exact Ent.gnO (.there (.there (.there (.there (.there (.there (.there (.there .here)))))))) (fun w hw => Ob.sl_at hw) | exact Ent.gnO (.there (.there (.there (.there (.there (.there (.there (.there .here)))))))) (fun w hw => Ob.row_at hw) | exact Ent.gnO (.there (.there (.there (.there (.there (.there (.there (.there (.there .here))))))))) (fun w hw => Ob.sl_at hw) | exact Ent.gnO (.there (.there (.there (.there (.there (.there (.there (.there (.there .here))))))))) (fun w hw => Ob.row_at hw) | exact Ent.gnO (.there (.there (.there (.there (.there (.there (.there (.there (.there (.there .here)))))))))) (fun w hw => Ob.sl_at hw) | exact Ent.gnO (.there (.there (.there (.there (.there (.there (.there (.there (.there (.there .here)))))))))) (fun w hw => Ob.row_at hw) | exact Ent.gnO (.there (.there (.there (.there (.there (.there (.there (.there (.there (.there (.there .here))))))))))) (fun w hw => Ob.sl_at hw) | exact Ent.gnO (.there (.there (.there (.there (.there (.there (.there (.there (.there (.there (.there .here))))))))))) (fun w hw => Ob.row_at hw) | exact Ent.gnO (.there (.there (.there (.there (.there (.there (.there (.there (.there (.there (.there (.there .here)))))))))))) (fun w hw => Ob.sl_at hw) | exact Ent.gnO (.there (.there (.there (.there (.there (.there (.there (.there (.there (.there (.there (.there .here)))))))))))) (fun w hw => Ob.row_at hw) | exact Ent.gnO (.there (.there (.there (.there (.there (.there (.there (.there (.there (.there (.there (.there (.there .here))))))))))))) (fun w hw => Ob.sl_at hw) | exact Ent.gnO (.there (.there (.there (.there (.there (.there (.there (.there (.there (.there (.there (.there (.there .here))))))))))))) (fun w hw => Ob.row_at hw)) (by omega)) (fun v own' N' hv => ?_); obtain ⟨rfl, rfl, rfl⟩ := hv
  refine vcIf_yes rfl ?_
  refine ⟨[], _, MT, .nil, fun _ _ _ => trivial, ?_, rfl, rfl⟩
  simp [tupleOf]

set_option maxHeartbeats 2000000 in
theorem apart_spec (s id : Piece) (w n : Int) (G : Mp) (hs : HasB G s) (hi : HasB G id) : Spec Try.prog 3 #[idsV s id w n] [] G (Ret (.bool true)) := by
  obtain ⟨As, cs, s⟩ := s
  obtain ⟨Ai, ci, id⟩ := id
  obtain ⟨hs, _, ls⟩ := hs
  obtain ⟨hi, _, li⟩ := hi
  simp only at hs hi ls li
  refine Spec.introC (args := [_]) wide Try.func3 rfl Try.call3 (by rfl) (by rfl) [11] (fun w0 hw0 => ?_)
  intro bx
  refine vcDraw_quiet (by kernel_rfl) ?_
  refine vcLoad1_row (j := 0) (v := pieceV (As, cs, s)) ((Ent.gnO .here (fun w hw => Ob.row_at hw)) : Ent _ (RowAt (some ⟨bx, 0, none⟩) (idsC (As, cs, s) (Ai, ci, id) w n))) rfl ?_
  refine vcLoad1_row (j := 1) (v := pieceV (Ai, ci, id)) ((Ent.gnO .here (fun w hw => Ob.row_at hw)) : Ent _ (RowAt (some ⟨bx, 0, none⟩) (idsC (As, cs, s) (Ai, ci, id) w n))) rfl ?_
  refine vcLoad1_row (j := 2) (v := .int .i64 w) ((Ent.gnO .here (fun w hw => Ob.row_at hw)) : Ent _ (RowAt (some ⟨bx, 0, none⟩) (idsC (As, cs, s) (Ai, ci, id) w n))) rfl ?_
  refine vcLoad1_row (j := 3) (v := .int .i64 n) ((Ent.gnO .here (fun w hw => Ob.row_at hw)) : Ent _ (RowAt (some ⟨bx, 0, none⟩) (idsC (As, cs, s) (Ai, ci, id) w n))) rfl ?_
  refine vcIf_ndec (fun h16 => ?_) (fun h16 => ?_)
  · refine vcCall_of .nil (awake_spec _) (fun v own' N' hv => ?_); obtain ⟨rfl, rfl, rfl⟩ := hv
    exact ⟨[], _, MT, .nil, fun _ _ _ => trivial, rfl, rfl, rfl⟩
  have h16 : s.length = 16 := by simp only at h16; omega
  refine vcCall_of .nil (copy_spec As cs s _ (Ent.gnG hs) (by omega)) (fun v own' N' hv => ?_); obtain ⟨A1, c1, rfl, rfl, rfl, hc1⟩ := hv
  refine vcCall_of .nil (make_spec A1 c1 s w n _ (Ent.gnO .here (fun w hw => Ob.sl_at hw))) (fun v own' N1 hv => ?_)
  obtain ⟨A2, c2, rfl, rfl, rfl, hc2⟩ := hv
  refine vcCut_of (fun _ : Unit => [(3, .slice As s.length cs), (4, .slice Ai id.length ci)]) (fun _ => []) (fun _ => MT) (fun _ => True) ?_ ?_
  · by_cases hr : w < 0 ∨ 255 < w ∨ n < 0 ∨ 72057594037927935 < n
    · rw [makeL_10 h16 hr] at hc2 ⊢
      refine vcIf_dec (fun h1 => ?_) (fun h1 => ?_)
      · repeat (refine vcIf_yes (by rfl) ?_)
        refine vcIf_dec (fun h2 => ?_) (fun h2 => ?_)
        · repeat (refine vcIf_yes (by rfl) ?_)
          refine vcIf_dec (fun h3 => ?_) (fun h3 => ?_)
          · repeat (refine vcIf_yes (by rfl) ?_)
            refine vcIf_no (by omega) ?_
            exact ⟨(), trivial, ⟨rfl, rfl, trivial⟩, ⟨_, .nil⟩, fun _ _ => trivial⟩
          repeat (refine vcIf_no (by rfl) ?_)
          exact ⟨(), trivial, ⟨rfl, rfl, trivial⟩, ⟨_, .nil⟩, fun _ _ => trivial⟩
        repeat (refine vcIf_no (by rfl) ?_)
        exact ⟨(), trivial, ⟨rfl, rfl, trivial⟩, ⟨_, .nil⟩, fun _ _ => trivial⟩
      repeat (refine vcIf_no (by rfl) ?_)
      exact ⟨(), trivial, ⟨rfl, rfl, trivial⟩, ⟨_, .nil⟩, fun _ _ => trivial⟩
    · obtain ⟨w, rfl⟩ := Int.eq_ofNat_of_zero_le (show 0 ≤ w by omega)
      obtain ⟨n, rfl⟩ := Int.eq_ofNat_of_zero_le (show 0 ≤ n by omega)
      rw [makeL_0 h16 hr] at hc2 ⊢
      have h8 : (idB s w n).length = 8 := xorD_length _ _
      have hrd := read_make h16 (show w ≤ 255 by omega) (show n ≤ 72057594037927935 by omega)
      generalize idB s w n = p at *
      refine vcCall_of .nil (copy_spec As cs s _ (Ent.gnG hs) (by omega)) (fun v own' N' hv => ?_); obtain ⟨A3, c3, rfl, rfl, rfl, hc3⟩ := hv
      refine vcCall_of .nil (read_spec A3 A2 c3 c2 s p _ (Ent.gnO .here (fun w hw => Ob.sl_at hw)) (Ent.gnO (.there .here) (fun w hw => Ob.sl_at hw))) (fun v own' N2 hv => ?_)
      rw [hrd] at hv
      obtain ⟨rfl, rfl, rfl⟩ := hv
      refine vcIf_nno rfl ?_
      refine vcIf_nno rfl ?_
      refine vcIf_nno (show ((p.length : Nat) : Int) = 8 by omega) ?_
      exact ⟨(), trivial, ⟨rfl, rfl, trivial⟩, ⟨_, .nil⟩, fun _ _ => trivial⟩
  rintro ⟨⟩ _
  refine vcIf_ndec (fun h8 => ?_) (fun h8 => ?_)
  · refine vcCall_of .nil (awake_spec _) (fun v own' N' hv => ?_); obtain ⟨rfl, rfl, rfl⟩ := hv
    exact ⟨[], _, MT, .nil, fun _ _ _ => trivial, rfl, rfl, rfl⟩
  have h8 : id.length = 8 := by omega
  obtain ⟨w', n', hrd, hw', hn', hid⟩ := make_read h16 h8
  refine vcCall_of .nil (copy_spec As cs s _ (Ent.gnG hs) (by omega)) (fun v own' N' hv => ?_); obtain ⟨A3, c3, rfl, rfl, rfl, hc3⟩ := hv
  refine vcCall_of .nil (copy_spec Ai ci id _ (Ent.gnG hi) (by omega)) (fun v own' N' hv => ?_); obtain ⟨A4, c4, rfl, rfl, rfl, hc4⟩ := hv
  refine vcCall_of .nil (read_spec A3 A4 c3 c4 s id _ (Ent.gnO (.there .here) (fun w hw => Ob.sl_at hw)) (Ent.gnO .here (fun w hw => Ob.sl_at hw))) (fun v own' N2 hv => ?_)
  rw [hrd] at hv
  obtain ⟨rfl, rfl, rfl⟩ := hv
  refine vcCall_of .nil (copy_spec As cs s _ (Ent.gnG hs) (by omega)) (fun v own' N' hv => ?_); obtain ⟨A5, c5, rfl, rfl, rfl, hc5⟩ := hv
  refine vcCall_of .nil (make_spec A5 c5 s w' n' _ (Ent.gnO .here (fun w hw => Ob.sl_at hw))) (fun v own' N1 hv => ?_)
  rw [makeL_0 h16 (by omega), hid] at hv
  obtain ⟨A6, c6, rfl, rfl, rfl, hc6⟩ := hv
  refine vcCall_of .nil (same_spec A6 Ai c6 ci id id _ (Ent.gnO .here (fun w hw => Ob.sl_at hw)) (Ent.gnG hi) (by omega)) (fun v own' N' hv => ?_); obtain ⟨rfl, rfl, rfl⟩ := hv
  refine vcIf_yes rfl ?_
  refine vcCall_of .nil (awake_spec _) (fun v own' N' hv => ?_); obtain ⟨rfl, rfl, rfl⟩ := hv
  exact ⟨[], _, MT, .nil, fun _ _ _ => trivial, rfl, rfl, rfl⟩
end Go.Proofs.Ytnhkeghahiedfaa
