/- Ids: Make, Read, Reset. -/
import Derived.Test.YtnhkeghahiedfaaRteC
import Derived.Test.YtnhkeghahiedfaaPrmJ
namespace Go.Proofs.Ytnhkeghahiedfaa
open Go.Proofs
set_option maxRecDepth 10000

def idP (w n : Nat) : List UInt8 := [byteI w] ++ be 7 n
theorem idP_length (w n : Nat) : (idP w n).length = 8 := by simp [idP, be_length]
def idB (s : List UInt8) (w n : Nat) : List UInt8 := turnI s (idP w n)
def makeL (s : List UInt8) (w n : Int) : List UInt8 × Int := if s.length ≠ 16 then ([], 70) else if w < 0 ∨ 255 < w ∨ n < 0 ∨ 72057594037927935 < n then ([], 10) else (idB s w.toNat n.toNat, 0)
theorem makeL_70 {s : List UInt8} {w n : Int} (h : s.length ≠ 16) : makeL s w n = ([], 70) := if_pos h
theorem makeL_10 {s : List UInt8} {w n : Int} (h : s.length = 16) (h2 : w < 0 ∨ 255 < w ∨ n < 0 ∨ 72057594037927935 < n) : makeL s w n = ([], 10) := by unfold makeL; rw [if_neg (by omega), if_pos h2]
theorem makeL_0 {s : List UInt8} {w n : Nat} (h : s.length = 16) (h2 : ¬ ((w : Int) < 0 ∨ 255 < (w : Int) ∨ (n : Int) < 0 ∨ 72057594037927935 < (n : Int))) : makeL s w n = (idB s w n, 0) := by unfold makeL; rw [if_neg (by omega), if_neg h2]; rfl

theorem make_spec (As : Option Addr) (cs : Nat) (s : List UInt8) (w n : Int) (G : Mp) (hs : Ent G (RowAt As (Bs s))) :
    Spec Try.prog 8 #[.slice As s.length cs, .int .i64 w, .int .i64 n] [] G (OwnBE (makeL s w n).1 (makeL s w n).2) := by
  refine Spec.introC (args := [_, _, _]) wide Try.func8 rfl Try.call8 (by rfl) (by rfl) [5] (fun w0 hw0 => ?_)
  refine vcCut_of (fun _ : Unit => [(0, .slice As s.length cs), (1, .int .i64 w), (2, .int .i64 n)]) (fun _ => []) (fun _ => MT) (fun _ => s.length = 16 ∧ ¬ (w < 0 ∨ 255 < w ∨ n < 0 ∨ 72057594037927935 < n)) ?_ ?_
  · refine vcIf_ndec (fun h1 => ?_) (fun h1 => ?_)
    · exact ⟨_, _, MT, .cons .none_ .nil, fun _ _ _ => trivial, retE (makeL_70 (by omega)) (OwnBE_nil 70)⟩
    have h16 : s.length = 16 := by omega
    have e10 := fun h => @makeL_10 s w n h16 h
    refine vcIf_dec (fun h2 => ?_) (fun h2 => ?_)
    · repeat (refine vcIf_yes (by rfl) ?_)
      exact ⟨_, _, MT, .cons .none_ .nil, fun _ _ _ => trivial, retE (e10 (by omega)) (OwnBE_nil 10)⟩
    repeat (refine vcIf_no (by rfl) ?_)
    refine vcIf_dec (fun h3 => ?_) (fun h3 => ?_)
    · repeat (refine vcIf_yes (by rfl) ?_)
      exact ⟨_, _, MT, .cons .none_ .nil, fun _ _ _ => trivial, retE (e10 (by omega)) (OwnBE_nil 10)⟩
    repeat (refine vcIf_no (by rfl) ?_)
    refine vcIf_dec (fun h4 => ?_) (fun h4 => ?_)
    · repeat (refine vcIf_yes (by rfl) ?_)
      exact ⟨_, _, MT, .cons .none_ .nil, fun _ _ _ => trivial, retE (e10 (by omega)) (OwnBE_nil 10)⟩
    repeat (refine vcIf_no (by rfl) ?_)
    refine vcIf_dec (fun h5 => ?_) (fun h5 => ?_)
    · exact ⟨_, _, MT, .cons .none_ .nil, fun _ _ _ => trivial, retE (e10 (by omega)) (OwnBE_nil 10)⟩
    exact ⟨(), ⟨h16, by omega⟩, ⟨rfl, rfl, rfl, trivial⟩, ⟨_, .nil⟩, fun _ _ => trivial⟩
  rintro ⟨⟩ ⟨h16, hr⟩
  obtain ⟨w, rfl⟩ := Int.eq_ofNat_of_zero_le (show 0 ≤ w by omega)
  obtain ⟨n, rfl⟩ := Int.eq_ofNat_of_zero_le (show 0 ≤ n by omega)
  rw [makeL_0 h16 hr]
  refine vcFit_byte ?_
  intro bo
  refine vcCall_of .nil (number_spec n 7 (by omega) (by decide) (by decide) _) (fun v own' N' hv => ?_); obtain ⟨A1, c1, rfl, rfl, rfl, hc1⟩ := hv
  refine vcApp_of (Bs [byteI w]) _ (Bs (be 7 n)) (by first | exact .here | exact (.there .here) | exact (.there (.there .here)) | exact (.there (.there (.there .here))) | exact (.there (.there (.there (.there .here)))) | exact (.there (.there (.there (.there (.there .here))))) | exact (.there (.there (.there (.there (.there (.there .here)))))) | exact (.there (.there (.there (.there (.there (.there (.there .here))))))) | exact (.there (.there (.there (.there (.there (.there (.there (.there .here)))))))) | exact (.there (.there (.there (.there (.there (.there (.there (.there (.there .here))))))))) | exact (.there (.there (.there (.there (.there (.there (.there (.there (.there (.there .here)))))))))) | exact (.there (.there (.there (.there (.there (.there (.there (.there (.there (.there (.there .here))))))))))) | exact (.there (.there (.there (.there (.there (.there (.there (.there (.there (.there (.there (.there .here)))))))))))) | exact (.there (.there (.there (.there (.there (.there (.there (.there (.there (.there (.there (.there (.there .here))))))))))))) | exact (.there (.there (.there (.there (.there (.there (.there (.there (.there (.there (.there (.there (.there (.there .here)))))))))))))) | exact (.there (.there (.there (.there (.there (.there (.there (.there (.there (.there (.there (.there (.there (.there (.there .here))))))))))))))) | exact (.there (.there (.there (.there (.there (.there (.there (.there (.there (.there (.there (.there (.there (.there (.there (.there .here)))))))))))))))) | exact (.there (.there (.there (.there (.there (.there (.there (.there (.there (.there (.there (.there (.there (.there (.there (.there (.there .here))))))))))))))))) | exact .none_) rfl (by rw [Bs_length, Nat.mul_one]) (by decide) (Bs_one _) (by first | exact Ent.gnO .here (fun w hw => Ob.sl_at hw) | exact Ent.gnO .here (fun w hw => Ob.row_at hw) | exact Ent.gnO (.there .here) (fun w hw => Ob.sl_at hw) | exact Ent.gnO (.there .here) (fun w hw => Ob.row_at hw) | exact Ent.gnO (.there (.there .here)) (fun w hw => Ob.sl_at hw) | exact Ent.gnO (.there (.there .here)) (fun w hw => Ob.row_at hw) | exact Ent.gnO (.there (.there (.there .here))) (fun w hw => Ob.sl_at hw) | exact Ent.gnO (.there (.there (.there .here))) (fun w hw => Ob.row_at hw) | exact Ent.gnO (.there (.there (.there (.there .here)))) (fun w hw => Ob.sl_at hw) | exact Ent.gnO (.there (.there (.there (.there .here)))) (fun w hw => Ob.row_at hw) | exact Ent.gnO (.there (.there (.there (.there (.there .here))))) (fun w hw => Ob.sl_at hw) | exact Ent.gnO (.there (.there (.there (.there (.there .here))))) (fun w hw => Ob.row_at hw) | exact Ent.gnO (.there (.there (.there (.there (.there (.there .here)))))) (fun w hw => Ob.sl_at hw) | exact Ent.gnO (.there (.there (.there (.there (.there (.there .here)))))) (fun w hw => Ob.row_at hw) | exact Ent.gnO (.there (.there (.there (.there (.there (.there (.there .here))))))) (fun w hw => Ob.sl_at hw) | exact Ent.gnO (.there (.there (.there (.there (.there (.there (.there .here))))))) (fun w hw => Ob.row_at hw) | exact Ent.gnO (.there (.there (.there (.there (.there (.there (.there (.there .here)))))))) (fun w hw => Ob.sl_at hw) | exact Ent.gnO (.there (.there (.there (.there (.there (.there (.there (.there .here)))))))) (fun w hw => Ob.row_at hw) | exact Ent.gnO (.there (.there (.there (.there (.there (.there (.there (.there (.there .here))))))))) (fun w hw => Ob.sl_at hw) | exact Ent.gnO (.there (.there (.there (.there (.there (.there (.there (.there (.there .here))))))))) (fun w hw => Ob.row_at hw) | exact Ent.gnO (.there (.there (.there (.there (.there (.there (.there (.there (.there (.there .here)))))))))) (fun w hw => Ob.sl_at hw) | exact Ent.gnO (.there (.there (.there (.there (.there (.there (.there (.there (.there (.there .here)))))))))) (fun w hw => Ob.row_at hw) | exact Ent.gnO (.there (.there (.there (.there (.there (.there (.there (.there (.there (.there (.there .here))))))))))) (fun w hw => Ob.sl_at hw) | exact Ent.gnO (.there (.there (.there (.there (.there (.there (.there (.there (.there (.there (.there .here))))))))))) (fun w hw => Ob.row_at hw) | exact Ent.gnO (.there (.there (.there (.there (.there (.there (.there (.there (.there (.there (.there (.there .here)))))))))))) (fun w hw => Ob.sl_at hw) | exact Ent.gnO (.there (.there (.there (.there (.there (.there (.there (.there (.there (.there (.there (.there .here)))))))))))) (fun w hw => Ob.row_at hw) | exact Ent.gnO (.there (.there (.there (.there (.there (.there (.there (.there (.there (.there (.there (.there (.there .here))))))))))))) (fun w hw => Ob.sl_at hw) | exact Ent.gnO (.there (.there (.there (.there (.there (.there (.there (.there (.there (.there (.there (.there (.there .here))))))))))))) (fun w hw => Ob.row_at hw)) (by rw [be_length]; decide) (by rw [be_length]; decide) (fun A2 c2 hc2 => ?_)
  rw [show 1 + (be 7 n).length = (idP w n).length from by rw [idP_length, be_length], ← Bs_append, show [byteI ↑w] ++ be 7 n = idP w n from rfl]
  have h8 := idP_length w n
  unfold idB
  generalize idP w n = p at *
  refine vcCall_of .nil (rturn_8 As A2 cs c2 s p _ (Ent.gnG hs) (Ent.gnO .here (fun w hw => Ob.sl_at hw)) (by omega) h8) (fun v own' N' hv => ?_)
  obtain ⟨A3, c3, rfl, rfl, rfl, hc3⟩ := hv
  exact ⟨_, _, MT, .cons (by first | exact .here | exact (.there .here) | exact (.there (.there .here)) | exact (.there (.there (.there .here))) | exact (.there (.there (.there (.there .here)))) | exact (.there (.there (.there (.there (.there .here))))) | exact (.there (.there (.there (.there (.there (.there .here)))))) | exact (.there (.there (.there (.there (.there (.there (.there .here))))))) | exact (.there (.there (.there (.there (.there (.there (.there (.there .here)))))))) | exact (.there (.there (.there (.there (.there (.there (.there (.there (.there .here))))))))) | exact (.there (.there (.there (.there (.there (.there (.there (.there (.there (.there .here)))))))))) | exact (.there (.there (.there (.there (.there (.there (.there (.there (.there (.there (.there .here))))))))))) | exact (.there (.there (.there (.there (.there (.there (.there (.there (.there (.there (.there (.there .here)))))))))))) | exact (.there (.there (.there (.there (.there (.there (.there (.there (.there (.there (.there (.there (.there .here))))))))))))) | exact (.there (.there (.there (.there (.there (.there (.there (.there (.there (.there (.there (.there (.there (.there .here)))))))))))))) | exact (.there (.there (.there (.there (.there (.there (.there (.there (.there (.there (.there (.there (.there (.there (.there .here))))))))))))))) | exact (.there (.there (.there (.there (.there (.there (.there (.there (.there (.there (.there (.there (.there (.there (.there (.there .here)))))))))))))))) | exact (.there (.there (.there (.there (.there (.there (.there (.there (.there (.there (.there (.there (.there (.there (.there (.there (.there .here))))))))))))))))) | exact .none_) .nil, fun _ _ _ => trivial, A3, c3, rfl, rfl, rfl, hc3⟩

theorem rmake_spec (As : Option Addr) (cs : Nat) (s : List UInt8) (w n : Int) (G : Mp) (hs : Ent G (RowAt As (Bs s))) :
    Spec Try.prog 12 #[.slice As s.length cs, .int .i64 w, .int .i64 n] [] G (OwnBE (makeL s w n).1 (makeL s w n).2) := by
  refine Spec.introC (args := [_, _, _]) wide Try.func12 rfl Try.call12 (by rfl) (by rfl) [5] (fun w0 hw0 => ?_)
  refine vcIf_ndec (fun h1 => ?_) (fun h1 => ?_)
  · exact ⟨_, _, MT, .cons .none_ .nil, fun _ _ _ => trivial, retE (makeL_70 (by omega)) (OwnBE_nil 70)⟩
  have h16 : s.length = 16 := by omega
  have e10 := fun h => @makeL_10 s w n h16 h
  refine vcCut_of (fun _ : Unit => [(0, .slice As s.length cs), (1, .int .i64 w), (2, .int .i64 n)]) (fun _ => []) (fun _ => MT) (fun _ => ¬ (w < 0 ∨ 255 < w ∨ n < 0 ∨ 72057594037927935 < n)) ?_ ?_
  · refine vcIf_dec (fun h2 => ?_) (fun h2 => ?_)
    · repeat (refine vcIf_yes (by rfl) ?_)
      exact ⟨_, _, MT, .cons .none_ .nil, fun _ _ _ => trivial, retE (e10 (by omega)) (OwnBE_nil 10)⟩
    repeat (refine vcIf_no (by rfl) ?_)
    refine vcIf_dec (fun h3 => ?_) (fun h3 => ?_)
    · repeat (refine vcIf_yes (by rfl) ?_)
      exact ⟨_, _, MT, .cons .none_ .nil, fun _ _ _ => trivial, retE (e10 (by omega)) (OwnBE_nil 10)⟩
    repeat (refine vcIf_no (by rfl) ?_)
    refine vcIf_dec (fun h4 => ?_) (fun h4 => ?_)
    · repeat (refine vcIf_yes (by rfl) ?_)
      exact ⟨_, _, MT, .cons .none_ .nil, fun _ _ _ => trivial, retE (e10 (by omega)) (OwnBE_nil 10)⟩
    repeat (refine vcIf_no (by rfl) ?_)
    refine vcIf_dec (fun h5 => ?_) (fun h5 => ?_)
    · exact ⟨_, _, MT, .cons .none_ .nil, fun _ _ _ => trivial, retE (e10 (by omega)) (OwnBE_nil 10)⟩
    exact ⟨(), by omega, ⟨rfl, rfl, rfl, trivial⟩, ⟨_, .nil⟩, fun _ _ => trivial⟩
  rintro ⟨⟩ hr
  obtain ⟨w, rfl⟩ := Int.eq_ofNat_of_zero_le (show 0 ≤ w by omega)
  obtain ⟨n, rfl⟩ := Int.eq_ofNat_of_zero_le (show 0 ≤ n by omega)
  rw [makeL_0 h16 hr]
  refine vcCall_of .nil (rnumber_spec w 1 (by omega) (by decide) _) (fun v own' N' hv => ?_); obtain ⟨A0, c0, rfl, rfl, rfl, hc0⟩ := hv
  refine vcCall_of .nil (rnumber_spec n 7 (by omega) (by decide) _) (fun v own' N' hv => ?_); obtain ⟨A1, c1, rfl, rfl, rfl, hc1⟩ := hv
  intro bp
  have e1 : pieces [(A0, c0, be 1 w), (A1, c1, be 7 n)] = idP w n := by simp [pieces, idP, be, byteI_nat]
  refine vcCall_of .nil (e1 ▸ join_spec (some ⟨bp, 0, none⟩) 2 [(A0, c0, be 1 w), (A1, c1, be 7 n)] _ (Ent.gnO .here (fun w hw => Ob.sl_at hw)) (fun p hp => by
    simp only [List.mem_cons, List.not_mem_nil, or_false] at hp
    rcases hp with rfl | rfl
    · exact (Ent.gnO (.there (.there .here)) (fun w hw => Ob.sl_at hw))
    · exact (Ent.gnO (.there .here) (fun w hw => Ob.sl_at hw))) (by rw [e1, idP_length]; decide) (by simp)) (fun v own' N' hv => ?_); obtain ⟨A2, c2, rfl, rfl, rfl, hc2⟩ := hv
  have h8 := idP_length w n
  unfold idB
  generalize idP w n = p at *
  refine vcCall_of .nil (rturn13_spec As A2 cs c2 s p _ (Ent.gnG hs) (Ent.gnO .here (fun w hw => Ob.sl_at hw)) (by omega) h8) (fun v own' N' hv => ?_)
  obtain ⟨A3, c3, rfl, rfl, rfl, hc3⟩ := hv
  exact ⟨_, _, MT, .cons (by first | exact .here | exact (.there .here) | exact (.there (.there .here)) | exact (.there (.there (.there .here))) | exact (.there (.there (.there (.there .here)))) | exact (.there (.there (.there (.there (.there .here))))) | exact (.there (.there (.there (.there (.there (.there .here)))))) | exact (.there (.there (.there (.there (.there (.there (.there .here))))))) | exact (.there (.there (.there (.there (.there (.there (.there (.there .here)))))))) | exact (.there (.there (.there (.there (.there (.there (.there (.there (.there .here))))))))) | exact (.there (.there (.there (.there (.there (.there (.there (.there (.there (.there .here)))))))))) | exact (.there (.there (.there (.there (.there (.there (.there (.there (.there (.there (.there .here))))))))))) | exact (.there (.there (.there (.there (.there (.there (.there (.there (.there (.there (.there (.there .here)))))))))))) | exact (.there (.there (.there (.there (.there (.there (.there (.there (.there (.there (.there (.there (.there .here))))))))))))) | exact (.there (.there (.there (.there (.there (.there (.there (.there (.there (.there (.there (.there (.there (.there .here)))))))))))))) | exact (.there (.there (.there (.there (.there (.there (.there (.there (.there (.there (.there (.there (.there (.there (.there .here))))))))))))))) | exact (.there (.there (.there (.there (.there (.there (.there (.there (.there (.there (.there (.there (.there (.there (.there (.there .here)))))))))))))))) | exact (.there (.there (.there (.there (.there (.there (.there (.there (.there (.there (.there (.there (.there (.there (.there (.there (.there .here))))))))))))))))) | exact .none_) .nil, fun _ _ _ => trivial, A3, c3, rfl, rfl, rfl, hc3⟩

def readL (s id : List UInt8) : Int × Int × Int := if s.length ≠ 16 then (0, 0, 70) else if id.length ≠ 8 then (0, 0, 61) else (((turnI s id)[0]?.getD 0).toNat, (beval 0 ((turnI s id).drop 1) : Nat), 0)
def tup3i (p : Int × Int × Int) : Value := .tuple #[.int .i64 p.1, .int .i64 p.2.1, .int .i64 p.2.2]
theorem read_spec (As Ai : Option Addr) (cs ci : Nat) (s id : List UInt8) (G : Mp) (hs : Ent G (RowAt As (Bs s))) (hi : Ent G (RowAt Ai (Bs id))) :
    Spec Try.prog 10 #[.slice As s.length cs, .slice Ai id.length ci] [] G (Ret (tup3i (readL s id))) := by
  refine Spec.introC (args := [_, _]) wide Try.func10 rfl Try.call10 (by rfl) (by rfl) [5] (fun w0 hw0 => ?_)
  refine vcCut_of (fun _ : Unit => [(0, .slice As s.length cs), (1, .slice Ai id.length ci)]) (fun _ => []) (fun _ => MT) (fun _ => s.length = 16 ∧ id.length = 8) ?_ ?_
  · refine vcIf_ndec (fun h1 => ?_) (fun h1 => ?_)
    · rw [show readL s id = (0, 0, 70) from if_pos (by omega)]
      exact ⟨[], _, MT, .nil, fun _ _ _ => trivial, rfl, rfl, rfl⟩
    refine vcIf_ndec (fun h2 => ?_) (fun h2 => ?_)
    · rw [show readL s id = (0, 0, 61) from by unfold readL; rw [if_neg (by omega), if_pos (by omega)]]
      exact ⟨[], _, MT, .nil, fun _ _ _ => trivial, rfl, rfl, rfl⟩
    exact ⟨(), ⟨by omega, by omega⟩, ⟨rfl, rfl, trivial⟩, ⟨_, .nil⟩, fun _ _ => trivial⟩
  rintro ⟨⟩ ⟨h16, h8⟩
  rw [show readL s id = ((((turnI s id)[0]?.getD 0).toNat : Int), ((beval 0 ((turnI s id).drop 1) : Nat) : Int), (0 : Int)) from by unfold readL; rw [if_neg (by omega), if_neg (by omega)]]
  refine vcCall_of .nil (rturn_8 As Ai cs ci s id _ (Ent.gnG hs) (Ent.gnG hi) (by omega) h8) (fun v own' N' hv => ?_)
  obtain ⟨A3, c3, rfl, rfl, rfl, hc3⟩ := hv
  have hx8 : (turnI s id).length = 8 := xorD_length _ _
  generalize turnI s id = b at *
  have hb7 := beval_le (b.drop 1) (by rw [List.length_drop]; omega)
  have hb0 : b[0]?.getD 0 = b[0]'(by omega) := by rw [List.getElem?_eq_getElem (by omega)]; rfl
  rw [hb0]
  have hb0l := (b[0]'(by omega)).toNat_lt
  refine vcDraw_mix [0,1,2,3,4,5,6,7,8,9] (RowAt A3 (Bs b)) (by kernel_rfl) (Ent.gnO .here (fun w hw => Ob.sl_at hw)) ?_
  refine vcIdx_nat 0 rfl Ent.refl (by omega) (by rw [Bs_length]; exact Nat.le_refl _) (fun a ha => ?_)
  subst ha
  refine vcLoad1_row (v := .int .u8 (b[0]'(by omega)).toNat) Ent.refl (Bs_get (by omega)) ?_
  refine vcFit_i64 (by omega) ?_
  refine vcSlice3_as 1 (b.drop 1).length (c3 - 1) (by rfl) (by rw [List.length_drop]; omega) (by omega) (by omega) (by rw [List.length_drop]; omega) (fun A4 hA4 => ?_)
  have hrow : ∀ w, RowAt (some a) (Bs b) w → RowAt A4 (Bs (b.drop 1)) w := fun w hw => hw.bytes hA4 (by omega) (by rw [List.take_length])
  refine vcCall_of .nil (value_spec A4 (c3 - 1) (b.drop 1) _ (Ent.mono (Ent.gnO .here (fun w hw => Ob.sl_at hw)) hrow) (by omega) (by rw [List.length_drop]; omega)) (fun v own' N' hv => ?_); obtain ⟨rfl, rfl, rfl⟩ := hv
  refine vcMix_same (Ent.gnO .here (fun w hw => Ob.sl_at hw)) ?_
  exact ⟨[], _, MT, .nil, fun _ _ _ => trivial, rfl, rfl, rfl⟩
end Go.Proofs.Ytnhkeghahiedfaa
