/- Ids: the reference's Read, Reset; making and reading undo each other; awake. -/
import Derived.Test.YtnhkeghahiedfaaRteD
namespace Go.Proofs.Ytnhkeghahiedfaa
open Go.Proofs
set_option maxRecDepth 10000

theorem rread_spec (As Ai : Option Addr) (cs ci : Nat) (s id : List UInt8) (G : Mp) (hs : Ent G (RowAt As (Bs s))) (hi : Ent G (RowAt Ai (Bs id))) :
    Spec Try.prog 13 #[.slice As s.length cs, .slice Ai id.length ci] [] G (Ret (tup3i (readL s id))) := by
  refine Spec.intro (args := [_, _]) wide Try.func13 rfl Try.call13 (by rfl) (by rfl) (fun w0 hw0 => ?_)
  refine vcIf_ndec (fun h1 => ?_) (fun h1 => ?_)
  · rw [show readL s id = (0, 0, 70) from if_pos (by omega)]
    exact ⟨[], _, MT, .nil, fun _ _ _ => trivial, rfl, rfl, rfl⟩
  refine vcIf_ndec (fun h2 => ?_) (fun h2 => ?_)
  · rw [show readL s id = (0, 0, 61) from by unfold readL; rw [if_neg (by omega), if_pos (by omega)]]
    exact ⟨[], _, MT, .nil, fun _ _ _ => trivial, rfl, rfl, rfl⟩
  have h16 : s.length = 16 := by omega
  have h8 : id.length = 8 := by omega
  rw [show readL s id = ((((turnI s id)[0]?.getD 0).toNat : Int), ((beval 0 ((turnI s id).drop 1) : Nat) : Int), (0 : Int)) from by unfold readL; rw [if_neg (by omega), if_neg (by omega)]]
  refine vcCall_of .nil (rturn13_spec As Ai cs ci s id _ (Ent.gnG hs) (Ent.gnG hi) (by omega) h8) (fun v own' N' hv => ?_)
  obtain ⟨A3, c3, rfl, rfl, rfl, hc3⟩ := hv
  have hx8 : (turnI s id).length = 8 := xorD_length _ _
  generalize turnI s id = b at *
  have hb7 := beval_le (b.drop 1) (by rw [List.length_drop]; omega)
  have hb0 : b[0]?.getD 0 = b[0]'(by omega) := by rw [List.getElem?_eq_getElem (by omega)]; rfl
  rw [hb0]
  have hb0l := (b[0]'(by omega)).toNat_lt
  refine vcDraw_mix [0,1,2,3,4,5,6,7,8,9] (RowAt A3 (Bs b)) (by kernel_rfl) (Ent.gnO .here (fun w hw => Ob.sl_at hw)) ?_
  refine vcIdx_nat 0 rfl Ent.refl (by omega) (by rw [Bs_length]; exact Nat.le_refl _) (fun a ha => ?_)
  subst ha
  refine vcLoad1_row (v := .int .u8 (b[0]'(by omega)).toNat) Ent.refl (Bs_get (by omega)) ?_
  refine vcFit_i64 (by omega) ?_
  refine vcSlice3_as 1 (b.drop 1).length (c3 - 1) (by rfl) (by rw [List.length_drop]; omega) (by omega) (by omega) (by rw [List.length_drop]; omega) (fun A4 hA4 => ?_)
  have hrow : ∀ w, RowAt (some a) (Bs b) w → RowAt A4 (Bs (b.drop 1)) w := fun w hw => hw.bytes hA4 (by omega) (by rw [List.take_length])
  refine vcCall_of .nil (rvalue_spec A4 (c3 - 1) (b.drop 1) _ (Ent.mono (Ent.gnO .here (fun w hw => Ob.sl_at hw)) hrow) (by omega) (by rw [List.length_drop]; omega)) (fun v own' N' hv => ?_); obtain ⟨rfl, rfl, rfl⟩ := hv
  refine vcMix_same (Ent.gnO .here (fun w hw => Ob.sl_at hw)) ?_
  exact ⟨[], _, MT, .nil, fun _ _ _ => trivial, rfl, rfl, rfl⟩

def resetB (s id : List UInt8) : List UInt8 := dig ([114, 101, 115, 101, 116] ++ s ++ id)
def resetL (s id : List UInt8) : List UInt8 × Int := if s.length ≠ 16 then ([], 70) else if 20 < id.length then ([], 61) else (resetB s id, 0)
theorem retG {s : List UInt8 × Int} {bs : List UInt8} {e : Int} (h : s = (bs, e)) {v : Value} {own : List Ob} {N : Mp} (k : GetBE bs e v own N) : GetBE s.1 s.2 v own N := by subst h; exact k
theorem GetBE_nil (e : Int) (N : Mp) : GetBE [] e (.tuple #[.slice none 0 0, .int .i64 e]) [] N := ⟨none, 0, rfl, rfl, fun _ _ => RowAt.nil, Nat.le_refl _⟩
theorem reset_spec (As Ai : Option Addr) (cs ci : Nat) (s id : List UInt8) (G : Mp) (hs : Ent G (RowAt As (Bs s))) (hi : Ent G (RowAt Ai (Bs id))) :
    Spec Try.prog 14 #[.slice As s.length cs, .slice Ai id.length ci] [] G (GetBE (resetL s id).1 (resetL s id).2) := by
  refine Spec.introC (args := [_, _]) wide Try.func14 rfl Try.call14 (by rfl) (by rfl) [5] (fun w0 hw0 => ?_)
  refine vcCut_of (fun _ : Unit => [(0, .slice As s.length cs), (1, .slice Ai id.length ci)]) (fun _ => []) (fun _ => MT) (fun _ => s.length = 16 ∧ id.length ≤ 20) ?_ ?_
  · refine vcIf_ndec (fun h1 => ?_) (fun h1 => ?_)
    · exact ⟨[], _, MT, .nil, fun _ _ _ => trivial, retG (if_pos (by omega)) (GetBE_nil 70 _)⟩
    refine vcIf_dec (fun h2 => ?_) (fun h2 => ?_)
    · exact ⟨[], _, MT, .nil, fun _ _ _ => trivial, retG (by unfold resetL; rw [if_neg (by omega), if_pos (by omega)]) (GetBE_nil 61 _)⟩
    exact ⟨(), ⟨by omega, by omega⟩, ⟨rfl, rfl, trivial⟩, ⟨_, .nil⟩, fun _ _ => trivial⟩
  rintro ⟨⟩ ⟨h16, h20⟩
  rw [show resetL s id = (resetB s id, 0) from by unfold resetL; rw [if_neg (by omega), if_neg (by omega)]]
  intro b5
  refine vcMark_of .here ?_
  intro bp
  have e : pieces [(some ⟨b5, 0, none⟩, 5, [114, 101, 115, 101, 116]), (As, cs, s), (Ai, ci, id)] = [114, 101, 115, 101, 116] ++ s ++ id := by simp [pieces]
  refine vcCall_of .nil (e ▸ digest_spec (some ⟨bp, 0, none⟩) 3 [(some ⟨b5, 0, none⟩, 5, [114, 101, 115, 101, 116]), (As, cs, s), (Ai, ci, id)] _ (Ent.gnO .here (fun w hw => Ob.sl_at hw)) (fun p hp => by
    simp only [List.mem_cons, List.not_mem_nil, or_false] at hp
    rcases hp with rfl | rfl | rfl
    · exact (Ent.gnO (.there .here) (fun w hw => Ob.sl_at hw))
    · exact Ent.gnG hs
    · exact Ent.gnG hi) (by rw [e]; simp; omega) (by simp)) (fun v own' N1 hv => ?_)
  obtain ⟨Am, cm, rfl, rfl, hrm, hcm⟩ := hv
  exact ⟨[], _, _, .nil, fun _ h _ => h, Am, cm, rfl, rfl, Ent.andR hrm, hcm⟩
theorem rreset_spec (As Ai : Option Addr) (cs ci : Nat) (s id : List UInt8) (G : Mp) (hs : Ent G (RowAt As (Bs s))) (hi : Ent G (RowAt Ai (Bs id))) :
    Spec Try.prog 15 #[.slice As s.length cs, .slice Ai id.length ci] [] G (OwnBE (resetL s id).1 (resetL s id).2) := by
  refine Spec.intro (args := [_, _]) wide Try.func15 rfl Try.call15 (by rfl) (by rfl) (fun w0 hw0 => ?_)
  refine vcIf_ndec (fun h1 => ?_) (fun h1 => ?_)
  · exact ⟨_, _, MT, .cons .none_ .nil, fun _ _ _ => trivial, retE (if_pos (by omega)) (OwnBE_nil 70)⟩
  refine vcIf_dec (fun h2 => ?_) (fun h2 => ?_)
  · exact ⟨_, _, MT, .cons .none_ .nil, fun _ _ _ => trivial, retE (by unfold resetL; rw [if_neg (by omega), if_pos (by omega)]) (OwnBE_nil 61)⟩
  rw [show resetL s id = (resetB s id, 0) from by unfold resetL; rw [if_neg (by omega), if_neg (by omega)]]
  intro b5
  refine vcMark_of .here ?_
  intro bp
  have e : pieces [(some ⟨b5, 0, none⟩, 5, [114, 101, 115, 101, 116]), (As, cs, s), (Ai, ci, id)] = [114, 101, 115, 101, 116] ++ s ++ id := by simp [pieces]
  refine vcCall_of .nil (e ▸ rdigest_spec (some ⟨bp, 0, none⟩) 3 [(some ⟨b5, 0, none⟩, 5, [114, 101, 115, 101, 116]), (As, cs, s), (Ai, ci, id)] _ (Ent.gnO .here (fun w hw => Ob.sl_at hw)) (fun p hp => by
    simp only [List.mem_cons, List.not_mem_nil, or_false] at hp
    rcases hp with rfl | rfl | rfl
    · exact (Ent.gnO (.there .here) (fun w hw => Ob.sl_at hw))
    · exact Ent.gnG hs
    · exact Ent.gnG hi) (by rw [e]; simp; omega) (by simp)) (fun v own' N1 hv => ?_)
  obtain ⟨Am, cm, rfl, rfl, rfl, hcm⟩ := hv
  exact ⟨_, _, MT, .cons .here .nil, fun _ _ _ => trivial, Am, cm, rfl, rfl, rfl, hcm⟩

theorem xorD_back (d id : List UInt8) (h : id.length = 8) : xorD d (xorD d id) = id := by
  apply List.ext_getElem
  · rw [xorD_length, h]
  · intro i h1 h2
    have hi : i < 8 := by rw [xorD_length] at h1; exact h1
    simp only [xorD, List.getElem_map, List.getElem_range, List.getElem?_map, List.getElem?_range hi, Option.map_some, Option.getD_some]
    rw [UInt8.xor_assoc, UInt8.xor_self, UInt8.xor_zero, List.getElem?_eq_getElem h2]; rfl
theorem read_make {s : List UInt8} {w n : Nat} (hs : s.length = 16) (hw : w ≤ 255) (hn : n ≤ 72057594037927935) : readL s (idB s w n) = ((w : Int), (n : Int), 0) := by
  have e : turnI s (idB s w n) = idP w n := xorD_back _ _ (idP_length w n)
  have e2 : beval 0 (be 7 n) = n := by
    rw [beval_be, show (256 : Nat) ^ 7 = 72057594037927936 from by decide]; omega
  unfold readL
  rw [if_neg (by omega), if_neg (by rw [show (idB s w n).length = 8 from xorD_length _ _]; omega), e]
  have h0 : (idP w n)[0]?.getD 0 = byteI w := rfl
  have h1 : (idP w n).drop 1 = be 7 n := rfl
  rw [h0, h1, e2, byteI_nat, ofNat_toNat _ (by omega), Nat.mod_eq_of_lt (by omega)]
theorem be_beval (l : List UInt8) : ∀ h : Nat, be l.length (beval h l) = l := by
  have key : ∀ k (l : List UInt8), l.length = k → ∀ h, be k (beval h l) = l := by
    intro k
    induction k with
    | zero => intro l hl h; rw [List.eq_nil_of_length_eq_zero hl]; rfl
    | succ k ih =>
      intro l hl h
      obtain ⟨r, x, rfl⟩ : ∃ r x, l = r ++ [x] := ⟨l.dropLast, l.getLast (by intro e; simp [e] at hl), (List.dropLast_concat_getLast _).symm⟩
      have hx := x.toNat_lt
      rw [beval_snoc, be, show (beval h r * 256 + x.toNat) / 256 = beval h r from by omega, ih r (by simpa using hl), show (beval h r * 256 + x.toNat) % 256 = x.toNat from by omega]
      simp
  exact key l.length l rfl
theorem make_read {s id : List UInt8} (hs : s.length = 16) (hi : id.length = 8) : ∃ w n : Nat, readL s id = ((w : Int), (n : Int), 0) ∧ w ≤ 255 ∧ n ≤ 72057594037927935 ∧ idB s w n = id := by
  have hx8 : (turnI s id).length = 8 := xorD_length _ _
  have hb7 := beval_le ((turnI s id).drop 1) (by rw [List.length_drop]; omega)
  have hb0 := ((turnI s id)[0]?.getD 0).toNat_lt
  refine ⟨((turnI s id)[0]?.getD 0).toNat, beval 0 ((turnI s id).drop 1), by unfold readL; rw [if_neg (by omega), if_neg (by omega)], by omega, by omega, ?_⟩
  have e : idP ((turnI s id)[0]?.getD 0).toNat (beval 0 ((turnI s id).drop 1)) = turnI s id := by
    have h7 : ((turnI s id).drop 1).length = 7 := by rw [List.length_drop]; omega
    have hb := be_beval ((turnI s id).drop 1) 0
    rw [h7] at hb
    unfold idP
    rw [hb, byteI_nat]
    generalize turnI s id = b at *
    cases b with
    | nil => simp at hx8
    | cons x r => simp
  unfold idB
  rw [e]
  exact xorD_back _ _ hi

theorem secret_spec (G : Mp) : Spec Try.prog 19 #[] [] G (OwnB [48, 49, 50, 51, 52, 53, 54, 55, 56, 57, 97, 98, 99, 100, 101, 102]) := by
  refine Spec.intro (args := []) wide Try.func19 rfl Try.call19 (by rfl) (by rfl) (fun w0 hw0 => ?_)
  intro b
  refine vcMark_of .here ?_
  exact ⟨_, _, MT, .cons .here .nil, fun _ _ _ => trivial, some ⟨b, 0, none⟩, 16, rfl, rfl, rfl, by decide⟩
theorem awake_spec (G : Mp) : Spec Try.prog 7 #[] [] G (Ret (.bool true)) := by
  refine Spec.intro (args := []) wide Try.func7 rfl Try.call7 (by rfl) (by rfl) (fun w0 hw0 => ?_)
  refine vcCall_of .nil (secret_spec _) (fun v own' N' hv => ?_); obtain ⟨A0, c0, rfl, rfl, rfl, hc0⟩ := hv
  refine vcCall_of .nil (make_spec A0 c0 _ 3 77 _ (Ent.gnO .here (fun w hw => Ob.sl_at hw))) (fun v own' N1 hv => ?_)
  rw [show makeL [48, 49, 50, 51, 52, 53, 54, 55, 56, 57, 97, 98, 99, 100, 101, 102] 3 77 = (idB [48, 49, 50, 51, 52, 53, 54, 55, 56, 57, 97, 98, 99, 100, 101, 102] 3 77, 0) from makeL_0 (w := 3) (n := 77) (by decide) (by decide)] at hv
  obtain ⟨A1, c1, rfl, rfl, rfl, hc1⟩ := hv
  refine vcCall_of .nil (secret_spec _) (fun v own' N' hv => ?_); obtain ⟨A2, c2, rfl, rfl, rfl, hc2⟩ := hv
  have h8 : (idB [48, 49, 50, 51, 52, 53, 54, 55, 56, 57, 97, 98, 99, 100, 101, 102] 3 77).length = 8 := xorD_length _ _
  have hr := read_make (s := [48, 49, 50, 51, 52, 53, 54, 55, 56, 57, 97, 98, 99, 100, 101, 102]) (w := 3) (n := 77) (by decide) (by decide) (by decide)
  generalize idB [48, 49, 50, 51, 52, 53, 54, 55, 56, 57, 97, 98, 99, 100, 101, 102] 3 77 = id at *
  refine vcCall_of .nil (read_spec A2 A1 c2 c1 _ id _ (Ent.gnO .here (fun w hw => Ob.sl_at hw)) (Ent.gnO (.there .here) (fun w hw => Ob.sl_at hw))) (fun v own' N2 hv => ?_)
  rw [hr] at hv
  obtain ⟨rfl, rfl, rfl⟩ := hv
  refine vcIf_yes (show ((id.length : Nat) : Int) = 8 by omega) ?_
  exact ⟨[], _, MT, .nil, fun _ _ _ => trivial, rfl, rfl, rfl⟩
end Go.Proofs.Ytnhkeghahiedfaa
