/- ParamsEncodes. -/
import Derived.Test.YtaknehiifafhfaaParN
namespace Go.Proofs.Ytaknehiifafhfaa
open Go.Proofs
set_option maxRecDepth 20000

theorem encodes_spec (As : List SlA) (p : Pm) (server : Bool) (G : Mp) (hp : p.Ok) (hA : As.length = 4) (h1 : Ent G (PmAt As p)) (hs : Small p) :
    Spec Try.prog 5 #[pA As p, .bool server] [] G (Ret (.bool true)) := by
  refine Spec.intro (args := [_, _]) wide Try.func5 rfl Try.call5 (by rfl) (by rfl) (fun w0 hw0 => ?_)
  intro b2
  have hel : (encodeP p server).1.length ≤ 612 := by
    unfold encodeP
    split
    · rename_i h; exact encN_len h 17 (Nat.le_refl _)
    · exact Nat.zero_le _
  refine vcLoadN_0 (xs := pC As p) (Ent.gnO (by first | ((repeat (first | exact .here | apply Take.there)); done) | exact .none_) (fun w hw => Ob.row_at hw)) (pC_len hp hA) ?_
  refine vcCall_of .nil (copied_spec As p _ hp hA (Ent.gnG h1) hs) (fun v own' N0 hv => ?_)
  obtain ⟨As1, rfl, rfl, hm1, hA1⟩ := hv
  intro b5
  refine ⟨(pC_len hp hA1).trans (by rfl), vcStoreN_row (xs := pC nilAs zeroP) (m := 20) _ .here (by exact pC_len hp hA1) (pC_one _ _) ?_⟩
  refine vcLoadN_0 (xs := pC As1 p) (Ent.gnO (by first | ((repeat (first | exact .here | apply Take.there)); done) | exact .none_) (fun w hw => Ob.row_at hw)) (pC_len hp hA1) ?_
  refine vcCall_of .nil (check_spec As1 p server _ hp hA1) (fun v own' N' hv => ?_); obtain ⟨rfl, rfl, rfl⟩ := hv
  refine vcLoadN_0 (xs := pC As1 p) (Ent.gnO (by first | ((repeat (first | exact .here | apply Take.there)); done) | exact .none_) (fun w hw => Ob.row_at hw)) (pC_len hp hA1) ?_
  refine vcCall_of .nil (encode_spec As1 p server _ hp hA1 (Ent.gnN (by repeat first | exact hm1 | exact Ent.andR hm1 | refine Ent.andL ?_))) (fun v own' N' hv => ?_)
  obtain ⟨Ae, ce, rfl, rfl, rfl⟩ := hv
  refine vcLoadN_0 (xs := pC As p) (Ent.gnO (by first | ((repeat (first | exact .here | apply Take.there)); done) | exact .none_) (fun w hw => Ob.row_at hw)) (pC_len hp hA) ?_
  refine vcCall_of .nil (of_spec As p _ hp hA) (fun v own' N' hv => ?_); obtain ⟨rfl, rfl, rfl⟩ := hv
  refine vcCall_of .nil (rencode_spec As p server _ hp hA (Ent.gnG h1)) (fun v own' N' hv => ?_)
  obtain ⟨Ar, cr, rfl, rfl, rfl⟩ := hv
  have hcp : checkP p server = (encodeP p server).2 := by unfold checkP encodeP; split <;> rfl
  have hM : ∀ {G N : Mp} {own : List Ob}, (∃ r, Take (.row b2 25 (pC As p) (pC As p).length) own r) → (∃ r, Take (.row b5 25 (pC As1 p) 20) own r) → Ent (GN G own N) (MpAnd (RowAt (some ⟨b2, 0, none⟩) (pC As p)) (RowAt (some ⟨b5, 0, none⟩) (pC As1 p))) :=
    fun ⟨_, t1⟩ ⟨_, t2⟩ => Ent.both (Ent.gnO t1 (fun w hw => Ob.row_at hw)) (Ent.gnO t2 (fun w hw => Ob.row_at hw))
  refine vcDraw_mix [0,1,2,3,4,5,6,7,8,9,10,11,12,13,14,15,16,17,19,18,20,21,22,23,24,25,26,27,28,29] (MpAnd (RowAt (some ⟨b2, 0, none⟩) (pC As p)) (RowAt (some ⟨b5, 0, none⟩) (pC As1 p))) (by kernel_rfl) (hM ⟨_, (by first | ((repeat (first | exact .here | apply Take.there)); done) | exact .none_)⟩ ⟨_, (by first | ((repeat (first | exact .here | apply Take.there)); done) | exact .none_)⟩) ?_
  refine vcCall_of .nil (awake9_spec _) (fun v own' N' hv => ?_); obtain ⟨rfl, rfl, rfl⟩ := hv
  refine vcMix_same (hM ⟨_, (by first | ((repeat (first | exact .here | apply Take.there)); done) | exact .none_)⟩ ⟨_, (by first | ((repeat (first | exact .here | apply Take.there)); done) | exact .none_)⟩) ?_
  refine vcIf_yes hcp ?_
  refine vcCall_of .nil (same_spec Ae Ar ce cr _ _ _ (Ent.gnO (by first | ((repeat (first | exact .here | apply Take.there)); done) | exact .none_) (fun w hw => Ob.sl_at hw)) (Ent.gnO (by first | ((repeat (first | exact .here | apply Take.there)); done) | exact .none_) (fun w hw => Ob.sl_at hw)) (by omega)) (fun v own' N' hv => ?_)
  obtain ⟨rfl, rfl, rfl⟩ := hv
  refine vcMix_same (hM ⟨_, (by first | ((repeat (first | exact .here | apply Take.there)); done) | exact .none_)⟩ ⟨_, (by first | ((repeat (first | exact .here | apply Take.there)); done) | exact .none_)⟩) ?_
  refine vcIf_yes rfl ?_
  refine vcIf_yes rfl ?_
  refine vcLoadN_0 (xs := pC As1 p) (fun _ h => h.2) (pC_len hp hA1) ?_
  refine vcLoadN_0 (xs := pC As p) (fun _ h => h.1) (pC_len hp hA) ?_
  refine vcCall_of .nil (of_spec As1 p _ hp hA1) (fun v own' N' hv => ?_); obtain ⟨rfl, rfl, rfl⟩ := hv
  refine vcMix_same (hM ⟨_, (by first | ((repeat (first | exact .here | apply Take.there)); done) | exact .none_)⟩ ⟨_, (by first | ((repeat (first | exact .here | apply Take.there)); done) | exact .none_)⟩) ?_
  refine vcCall_of .nil (of_spec As p _ hp hA) (fun v own' N' hv => ?_); obtain ⟨rfl, rfl, rfl⟩ := hv
  refine vcMix_same (hM ⟨_, (by first | ((repeat (first | exact .here | apply Take.there)); done) | exact .none_)⟩ ⟨_, (by first | ((repeat (first | exact .here | apply Take.there)); done) | exact .none_)⟩) ?_
  refine vcCall_of .nil (samep_spec As1 As p p _ hp hp hA1 hA (Ent.gnN (by repeat first | exact hm1 | exact Ent.andR hm1 | refine Ent.andL ?_)) (Ent.gnG h1) hs) (fun v own' N' hv => ?_)
  obtain ⟨rfl, rfl, rfl⟩ := hv
  rw [sameP_refl]
  refine vcMix_same (hM ⟨_, (by first | ((repeat (first | exact .here | apply Take.there)); done) | exact .none_)⟩ ⟨_, (by first | ((repeat (first | exact .here | apply Take.there)); done) | exact .none_)⟩) ?_
  refine vcCall_of .nil (usual_spec _) (fun v own' N' hv => ?_); obtain ⟨rfl, rfl, rfl⟩ := hv
  refine vcMix_same (hM ⟨_, (by first | ((repeat (first | exact .here | apply Take.there)); done) | exact .none_)⟩ ⟨_, (by first | ((repeat (first | exact .here | apply Take.there)); done) | exact .none_)⟩) ?_
  refine vcCall_of .nil (of_spec nilAs usualP _ usualP_ok rfl) (fun v own' N' hv => ?_); obtain ⟨rfl, rfl, rfl⟩ := hv
  refine vcMix_same (hM ⟨_, (by first | ((repeat (first | exact .here | apply Take.there)); done) | exact .none_)⟩ ⟨_, (by first | ((repeat (first | exact .here | apply Take.there)); done) | exact .none_)⟩) ?_
  refine vcCall_of .nil (rusual_spec _) (fun v own' N' hv => ?_); obtain ⟨rfl, rfl, rfl⟩ := hv
  refine vcMix_same (hM ⟨_, (by first | ((repeat (first | exact .here | apply Take.there)); done) | exact .none_)⟩ ⟨_, (by first | ((repeat (first | exact .here | apply Take.there)); done) | exact .none_)⟩) ?_
  refine vcCall_of .nil (samep_spec nilAs nilAs usualP usualP _ usualP_ok usualP_ok rfl rfl (fun w _ => PmAt.zero w _ rfl) (fun w _ => PmAt.zero w _ rfl) (by
    intro y hy
    simp only [usualP, List.mem_cons, List.not_mem_nil, or_false, or_self] at hy
    subst hy; exact Nat.zero_le _)) (fun v own' N' hv => ?_)
  obtain ⟨rfl, rfl, rfl⟩ := hv
  rw [sameP_refl]
  refine vcMix_same (hM ⟨_, (by first | ((repeat (first | exact .here | apply Take.there)); done) | exact .none_)⟩ ⟨_, (by first | ((repeat (first | exact .here | apply Take.there)); done) | exact .none_)⟩) ?_
  exact ⟨[], _, MT, .nil, fun _ _ _ => trivial, rfl, rfl, rfl⟩
theorem pmAt4 {a0 a1 a2 a3 : SlA} {y0 y1 y2 y3 : List UInt8} {hs : List Bool} {nums : List Int} {nm : Bool} {G : Mp} (h : ∀ w, G w → RowAt a0.1 (Bs y0) w ∧ RowAt a1.1 (Bs y1) w ∧ RowAt a2.1 (Bs y2) w ∧ RowAt a3.1 (Bs y3) w) : Ent G (PmAt [a0, a1, a2, a3] ⟨hs, [y0, y1, y2, y3], nums, nm⟩) :=
  fun w hw => PmAt.cons4 (h w hw).1 (h w hw).2.1 (h w hw).2.2.1 (h w hw).2.2.2
theorem small4 {y0 y1 y2 y3 : List UInt8} {hs : List Bool} {nums : List Int} {nm : Bool} (h0 : y0.length ≤ 140737488355328) (h1 : y1.length ≤ 140737488355328) (h2 : y2.length ≤ 140737488355328) (h3 : y3.length ≤ 140737488355328) : Small ⟨hs, [y0, y1, y2, y3], nums, nm⟩ := by
  intro y hy
  simp only [List.mem_cons, List.not_mem_nil, or_false] at hy
  rcases hy with rfl | rfl | rfl | rfl
  · exact h0
  · exact h1
  · exact h2
  · exact h3
end Go.Proofs.Ytaknehiifafhfaa
