/- Parameters: copied, awake; ParamsDecodes. -/
import Derived.Test.YtaknehiifafhfaaParI
namespace Go.Proofs.Ytaknehiifafhfaa
open Go.Proofs
set_option maxRecDepth 20000

theorem PmAt.cons4 {a0 a1 a2 a3 : SlA} {y0 y1 y2 y3 : List UInt8} {hs : List Bool} {nums : List Int} {nm : Bool} {w : World} (h0 : RowAt a0.1 (Bs y0) w) (h1 : RowAt a1.1 (Bs y1) w) (h2 : RowAt a2.1 (Bs y2) w) (h3 : RowAt a3.1 (Bs y3) w) : PmAt [a0, a1, a2, a3] ⟨hs, [y0, y1, y2, y3], nums, nm⟩ w := by
  intro x hx
  simp only [List.zip_cons_cons, List.zip_nil_right, List.mem_cons, List.not_mem_nil, or_false] at hx
  rcases hx with rfl | rfl | rfl | rfl
  · exact h0
  · exact h1
  · exact h2
  · exact h3
def CopyPost (p : Pm) (v : Value) (own : List Ob) (N : Mp) : Prop := ∃ As, v = pA As p ∧ own = [] ∧ Ent N (PmAt As p) ∧ As.length = 4
theorem copied_spec (As : List SlA) (p : Pm) (G : Mp) (hp : p.Ok) (hA : As.length = 4) (h : Ent G (PmAt As p)) (hs : Small p) : Spec Try.prog 16 #[pA As p] [] G (CopyPost p) := by
  obtain ⟨hs', bys, nums, nm⟩ := p
  obtain ⟨hh, hb, hn⟩ := hp
  simp only at hh hb hn
  obtain ⟨h0, h1, h2, h3, rfl⟩ := len4 hh
  obtain ⟨y0, y1, y2, y3, rfl⟩ := len4 hb
  obtain ⟨a0, a1, a2, a3, rfl⟩ := len4 hA
  obtain ⟨n0, n1, n2, n3, n4, n5, n6, n7, n8, n9, n10, rfl⟩ := len11 hn
  have hy0 := hs y0 (by simp)
  have hy1 := hs y1 (by simp)
  have hy2 := hs y2 (by simp)
  have hy3 := hs y3 (by simp)
  have r0 : Ent G (RowAt a0.1 (Bs y0)) := h.mono fun w h => h (a0, y0) (by simp)
  have r1 : Ent G (RowAt a1.1 (Bs y1)) := h.mono fun w h => h (a1, y1) (by simp)
  have r2 : Ent G (RowAt a2.1 (Bs y2)) := h.mono fun w h => h (a2, y2) (by simp)
  have r3 : Ent G (RowAt a3.1 (Bs y3)) := h.mono fun w h => h (a3, y3) (by simp)
  refine Spec.intro (args := [_]) wide Try.func16 rfl Try.call16 (by rfl) (by rfl) (fun w0 hw0 => ?_)
  intro b1 b2
  generalize hP : (⟨[h0, h1, h2, h3], [y0, y1, y2, y3], [n0, n1, n2, n3, n4, n5, n6, n7, n8, n9, n10], nm⟩ : Pm) = P at *
  have hl : (pC [a0, a1, a2, a3] P).length = 20 := by rw [← hP]; rfl
  refine vcDraw_mix [0,1,3,4,6,7,9,10,2,12,5,8,11,13,14,15,16,17,18,19] (RowAt (some ⟨b1, 0, none⟩) (pC [a0, a1, a2, a3] P)) (by kernel_rfl) (Ent.gnO (by first | ((repeat (first | exact .here | apply Take.there)); done) | exact .none_) (fun w hw => Ob.row_at hw)) ?_
  refine vcLoad1_row (v := .slice a0.1 y0.length a0.2) Ent.refl (by rw [← hP]; rfl) ?_
  refine vcLoad1_row (v := .slice a1.1 y1.length a1.2) Ent.refl (by rw [← hP]; rfl) ?_
  refine vcLoad1_row (v := .slice a2.1 y2.length a2.2) Ent.refl (by rw [← hP]; rfl) ?_
  refine vcLoad1_row (v := .slice a3.1 y3.length a3.2) Ent.refl (by rw [← hP]; rfl) ?_
  refine vcCall_of .nil (copyG_spec a0.1 a0.2 y0 _ (Ent.gnG r0) (by omega)) (fun v own' N0 hv => ?_)
  obtain ⟨A0, c0, rfl, rfl, k0, _⟩ := hv
  refine vcMix_same (Ent.gnO (by first | ((repeat (first | exact .here | apply Take.there)); done) | exact .none_) (fun w hw => Ob.row_at hw)) ?_
  refine vcCall_of .nil (copyG_spec a1.1 a1.2 y1 _ (Ent.gnG r1) (by omega)) (fun v own' N1 hv => ?_)
  obtain ⟨A1, c1, rfl, rfl, k1, _⟩ := hv
  refine vcMix_same (Ent.gnO (by first | ((repeat (first | exact .here | apply Take.there)); done) | exact .none_) (fun w hw => Ob.row_at hw)) ?_
  refine vcCall_of .nil (copyG_spec a2.1 a2.2 y2 _ (Ent.gnG r2) (by omega)) (fun v own' N2 hv => ?_)
  obtain ⟨A2, c2, rfl, rfl, k2, _⟩ := hv
  refine vcMix_same (Ent.gnO (by first | ((repeat (first | exact .here | apply Take.there)); done) | exact .none_) (fun w hw => Ob.row_at hw)) ?_
  refine vcCall_of .nil (copyG_spec a3.1 a3.2 y3 _ (Ent.gnG r3) (by omega)) (fun v own' N3 hv => ?_)
  obtain ⟨A3, c3, rfl, rfl, k3, _⟩ := hv
  refine vcMix_same (Ent.gnO (by first | ((repeat (first | exact .here | apply Take.there)); done) | exact .none_) (fun w hw => Ob.row_at hw)) ?_
  refine vcStore1_1 (.row b1 _ (pC [a0, a1, a2, a3] P) _) _ (by first | ((repeat (first | exact .here | apply Take.there)); done) | exact .none_) rfl (by show 4 + 0 < (pC _ P).length; omega) rfl ?_
  refine vcMix_last (by kernel_rfl) ?_
  refine vcStore1_1 (.row b1 _ ((pC [a0, a1, a2, a3] P).set (4 + 0) _) _) _ (by first | ((repeat (first | exact .here | apply Take.there)); done) | exact .none_) rfl (by show 5 + 0 < ((pC _ P).set _ _).length; rw [List.length_set]; omega) rfl ?_
  refine vcMix_last (by kernel_rfl) ?_
  refine vcStore1_1 (.row b1 _ (((pC [a0, a1, a2, a3] P).set (4 + 0) _).set (5 + 0) _) _) _ (by first | ((repeat (first | exact .here | apply Take.there)); done) | exact .none_) rfl (by show 6 + 0 < (((pC _ P).set _ _).set _ _).length; rw [List.length_set, List.length_set]; omega) rfl ?_
  refine vcMix_last (by kernel_rfl) ?_
  refine vcStore1_1 (.row b1 _ ((((pC [a0, a1, a2, a3] P).set (4 + 0) _).set (5 + 0) _).set (6 + 0) _) _) _ (by first | ((repeat (first | exact .here | apply Take.there)); done) | exact .none_) rfl (by show 7 + 0 < ((((pC _ P).set _ _).set _ _).set _ _).length; rw [List.length_set, List.length_set, List.length_set]; omega) rfl ?_
  refine vcMix_last (by kernel_rfl) ?_
  have hfin : (((((pC [a0, a1, a2, a3] P).set (4 + 0) (.slice A0 y0.length c0)).set (5 + 0) (.slice A1 y1.length c1)).set (6 + 0) (.slice A2 y2.length c2)).set (7 + 0) (.slice A3 y3.length c3)) = pC [(A0, c0), (A1, c1), (A2, c2), (A3, c3)] P := by rw [← hP]; rfl
  have hl2 : (pC [(A0, c0), (A1, c1), (A2, c2), (A3, c3)] P).length = 20 := by rw [← hP]; rfl
  refine vcLoadN_0 (xs := pC [(A0, c0), (A1, c1), (A2, c2), (A3, c3)] P) (Ent.gnO .here (fun w hw => hfin ▸ Ob.row_at hw)) hl2 ?_
  refine ⟨hl2.trans (by rfl), vcStoreN_row (xs := pC nilAs zeroP) (m := 20) _ (by first | ((repeat (first | exact .here | apply Take.there)); done) | exact .none_) (by exact hl2) (pC_one _ _) ?_⟩
  refine vcLoadN_0 (xs := pC [(A0, c0), (A1, c1), (A2, c2), (A3, c3)] P) (Ent.gnO .here (fun w hw => Ob.row_at hw)) hl2 ?_
  refine ⟨[], _, PmAt [(A0, c0), (A1, c1), (A2, c2), (A3, c3)] P, .nil, fun w hw _ => ?_, [(A0, c0), (A1, c1), (A2, c2), (A3, c3)], rfl, rfl, Ent.refl, rfl⟩
  rw [← hP]
  exact PmAt.cons4 ((by repeat first | exact Ent.andR k0 | refine Ent.andL ?_ : Ent _ (RowAt A0 (Bs y0))) w hw) ((by repeat first | exact Ent.andR k1 | refine Ent.andL ?_ : Ent _ (RowAt A1 (Bs y1))) w hw) ((by repeat first | exact Ent.andR k2 | refine Ent.andL ?_ : Ent _ (RowAt A2 (Bs y2))) w hw) ((by repeat first | exact Ent.andR k3 | refine Ent.andL ?_ : Ent _ (RowAt A3 (Bs y3))) w hw)

theorem awake_step : decStep [1, 1, 30] true s0 = .inr ⟨3, [1], { usualP with nums := [30, 65527, 0, 0, 0, 0, 0, 0, 3, 25, 2] }⟩ := by kernel_rfl
theorem awake_dec {r : Pm × Int × Int} (h : DecR [1, 1, 30] true r) : r = ({ usualP with nums := [30, 65527, 0, 0, 0, 0, 0, 0, 3, 25, 2] }, 0, 0) :=
  h.unique (.inr ⟨by decide, .step (by decide) awake_step (.done (by decide))⟩)
theorem awake9_spec (G : Mp) : Spec Try.prog 11 #[] [] G (Ret (.bool true)) := by
  refine Spec.intro (args := []) wide Try.func11 rfl Try.call11 (by rfl) (by rfl) (fun w0 hw0 => ?_)
  intro bs
  refine vcCall_of .nil (decode_spec (some ⟨bs, 0, none⟩) 3 [1, 1, 30] true _ (Ent.gnO .here (fun w hw => Ob.sl_at hw)) (by decide)) (fun v own' N' hv => ?_)
  obtain ⟨As, r, rfl, rfl, hm, hA, hok, hd⟩ := hv
  have hr := awake_dec hd
  subst hr
  obtain ⟨a0, a1, a2, a3, rfl⟩ := len4 hA
  intro b1
  refine ⟨rfl, vcStoreN_row (xs := pC nilAs zeroP) (m := 20) _ .here rfl (pC_one _ _) ?_⟩
  refine vcLoad1_row (v := .int .i64 30) (Ent.gnO .here (fun w hw => Ob.row_at hw)) rfl ?_
  refine vcLoad1_row (v := .int .i64 65527) (Ent.gnO .here (fun w hw => Ob.row_at hw)) rfl ?_
  refine vcCall_of .nil (usual_spec _) (fun v own' N' hv => ?_)
  obtain ⟨rfl, rfl, rfl⟩ := hv
  exact ⟨[], _, MT, .nil, fun _ _ _ => trivial, rfl, rfl, rfl⟩
end Go.Proofs.Ytaknehiifafhfaa
