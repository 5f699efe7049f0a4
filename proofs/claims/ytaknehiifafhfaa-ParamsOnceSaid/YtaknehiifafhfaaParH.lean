/- Parameters: the laws' helpers. -/
import Derived.Test.YtaknehiifafhfaaParG
namespace Go.Proofs.Ytaknehiifafhfaa
open Go.Proofs
set_option maxRecDepth 20000

theorem len4 {α : Type} {l : List α} (h : l.length = 4) : ∃ a b c d, l = [a, b, c, d] := by
  match l, h with
  | [a, b, c, d], _ => exact ⟨a, b, c, d, rfl⟩
theorem len11 {α : Type} {l : List α} (h : l.length = 11) : ∃ a b c d e f g i j k m, l = [a, b, c, d, e, f, g, i, j, k, m] := by
  match l, h with
  | [a, b, c, d, e, f, g, i, j, k, m], _ => exact ⟨a, b, c, d, e, f, g, i, j, k, m, rfl⟩
theorem of_spec (As : List SlA) (p : Pm) (G : Mp) (hp : p.Ok) (hA : As.length = 4) : Spec Try.prog 13 #[pA As p] [] G (Ret (.agg (refC As p).toArray)) := by
  obtain ⟨hs, bys, nums, nm⟩ := p
  obtain ⟨hh, hb, hn⟩ := hp
  simp only at hh hb hn
  obtain ⟨h0, h1, h2, h3, rfl⟩ := len4 hh
  obtain ⟨y0, y1, y2, y3, rfl⟩ := len4 hb
  obtain ⟨a0, a1, a2, a3, rfl⟩ := len4 hA
  obtain ⟨n0, n1, n2, n3, n4, n5, n6, n7, n8, n9, n10, rfl⟩ := len11 hn
  refine Spec.intro (args := [_]) wide Try.func13 rfl Try.call13 (by rfl) (by rfl) (fun w0 hw0 => ?_)
  intro b1 b2
  refine vcLoad1_row (Ent.gnO (.there .here) (fun w hw => Ob.row_at hw)) rfl ?_
  intro b3
  refine ⟨rfl, vcStoreN_row (xs := refC nilAs zeroP) (m := 52) _ .here rfl (refC_one nilAs { zeroP with nm := nm }) ?_⟩
  have hG : ∀ {G N : Mp} {o o' : Ob}, Ent (GN G [o, o', .row b1 25 (pC [a0, a1, a2, a3] ⟨[h0, h1, h2, h3], [y0, y1, y2, y3], [n0, n1, n2, n3, n4, n5, n6, n7, n8, n9, n10], nm⟩) 20] N) (RowAt (some ⟨b1, 0, none⟩) (pC [a0, a1, a2, a3] ⟨[h0, h1, h2, h3], [y0, y1, y2, y3], [n0, n1, n2, n3, n4, n5, n6, n7, n8, n9, n10], nm⟩)) := Ent.gnO (.there (.there .here)) (fun w hw => Ob.row_at hw)
  have st : ∀ (xs : List Value) (i j : Nat) (v : Value) (k : List Ob → Prop) (rest : List Ob), i + j < xs.length → oneCell v = true → k (.row b3 33 (xs.set (i + j + 0) v) 52 :: rest) → vcStore1 (.row b3 33 xs 52 :: rest) ((((⟨b3, 0, none⟩ : Addr).add i).add j).add 0) v k :=
    fun xs i j v k rest hl h1 hk => vcStore1_2 (.row b3 _ xs 52) _ .here rfl (by show i + j + 0 < xs.length; omega) h1 hk
  refine vcDraw_mix [0,1,2,3,4,5,6,7,8,9,11,14,17,10,12,13,15,16,18,19] (RowAt (some ⟨b1, 0, none⟩) (pC [a0, a1, a2, a3] ⟨[h0, h1, h2, h3], [y0, y1, y2, y3], [n0, n1, n2, n3, n4, n5, n6, n7, n8, n9, n10], nm⟩)) (by kernel_rfl) hG ?_
  refine vcLoad1_row Ent.refl rfl ?_
  refine vcLoad1_row Ent.refl rfl ?_
  refine vcLoad1_row Ent.refl rfl ?_
  refine vcLoad1_row Ent.refl rfl ?_
  refine vcAt_nat 0 rfl (by decide) ?_
  refine st (refC nilAs ⟨[false, false, false, false], [[], [], [], []], [0, 0, 0, 0, 0, 0, 0, 0, 0, 0, 0], nm⟩) 17 0 _ _ _ (by rw [refC_len]; decide) rfl ?_
  refine vcMix_same hG ?_
  refine vcAt_nat 2 rfl (by decide) ?_
  refine st ((refC nilAs ⟨[false, false, false, false], [[], [], [], []], [0, 0, 0, 0, 0, 0, 0, 0, 0, 0, 0], nm⟩).set (17 + 0 + 0) (.bool h0)) 17 2 _ _ _ (by simp only [List.length_set]; rw [refC_len]; decide) rfl ?_
  refine vcMix_same hG ?_
  refine vcAt_nat 15 rfl (by decide) ?_
  refine st (((refC nilAs ⟨[false, false, false, false], [[], [], [], []], [0, 0, 0, 0, 0, 0, 0, 0, 0, 0, 0], nm⟩).set (17 + 0 + 0) (.bool h0)).set (17 + 2 + 0) (.bool h1)) 17 15 _ _ _ (by simp only [List.length_set]; rw [refC_len]; decide) rfl ?_
  refine vcMix_same hG ?_
  refine vcAt_nat 16 rfl (by decide) ?_
  refine st ((((refC nilAs ⟨[false, false, false, false], [[], [], [], []], [0, 0, 0, 0, 0, 0, 0, 0, 0, 0, 0], nm⟩).set (17 + 0 + 0) (.bool h0)).set (17 + 2 + 0) (.bool h1)).set (17 + 15 + 0) (.bool h2)) 17 16 _ _ _ (by simp only [List.length_set]; rw [refC_len]; decide) rfl ?_
  refine vcMix_same hG ?_
  rw [show ((((refC nilAs ⟨[false, false, false, false], [[], [], [], []], [0, 0, 0, 0, 0, 0, 0, 0, 0, 0, 0], nm⟩).set (17 + 0 + 0) (.bool h0)).set (17 + 2 + 0) (.bool h1)).set (17 + 15 + 0) (.bool h2)).set (17 + 16 + 0) (.bool h3) = refC nilAs ⟨[h0, h1, h2, h3], [[], [], [], []], [0, 0, 0, 0, 0, 0, 0, 0, 0, 0, 0], nm⟩ from rfl]
  refine vcDraw_mix [0,1,2,3,4,5,6,7,8,9,11,14,17,10,12,13,15,16,18,19] (RowAt (some ⟨b1, 0, none⟩) (pC [a0, a1, a2, a3] ⟨[h0, h1, h2, h3], [y0, y1, y2, y3], [n0, n1, n2, n3, n4, n5, n6, n7, n8, n9, n10], nm⟩)) (by kernel_rfl) hG ?_
  refine vcLoad1_row Ent.refl rfl ?_
  refine vcLoad1_row Ent.refl rfl ?_
  refine vcLoad1_row Ent.refl rfl ?_
  refine vcLoad1_row Ent.refl rfl ?_
  refine vcAt_nat 0 rfl (by decide) ?_
  refine st (refC nilAs ⟨[h0, h1, h2, h3], [[], [], [], []], [0, 0, 0, 0, 0, 0, 0, 0, 0, 0, 0], nm⟩) 34 0 _ _ _ (by rw [refC_len]; decide) rfl ?_
  refine vcMix_same hG ?_
  refine vcAt_nat 2 rfl (by decide) ?_
  refine st ((refC nilAs ⟨[h0, h1, h2, h3], [[], [], [], []], [0, 0, 0, 0, 0, 0, 0, 0, 0, 0, 0], nm⟩).set (34 + 0 + 0) (slV (a0, y0))) 34 2 _ _ _ (by simp only [List.length_set]; rw [refC_len]; decide) rfl ?_
  refine vcMix_same hG ?_
  refine vcAt_nat 15 rfl (by decide) ?_
  refine st (((refC nilAs ⟨[h0, h1, h2, h3], [[], [], [], []], [0, 0, 0, 0, 0, 0, 0, 0, 0, 0, 0], nm⟩).set (34 + 0 + 0) (slV (a0, y0))).set (34 + 2 + 0) (slV (a1, y1))) 34 15 _ _ _ (by simp only [List.length_set]; rw [refC_len]; decide) rfl ?_
  refine vcMix_same hG ?_
  refine vcAt_nat 16 rfl (by decide) ?_
  refine st ((((refC nilAs ⟨[h0, h1, h2, h3], [[], [], [], []], [0, 0, 0, 0, 0, 0, 0, 0, 0, 0, 0], nm⟩).set (34 + 0 + 0) (slV (a0, y0))).set (34 + 2 + 0) (slV (a1, y1))).set (34 + 15 + 0) (slV (a2, y2))) 34 16 _ _ _ (by simp only [List.length_set]; rw [refC_len]; decide) rfl ?_
  refine vcMix_same hG ?_
  rw [show ((((refC nilAs ⟨[h0, h1, h2, h3], [[], [], [], []], [0, 0, 0, 0, 0, 0, 0, 0, 0, 0, 0], nm⟩).set (34 + 0 + 0) (slV (a0, y0))).set (34 + 2 + 0) (slV (a1, y1))).set (34 + 15 + 0) (slV (a2, y2))).set (34 + 16 + 0) (slV (a3, y3)) = refC [a0, a1, a2, a3] ⟨[h0, h1, h2, h3], [y0, y1, y2, y3], [0, 0, 0, 0, 0, 0, 0, 0, 0, 0, 0], nm⟩ from rfl]
  refine vcDraw_mix [0,1,2,3,4,5,6,7,8,9,10,11,12,13,15,18,21,24,27,14,16,17,19,20,22,23,25,26,28,29] (RowAt (some ⟨b1, 0, none⟩) (pC [a0, a1, a2, a3] ⟨[h0, h1, h2, h3], [y0, y1, y2, y3], [n0, n1, n2, n3, n4, n5, n6, n7, n8, n9, n10], nm⟩)) (by kernel_rfl) hG ?_
  refine vcLoad1_row Ent.refl rfl ?_
  refine vcLoad1_row Ent.refl rfl ?_
  refine vcLoad1_row Ent.refl rfl ?_
  refine vcLoad1_row Ent.refl rfl ?_
  refine vcLoad1_row Ent.refl rfl ?_
  refine vcLoad1_row Ent.refl rfl ?_
  refine vcAt_nat 1 rfl (by decide) ?_
  refine st (refC [a0, a1, a2, a3] ⟨[h0, h1, h2, h3], [y0, y1, y2, y3], [0, 0, 0, 0, 0, 0, 0, 0, 0, 0, 0], nm⟩) 0 1 _ _ _ (by rw [refC_len]; decide) rfl ?_
  refine vcMix_same hG ?_
  refine vcAt_nat 3 rfl (by decide) ?_
  refine st ((refC [a0, a1, a2, a3] ⟨[h0, h1, h2, h3], [y0, y1, y2, y3], [0, 0, 0, 0, 0, 0, 0, 0, 0, 0, 0], nm⟩).set (0 + 1 + 0) (.int .i64 n0)) 0 3 _ _ _ (by simp only [List.length_set]; rw [refC_len]; decide) rfl ?_
  refine vcMix_same hG ?_
  refine vcAt_nat 4 rfl (by decide) ?_
  refine st (((refC [a0, a1, a2, a3] ⟨[h0, h1, h2, h3], [y0, y1, y2, y3], [0, 0, 0, 0, 0, 0, 0, 0, 0, 0, 0], nm⟩).set (0 + 1 + 0) (.int .i64 n0)).set (0 + 3 + 0) (.int .i64 n1)) 0 4 _ _ _ (by simp only [List.length_set]; rw [refC_len]; decide) rfl ?_
  refine vcMix_same hG ?_
  refine vcAt_nat 5 rfl (by decide) ?_
  refine st ((((refC [a0, a1, a2, a3] ⟨[h0, h1, h2, h3], [y0, y1, y2, y3], [0, 0, 0, 0, 0, 0, 0, 0, 0, 0, 0], nm⟩).set (0 + 1 + 0) (.int .i64 n0)).set (0 + 3 + 0) (.int .i64 n1)).set (0 + 4 + 0) (.int .i64 n2)) 0 5 _ _ _ (by simp only [List.length_set]; rw [refC_len]; decide) rfl ?_
  refine vcMix_same hG ?_
  refine vcAt_nat 6 rfl (by decide) ?_
  refine st (((((refC [a0, a1, a2, a3] ⟨[h0, h1, h2, h3], [y0, y1, y2, y3], [0, 0, 0, 0, 0, 0, 0, 0, 0, 0, 0], nm⟩).set (0 + 1 + 0) (.int .i64 n0)).set (0 + 3 + 0) (.int .i64 n1)).set (0 + 4 + 0) (.int .i64 n2)).set (0 + 5 + 0) (.int .i64 n3)) 0 6 _ _ _ (by simp only [List.length_set]; rw [refC_len]; decide) rfl ?_
  refine vcMix_same hG ?_
  refine vcAt_nat 7 rfl (by decide) ?_
  refine st ((((((refC [a0, a1, a2, a3] ⟨[h0, h1, h2, h3], [y0, y1, y2, y3], [0, 0, 0, 0, 0, 0, 0, 0, 0, 0, 0], nm⟩).set (0 + 1 + 0) (.int .i64 n0)).set (0 + 3 + 0) (.int .i64 n1)).set (0 + 4 + 0) (.int .i64 n2)).set (0 + 5 + 0) (.int .i64 n3)).set (0 + 6 + 0) (.int .i64 n4)) 0 7 _ _ _ (by simp only [List.length_set]; rw [refC_len]; decide) rfl ?_
  refine vcMix_same hG ?_
  rw [show ((((((refC [a0, a1, a2, a3] ⟨[h0, h1, h2, h3], [y0, y1, y2, y3], [0, 0, 0, 0, 0, 0, 0, 0, 0, 0, 0], nm⟩).set (0 + 1 + 0) (.int .i64 n0)).set (0 + 3 + 0) (.int .i64 n1)).set (0 + 4 + 0) (.int .i64 n2)).set (0 + 5 + 0) (.int .i64 n3)).set (0 + 6 + 0) (.int .i64 n4)).set (0 + 7 + 0) (.int .i64 n5) = refC [a0, a1, a2, a3] ⟨[h0, h1, h2, h3], [y0, y1, y2, y3], [n0, n1, n2, n3, n4, n5, 0, 0, 0, 0, 0], nm⟩ from rfl]
  refine vcDraw_mix [0,1,2,3,4,5,6,7,8,9,10,11,13,16,19,22,12,14,15,17,18,20,21,23,24] (RowAt (some ⟨b1, 0, none⟩) (pC [a0, a1, a2, a3] ⟨[h0, h1, h2, h3], [y0, y1, y2, y3], [n0, n1, n2, n3, n4, n5, n6, n7, n8, n9, n10], nm⟩)) (by kernel_rfl) hG ?_
  refine vcLoad1_row Ent.refl rfl ?_
  refine vcLoad1_row Ent.refl rfl ?_
  refine vcLoad1_row Ent.refl rfl ?_
  refine vcLoad1_row Ent.refl rfl ?_
  refine vcLoad1_row Ent.refl rfl ?_
  refine vcAt_nat 8 rfl (by decide) ?_
  refine st (refC [a0, a1, a2, a3] ⟨[h0, h1, h2, h3], [y0, y1, y2, y3], [n0, n1, n2, n3, n4, n5, 0, 0, 0, 0, 0], nm⟩) 0 8 _ _ _ (by rw [refC_len]; decide) rfl ?_
  refine vcMix_same hG ?_
  refine vcAt_nat 9 rfl (by decide) ?_
  refine st ((refC [a0, a1, a2, a3] ⟨[h0, h1, h2, h3], [y0, y1, y2, y3], [n0, n1, n2, n3, n4, n5, 0, 0, 0, 0, 0], nm⟩).set (0 + 8 + 0) (.int .i64 n6)) 0 9 _ _ _ (by simp only [List.length_set]; rw [refC_len]; decide) rfl ?_
  refine vcMix_same hG ?_
  refine vcAt_nat 10 rfl (by decide) ?_
  refine st (((refC [a0, a1, a2, a3] ⟨[h0, h1, h2, h3], [y0, y1, y2, y3], [n0, n1, n2, n3, n4, n5, 0, 0, 0, 0, 0], nm⟩).set (0 + 8 + 0) (.int .i64 n6)).set (0 + 9 + 0) (.int .i64 n7)) 0 10 _ _ _ (by simp only [List.length_set]; rw [refC_len]; decide) rfl ?_
  refine vcMix_same hG ?_
  refine vcAt_nat 11 rfl (by decide) ?_
  refine st ((((refC [a0, a1, a2, a3] ⟨[h0, h1, h2, h3], [y0, y1, y2, y3], [n0, n1, n2, n3, n4, n5, 0, 0, 0, 0, 0], nm⟩).set (0 + 8 + 0) (.int .i64 n6)).set (0 + 9 + 0) (.int .i64 n7)).set (0 + 10 + 0) (.int .i64 n8)) 0 11 _ _ _ (by simp only [List.length_set]; rw [refC_len]; decide) rfl ?_
  refine vcMix_same hG ?_
  refine vcAt_nat 14 rfl (by decide) ?_
  refine st (((((refC [a0, a1, a2, a3] ⟨[h0, h1, h2, h3], [y0, y1, y2, y3], [n0, n1, n2, n3, n4, n5, 0, 0, 0, 0, 0], nm⟩).set (0 + 8 + 0) (.int .i64 n6)).set (0 + 9 + 0) (.int .i64 n7)).set (0 + 10 + 0) (.int .i64 n8)).set (0 + 11 + 0) (.int .i64 n9)) 0 14 _ _ _ (by simp only [List.length_set]; rw [refC_len]; decide) rfl ?_
  refine vcMix_same hG ?_
  rw [show (((((refC [a0, a1, a2, a3] ⟨[h0, h1, h2, h3], [y0, y1, y2, y3], [n0, n1, n2, n3, n4, n5, 0, 0, 0, 0, 0], nm⟩).set (0 + 8 + 0) (.int .i64 n6)).set (0 + 9 + 0) (.int .i64 n7)).set (0 + 10 + 0) (.int .i64 n8)).set (0 + 11 + 0) (.int .i64 n9)).set (0 + 14 + 0) (.int .i64 n10) = refC [a0, a1, a2, a3] ⟨[h0, h1, h2, h3], [y0, y1, y2, y3], [n0, n1, n2, n3, n4, n5, n6, n7, n8, n9, n10], nm⟩ from rfl]
  refine vcLoadN_0 (Ent.gnO .here (fun w hw => Ob.row_at hw)) (refC_len _ _) ?_
  refine ⟨(refC_len _ _).trans (by rfl), vcStoreN_row (xs := refC nilAs zeroP) (m := 52) _ (.there .here) (by exact refC_len _ _) (refC_one _ _) ?_⟩
  refine vcLoadN_0 (Ent.gnO .here (fun w hw => Ob.row_at hw)) (refC_len _ _) ?_
  exact ⟨[], _, MT, .nil, fun _ _ _ => trivial, rfl, rfl, rfl⟩
end Go.Proofs.Ytaknehiifafhfaa
