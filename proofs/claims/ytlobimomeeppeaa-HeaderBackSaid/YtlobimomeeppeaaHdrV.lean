/- Headers: HeaderBuilds. -/
import Derived.Test.YtlobimomeeppeaaHdrU
namespace Go.Proofs.Ytlobimomeeppeaa
open Go.Proofs
set_option maxRecDepth 10000

theorem map_flat (l : List Int) : (l.flatMap fun n => [Value.int .i64 n]) = l.map nJ := by
  induction l with
  | nil => rfl
  | cons x r ih => rw [List.flatMap_cons, ih]; rfl
structure HdrIB (h : HdrI) : Prop where
  dl : h.dst.length ≤ 140737488351232
  sl : h.src.length ≤ 140737488351232
  tl : h.tok.length ≤ 140737488351232
  vl : h.vers.length ≤ 17592186044416
theorem buildI_len {h : HdrI} (w : Int) : (buildI h w).1.length ≤ 20000 := by
  unfold buildI
  split
  · exact Nat.zero_le _
  · rename_i he
    obtain ⟨_, _, hd, hk⟩ := right_ok (Classical.not_not.1 he)
    simp only
    split
    · simp only [List.length_append, List.length_cons, List.length_nil]; omega
    · rename_i h6
      obtain ⟨_, _, hs, _, _, ht⟩ := hk.resolve_left h6
      have htk : (tokB h).length ≤ 16400 := by
        unfold tokB
        split
        · rename_i h1
          have := ht h1
          rw [List.length_append, vput_length]
          have := vsize_le h.tok.length
          omega
        · exact Nat.zero_le _
      have hl : (lenB h.len).length ≤ 8 := by
        unfold lenB
        split
        · simp
        · rw [vput_length]; exact vsize_le _
      simp only [headB, List.length_append, List.length_cons, List.length_nil]
      omega

set_option maxHeartbeats 1000000 in
theorem builds_spec (h : HdrI) (d s t v : Pl) (w : Int) (G : Mp) (hm : HdrIM h d s t v G) (hl : HdrIB h) : Spec Try.prog 8 #[.agg (hdrIC h d s t v).toArray, .int .i64 w] [] G (Ret (.bool true)) := by
  obtain ⟨hl1, hl2, hl3, hl4⟩ := hl
  refine Spec.intro (args := [_, _]) wide Try.func8 rfl Try.call8 (by rfl) (by rfl) (fun w0 hw0 => ?_)
  intro b2
  refine vcLoadN_0 (xs := hdrIC h d s t v) (by first | exact Ent.gnO (by repeat first | exact .here | apply Take.there) (fun w hw => Ob.sl_at hw) | exact Ent.gnO (by repeat first | exact .here | apply Take.there) (fun w hw => Ob.row_at hw)) rfl ?_
  refine vcCall_of .nil (copied_spec h d s t v _ (hm.of (Ent.gnG Ent.refl)) ⟨hl1, hl2, hl3, hl4⟩) (fun v' own' N1 hv => ?_)
  obtain ⟨d', s', t', v', rfl, rfl, hm1⟩ := hv
  intro b5
  refine ⟨rfl, vcStoreN_row _ (by first | ((repeat (first | exact .here | apply Take.there)); done) | exact .none_) (by rfl) (by simp [oneCell, cellsL, hdrIC]) ?_⟩
  refine vcLoadN_0 (xs := hdrIC h d' s' t' v') ((by first | exact Ent.gnO (by repeat first | exact .here | apply Take.there) (fun w hw => Ob.sl_at hw) | exact Ent.gnO (by repeat first | exact .here | apply Take.there) (fun w hw => Ob.row_at hw)) : Ent _ (RowAt (some ⟨b5, 0, none⟩) (hdrIC h d' s' t' v'))) rfl ?_
  refine vcCall_of .nil (build_spec h d' s' t' v' w _ (hm1.of (Ent.gnN (by repeat first | exact Ent.refl | exact Ent.andR Ent.refl | refine Ent.andL ?_)))) (fun v'' own' N2 hv => ?_)
  obtain ⟨A1, c1, rfl, rfl, hr1, hc1⟩ := hv
  refine vcLoadN_0 (xs := hdrIC h d s t v) ((by first | exact Ent.gnO (by repeat first | exact .here | apply Take.there) (fun w hw => Ob.sl_at hw) | exact Ent.gnO (by repeat first | exact .here | apply Take.there) (fun w hw => Ob.row_at hw)) : Ent _ (RowAt (some ⟨b2, 0, none⟩) (hdrIC h d s t v))) rfl ?_
  refine vcCall_of .nil (of_specI h d s t v _) (fun v'' own' N' hv => ?_)
  obtain ⟨rfl, rfl, rfl⟩ := hv
  refine vcCall_of .nil (rbuild_spec h d s t v w _ (hm.of (Ent.gnG Ent.refl))) (fun v'' own' N3 hv => ?_)
  obtain ⟨A2, c2, rfl, rfl, hr2, hc2⟩ := hv
  have hlen := buildI_len (h := h) w
  generalize buildI h w = r at hr1 hc1 hr2 hc2 hlen
  refine vcDraw_mix [0,1,2,3,4,5,6,7,8,9,10,11,12,14,13,15,16,17,18] (fun w => RowAt (some ⟨b5, 0, none⟩) (hdrIC h d' s' t' v') w ∧ RowAt (some ⟨b2, 0, none⟩) (hdrIC h d s t v) w) (by kernel_rfl) (fun w hw => ⟨((by first | exact Ent.gnO (by repeat first | exact .here | apply Take.there) (fun w hw => Ob.sl_at hw) | exact Ent.gnO (by repeat first | exact .here | apply Take.there) (fun w hw => Ob.row_at hw)) : Ent _ (RowAt (some ⟨b5, 0, none⟩) (hdrIC h d' s' t' v'))) w hw, ((by first | exact Ent.gnO (by repeat first | exact .here | apply Take.there) (fun w hw => Ob.sl_at hw) | exact Ent.gnO (by repeat first | exact .here | apply Take.there) (fun w hw => Ob.row_at hw)) : Ent _ (RowAt (some ⟨b2, 0, none⟩) (hdrIC h d s t v))) w hw⟩) ?_
  refine vcCall_of .nil (hawake_spec _) (fun v'' own' N' hv => ?_)
  obtain ⟨rfl, rfl, rfl⟩ := hv
  refine vcMix_same (fun w hw => ⟨((by first | exact Ent.gnO (by repeat first | exact .here | apply Take.there) (fun w hw => Ob.sl_at hw) | exact Ent.gnO (by repeat first | exact .here | apply Take.there) (fun w hw => Ob.row_at hw)) : Ent _ (RowAt (some ⟨b5, 0, none⟩) (hdrIC h d' s' t' v'))) w hw, ((by first | exact Ent.gnO (by repeat first | exact .here | apply Take.there) (fun w hw => Ob.sl_at hw) | exact Ent.gnO (by repeat first | exact .here | apply Take.there) (fun w hw => Ob.row_at hw)) : Ent _ (RowAt (some ⟨b2, 0, none⟩) (hdrIC h d s t v))) w hw⟩) ?_
  refine vcCall_of .nil (same_spec A1 A2 c1 c2 r.1 r.1 _ (Ent.gnN (by repeat first | exact hr1 | exact Ent.andR hr1 | refine Ent.andL ?_)) (Ent.gnN (by repeat first | exact hr2 | exact Ent.andR hr2 | refine Ent.andL ?_)) (by omega)) (fun v'' own' N' hv => ?_)
  rw [decide_eq_true (rfl : r.1 = r.1)] at hv
  obtain ⟨rfl, rfl, rfl⟩ := hv
  refine vcMix_same (fun w hw => ⟨((by first | exact Ent.gnO (by repeat first | exact .here | apply Take.there) (fun w hw => Ob.sl_at hw) | exact Ent.gnO (by repeat first | exact .here | apply Take.there) (fun w hw => Ob.row_at hw)) : Ent _ (RowAt (some ⟨b5, 0, none⟩) (hdrIC h d' s' t' v'))) w hw, ((by first | exact Ent.gnO (by repeat first | exact .here | apply Take.there) (fun w hw => Ob.sl_at hw) | exact Ent.gnO (by repeat first | exact .here | apply Take.there) (fun w hw => Ob.row_at hw)) : Ent _ (RowAt (some ⟨b2, 0, none⟩) (hdrIC h d s t v))) w hw⟩) ?_
  repeat (first | refine vcIf_yes (by rfl) ?_ | refine vcIf_yes (rfl : (_ : Int) = _) ?_)
  refine vcLoadN_0 (xs := hdrIC h d' s' t' v') (fun w hw => hw.1) rfl ?_
  repeat (refine vcIf_yes (by rfl) ?_)
  refine vcLoadN_0 (xs := hdrIC h d s t v) (fun w hw => hw.2) rfl ?_
  repeat (refine vcIf_yes (by rfl) ?_)
  refine vcCall_of .nil (of_specI h d' s' t' v' _) (fun v'' own' N' hv => ?_)
  obtain ⟨rfl, rfl, rfl⟩ := hv
  refine vcMix_same (fun w hw => ⟨((by first | exact Ent.gnO (by repeat first | exact .here | apply Take.there) (fun w hw => Ob.sl_at hw) | exact Ent.gnO (by repeat first | exact .here | apply Take.there) (fun w hw => Ob.row_at hw)) : Ent _ (RowAt (some ⟨b5, 0, none⟩) (hdrIC h d' s' t' v'))) w hw, ((by first | exact Ent.gnO (by repeat first | exact .here | apply Take.there) (fun w hw => Ob.sl_at hw) | exact Ent.gnO (by repeat first | exact .here | apply Take.there) (fun w hw => Ob.row_at hw)) : Ent _ (RowAt (some ⟨b2, 0, none⟩) (hdrIC h d s t v))) w hw⟩) ?_
  repeat (refine vcIf_yes (by rfl) ?_)
  refine vcCall_of .nil (of_specI h d s t v _) (fun v'' own' N' hv => ?_)
  obtain ⟨rfl, rfl, rfl⟩ := hv
  refine vcMix_same (fun w hw => ⟨((by first | exact Ent.gnO (by repeat first | exact .here | apply Take.there) (fun w hw => Ob.sl_at hw) | exact Ent.gnO (by repeat first | exact .here | apply Take.there) (fun w hw => Ob.row_at hw)) : Ent _ (RowAt (some ⟨b5, 0, none⟩) (hdrIC h d' s' t' v'))) w hw, ((by first | exact Ent.gnO (by repeat first | exact .here | apply Take.there) (fun w hw => Ob.sl_at hw) | exact Ent.gnO (by repeat first | exact .here | apply Take.there) (fun w hw => Ob.row_at hw)) : Ent _ (RowAt (some ⟨b2, 0, none⟩) (hdrIC h d s t v))) w hw⟩) ?_
  repeat (refine vcIf_yes (by rfl) ?_)
  refine vcCall_of .nil (same06_specI h d' s' t' v' d s t v _ (hm1.of (Ent.gnN (by repeat first | exact Ent.refl | exact Ent.andR Ent.refl | refine Ent.andL ?_))) (hm.of (Ent.gnG Ent.refl)) (by omega)) (fun v'' own' N' hv => ?_)
  obtain ⟨rfl, rfl, rfl⟩ := hv
  refine vcMix_same (fun w hw => ⟨((by first | exact Ent.gnO (by repeat first | exact .here | apply Take.there) (fun w hw => Ob.sl_at hw) | exact Ent.gnO (by repeat first | exact .here | apply Take.there) (fun w hw => Ob.row_at hw)) : Ent _ (RowAt (some ⟨b5, 0, none⟩) (hdrIC h d' s' t' v'))) w hw, ((by first | exact Ent.gnO (by repeat first | exact .here | apply Take.there) (fun w hw => Ob.sl_at hw) | exact Ent.gnO (by repeat first | exact .here | apply Take.there) (fun w hw => Ob.row_at hw)) : Ent _ (RowAt (some ⟨b2, 0, none⟩) (hdrIC h d s t v))) w hw⟩) ?_
  repeat (refine vcIf_yes (by rfl) ?_)
  exact ⟨[], _, MT, .nil, fun _ _ _ => trivial, rfl, rfl, rfl⟩
end Go.Proofs.Ytlobimomeeppeaa
