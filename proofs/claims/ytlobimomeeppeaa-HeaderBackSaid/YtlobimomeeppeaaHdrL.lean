/- Headers: HeaderNumbers, HeaderParses. -/
import Derived.Test.YtlobimomeeppeaaHdrK
namespace Go.Proofs.Ytlobimomeeppeaa
open Go.Proofs
set_option maxRecDepth 10000

theorem HdrM.of {h : HdrL} {d s t v : Pl} {M N : Mp} (hm : HdrM h d s t v N) (hM : Ent M N) : HdrM h d s t v M :=
  ⟨fun w hw => hm.dst w (hM w hw), fun w hw => hm.src w (hM w hw), fun w hw => hm.tok w (hM w hw), fun w hw => hm.vers w (hM w hw), hm.cd, hm.cs, hm.ct, hm.cv⟩

theorem numbers_spec (a b width : Int) (ha : a ≤ 9223372036854775807) (hb : b ≤ 9223372036854775807) (G : Mp) : Spec Try.prog 4 #[.int .i64 a, .int .i64 b, .int .i64 width] [] G (Ret (.bool true)) := by
  refine Spec.intro (args := [_, _, _]) wide Try.func4 rfl Try.call4 (by rfl) (by rfl) (fun w0 hw0 => ?_)
  refine vcCall_of .nil (hawake_spec _) (fun v own' N' hv => ?_)
  obtain ⟨rfl, rfl, rfl⟩ := hv
  refine vcCall_of .nil (width_spec a b ha hb _) (fun v own' N' hv => ?_); obtain ⟨rfl, rfl, rfl⟩ := hv
  refine vcCall_of .nil (rwidth_spec a b ha hb _) (fun v own' N' hv => ?_); obtain ⟨rfl, rfl, rfl⟩ := hv
  refine vcIf_yes rfl ?_
  repeat (refine vcIf_yes (by rfl) ?_)
  refine vcCall_of .nil (hexpand_spec a b width ha hb _) (fun v own' N' hv => ?_); obtain ⟨rfl, rfl, rfl⟩ := hv
  repeat (refine vcIf_yes (by rfl) ?_)
  refine vcCall_of .nil (refx_spec a b width ha hb _) (fun v own' N' hv => ?_); obtain ⟨rfl, rfl, rfl⟩ := hv
  repeat (refine vcIf_yes (by rfl) ?_)
  exact ⟨[], _, MT, .nil, fun _ _ _ => trivial, by simp; rfl, rfl, rfl⟩

theorem restP_lens {bs : List UInt8} {x : UInt8} {v : Nat} {d s : List UInt8} {p : Nat} {h : HdrL} {q : Nat} (hr : restP bs x v d s p = .ok (h, q)) : h.tok.length ≤ bs.length ∧ h.vers.length ≤ bs.length ∧ h.dst = d ∧ h.src = s := by
  unfold restP at hr
  split at hr
  · split at hr
    · cases hr
    · cases hr
      refine ⟨Nat.zero_le _, ?_, rfl, rfl⟩
      simp only [versL, List.length_map, List.length_range]
      omega
  · split at hr
    · split at hr
      · cases hr
      · cases hk : kindP bs x p with
        | error e => rw [hk] at hr; cases hr
        | ok r =>
          obtain ⟨tok, l, q'⟩ := r
          rw [hk] at hr
          cases hr
          refine ⟨?_, Nat.zero_le _, rfl, rfl⟩
          show tok.length ≤ bs.length
          unfold kindP at hk
          split at hk
          · split at hk
            · cases hk
            · cases hk; rw [List.length_take, List.length_drop]; omega
          · cases ht : tokP bs x p with
            | error e => rw [ht] at hk; cases hk
            | ok r =>
              obtain ⟨tk, q2⟩ := r
              rw [ht] at hk
              simp only [lenP] at hk
              split at hk
              · cases hk
              · split at hk
                · cases hk
                · cases hk
                  unfold tokP at ht
                  split at ht
                  · split at ht
                    · cases ht
                    · obtain ⟨_, h2, h3, h4⟩ := takeP_ok ht; omega
                  · cases ht; exact Nat.zero_le _
    · cases hr; exact ⟨Nat.zero_le _, Nat.zero_le _, rfl, rfl⟩
theorem cidP_len {bs xs : List UInt8} {p q : Nat} (h : cidP bs p = .ok (xs, q)) : xs.length ≤ 20 ∧ q ≤ bs.length := by
  unfold cidP at h
  split at h
  · cases h
  · split at h
    · cases h
    · obtain ⟨_, h2, h3, h4⟩ := takeP_ok h; omega
theorem parseT_lens (bs : List UInt8) (cid : Int) : (parseT bs cid).1.dst.length ≤ 20 ∧ (parseT bs cid).1.src.length ≤ 20 ∧ (parseT bs cid).1.tok.length ≤ bs.length ∧ (parseT bs cid).1.vers.length ≤ bs.length := by
  have h0 : hdr0.dst.length ≤ 20 ∧ hdr0.src.length ≤ 20 ∧ hdr0.tok.length ≤ bs.length ∧ hdr0.vers.length ≤ bs.length := ⟨Nat.zero_le _, Nat.zero_le _, Nat.zero_le _, Nat.zero_le _⟩
  unfold parseT parseL
  split
  · exact h0
  · rename_i h a en hp
    split at hp
    · cases hp
    · unfold parseP at hp
      split at hp
      · cases hp
      · split at hp
        · unfold shortP at hp
          split at hp
          · cases hp
          · split at hp
            · cases hp
            · rename_i hd
              cases hp
              obtain ⟨_, h2, h3, h4⟩ := takeP_ok hd
              refine ⟨?_, Nat.zero_le _, Nat.zero_le _, Nat.zero_le _⟩
              simp only
              omega
        · unfold longP at hp
          split at hp
          · cases hp
          · split at hp
            · cases hp
            · rename_i hd
              split at hp
              · cases hp
              · rename_i hs
                split at hp
                · cases hp
                · rename_i r hr
                  cases hp
                  obtain ⟨h1, h2, h3, h4⟩ := restP_lens hr
                  have hd2 := (cidP_len hd).1
                  have hs2 := (cidP_len hs).1
                  rw [h3, h4]
                  exact ⟨hd2, hs2, h1, h2⟩

set_option maxHeartbeats 1000000 in
theorem parses_spec (A : Option Addr) (c : Nat) (bs : List UInt8) (cid : Int) (G : Mp) (h1 : Ent G (RowAt A (Bs bs))) (hc : bs.length ≤ c) (hm : bs.length ≤ 70368744177664) : Spec Try.prog 3 #[.slice A bs.length c, .int .i64 cid] [] G (Ret (.bool true)) := by
  refine Spec.intro (args := [_, _]) wide Try.func3 rfl Try.call3 (by rfl) (by rfl) (fun w0 hw0 => ?_)
  refine vcCall_of .nil (copy_spec A c bs _ (Ent.gnG h1) (by omega)) (fun v own' N' hv => ?_)
  obtain ⟨A1, c1, rfl, rfl, rfl, hc1⟩ := hv
  refine vcCall_of .nil (parse_spec A1 c1 bs cid _ (by first | exact Ent.gnO (by repeat first | exact .here | apply Take.there) (fun w hw => Ob.sl_at hw) | exact Ent.gnO (by repeat first | exact .here | apply Take.there) (fun w hw => Ob.row_at hw)) (by omega) (.inl hm)) (fun v own' N' hv => ?_)
  obtain ⟨d, s, t, vs, rfl, rfl, hm1⟩ := hv
  intro b6
  refine ⟨rfl, vcStoreN_row _ (by first | ((repeat (first | exact .here | apply Take.there)); done) | exact .none_) (by rfl) (by simp [oneCell, cellsL, hdrOf, hdrC]) ?_⟩
  refine vcCall_of .nil (rparse_spec A c bs cid _ (Ent.gnG h1) hc hm) (fun v own' N2 hv => ?_)
  obtain ⟨d2, s2, t2, vs2, rfl, rfl, hm2⟩ := hv
  intro b10
  refine ⟨rfl, vcStoreN_row _ (by first | ((repeat (first | exact .here | apply Take.there)); done) | exact .none_) (by rfl) (by simp [oneCell, cellsL, hdrOf, hdrC]) ?_⟩
  have hb := parseT_lens bs cid
  generalize parseT bs cid = r at hm1 hm2 hb
  obtain ⟨h, at_, en, e⟩ := r
  simp only at hm1 hm2 hb
  refine vcDraw_mix [0,1,2,4,3,5,6,7,8,9,10,11,12,13,14,15,16,17,18,19,20,21,22,23,24,25,26,27] (fun w => RowAt (some ⟨b6, 0, none⟩) (hdrOf h d s t vs) w ∧ RowAt (some ⟨b10, 0, none⟩) (hdrOf h d2 s2 t2 vs2) w) (by kernel_rfl) (fun w hw => ⟨((by first | exact Ent.gnO (by repeat first | exact .here | apply Take.there) (fun w hw => Ob.sl_at hw) | exact Ent.gnO (by repeat first | exact .here | apply Take.there) (fun w hw => Ob.row_at hw)) : Ent _ (RowAt (some ⟨b6, 0, none⟩) (hdrOf h d s t vs))) w hw, ((by first | exact Ent.gnO (by repeat first | exact .here | apply Take.there) (fun w hw => Ob.sl_at hw) | exact Ent.gnO (by repeat first | exact .here | apply Take.there) (fun w hw => Ob.row_at hw)) : Ent _ (RowAt (some ⟨b10, 0, none⟩) (hdrOf h d2 s2 t2 vs2))) w hw⟩) ?_
  refine vcCall_of .nil (hawake_spec _) (fun v own' N' hv => ?_)
  obtain ⟨rfl, rfl, rfl⟩ := hv
  refine vcMix_same (fun w hw => ⟨((by first | exact Ent.gnO (by repeat first | exact .here | apply Take.there) (fun w hw => Ob.sl_at hw) | exact Ent.gnO (by repeat first | exact .here | apply Take.there) (fun w hw => Ob.row_at hw)) : Ent _ (RowAt (some ⟨b6, 0, none⟩) (hdrOf h d s t vs))) w hw, ((by first | exact Ent.gnO (by repeat first | exact .here | apply Take.there) (fun w hw => Ob.sl_at hw) | exact Ent.gnO (by repeat first | exact .here | apply Take.there) (fun w hw => Ob.row_at hw)) : Ent _ (RowAt (some ⟨b10, 0, none⟩) (hdrOf h d2 s2 t2 vs2))) w hw⟩) ?_
  refine vcLoadN_0 (xs := (hdrOf h d s t vs)) (fun w hw => hw.1) rfl ?_
  refine vcLoadN_0 (xs := (hdrOf h d2 s2 t2 vs2)) (fun w hw => hw.2) rfl ?_
  refine vcCall_of .nil (of_spec h d s t vs _) (fun v own' N' hv => ?_)
  obtain ⟨rfl, rfl, rfl⟩ := hv
  refine vcMix_same (fun w hw => ⟨((by first | exact Ent.gnO (by repeat first | exact .here | apply Take.there) (fun w hw => Ob.sl_at hw) | exact Ent.gnO (by repeat first | exact .here | apply Take.there) (fun w hw => Ob.row_at hw)) : Ent _ (RowAt (some ⟨b6, 0, none⟩) (hdrOf h d s t vs))) w hw, ((by first | exact Ent.gnO (by repeat first | exact .here | apply Take.there) (fun w hw => Ob.sl_at hw) | exact Ent.gnO (by repeat first | exact .here | apply Take.there) (fun w hw => Ob.row_at hw)) : Ent _ (RowAt (some ⟨b10, 0, none⟩) (hdrOf h d2 s2 t2 vs2))) w hw⟩) ?_
  refine vcCall_of .nil (same06_spec h d s t vs d2 s2 t2 vs2 _ (hm1.of (Ent.gnN (by repeat first | exact Ent.refl | exact Ent.andR Ent.refl | refine Ent.andL ?_))) (hm2.of (Ent.gnN (by repeat first | exact Ent.refl | exact Ent.andR Ent.refl | refine Ent.andL ?_))) (by omega)) (fun v own' N' hv => ?_)
  obtain ⟨rfl, rfl, rfl⟩ := hv
  refine vcMix_same (fun w hw => ⟨((by first | exact Ent.gnO (by repeat first | exact .here | apply Take.there) (fun w hw => Ob.sl_at hw) | exact Ent.gnO (by repeat first | exact .here | apply Take.there) (fun w hw => Ob.row_at hw)) : Ent _ (RowAt (some ⟨b6, 0, none⟩) (hdrOf h d s t vs))) w hw, ((by first | exact Ent.gnO (by repeat first | exact .here | apply Take.there) (fun w hw => Ob.sl_at hw) | exact Ent.gnO (by repeat first | exact .here | apply Take.there) (fun w hw => Ob.row_at hw)) : Ent _ (RowAt (some ⟨b10, 0, none⟩) (hdrOf h d2 s2 t2 vs2))) w hw⟩) ?_
  repeat (refine vcIf_yes (by rfl) ?_)
  repeat (first | refine vcIf_yes (by rfl) ?_ | refine vcIf_yes (rfl : (_ : Int) = _) ?_)
  refine vcCall_of .nil (same_spec A1 A c1 c bs bs _ (by first | exact Ent.gnO (by repeat first | exact .here | apply Take.there) (fun w hw => Ob.sl_at hw) | exact Ent.gnO (by repeat first | exact .here | apply Take.there) (fun w hw => Ob.row_at hw)) (Ent.gnG h1) (by omega)) (fun v own' N' hv => ?_)
  rw [decide_eq_true (rfl : bs = bs)] at hv
  obtain ⟨rfl, rfl, rfl⟩ := hv
  refine vcMix_same (fun w hw => ⟨((by first | exact Ent.gnO (by repeat first | exact .here | apply Take.there) (fun w hw => Ob.sl_at hw) | exact Ent.gnO (by repeat first | exact .here | apply Take.there) (fun w hw => Ob.row_at hw)) : Ent _ (RowAt (some ⟨b6, 0, none⟩) (hdrOf h d s t vs))) w hw, ((by first | exact Ent.gnO (by repeat first | exact .here | apply Take.there) (fun w hw => Ob.sl_at hw) | exact Ent.gnO (by repeat first | exact .here | apply Take.there) (fun w hw => Ob.row_at hw)) : Ent _ (RowAt (some ⟨b10, 0, none⟩) (hdrOf h d2 s2 t2 vs2))) w hw⟩) ?_
  repeat (refine vcIf_yes (by rfl) ?_)
  exact ⟨[], _, MT, .nil, fun _ _ _ => trivial, rfl, rfl, rfl⟩
end Go.Proofs.Ytlobimomeeppeaa
