/- Opening. -/
import Derived.Test.YtnhkeghahiedfaaPrmG
namespace Go.Proofs.Ytnhkeghahiedfaa
open Go.Proofs
set_option maxRecDepth 10000

theorem openL_big {key nonce ad s : List UInt8} (h : 255 < key.length ∨ 255 < nonce.length) : openL key nonce ad s = ([], 70) := if_pos h
theorem openL_huge {key nonce ad s : List UInt8} (h : ¬ (255 < key.length ∨ 255 < nonce.length)) (h' : 16384 < ad.length ∨ 16400 < s.length) : openL key nonce ad s = ([], 52) := by unfold openL; rw [if_neg h, if_pos h']
theorem openL_short {key nonce ad s : List UInt8} (h : ¬ (255 < key.length ∨ 255 < nonce.length)) (h' : ¬ (16384 < ad.length ∨ 16400 < s.length)) (h2 : s.length < 16) : openL key nonce ad s = ([], 12) := by unfold openL; rw [if_neg h, if_neg h', if_pos h2]
theorem openL_tag {key nonce ad c t : List UInt8} (ht : t.length = 16) (h : ¬ (255 < key.length ∨ 255 < nonce.length)) (h' : ¬ (16384 < ad.length ∨ 16384 < c.length)) (h2 : tagL key nonce ad c ≠ t) : openL key nonce ad (c ++ t) = ([], 71) := by
  unfold openL; rw [if_neg h, List.length_append, ht, if_neg (by omega), if_neg (by omega), Nat.add_sub_cancel, List.take_left, List.drop_left, if_neg h2]
theorem openL_ok {key nonce ad c t : List UInt8} (ht : t.length = 16) (h : ¬ (255 < key.length ∨ 255 < nonce.length)) (h' : ¬ (16384 < ad.length ∨ 16384 < c.length)) (h2 : tagL key nonce ad c = t) : openL key nonce ad (c ++ t) = (turnL key nonce c, 0) := by
  unfold openL; rw [if_neg h, List.length_append, ht, if_neg (by omega), if_neg (by omega), Nat.add_sub_cancel, List.take_left, List.drop_left, if_pos h2]

theorem open_spec (Ak An Aa As : Option Addr) (ck cn ca cs : Nat) (key nonce ad s : List UInt8) (G : Mp) (hk : Ent G (RowAt Ak (Bs key))) (hn : Ent G (RowAt An (Bs nonce))) (ha : Ent G (RowAt Aa (Bs ad))) (hs : Ent G (RowAt As (Bs s))) (hcs : s.length ≤ cs) :
    Spec Try.prog 34 #[.slice Ak key.length ck, .slice An nonce.length cn, .slice Aa ad.length ca, .slice As s.length cs] [] G (OwnBE (openL key nonce ad s).1 (openL key nonce ad s).2) := by
  refine Spec.intro (args := [_, _, _, _]) wide Try.func34 rfl Try.call34 (by rfl) (by rfl) (fun w0 hw0 => ?_)
  refine vcCall_of .nil (long_spec Ak ck key.length _) (fun v own' N' hv => ?_); obtain ⟨rfl, rfl, rfl⟩ := hv
  refine vcIf_dec (fun h1 => ?_) (fun h1 => ?_)
  · exact ⟨_, [], MT, .cons .none_ .nil, fun _ _ _ => trivial, retE (openL_big (.inl h1)) (OwnBE_nil 70)⟩
  refine vcCall_of .nil (long_spec An cn nonce.length _) (fun v own' N' hv => ?_); obtain ⟨rfl, rfl, rfl⟩ := hv
  refine vcIf_dec (fun h2 => ?_) (fun h2 => ?_)
  · exact ⟨_, [], MT, .cons .none_ .nil, fun _ _ _ => trivial, retE (openL_big (.inr h2)) (OwnBE_nil 70)⟩
  refine vcIf_dec (fun h3 => ?_) (fun h3 => ?_)
  · exact ⟨_, [], MT, .cons .none_ .nil, fun _ _ _ => trivial, retE (openL_huge (by omega) (.inl (by omega))) (OwnBE_nil 52)⟩
  refine vcIf_dec (fun h4 => ?_) (fun h4 => ?_)
  · exact ⟨_, [], MT, .cons .none_ .nil, fun _ _ _ => trivial, retE (openL_huge (by omega) (.inr (by omega))) (OwnBE_nil 52)⟩
  refine vcIf_dec (fun h5 => ?_) (fun h5 => ?_)
  · exact ⟨_, [], MT, .cons .none_ .nil, fun _ _ _ => trivial, retE (openL_short (by omega) (by omega) (by omega)) (OwnBE_nil 12)⟩
  obtain ⟨c, t, rfl, ht⟩ : ∃ c t, s = c ++ t ∧ t.length = 16 := ⟨s.take (s.length - 16), s.drop (s.length - 16), (List.take_append_drop _ _).symm, by rw [List.length_drop]; omega⟩
  have hl : (c ++ t).length = c.length + 16 := by rw [List.length_append, ht]
  rw [hl] at hcs h4 h5 ⊢
  refine vcFit_i64 (by omega) ?_
  refine vcSlice3_as 0 c.length cs rfl (by omega) (by omega) (by omega) (by omega) (fun A1 hA1 => ?_)
  have hc : Ent G (RowAt A1 (Bs c)) := hs.mono fun w hw => hw.bytes hA1 (by rw [hl]; omega) (by simp)
  refine vcDraw_mix [0, 1, 2, 3, 5, 6, 7, 8, 9, 10, 4, 11] (GN _ _ _) (by kernel_rfl) Ent.refl ?_
  refine vcSlice3_as c.length 16 (cs - c.length) rfl (by omega) (by omega) (by omega) (by omega) (fun A2 hA2 => ?_)
  have hrt : Ent G (RowAt A2 (Bs t)) := hs.mono fun w hw => hw.bytes hA2 (by rw [hl]; omega) (by simp)
  have htl : (Bs t).length = 16 := by rw [Bs_length, ht]
  refine ⟨by omega, vcPtr_row (Ent.gnG hrt) (by omega) (fun a ha => ?_)⟩
  subst ha
  refine vcLoadN_0 (Ent.gnG hrt) htl ?_
  refine vcCall_of .nil (tag_spec Ak An Aa A1 ck cn ca cs key nonce ad c _ (Ent.gnG hk) (Ent.gnG hn) (Ent.gnG ha) (Ent.gnG hc) (by omega) (by omega) (by omega) (by omega)) (fun v own' N' hv => ?_); obtain ⟨rfl, rfl, rfl⟩ := hv
  refine vcMix_same (fun w hw => ⟨⟨hw.1.1, hw.1.2.1⟩, hw.2⟩) ?_
  have hgl := tagL_length key nonce ad c
  refine vcEqA_of (List.replicate 16 (.i .u8)) (by kernel_rfl) (by have := fitsL_bytes (tagL key nonce ad c); rw [hgl] at this; exact this) (by have := fitsL_bytes t; rw [ht] at this; exact this) (tagL key nonce ad c = t) Bs_inj ?_
  refine vcIf_ndec (fun h6 => ?_) (fun h6 => ?_)
  · exact ⟨_, [], MT, .cons .none_ .nil, fun _ _ _ => trivial, retE (openL_tag ht (by omega) (by omega) h6) (OwnBE_nil 71)⟩
  · rw [openL_ok ht (by omega) (by omega) h6]
    have htn := turnL_length key nonce c
    refine vcCall_of .nil (turn_spec Ak An A1 ck cn cs key nonce c _ (Ent.gnG hk) (Ent.gnG hn) (Ent.gnG hc) (by omega) (by omega) (by omega)) (fun v own' N' hv => ?_); obtain ⟨A3, c3, rfl, rfl, rfl, hc3⟩ := hv
    exact ⟨_, _, MT, .cons .here .nil, fun _ _ _ => trivial, A3, c3, rfl, rfl, rfl, hc3⟩

end Go.Proofs.Ytnhkeghahiedfaa
