/- Tags, sealing and opening. -/
import Derived.Test.YtnhkeghahiedfaaPrmF
namespace Go.Proofs.Ytnhkeghahiedfaa
open Go.Proofs
set_option maxRecDepth 10000

/-- Bytes of its own and an error's number. -/
def OwnBE (bs : List UInt8) (e : Int) (v : Value) (own : List Ob) (N : Mp) : Prop := ∃ A cap, v = .tuple #[.slice A bs.length cap, .int .i64 e] ∧ own = [.sl A cap 5 1 (Bs bs)] ∧ N = MT ∧ bs.length ≤ cap
theorem OwnBE_nil (e : Int) : OwnBE [] e (.tuple #[.slice none 0 0, .int .i64 e]) [.sl none 0 5 1 []] MT := ⟨none, 0, rfl, rfl, rfl, Nat.le_refl _⟩

theorem tagL_length (key nonce ad cipher : List UInt8) : (tagL key nonce ad cipher).length = 16 := dig_length _
theorem tag_spec (Ak An Aa Ac : Option Addr) (ck cn ca cc : Nat) (key nonce ad cipher : List UInt8) (G : Mp) (hk : Ent G (RowAt Ak (Bs key))) (hn : Ent G (RowAt An (Bs nonce))) (ha : Ent G (RowAt Aa (Bs ad))) (hc : Ent G (RowAt Ac (Bs cipher)))
    (h1 : key.length ≤ 1000000000) (h2 : nonce.length ≤ 1000000000) (h3 : ad.length ≤ 1000000000) (h4 : cipher.length ≤ 1000000000000) :
    Spec Try.prog 48 #[.slice Ak key.length ck, .slice An nonce.length cn, .slice Aa ad.length ca, .slice Ac cipher.length cc] [] G (Ret (.agg (Bs (tagL key nonce ad cipher)).toArray)) := by
  refine Spec.intro (args := [_, _, _, _]) wide Try.func48 rfl Try.call48 (by rfl) (by rfl) (fun w0 hw0 => ?_)
  intro bo b2
  refine vcCall_of .nil (short_spec Ak ck key _ (Ent.gnG hk) (by omega)) (fun v own' N' hv => ?_); obtain ⟨A1, c1, rfl, rfl, rfl, hc1⟩ := hv
  refine vcCall_of .nil (short_spec An cn nonce _ (Ent.gnG hn) (by omega)) (fun v own' N' hv => ?_); obtain ⟨A2, c2, rfl, rfl, rfl, hc2⟩ := hv
  refine vcCall_of .nil (word_spec ad.length _) (fun v own' N' hv => ?_); obtain ⟨A3, c3, rfl, rfl, rfl, hc3⟩ := hv
  intro bp
  have e : pieces [(some ⟨b2, 0, none⟩, 1, [2]), (A1, c1, txt key), (A2, c2, txt nonce), (A3, c3, word4 ad.length), (Aa, ca, ad), (Ac, cc, cipher)] = [2] ++ txt key ++ txt nonce ++ word4 ad.length ++ ad ++ cipher := by simp [pieces]
  have hel : ([2] ++ txt key ++ txt nonce ++ word4 ad.length ++ ad ++ cipher).length ≤ 2000000000000 := by simp [txt, word4]; omega
  refine vcCall_of .nil (e ▸ of_spec (some ⟨bp, 0, none⟩) 6 [(some ⟨b2, 0, none⟩, 1, [2]), (A1, c1, txt key), (A2, c2, txt nonce), (A3, c3, word4 ad.length), (Aa, ca, ad), (Ac, cc, cipher)] _ (Ent.gnO .here (fun w hw => Ob.sl_at hw)) (fun p hp => by
    simp only [List.mem_cons, List.not_mem_nil, or_false] at hp
    rcases hp with rfl | rfl | rfl | rfl | rfl | rfl
    · exact (Ent.gnO (.there (.there (.there (.there .here)))) (fun w hw => Ob.sl_at hw))
    · exact (Ent.gnO (.there (.there (.there .here))) (fun w hw => Ob.sl_at hw))
    · exact (Ent.gnO (.there (.there .here)) (fun w hw => Ob.sl_at hw))
    · exact (Ent.gnO (.there .here) (fun w hw => Ob.sl_at hw))
    · exact Ent.gnG ha
    · exact Ent.gnG hc) (by rw [e]; omega) (by simp)) (fun v own' N' hv => ?_); obtain ⟨rfl, rfl, rfl⟩ := hv
  have htl : (Bs (tagL key nonce ad cipher)).length = 16 := by rw [Bs_length, tagL_length]
  refine ⟨htl, vcStoreN_row _ (.there (.there (.there (.there (.there .here))))) htl (Bs_one _) ?_⟩
  refine vcLoadN_0 (Ent.gnO .here (fun w hw => Ob.row_at hw)) htl ?_
  exact ⟨[], _, MT, .nil, fun _ _ _ => trivial, rfl, rfl, rfl⟩
theorem sealL_big {key nonce ad plain : List UInt8} (h : 255 < key.length ∨ 255 < nonce.length) : sealL key nonce ad plain = ([], 70) := if_pos h
theorem sealL_huge {key nonce ad plain : List UInt8} (h : ¬ (255 < key.length ∨ 255 < nonce.length)) (h' : 16384 < ad.length ∨ 16384 < plain.length) : sealL key nonce ad plain = ([], 52) := by unfold sealL; rw [if_neg h, if_pos h']
theorem sealL_ok {key nonce ad plain : List UInt8} (h : ¬ (255 < key.length ∨ 255 < nonce.length)) (h' : ¬ (16384 < ad.length ∨ 16384 < plain.length)) :
    sealL key nonce ad plain = (turnL key nonce plain ++ tagL key nonce ad (turnL key nonce plain), 0) := by unfold sealL; rw [if_neg h, if_neg h']
theorem retE {s : List UInt8 × Int} {bs : List UInt8} {e : Int} (h : s = (bs, e)) {v : Value} {own : List Ob} {N : Mp} (k : OwnBE bs e v own N) : OwnBE s.1 s.2 v own N := by subst h; exact k

theorem seal_spec (Ak An Aa Ap : Option Addr) (ck cn ca cp : Nat) (key nonce ad plain : List UInt8) (G : Mp) (hk : Ent G (RowAt Ak (Bs key))) (hn : Ent G (RowAt An (Bs nonce))) (ha : Ent G (RowAt Aa (Bs ad))) (hp : Ent G (RowAt Ap (Bs plain))) :
    Spec Try.prog 32 #[.slice Ak key.length ck, .slice An nonce.length cn, .slice Aa ad.length ca, .slice Ap plain.length cp] [] G (OwnBE (sealL key nonce ad plain).1 (sealL key nonce ad plain).2) := by
  refine Spec.intro (args := [_, _, _, _]) wide Try.func32 rfl Try.call32 (by rfl) (by rfl) (fun w0 hw0 => ?_)
  refine vcCall_of .nil (long_spec Ak ck key.length _) (fun v own' N' hv => ?_); obtain ⟨rfl, rfl, rfl⟩ := hv
  refine vcIf_dec (fun h1 => ?_) (fun h1 => ?_)
  · exact ⟨_, [], MT, .cons .none_ .nil, fun _ _ _ => trivial, retE (sealL_big (.inl h1)) (OwnBE_nil 70)⟩
  refine vcCall_of .nil (long_spec An cn nonce.length _) (fun v own' N' hv => ?_); obtain ⟨rfl, rfl, rfl⟩ := hv
  refine vcIf_dec (fun h2 => ?_) (fun h2 => ?_)
  · exact ⟨_, [], MT, .cons .none_ .nil, fun _ _ _ => trivial, retE (sealL_big (.inr h2)) (OwnBE_nil 70)⟩
  refine vcIf_dec (fun h3 => ?_) (fun h3 => ?_)
  · exact ⟨_, [], MT, .cons .none_ .nil, fun _ _ _ => trivial, retE (sealL_huge (by omega) (.inl (by omega))) (OwnBE_nil 52)⟩
  refine vcIf_dec (fun h4 => ?_) (fun h4 => ?_)
  · exact ⟨_, [], MT, .cons .none_ .nil, fun _ _ _ => trivial, retE (sealL_huge (by omega) (.inr (by omega))) (OwnBE_nil 52)⟩
  rw [sealL_ok (by omega) (by omega)]
  have htl := turnL_length key nonce plain
  refine vcCall_of .nil (turn_spec Ak An Ap ck cn cp key nonce plain _ (Ent.gnG hk) (Ent.gnG hn) (Ent.gnG hp) (by omega) (by omega) (by omega)) (fun v own' N' hv => ?_); obtain ⟨A1, c1, rfl, rfl, rfl, hc1⟩ := hv
  refine vcCall_of .nil (tag_spec Ak An Aa A1 ck cn ca c1 key nonce ad (turnL key nonce plain) _ (Ent.gnG hk) (Ent.gnG hn) (Ent.gnG ha) (Ent.gnO .here (fun w hw => Ob.sl_at hw)) (by omega) (by omega) (by omega) (by omega)) (fun v own' N' hv => ?_); obtain ⟨rfl, rfl, rfl⟩ := hv
  intro bt
  have ht := tagL_length key nonce ad (turnL key nonce plain)
  generalize tagL key nonce ad (turnL key nonce plain) = t at ht ⊢
  generalize turnL key nonce plain = c at htl hc1 ⊢
  have htl' : (Bs t).length = 16 := by rw [Bs_length, ht]
  refine ⟨htl', vcStoreN_row _ .here htl' (Bs_one _) ?_⟩
  refine vcRange_of (by omega) ?_
  refine vcApp_of (Bs c) _ (Bs t) (.there .here) (by rw [Bs_length, Nat.mul_one]) htl' (by omega) (Bs_one _) (Ent.gnO .here (fun w hw => Ob.row_at hw)) (by show (c.length + 16) * 1 ≤ _; omega) (by show c.length + 16 ≤ _; omega) (fun A2 c2 hc2 => ?_)
  refine ⟨_, [.row bt 82 (Bs t) 16], MT, .cons .here .nil, fun _ _ _ => trivial, A2, c2, ?_, ?_, rfl, ?_⟩
  · rw [List.length_append, ht]; rfl
  · rw [Bs_append]
  · rw [List.length_append, ht]; exact hc2

end Go.Proofs.Ytnhkeghahiedfaa
