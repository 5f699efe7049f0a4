/- The first secrets; the law's helpers. -/
import Derived.Test.YtlaelknibcehdaaGrdN
namespace Go.Proofs.Ytlaelknibcehdaa
open Go.Proofs
set_option maxRecDepth 10000

def initB : List UInt8 := [116, 117, 114, 110, 112, 105, 107, 101, 32, 105, 110, 105, 116, 105, 97, 108]
def sIn (lab cid : List UInt8) : List UInt8 := (expandL (dig (initB ++ cid)) lab 16).1
def secretsL (cid : List UInt8) : List UInt8 × List UInt8 × Int := if 20 < cid.length then ([], [], 70) else (sIn [99, 108, 105, 101, 110, 116, 32, 105, 110] cid, sIn [115, 101, 114, 118, 101, 114, 32, 105, 110] cid, 0)
def Get2 (r : List UInt8 × List UInt8 × Int) (v : Value) (own : List Ob) (N : Mp) : Prop := ∃ A1 c1 A2 c2, v = .tuple #[.slice A1 r.1.length c1, .slice A2 r.2.1.length c2, .int .i64 r.2.2] ∧ own = [] ∧ Ent N (RowAt A1 (Bs r.1)) ∧ Ent N (RowAt A2 (Bs r.2.1))
def Own2 (r : List UInt8 × List UInt8 × Int) (v : Value) (own : List Ob) (N : Mp) : Prop := ∃ A1 c1 A2 c2, v = .tuple #[.slice A1 r.1.length c1, .slice A2 r.2.1.length c2, .int .i64 r.2.2] ∧ own = [.sl A1 c1 5 1 (Bs r.1), .sl A2 c2 5 1 (Bs r.2.1)] ∧ N = MT

theorem secrets_spec (Ac : Option Addr) (cc : Nat) (cid : List UInt8) (G : Mp) (hc : Ent G (RowAt Ac (Bs cid))) : Spec Try.prog 19 #[.slice Ac cid.length cc] [] G (Get2 (secretsL cid)) := by
  refine Spec.intro (args := [_]) wide Try.func19 rfl Try.call19 (by rfl) (by rfl) (fun w0 hw0 => ?_)
  refine vcIf_dec (fun h1 => ?_) (fun h1 => ?_)
  · rw [show secretsL cid = ([], [], 70) from if_pos (by omega)]
    exact ⟨[], _, MT, .nil, fun _ _ _ => trivial, none, 0, none, 0, rfl, rfl, fun _ _ => RowAt.nil, fun _ _ => RowAt.nil⟩
  rw [show secretsL cid = (sIn [99, 108, 105, 101, 110, 116, 32, 105, 110] cid, sIn [115, 101, 114, 118, 101, 114, 32, 105, 110] cid, 0) from if_neg (by omega)]
  intro b
  refine vcMark_of .here ?_
  refine vcApp_of (Bs initB) _ (Bs cid) .here rfl (by rw [Bs_length, Nat.mul_one]) (by omega) (Bs_one _) (Ent.gnG hc) (by omega) (by omega) (fun A1 c1 hc1 => ?_)
  rw [← Bs_append]
  have hil : (initB ++ cid).length = 16 + cid.length := by rw [List.length_append]; rfl
  rw [show 16 + cid.length = (initB ++ cid).length from hil.symm]
  refine vcCall_of .nil (pdig_spec A1 c1 (initB ++ cid) _ (Ent.gnO .here (fun w hw => Ob.sl_at hw)) (by omega)) (fun v own' N' hv => ?_); obtain ⟨rfl, rfl, rfl⟩ := hv
  intro bd
  have hdl : (Bs (dig (initB ++ cid))).length = 16 := by rw [Bs_length, dig_length]
  refine ⟨hdl, vcStoreN_row _ .here hdl (Bs_one _) ?_⟩
  have he : ∀ (lab : ByteArray) (G' : Mp) (_ : Ent G' (RowAt (some ⟨bd, 0, none⟩) (Bs (dig (initB ++ cid))))), Spec Try.prog 50 #[.slice (some ⟨bd, 0, none⟩) 16 16, .string lab, .int .i64 16] [] G' (GetBE (expandL (dig (initB ++ cid)) lab.data.toList 16).1 (expandL (dig (initB ++ cid)) lab.data.toList 16).2) := fun lab G' h => by
    have := expand_spec (some ⟨bd, 0, none⟩) 16 (dig (initB ++ cid)) lab 16 G' h
    rw [dig_length] at this
    exact this
  refine vcRange_of (by omega) ?_
  refine vcCall_of .nil (he _ _ (Ent.gnO .here (fun w hw => Ob.row_at hw))) (fun v own' N1 hv => ?_)
  obtain ⟨A2, c2, rfl, rfl, hr2, hc2⟩ := hv
  rw [show (expandL (dig (initB ++ cid)) (ByteArray.mk #[99, 108, 105, 101, 110, 116, 32, 105, 110]).data.toList 16).1 = sIn [99, 108, 105, 101, 110, 116, 32, 105, 110] cid from rfl] at hr2 hc2 ⊢
  refine vcRange_of (by omega) ?_
  refine vcCall_of .nil (he _ _ (Ent.gnO .here (fun w hw => Ob.row_at hw))) (fun v own' N2 hv => ?_)
  obtain ⟨A3, c3, rfl, rfl, hr3, hc3⟩ := hv
  rw [show (expandL (dig (initB ++ cid)) (ByteArray.mk #[115, 101, 114, 118, 101, 114, 32, 105, 110]).data.toList 16).1 = sIn [115, 101, 114, 118, 101, 114, 32, 105, 110] cid from rfl] at hr3 hc3 ⊢
  exact ⟨[], _, _, .nil, fun _ h _ => h, A2, c2, A3, c3, rfl, rfl, Ent.andL (Ent.andR hr2), Ent.andR hr3⟩

theorem rsecrets_spec (Ac : Option Addr) (cc : Nat) (cid : List UInt8) (G : Mp) (hc : Ent G (RowAt Ac (Bs cid))) (hcl : cid.length ≤ 281474976710656) : Spec Try.prog 20 #[.slice Ac cid.length cc] [] G (Own2 (secretsL cid)) := by
  refine Spec.intro (args := [_]) wide Try.func20 rfl Try.call20 (by rfl) (by rfl) (fun w0 hw0 => ?_)
  refine vcIf_dec (fun h1 => ?_) (fun h1 => ?_)
  · rw [show secretsL cid = ([], [], 70) from if_pos (by omega)]
    exact ⟨_, _, MT, .cons .none_ (.cons .none_ .nil), fun _ _ _ => trivial, none, 0, none, 0, rfl, rfl, rfl⟩
  rw [show secretsL cid = (sIn [99, 108, 105, 101, 110, 116, 32, 105, 110] cid, sIn [115, 101, 114, 118, 101, 114, 32, 105, 110] cid, 0) from if_neg (by omega)]
  intro b
  refine vcMark_of .here ?_
  intro bp
  have hil : (initB ++ cid).length = 16 + cid.length := by rw [List.length_append]; rfl
  have e1 : pieces [(some ⟨b, 0, none⟩, 16, initB), (Ac, cc, cid)] = initB ++ cid := by simp [pieces]
  refine vcCall_of .nil (e1 ▸ join_spec (some ⟨bp, 0, none⟩) 2 [(some ⟨b, 0, none⟩, 16, initB), (Ac, cc, cid)] _ (Ent.gnO .here (fun w hw => Ob.sl_at hw)) (fun p hp => by
    simp only [List.mem_cons, List.not_mem_nil, or_false] at hp
    rcases hp with rfl | rfl
    · exact (Ent.gnO (.there .here) (fun w hw => Ob.sl_at hw))
    · exact Ent.gnG hc) (by rw [e1]; omega) (by simp)) (fun v own' N' hv => ?_); obtain ⟨A1, c1, rfl, rfl, rfl, hc1⟩ := hv
  refine vcCall_of .nil (rdig_spec A1 c1 (initB ++ cid) _ (Ent.gnO .here (fun w hw => Ob.sl_at hw)) (by omega)) (fun v own' N' hv => ?_); obtain ⟨A2, c2, rfl, rfl, rfl, hc2⟩ := hv
  refine vcCall_of .nil (rexpand_spec A2 c2 (dig (initB ++ cid)) _ 16 _ (Ent.gnO .here (fun w hw => Ob.sl_at hw))) (fun v own' N1 hv => ?_)
  obtain ⟨A3, c3, rfl, rfl, rfl, hc3⟩ := hv
  rw [show (expandL (dig (initB ++ cid)) (ByteArray.mk #[99, 108, 105, 101, 110, 116, 32, 105, 110]).data.toList 16).1 = sIn [99, 108, 105, 101, 110, 116, 32, 105, 110] cid from rfl] at hc3 ⊢
  refine vcCall_of .nil (rexpand_spec A2 c2 (dig (initB ++ cid)) _ 16 _ (Ent.gnO (.there .here) (fun w hw => Ob.sl_at hw))) (fun v own' N1 hv => ?_)
  obtain ⟨A4, c4, rfl, rfl, rfl, hc4⟩ := hv
  rw [show (expandL (dig (initB ++ cid)) (ByteArray.mk #[115, 101, 114, 118, 101, 114, 32, 105, 110]).data.toList 16).1 = sIn [115, 101, 114, 118, 101, 114, 32, 105, 110] cid from rfl] at hc4 ⊢
  exact ⟨_, _, MT, .cons (by first | exact .here | exact (.there .here) | exact (.there (.there .here)) | exact (.there (.there (.there .here))) | exact (.there (.there (.there (.there .here)))) | exact (.there (.there (.there (.there (.there .here))))) | exact (.there (.there (.there (.there (.there (.there .here)))))) | exact (.there (.there (.there (.there (.there (.there (.there .here))))))) | exact (.there (.there (.there (.there (.there (.there (.there (.there .here)))))))) | exact (.there (.there (.there (.there (.there (.there (.there (.there (.there .here))))))))) | exact (.there (.there (.there (.there (.there (.there (.there (.there (.there (.there .here)))))))))) | exact (.there (.there (.there (.there (.there (.there (.there (.there (.there (.there (.there .here))))))))))) | exact (.there (.there (.there (.there (.there (.there (.there (.there (.there (.there (.there (.there .here)))))))))))) | exact (.there (.there (.there (.there (.there (.there (.there (.there (.there (.there (.there (.there (.there .here))))))))))))) | exact (.there (.there (.there (.there (.there (.there (.there (.there (.there (.there (.there (.there (.there (.there .here)))))))))))))) | exact (.there (.there (.there (.there (.there (.there (.there (.there (.there (.there (.there (.there (.there (.there (.there .here))))))))))))))) | exact (.there (.there (.there (.there (.there (.there (.there (.there (.there (.there (.there (.there (.there (.there (.there (.there .here)))))))))))))))) | exact (.there (.there (.there (.there (.there (.there (.there (.there (.there (.there (.there (.there (.there (.there (.there (.there (.there .here))))))))))))))))) | exact .none_) (.cons (by first | exact .here | exact (.there .here) | exact (.there (.there .here)) | exact (.there (.there (.there .here))) | exact (.there (.there (.there (.there .here)))) | exact (.there (.there (.there (.there (.there .here))))) | exact (.there (.there (.there (.there (.there (.there .here)))))) | exact (.there (.there (.there (.there (.there (.there (.there .here))))))) | exact (.there (.there (.there (.there (.there (.there (.there (.there .here)))))))) | exact (.there (.there (.there (.there (.there (.there (.there (.there (.there .here))))))))) | exact (.there (.there (.there (.there (.there (.there (.there (.there (.there (.there .here)))))))))) | exact (.there (.there (.there (.there (.there (.there (.there (.there (.there (.there (.there .here))))))))))) | exact (.there (.there (.there (.there (.there (.there (.there (.there (.there (.there (.there (.there .here)))))))))))) | exact (.there (.there (.there (.there (.there (.there (.there (.there (.there (.there (.there (.there (.there .here))))))))))))) | exact (.there (.there (.there (.there (.there (.there (.there (.there (.there (.there (.there (.there (.there (.there .here)))))))))))))) | exact (.there (.there (.there (.there (.there (.there (.there (.there (.there (.there (.there (.there (.there (.there (.there .here))))))))))))))) | exact (.there (.there (.there (.there (.there (.there (.there (.there (.there (.there (.there (.there (.there (.there (.there (.there .here)))))))))))))))) | exact (.there (.there (.there (.there (.there (.there (.there (.there (.there (.there (.there (.there (.there (.there (.there (.there (.there .here))))))))))))))))) | exact .none_) .nil), fun _ _ _ => trivial, A3, c3, A4, c4, rfl, rfl, rfl⟩

theorem copied_spec (k i h : Piece) (G : Mp) (hk : Ent G (RowAt k.1 (Bs k.2.2))) (hi : Ent G (RowAt i.1 (Bs i.2.2))) (hh : Ent G (RowAt h.1 (Bs h.2.2))) (lk : k.2.2.length ≤ 281474976710656) (li : i.2.2.length ≤ 281474976710656) (lh : h.2.2.length ≤ 281474976710656) :
    Spec Try.prog 9 #[keysV k i h] [] G (fun v own N => ∃ A1 c1 A2 c2 A3 c3, v = keysV (A1, c1, k.2.2) (A2, c2, i.2.2) (A3, c3, h.2.2) ∧ own = [.sl A1 c1 5 1 (Bs k.2.2), .sl A2 c2 5 1 (Bs i.2.2), .sl A3 c3 5 1 (Bs h.2.2)] ∧ N = MT) := by
  refine Spec.intro (args := [_]) wide Try.func9 rfl Try.call9 (by rfl) (by rfl) (fun w0 hw0 => ?_)
  intro bx bo
  refine vcDraw_mix [0,1,3,4,6,7,2,5,8,9,10] (RowAt (some ⟨bx, 0, none⟩) (keysL k i h)) (by kernel_rfl) (Ent.gnO (.there .here) (fun w hw => Ob.row_at hw)) ?_
  refine vcLoad1_row (j := 0) (v := pieceV k) Ent.refl rfl ?_
  refine vcLoad1_row (j := 1) (v := pieceV i) Ent.refl rfl ?_
  refine vcLoad1_row (j := 2) (v := pieceV h) Ent.refl rfl ?_
  refine vcCall_of .nil (copy_spec k.1 k.2.1 k.2.2 _ (Ent.gnG hk) lk) (fun v own' N' hv => ?_); obtain ⟨A1, c1, rfl, rfl, rfl, hc1⟩ := hv
  refine vcMix_same (Ent.gnO (.there (.there .here)) (fun w hw => Ob.row_at hw)) ?_
  refine vcCall_of .nil (copy_spec i.1 i.2.1 i.2.2 _ (Ent.gnG hi) li) (fun v own' N' hv => ?_); obtain ⟨A2, c2, rfl, rfl, rfl, hc2⟩ := hv
  refine vcMix_same (Ent.gnO (.there (.there (.there .here))) (fun w hw => Ob.row_at hw)) ?_
  refine vcCall_of .nil (copy_spec h.1 h.2.1 h.2.2 _ (Ent.gnG hh) lh) (fun v own' N' hv => ?_); obtain ⟨A3, c3, rfl, rfl, rfl, hc3⟩ := hv
  refine vcMix_same (Ent.gnO (.there (.there (.there (.there .here)))) (fun w hw => Ob.row_at hw)) ?_
  refine ⟨rfl, vcStoreN_row _ (.there (.there (.there .here))) rfl (by simp [oneCell, cellsL]) ?_⟩
  refine vcMix_last (by kernel_rfl) ?_
  refine vcLoadN_0 (Ent.gnO .here (fun w hw => Ob.row_at hw)) rfl ?_
  exact ⟨_, _, MT, .cons (by first | exact .here | exact (.there .here) | exact (.there (.there .here)) | exact (.there (.there (.there .here))) | exact (.there (.there (.there (.there .here)))) | exact (.there (.there (.there (.there (.there .here))))) | exact (.there (.there (.there (.there (.there (.there .here)))))) | exact (.there (.there (.there (.there (.there (.there (.there .here))))))) | exact (.there (.there (.there (.there (.there (.there (.there (.there .here)))))))) | exact (.there (.there (.there (.there (.there (.there (.there (.there (.there .here))))))))) | exact (.there (.there (.there (.there (.there (.there (.there (.there (.there (.there .here)))))))))) | exact (.there (.there (.there (.there (.there (.there (.there (.there (.there (.there (.there .here))))))))))) | exact (.there (.there (.there (.there (.there (.there (.there (.there (.there (.there (.there (.there .here)))))))))))) | exact (.there (.there (.there (.there (.there (.there (.there (.there (.there (.there (.there (.there (.there .here))))))))))))) | exact (.there (.there (.there (.there (.there (.there (.there (.there (.there (.there (.there (.there (.there (.there .here)))))))))))))) | exact (.there (.there (.there (.there (.there (.there (.there (.there (.there (.there (.there (.there (.there (.there (.there .here))))))))))))))) | exact (.there (.there (.there (.there (.there (.there (.there (.there (.there (.there (.there (.there (.there (.there (.there (.there .here)))))))))))))))) | exact (.there (.there (.there (.there (.there (.there (.there (.there (.there (.there (.there (.there (.there (.there (.there (.there (.there .here))))))))))))))))) | exact .none_) (.cons (by first | exact .here | exact (.there .here) | exact (.there (.there .here)) | exact (.there (.there (.there .here))) | exact (.there (.there (.there (.there .here)))) | exact (.there (.there (.there (.there (.there .here))))) | exact (.there (.there (.there (.there (.there (.there .here)))))) | exact (.there (.there (.there (.there (.there (.there (.there .here))))))) | exact (.there (.there (.there (.there (.there (.there (.there (.there .here)))))))) | exact (.there (.there (.there (.there (.there (.there (.there (.there (.there .here))))))))) | exact (.there (.there (.there (.there (.there (.there (.there (.there (.there (.there .here)))))))))) | exact (.there (.there (.there (.there (.there (.there (.there (.there (.there (.there (.there .here))))))))))) | exact (.there (.there (.there (.there (.there (.there (.there (.there (.there (.there (.there (.there .here)))))))))))) | exact (.there (.there (.there (.there (.there (.there (.there (.there (.there (.there (.there (.there (.there .here))))))))))))) | exact (.there (.there (.there (.there (.there (.there (.there (.there (.there (.there (.there (.there (.there (.there .here)))))))))))))) | exact (.there (.there (.there (.there (.there (.there (.there (.there (.there (.there (.there (.there (.there (.there (.there .here))))))))))))))) | exact (.there (.there (.there (.there (.there (.there (.there (.there (.there (.there (.there (.there (.there (.there (.there (.there .here)))))))))))))))) | exact (.there (.there (.there (.there (.there (.there (.there (.there (.there (.there (.there (.there (.there (.there (.there (.there (.there .here))))))))))))))))) | exact .none_) (.cons (by first | exact .here | exact (.there .here) | exact (.there (.there .here)) | exact (.there (.there (.there .here))) | exact (.there (.there (.there (.there .here)))) | exact (.there (.there (.there (.there (.there .here))))) | exact (.there (.there (.there (.there (.there (.there .here)))))) | exact (.there (.there (.there (.there (.there (.there (.there .here))))))) | exact (.there (.there (.there (.there (.there (.there (.there (.there .here)))))))) | exact (.there (.there (.there (.there (.there (.there (.there (.there (.there .here))))))))) | exact (.there (.there (.there (.there (.there (.there (.there (.there (.there (.there .here)))))))))) | exact (.there (.there (.there (.there (.there (.there (.there (.there (.there (.there (.there .here))))))))))) | exact (.there (.there (.there (.there (.there (.there (.there (.there (.there (.there (.there (.there .here)))))))))))) | exact (.there (.there (.there (.there (.there (.there (.there (.there (.there (.there (.there (.there (.there .here))))))))))))) | exact (.there (.there (.there (.there (.there (.there (.there (.there (.there (.there (.there (.there (.there (.there .here)))))))))))))) | exact (.there (.there (.there (.there (.there (.there (.there (.there (.there (.there (.there (.there (.there (.there (.there .here))))))))))))))) | exact (.there (.there (.there (.there (.there (.there (.there (.there (.there (.there (.there (.there (.there (.there (.there (.there .here)))))))))))))))) | exact (.there (.there (.there (.there (.there (.there (.there (.there (.there (.there (.there (.there (.there (.there (.there (.there (.there .here))))))))))))))))) | exact .none_) .nil)), fun _ _ _ => trivial, A1, c1, A2, c2, A3, c3, rfl, rfl, rfl⟩
theorem ofk_spec (k i h : Piece) (G : Mp) : Spec Try.prog 13 #[keysV k i h] [] G (Ret (keysV k i h)) := by
  refine Spec.intro (args := [_]) wide Try.func13 rfl Try.call13 (by rfl) (by rfl) (fun w0 hw0 => ?_)
  intro bx bo
  refine vcLoad1_row (j := 0) (v := pieceV k) (Ent.gnO (.there .here) (fun w hw => Ob.row_at hw)) rfl ?_
  refine vcLoad1_row (j := 1) (v := pieceV i) (Ent.gnO (.there .here) (fun w hw => Ob.row_at hw)) rfl ?_
  refine vcLoad1_row (j := 2) (v := pieceV h) (Ent.gnO (.there .here) (fun w hw => Ob.row_at hw)) rfl ?_
  refine ⟨rfl, vcStoreN_row _ .here rfl (by simp [oneCell, cellsL]) ?_⟩
  refine vcLoadN_0 (Ent.gnO .here (fun w hw => Ob.row_at hw)) rfl ?_
  exact ⟨[], _, MT, .nil, fun _ _ _ => trivial, rfl, rfl, rfl⟩
theorem sameKeys_spec (k i h k' i' h' : Piece) (G : Mp) (hk : Ent G (RowAt k.1 (Bs k.2.2))) (hi : Ent G (RowAt i.1 (Bs i.2.2))) (hh : Ent G (RowAt h.1 (Bs h.2.2))) (hk' : Ent G (RowAt k'.1 (Bs k'.2.2))) (hi' : Ent G (RowAt i'.1 (Bs i'.2.2))) (hh' : Ent G (RowAt h'.1 (Bs h'.2.2)))
    (lk : k.2.2.length ≤ 281474976710656) (li : i.2.2.length ≤ 281474976710656) (lh : h.2.2.length ≤ 281474976710656) (e1 : k.2.2 = k'.2.2) (e2 : i.2.2 = i'.2.2) (e3 : h.2.2 = h'.2.2) :
    Spec Try.prog 16 #[keysV k i h, keysV k' i' h'] [] G (Ret (.bool true)) := by
  refine Spec.intro (args := [_, _]) wide Try.func16 rfl Try.call16 (by rfl) (by rfl) (fun w0 hw0 => ?_)
  intro bx bo
  refine vcLoad1_row (j := 0) (v := pieceV k) (Ent.gnO (.there .here) (fun w hw => Ob.row_at hw)) rfl ?_
  refine vcLoad1_row (j := 0) (v := pieceV k') (Ent.gnO .here (fun w hw => Ob.row_at hw)) rfl ?_
  refine vcCall_of .nil (same_spec k.1 k'.1 k.2.1 k'.2.1 k.2.2 k'.2.2 _ (Ent.gnG hk) (Ent.gnG hk') (by omega)) (fun v own' N' hv => ?_); obtain ⟨rfl, rfl, rfl⟩ := hv
  refine vcIf_yes e1 ?_
  refine vcLoad1_row (j := 1) (v := pieceV i) (Ent.gnO (.there .here) (fun w hw => Ob.row_at hw)) rfl ?_
  refine vcLoad1_row (j := 1) (v := pieceV i') (Ent.gnO .here (fun w hw => Ob.row_at hw)) rfl ?_
  refine vcCall_of .nil (same_spec i.1 i'.1 i.2.1 i'.2.1 i.2.2 i'.2.2 _ (Ent.gnG hi) (Ent.gnG hi') (by omega)) (fun v own' N' hv => ?_); obtain ⟨rfl, rfl, rfl⟩ := hv
  refine vcIf_yes e2 ?_
  refine vcLoad1_row (j := 2) (v := pieceV h) (Ent.gnO (.there .here) (fun w hw => Ob.row_at hw)) rfl ?_
  refine vcLoad1_row (j := 2) (v := pieceV h') (Ent.gnO .here (fun w hw => Ob.row_at hw)) rfl ?_
  refine vcCall_of .nil (same_spec h.1 h'.1 h.2.1 h'.2.1 h.2.2 h'.2.2 _ (Ent.gnG hh) (Ent.gnG hh') (by omega)) (fun v own' N' hv => ?_); obtain ⟨rfl, rfl, rfl⟩ := hv
  refine ⟨[], _, MT, .nil, fun _ _ _ => trivial, ?_, rfl, rfl⟩
  simp [tupleOf, e3]
end Go.Proofs.Ytlaelknibcehdaa
