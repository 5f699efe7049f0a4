/- Ids: digests, masks, values. -/
import Derived.Test.YtnhkeghahiedfaaRteA
import Derived.Test.YtnhkeghahiedfaaCnc
import Derived.Test.YtnhkeghahiedfaaPrmF
namespace Go.Proofs.Ytnhkeghahiedfaa
open Go.Proofs
set_option maxRecDepth 10000

theorem fill_set {α : Type} {T Z : List α} {k : Nat} (hk : k < T.length) (hz : T.length = Z.length) : (T.take k ++ Z.drop k).set k (T[k]) = T.take (k + 1) ++ Z.drop (k + 1) := by
  have h1 : (T.take k).length = k := by rw [List.length_take]; omega
  have e1 : Z.drop k = Z[k]'(by omega) :: Z.drop (k + 1) := List.drop_eq_getElem_cons (by omega)
  rw [List.set_append_right _ _ (by omega), h1, Nat.sub_self, e1, List.set_cons_zero, List.take_succ_eq_append_getElem hk, List.append_assoc]
  rfl
/-- Eight bytes under a mask. -/
def xorD (d id : List UInt8) : List UInt8 := (List.range 8).map fun i => id[i]?.getD 0 ^^^ d[i]?.getD 0
theorem xorD_length (d id : List UInt8) : (xorD d id).length = 8 := by simp [xorD]
theorem xorD_get {d id : List UInt8} {i : Nat} (h : i < 8) (h2 : i < id.length) (h3 : i < d.length) : (xorD d id)[i]'(by rw [xorD_length]; exact h) = id[i] ^^^ d[i] := by
  simp [xorD, h2, h3]
def cidD (s : List UInt8) : List UInt8 := dig ([99, 105, 100] ++ s)
theorem digest_spec (A : Option Addr) (c : Nat) (ps : List Piece) (G : Mp) (h1 : Ent G (RowAt A (ps.map pieceV))) (h2 : ∀ p ∈ ps, Ent G (RowAt p.1 (Bs p.2.2))) (hb : (pieces ps).length ≤ 140737488355328) (hl : ps.length ≤ 4611686018427387904) :
    Spec Try.prog 29 #[.slice A ps.length c] [] G (GetB (dig (pieces ps))) := by
  refine Spec.intro (args := [_]) wide Try.func29 rfl Try.call29 (by rfl) (by rfl) (fun w0 hw0 => ?_)
  refine vcCall_of .nil (concat_spec A c ps _ (Ent.gnG h1) (fun p hp => Ent.gnG (h2 p hp)) hb hl) (fun v own' N' hv => ?_); obtain ⟨A1, c1, rfl, rfl, rfl, hc1⟩ := hv
  refine vcCall_of .nil (pdig_spec A1 c1 (pieces ps) _ (Ent.gnO .here (fun w hw => Ob.sl_at hw)) (by omega)) (fun v own' N' hv => ?_); obtain ⟨rfl, rfl, rfl⟩ := hv
  intro b
  have htl : (Bs (dig (pieces ps))).length = 16 := by rw [Bs_length, dig_length]
  refine ⟨htl, vcStoreN_row _ .here htl (Bs_one _) ?_⟩
  refine vcRange_of (by omega) ?_
  refine ⟨[], _, RowAt (some ⟨b, 0, none⟩) (Bs (dig (pieces ps))), .nil, fun w _ ho => Ob.row_at (ho (.row b 82 (Bs (dig (pieces ps))) 16) (.head _)), some ⟨b, 0, none⟩, 16, ?_, rfl, Ent.refl, by rw [dig_length]; exact Nat.le_refl _⟩
  rw [dig_length]; rfl
theorem rdigest_spec (A : Option Addr) (c : Nat) (ps : List Piece) (G : Mp) (h1 : Ent G (RowAt A (ps.map pieceV))) (h2 : ∀ p ∈ ps, Ent G (RowAt p.1 (Bs p.2.2))) (hb : (pieces ps).length ≤ 140737488355328) (hl : ps.length ≤ 4611686018427387904) :
    Spec Try.prog 30 #[.slice A ps.length c] [] G (OwnB (dig (pieces ps))) := by
  refine Spec.intro (args := [_]) wide Try.func30 rfl Try.call30 (by rfl) (by rfl) (fun w0 hw0 => ?_)
  refine vcCall_of .nil (join_spec A c ps _ (Ent.gnG h1) (fun p hp => Ent.gnG (h2 p hp)) hb hl) (fun v own' N' hv => ?_); obtain ⟨A1, c1, rfl, rfl, rfl, hc1⟩ := hv
  refine vcCall_of .nil (rdig_spec A1 c1 (pieces ps) _ (Ent.gnO .here (fun w hw => Ob.sl_at hw)) (by omega)) (fun v own' N' hv => ?_); obtain ⟨A2, c2, rfl, rfl, rfl, hc2⟩ := hv
  exact ⟨_, _, MT, .cons .here .nil, fun _ _ _ => trivial, A2, c2, rfl, rfl, rfl, hc2⟩

def turnI (s id : List UInt8) : List UInt8 := xorD (cidD s) id
theorem cid_pieces (b : Nat) (As : Option Addr) (cs : Nat) (s : List UInt8) : pieces [(some ⟨b, 0, none⟩, 3, [99, 105, 100]), (As, cs, s)] = [99, 105, 100] ++ s := by simp [pieces]

theorem rturn13_spec (As Ai : Option Addr) (cs ci : Nat) (s id : List UInt8) (G : Mp) (hs : Ent G (RowAt As (Bs s))) (hi : Ent G (RowAt Ai (Bs id))) (hl : s.length ≤ 1000000000) (h8 : id.length = 8) :
    Spec Try.prog 25 #[.slice As s.length cs, .slice Ai id.length ci] [] G (OwnB (turnI s id)) := by
  refine Spec.intro (args := [_, _]) wide Try.func25 rfl Try.call25 (by rfl) (by rfl) (fun w0 hw0 => ?_)
  intro b3
  refine vcMark_of .here ?_
  intro bp
  have e := cid_pieces b3 As cs s
  refine vcCall_of .nil (e ▸ rdigest_spec (some ⟨bp, 0, none⟩) 2 [(some ⟨b3, 0, none⟩, 3, [99, 105, 100]), (As, cs, s)] _ (Ent.gnO .here (fun w hw => Ob.sl_at hw)) (fun p hp => by
    simp only [List.mem_cons, List.not_mem_nil, or_false] at hp
    rcases hp with rfl | rfl
    · exact (Ent.gnO (.there .here) (fun w hw => Ob.sl_at hw))
    · exact Ent.gnG hs) (by rw [e]; simp; omega) (by simp)) (fun v own' N1 hv => ?_)
  obtain ⟨Am, cm, rfl, rfl, rfl, hcm⟩ := hv
  have hm16 : (dig ([99, 105, 100] ++ s)).length = 16 := dig_length _
  refine vcCall_of .nil (copy_spec Ai ci id _ (Ent.gnG hi) (by omega)) (fun v own' N' hv => ?_); obtain ⟨Ao, co, rfl, rfl, rfl, hco⟩ := hv
  rw [show turnI s id = xorD (dig ([99, 105, 100] ++ s)) id from rfl]
  generalize dig ([99, 105, 100] ++ s) = m at *
  have hx8 := xorD_length m id
  refine vcLoop_of (fun k : Nat => 8 - k) (fun k => [(1, .slice Ai id.length ci), (5, .slice Am m.length cm), (6, .slice Ao id.length co), (7, .int .i64 k)])
    (fun k => [.sl Ao co 5 1 (Bs ((xorD m id).take k ++ id.drop k)), .sl Am cm 5 1 (Bs m)]) (fun _ => MT) (fun k => k ≤ 8) 0 (Nat.zero_le _)
    ⟨rfl, rfl, rfl, rfl, trivial⟩ ⟨_, .cons (by rw [List.take_zero, List.nil_append, List.drop_zero]; exact .here) (.cons (by first | exact .here | exact (.there .here) | exact (.there (.there .here)) | exact (.there (.there (.there .here))) | exact (.there (.there (.there (.there .here)))) | exact (.there (.there (.there (.there (.there .here))))) | exact (.there (.there (.there (.there (.there (.there .here)))))) | exact (.there (.there (.there (.there (.there (.there (.there .here))))))) | exact (.there (.there (.there (.there (.there (.there (.there (.there .here)))))))) | exact (.there (.there (.there (.there (.there (.there (.there (.there (.there .here))))))))) | exact (.there (.there (.there (.there (.there (.there (.there (.there (.there (.there .here)))))))))) | exact (.there (.there (.there (.there (.there (.there (.there (.there (.there (.there (.there .here))))))))))) | exact (.there (.there (.there (.there (.there (.there (.there (.there (.there (.there (.there (.there .here)))))))))))) | exact (.there (.there (.there (.there (.there (.there (.there (.there (.there (.there (.there (.there (.there .here))))))))))))) | exact (.there (.there (.there (.there (.there (.there (.there (.there (.there (.there (.there (.there (.there (.there .here)))))))))))))) | exact (.there (.there (.there (.there (.there (.there (.there (.there (.there (.there (.there (.there (.there (.there (.there .here))))))))))))))) | exact (.there (.there (.there (.there (.there (.there (.there (.there (.there (.there (.there (.there (.there (.there (.there (.there .here)))))))))))))))) | exact (.there (.there (.there (.there (.there (.there (.there (.there (.there (.there (.there (.there (.there (.there (.there (.there (.there .here))))))))))))))))) | exact .none_) .nil)⟩ (fun _ _ => trivial) ?_
  intro k hk
  refine vcIf_dec (fun hlt => ?_) (fun hge => ?_)
  · have hk8 : k < 8 := by omega
    have hcur : ((xorD m id).take k ++ id.drop k).length = 8 := by rw [List.length_append, List.length_take, List.length_drop, hx8]; omega
    have hget : ((xorD m id).take k ++ id.drop k)[k]'(by omega) = id[k]'(by omega) := by
      rw [List.getElem_append_right (by rw [List.length_take, hx8]; omega)]
      simp [List.length_take, hx8, Nat.min_eq_left hk]
    refine vcDraw_mix [0,1,2,3,4,5,6,7,8,9,10] (fun w => RowAt Ao (Bs ((xorD m id).take k ++ id.drop k)) w ∧ RowAt Am (Bs m) w) (by kernel_rfl) (fun w hw => ⟨((Ent.gnO .here (fun w hw => Ob.sl_at hw)) : Ent _ (RowAt Ao _)) w hw, ((Ent.gnO (.there .here) (fun w hw => Ob.sl_at hw)) : Ent _ (RowAt Am _)) w hw⟩) ?_
    refine vcIdx_nat k rfl (fun w hw => hw.1) (by omega) (by rw [Bs_length]; omega) (fun ao ha => ?_)
    subst ha
    refine vcLoad1_row (v := .int .u8 (id[k]'(by omega)).toNat) (fun w hw => hw.1) (by rw [Bs_get (by omega), hget]) ?_
    refine vcIdx_nat k rfl (fun w hw => hw.2) (by omega) (by rw [Bs_length]; omega) (fun am ha => ?_)
    subst ha
    refine vcLoad1_row (v := .int .u8 (m[k]'(by omega)).toNat) (fun w hw => hw.2) (Bs_get (by omega)) ?_
    refine vcBit_as _ (xor_u8 _ _) ?_
    refine vcIdx_some k rfl (by omega) ?_
    refine vcStore1_1 _ _ .here rfl (by simp only [Ob.cells, Bs_length]; omega) rfl ?_
    have hst : ((xorD m id).take k ++ id.drop k).set k (id[k]'(by omega) ^^^ m[k]'(by omega)) = (xorD m id).take (k + 1) ++ id.drop (k + 1) := by
      rw [← xorD_get hk8 (by omega) (by omega)]
      exact fill_set (by omega) (by omega)
    have hrow : Ob.set (.sl (some ao) co 5 1 (Bs ((xorD m id).take k ++ id.drop k))) (k + 0) (.int .u8 ((id[k]'(by omega) ^^^ m[k]'(by omega)).toNat)) = .sl (some ao) co 5 1 (Bs ((xorD m id).take (k + 1) ++ id.drop (k + 1))) := by
      rw [← hst, ← Bs_set]; rfl
    rw [hrow]
    refine vcMix_last (by kernel_rfl) ?_
    refine vcFit_i64 (by omega) ?_
    refine ⟨k + 1, by omega, by omega, ⟨rfl, rfl, rfl, rfl, trivial⟩, ⟨_, .cons .here (.cons (by first | exact .here | exact (.there .here) | exact (.there (.there .here)) | exact (.there (.there (.there .here))) | exact (.there (.there (.there (.there .here)))) | exact (.there (.there (.there (.there (.there .here))))) | exact (.there (.there (.there (.there (.there (.there .here)))))) | exact (.there (.there (.there (.there (.there (.there (.there .here))))))) | exact (.there (.there (.there (.there (.there (.there (.there (.there .here)))))))) | exact (.there (.there (.there (.there (.there (.there (.there (.there (.there .here))))))))) | exact (.there (.there (.there (.there (.there (.there (.there (.there (.there (.there .here)))))))))) | exact (.there (.there (.there (.there (.there (.there (.there (.there (.there (.there (.there .here))))))))))) | exact (.there (.there (.there (.there (.there (.there (.there (.there (.there (.there (.there (.there .here)))))))))))) | exact (.there (.there (.there (.there (.there (.there (.there (.there (.there (.there (.there (.there (.there .here))))))))))))) | exact (.there (.there (.there (.there (.there (.there (.there (.there (.there (.there (.there (.there (.there (.there .here)))))))))))))) | exact (.there (.there (.there (.there (.there (.there (.there (.there (.there (.there (.there (.there (.there (.there (.there .here))))))))))))))) | exact (.there (.there (.there (.there (.there (.there (.there (.there (.there (.there (.there (.there (.there (.there (.there (.there .here)))))))))))))))) | exact (.there (.there (.there (.there (.there (.there (.there (.there (.there (.there (.there (.there (.there (.there (.there (.there (.there .here))))))))))))))))) | exact .none_) .nil)⟩, fun _ _ => trivial⟩
  · have : k = 8 := by omega
    subst this
    rw [List.take_of_length_le (by omega), List.drop_eq_nil_of_le (by omega), List.append_nil]
    exact ⟨_, _, MT, .cons .here .nil, fun _ _ _ => trivial, Ao, co, by rw [hx8, ← h8]; rfl, rfl, rfl, by omega⟩
end Go.Proofs.Ytnhkeghahiedfaa
