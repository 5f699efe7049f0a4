/- The reference's Protect. -/
import Derived.Test.YtlaelknibcehdaaGrdL
namespace Go.Proofs.Ytlaelknibcehdaa
open Go.Proofs
set_option maxRecDepth 10000

set_option maxHeartbeats 2000000 in
theorem rprot_spec (k i h : Piece) (Ah Ap : Option Addr) (ch cp : Nat) (head payload : List UInt8) (n w : Int) (G : Mp) (hk : Ent G (RowAt k.1 (Bs k.2.2))) (hi : Ent G (RowAt i.1 (Bs i.2.2))) (hh : Ent G (RowAt h.1 (Bs h.2.2))) (hH : Ent G (RowAt Ah (Bs head))) (hP : Ent G (RowAt Ap (Bs payload)))
    (hl : head.length ≤ 140737488351232) (hl2 : payload.length ≤ 140737488351232) :
    Spec Try.prog 12 #[keysV k i h, .slice Ah head.length ch, .int .i64 n, .int .i64 w, .slice Ap payload.length cp] [] G (OwnBE (protL (rightK k i h) k.2.2 i.2.2 h.2.2 head n w payload).1 (protL (rightK k i h) k.2.2 i.2.2 h.2.2 head n w payload).2) := by
  refine Spec.introC (args := [_, _, _, _, _]) wide Try.func12 rfl Try.call12 (by rfl) (by rfl) [5] (fun w0 hw0 => ?_)
  intro bx
  refine vcLoadN_0 (xs := keysL k i h) (Ent.gnO .here (fun w hw => Ob.row_at hw)) rfl ?_
  refine vcCall_of .nil (rright_spec k i h _) (fun v own' N' hv => ?_); obtain ⟨rfl, rfl, rfl⟩ := hv
  cases hrt : rightK k i h with
  | false =>
    exact ⟨_, _, MT, .cons .none_ .nil, fun _ _ _ => trivial, retE (protL_e (e := 70) rfl (by decide)) (OwnBE_nil 70)⟩
  | true =>
    have e12 := fun hc => @protL_e true k.2.2 i.2.2 h.2.2 head n w payload 12 (protE_12 hc) (by decide)
    have e10 := fun hc hd => @protL_e true k.2.2 i.2.2 h.2.2 head n w payload 10 (protE_10 hc hd) (by decide)
    have e52 := fun hc hd he => @protL_e true k.2.2 i.2.2 h.2.2 head n w payload 52 (protE_52 hc hd he) (by decide)
    refine vcCut_of (fun _ : Unit => [(1, .slice Ah head.length ch), (2, .int .i64 n), (3, .int .i64 w), (4, .slice Ap payload.length cp), (5, .pointer (some ⟨bx, 0, none⟩))]) (fun _ => [.row bx 34 (keysL k i h) 3]) (fun _ => MT)
      (fun _ => ¬ (head.length = 0 ∨ (payload.length < 4 ∧ w < 4 - (payload.length : Int)))) ?_ ?_
    · refine vcIf_dec (fun h1 => ?_) (fun h1 => ?_)
      · repeat (refine vcIf_yes (by rfl) ?_)
        exact ⟨_, _, MT, .cons .none_ .nil, fun _ _ _ => trivial, retE (e12 (.inl (by omega))) (OwnBE_nil 12)⟩
      repeat (refine vcIf_no (by rfl) ?_)
      refine vcIf_dec (fun h2 => ?_) (fun h2 => ?_)
      · repeat (refine vcIf_yes (by rfl) ?_)
        refine vcFit_i64 (by omega) ?_
        repeat (refine vcIf_yes (by rfl) ?_)
        refine vcIf_dec (fun h3 => ?_) (fun h3 => ?_)
        · exact ⟨_, _, MT, .cons .none_ .nil, fun _ _ _ => trivial, retE (e12 (.inr (by omega))) (OwnBE_nil 12)⟩
        exact ⟨(), by omega, ⟨rfl, rfl, rfl, rfl, rfl, trivial⟩, ⟨_, .cons .here .nil⟩, fun _ _ => trivial⟩
      · repeat (refine vcIf_no (by rfl) ?_)
        exact ⟨(), by omega, ⟨rfl, rfl, rfl, rfl, rfl, trivial⟩, ⟨_, .cons .here .nil⟩, fun _ _ => trivial⟩
    rintro ⟨⟩ hc12
    refine vcIf_dec (fun h4 => ?_) (fun h4 => ?_)
    · repeat (refine vcIf_yes (by rfl) ?_)
      exact ⟨_, _, MT, .cons .none_ .nil, fun _ _ _ => trivial, retE (e10 hc12 (by omega)) (OwnBE_nil 10)⟩
    repeat (refine vcIf_no (by rfl) ?_)
    refine vcIf_dec (fun h5 => ?_) (fun h5 => ?_)
    · repeat (refine vcIf_yes (by rfl) ?_)
      exact ⟨_, _, MT, .cons .none_ .nil, fun _ _ _ => trivial, retE (e10 hc12 (by omega)) (OwnBE_nil 10)⟩
    repeat (refine vcIf_no (by rfl) ?_)
    refine vcIf_dec (fun h6 => ?_) (fun h6 => ?_)
    · repeat (refine vcIf_yes (by rfl) ?_)
      exact ⟨_, _, MT, .cons .none_ .nil, fun _ _ _ => trivial, retE (e10 hc12 (by omega)) (OwnBE_nil 10)⟩
    repeat (refine vcIf_no (by rfl) ?_)
    refine vcIf_dec (fun h7 => ?_) (fun h7 => ?_)
    · exact ⟨_, _, MT, .cons .none_ .nil, fun _ _ _ => trivial, retE (e10 hc12 (by omega)) (OwnBE_nil 10)⟩
    refine vcIf_dec (fun h8 => ?_) (fun h8 => ?_)
    · repeat (refine vcIf_yes (by rfl) ?_)
      exact ⟨_, _, MT, .cons .none_ .nil, fun _ _ _ => trivial, retE (e52 hc12 (by omega) (by omega)) (OwnBE_nil 52)⟩
    repeat (refine vcIf_no (by rfl) ?_)
    refine vcIf_dec (fun h9 => ?_) (fun h9 => ?_)
    · exact ⟨_, _, MT, .cons .none_ .nil, fun _ _ _ => trivial, retE (e52 hc12 (by omega) (by omega)) (OwnBE_nil 52)⟩
    have hE : protE true head.length payload.length n w = 0 := protE_0 hc12 (by omega) (by omega)
    clear e12 e10 e52
    obtain ⟨hk16, hi12, hh16⟩ := rightK_true hrt
    obtain ⟨j, rfl⟩ := Int.eq_ofNat_of_zero_le (show 0 ≤ w by omega)
    obtain ⟨n, rfl⟩ := Int.eq_ofNat_of_zero_le (show 0 ≤ n by omega)
    rw [protL_ok hE]
    clear hE hrt
    have hd1 : 1 ≤ head.length := by omega
    have hd2 : head.length ≤ 16380 := by omega
    have hp2 : payload.length ≤ 16380 := by omega
    have hw1 : 1 ≤ j := by omega
    have hw4 : j ≤ 4 := by omega
    have hn1 : n ≤ 4611686018427387903 := by omega
    clear h4 h5 h6 h7 h8 h9 hc12
    have hll := lowN_length n j
    refine vcMk_nat j rfl rfl (by omega) (by omega) (fun bl => ?_)
    refine vcFit_i64 (by omega) ?_
    refine vcLoop_of (fun t : Nat => j - t) (fun t => [(1, .slice Ah head.length ch), (2, .int .i64 n), (3, .int .i64 j), (4, .slice Ap payload.length cp), (5, .pointer (some ⟨bx, 0, none⟩)), (12, .slice (some ⟨bl, 0, none⟩) j j), (13, .int .i64 (n / 256 ^ t : Nat)), (14, .int .i64 ((j : Int) - 1 - t))])
      (fun t => [.sl (some ⟨bl, 0, none⟩) j 5 1 (Bs (lowR n j t)), .row bx 34 (keysL k i h) 3]) (fun _ => MT) (fun t => t ≤ j) 0 (Nat.zero_le _)
      ⟨rfl, rfl, rfl, rfl, rfl, rfl, by simp; rfl, by simp; rfl, trivial⟩ ⟨_, .cons (by rw [lowR_0, ← Bs_zeros]; exact .here) (.cons .here .nil)⟩ (fun _ _ => trivial) ?_
    intro t ht
    have hrl := lowR_length (n := n) ht
    refine vcIf_dec (fun hlt => ?_) (fun hge => ?_)
    · have ht' : t < j := by omega
      have hst := lowR_set (n := n) ht'
      have hdn : n / 256 ^ t ≤ n := Nat.div_le_self _ _
      have hds : n / 256 ^ (t + 1) = n / 256 ^ t / 256 := by rw [Nat.pow_succ, Nat.div_div_eq_div_mul]
      generalize hd : n / 256 ^ t = d at *
      refine vcRem_pos (by omega) ?_
      refine vcFit_byte ?_
      refine vcIdx_some (j - 1 - t) (by omega) (by omega) ?_
      refine vcStore1_1 _ _ .here rfl (by simp only [Ob.cells, Bs_length]; omega) rfl ?_
      refine vcQuo_i64 (by omega) ?_
      refine vcFit_i64 (by omega) ?_
      have e : byteI ((d : Int) % 256) = UInt8.ofNat (d % 256) := by rw [show (d : Int) % 256 = ((d % 256 : Nat) : Int) from by omega, byteI_nat, Nat.mod_mod]
      rw [e]
      have hrow : Ob.set (.sl (some ⟨bl, 0, none⟩) j 5 1 (Bs (lowR n j t))) (j - 1 - t + 0) (.int .u8 (UInt8.ofNat (d % 256)).toNat) = .sl (some ⟨bl, 0, none⟩) j 5 1 (Bs (lowR n j (t + 1))) := by
        rw [← hst, ← Bs_set]; rfl
      rw [hrow]
      refine ⟨t + 1, by omega, by omega, ⟨rfl, rfl, rfl, rfl, rfl, rfl, ?_, ?_, trivial⟩, ⟨_, .cons .here (.cons .here .nil)⟩, fun _ _ => trivial⟩
      · rw [hds]; rfl
      · rw [show (j : Int) - 1 - ((t + 1 : Nat) : Int) = (j : Int) - 1 - t - 1 from by omega]; rfl
    · have : t = j := by omega
      subst this
      rw [lowR_all]
      intro bp
      have hlen : (head ++ lowN n t).length = head.length + t := by rw [List.length_append, hll]
      have e1 : pieces [(Ah, ch, head), (some ⟨bl, 0, none⟩, t, lowN n t)] = head ++ lowN n t := by simp [pieces]
      have v1 : [(Ah, ch, head), (some ⟨bl, 0, none⟩, t, lowN n t)].map pieceV = [.slice Ah head.length ch, .slice (some ⟨bl, 0, none⟩) t t] := by simp only [List.map, pieceV, hll]
      refine vcCall_of .nil (e1 ▸ join_spec (some ⟨bp, 0, none⟩) 2 [(Ah, ch, head), (some ⟨bl, 0, none⟩, t, lowN n t)] _ (by rw [v1]; exact (Ent.gnO .here (fun w hw => Ob.sl_at hw))) (fun p hp => by
        simp only [List.mem_cons, List.not_mem_nil, or_false] at hp
        rcases hp with rfl | rfl
        · exact Ent.gnG hH
        · exact (Ent.gnO (.there .here) (fun w hw => Ob.sl_at hw))) (by rw [e1]; omega) (by simp)) (fun v own' N' hv => ?_); obtain ⟨A1, c1, rfl, rfl, rfl, hc1⟩ := hv
      refine vcDraw_mix [0,1,2,3,4,6,7,5,8,9,10,11,12,13] (RowAt (some ⟨bx, 0, none⟩) (keysL k i h)) (by kernel_rfl) (Ent.gnO (.there (.there (.there .here))) (fun w hw => Ob.row_at hw)) ?_
      refine vcLoad1_row (j := 0) (v := pieceV k) Ent.refl rfl ?_
      refine vcLoad1_row (j := 1) (v := pieceV i) Ent.refl rfl ?_
      refine vcCall_of .nil (rnonce_spec i.1 i.2.1 i.2.2 n _ (Ent.gnG hi) hi12 (by omega)) (fun v own' N' hv => ?_); obtain ⟨A3, c3, rfl, rfl, rfl, hc3⟩ := hv
      refine vcMix_same (Ent.gnO (.there (.there (.there (.there .here)))) (fun w hw => Ob.row_at hw)) ?_
      refine vcCall_of .nil (rseal_spec k.1 A3 A1 Ap k.2.1 c3 c1 cp k.2.2 _ (head ++ lowN n t) payload _ (Ent.gnG hk) (Ent.gnO .here (fun w hw => Ob.sl_at hw)) (Ent.gnO (.there .here) (fun w hw => Ob.sl_at hw)) (Ent.gnG hP)) (fun v own' N' hv => ?_)
      obtain ⟨A4, c4, rfl, rfl, rfl, hc4⟩ := hv
      refine vcMix_same (Ent.gnO (.there (.there (.there (.there (.there .here))))) (fun w hw => Ob.row_at hw)) ?_
      have hsl := sealL_length (key := k.2.2) (nonce := nonceL i.2.2 n) (ad := head ++ lowN n t) (plain := payload) (by rw [nonceL_length]; omega) (by rw [List.length_append, lowN_length]; omega)
      have hrl := rawL_length (n := n) hk16 hi12 hd2 hp2 (show t ≤ 4 by omega)
      have hR0 := rawL_0 (key := k.2.2) (iv := i.2.2) (payload := payload) (n := n) (w := t) hd1
      intro bq
      have e2 : pieces [(A1, c1, head ++ lowN n t), (A4, c4, (sealL k.2.2 (nonceL i.2.2 n) (head ++ lowN n t) payload).1)] = rawL k.2.2 i.2.2 head n t payload := by simp [pieces, rawL]
      refine vcCall_of .nil (e2 ▸ join_spec (some ⟨bq, 0, none⟩) 2 [(A1, c1, head ++ lowN n t), (A4, c4, (sealL k.2.2 (nonceL i.2.2 n) (head ++ lowN n t) payload).1)] _ (Ent.gnO .here (fun w hw => Ob.sl_at hw)) (fun p hp => by
        simp only [List.mem_cons, List.not_mem_nil, or_false] at hp
        rcases hp with rfl | rfl
        · exact (Ent.gnO (.there (.there (.there .here))) (fun w hw => Ob.sl_at hw))
        · exact (Ent.gnO (.there .here) (fun w hw => Ob.sl_at hw))) (by rw [e2]; omega) (by simp)) (fun v own' N' hv => ?_); obtain ⟨A5, c5, rfl, rfl, rfl, hc5⟩ := hv
      unfold packL
      clear e1 e2
      generalize rawL k.2.2 i.2.2 head n t payload = R at *
      have hml : (maskOf h.2.2 R head.length).length = 5 := maskL_length _ _
      refine vcDraw_mix [0,1,2,3,4,5,6,7,8,9,10,11,12] (RowAt (some ⟨bx, 0, none⟩) (keysL k i h)) (by kernel_rfl) (by first | exact Ent.gnO .here (fun w hw => Ob.sl_at hw) | exact Ent.gnO .here (fun w hw => Ob.row_at hw) | exact Ent.gnO (.there .here) (fun w hw => Ob.sl_at hw) | exact Ent.gnO (.there .here) (fun w hw => Ob.row_at hw) | exact Ent.gnO (.there (.there .here)) (fun w hw => Ob.sl_at hw) | exact Ent.gnO (.there (.there .here)) (fun w hw => Ob.row_at hw) | exact Ent.gnO (.there (.there (.there .here))) (fun w hw => Ob.sl_at hw) | exact Ent.gnO (.there (.there (.there .here))) (fun w hw => Ob.row_at hw) | exact Ent.gnO (.there (.there (.there (.there .here)))) (fun w hw => Ob.sl_at hw) | exact Ent.gnO (.there (.there (.there (.there .here)))) (fun w hw => Ob.row_at hw) | exact Ent.gnO (.there (.there (.there (.there (.there .here))))) (fun w hw => Ob.sl_at hw) | exact Ent.gnO (.there (.there (.there (.there (.there .here))))) (fun w hw => Ob.row_at hw) | exact Ent.gnO (.there (.there (.there (.there (.there (.there .here)))))) (fun w hw => Ob.sl_at hw) | exact Ent.gnO (.there (.there (.there (.there (.there (.there .here)))))) (fun w hw => Ob.row_at hw) | exact Ent.gnO (.there (.there (.there (.there (.there (.there (.there .here))))))) (fun w hw => Ob.sl_at hw) | exact Ent.gnO (.there (.there (.there (.there (.there (.there (.there .here))))))) (fun w hw => Ob.row_at hw) | exact Ent.gnO (.there (.there (.there (.there (.there (.there (.there (.there .here)))))))) (fun w hw => Ob.sl_at hw) | exact Ent.gnO (.there (.there (.there (.there (.there (.there (.there (.there .here)))))))) (fun w hw => Ob.row_at hw) | exact Ent.gnO (.there (.there (.there (.there (.there (.there (.there (.there (.there .here))))))))) (fun w hw => Ob.sl_at hw) | exact Ent.gnO (.there (.there (.there (.there (.there (.there (.there (.there (.there .here))))))))) (fun w hw => Ob.row_at hw) | exact Ent.gnO (.there (.there (.there (.there (.there (.there (.there (.there (.there (.there .here)))))))))) (fun w hw => Ob.sl_at hw) | exact Ent.gnO (.there (.there (.there (.there (.there (.there (.there (.there (.there (.there .here)))))))))) (fun w hw => Ob.row_at hw) | exact Ent.gnO (.there (.there (.there (.there (.there (.there (.there (.there (.there (.there (.there .here))))))))))) (fun w hw => Ob.sl_at hw) | exact Ent.gnO (.there (.there (.there (.there (.there (.there (.there (.there (.there (.there (.there .here))))))))))) (fun w hw => Ob.row_at hw) | exact Ent.gnO (.there (.there (.there (.there (.there (.there (.there (.there (.there (.there (.there (.there .here)))))))))))) (fun w hw => Ob.sl_at hw) | exact Ent.gnO (.there (.there (.there (.there (.there (.there (.there (.there (.there (.there (.there (.there .here)))))))))))) (fun w hw => Ob.row_at hw) | exact Ent.gnO (.there (.there (.there (.there (.there (.there (.there (.there (.there (.there (.there (.there (.there .here))))))))))))) (fun w hw => Ob.sl_at hw) | exact Ent.gnO (.there (.there (.there (.there (.there (.there (.there (.there (.there (.there (.there (.there (.there .here))))))))))))) (fun w hw => Ob.row_at hw)) ?_
      refine vcLoad1_row (j := 2) (v := pieceV h) Ent.refl rfl ?_
      refine vcFit_i64 (by omega) ?_
      refine vcSlice3_as (head.length + 4) (R.length - (head.length + 4)) (c5 - (head.length + 4)) (by omega) (by omega) (by omega) (by omega) (by omega) (fun A6 hA6 => ?_)
      have hsm : ∀ w, RowAt A5 (Bs R) w → RowAt A6 (Bs (R.drop (head.length + 4))) w := fun w hw => hw.bytes hA6 (by omega) (by rw [List.take_length])
      have hdl : (R.drop (head.length + 4)).length = R.length - (head.length + 4) := List.length_drop ..
      rw [← hdl]
      refine vcCall_of .nil (rmask_spec h.1 A6 h.2.1 (c5 - (head.length + 4)) h.2.2 (R.drop (head.length + 4)) _ (Ent.gnG hh) (Ent.mono (Ent.gnO .here (fun w hw => Ob.sl_at hw)) hsm) (by omega)) (fun v own' N' hv => ?_)
      obtain ⟨Am, cm, rfl, rfl, hrow, hcm⟩ := hv
      refine vcMix_same (by first | exact Ent.gnO .here (fun w hw => Ob.sl_at hw) | exact Ent.gnO .here (fun w hw => Ob.row_at hw) | exact Ent.gnO (.there .here) (fun w hw => Ob.sl_at hw) | exact Ent.gnO (.there .here) (fun w hw => Ob.row_at hw) | exact Ent.gnO (.there (.there .here)) (fun w hw => Ob.sl_at hw) | exact Ent.gnO (.there (.there .here)) (fun w hw => Ob.row_at hw) | exact Ent.gnO (.there (.there (.there .here))) (fun w hw => Ob.sl_at hw) | exact Ent.gnO (.there (.there (.there .here))) (fun w hw => Ob.row_at hw) | exact Ent.gnO (.there (.there (.there (.there .here)))) (fun w hw => Ob.sl_at hw) | exact Ent.gnO (.there (.there (.there (.there .here)))) (fun w hw => Ob.row_at hw) | exact Ent.gnO (.there (.there (.there (.there (.there .here))))) (fun w hw => Ob.sl_at hw) | exact Ent.gnO (.there (.there (.there (.there (.there .here))))) (fun w hw => Ob.row_at hw) | exact Ent.gnO (.there (.there (.there (.there (.there (.there .here)))))) (fun w hw => Ob.sl_at hw) | exact Ent.gnO (.there (.there (.there (.there (.there (.there .here)))))) (fun w hw => Ob.row_at hw) | exact Ent.gnO (.there (.there (.there (.there (.there (.there (.there .here))))))) (fun w hw => Ob.sl_at hw) | exact Ent.gnO (.there (.there (.there (.there (.there (.there (.there .here))))))) (fun w hw => Ob.row_at hw) | exact Ent.gnO (.there (.there (.there (.there (.there (.there (.there (.there .here)))))))) (fun w hw => Ob.sl_at hw) | exact Ent.gnO (.there (.there (.there (.there (.there (.there (.there (.there .here)))))))) (fun w hw => Ob.row_at hw) | exact Ent.gnO (.there (.there (.there (.there (.there (.there (.there (.there (.there .here))))))))) (fun w hw => Ob.sl_at hw) | exact Ent.gnO (.there (.there (.there (.there (.there (.there (.there (.there (.there .here))))))))) (fun w hw => Ob.row_at hw) | exact Ent.gnO (.there (.there (.there (.there (.there (.there (.there (.there (.there (.there .here)))))))))) (fun w hw => Ob.sl_at hw) | exact Ent.gnO (.there (.there (.there (.there (.there (.there (.there (.there (.there (.there .here)))))))))) (fun w hw => Ob.row_at hw) | exact Ent.gnO (.there (.there (.there (.there (.there (.there (.there (.there (.there (.there (.there .here))))))))))) (fun w hw => Ob.sl_at hw) | exact Ent.gnO (.there (.there (.there (.there (.there (.there (.there (.there (.there (.there (.there .here))))))))))) (fun w hw => Ob.row_at hw) | exact Ent.gnO (.there (.there (.there (.there (.there (.there (.there (.there (.there (.there (.there (.there .here)))))))))))) (fun w hw => Ob.sl_at hw) | exact Ent.gnO (.there (.there (.there (.there (.there (.there (.there (.there (.there (.there (.there (.there .here)))))))))))) (fun w hw => Ob.row_at hw) | exact Ent.gnO (.there (.there (.there (.there (.there (.there (.there (.there (.there (.there (.there (.there (.there .here))))))))))))) (fun w hw => Ob.sl_at hw) | exact Ent.gnO (.there (.there (.there (.there (.there (.there (.there (.there (.there (.there (.there (.there (.there .here))))))))))))) (fun w hw => Ob.row_at hw)) ?_
      rw [show (maskL h.2.2 (R.drop (head.length + 4))).1 = maskOf h.2.2 R head.length from rfl] at hrow hcm ⊢
      generalize (maskL h.2.2 (R.drop (head.length + 4))).2 = e0
      generalize maskOf h.2.2 R head.length = m at *
      have hh0 : 0 < R.length := by omega
      have hR0' : head[0] = R[0] := by
        rw [List.getElem?_eq_getElem hh0, List.getElem?_eq_getElem (show 0 < head.length by omega)] at hR0
        exact (Option.some.inj hR0).symm
      refine vcDraw_mix [0,1,2,3,4,5,6,7,8,9,10,11,12,13] (fun w => RowAt A5 (Bs R) w ∧ RowAt Am (Bs m) w ∧ RowAt Ah (Bs head) w) (by kernel_rfl) (fun w hw => ⟨(Ent.gnO .here (fun w hw => Ob.sl_at hw)) w hw, Ent.gnN (Ent.andR hrow) w hw, Ent.gnG hH w hw⟩) ?_
      refine vcIdx_nat 0 rfl (fun w hw => hw.1) (by omega) (by rw [Bs_length]; exact Nat.le_refl _) (fun aa haa => ?_)
      subst haa
      refine vcLoad1_row (fun w hw => hw.1) (Bs_get hh0) ?_
      refine vcIdx_nat 0 rfl (fun w hw => hw.2.1) (by omega) (by rw [Bs_length]; exact Nat.le_refl _) (fun am ham => ?_)
      subst ham
      refine vcLoad1_row (fun w hw => hw.2.1) (Bs_get (show 0 < m.length by omega)) ?_
      refine vcIdx_nat 0 rfl (fun w hw => hw.2.2) (by omega) (by rw [Bs_length]; exact Nat.le_refl _) (fun ah hah => ?_)
      subst hah
      refine vcLoad1_row (fun w hw => hw.2.2) (Bs_get (show 0 < head.length by omega)) ?_
      refine vcCall_of .nil (rreach_spec _ _) (fun v own' N' hv => ?_); obtain ⟨rfl, rfl, rfl⟩ := hv
      refine vcMix_same (fun w hw => ⟨(Ent.gnO .here (fun w hw => Ob.sl_at hw)) w hw, Ent.gnN (Ent.andL (Ent.andR hrow)) w hw, Ent.gnG hH w hw⟩) ?_
      rw [hR0']
      refine vcBit_as _ (and_u8 _ _) ?_
      refine vcBit_as _ (xor_u8 _ _) ?_
      refine vcIdx_some 0 rfl (by omega) ?_
      refine vcStore1_1 _ _ .here rfl (by simp only [Ob.cells, Bs_length]; omega) rfl ?_
      refine vcMix_last (by kernel_rfl) ?_
      have hf : R[0] ^^^ (m[0] &&& reachB R[0]) = firstB R m := by unfold firstB; rw [getD_at (by omega), getD_at (by omega)]
      rw [hf]
      unfold packM
      generalize hfE : firstB R m = f
      have hrow2 : Ob.set (.sl (some aa) c5 5 1 (Bs R)) (0 + 0) (.int .u8 f.toNat) = .sl (some aa) c5 5 1 (Bs (outU f R m head.length 0)) := by
        rw [outU_0 hd1 (by omega), ← Bs_set]; rfl
      rw [hrow2]
      refine vcLoop_of (fun i : Nat => t - i) (fun i => [(1, .slice (some ah) head.length ch), (3, .int .i64 t), (18, .slice (some aa) R.length c5), (19, .slice (some am) m.length cm), (21, .int .i64 i)])
        (fun i => [.sl (some aa) c5 5 1 (Bs (outU f R m head.length i))]) (fun _ => RowAt (some am) (Bs m)) (fun i => i ≤ t) 0 (Nat.zero_le _)
        ⟨rfl, rfl, rfl, rfl, rfl, trivial⟩ ⟨_, .cons .here .nil⟩ (fun w h => Ent.andL (Ent.andR hrow) w h) ?_
      intro i hi
      have hli := outU_length (f := f) (P := R) (m := m) (i := i) hd1 (by omega)
      refine vcIf_dec (fun hlt => ?_) (fun hge => ?_)
      · have hi' : i < t := by omega
        have hst := outU_set (f := f) (P := R) (m := m) (i := i) hd1 (by omega)
        rw [getD_at (show head.length + i < R.length by omega), getD_at (show i + 1 < m.length by omega)] at hst
        refine vcDraw_mix [0,1,2,3,4,5,6,7,8,9,10,11,12,13,14] (fun w => RowAt (some aa) (Bs (outU f R m head.length i)) w ∧ RowAt (some am) (Bs m) w) (by kernel_rfl) (fun w hw => ⟨(Ent.gnO .here (fun w hw => Ob.sl_at hw)) w hw, hw.1.2⟩) ?_
        refine vcFit_i64 (by omega) ?_
        refine vcIdx_some (head.length + i) (by omega) (by omega) ?_
        refine vcLoad1_row (fun w hw => hw.1) (Bs_some (outU_get hd1 (by omega))) ?_
        refine vcFit_i64 (by omega) ?_
        refine vcIdx_some (i + 1) (by omega) (by omega) ?_
        refine vcLoad1_row (fun w hw => hw.2) (Bs_get (by omega)) ?_
        refine vcBit_as _ (xor_u8 _ _) ?_
        refine vcIdx_some (head.length + i) (by omega) (by omega) ?_
        refine vcStore1_1 _ _ .here rfl (by simp only [Ob.cells, Bs_length]; omega) rfl ?_
        refine vcMix_last (by kernel_rfl) ?_
        have hrow3 : Ob.set (.sl (some aa) c5 5 1 (Bs (outU f R m head.length i))) (head.length + i + 0) (.int .u8 (R[head.length + i] ^^^ m[i + 1]).toNat) = .sl (some aa) c5 5 1 (Bs (outU f R m head.length (i + 1))) := by
          rw [← hst, ← Bs_set]; rfl
        rw [hrow3]
        refine vcFit_i64 (by omega) ?_
        exact ⟨i + 1, by omega, by omega, ⟨rfl, rfl, rfl, rfl, rfl, trivial⟩, ⟨_, .cons .here .nil⟩, fun _ h => h⟩
      · have : i = t := by omega
        subst this
        exact ⟨_, _, MT, .cons (by first | exact .here | exact (.there .here) | exact (.there (.there .here)) | exact (.there (.there (.there .here))) | exact (.there (.there (.there (.there .here)))) | exact (.there (.there (.there (.there (.there .here))))) | exact (.there (.there (.there (.there (.there (.there .here)))))) | exact (.there (.there (.there (.there (.there (.there (.there .here))))))) | exact (.there (.there (.there (.there (.there (.there (.there (.there .here)))))))) | exact (.there (.there (.there (.there (.there (.there (.there (.there (.there .here))))))))) | exact (.there (.there (.there (.there (.there (.there (.there (.there (.there (.there .here)))))))))) | exact (.there (.there (.there (.there (.there (.there (.there (.there (.there (.there (.there .here))))))))))) | exact (.there (.there (.there (.there (.there (.there (.there (.there (.there (.there (.there (.there .here)))))))))))) | exact (.there (.there (.there (.there (.there (.there (.there (.there (.there (.there (.there (.there (.there .here))))))))))))) | exact (.there (.there (.there (.there (.there (.there (.there (.there (.there (.there (.there (.there (.there (.there .here)))))))))))))) | exact (.there (.there (.there (.there (.there (.there (.there (.there (.there (.there (.there (.there (.there (.there (.there .here))))))))))))))) | exact (.there (.there (.there (.there (.there (.there (.there (.there (.there (.there (.there (.there (.there (.there (.there (.there .here)))))))))))))))) | exact (.there (.there (.there (.there (.there (.there (.there (.there (.there (.there (.there (.there (.there (.there (.there (.there (.there .here))))))))))))))))) | exact .none_) .nil, fun _ _ _ => trivial, some aa, c5, by rw [← hli]; rfl, rfl, rfl, by show (outU f R m head.length i).length ≤ c5; omega⟩
end Go.Proofs.Ytlaelknibcehdaa
