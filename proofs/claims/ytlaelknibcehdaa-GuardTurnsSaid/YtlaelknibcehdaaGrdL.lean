/- Protect. -/
import Derived.Test.YtlaelknibcehdaaGrdK
namespace Go.Proofs.Ytlaelknibcehdaa
open Go.Proofs
set_option maxRecDepth 10000

set_option maxHeartbeats 2000000 in
theorem prot_spec (k i h : Piece) (Ah Ap : Option Addr) (ch cp : Nat) (head payload : List UInt8) (n w : Int) (G : Mp) (hk : Ent G (RowAt k.1 (Bs k.2.2))) (hi : Ent G (RowAt i.1 (Bs i.2.2))) (hh : Ent G (RowAt h.1 (Bs h.2.2))) (hH : Ent G (RowAt Ah (Bs head))) (hP : Ent G (RowAt Ap (Bs payload)))
    (hl : head.length ≤ 140737488351232) (hl2 : payload.length ≤ 140737488351232) :
    Spec Try.prog 11 #[keysV k i h, .slice Ah head.length ch, .int .i64 n, .int .i64 w, .slice Ap payload.length cp] [] G (OwnBE (protL (rightK k i h) k.2.2 i.2.2 h.2.2 head n w payload).1 (protL (rightK k i h) k.2.2 i.2.2 h.2.2 head n w payload).2) := by
  refine Spec.introC (args := [_, _, _, _, _]) wide Try.func11 rfl Try.call11 (by rfl) (by rfl) [9, 17] (fun w0 hw0 => ?_)
  intro bx
  refine vcCut_of (fun _ : Unit => [(1, .slice Ah head.length ch), (2, .int .i64 n), (3, .int .i64 w), (4, .slice Ap payload.length cp), (5, .pointer (some ⟨bx, 0, none⟩))]) (fun _ => [.row bx 24 (keysL k i h) 3]) (fun _ => MT)
    (fun _ => protE (rightK k i h) head.length payload.length n w = 0 ∧ rightK k i h = true ∧ (1 ≤ head.length ∧ 1 ≤ w ∧ w ≤ 4 ∧ 0 ≤ n ∧ n ≤ 4611686018427387903 ∧ head.length ≤ 16380 ∧ payload.length ≤ 16380)) ?_ ?_
  · refine vcLoadN_0 (xs := keysL k i h) (Ent.gnO .here (fun w hw => Ob.row_at hw)) rfl ?_
    refine vcCall_of .nil (right_spec k i h _) (fun v own' N' hv => ?_); obtain ⟨rfl, rfl, rfl⟩ := hv
    cases hrt : rightK k i h with
    | false =>
      exact ⟨_, _, MT, .cons .none_ .nil, fun _ _ _ => trivial, retE (protL_e (e := 70) rfl (by decide)) (OwnBE_nil 70)⟩
    | true =>
      have hmore : ¬ (head.length = 0 ∨ (payload.length < 4 ∧ w < 4 - (payload.length : Int))) → True := fun _ => trivial
      have e12 := fun hc => @protL_e true k.2.2 i.2.2 h.2.2 head n w payload 12 (protE_12 hc) (by decide)
      have e10 := fun hc hd => @protL_e true k.2.2 i.2.2 h.2.2 head n w payload 10 (protE_10 hc hd) (by decide)
      have e52 := fun hc hd he => @protL_e true k.2.2 i.2.2 h.2.2 head n w payload 52 (protE_52 hc hd he) (by decide)
      refine vcIf_dec (fun h1 => ?_) (fun h1 => ?_)
      · repeat (refine vcIf_yes (by rfl) ?_)
        exact ⟨_, _, MT, .cons .none_ .nil, fun _ _ _ => trivial, retE (e12 (.inl (by omega))) (OwnBE_nil 12)⟩
      repeat (refine vcIf_no (by rfl) ?_)
      refine vcIf_dec (fun h2 => ?_) (fun h2 => ?_)
      · repeat (refine vcIf_yes (by rfl) ?_)
        refine vcFit_i64 (by omega) ?_
        repeat (refine vcIf_yes (by rfl) ?_)
        refine vcIf_dec (fun h3 => ?_) (fun h3 => ?_)
        · exact ⟨_, _, MT, .cons .none_ .nil, fun _ _ _ => trivial, retE (e12 (.inr (by omega))) (OwnBE_nil 12)⟩
        repeat (refine vcIf_no (by rfl) ?_)
        refine vcIf_dec (fun h4 => ?_) (fun h4 => ?_)
        · repeat (refine vcIf_yes (by rfl) ?_)
          exact ⟨_, _, MT, .cons .none_ .nil, fun _ _ _ => trivial, retE (e10 (by omega) (by omega)) (OwnBE_nil 10)⟩
        repeat (refine vcIf_no (by rfl) ?_)
        refine vcIf_dec (fun h5 => ?_) (fun h5 => ?_)
        · repeat (refine vcIf_yes (by rfl) ?_)
          exact ⟨_, _, MT, .cons .none_ .nil, fun _ _ _ => trivial, retE (e10 (by omega) (by omega)) (OwnBE_nil 10)⟩
        repeat (refine vcIf_no (by rfl) ?_)
        refine vcIf_dec (fun h6 => ?_) (fun h6 => ?_)
        · repeat (refine vcIf_yes (by rfl) ?_)
          exact ⟨_, _, MT, .cons .none_ .nil, fun _ _ _ => trivial, retE (e10 (by omega) (by omega)) (OwnBE_nil 10)⟩
        repeat (refine vcIf_no (by rfl) ?_)
        refine vcIf_dec (fun h7 => ?_) (fun h7 => ?_)
        · exact ⟨_, _, MT, .cons .none_ .nil, fun _ _ _ => trivial, retE (e10 (by omega) (by omega)) (OwnBE_nil 10)⟩
        refine vcIf_dec (fun h8 => ?_) (fun h8 => ?_)
        · repeat (refine vcIf_yes (by rfl) ?_)
          exact ⟨_, _, MT, .cons .none_ .nil, fun _ _ _ => trivial, retE (e52 (by omega) (by omega) (by omega)) (OwnBE_nil 52)⟩
        repeat (refine vcIf_no (by rfl) ?_)
        refine vcIf_dec (fun h9 => ?_) (fun h9 => ?_)
        · exact ⟨_, _, MT, .cons .none_ .nil, fun _ _ _ => trivial, retE (e52 (by omega) (by omega) (by omega)) (OwnBE_nil 52)⟩
        exact ⟨(), ⟨protE_0 (by omega) (by omega) (by omega), rfl, by omega⟩, ⟨rfl, rfl, rfl, rfl, rfl, trivial⟩, ⟨_, .cons .here .nil⟩, fun _ _ => trivial⟩
      · repeat (refine vcIf_no (by rfl) ?_)
        repeat (refine vcIf_no (by rfl) ?_)
        refine vcIf_dec (fun h4 => ?_) (fun h4 => ?_)
        · repeat (refine vcIf_yes (by rfl) ?_)
          exact ⟨_, _, MT, .cons .none_ .nil, fun _ _ _ => trivial, retE (e10 (by omega) (by omega)) (OwnBE_nil 10)⟩
        repeat (refine vcIf_no (by rfl) ?_)
        refine vcIf_dec (fun h5 => ?_) (fun h5 => ?_)
        · repeat (refine vcIf_yes (by rfl) ?_)
          exact ⟨_, _, MT, .cons .none_ .nil, fun _ _ _ => trivial, retE (e10 (by omega) (by omega)) (OwnBE_nil 10)⟩
        repeat (refine vcIf_no (by rfl) ?_)
        refine vcIf_dec (fun h6 => ?_) (fun h6 => ?_)
        · repeat (refine vcIf_yes (by rfl) ?_)
          exact ⟨_, _, MT, .cons .none_ .nil, fun _ _ _ => trivial, retE (e10 (by omega) (by omega)) (OwnBE_nil 10)⟩
        repeat (refine vcIf_no (by rfl) ?_)
        refine vcIf_dec (fun h7 => ?_) (fun h7 => ?_)
        · exact ⟨_, _, MT, .cons .none_ .nil, fun _ _ _ => trivial, retE (e10 (by omega) (by omega)) (OwnBE_nil 10)⟩
        refine vcIf_dec (fun h8 => ?_) (fun h8 => ?_)
        · repeat (refine vcIf_yes (by rfl) ?_)
          exact ⟨_, _, MT, .cons .none_ .nil, fun _ _ _ => trivial, retE (e52 (by omega) (by omega) (by omega)) (OwnBE_nil 52)⟩
        repeat (refine vcIf_no (by rfl) ?_)
        refine vcIf_dec (fun h9 => ?_) (fun h9 => ?_)
        · exact ⟨_, _, MT, .cons .none_ .nil, fun _ _ _ => trivial, retE (e52 (by omega) (by omega) (by omega)) (OwnBE_nil 52)⟩
        exact ⟨(), ⟨protE_0 (by omega) (by omega) (by omega), rfl, by omega⟩, ⟨rfl, rfl, rfl, rfl, rfl, trivial⟩, ⟨_, .cons .here .nil⟩, fun _ _ => trivial⟩
  · rintro ⟨⟩ ⟨hE, hrt, hd1, hw1, hw4, hn0, hn1, hd2, hp2⟩
    obtain ⟨hk16, hi12, hh16⟩ := rightK_true hrt
    obtain ⟨w, rfl⟩ := Int.eq_ofNat_of_zero_le (show 0 ≤ w by omega)
    obtain ⟨n, rfl⟩ := Int.eq_ofNat_of_zero_le hn0
    rw [protL_ok hE]
    clear hE hrt
    refine vcCall_of .nil (clone_spec Ah ch head _ (Ent.gnG hH) (by omega)) (fun v own' N' hv => ?_); obtain ⟨A, c, rfl, rfl, rfl, hc⟩ := hv
    refine vcFit_i64 (by omega) ?_
    have hll := lowN_length n w
    refine vcLoop_of (fun g : Nat × Option Addr × Nat => w - g.1) (fun g => [(1, .slice Ah head.length ch), (2, .int .i64 n), (3, .int .i64 w), (4, .slice Ap payload.length cp), (5, .pointer (some ⟨bx, 0, none⟩)), (12, .slice g.2.1 (head ++ (lowN n w).take g.1).length g.2.2), (13, .int .i64 ((w : Int) - 1 - g.1))])
      (fun g => [.sl g.2.1 g.2.2 5 1 (Bs (head ++ (lowN n w).take g.1)), .row bx 24 (keysL k i h) 3]) (fun _ => MT) (fun g => g.1 ≤ w ∧ (head ++ (lowN n w).take g.1).length ≤ g.2.2) (0, A, c) ⟨Nat.zero_le _, by simpa using hc⟩
      ⟨rfl, rfl, rfl, rfl, rfl, by simp; rfl, by simp; rfl, trivial⟩ ⟨_, .cons (by simp; exact .here) (.cons .here .nil)⟩ (fun _ _ => trivial) ?_
    rintro ⟨j, A, c⟩ ⟨hj, hcl⟩
    simp only at hj hcl
    refine vcIf_dec (fun hlt => ?_) (fun hge => ?_)
    · have hj' : j < w := by simp only at hlt; omega
      have hsn := lowN_take_succ (n := n) hj'
      have hlen : (head ++ (lowN n w).take j).length = head.length + j := by rw [List.length_append, List.length_take, hll]; omega
      have hlen' : (head ++ (lowN n w).take (j + 1)).length = head.length + j + 1 := by rw [List.length_append, List.length_take, hll]; omega
      have hcat : Bs (head ++ (lowN n w).take j) ++ Bs [UInt8.ofNat (n / 256 ^ (w - 1 - j) % 256)] = Bs (head ++ (lowN n w).take (j + 1)) := by rw [← Bs_append, hsn, List.append_assoc]
      have e8 : (8 : Int) * ((w : Int) - 1 - j) = ((8 * (w - 1 - j) : Nat) : Int) := by omega
      refine vcFit_i64 (by simp only; omega) ?_
      refine vcShr_lit (8 * (w - 1 - j)) e8 (show 8 * (w - 1 - j) ≤ 64 by omega) ?_
      refine vcFit_byte ?_
      rw [shr_256]
      intro b1
      refine vcApp_of (Bs (head ++ (lowN n w).take j)) _ (Bs [UInt8.ofNat (n / 256 ^ (w - 1 - j) % 256)]) (.there .here) (by rw [Bs_length, Nat.mul_one]) rfl (by omega) (Bs_one _) (Ent.gnO .here (fun w hw => Ob.sl_at hw)) (by simp only; omega) (by simp only; omega) (fun A' c' hc' => ?_)
      have hc2 : head.length + j + 1 ≤ c' := by have h' := hc'; simp only [hlen] at h'; exact h'
      refine vcFit_i64 (by simp only; omega) ?_
      rw [hcat, hlen]
      refine ⟨(j + 1, A', c'), ⟨hj', by simp only; omega⟩, by simp only; omega, ⟨rfl, rfl, rfl, rfl, rfl, ?_, ?_, trivial⟩, ⟨_, .cons .here (.cons (.there .here) .nil)⟩, fun _ _ => trivial⟩
      · simp only [hlen']; rfl
      · rw [show (w : Int) - 1 - ((j + 1 : Nat) : Int) = (w : Int) - 1 - j - 1 from by omega]; rfl
    · simp only at hge
      have : j = w := by omega
      subst this
      have ht : (lowN n j).take j = lowN n j := List.take_of_length_le (by omega)
      simp only [ht] at hcl ⊢
      have hlen : (head ++ lowN n j).length = head.length + j := by rw [List.length_append, hll]
      refine vcDraw_mix [0,1,2,3,5,6,4,7,8,9,10,11,12] (RowAt (some ⟨bx, 0, none⟩) (keysL k i h)) (by kernel_rfl) (Ent.gnO (.there .here) (fun w hw => Ob.row_at hw)) ?_
      refine vcLoad1_row (j := 0) (v := pieceV k) Ent.refl rfl ?_
      refine vcLoadN_0 (xs := keysL k i h) Ent.refl rfl ?_
      refine vcCall_of .nil (nonce_spec k i h n _ (Ent.gnG hi) hi12) (fun v own' N' hv => ?_); obtain ⟨A3, c3, rfl, rfl, rfl, hc3⟩ := hv
      refine vcMix_same (Ent.gnO (.there (.there .here)) (fun w hw => Ob.row_at hw)) ?_
      refine vcCall_of .nil (seal_spec k.1 A3 A Ap k.2.1 c3 c cp k.2.2 _ (head ++ lowN n j) payload _ (Ent.gnG hk) (Ent.gnO .here (fun w hw => Ob.sl_at hw)) (Ent.gnO (.there .here) (fun w hw => Ob.sl_at hw)) (Ent.gnG hP)) (fun v own' N' hv => ?_)
      obtain ⟨A4, c4, rfl, rfl, rfl, hc4⟩ := hv
      refine vcMix_same (Ent.gnO (.there (.there (.there .here))) (fun w hw => Ob.row_at hw)) ?_
      have hsl := sealL_length (key := k.2.2) (nonce := nonceL i.2.2 n) (ad := head ++ lowN n j) (plain := payload) (by rw [nonceL_length]; omega) (by rw [List.length_append, lowN_length]; omega)
      have hraw : rawL k.2.2 i.2.2 head n j payload = (head ++ lowN n j) ++ (sealL k.2.2 (nonceL i.2.2 n) (head ++ lowN n j) payload).1 := rfl
      have hrl := rawL_length (n := n) hk16 hi12 hd2 hp2 (show j ≤ 4 by omega)
      have hcat : Bs (head ++ lowN n j) ++ Bs (sealL k.2.2 (nonceL i.2.2 n) (head ++ lowN n j) payload).1 = Bs (rawL k.2.2 i.2.2 head n j payload) := by rw [← Bs_append]; rfl
      refine vcApp_of (Bs (head ++ lowN n j)) _ (Bs (sealL k.2.2 (nonceL i.2.2 n) (head ++ lowN n j) payload).1) (by first | exact .here | exact (.there .here) | exact (.there (.there .here)) | exact (.there (.there (.there .here))) | exact (.there (.there (.there (.there .here)))) | exact (.there (.there (.there (.there (.there .here))))) | exact (.there (.there (.there (.there (.there (.there .here)))))) | exact (.there (.there (.there (.there (.there (.there (.there .here))))))) | exact (.there (.there (.there (.there (.there (.there (.there (.there .here)))))))) | exact (.there (.there (.there (.there (.there (.there (.there (.there (.there .here))))))))) | exact (.there (.there (.there (.there (.there (.there (.there (.there (.there (.there .here)))))))))) | exact (.there (.there (.there (.there (.there (.there (.there (.there (.there (.there (.there .here))))))))))) | exact (.there (.there (.there (.there (.there (.there (.there (.there (.there (.there (.there (.there .here)))))))))))) | exact (.there (.there (.there (.there (.there (.there (.there (.there (.there (.there (.there (.there (.there .here))))))))))))) | exact (.there (.there (.there (.there (.there (.there (.there (.there (.there (.there (.there (.there (.there (.there .here)))))))))))))) | exact (.there (.there (.there (.there (.there (.there (.there (.there (.there (.there (.there (.there (.there (.there (.there .here))))))))))))))) | exact (.there (.there (.there (.there (.there (.there (.there (.there (.there (.there (.there (.there (.there (.there (.there (.there .here)))))))))))))))) | exact (.there (.there (.there (.there (.there (.there (.there (.there (.there (.there (.there (.there (.there (.there (.there (.there (.there .here))))))))))))))))) | exact .none_) (by rw [Bs_length, Nat.mul_one]) (by rw [Bs_length, Nat.mul_one]) (by omega) (Bs_one _) (Ent.gnO .here (fun w hw => Ob.sl_at hw)) (by omega) (by omega) (fun A5 c5 hc5 => ?_)
      rw [hcat]
      rw [hlen, hsl, show head.length + j + (payload.length + 16) = (rawL k.2.2 i.2.2 head n j payload).length from by omega] at hc5 ⊢
      unfold packL
      have hR0 := rawL_0 (key := k.2.2) (iv := i.2.2) (payload := payload) (n := n) (w := j) hd1
      clear hcat hraw
      generalize rawL k.2.2 i.2.2 head n j payload = R at *
      have hml : (maskOf h.2.2 R head.length).length = 5 := maskL_length _ _
      have hml' : (Bs (maskOf h.2.2 R head.length)).length = 5 := by rw [Bs_length, hml]
      refine vcCut_of (fun g : Nat => [(1, .slice Ah head.length ch), (3, .int .i64 j), (12, .slice A5 R.length c5), (16, .pointer (some ⟨g, 0, none⟩))])
        (fun g => [.sl A5 c5 5 1 (Bs R), .row g 77 (Bs (maskOf h.2.2 R head.length)) 5]) (fun _ => MT) (fun _ => True) ?_ ?_
      · refine vcDraw_fork (.one 0 (.one 1 (.one 2 (.one 3 (.one 4 (.one 5 (.one 6 (.alt 7 (.one 8 (.one 9 (.one 10 (.one 11 (.one 12 (.one 13 .nil)))))) (.one 11 (.one 7 (.one 8 (.one 9 (.one 10 (.one 12 (.one 13 .nil))))))))))))))) (RowAt (some ⟨bx, 0, none⟩) (keysL k i h)) (by kernel_rfl) (Ent.gnO (.there (.there (.there .here))) (fun w hw => Ob.row_at hw)) ?_
        refine vcLoad1_row (j := 2) (v := pieceV h) Ent.refl rfl ?_
        refine vcFit_i64 (by omega) ?_
        refine vcSlice3_as (head.length + 4) (R.length - (head.length + 4)) (c5 - (head.length + 4)) (by omega) (by omega) (by omega) (by omega) (by omega) (fun A6 hA6 => ?_)
        have hsm : ∀ w, RowAt A5 (Bs R) w → RowAt A6 (Bs (R.drop (head.length + 4))) w := fun w hw => hw.bytes hA6 (by omega) (by rw [List.take_length])
        have hdl : (R.drop (head.length + 4)).length = R.length - (head.length + 4) := List.length_drop ..
        rw [← hdl]
        refine ⟨?_, ?_⟩
        · refine vcCall_of .nil (mask_spec h.1 A6 h.2.1 (c5 - (head.length + 4)) h.2.2 (R.drop (head.length + 4)) _ (Ent.gnG hh) (Ent.mono (Ent.gnO .here (fun w hw => Ob.sl_at hw)) hsm) (by omega)) (fun v own' N' hv => ?_)
          obtain ⟨rfl, rfl, rfl⟩ := hv
          refine vcMix_same (Ent.gnO (.there (.there (.there .here))) (fun w hw => Ob.row_at hw)) ?_
          intro bm
          refine vcMix_same (Ent.gnO (.there (.there (.there (.there .here)))) (fun w hw => Ob.row_at hw)) ?_
          refine ⟨hml', vcStoreN_row _ .here hml' (Bs_one _) ?_⟩
          refine vcMix_same (Ent.gnO (.there (.there (.there (.there .here)))) (fun w hw => Ob.row_at hw)) ?_
          exact ⟨bm, trivial, ⟨rfl, rfl, rfl, rfl, trivial⟩, ⟨_, .cons (by first | exact .here | exact (.there .here) | exact (.there (.there .here)) | exact (.there (.there (.there .here))) | exact (.there (.there (.there (.there .here)))) | exact (.there (.there (.there (.there (.there .here))))) | exact (.there (.there (.there (.there (.there (.there .here)))))) | exact (.there (.there (.there (.there (.there (.there (.there .here))))))) | exact (.there (.there (.there (.there (.there (.there (.there (.there .here)))))))) | exact (.there (.there (.there (.there (.there (.there (.there (.there (.there .here))))))))) | exact (.there (.there (.there (.there (.there (.there (.there (.there (.there (.there .here)))))))))) | exact (.there (.there (.there (.there (.there (.there (.there (.there (.there (.there (.there .here))))))))))) | exact (.there (.there (.there (.there (.there (.there (.there (.there (.there (.there (.there (.there .here)))))))))))) | exact (.there (.there (.there (.there (.there (.there (.there (.there (.there (.there (.there (.there (.there .here))))))))))))) | exact (.there (.there (.there (.there (.there (.there (.there (.there (.there (.there (.there (.there (.there (.there .here)))))))))))))) | exact (.there (.there (.there (.there (.there (.there (.there (.there (.there (.there (.there (.there (.there (.there (.there .here))))))))))))))) | exact (.there (.there (.there (.there (.there (.there (.there (.there (.there (.there (.there (.there (.there (.there (.there (.there .here)))))))))))))))) | exact (.there (.there (.there (.there (.there (.there (.there (.there (.there (.there (.there (.there (.there (.there (.there (.there (.there .here))))))))))))))))) | exact .none_) (.cons (by first | exact .here | exact (.there .here) | exact (.there (.there .here)) | exact (.there (.there (.there .here))) | exact (.there (.there (.there (.there .here)))) | exact (.there (.there (.there (.there (.there .here))))) | exact (.there (.there (.there (.there (.there (.there .here)))))) | exact (.there (.there (.there (.there (.there (.there (.there .here))))))) | exact (.there (.there (.there (.there (.there (.there (.there (.there .here)))))))) | exact (.there (.there (.there (.there (.there (.there (.there (.there (.there .here))))))))) | exact (.there (.there (.there (.there (.there (.there (.there (.there (.there (.there .here)))))))))) | exact (.there (.there (.there (.there (.there (.there (.there (.there (.there (.there (.there .here))))))))))) | exact (.there (.there (.there (.there (.there (.there (.there (.there (.there (.there (.there (.there .here)))))))))))) | exact (.there (.there (.there (.there (.there (.there (.there (.there (.there (.there (.there (.there (.there .here))))))))))))) | exact (.there (.there (.there (.there (.there (.there (.there (.there (.there (.there (.there (.there (.there (.there .here)))))))))))))) | exact (.there (.there (.there (.there (.there (.there (.there (.there (.there (.there (.there (.there (.there (.there (.there .here))))))))))))))) | exact (.there (.there (.there (.there (.there (.there (.there (.there (.there (.there (.there (.there (.there (.there (.there (.there .here)))))))))))))))) | exact (.there (.there (.there (.there (.there (.there (.there (.there (.there (.there (.there (.there (.there (.there (.there (.there (.there .here))))))))))))))))) | exact .none_) .nil)⟩, fun _ _ => trivial⟩
        · intro bm
          refine vcMix_same (Ent.gnO (.there (.there (.there (.there .here)))) (fun w hw => Ob.row_at hw)) ?_
          refine vcCall_of .nil (mask_spec h.1 A6 h.2.1 (c5 - (head.length + 4)) h.2.2 (R.drop (head.length + 4)) _ (Ent.gnG hh) (Ent.mono (Ent.gnO (.there .here) (fun w hw => Ob.sl_at hw)) hsm) (by omega)) (fun v own' N' hv => ?_)
          obtain ⟨rfl, rfl, rfl⟩ := hv
          refine vcMix_same (Ent.gnO (.there (.there (.there (.there .here)))) (fun w hw => Ob.row_at hw)) ?_
          refine ⟨hml', vcStoreN_row _ .here hml' (Bs_one _) ?_⟩
          refine vcMix_same (Ent.gnO (.there (.there (.there (.there .here)))) (fun w hw => Ob.row_at hw)) ?_
          exact ⟨bm, trivial, ⟨rfl, rfl, rfl, rfl, trivial⟩, ⟨_, .cons (by first | exact .here | exact (.there .here) | exact (.there (.there .here)) | exact (.there (.there (.there .here))) | exact (.there (.there (.there (.there .here)))) | exact (.there (.there (.there (.there (.there .here))))) | exact (.there (.there (.there (.there (.there (.there .here)))))) | exact (.there (.there (.there (.there (.there (.there (.there .here))))))) | exact (.there (.there (.there (.there (.there (.there (.there (.there .here)))))))) | exact (.there (.there (.there (.there (.there (.there (.there (.there (.there .here))))))))) | exact (.there (.there (.there (.there (.there (.there (.there (.there (.there (.there .here)))))))))) | exact (.there (.there (.there (.there (.there (.there (.there (.there (.there (.there (.there .here))))))))))) | exact (.there (.there (.there (.there (.there (.there (.there (.there (.there (.there (.there (.there .here)))))))))))) | exact (.there (.there (.there (.there (.there (.there (.there (.there (.there (.there (.there (.there (.there .here))))))))))))) | exact (.there (.there (.there (.there (.there (.there (.there (.there (.there (.there (.there (.there (.there (.there .here)))))))))))))) | exact (.there (.there (.there (.there (.there (.there (.there (.there (.there (.there (.there (.there (.there (.there (.there .here))))))))))))))) | exact (.there (.there (.there (.there (.there (.there (.there (.there (.there (.there (.there (.there (.there (.there (.there (.there .here)))))))))))))))) | exact (.there (.there (.there (.there (.there (.there (.there (.there (.there (.there (.there (.there (.there (.there (.there (.there (.there .here))))))))))))))))) | exact .none_) (.cons (by first | exact .here | exact (.there .here) | exact (.there (.there .here)) | exact (.there (.there (.there .here))) | exact (.there (.there (.there (.there .here)))) | exact (.there (.there (.there (.there (.there .here))))) | exact (.there (.there (.there (.there (.there (.there .here)))))) | exact (.there (.there (.there (.there (.there (.there (.there .here))))))) | exact (.there (.there (.there (.there (.there (.there (.there (.there .here)))))))) | exact (.there (.there (.there (.there (.there (.there (.there (.there (.there .here))))))))) | exact (.there (.there (.there (.there (.there (.there (.there (.there (.there (.there .here)))))))))) | exact (.there (.there (.there (.there (.there (.there (.there (.there (.there (.there (.there .here))))))))))) | exact (.there (.there (.there (.there (.there (.there (.there (.there (.there (.there (.there (.there .here)))))))))))) | exact (.there (.there (.there (.there (.there (.there (.there (.there (.there (.there (.there (.there (.there .here))))))))))))) | exact (.there (.there (.there (.there (.there (.there (.there (.there (.there (.there (.there (.there (.there (.there .here)))))))))))))) | exact (.there (.there (.there (.there (.there (.there (.there (.there (.there (.there (.there (.there (.there (.there (.there .here))))))))))))))) | exact (.there (.there (.there (.there (.there (.there (.there (.there (.there (.there (.there (.there (.there (.there (.there (.there .here)))))))))))))))) | exact (.there (.there (.there (.there (.there (.there (.there (.there (.there (.there (.there (.there (.there (.there (.there (.there (.there .here))))))))))))))))) | exact .none_) .nil)⟩, fun _ _ => trivial⟩
      · intro bm _
        generalize maskOf h.2.2 R head.length = m at *
        have hh0 : 0 < R.length := by omega
        refine vcDraw_mix [0,1,2,3,4,5,6,7,8,9,10,11,12] (fun w => RowAt A5 (Bs R) w ∧ RowAt (some ⟨bm, 0, none⟩) (Bs m) w) (by kernel_rfl) (fun w hw => ⟨(Ent.gnO .here (fun w hw => Ob.sl_at hw)) w hw, (Ent.gnO (.there .here) (fun w hw => Ob.row_at hw)) w hw⟩) ?_
        refine vcIdx_nat 0 rfl (fun w hw => hw.1) (by omega) (by rw [Bs_length]; exact Nat.le_refl _) (fun aa haa => ?_)
        subst haa
        refine vcLoad1_row (fun w hw => hw.1) (Bs_get hh0) ?_
        refine vcAt_nat 0 rfl (by omega) ?_
        refine vcLoad1_row (fun w hw => hw.2) (Bs_get (show 0 < m.length by omega)) ?_
        refine vcIdx_some 0 rfl (by omega) ?_
        refine vcLoad1_row (fun w hw => hw.1) (Bs_get hh0) ?_
        refine vcCall_of .nil (reach_spec _ _) (fun v own' N' hv => ?_); obtain ⟨rfl, rfl, rfl⟩ := hv
        refine vcMix_same (fun w hw => ⟨(Ent.gnO .here (fun w hw => Ob.sl_at hw)) w hw, (Ent.gnO (.there .here) (fun w hw => Ob.row_at hw)) w hw⟩) ?_
        refine vcBit_as _ (and_u8 _ _) ?_
        refine vcBit_as _ (xor_u8 _ _) ?_
        refine vcIdx_some 0 rfl (by omega) ?_
        refine vcStore1_1 _ _ .here rfl (by simp only [Ob.cells, Bs_length]; omega) rfl ?_
        refine vcMix_last (by kernel_rfl) ?_
        have hf : R[0] ^^^ (m[0] &&& reachB R[0]) = firstB R m := by unfold firstB; rw [getD_at (by omega), getD_at (by omega)]
        rw [hf]
        unfold packM
        generalize hfE : firstB R m = f
        have hrow : Ob.set (.sl (some aa) c5 5 1 (Bs R)) (0 + 0) (.int .u8 f.toNat) = .sl (some aa) c5 5 1 (Bs (outU f R m head.length 0)) := by
          rw [outU_0 hd1 (by omega), ← Bs_set]; rfl
        rw [hrow]
        refine vcLoop_of (fun i : Nat => j - i) (fun i => [(1, .slice Ah head.length ch), (12, .slice (some aa) R.length c5), (16, .pointer (some ⟨bm, 0, none⟩)), (116, .int .i64 j), (117, .int .i64 i)])
          (fun i => [.sl (some aa) c5 5 1 (Bs (outU f R m head.length i)), .row bm 77 (Bs m) 5]) (fun _ => MT) (fun i => i ≤ j) 0 (Nat.zero_le _)
          ⟨rfl, rfl, rfl, rfl, rfl, trivial⟩ ⟨_, .cons .here (.cons .here .nil)⟩ (fun _ _ => trivial) ?_
        intro i hi
        have hli := outU_length (f := f) (P := R) (m := m) (i := i) hd1 (by omega)
        refine vcIf_dec (fun hlt => ?_) (fun hge => ?_)
        · have hi' : i < j := by omega
          have hst := outU_set (f := f) (P := R) (m := m) (i := i) hd1 (by omega)
          rw [getD_at (show head.length + i < R.length by omega), getD_at (show i + 1 < m.length by omega)] at hst
          refine vcDraw_mix [0,1,2,3,4,5,6,7,8,9,10,11,12,13] (GN _ _ _) (by kernel_rfl) Ent.refl ?_
          refine vcFit_i64 (by omega) ?_
          refine vcIdx_some (head.length + i) (by omega) (by omega) ?_
          refine vcLoad1_row (Ent.gnO .here (fun w hw => Ob.sl_at hw)) (Bs_some (outU_get hd1 (by omega))) ?_
          refine vcFit_i64 (by omega) ?_
          refine vcAt_nat (i + 1) (by omega) (by omega) ?_
          refine vcLoad1_row (Ent.gnO (.there .here) (fun w hw => Ob.row_at hw)) (Bs_get (by omega)) ?_
          refine vcBit_as _ (xor_u8 _ _) ?_
          refine vcIdx_some (head.length + i) (by omega) (by omega) ?_
          refine vcStore1_1 _ _ .here rfl (by simp only [Ob.cells, Bs_length]; omega) rfl ?_
          refine vcMix_last (by kernel_rfl) ?_
          have hrow : Ob.set (.sl (some aa) c5 5 1 (Bs (outU f R m head.length i))) (head.length + i + 0) (.int .u8 (R[head.length + i] ^^^ m[i + 1]).toNat) = .sl (some aa) c5 5 1 (Bs (outU f R m head.length (i + 1))) := by
            rw [← hst, ← Bs_set]; rfl
          rw [hrow]
          refine vcFit_i64 (by omega) ?_
          exact ⟨i + 1, by omega, by omega, ⟨rfl, rfl, rfl, rfl, rfl, trivial⟩, ⟨_, .cons .here (.cons .here .nil)⟩, fun _ _ => trivial⟩
        · have : i = j := by omega
          subst this
          exact ⟨_, _, MT, .cons (by first | exact .here | exact (.there .here) | exact (.there (.there .here)) | exact (.there (.there (.there .here))) | exact (.there (.there (.there (.there .here)))) | exact (.there (.there (.there (.there (.there .here))))) | exact (.there (.there (.there (.there (.there (.there .here)))))) | exact (.there (.there (.there (.there (.there (.there (.there .here))))))) | exact (.there (.there (.there (.there (.there (.there (.there (.there .here)))))))) | exact (.there (.there (.there (.there (.there (.there (.there (.there (.there .here))))))))) | exact (.there (.there (.there (.there (.there (.there (.there (.there (.there (.there .here)))))))))) | exact (.there (.there (.there (.there (.there (.there (.there (.there (.there (.there (.there .here))))))))))) | exact (.there (.there (.there (.there (.there (.there (.there (.there (.there (.there (.there (.there .here)))))))))))) | exact (.there (.there (.there (.there (.there (.there (.there (.there (.there (.there (.there (.there (.there .here))))))))))))) | exact (.there (.there (.there (.there (.there (.there (.there (.there (.there (.there (.there (.there (.there (.there .here)))))))))))))) | exact (.there (.there (.there (.there (.there (.there (.there (.there (.there (.there (.there (.there (.there (.there (.there .here))))))))))))))) | exact (.there (.there (.there (.there (.there (.there (.there (.there (.there (.there (.there (.there (.there (.there (.there (.there .here)))))))))))))))) | exact (.there (.there (.there (.there (.there (.there (.there (.there (.there (.there (.there (.there (.there (.there (.there (.there (.there .here))))))))))))))))) | exact .none_) .nil, fun _ _ _ => trivial, some aa, c5, by rw [← hli]; rfl, rfl, rfl, by show (outU f R m head.length i).length ≤ c5; omega⟩
end Go.Proofs.Ytlaelknibcehdaa
