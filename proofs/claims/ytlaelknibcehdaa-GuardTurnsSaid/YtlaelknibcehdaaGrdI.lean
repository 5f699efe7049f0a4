/- The reference's taking the mask off. -/
import Derived.Test.YtlaelknibcehdaaGrdH
namespace Go.Proofs.Ytlaelknibcehdaa
open Go.Proofs
set_option maxRecDepth 10000

/-- The bound part is its own; the sealed one is cut off the packet. -/
def GetBareR (b : BareL) (Ap : Option Addr) (cp l : Nat) (v : Value) (own : List Ob) (N : Mp) : Prop := ∃ A1 c1, v = bareV b A1 c1 (cutA Ap cp l 1) (cp - l) ∧ own = [.sl A1 c1 5 1 (Bs b.bound)] ∧ N = MT ∧ b.bound.length ≤ c1

def lowZ (P : List UInt8) (a : Nat) (m : List UInt8) (w i : Nat) : List UInt8 := lowL P a m i ++ List.replicate (w - i) 0
theorem lowZ_length {P : List UInt8} {a : Nat} {m : List UInt8} {w i : Nat} (h : i ≤ w) : (lowZ P a m w i).length = w := by rw [lowZ, List.length_append, lowL_length, List.length_replicate]; omega
theorem lowZ_set {P : List UInt8} {a : Nat} {m : List UInt8} {w i : Nat} (h : i < w) : (lowZ P a m w i).set i (P[a + i]?.getD 0 ^^^ m[i + 1]?.getD 0) = lowZ P a m w (i + 1) := by
  rw [lowZ, lowZ, List.set_append_right _ _ (by rw [lowL_length]; omega), lowL_length, Nat.sub_self, lowL_succ, show w - i = (w - (i + 1)) + 1 from by omega, List.replicate_succ, List.set_cons_zero]
  simp
theorem lowZ_get {P : List UInt8} {a : Nat} {m : List UInt8} {w i : Nat} : (lowZ P a m w (i + 1))[i]? = some (P[a + i]?.getD 0 ^^^ m[i + 1]?.getD 0) := by
  rw [lowZ, lowL_succ, List.append_assoc, List.getElem?_append_right (by rw [lowL_length]; omega), lowL_length, Nat.sub_self]
  rfl
theorem lowZ_all {P : List UInt8} {a : Nat} {m : List UInt8} {w : Nat} : lowZ P a m w w = lowL P a m w := by simp [lowZ]

set_option maxHeartbeats 1000000 in
theorem runmask_spec (Ah Ap : Option Addr) (ch cp : Nat) (hp P : List UInt8) (a : Nat) (high : Int) (G : Mp) (hh : Ent G (RowAt Ah (Bs hp))) (hP : Ent G (RowAt Ap (Bs P))) (hcp : P.length ≤ cp)
    (h1 : 1 ≤ a) (h2 : a + 20 ≤ P.length) (h3 : P.length ≤ 32800) (h4 : -1 ≤ high) (h5 : high ≤ 4611686018427387903) :
    Spec Try.prog 47 #[.slice Ah hp.length ch, .slice Ap P.length cp, .int .i64 a, .int .i64 high] [] G (GetBareR (bareL hp P a high) Ap cp (a + ((firstB P (maskOf hp P a)).toNat % 4 + 1))) := by
  refine Spec.intro (args := [_, _, _, _]) wide Try.func47 rfl Try.call47 (by rfl) (by rfl) (fun w0 hw0 => ?_)
  intro bo
  refine vcFit_i64 (by omega) ?_
  refine vcSlice3_as (a + 4) (P.length - (a + 4)) (cp - (a + 4)) (by omega) (by omega) (by omega) (by omega) (by omega) (fun A1 hA1 => ?_)
  have hs : Ent G (RowAt A1 (Bs (P.drop (a + 4)))) := hP.mono fun w hw => hw.bytes hA1 (by omega) (by rw [List.take_length])
  have hsl : (P.drop (a + 4)).length = P.length - (a + 4) := by simp
  rw [← hsl]
  refine vcCall_of .nil (rmask_spec Ah A1 ch (cp - (a + 4)) hp (P.drop (a + 4)) _ (Ent.gnG hh) (Ent.gnG hs) (by omega)) (fun v own' N' hv => ?_)
  obtain ⟨Am, cm, rfl, rfl, hrow, hcm⟩ := hv
  have hml : (maskOf hp P a).length = 5 := maskL_length _ _
  unfold bareL
  rw [show (maskL hp (P.drop (a + 4))).1 = maskOf hp P a from rfl] at hrow hcm ⊢
  generalize (maskL hp (P.drop (a + 4))).2 = e0
  generalize maskOf hp P a = m at hml hrow hcm ⊢
  have hml' : (Bs m).length = 5 := by rw [Bs_length, hml]
  refine vcDraw_mix [0,1,2,3,4,5,6,7,8,9,10,11,12] (fun w => RowAt Ap (Bs P) w ∧ RowAt Am (Bs m) w) (by kernel_rfl) (fun w hw => ⟨Ent.gnG hP w hw, Ent.gnN (Ent.andR hrow) w hw⟩) ?_
  refine vcIdx_nat 0 rfl (fun w hw => hw.1) (by omega) (by rw [Bs_length]; exact Nat.le_refl _) (fun ap hap => ?_)
  subst hap
  refine vcLoad1_row (fun w hw => hw.1) (Bs_get (show 0 < P.length by omega)) ?_
  refine vcIdx_nat 0 rfl (fun w hw => hw.2) (by omega) (by rw [Bs_length]; exact Nat.le_refl _) (fun am ham => ?_)
  subst ham
  refine vcLoad1_row (fun w hw => hw.2) (Bs_get (show 0 < m.length by omega)) ?_
  refine vcIdx_some 0 rfl (by omega) ?_
  refine vcLoad1_row (fun w hw => hw.1) (Bs_get (show 0 < P.length by omega)) ?_
  refine vcCall_of .nil (rreach_spec _ _) (fun v own' N' hv => ?_); obtain ⟨rfl, rfl, rfl⟩ := hv
  refine vcMix_same (fun w hw => ⟨Ent.gnG hP w hw, Ent.gnN (Ent.andL (Ent.andR hrow)) w hw⟩) ?_
  refine vcBit_as _ (and_u8 _ _) ?_
  refine vcBit_as _ (xor_u8 _ _) ?_
  have hf : P[0] ^^^ (m[0] &&& reachB P[0]) = firstB P m := by unfold firstB; rw [getD_at (by omega), getD_at (by omega)]
  rw [hf]
  unfold bareM
  generalize hfE : firstB P m = f
  have hx := f.toNat_lt
  refine vcRem_pos (by omega) ?_
  refine vcFit_i64 (by omega) ?_
  refine vcFit_i64 (by omega) ?_
  rw [show (f.toNat : Int) % 4 + 1 = ((f.toNat % 4 + 1 : Nat) : Int) from by omega]
  have hwr : 1 ≤ f.toNat % 4 + 1 ∧ f.toNat % 4 + 1 ≤ 4 := by omega
  generalize f.toNat % 4 + 1 = wd at hwr ⊢
  refine vcMk_nat wd rfl rfl (by omega) (by omega) (fun bl => ?_)
  refine vcLoop_of (fun i : Nat => wd - i) (fun i => [(1, .slice (some ap) P.length cp), (2, .int .i64 a), (3, .int .i64 high), (8, .pointer (some ⟨bo, 0, none⟩)), (9, .slice (some am) m.length cm), (11, .int .u8 f.toNat), (12, .int .i64 wd), (13, .slice (some ⟨bl, 0, none⟩) wd wd), (14, .int .i64 (partN (lowL P a m i))), (15, .int .i64 i)])
    (fun i => [.sl (some ⟨bl, 0, none⟩) wd 5 1 (Bs (lowZ P a m wd i)), .row bo 94 [.int .u8 0, .int .i64 0, .slice none 0 0, .slice none 0 0] 4]) (fun _ => RowAt (some am) (Bs m)) (fun i => i ≤ wd) 0 (Nat.zero_le _)
    ⟨rfl, rfl, rfl, rfl, rfl, rfl, rfl, rfl, rfl, rfl, trivial⟩ ⟨_, .cons (by rw [show Bs (lowZ P a m wd 0) = zerosL wd [.int .u8 0] from by rw [Bs_zeros]; rfl]; exact .here) (.cons .here .nil)⟩ (fun w h => hrow w h.1.2) ?_
  intro i hi
  have hpl : partN (lowL P a m i) < 4294967296 := by
    have h := partN_lt (lowL P a m i)
    rw [lowL_length] at h
    exact Nat.lt_of_lt_of_le h (Nat.le_trans (Nat.pow_le_pow_right (by omega) (show i ≤ 4 by omega)) (by decide))
  have hli := lowZ_length (P := P) (a := a) (m := m) hi
  refine vcIf_dec (fun hlt => ?_) (fun hge => ?_)
  · have hi' : i < wd := by omega
    have hst := lowZ_set (P := P) (a := a) (m := m) hi'
    have hgt := lowZ_get (P := P) (a := a) (m := m) (w := wd) (i := i)
    have hls := lowL_succ P a m i
    have hli' := lowZ_length (P := P) (a := a) (m := m) (show i + 1 ≤ wd from hi')
    rw [getD_at (show a + i < P.length by omega), getD_at (show i + 1 < m.length by omega)] at hst hgt hls
    refine vcDraw_mix [0,1,2,3,4,5,6,7,8,9,10,11,12,13,14,15] (fun w => RowAt (some ap) (Bs P) w ∧ RowAt (some am) (Bs m) w) (by kernel_rfl) (fun w hw => ⟨Ent.gnG hP w hw, hw.1.2⟩) ?_
    refine vcFit_i64 (by omega) ?_
    refine vcIdx_some (a + i) (by omega) (by omega) ?_
    refine vcLoad1_row (fun w hw => hw.1) (Bs_get (by omega)) ?_
    refine vcFit_i64 (by omega) ?_
    refine vcIdx_some (i + 1) (by omega) (by omega) ?_
    refine vcLoad1_row (fun w hw => hw.2) (Bs_get (by omega)) ?_
    refine vcBit_as _ (xor_u8 _ _) ?_
    refine vcIdx_some i rfl (by omega) ?_
    refine vcStore1_1 _ _ .here rfl (by simp only [Ob.cells, Bs_length]; omega) rfl ?_
    refine vcMix_last (by kernel_rfl) ?_
    have hrow2 : Ob.set (.sl (some ⟨bl, 0, none⟩) wd 5 1 (Bs (lowZ P a m wd i))) (i + 0) (.int .u8 (P[a + i] ^^^ m[i + 1]).toNat) = .sl (some ⟨bl, 0, none⟩) wd 5 1 (Bs (lowZ P a m wd (i + 1))) := by
      rw [← hst, ← Bs_set]; rfl
    rw [hrow2]
    have hxb := (P[a + i] ^^^ m[i + 1]).toNat_lt
    have hpl' : partN (lowL P a m i) < 16777216 := by
      have h := partN_lt (lowL P a m i)
      rw [lowL_length] at h
      exact Nat.lt_of_lt_of_le h (Nat.le_trans (Nat.pow_le_pow_right (by omega) (show i ≤ 3 by omega)) (by decide))
    refine vcFit_i64 (by omega) ?_
    refine vcIdx_some i rfl (by omega) ?_
    refine vcLoad1_row (Ent.gnO .here (fun w hw => Ob.sl_at hw)) (Bs_some hgt) ?_
    refine vcFit_i64 (by omega) ?_
    refine vcFit_i64 (by omega) ?_
    refine vcFit_i64 (by omega) ?_
    refine ⟨i + 1, by omega, by omega, ⟨rfl, rfl, rfl, rfl, rfl, rfl, rfl, rfl, ?_, rfl, trivial⟩, ⟨_, .cons .here (.cons .here .nil)⟩, fun _ h => h⟩
    rw [hls, partN_snoc]
    rfl
  · have : i = wd := by omega
    subst this
    obtain ⟨hN, hhN⟩ := Int.eq_ofNat_of_zero_le (show 0 ≤ high + 1 by omega)
    have hplt := partN_lt (lowL P a m i)
    rw [lowL_length] at hplt
    have hrg := expandI_range hhN (by omega) (by omega) (by omega) hplt
    have hpre : (f :: ((P.take a).drop 1 ++ lowL P a m i)).length = a + i := outU_pre h1 (by omega)
    have hll := lowL_length P a m i
    rw [lowZ_all]
    generalize partN (lowL P a m i) = part at *
    generalize lowL P a m i = low at *
    subst hll
    have hpt : ((P.take a).drop 1).length = a - 1 := by simp; omega
    intro b1
    refine vcSlice3_as 1 (a - 1) (cp - 1) rfl (by omega) (by omega) (by omega) (by omega) (fun A2 hA2 => ?_)
    have hr2 : Ent G (RowAt A2 (Bs ((P.take a).drop 1))) := hP.mono fun w hw => hw.bytes hA2 (by omega) (by rw [hpt, List.drop_take])
    intro bp
    have e : pieces [(some ⟨b1, 0, none⟩, 1, [f]), (A2, cp - 1, (P.take a).drop 1), (some ⟨bl, 0, none⟩, low.length, low)] = f :: ((P.take a).drop 1 ++ low) := by simp [pieces]
    rw [show a - 1 = ((P.take a).drop 1).length from hpt.symm]
    have hjs := fun G' h1' h2' => join_spec (some ⟨bp, 0, none⟩) 3 [(some ⟨b1, 0, none⟩, 1, [f]), (A2, cp - 1, (P.take a).drop 1), (some ⟨bl, 0, none⟩, low.length, low)] G' h1' h2' (by rw [e, hpre]; omega) (by simp)
    rw [e] at hjs
    refine vcCall_of .nil (hjs _ (Ent.gnO .here (fun w hw => Ob.sl_at hw)) (fun p hp => by
      simp only [List.mem_cons, List.not_mem_nil, or_false] at hp
      rcases hp with rfl | rfl | rfl
      · exact (Ent.gnO (.there .here) (fun w hw => Ob.sl_at hw))
      · exact Ent.gnG hr2
      · exact (Ent.gnO (.there (.there .here)) (fun w hw => Ob.sl_at hw)))) (fun v own' N' hv => ?_)
    obtain ⟨A4, c4, rfl, rfl, rfl, hc4⟩ := hv
    refine vcDraw_mix [0,1,2,3,5,6,7,8,9,10,4,11,12] MT (by kernel_rfl) (fun _ _ => trivial) ?_
    refine vcFit_i64 (by omega) ?_
    refine vcSlice3_as (a + low.length) (P.length - (a + low.length)) (cp - (a + low.length)) (by omega) (by omega) (by omega) (by omega) (by omega) (fun A3 hA3 => ?_)
    refine vcCall_of .nil (refx_spec high part low.length (by omega) (by omega) _) (fun v own' N' hv => ?_); obtain ⟨rfl, rfl, rfl⟩ := hv
    refine vcMix_same (fun _ _ => trivial) ?_
    refine ⟨rfl, vcStoreN_row _ (.there (.there (.there (.there .here)))) rfl (by simp [oneCell, cellsL]) ?_⟩
    refine vcMix_last (by kernel_rfl) ?_
    refine vcLoadN_0 (Ent.gnO .here (fun w hw => Ob.row_at hw)) rfl ?_
    rw [show a + low.length + (cp - (a + low.length)) = cp from by omega] at hA3
    subst hA3
    have hsl2 : (P.drop (a + low.length)).length = P.length - (a + low.length) := List.length_drop ..
    refine ⟨_, _, MT, .cons (by first | exact .here | exact (.there .here) | exact (.there (.there .here)) | exact (.there (.there (.there .here))) | exact (.there (.there (.there (.there .here)))) | exact (.there (.there (.there (.there (.there .here))))) | exact (.there (.there (.there (.there (.there (.there .here)))))) | exact (.there (.there (.there (.there (.there (.there (.there .here))))))) | exact (.there (.there (.there (.there (.there (.there (.there (.there .here)))))))) | exact (.there (.there (.there (.there (.there (.there (.there (.there (.there .here))))))))) | exact (.there (.there (.there (.there (.there (.there (.there (.there (.there (.there .here)))))))))) | exact (.there (.there (.there (.there (.there (.there (.there (.there (.there (.there (.there .here))))))))))) | exact (.there (.there (.there (.there (.there (.there (.there (.there (.there (.there (.there (.there .here)))))))))))) | exact (.there (.there (.there (.there (.there (.there (.there (.there (.there (.there (.there (.there (.there .here))))))))))))) | exact (.there (.there (.there (.there (.there (.there (.there (.there (.there (.there (.there (.there (.there (.there .here)))))))))))))) | exact (.there (.there (.there (.there (.there (.there (.there (.there (.there (.there (.there (.there (.there (.there (.there .here))))))))))))))) | exact (.there (.there (.there (.there (.there (.there (.there (.there (.there (.there (.there (.there (.there (.there (.there (.there .here)))))))))))))))) | exact (.there (.there (.there (.there (.there (.there (.there (.there (.there (.there (.there (.there (.there (.there (.there (.there (.there .here))))))))))))))))) | exact .none_) .nil, fun _ _ _ => trivial, A4, c4, ?_, rfl, rfl, hc4⟩
    show _ = Value.agg #[.int .u8 f.toNat, .int .i64 ((expandI high part low.length).toNat : Nat), .slice A4 (f :: ((P.take a).drop 1 ++ low)).length c4, .slice _ (P.drop (a + low.length)).length _]
    rw [hsl2, Int.toNat_of_nonneg hrg.1]
    rfl
end Go.Proofs.Ytlaelknibcehdaa
