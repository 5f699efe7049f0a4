/- Taking the mask off. -/
import Derived.Test.YtlaelknibcehdaaGrdG
namespace Go.Proofs.Ytlaelknibcehdaa
open Go.Proofs
set_option maxRecDepth 10000

def GetBare (b : BareL) (v : Value) (own : List Ob) (N : Mp) : Prop := ∃ A1 c1 A2 c2, v = bareV b A1 c1 A2 c2 ∧ own = [] ∧ Ent N (RowAt A1 (Bs b.bound)) ∧ Ent N (RowAt A2 (Bs b.sealed)) ∧ b.bound.length ≤ c1 ∧ b.sealed.length ≤ c2

set_option maxHeartbeats 1000000 in
theorem unmask_spec (Ah Ap : Option Addr) (ch cp : Nat) (hp P : List UInt8) (a : Nat) (high : Int) (G : Mp) (hh : Ent G (RowAt Ah (Bs hp))) (hP : Ent G (RowAt Ap (Bs P))) (hcp : P.length ≤ cp)
    (h1 : 1 ≤ a) (h2 : a + 20 ≤ P.length) (h3 : P.length ≤ 32800) (h4 : -1 ≤ high) (h5 : high ≤ 4611686018427387903) :
    Spec Try.prog 44 #[.slice Ah hp.length ch, .slice Ap P.length cp, .int .i64 a, .int .i64 high] [] G (GetBare (bareL hp P a high)) := by
  refine Spec.intro (args := [_, _, _, _]) wide Try.func44 rfl Try.call44 (by rfl) (by rfl) (fun w0 hw0 => ?_)
  intro bo
  refine vcFit_i64 (by omega) ?_
  refine vcSlice3_as (a + 4) (P.length - (a + 4)) (cp - (a + 4)) (by omega) (by omega) (by omega) (by omega) (by omega) (fun A1 hA1 => ?_)
  have hs : Ent G (RowAt A1 (Bs (P.drop (a + 4)))) := hP.mono fun w hw => hw.bytes hA1 (by omega) (by rw [List.take_length])
  have hsl : (P.drop (a + 4)).length = P.length - (a + 4) := by simp
  rw [← hsl]
  refine vcCall_of .nil (mask_spec Ah A1 ch (cp - (a + 4)) hp (P.drop (a + 4)) _ (Ent.gnG hh) (Ent.gnG hs) (by omega)) (fun v own' N' hv => ?_)
  obtain ⟨rfl, rfl, rfl⟩ := hv
  intro bm
  have hml : (maskOf hp P a).length = 5 := maskL_length _ _
  unfold bareL
  rw [show (maskL hp (P.drop (a + 4))).1 = maskOf hp P a from rfl]
  generalize (maskL hp (P.drop (a + 4))).2 = e0
  generalize maskOf hp P a = m at hml ⊢
  have hml' : (Bs m).length = 5 := by rw [Bs_length, hml]
  refine ⟨hml', vcStoreN_row _ .here hml' (Bs_one _) ?_⟩
  refine vcCall_of .nil (clone_spec Ap cp P _ (Ent.gnG hP) (by omega)) (fun v own' N' hv => ?_); obtain ⟨A, c, rfl, rfl, rfl, hc⟩ := hv
  refine vcDraw_mix [0,1,2,3,4,5,6,7,8,9,10,11,12] (fun w => RowAt A (Bs P) w ∧ RowAt (some ⟨bm, 0, none⟩) (Bs m) w) (by kernel_rfl) (fun w hw => ⟨(Ent.gnO .here (fun w hw => Ob.sl_at hw)) w hw, (Ent.gnO (.there .here) (fun w hw => Ob.row_at hw)) w hw⟩) ?_
  refine vcIdx_nat 0 rfl (fun w hw => hw.1) (by omega) (by rw [Bs_length]; exact Nat.le_refl _) (fun aa haa => ?_)
  subst haa
  refine vcLoad1_row (fun w hw => hw.1) (Bs_get (show 0 < P.length by omega)) ?_
  refine vcAt_nat 0 rfl (by omega) ?_
  refine vcLoad1_row (fun w hw => hw.2) (Bs_get (show 0 < m.length by omega)) ?_
  refine vcIdx_some 0 rfl (by omega) ?_
  refine vcLoad1_row (fun w hw => hw.1) (Bs_get (show 0 < P.length by omega)) ?_
  refine vcCall_of .nil (reach_spec _ _) (fun v own' N' hv => ?_); obtain ⟨rfl, rfl, rfl⟩ := hv
  refine vcMix_same (fun w hw => ⟨(Ent.gnO .here (fun w hw => Ob.sl_at hw)) w hw, (Ent.gnO (.there .here) (fun w hw => Ob.row_at hw)) w hw⟩) ?_
  refine vcBit_as _ (and_u8 _ _) ?_
  refine vcBit_as _ (xor_u8 _ _) ?_
  refine vcIdx_some 0 rfl (by omega) ?_
  refine vcStore1_1 _ _ .here rfl (by simp only [Ob.cells, Bs_length]; omega) rfl ?_
  refine vcMix_last (by kernel_rfl) ?_
  have hf : P[0] ^^^ (m[0] &&& reachB P[0]) = firstB P m := by unfold firstB; rw [getD_at (by omega), getD_at (by omega)]
  rw [hf]
  unfold bareM
  generalize hfE : firstB P m = f
  have hrow : Ob.set (.sl (some aa) c 5 1 (Bs P)) (0 + 0) (.int .u8 f.toNat) = .sl (some aa) c 5 1 (Bs (outU f P m a 0)) := by
    rw [outU_0 h1 (by omega), ← Bs_set]; rfl
  rw [hrow]
  have hl0 := outU_length (f := f) (P := P) (m := m) (i := 0) h1 (by omega)
  have hx := f.toNat_lt
  have hg0 : (outU f P m a 0)[0]? = some f := rfl
  refine vcIdx_some 0 rfl (by omega) ?_
  refine vcLoad1_row (Ent.gnO .here (fun w hw => Ob.sl_at hw)) (Bs_some hg0) ?_
  refine vcBit_as _ (and_u8 f 3) ?_
  rw [and3]
  refine vcFit_i64 (by omega) ?_
  refine vcFit_i64 (by omega) ?_
  rw [show ((f.toNat % 4 : Nat) : Int) + 1 = ((f.toNat % 4 + 1 : Nat) : Int) from by omega]
  have hwr : 1 ≤ f.toNat % 4 + 1 ∧ f.toNat % 4 + 1 ≤ 4 := by omega
  generalize f.toNat % 4 + 1 = wd at hwr ⊢
  refine vcLoop_of (fun i : Nat => wd - i) (fun i => [(2, .int .i64 a), (3, .int .i64 high), (8, .pointer (some ⟨bo, 0, none⟩)), (9, .pointer (some ⟨bm, 0, none⟩)), (11, .slice (some aa) P.length c), (12, .int .i64 wd), (13, .int .i64 (partN (lowL P a m i))), (44, .int .i64 wd), (45, .int .i64 i)])
    (fun i => [.sl (some aa) c 5 1 (Bs (outU f P m a i)), .row bm 77 (Bs m) 5, .row bo 89 [.int .u8 0, .int .i64 0, .slice none 0 0, .slice none 0 0] 4]) (fun _ => MT) (fun i => i ≤ wd) 0 (Nat.zero_le _)
    ⟨rfl, rfl, rfl, rfl, rfl, rfl, rfl, rfl, rfl, trivial⟩ ⟨_, .cons .here (.cons .here (.cons .here .nil))⟩ (fun _ _ => trivial) ?_
  intro i hi
  have hpl : partN (lowL P a m i) < 4294967296 := by
    have h := partN_lt (lowL P a m i)
    rw [lowL_length] at h
    exact Nat.lt_of_lt_of_le h (Nat.le_trans (Nat.pow_le_pow_right (by omega) (show i ≤ 4 by omega)) (by decide))
  have hli := outU_length (f := f) (P := P) (m := m) (i := i) h1 (by omega)
  refine vcIf_dec (fun hlt => ?_) (fun hge => ?_)
  · have hi' : i < wd := by omega
    have hpl' : partN (lowL P a m i) < 16777216 := by
      have h := partN_lt (lowL P a m i)
      rw [lowL_length] at h
      exact Nat.lt_of_lt_of_le h (Nat.le_trans (Nat.pow_le_pow_right (by omega) (show i ≤ 3 by omega)) (by decide))
    have hst := outU_set (f := f) (P := P) (m := m) (i := i) h1 (by omega)
    have hgt := outU_get' (f := f) (P := P) (m := m) (i := i) h1 (by omega)
    have hls := lowL_succ P a m i
    have hli' := outU_length (f := f) (P := P) (m := m) (i := i + 1) h1 (by omega)
    rw [getD_at (show a + i < P.length by omega), getD_at (show i + 1 < m.length by omega)] at hst hgt hls
    refine vcDraw_mix [0,1,2,3,4,5,6,7,8,9,10,11,12] (GN _ _ _) (by kernel_rfl) Ent.refl ?_
    refine vcFit_i64 (by omega) ?_
    refine vcIdx_some (a + i) (by omega) (by omega) ?_
    refine vcLoad1_row (Ent.gnO .here (fun w hw => Ob.sl_at hw)) (Bs_some (outU_get h1 (by omega))) ?_
    refine vcFit_i64 (by omega) ?_
    refine vcAt_nat (i + 1) (by omega) (by omega) ?_
    refine vcLoad1_row (Ent.gnO (.there .here) (fun w hw => Ob.row_at hw)) (Bs_get (by omega)) ?_
    refine vcBit_as _ (xor_u8 _ _) ?_
    refine vcIdx_some (a + i) (by omega) (by omega) ?_
    refine vcStore1_1 _ _ .here rfl (by simp only [Ob.cells, Bs_length]; omega) rfl ?_
    refine vcMix_last (by kernel_rfl) ?_
    have hrow : Ob.set (.sl (some aa) c 5 1 (Bs (outU f P m a i))) (a + i + 0) (.int .u8 (P[a + i] ^^^ m[i + 1]).toNat) = .sl (some aa) c 5 1 (Bs (outU f P m a (i + 1))) := by
      rw [← hst, ← Bs_set]; rfl
    rw [hrow]
    have hx := (P[a + i] ^^^ m[i + 1]).toNat_lt
    refine vcShl_lit 8 rfl (show 8 ≤ 64 by omega) ?_
    refine vcFit_i64 (by omega) ?_
    refine vcFit_i64 (by omega) ?_
    refine vcIdx_some (a + i) (by omega) (by omega) ?_
    refine vcLoad1_row (Ent.gnO .here (fun w hw => Ob.sl_at hw)) (Bs_some hgt) ?_
    refine vcFit_i64 (by omega) ?_
    have hor : bitI .or .i64 ((partN (lowL P a m i) : Int) * 2 ^ 8) ((P[a + i] ^^^ m[i + 1]).toNat : Int) = ((partN (lowL P a m (i + 1)) : Nat) : Int) := by
      rw [show ((partN (lowL P a m i) : Int) * 2 ^ 8) = ((partN (lowL P a m i) * 2 ^ 8 : Nat) : Int) from by omega]
      rw [bitI_or (by rw [max_i64]; omega) (by rw [max_i64]; omega), or_low _ _ _ (by omega), hls, partN_snoc]
    refine vcBit_as _ hor ?_
    refine vcFit_i64 (by omega) ?_
    refine ⟨i + 1, by omega, by omega, ⟨rfl, rfl, rfl, rfl, rfl, rfl, rfl, rfl, rfl, trivial⟩, ⟨_, .cons .here (.cons .here (.cons .here .nil))⟩, fun _ _ => trivial⟩
  · have : i = wd := by omega
    subst this
    obtain ⟨hN, hhN⟩ := Int.eq_ofNat_of_zero_le (show 0 ≤ high + 1 by omega)
    have hplt := partN_lt (lowL P a m i)
    rw [lowL_length] at hplt
    have hrg := expandI_range hhN (by omega) (by omega) (by omega) hplt
    have hpre : (f :: ((P.take a).drop 1 ++ lowL P a m i)).length = a + i := outU_pre h1 (by omega)
    refine vcDraw_mix [0,1,2,3,4,5,7,8,9,10,11,12,13,14,15,16,17,18,19,6,20,21] (RowAt (some aa) (Bs (outU f P m a i))) (by kernel_rfl) (Ent.gnO .here (fun w hw => Ob.sl_at hw)) ?_
    refine vcIdx_some 0 rfl (by omega) ?_
    refine vcLoad1_row Ent.refl (Bs_some (show (outU f P m a i)[0]? = some f from rfl)) ?_
    refine vcFit_i64 (by omega) ?_
    refine vcFit_i64 (by omega) ?_
    refine vcSlice3_as 0 (a + i) (a + i) rfl (by omega) (by omega) (by omega) (by omega) (fun A2 hA2 => ?_)
    refine vcFit_i64 (by omega) ?_
    refine vcSlice3_as (a + i) (P.length - (a + i)) (c - (a + i)) (by omega) (by omega) (by omega) (by omega) (by omega) (fun A3 hA3 => ?_)
    refine vcCall_of .nil (hexpand_spec high (partN (lowL P a m i)) i (by omega) (by omega) _) (fun v own' N' hv => ?_); obtain ⟨rfl, rfl, rfl⟩ := hv
    refine vcMix_same (Ent.gnO .here (fun w hw => Ob.sl_at hw)) ?_
    refine ⟨rfl, vcStoreN_row _ (.there (.there .here)) rfl (by simp [oneCell, cellsL]) ?_⟩
    refine vcMix_last (by kernel_rfl) ?_
    refine vcLoadN_0 (Ent.gnO .here (fun w hw => Ob.row_at hw)) rfl ?_
    have hsl2 : (P.drop (a + i)).length = P.length - (a + i) := List.length_drop ..
    refine ⟨[], _, fun w => RowAt A2 (Bs (f :: ((P.take a).drop 1 ++ lowL P a m i))) w ∧ RowAt A3 (Bs (P.drop (a + i))) w, .nil, fun w _ ho => ?_, A2, a + i, A3, c - (a + i), ?_, rfl, fun w h => h.1, fun w h => h.2, ?_, ?_⟩
    · have hr := Ob.sl_at (ho _ (List.mem_cons_of_mem _ (List.mem_cons_self ..)))
      refine ⟨?_, hr.bytes hA3 (by omega) (by rw [outU, List.drop_left' hpre, List.take_length])⟩
      have hA : A2 = some aa := hA2.trans (cutA_zero _ _ _)
      subst hA
      have h' := hr.take (a + i)
      rw [← Bs_take, outU, List.take_left' hpre] at h'
      exact h'
    · show _ = Value.agg #[.int .u8 f.toNat, .int .i64 ((expandI high (partN (lowL P a m i)) i).toNat : Nat), .slice A2 (f :: ((P.take a).drop 1 ++ lowL P a m i)).length (a + i), .slice A3 (P.drop (a + i)).length (c - (a + i))]
      rw [hpre, hsl2, Int.toNat_of_nonneg hrg.1]
      rfl
    · show (f :: ((P.take a).drop 1 ++ lowL P a m i)).length ≤ _
      omega
    · show (P.drop (a + i)).length ≤ _
      omega
end Go.Proofs.Ytlaelknibcehdaa
