/- Turning bytes by the stream. -/
import Derived.Test.YtnhkeghahiedfaaPrmE
namespace Go.Proofs.Ytnhkeghahiedfaa
open Go.Proofs
set_option maxRecDepth 10000

theorem xor_u8 (x y : UInt8) : bitI .xor .u8 (x.toNat : Int) (y.toNat : Int) = ((x ^^^ y).toNat : Int) := by
  rw [bitI_xor (by rw [max_u8]; have := x.toNat_lt; omega) (by rw [max_u8]; have := y.toNat_lt; omega), UInt8.toNat_xor]
theorem block_length (key nonce : List UInt8) (j : Nat) : (block key nonce j).length = 16 := dig_length _
theorem turnL_get (key nonce data : List UInt8) (j r : Nat) (hr : r < 16) (h : 16 * j + r < data.length) : (turnL key nonce data)[16 * j + r]? = some (data[16 * j + r] ^^^ ((block key nonce j)[r]?).getD 0) := by
  have e1 : (16 * j + r) / 16 = j := by omega
  have e2 : (16 * j + r) % 16 = r := by omega
  simp only [turnL, List.getElem?_map, List.getElem?_zipIdx, Nat.zero_add, Option.map_map]
  rw [List.getElem?_eq_getElem h, Option.map_some]
  simp only [Function.comp, e1, e2]
/-- One byte more of a row that is laid from the left. -/
theorem lay_set {T U : List UInt8} {k : Nat} {x : UInt8} (hT : T[k]? = some x) (hU : k < U.length) (hl : T.length = U.length) : (T.take k ++ U.drop k).set k x = T.take (k + 1) ++ U.drop (k + 1) := by
  have hk : k < T.length := by omega
  have hx : T[k] = x := by rw [List.getElem?_eq_getElem hk] at hT; exact Option.some.inj hT
  rw [List.set_append_right _ _ (by rw [List.length_take]; omega), List.length_take, Nat.min_eq_left (by omega), Nat.sub_self]
  rw [List.drop_eq_getElem_cons hU, List.set_cons_zero, List.take_succ_eq_append_getElem hk, hx]
  simp
theorem lay_length (T U : List UInt8) (k : Nat) (hl : T.length = U.length) : (T.take k ++ U.drop k).length = U.length := by simp; omega

theorem turn_spec (Ak An Ad : Option Addr) (ck cn cd : Nat) (key nonce data : List UInt8) (G : Mp) (hk : Ent G (RowAt Ak (Bs key))) (hn : Ent G (RowAt An (Bs nonce))) (hd : Ent G (RowAt Ad (Bs data)))
    (h1 : key.length ≤ 1000000000) (h2 : nonce.length ≤ 1000000000) (h3 : data.length ≤ 1000000000000) :
    Spec Try.prog 47 #[.slice Ak key.length ck, .slice An nonce.length cn, .slice Ad data.length cd] [] G (OwnB (turnL key nonce data)) := by
  refine Spec.intro (args := [_, _, _]) wide Try.func47 rfl Try.call47 (by rfl) (by rfl) (fun w0 hw0 => ?_)
  refine vcMk_nat data.length rfl rfl (by omega) (by omega) (fun bo => ?_)
  intro bh
  refine vcCall_of .nil (short_spec Ak ck key _ (Ent.gnG hk) (by omega)) (fun v own' N' hv => ?_); obtain ⟨A1, c1, rfl, rfl, rfl, hc1⟩ := hv
  have ht1 : (txt key).length = key.length + 1 := by simp [txt]
  have ht2 : (txt nonce).length = nonce.length + 1 := by simp [txt]
  refine vcApp_of (Bs [1]) _ (Bs (txt key)) (.there .here) rfl (by rw [Bs_length, Nat.mul_one]) (by omega) (Bs_one _) (Ent.gnO .here (fun w hw => Ob.sl_at hw)) (by rw [ht1]; omega) (by rw [ht1]; omega) (fun A2 c2 hc2 => ?_)
  refine vcCall_of .nil (short_spec An cn nonce _ (Ent.gnG hn) (by omega)) (fun v own' N' hv => ?_); obtain ⟨A3, c3, rfl, rfl, rfl, hc3⟩ := hv
  refine vcApp_of (Bs [1] ++ Bs (txt key)) _ (Bs (txt nonce)) (.there .here) (by simp only [Bs_length, List.length_append, List.length_singleton, Nat.mul_one]) (by rw [Bs_length, Nat.mul_one]) (by omega) (Bs_one _) (Ent.gnO .here (fun w hw => Ob.sl_at hw)) (by rw [ht1, ht2]; omega) (by rw [ht1, ht2]; omega) (fun A4 c4 hc4 => ?_)
  rw [← Bs_append, ← Bs_append]
  generalize hh : [1] ++ txt key ++ txt nonce = head
  have hhl : 1 + (txt key).length + (txt nonce).length = head.length := by rw [← hh]; simp only [List.length_append, List.length_singleton]
  rw [hhl] at hc4 ⊢
  have hbl : ∀ j, block key nonce j = dig (head ++ word4 j) := fun j => by rw [← hh]; rfl
  have hTl := turnL_length key nonce data
  generalize hT : turnL key nonce data = T at hTl ⊢
  have hTg : ∀ (j r : Nat) (hr : r < 16) (h : 16 * j + r < data.length), T[16 * j + r]? = some (data[16 * j + r] ^^^ ((block key nonce j)[r]?).getD 0) := fun j r hr h => by rw [← hT]; exact turnL_get key nonce data j r hr h
  generalize hZ : List.replicate data.length (0 : UInt8) = Z
  have hZl : Z.length = data.length := by rw [← hZ]; simp
  have hZ' : zerosL data.length [.int .u8 0] = Bs Z := by rw [Bs_zeros, hZ]
  refine vcLoop_of (fun j : Nat => data.length + 16 - 16 * j) (fun j => [(2, .slice Ad data.length cd), (7, .slice (some ⟨bo, 0, none⟩) data.length data.length), (8, .slice A4 head.length c4), (9, .int .i64 (16 * j : Nat))])
    (fun j => [.sl A4 c4 5 1 (Bs head), .sl (some ⟨bo, 0, none⟩) data.length 5 1 (Bs (T.take (16 * j) ++ Z.drop (16 * j)))]) (fun _ => MT) (fun j => 16 * j < data.length + 16) 0 (by omega)
    ⟨rfl, rfl, rfl, rfl, trivial⟩ ⟨_, .cons .here (.cons (.there (.there (by rw [hZ']; exact .here))) .nil)⟩ (fun _ _ => trivial) ?_
  intro j hj
  refine vcIf_dec (fun hlt => ?_) (fun hge => ?_)
  · have hlt' : 16 * j < data.length := by omega
    refine vcQuo_i64 (by omega) ?_
    rw [show ((16 * j : Nat) : Int) / 16 = (j : Nat) from by omega]
    refine vcCall_of .nil (word_spec j _) (fun v own' N' hv => ?_); obtain ⟨A5, c5, rfl, rfl, rfl, hc5⟩ := hv
    intro bp
    have e : pieces [(A4, c4, head), (A5, c5, word4 j)] = head ++ word4 j := by simp [pieces]
    refine vcCall_of .nil (of_spec (some ⟨bp, 0, none⟩) 2 [(A4, c4, head), (A5, c5, word4 j)] _ (Ent.gnO .here (fun w hw => Ob.sl_at hw)) (fun p hp => ?_) (by rw [e, ← hh]; simp [txt, word4]; omega) (by simp)) (fun v own' N' hv => ?_)
    · simp only [List.mem_cons, List.not_mem_nil, or_false] at hp
      rcases hp with rfl | rfl
      · exact (Ent.gnO (.there (.there .here)) (fun w hw => Ob.sl_at hw))
      · exact (Ent.gnO (.there .here) (fun w hw => Ob.sl_at hw))
    rw [e, ← hbl] at hv
    obtain ⟨rfl, rfl, rfl⟩ := hv
    intro bd
    have hbll := block_length key nonce j
    have hbl' : (Bs (block key nonce j)).length = 16 := by rw [Bs_length, hbll]
    refine ⟨hbl', vcStoreN_row _ .here hbl' (Bs_one _) ?_⟩
    have hTj := hTg j
    clear hTg hbl
    generalize block key nonce j = d at hbll hbl' hTj ⊢
    refine vcLoop_of (fun r : Nat => 16 - r) (fun r => [(2, .slice Ad data.length cd), (7, .slice (some ⟨bo, 0, none⟩) data.length data.length), (8, .slice A4 head.length c4), (9, .int .i64 (16 * j : Nat)), (10, .pointer (some ⟨bd, 0, none⟩)), (11, .int .i64 (16 * j + r : Nat))])
      (fun r => [.row bd 82 (Bs d) 16, .sl A4 c4 5 1 (Bs head), .sl (some ⟨bo, 0, none⟩) data.length 5 1 (Bs (T.take (16 * j + r) ++ Z.drop (16 * j + r)))]) (fun _ => MT) (fun r => r ≤ 16 ∧ 16 * j + r ≤ data.length) 0 ⟨by omega, by omega⟩
      ⟨rfl, rfl, rfl, rfl, rfl, rfl, trivial⟩ ⟨_, .cons .here (.cons (.there (.there .here)) (.cons (.there (.there .here)) .nil))⟩ (fun _ _ => trivial) ?_
    rintro r ⟨hr1, hr2⟩
    have hlay := lay_length T Z (16 * j + r) (by omega)
    refine vcFit_i64 (by omega) ?_
    refine vcIf_dec (fun hin => ?_) (fun hout => ?_)
    · have hmin : r < 16 ∧ 16 * j + r < data.length := by
        split at hin <;> omega
      refine vcDraw_mix [0,1,2,3,4,5,6,7,8,9,10,11,12,13] (GN _ _ _) (by kernel_rfl) Ent.refl ?_
      refine vcIdx_nat (16 * j + r) rfl (by first | exact Ent.refl | assumption | exact Ent.gnG (by assumption) | exact Ent.gnG (Ent.gnG (by assumption)) | exact (Ent.gnO .here (fun w hw => Ob.sl_at hw)) | exact (Ent.gnO .here (fun w hw => Ob.row_at hw)) | exact (Ent.gnO (.there .here) (fun w hw => Ob.sl_at hw)) | exact (Ent.gnO (.there .here) (fun w hw => Ob.row_at hw)) | exact (Ent.gnO (.there (.there .here)) (fun w hw => Ob.sl_at hw)) | exact (Ent.gnO (.there (.there .here)) (fun w hw => Ob.row_at hw)) | exact (Ent.gnO (.there (.there (.there .here))) (fun w hw => Ob.sl_at hw)) | exact (Ent.gnO (.there (.there (.there .here))) (fun w hw => Ob.row_at hw)) | exact (Ent.gnO (.there (.there (.there (.there .here)))) (fun w hw => Ob.sl_at hw)) | exact (Ent.gnO (.there (.there (.there (.there .here)))) (fun w hw => Ob.row_at hw)) | exact (Ent.gnO (.there (.there (.there (.there (.there .here))))) (fun w hw => Ob.sl_at hw)) | exact (Ent.gnO (.there (.there (.there (.there (.there .here))))) (fun w hw => Ob.row_at hw))) hmin.2 (by rw [Bs_length]; exact Nat.le_refl _) (fun a ha => ?_)
      subst ha
      refine vcLoad1_row (by first | exact Ent.refl | assumption | exact Ent.gnG (by assumption) | exact Ent.gnG (Ent.gnG (by assumption)) | exact (Ent.gnO .here (fun w hw => Ob.sl_at hw)) | exact (Ent.gnO .here (fun w hw => Ob.row_at hw)) | exact (Ent.gnO (.there .here) (fun w hw => Ob.sl_at hw)) | exact (Ent.gnO (.there .here) (fun w hw => Ob.row_at hw)) | exact (Ent.gnO (.there (.there .here)) (fun w hw => Ob.sl_at hw)) | exact (Ent.gnO (.there (.there .here)) (fun w hw => Ob.row_at hw)) | exact (Ent.gnO (.there (.there (.there .here))) (fun w hw => Ob.sl_at hw)) | exact (Ent.gnO (.there (.there (.there .here))) (fun w hw => Ob.row_at hw)) | exact (Ent.gnO (.there (.there (.there (.there .here)))) (fun w hw => Ob.sl_at hw)) | exact (Ent.gnO (.there (.there (.there (.there .here)))) (fun w hw => Ob.row_at hw)) | exact (Ent.gnO (.there (.there (.there (.there (.there .here))))) (fun w hw => Ob.sl_at hw)) | exact (Ent.gnO (.there (.there (.there (.there (.there .here))))) (fun w hw => Ob.row_at hw))) (Bs_get hmin.2) ?_
      refine vcFit_i64 (by omega) ?_
      refine vcAt_nat r (by omega) hmin.1 ?_
      refine vcLoad1_row (Ent.gnO .here (fun w hw => Ob.row_at hw)) (Bs_get (by omega)) ?_
      refine vcBit_as _ (xor_u8 _ _) ?_
      have hTr := hTj r hmin.1 hmin.2
      rw [List.getElem?_eq_getElem (show r < d.length by omega), Option.getD_some] at hTr
      refine vcIdx_some (16 * j + r) rfl hmin.2 ?_
      refine vcStore1_1 _ _ (.there (.there .here)) rfl (by simp only [Ob.cells, Bs_length, hlay]; omega) rfl ?_
      refine vcMix_last (by kernel_rfl) ?_
      refine vcFit_i64 (by omega) ?_
      refine ⟨r + 1, ⟨by omega, by omega⟩, by omega, ⟨rfl, rfl, rfl, rfl, rfl, rfl, trivial⟩, ⟨[], .cons (.there .here) (.cons (.there .here) (.cons ?_ .nil))⟩, fun _ _ => trivial⟩
      rw [← Nat.add_assoc, ← lay_set hTr (by omega) (by omega), ← Bs_set]
      exact .here
    · have hr : (r = 16 ∨ 16 * j + r = data.length) := by
        split at hout <;> omega
      refine vcFit_i64 (by omega) ?_
      rcases hr with rfl | hr
      · refine ⟨j + 1, by omega, by omega, ⟨rfl, rfl, rfl, rfl, trivial⟩, ⟨_, .cons (.there .here) (.cons (.there .here) .nil)⟩, fun _ _ => trivial⟩
      · refine ⟨j + 1, by omega, by omega, ⟨rfl, rfl, rfl, rfl, trivial⟩, ⟨[.row bd 82 (Bs d) 16], .cons (.there .here) (.cons ?_ .nil)⟩, fun _ _ => trivial⟩
        rw [hr, List.take_of_length_le (show T.length ≤ data.length by omega), List.drop_of_length_le (show Z.length ≤ data.length by omega), List.take_of_length_le (show T.length ≤ 16 * (j + 1) by omega), List.drop_of_length_le (show Z.length ≤ 16 * (j + 1) by omega)]
        exact .there .here
  · rw [List.take_of_length_le (show T.length ≤ 16 * j by omega), List.drop_of_length_le (show Z.length ≤ 16 * j by omega), List.append_nil]
    exact ⟨_, _, MT, .cons (.there .here) .nil, fun _ _ _ => trivial, _, _, by rw [hTl]; rfl, rfl, rfl, by omega⟩

end Go.Proofs.Ytnhkeghahiedfaa
