/- Unprotecting undoes protecting. -/
import Derived.Test.YtlaelknibcehdaaGrdO
namespace Go.Proofs.Ytlaelknibcehdaa
open Go.Proofs
set_option maxRecDepth 10000

theorem big7 : ∀ n, n < 256 → (128 ≤ n ↔ n.testBit 7 = true) := by decide
theorem reachB_7 (x : UInt8) : (reachB x).toNat.testBit 7 = false := by
  unfold reachB; split <;> decide
theorem reachB_if {x y : UInt8} (h : 128 ≤ x.toNat ↔ 128 ≤ y.toNat) : reachB x = reachB y := by
  unfold reachB
  by_cases c : 128 ≤ y.toNat
  · rw [if_pos c, if_pos (h.2 c)]
  · rw [if_neg c, if_neg (fun d => c (h.1 d))]
theorem reachB_xor (x y z : UInt8) : reachB (x ^^^ (y &&& reachB z)) = reachB x := by
  refine reachB_if ?_
  rw [big7 x.toNat x.toNat_lt, big7 _ (UInt8.toNat_lt _)]
  rw [UInt8.toNat_xor, UInt8.toNat_and, Nat.testBit_xor, Nat.testBit_and, reachB_7, Bool.and_false, Bool.xor_false]
theorem xor_back (x y : UInt8) : x ^^^ y ^^^ y = x := by rw [UInt8.xor_assoc, UInt8.xor_self, UInt8.xor_zero]

theorem outU_drop {f : UInt8} {P m : List UInt8} {a i j : Nat} (h1 : 1 ≤ a) (ha : a ≤ P.length) (hj : i ≤ j) : (outU f P m a i).drop (a + j) = P.drop (a + j) := by
  rw [outU, List.drop_append, outU_pre h1 ha, List.drop_of_length_le (by rw [outU_pre h1 ha]; omega), List.nil_append, List.drop_drop]
  congr 1; omega
theorem firstB_pack {R m : List UInt8} {a w : Nat} : firstB (packM R m a w) m = R[0]?.getD 0 := by
  have e : (packM R m a w)[0]?.getD 0 = firstB R m := rfl
  unfold firstB at e ⊢
  rw [e, reachB_xor, xor_back]
theorem maskOf_pack {hp R m : List UInt8} {a w : Nat} (h1 : 1 ≤ a) (ha : a ≤ R.length) (hw : w ≤ 4) : maskOf hp (packM R m a w) a = maskOf hp R a := by
  unfold maskOf packM; rw [outU_drop h1 ha hw]
theorem outU_low {f : UInt8} {P m : List UInt8} {a w i : Nat} (h1 : 1 ≤ a) (ha : a ≤ P.length) (hi : i < w) : (outU f P m a w)[a + i]? = some (P[a + i]?.getD 0 ^^^ m[i + 1]?.getD 0) := by
  have hp : (f :: (P.take a).drop 1).length = a := by simp; omega
  rw [outU, show f :: ((P.take a).drop 1 ++ lowL P a m w) = (f :: (P.take a).drop 1) ++ lowL P a m w from rfl, List.append_assoc, List.getElem?_append_right (by omega), hp, Nat.add_sub_cancel_left]
  rw [List.getElem?_append_left (by rw [lowL_length]; exact hi)]
  simp [lowL, hi]
theorem lowL_pack {R m : List UInt8} {a w : Nat} (h1 : 1 ≤ a) (ha : a ≤ R.length) : lowL (packM R m a w) a m w = (List.range w).map fun i => R[a + i]?.getD 0 := by
  unfold lowL
  apply List.map_congr_left
  intro i hi
  rw [packM, outU_low h1 ha (List.mem_range.1 hi), Option.getD_some, xor_back]
theorem rawL_low {key iv head payload : List UInt8} {n w : Nat} : ((List.range w).map fun i => (rawL key iv head n w payload)[head.length + i]?.getD 0) = lowN n w := by
  unfold lowN
  apply List.map_congr_left
  intro i hi
  have hi' := List.mem_range.1 hi
  rw [rawL, List.append_assoc, List.getElem?_append_right (by omega), Nat.add_sub_cancel_left, List.getElem?_append_left (by rw [lowN_length]; exact hi'), lowN_get hi', Option.getD_some]
theorem outU_take {f : UInt8} {P m : List UInt8} {a w : Nat} (h1 : 1 ≤ a) (ha : a ≤ P.length) : ((outU f P m a w).take a).drop 1 = (P.take a).drop 1 := by
  have hp : (f :: (P.take a).drop 1).length = a := by simp; omega
  rw [outU, show f :: ((P.take a).drop 1 ++ lowL P a m w) = (f :: (P.take a).drop 1) ++ lowL P a m w from rfl, List.append_assoc, List.take_left' hp]
  rfl
theorem partN_low (n : Nat) : ∀ w, partN (lowN n w) = n % 256 ^ w
  | 0 => by simp [partN, lowN, Nat.mod_one]
  | w + 1 => by
    have hs : lowN n (w + 1) = lowN (n / 256) w ++ [UInt8.ofNat (n % 256)] := by
      unfold lowN
      rw [List.range_succ, List.map_append]
      congr 1
      · apply List.map_congr_left
        intro j hj
        have hj' := List.mem_range.1 hj
        rw [show w + 1 - 1 - j = (w - 1 - j) + 1 from by omega, Nat.pow_succ, Nat.mul_comm, Nat.div_div_eq_div_mul]
      · simp
    rw [hs, partN_snoc, partN_low (n / 256) w]
    rw [Nat.pow_succ, Nat.mul_comm (256 ^ w) 256, Nat.mod_mul]
    have : (UInt8.ofNat (n % 256)).toNat = n % 256 := by simp
    omega
theorem expandI_back {n w : Nat} (h1 : 1 ≤ w) (h4 : w ≤ 4) (hn : n ≤ 4611686018427387903) : expandI ((n : Int) - 1) ((n % 256 ^ w : Nat) : Int) w = n := by
  have hs := pow256 w h1 h4
  rw [expandI_ok (h := n) (by omega) h1 h4 (by omega) (Nat.mod_lt _ (by omega))]
  have e : n / 256 ^ w * 256 ^ w + n % 256 ^ w = n := Nat.div_add_mod' n (256 ^ w)
  rw [e]
  generalize 256 ^ w = s at *
  rw [if_neg (by omega), if_neg (by omega)]
theorem turn_back (key nonce data : List UInt8) : turnL key nonce (turnL key nonce data) = data := by
  apply List.ext_getElem?
  intro i
  simp only [turnL, List.getElem?_map, List.getElem?_zipIdx, Option.map_map]
  cases h : data[i]? with
  | none => rfl
  | some x => simp [xor_back]
theorem seal_back {key nonce ad data : List UInt8} (h : ¬ (255 < key.length ∨ 255 < nonce.length)) (h' : ¬ (16384 < ad.length ∨ 16384 < data.length)) :
    openL key nonce ad (sealL key nonce ad data).1 = (data, 0) := by
  rw [sealL_ok h h', openL_ok (tagL_length _ _ _ _) h (by rw [turnL_length]; exact h') rfl, turn_back]

/-- What a packet is without its mask. -/
theorem bareL_pack {key iv hp head payload : List UInt8} {n w : Nat} (hk : key.length = 16) (hi : iv.length = 12) (hd : head.length ≤ 16380) (hp2 : payload.length ≤ 16380) (h1 : 1 ≤ w) (h4 : w ≤ 4) {high : Int} (hE : expandI high ((n % 256 ^ w : Nat) : Int) w = n) {x : UInt8} {tl : List UInt8} (hx : head = x :: tl) (hxw : x.toNat % 4 + 1 = w) :
    bareL hp (packL key iv hp head n w payload) head.length high = { first := x, number := n, bound := head ++ lowN n w, sealed := (sealL key (nonceL iv n) (head ++ lowN n w) payload).1 } := by
  have hh1 : 1 ≤ head.length := by rw [hx]; simp
  have hrl := rawL_length (key := key) (iv := iv) (n := n) hk hi hd hp2 h4
  have hr0 := rawL_0 (key := key) (iv := iv) (payload := payload) (n := n) (w := w) hh1
  have hlow := rawL_low (key := key) (iv := iv) (head := head) (payload := payload) (n := n) (w := w)
  have hRt : (rawL key iv head n w payload).take head.length = head := by rw [rawL, List.append_assoc, List.take_left' rfl]
  have hRd : (rawL key iv head n w payload).drop (head.length + w) = (sealL key (nonceL iv n) (head ++ lowN n w) payload).1 := by
    rw [rawL, List.drop_left' (by rw [List.length_append, lowN_length])]
  unfold packL
  generalize rawL key iv head n w payload = R at *
  unfold bareL
  rw [maskOf_pack hh1 (by omega) h4]
  generalize maskOf hp R head.length = m
  have hf : firstB (packM R m head.length w) m = x := by rw [firstB_pack, hr0, hx]; rfl
  unfold bareM
  rw [hf, hxw, lowL_pack hh1 (by omega), hlow, partN_low, hE]
  have e1 : (List.take head.length (packM R m head.length w)).drop 1 = tl := by
    rw [packM, outU_take hh1 (by omega), hRt, hx]; rfl
  have e2 : (packM R m head.length w).drop (head.length + w) = (sealL key (nonceL iv n) (head ++ lowN n w) payload).1 := by
    rw [packM, outU_drop hh1 (by omega) (Nat.le_refl _), hRd]
  rw [e1, e2]
  have e3 : x :: (tl ++ lowN n w) = head ++ lowN n w := by rw [hx]; rfl
  rw [e3]
  rfl
theorem packL_length {key iv hp head payload : List UInt8} {n w : Nat} (hk : key.length = 16) (hi : iv.length = 12) (hh1 : 1 ≤ head.length) (hd : head.length ≤ 16380) (hp2 : payload.length ≤ 16380) (h4 : w ≤ 4) : (packL key iv hp head n w payload).length = head.length + w + payload.length + 16 := by
  have hrl := rawL_length (key := key) (iv := iv) (n := n) hk hi hd hp2 h4
  rw [packL, packM, outU_length hh1 (by omega), hrl]
theorem unseal_pack {key iv head payload : List UInt8} {n w : Nat} (hk : key.length = 16) (hi : iv.length = 12) (hd : head.length ≤ 16380) (hp2 : payload.length ≤ 16380) (h4 : w ≤ 4) {x : UInt8} (hb : badB x = false) :
    unsealL key iv { first := x, number := n, bound := head ++ lowN n w, sealed := (sealL key (nonceL iv n) (head ++ lowN n w) payload).1 } = (payload, 0) := by
  have ho := seal_back (key := key) (nonce := nonceL iv n) (ad := head ++ lowN n w) (data := payload) (by rw [nonceL_length]; omega) (by rw [List.length_append, lowN_length]; omega)
  rw [unsealL_0 (by simp only [ho]) hb]
  simp only [ho]
theorem unprot_pack {key iv hp head payload : List UInt8} {n w : Nat} (hk : key.length = 16) (hi : iv.length = 12) (hd : head.length ≤ 16380) (hp2 : payload.length ≤ 16380) (h1 : 1 ≤ w) (h4 : w ≤ 4) {high : Int} (hhi : -1 ≤ high ∧ high ≤ 4611686018427387903) (hE : expandI high ((n % 256 ^ w : Nat) : Int) w = n) (hwp : 4 ≤ w + payload.length) {x : UInt8} {tl : List UInt8} (hx : head = x :: tl) (hxw : x.toNat % 4 + 1 = w) (hb : badB x = false) :
    unprotL true key iv hp (packL key iv hp head n w payload) head.length high = ((n : Int), payload, x, 0) := by
  have hh1 : 1 ≤ head.length := by rw [hx]; simp
  have hl := packL_length (key := key) (iv := iv) (hp := hp) (n := n) hk hi hh1 hd hp2 h4
  have he : eOf true (packL key iv hp head n w payload).length head.length high = 0 := by
    rw [hl]; exact checkI_0 (by omega) (by omega) (by omega)
  have hba := bareL_pack (hp := hp) hk hi hd hp2 h1 h4 hE hx hxw
  have hu := unseal_pack (key := key) (iv := iv) (n := n) hk hi hd hp2 h4 hb
  rw [unprotL_ok he (by rw [hba, hu]), hba, hu]
end Go.Proofs.Ytlaelknibcehdaa
