/- Protecting: the plain part, and what it checks. -/
import Derived.Test.YtlaelknibcehdaaGrdJ
namespace Go.Proofs.Ytlaelknibcehdaa
open Go.Proofs
set_option maxRecDepth 10000

def lowN (n w : Nat) : List UInt8 := (List.range w).map fun j => UInt8.ofNat (n / 256 ^ (w - 1 - j) % 256)
theorem lowN_length (n w : Nat) : (lowN n w).length = w := by simp [lowN]
theorem lowN_get {n w j : Nat} (h : j < w) : (lowN n w)[j]? = some (UInt8.ofNat (n / 256 ^ (w - 1 - j) % 256)) := by simp [lowN, h]
def rawL (key iv head : List UInt8) (n w : Nat) (payload : List UInt8) : List UInt8 := (head ++ lowN n w) ++ (sealL key (nonceL iv n) (head ++ lowN n w) payload).1
def packM (R m : List UInt8) (a w : Nat) : List UInt8 := outU (firstB R m) R m a w
def packL (key iv hp head : List UInt8) (n w : Nat) (payload : List UInt8) : List UInt8 :=
  packM (rawL key iv head n w payload) (maskOf hp (rawL key iv head n w payload) head.length) head.length w
def protE (right : Bool) (hl pl : Nat) (n w : Int) : Int :=
  if right then (if hl = 0 ∨ (pl < 4 ∧ w < 4 - (pl : Int)) then 12 else if w < 1 ∨ 4 < w ∨ n < 0 ∨ 4611686018427387903 < n then 10 else if 16380 < hl ∨ 16380 < pl then 52 else 0) else 70
def protL (right : Bool) (key iv hp head : List UInt8) (n w : Int) (payload : List UInt8) : List UInt8 × Int :=
  if protE right head.length payload.length n w ≠ 0 then ([], protE right head.length payload.length n w) else (packL key iv hp head n.toNat w.toNat payload, 0)
theorem protE_12 {hl pl : Nat} {n w : Int} (h : hl = 0 ∨ (pl < 4 ∧ w < 4 - (pl : Int))) : protE true hl pl n w = 12 := by unfold protE; rw [if_pos rfl, if_pos h]
theorem protE_10 {hl pl : Nat} {n w : Int} (h : ¬ (hl = 0 ∨ (pl < 4 ∧ w < 4 - (pl : Int)))) (h2 : w < 1 ∨ 4 < w ∨ n < 0 ∨ 4611686018427387903 < n) : protE true hl pl n w = 10 := by unfold protE; rw [if_pos rfl, if_neg h, if_pos h2]
theorem protE_52 {hl pl : Nat} {n w : Int} (h : ¬ (hl = 0 ∨ (pl < 4 ∧ w < 4 - (pl : Int)))) (h2 : ¬ (w < 1 ∨ 4 < w ∨ n < 0 ∨ 4611686018427387903 < n)) (h3 : 16380 < hl ∨ 16380 < pl) : protE true hl pl n w = 52 := by unfold protE; rw [if_pos rfl, if_neg h, if_neg h2, if_pos h3]
theorem protE_0 {hl pl : Nat} {n w : Int} (h : ¬ (hl = 0 ∨ (pl < 4 ∧ w < 4 - (pl : Int)))) (h2 : ¬ (w < 1 ∨ 4 < w ∨ n < 0 ∨ 4611686018427387903 < n)) (h3 : ¬ (16380 < hl ∨ 16380 < pl)) : protE true hl pl n w = 0 := by unfold protE; rw [if_pos rfl, if_neg h, if_neg h2, if_neg h3]
theorem protL_e {right : Bool} {key iv hp head : List UInt8} {n w : Int} {payload : List UInt8} {e : Int} (h : protE right head.length payload.length n w = e) (he : e ≠ 0) : protL right key iv hp head n w payload = ([], e) := by subst h; exact if_pos he
theorem protL_ok {right : Bool} {key iv hp head : List UInt8} {n w : Nat} {payload : List UInt8} (h : protE right head.length payload.length n w = 0) : protL right key iv hp head n w payload = (packL key iv hp head n w payload, 0) := if_neg (by omega)
theorem sealL_length {key nonce ad plain : List UInt8} (h : ¬ (255 < key.length ∨ 255 < nonce.length)) (h' : ¬ (16384 < ad.length ∨ 16384 < plain.length)) : (sealL key nonce ad plain).1.length = plain.length + 16 := by
  rw [sealL_ok h h', List.length_append, turnL_length, tagL_length]
theorem nonceL_length (iv : List UInt8) (n : Nat) : (nonceL iv n).length = iv.length := nonceK_length iv n 8
theorem rawL_length {key iv head payload : List UInt8} {n w : Nat} (hk : key.length = 16) (hi : iv.length = 12) (hh : head.length ≤ 16380) (hp : payload.length ≤ 16380) (hw : w ≤ 4) : (rawL key iv head n w payload).length = head.length + w + payload.length + 16 := by
  rw [rawL, List.length_append, sealL_length (by rw [nonceL_length]; omega) (by rw [List.length_append, lowN_length]; omega), List.length_append, lowN_length]; omega

/-- The place 0 of a packet's bytes is its header's. -/
theorem rawL_0 {key iv head payload : List UInt8} {n w : Nat} (h : 1 ≤ head.length) : (rawL key iv head n w payload)[0]? = head[0]? := by
  rw [rawL, List.append_assoc, List.getElem?_append_left (by omega)]

theorem lowN_take_succ {n w j : Nat} (h : j < w) : (lowN n w).take (j + 1) = (lowN n w).take j ++ [UInt8.ofNat (n / 256 ^ (w - 1 - j) % 256)] := by
  rw [List.take_add_one, lowN_get h]; rfl
def lowR (n w t : Nat) : List UInt8 := List.replicate (w - t) 0 ++ (lowN n w).drop (w - t)
theorem lowR_length {n w t : Nat} (h : t ≤ w) : (lowR n w t).length = w := by rw [lowR, List.length_append, List.length_replicate, List.length_drop, lowN_length]; omega
theorem lowR_set {n w t : Nat} (h : t < w) : (lowR n w t).set (w - 1 - t) (UInt8.ofNat (n / 256 ^ t % 256)) = lowR n w (t + 1) := by
  have e1 : w - t = (w - (t + 1)) + 1 := by omega
  have e2 : w - 1 - t = w - (t + 1) := by omega
  have hg := lowN_get (n := n) (w := w) (j := w - (t + 1)) (by omega)
  rw [show w - 1 - (w - (t + 1)) = t from by omega] at hg
  have hd : (lowN n w).drop (w - (t + 1)) = UInt8.ofNat (n / 256 ^ t % 256) :: (lowN n w).drop (w - (t + 1) + 1) := by
    rw [List.drop_eq_getElem_cons (by rw [lowN_length]; omega)]
    rw [List.getElem?_eq_getElem (by rw [lowN_length]; omega)] at hg
    rw [Option.some.inj hg]
  unfold lowR
  rw [e1, e2, List.replicate_succ', List.append_assoc, List.set_append_right _ _ (by rw [List.length_replicate]; exact Nat.le_refl _), List.length_replicate, Nat.sub_self, hd]
  rfl
theorem lowR_all (n w : Nat) : lowR n w w = lowN n w := by simp [lowR]
theorem lowR_0 (n w : Nat) : lowR n w 0 = List.replicate w 0 := by
  rw [lowR, Nat.sub_zero, List.drop_of_length_le (by rw [lowN_length]; omega), List.append_nil]

end Go.Proofs.Ytlaelknibcehdaa
