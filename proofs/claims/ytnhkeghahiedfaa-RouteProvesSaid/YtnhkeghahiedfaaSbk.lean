/- Opening undoes sealing. -/
import Derived.Test.YtnhkeghahiedfaaPrmH
namespace Go.Proofs.Ytnhkeghahiedfaa
open Go.Proofs

theorem xor_back (x y : UInt8) : x ^^^ y ^^^ y = x := by rw [UInt8.xor_assoc, UInt8.xor_self, UInt8.xor_zero]

theorem turn_back (key nonce data : List UInt8) : turnL key nonce (turnL key nonce data) = data := by
  apply List.ext_getElem?
  intro i
  simp only [turnL, List.getElem?_map, List.getElem?_zipIdx, Option.map_map]
  cases h : data[i]? with
  | none => rfl
  | some x => simp [xor_back]
theorem seal_back {key nonce ad data : List UInt8} (h : ¬ (255 < key.length ∨ 255 < nonce.length)) (h' : ¬ (16384 < ad.length ∨ 16384 < data.length)) :
    openL key nonce ad (sealL key nonce ad data).1 = (data, 0) := by
  rw [sealL_ok h h', openL_ok (tagL_length _ _ _ _) h (by rw [turnL_length]; exact h') rfl, turn_back]

theorem sealL_length {key nonce ad plain : List UInt8} (h : ¬ (255 < key.length ∨ 255 < nonce.length)) (h' : ¬ (16384 < ad.length ∨ 16384 < plain.length)) : (sealL key nonce ad plain).1.length = plain.length + 16 := by
  rw [sealL_ok h h', List.length_append, turnL_length, tagL_length]
end Go.Proofs.Ytnhkeghahiedfaa
