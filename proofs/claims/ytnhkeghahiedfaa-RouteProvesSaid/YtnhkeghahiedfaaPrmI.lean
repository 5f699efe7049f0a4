/- Masks. -/
import Derived.Test.YtnhkeghahiedfaaPrmH
namespace Go.Proofs.Ytnhkeghahiedfaa
open Go.Proofs
set_option maxRecDepth 10000

/-- The five bytes, the error's number. -/
def maskL (key sample : List UInt8) : List UInt8 × Int :=
  if 255 < key.length then ([0, 0, 0, 0, 0], 70) else if sample.length < 16 then ([0, 0, 0, 0, 0], 12) else ((dig ([3] ++ txt key ++ sample.take 16)).take 5, 0)
theorem maskL_length (key sample : List UInt8) : (maskL key sample).1.length = 5 := by
  unfold maskL
  split
  · rfl
  · split
    · rfl
    · simp [dig_length]
theorem maskL_big {key sample : List UInt8} (h : 255 < key.length) : maskL key sample = ([0, 0, 0, 0, 0], 70) := if_pos h
theorem maskL_short {key sample : List UInt8} (h : ¬ 255 < key.length) (h' : sample.length < 16) : maskL key sample = ([0, 0, 0, 0, 0], 12) := by unfold maskL; rw [if_neg h, if_pos h']
theorem maskL_ok {key sample : List UInt8} (h : ¬ 255 < key.length) (h' : ¬ sample.length < 16) : maskL key sample = ((dig ([3] ++ txt key ++ sample.take 16)).take 5, 0) := by unfold maskL; rw [if_neg h, if_neg h']

end Go.Proofs.Ytnhkeghahiedfaa
