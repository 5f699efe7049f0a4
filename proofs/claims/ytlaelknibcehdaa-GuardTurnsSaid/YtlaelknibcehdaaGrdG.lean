/- Taking the mask off: the plain part. -/
import Derived.Test.YtlaelknibcehdaaGrdF
namespace Go.Proofs.Ytlaelknibcehdaa
open Go.Proofs
set_option maxRecDepth 10000

def lowL (P : List UInt8) (a : Nat) (m : List UInt8) (w : Nat) : List UInt8 := (List.range w).map fun i => P[a + i]?.getD 0 ^^^ m[i + 1]?.getD 0
def partN (l : List UInt8) : Nat := l.foldl (fun s x => s * 256 + x.toNat) 0
def firstB (P m : List UInt8) : UInt8 := P[0]?.getD 0 ^^^ (m[0]?.getD 0 &&& reachB (P[0]?.getD 0))
def maskOf (hp P : List UInt8) (a : Nat) : List UInt8 := (maskL hp (P.drop (a + 4))).1
def bareM (m P : List UInt8) (a : Nat) (high : Int) : BareL :=
  { first := firstB P m
    number := (expandI high (partN (lowL P a m ((firstB P m).toNat % 4 + 1))) (((firstB P m).toNat % 4 + 1 : Nat) : Int)).toNat
    bound := firstB P m :: ((P.take a).drop 1 ++ lowL P a m ((firstB P m).toNat % 4 + 1))
    sealed := P.drop (a + ((firstB P m).toNat % 4 + 1)) }
def bareL (hp P : List UInt8) (a : Nat) (high : Int) : BareL := bareM (maskOf hp P a) P a high

theorem lowL_length (P : List UInt8) (a : Nat) (m : List UInt8) (w : Nat) : (lowL P a m w).length = w := by simp [lowL]
theorem lowL_succ (P : List UInt8) (a : Nat) (m : List UInt8) (w : Nat) : lowL P a m (w + 1) = lowL P a m w ++ [P[a + w]?.getD 0 ^^^ m[w + 1]?.getD 0] := by simp [lowL, List.range_succ]
theorem partN_snoc (l : List UInt8) (x : UInt8) : partN (l ++ [x]) = partN l * 256 + x.toNat := by simp [partN]
theorem partN_gen (l : List UInt8) : ∀ s, l.foldl (fun s x => s * 256 + x.toNat) s < (s + 1) * 256 ^ l.length := by
  induction l with
  | nil => intro s; simp
  | cons x l ih =>
    intro s
    have h := ih (s * 256 + x.toNat)
    have hx := x.toNat_lt
    have h2 : (s * 256 + x.toNat + 1) * 256 ^ l.length ≤ ((s + 1) * 256) * 256 ^ l.length := Nat.mul_le_mul_right _ (by omega)
    rw [List.foldl_cons, List.length_cons, Nat.pow_succ]
    have e : (s + 1) * (256 ^ l.length * 256) = (s + 1) * 256 * 256 ^ l.length := by rw [Nat.mul_comm (256 ^ l.length) 256, Nat.mul_assoc]
    omega
theorem partN_lt (l : List UInt8) : partN l < 256 ^ l.length := by have := partN_gen l 0; simpa [partN] using this
def outU (f : UInt8) (P m : List UInt8) (a i : Nat) : List UInt8 := f :: ((P.take a).drop 1 ++ lowL P a m i) ++ P.drop (a + i)
theorem outU_pre {f : UInt8} {P m : List UInt8} {a i : Nat} (h1 : 1 ≤ a) (ha : a ≤ P.length) : (f :: ((P.take a).drop 1 ++ lowL P a m i)).length = a + i := by
  simp [lowL_length]; omega
theorem outU_length {f : UInt8} {P m : List UInt8} {a i : Nat} (h1 : 1 ≤ a) (ha : a + i ≤ P.length) : (outU f P m a i).length = P.length := by
  rw [outU, List.length_append, outU_pre h1 (by omega), List.length_drop]; omega
theorem outU_0 {f : UInt8} {P m : List UInt8} {a : Nat} (h1 : 1 ≤ a) (ha : a ≤ P.length) : outU f P m a 0 = P.set 0 f := by
  match P, ha with
  | [], ha => simp at ha; omega
  | x :: P, ha =>
    obtain ⟨b, rfl⟩ : ∃ b, a = b + 1 := ⟨a - 1, by omega⟩
    simp [outU, lowL]
theorem outU_get {f : UInt8} {P m : List UInt8} {a i : Nat} (h1 : 1 ≤ a) (ha : a + i < P.length) : (outU f P m a i)[a + i]? = some P[a + i] := by
  rw [outU, List.getElem?_append_right (by rw [outU_pre h1 (by omega)]; omega), outU_pre h1 (by omega), Nat.sub_self, List.getElem?_drop, Nat.add_zero, List.getElem?_eq_getElem ha]
theorem outU_get' {f : UInt8} {P m : List UInt8} {a i : Nat} (h1 : 1 ≤ a) (ha : a + i < P.length) : (outU f P m a (i + 1))[a + i]? = some (P[a + i]?.getD 0 ^^^ m[i + 1]?.getD 0) := by
  have hp : (f :: (P.take a).drop 1).length = a := by simp; omega
  rw [outU, lowL_succ, show f :: ((P.take a).drop 1 ++ (lowL P a m i ++ [P[a + i]?.getD 0 ^^^ m[i + 1]?.getD 0])) ++ P.drop (a + (i + 1)) = (f :: ((P.take a).drop 1 ++ lowL P a m i)) ++ ([P[a + i]?.getD 0 ^^^ m[i + 1]?.getD 0] ++ P.drop (a + (i + 1))) from by simp]
  rw [List.getElem?_append_right (by rw [outU_pre h1 (by omega)]; omega), outU_pre h1 (by omega), Nat.sub_self]
  rfl
theorem outU_set {f : UInt8} {P m : List UInt8} {a i : Nat} (h1 : 1 ≤ a) (ha : a + i < P.length) : (outU f P m a i).set (a + i) (P[a + i]?.getD 0 ^^^ m[i + 1]?.getD 0) = outU f P m a (i + 1) := by
  rw [outU, List.set_append_right _ _ (by rw [outU_pre h1 (by omega)]; omega), outU_pre h1 (by omega), Nat.sub_self, List.drop_eq_getElem_cons ha, List.set_cons_zero, outU, lowL_succ]
  simp [Nat.add_assoc]

theorem expandI_range {h p w : Nat} {high : Int} (hh : high + 1 = h) (h1 : 1 ≤ w) (h4 : w ≤ 4) (hm : h ≤ 4611686018427387904) (hp : p < 256 ^ w) : 0 ≤ expandI high p w ∧ expandI high p w ≤ 4611686018427387903 := by
  rw [expandI_ok hh h1 h4 hm hp]
  have hs := pow256 w h1 h4
  have hle : h / 256 ^ w * 256 ^ w ≤ h := Nat.div_mul_le_self _ _
  generalize 256 ^ w = s at *
  generalize h / s * s = q at *
  repeat' split
  all_goals omega
theorem Bs_some {l : List UInt8} {i : Nat} {x : UInt8} (h : l[i]? = some x) : (Bs l)[i]? = some (.int .u8 x.toNat) := by simp [Bs, B, h]
theorem and3 (x : UInt8) : (x &&& 3).toNat = x.toNat % 4 := by
  rw [UInt8.toNat_and]; exact Nat.and_two_pow_sub_one_eq_mod x.toNat 2
end Go.Proofs.Ytlaelknibcehdaa
