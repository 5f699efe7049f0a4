/- Packets under turning keys: the plain part. -/
import Derived.Test.YtlaelknibcehdaaGrdZ
namespace Go.Proofs.Ytlaelknibcehdaa
open Go.Proofs
set_option maxRecDepth 10000

/-- The secrets, each the next one of the last. -/
def secN (s : List UInt8) : Nat → List UInt8
  | 0 => s
  | i + 1 => (nextL (secN s i)).1
theorem nextL_16 {s : List UInt8} (h : s.length = 16) : (nextL s).1.length = 16 ∧ (nextL s).2 = 0 := by
  rw [nextL_ok h]
  exact exp_len (s := s) (lab := [107, 117]) (n := 16) (by omega) (by decide) (by decide)
theorem secN_length {s : List UInt8} (h : s.length = 16) : ∀ i, (secN s i).length = 16
  | 0 => h
  | i + 1 => (nextL_16 (secN_length h i)).1
def hB (i : Nat) : UInt8 := UInt8.ofNat (64 + i % 2 * 4)
theorem hB_cases (i : Nat) : (i % 2 = 0 ∧ hB i = 64) ∨ (i % 2 = 1 ∧ hB i = 68) := by
  unfold hB
  rcases Nat.mod_two_eq_zero_or_one i with h | h
  · exact .inl ⟨h, by rw [h]; rfl⟩
  · exact .inr ⟨h, by rw [h]; rfl⟩
def pktI (s : List UInt8) (i m : Nat) : List UInt8 := packL (kKey (secN s i)) (kIv (secN s i)) (kHp s) [hB i, 9] i 1 (List.replicate m 0)
/-- An opener behind the packet of a round. -/
def stI (s : List UInt8) : Nat → OpL
  | 0 => ⟨kHp s, s, [], 0⟩
  | i + 1 => ⟨kHp s, secN s (i + 1), secN s i, (i + 1) % 2⟩
def stB (s : List UInt8) : Nat → OpL
  | 0 => stI s 0
  | i + 1 => stI s i
theorem stI_hp (s : List UInt8) (i : Nat) : (stI s i).hp = kHp s := by cases i <;> rfl
theorem stI_now (s : List UInt8) (i : Nat) : (stI s i).now = secN s i := by cases i <;> rfl
theorem stI_phase (s : List UInt8) (i : Nat) : (stI s i).phase = i % 2 := by cases i <;> rfl
theorem stB_16 {s : List UInt8} (h : s.length = 16) (i : Nat) : (stB s i).now.length = 16 := by
  cases i with
  | zero => exact h
  | succ i => show (stI s i).now.length = 16; rw [stI_now]; exact secN_length h i

theorem exp40 : ∀ j : Nat, j < 41 → expandI (j : Int) ((j % 256 ^ 1 : Nat) : Int) 1 = j := by decide +kernel
theorem bare_pkt {s : List UInt8} (h : s.length = 16) {i m : Nat} (hm : m ≤ 16380) {high : Int} (hE : expandI high ((i % 256 ^ 1 : Nat) : Int) (1 : Nat) = i) :
    bareL (kHp s) (pktI s i m) 2 high = { first := hB i, number := i, bound := [hB i, 9] ++ lowN i 1, sealed := (sealL (kKey (secN s i)) (nonceL (kIv (secN s i)) i) ([hB i, 9] ++ lowN i 1) (List.replicate m 0)).1 } := by
  have h16 := secN_length h i
  exact bareL_pack (key := kKey (secN s i)) (iv := kIv (secN s i)) (hp := kHp s) (head := [hB i, 9]) (payload := List.replicate m 0) (n := i) (w := 1) (kKey_length h16) (kIv_length h16) (by simp) (by simpa using hm) (by decide) (by decide) hE (x := hB i) (tl := [9]) rfl (by
    rcases hB_cases i with ⟨_, e⟩ | ⟨_, e⟩ <;> rw [e] <;> decide)
theorem try_pkt {s : List UInt8} (h : s.length = 16) {i m : Nat} (hm : m ≤ 16380) {high : Int} (hE : expandI high ((i % 256 ^ 1 : Nat) : Int) (1 : Nat) = i) :
    tryL (secN s i) (bareL (kHp s) (pktI s i m) 2 high) = (List.replicate m 0, 0) := by
  have h16 := secN_length h i
  rw [tryL_ok h16, bare_pkt h hm hE]
  exact unseal_pack (kKey_length h16) (kIv_length h16) (by simp) (by simpa using hm) (by decide) (by
    rcases hB_cases i with ⟨_, e⟩ | ⟨_, e⟩ <;> rw [e] <;> decide)
theorem pktI_length {s : List UInt8} (h : s.length = 16) {i m : Nat} (hm : m ≤ 16380) : (pktI s i m).length = m + 19 := by
  have h16 := secN_length h i
  unfold pktI
  rw [packL_length (kKey_length h16) (kIv_length h16) (by simp) (by simp) (by simpa using hm) (by decide)]
  simp; omega
theorem first_pkt {s : List UInt8} (h : s.length = 16) {i m : Nat} (hm : m ≤ 16380) {high : Int} (hE : expandI high ((i % 256 ^ 1 : Nat) : Int) (1 : Nat) = i) : (bareL (kHp s) (pktI s i m) 2 high).first.toNat / 4 % 2 = i % 2 ∧ (bareL (kHp s) (pktI s i m) 2 high).number = i := by
  rw [bare_pkt h hm hE]
  refine ⟨?_, rfl⟩
  show (hB i).toNat / 4 % 2 = i % 2
  rcases hB_cases i with ⟨e1, e⟩ | ⟨e1, e⟩ <;> rw [e, e1] <;> decide

/-- The packet of a round is opened. -/
theorem open_now {s : List UInt8} (h : s.length = 16) {i m : Nat} (hi : i ≤ 40) (h4 : 4 ≤ m) (hm : m ≤ 16380) :
    openS (stB s i) (pktI s i m) 2 ((i : Int) - 1) = (stI s i, (i : Int), List.replicate m 0, 0) := by
  have hE : expandI ((i : Int) - 1) ((i % 256 ^ 1 : Nat) : Int) (1 : Nat) = i := expandI_back (by decide) (by decide) (by omega)
  have hl := pktI_length h (i := i) hm
  have hc : checkI (pktI s i m).length 2 ((i : Int) - 1) = 0 := by rw [hl]; exact checkI_0 (by omega) (by omega) (by omega)
  obtain ⟨hf, hn⟩ := first_pkt h hm hE
  have ht := try_pkt h hm hE
  unfold openS
  rw [if_neg (by omega)]
  have e2 : (2 : Int).toNat = 2 := rfl
  rw [e2]
  cases i with
  | zero =>
    show openB (stI s 0) (bareL (kHp s) (pktI s 0 m) 2 (((0 : Nat) : Int) - 1)) = _
    generalize bareL (kHp s) (pktI s 0 m) 2 (((0 : Nat) : Int) - 1) = b at *
    unfold openB
    rw [if_pos (show b.first.toNat / 4 % 2 = (stI s 0).phase from hf), show (stI s 0).now = secN s 0 from rfl, ht]
    unfold ansL
    rw [if_neg (fun e => e rfl), hn]
  | succ i =>
    show openB (stI s i) (bareL (stI s i).hp (pktI s (i + 1) m) 2 (((i + 1 : Nat) : Int) - 1)) = _
    rw [stI_hp]
    generalize bareL (kHp s) (pktI s (i + 1) m) 2 (((i + 1 : Nat) : Int) - 1) = b at *
    have hnx : (nextL (stI s i).now).1 = secN s (i + 1) := by rw [stI_now]; rfl
    unfold openB
    rw [if_neg (by rw [stI_phase, hf]; omega), hnx, ht, if_pos rfl]
    unfold ansL
    rw [if_neg (fun e => e rfl), hn, hf]
    show (({ hp := (stI s i).hp, now := secN s (i + 1), old := (stI s i).now, phase := (i + 1) % 2 } : OpL), _) = _
    rw [stI_hp, stI_now]
    rfl
/-- The last packet of the former keys is opened too. -/
theorem open_late {s : List UInt8} (h : s.length = 16) {i m : Nat} (hi : i + 1 ≤ 40) (h4 : 4 ≤ m) (hm : m ≤ 16380) (h71 : (tryL (nextL (secN s (i + 1))).1 (bareL (kHp s) (pktI s i m) 2 (((i + 1 : Nat) : Int) - 1))).2 = 71) :
    openS (stI s (i + 1)) (pktI s i m) 2 (((i + 1 : Nat) : Int) - 1) = (stI s (i + 1), (i : Int), List.replicate m 0, 0) := by
  have e1 : ((i + 1 : Nat) : Int) - 1 = i := by omega
  rw [e1] at h71 ⊢
  have hE : expandI (i : Int) ((i % 256 ^ 1 : Nat) : Int) (1 : Nat) = i := exp40 i (by omega)
  have hl := pktI_length h (i := i) hm
  have hc : checkI (pktI s i m).length 2 (i : Int) = 0 := by rw [hl]; exact checkI_0 (by omega) (by omega) (by omega)
  obtain ⟨hf, hn⟩ := first_pkt h hm hE
  have ht := try_pkt h hm hE
  unfold openS
  rw [if_neg (by omega), show (2 : Int).toNat = 2 from rfl]
  show openB (stI s (i + 1)) (bareL (kHp s) (pktI s i m) 2 (i : Int)) = _
  generalize bareL (kHp s) (pktI s i m) 2 (i : Int) = b at *
  have hnx : (nextL (stI s (i + 1)).now).1 = (nextL (secN s (i + 1))).1 := rfl
  unfold openB
  rw [if_neg (by rw [stI_phase, hf]; omega), hnx, if_neg (by rw [h71]; decide), if_pos h71, show (stI s (i + 1)).old = secN s i from rfl, ht]
  unfold ansL
  rw [if_neg (fun e => e rfl), hn]
theorem prot_pkt {s : List UInt8} {i m : Nat} (hi : i ≤ 40) (h4 : 4 ≤ m) (hm : m ≤ 16380) : protL true (kKey (secN s i)) (kIv (secN s i)) (kHp s) [hB i, 9] (i : Int) ((1 : Nat) : Int) (List.replicate m 0) = (pktI s i m, 0) :=
  protL_ok (protE_0 (by simp; omega) (by omega) (by simp; omega))
theorem and63 (n : Int) : ∃ m : Nat, m ≤ 63 ∧ bitI .and .i64 n 63 = m := by
  have h : (BitVec.ofInt IntKind.i64.bits n &&& BitVec.ofInt IntKind.i64.bits 63).toNat ≤ 63 := by
    rw [BitVec.toNat_and]
    exact Nat.and_le_right
  exact ⟨_, h, wrap_in .i64 _ (by have := min_le .i64; omega) (by rw [max_i64]; omega)⟩
end Go.Proofs.Ytlaelknibcehdaa
