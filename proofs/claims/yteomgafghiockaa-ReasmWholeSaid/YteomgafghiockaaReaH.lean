/- A reassembly buffer, plain: which byte lies where. -/
import Derived.Test.YteomgafghiockaaReaG
namespace Go.Proofs.Yteomgafghiockaa
open Go.Proofs
set_option maxRecDepth 10000

/-- The byte at a place. -/
def mAt : List Pc → Int → Option UInt8
  | [], _ => none
  | p :: r, k => if p.1 ≤ k ∧ k < pEnd p then p.2[(k - p.1).toNat]? else mAt r k
theorem mAt_in {p : Pc} {r : List Pc} {k : Int} (h : p.1 ≤ k ∧ k < pEnd p) : mAt (p :: r) k = p.2[(k - p.1).toNat]? := if_pos h
theorem mAt_out {p : Pc} {r : List Pc} {k : Int} (h : ¬ (p.1 ≤ k ∧ k < pEnd p)) : mAt (p :: r) k = mAt r k := if_neg h
theorem mAt_some {p : Pc} {k : Int} (h : p.1 ≤ k ∧ k < pEnd p) : ∃ v, p.2[(k - p.1).toNat]? = some v := by
  unfold pEnd at h
  exact ⟨_, List.getElem?_eq_getElem (by omega)⟩
theorem mAt_app {a b : List Pc} {k : Int} : mAt (a ++ b) k = (mAt a k).or (mAt b k) := by
  induction a with
  | nil => rfl
  | cons p r ih =>
    rw [List.cons_append]
    by_cases h : p.1 ≤ k ∧ k < pEnd p
    · obtain ⟨v, hv⟩ := mAt_some h
      rw [mAt_in h, mAt_in h, hv]; rfl
    · rw [mAt_out h, mAt_out h, ih]
theorem Chain.below {hi : Int} : ∀ {ps : List Pc} {lo k : Int}, Chain hi lo ps → k < lo → mAt ps k = none
  | [], _, _, _, _ => rfl
  | p :: r, lo, k, ⟨h1, h2, h3⟩, h => by
    rw [mAt_out (by omega)]
    exact h3.below (by unfold pEnd; omega)
theorem Chain.above {hi : Int} : ∀ {ps : List Pc} {lo k : Int}, Chain hi lo ps → hi ≤ k → mAt ps k = none
  | [], _, _, _, _ => rfl
  | p :: r, lo, k, ⟨h1, h2, h3⟩, h => by
    have := h3.le
    rw [mAt_out (by omega)]
    exact h3.above h
theorem gap1_at {at_ : Int} {d : List UInt8} {lo hi k : Int} (h1 : at_ ≤ lo) (h3 : hi ≤ at_ + d.length) : mAt (gap1 at_ d lo hi) k = if lo ≤ k ∧ k < hi then d[(k - at_).toNat]? else none := by
  unfold gap1
  by_cases h : lo < hi
  · rw [if_pos h]
    have hl := cutD_len (at_ := at_) (d := d) h1 (by omega) h3
    have he : pEnd (cutD at_ d lo hi) = hi := by
      unfold pEnd
      rw [hl]
      show lo + (hi - lo) = hi
      omega
    by_cases hk : lo ≤ k ∧ k < hi
    · rw [if_pos hk, mAt_in ⟨hk.1, by rw [he]; exact hk.2⟩]
      show ((d.drop (lo - at_).toNat).take (hi - lo).toNat)[(k - lo).toNat]? = _
      rw [List.getElem?_take_of_lt (by omega), List.getElem?_drop]
      congr 1
      omega
    · rw [if_neg hk, mAt_out (by rw [he]; exact hk)]; rfl
  · rw [if_neg h, if_neg (by omega)]; rfl
/-- Where a new piece gives bytes. -/
theorem insP_at {at_ : Int} {d : List UInt8} {e hi : Int} (he : e = at_ + d.length) : ∀ {ps : List Pc} {lo place k : Int}, Chain hi lo ps → at_ ≤ place → lo ≤ place → mAt (insP at_ d e place ps) k = (mAt ps k).or (if place ≤ k ∧ k < e then d[(k - at_).toNat]? else none)
  | [], lo, place, k, h, h1, h2 => by
    show mAt (gap1 at_ d place e) k = _
    rw [gap1_at h1 (by omega)]; rfl
  | p :: r, lo, place, k, ⟨h3, h4, h5⟩, h1, h2 => by
    unfold insP
    split
    · rename_i hle
      rw [mAt_app, gap1_at h1 (by omega)]
      by_cases hk : place ≤ k ∧ k < e
      · rw [if_pos hk, mAt_out (by omega), h5.below (by unfold pEnd; omega)]
        obtain ⟨v, hv⟩ : ∃ v, d[(k - at_).toNat]? = some v := ⟨_, List.getElem?_eq_getElem (by omega)⟩
        rw [hv]; rfl
      · rw [if_neg hk]
        cases mAt (p :: r) k <;> rfl
    · rename_i hle
      rw [mAt_app, gap1_at h1 (by omega)]
      have ih := insP_at he (k := k) (place := max place (pEnd p)) h5 (by omega) (by omega)
      by_cases hk : place ≤ k ∧ k < p.1
      · rw [if_pos hk, mAt_out (p := p) (r := r) (by omega), h5.below (by unfold pEnd; omega), if_pos (by omega)]
        obtain ⟨v, hv⟩ : ∃ v, d[(k - at_).toNat]? = some v := ⟨_, List.getElem?_eq_getElem (by omega)⟩
        rw [hv]; rfl
      · rw [if_neg hk]
        by_cases hp : p.1 ≤ k ∧ k < pEnd p
        · obtain ⟨v, hv⟩ := mAt_some hp
          rw [mAt_in hp, mAt_in hp, hv]; rfl
        · rw [mAt_out hp, mAt_out hp, ih]
          by_cases hq : max place (pEnd p) ≤ k ∧ k < e
          · rw [if_pos hq, if_pos (by omega)]; rfl
          · rw [if_neg hq]
            by_cases hq2 : place ≤ k ∧ k < e
            · have : False := by
                unfold pEnd at *
                omega
              exact this.elim
            · rw [if_neg hq2]; rfl
/-- How far the bytes go without a gap. -/
theorem readyP_at {hi : Int} : ∀ {ps : List Pc} {at_ : Int}, Chain hi at_ ps → (∀ k, at_ ≤ k → k < readyP at_ ps → ∃ v, mAt ps k = some v) ∧ mAt ps (readyP at_ ps) = none
  | [], at_, _ => ⟨fun k h1 h2 => by simp only [readyP] at h2; omega, rfl⟩
  | p :: r, at_, ⟨h1, h2, h3⟩ => by
    by_cases h : p.1 = at_
    · have e : readyP at_ (p :: r) = readyP (pEnd p) r := if_pos h
      obtain ⟨i1, i2⟩ := readyP_at h3
      have hb := readyP_bound h3
      rw [e]
      refine ⟨fun k h5 h6 => ?_, ?_⟩
      · by_cases hp : p.1 ≤ k ∧ k < pEnd p
        · rw [mAt_in hp]; exact mAt_some hp
        · rw [mAt_out hp]; exact i1 k (by omega) h6
      · rw [mAt_out (by omega)]; exact i2
    · have e : readyP at_ (p :: r) = at_ := if_neg h
      rw [e]
      refine ⟨fun k h5 h6 => by omega, ?_⟩
      rw [mAt_out (by omega)]
      exact h3.below (by unfold pEnd; omega)
/-- What is read. -/
theorem readP_at {hi : Int} : ∀ {ps : List Pc} {n off : Int}, Chain hi off ps →
    ((readP n off ps).1.length : Int) = max 0 (min n (readyP off ps - off)) ∧
    (∀ i : Nat, i < (readP n off ps).1.length → (readP n off ps).1[i]? = mAt ps (off + i)) ∧
    (∀ k, (readP n off ps).2.1 ≤ k → mAt (readP n off ps).2.2 k = mAt ps k)
  | [], n, off, _ => by
    refine ⟨?_, fun i h => by simp [readP] at h, fun k _ => rfl⟩
    simp only [readP, readyP, List.length_nil]
    omega
  | p :: r, n, off, ⟨h1, h2, h3⟩ => by
    by_cases hn : 0 < n
    · by_cases ho : p.1 = off
      · have er : readyP off (p :: r) = readyP (pEnd p) r := if_pos ho
        have hb := readyP_bound h3
        have hpe : pEnd p = off + p.2.length := by unfold pEnd; omega
        by_cases hl : (p.2.length : Int) ≤ n
        · rw [readP_all hn ho hl, er]
          rw [hpe] at h3 hb ⊢
          obtain ⟨i1, i2, i3⟩ := readP_at (n := n - p.2.length) h3
          have hch := (readP_chain (n := n - p.2.length) h3).2
          refine ⟨?_, fun i hi => ?_, fun k hk => ?_⟩
          · simp only [List.length_append]; omega
          · simp only [List.length_append] at hi ⊢
            by_cases hip : i < p.2.length
            · rw [List.getElem?_append_left hip, mAt_in (by omega)]
              congr 1; omega
            · rw [List.getElem?_append_right (by omega), i2 _ (by omega), mAt_out (by omega)]
              congr 1; omega
          · simp only at hk ⊢
            rw [i3 k hk, mAt_out (by omega)]
        · rw [readP_part hn ho hl, er]
          refine ⟨?_, fun i hi => ?_, fun k hk => ?_⟩
          · simp only [List.length_take]; omega
          · simp only [List.length_take] at hi ⊢
            rw [List.getElem?_take_of_lt (by omega), mAt_in (by omega)]
            congr 1; omega
          · simp only at hk ⊢
            have he : pEnd (p.1 + n, p.2.drop n.toNat) = pEnd p := by unfold pEnd; simp only [List.length_drop]; omega
            by_cases hp : p.1 + n ≤ k ∧ k < pEnd p
            · rw [mAt_in (by rw [he]; exact hp), mAt_in (by omega)]
              simp only [List.getElem?_drop]
              congr 1; omega
            · rw [mAt_out (by rw [he]; exact hp), mAt_out (by omega)]
      · rw [readP_off ho]
        have er : readyP off (p :: r) = off := if_neg ho
        refine ⟨?_, fun i h => by simp at h, fun k _ => rfl⟩
        rw [er]
        simp only [List.length_nil]; omega
    · rw [readP_none hn]
      refine ⟨?_, fun i h => by simp at h, fun k _ => rfl⟩
      simp only [List.length_nil]; omega
/-- How many of n places from lo on have a byte. -/
def cnt (f : Int → Option UInt8) (lo : Int) : Nat → Nat
  | 0 => 0
  | n + 1 => (if (f lo).isSome then 1 else 0) + cnt f (lo + 1) n
theorem cnt_congr {f g : Int → Option UInt8} : ∀ {n : Nat} {lo : Int}, (∀ k, lo ≤ k → k < lo + n → (f k).isSome = (g k).isSome) → cnt f lo n = cnt g lo n
  | 0, _, _ => rfl
  | n + 1, lo, h => by
    unfold cnt
    rw [h lo (Int.le_refl _) (by omega), cnt_congr fun k h1 h2 => h k (by omega) (by omega)]
theorem cnt_none {f : Int → Option UInt8} : ∀ {n : Nat} {lo : Int}, (∀ k, lo ≤ k → k < lo + n → f k = none) → cnt f lo n = 0
  | 0, _, _ => rfl
  | n + 1, lo, h => by
    unfold cnt
    rw [h lo (Int.le_refl _) (by omega), cnt_none fun k h1 h2 => h k (by omega) (by omega)]
    rfl
theorem cnt_add {f : Int → Option UInt8} : ∀ {n m : Nat} {lo : Int}, cnt f lo (n + m) = cnt f lo n + cnt f (lo + n) m
  | 0, m, lo => by simp [cnt]
  | n + 1, m, lo => by
    rw [show n + 1 + m = (n + m) + 1 from by omega]
    have e1 : ∀ q : Nat, cnt f lo (q + 1) = (if (f lo).isSome then 1 else 0) + cnt f (lo + 1) q := fun _ => rfl
    rw [e1, e1, cnt_add, show lo + 1 + (n : Int) = lo + ((n + 1 : Nat) : Int) from by omega]
    omega
theorem cnt_all {f : Int → Option UInt8} : ∀ {n : Nat} {lo : Int}, (∀ k, lo ≤ k → k < lo + n → (f k).isSome = true) → cnt f lo n = n
  | 0, _, _ => rfl
  | n + 1, lo, h => by
    unfold cnt
    rw [h lo (Int.le_refl _) (by omega), cnt_all fun k h1 h2 => h k (by omega) (by omega)]
    simp; omega
theorem total_cnt {hi : Int} : ∀ {ps : List Pc} {lo : Int}, Chain hi lo ps → cnt (mAt ps) lo (hi - lo).toNat = total ps
  | [], lo, h => by
    exact cnt_none fun k _ _ => rfl
  | p :: r, lo, ⟨h1, h2, h3⟩ => by
    have h4 := h3.le
    have hpe : pEnd p = p.1 + p.2.length := rfl
    have ih := total_cnt h3
    rw [show (hi - lo).toNat = (p.1 - lo).toNat + (p.2.length + (hi - pEnd p).toNat) from by omega, cnt_add, cnt_add,
      cnt_none (n := (p.1 - lo).toNat) (fun k h5 h6 => by rw [mAt_out (by omega)]; exact h3.below (by omega)),
      show lo + ((p.1 - lo).toNat : Int) = p.1 from by omega,
      cnt_all (n := p.2.length) (fun k h5 h6 => by
        obtain ⟨v, hv⟩ := mAt_some (p := p) (k := k) ⟨h5, by omega⟩
        rw [mAt_in ⟨h5, by omega⟩, hv]; rfl),
      show p.1 + (p.2.length : Int) = pEnd p from rfl,
      cnt_congr (g := mAt r) (fun k h5 h6 => by rw [mAt_out (by omega)]), ih, total_cons]
    omega
end Go.Proofs.Yteomgafghiockaa
