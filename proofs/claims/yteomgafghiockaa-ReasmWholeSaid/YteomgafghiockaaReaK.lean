/- The buffer and the reference's, plain: they say the same. -/
import Derived.Test.YteomgafghiockaaReaJ
namespace Go.Proofs.Yteomgafghiockaa
open Go.Proofs
set_option maxRecDepth 10000

def vw (H : List Bool) (B : List UInt8) (i : Nat) : Option UInt8 := if H[i]? = some true then B[i]? else none
theorem vw_pad {H : List Bool} {B : List UInt8} {k i : Nat} (hl : B.length = H.length) : vw (padL H k false) (padL B k 0) i = vw H B i := by
  unfold vw padL
  rcases Nat.lt_or_ge i H.length with h | h
  · rw [List.getElem?_append_left h, List.getElem?_append_left (by omega)]
  · rw [List.getElem?_append_right h, List.getElem?_replicate, List.getElem?_eq_none h]
    split
    · simp
    · simp
theorem vw_set {H : List Bool} {B : List UInt8} {k i : Nat} {v : UInt8} (hl : B.length = H.length) (hk : k < H.length) (h : H[k]? ≠ some true) : vw (H.set k true) (B.set k v) i = (vw H B i).or (if (i : Int) = k then some v else none) := by
  unfold vw
  by_cases hi : i = k
  · subst hi
    rw [List.getElem?_set_self hk, List.getElem?_set_self (by omega), if_pos rfl, if_neg h, if_pos rfl]; rfl
  · rw [List.getElem?_set_ne (fun e => hi e.symm), List.getElem?_set_ne (fun e => hi e.symm), if_neg (show ¬ (i : Int) = k from by omega), Option.or_none]
theorem countP_pad {H : List Bool} {k : Nat} : (padL H k false).countP id = H.countP id := by
  unfold padL
  rw [List.countP_append, List.countP_replicate]; simp
theorem countP_set : ∀ {H : List Bool} {k : Nat} (_ : k < H.length) (_ : H[k]? ≠ some true), (H.set k true).countP id = H.countP id + 1
  | x :: r, 0, _, h => by
    have : x = false := by simpa using h
    subst this
    simp
  | x :: r, k + 1, hk, h => by
    rw [List.set_cons_succ, List.countP_cons, List.countP_cons, countP_set (k := k) (by simpa using hk) (by simpa using h)]
    omega
theorem stepR_view {s : RS} {k : Int} {v : UInt8} (hl : s.B.length = s.H.length) (i : Nat) : vw (stepR s k v).H (stepR s k v).B i = (vw s.H s.B i).or (if (i : Int) = k then some v else none) := by
  unfold stepR
  by_cases hk : k < 0
  · rw [if_pos hk, if_neg (by omega), Option.or_none]
  · rw [if_neg hk]
    have hlen : k.toNat < (padL s.H k.toNat false).length := by rw [padL_len]; omega
    have hpl : (padL s.B k.toNat 0).length = (padL s.H k.toNat false).length := by rw [padL_len, padL_len, hl]
    have hgd : (padL s.H k.toNat false).getD k.toNat false = (padL s.H k.toNat false)[k.toNat] := by rw [List.getD_eq_getElem?_getD, List.getElem?_eq_getElem hlen]; rfl
    by_cases ht : (padL s.H k.toNat false)[k.toNat] = true
    · rw [hgd, ht, if_pos rfl]
      show vw (padL s.H k.toNat false) (padL s.B k.toNat 0) i = _
      by_cases hi : (i : Int) = k
      · have : i = k.toNat := by omega
        subst this
        have e1 : vw (padL s.H k.toNat false) (padL s.B k.toNat 0) k.toNat = (padL s.B k.toNat 0)[k.toNat]? := by
          unfold vw; rw [List.getElem?_eq_getElem hlen, ht, if_pos rfl]
        rw [← vw_pad (k := k.toNat) hl, e1, List.getElem?_eq_getElem (by omega)]; rfl
      · rw [if_neg hi, Option.or_none, vw_pad hl]
    · rw [hgd, if_neg ht]
      show vw ((padL s.H k.toNat false).set k.toNat true) ((padL s.B k.toNat 0).set k.toNat v) i = _
      rw [vw_set hpl hlen (by rw [List.getElem?_eq_getElem hlen]; simpa using ht), vw_pad hl, show ((k.toNat : Nat) : Int) = k from by omega]
theorem stepR_count {s : RS} {k : Int} {v : UInt8} : (stepR s k v).H.countP id + s.fresh = s.H.countP id + (stepR s k v).fresh := by
  unfold stepR
  by_cases hk : k < 0
  · rw [if_pos hk]
  · rw [if_neg hk]
    have hlen : k.toNat < (padL s.H k.toNat false).length := by rw [padL_len]; omega
    have hgd : (padL s.H k.toNat false).getD k.toNat false = (padL s.H k.toNat false)[k.toNat] := by rw [List.getD_eq_getElem?_getD, List.getElem?_eq_getElem hlen]; rfl
    by_cases ht : (padL s.H k.toNat false)[k.toNat] = true
    · rw [hgd, ht, if_pos rfl]
      simp only [countP_pad]
    · rw [hgd, if_neg ht]
      simp only
      rw [countP_set hlen (by rw [List.getElem?_eq_getElem hlen]; simpa using ht), countP_pad]
      omega
theorem runR_all : ∀ {d : List UInt8} {s : RS} {k : Int}, s.B.length = s.H.length →
    (runR s k d).B.length = (runR s k d).H.length ∧ ((runR s k d).H.length : Int) ≤ max (s.H.length : Int) (k + d.length) ∧
    (∀ i : Nat, vw (runR s k d).H (runR s k d).B i = (vw s.H s.B i).or (if k ≤ i ∧ (i : Int) < k + d.length then d[((i : Int) - k).toNat]? else none)) ∧
    (runR s k d).H.countP id + s.fresh = s.H.countP id + (runR s k d).fresh
  | [], s, k, h => by
    refine ⟨h, by simp only [runR, List.length_nil]; omega, fun i => ?_, rfl⟩
    rw [if_neg (by simp only [List.length_nil]; omega), Option.or_none]; rfl
  | v :: r, s, k, h => by
    obtain ⟨h1, h2, h3⟩ := stepR_len (k := k) (v := v) h
    obtain ⟨i1, i2, i3, i4⟩ := runR_all (d := r) (s := stepR s k v) (k := k + 1) h1
    have h4 := stepR_count (s := s) (k := k) (v := v)
    refine ⟨i1, by simp only [runR, List.length_cons]; omega, fun i => ?_, ?_⟩
    · show vw (runR (stepR s k v) (k + 1) r).H (runR (stepR s k v) (k + 1) r).B i = _
      rw [i3 i, stepR_view h i]
      by_cases hi : (i : Int) = k
      · rw [if_pos hi, if_neg (by omega), if_pos (by simp only [List.length_cons]; omega), show ((i : Int) - k).toNat = 0 from by omega]
        cases vw s.H s.B i <;> rfl
      · rw [if_neg hi, Option.or_none]
        by_cases hr : k + 1 ≤ i ∧ (i : Int) < k + 1 + r.length
        · rw [if_pos hr, if_pos (by simp only [List.length_cons]; omega), show ((i : Int) - k).toNat = ((i : Int) - (k + 1)).toNat + 1 from by omega]
          rfl
        · rw [if_neg hr, if_neg (by simp only [List.length_cons]; omega)]
    · show (runR (stepR s k v) (k + 1) r).H.countP id + s.fresh = _
      simp only [runR]
      omega
theorem cnt_H {g : Int → Option UInt8} : ∀ {H : List Bool} {n : Nat} {lo : Int}, H.length ≤ n → (∀ i : Nat, i < n → (g (lo + i)).isSome = decide (H[i]? = some true)) → H.countP id = cnt g lo n
  | [], n, lo, _, h => by
    rw [cnt_none fun k h1 h2 => ?_]; · rfl
    have := h (k - lo).toNat (by omega)
    rw [show lo + (((k - lo).toNat : Nat) : Int) = k from by omega] at this
    simpa using this
  | x :: r, 0, _, h, _ => by simp at h
  | x :: r, n + 1, lo, h, hg => by
    have h0 := hg 0 (by omega)
    rw [show lo + ((0 : Nat) : Int) = lo from by omega] at h0
    have ih := cnt_H (g := g) (H := r) (n := n) (lo := lo + 1) (by simpa using h) (fun i hi => by
      have := hg (i + 1) (by omega)
      rw [show lo + 1 + (i : Int) = lo + ((i + 1 : Nat) : Int) from by omega, this]
      simp)
    unfold cnt
    rw [List.countP_cons, ih, h0]
    cases x <;> simp; omega

structure Rel (r : Rb) (f : Rf) : Prop where
  ok : RbOk r
  room : f.room = r.room
  off : f.off = r.off
  high : f.high = r.high
  kn : f.known = decide (0 ≤ r.final)
  fi : f.final = if 0 ≤ r.final then r.final else 0
  len : f.B.length = f.H.length
  hl : (f.H.length : Int) ≤ r.room
  vw : ∀ i : Nat, mAt r.ps (r.off + i) = vw f.H f.B i
theorem Rel.isS {r : Rb} {f : Rf} (h : Rel r f) (i : Nat) : (mAt r.ps (r.off + i)).isSome = decide (f.H[i]? = some true) := by
  rw [h.vw]
  unfold Proofs.Yteomgafghiockaa.vw
  by_cases hi : f.H[i]? = some true
  · have hlt : i < f.H.length := by
      rcases Nat.lt_or_ge i f.H.length with h1 | h1
      · exact h1
      · rw [List.getElem?_eq_none h1] at hi; cases hi
    have := h.len
    rw [if_pos hi, List.getElem?_eq_getElem (by omega)]
    simp [hi]
  · rw [if_neg hi]; simp [hi]
theorem Rel.held {r : Rb} {f : Rf} (h : Rel r f) : total r.ps = f.H.countP id := by
  have h1 := total_cnt h.ok.chain
  have h2 := h.ok.hi
  have h3 := h.ok.chain.le
  have h4 := h.ok.room
  have h5 := h.hl
  have e : cnt (mAt r.ps) r.off r.room.toNat = cnt (mAt r.ps) r.off (r.high - r.off).toNat := by
    rw [show r.room.toNat = (r.high - r.off).toNat + (r.room.toNat - (r.high - r.off).toNat) from by omega, cnt_add,
      cnt_none (n := r.room.toNat - (r.high - r.off).toNat) (fun k h6 h7 => h.ok.chain.above (by omega))]
    rfl
  rw [← h1, ← e]
  exact (cnt_H (by omega) (fun i _ => h.isS i)).symm
theorem Rel.ready {r : Rb} {f : Rf} (h : Rel r f) : readyP r.off r.ps - r.off = (ltr f.H : Int) := by
  obtain ⟨h1, h2⟩ := readyP_at h.ok.chain
  have h3 := readyP_bound h.ok.chain
  have : ltr f.H = (readyP r.off r.ps - r.off).toNat := by
    refine ltr_at (fun i hi => ?_) ?_
    · obtain ⟨v, hv⟩ := h1 (r.off + i) (by omega) (by omega)
      have := h.isS i
      rw [hv] at this
      simpa using this
    · have := h.isS (readyP r.off r.ps - r.off).toNat
      rw [show r.off + (((readyP r.off r.ps - r.off).toNat : Nat) : Int) = readyP r.off r.ps from by omega, h2] at this
      simpa using this
  omega
theorem Rel.read {r : Rb} {f : Rf} (h : Rel r f) (n : Int) : (readR r n).1 = (rfRead f n).1 ∧ (readR r n).2.1 = (rfRead f n).2.1 ∧ Rel (readR r n).2.2 (rfRead f n).2.2 := by
  obtain ⟨h1, h2, h3⟩ := readP_at (n := n) h.ok.chain
  obtain ⟨h4, h5⟩ := readP_chain (n := n) h.ok.chain
  have h6 := h.ready
  rw [h6] at h1
  obtain ⟨k, hk⟩ : ∃ k : Nat, k = (min n (ltr f.H : Int)).toNat := ⟨_, rfl⟩
  have hlt := ltr_le f.H
  have hlen := h.len
  have hroom := h.hl
  have hfr := h.room
  have hL : (readP n r.off r.ps).1.length = k := by omega
  have hoff : (readP n r.off r.ps).2.1 = r.off + k := by omega
  have hr : rfRead f n = (f.B.take k, f.known && decide (f.off + k = f.final), { f with off := f.off + k, B := f.B.drop k, H := f.H.drop k }) := by rw [hk]; rfl
  have hok := readR_ok n h.ok
  rw [hr]
  refine ⟨?_, ?_, ⟨hok, h.room, ?_, h.high, h.kn, h.fi, by simp only [List.length_drop]; omega, by show ((f.H.drop k).length : Int) ≤ r.room; rw [List.length_drop]; omega, fun i => ?_⟩⟩
  · show (readP n r.off r.ps).1 = f.B.take k
    apply List.ext_getElem?
    intro i
    rcases Nat.lt_or_ge i k with hi | hi
    · rw [h2 i (by omega), h.vw, List.getElem?_take_of_lt hi]
      unfold Proofs.Yteomgafghiockaa.vw
      rw [if_pos (ltr_get.1 i (by omega))]
    · rw [List.getElem?_eq_none (by omega), List.getElem?_eq_none (by rw [List.length_take]; omega)]
  · show decide ((readP n r.off r.ps).2.1 = r.final) = (f.known && decide (f.off + k = f.final))
    rw [hoff, h.kn, h.fi, h.off]
    have h7 := h.ok.off
    by_cases hf : 0 ≤ r.final
    · simp [hf]
    · have : ¬ (r.off + (k : Int) = r.final) := by omega
      simp [hf, this]
  · show f.off + (k : Int) = (readP n r.off r.ps).2.1
    rw [hoff, h.off]
  · show mAt (readP n r.off r.ps).2.2 ((readP n r.off r.ps).2.1 + i) = Proofs.Yteomgafghiockaa.vw (f.H.drop k) (f.B.drop k) i
    rw [h3 _ (by omega), hoff, show r.off + (k : Int) + i = r.off + ((k + i : Nat) : Int) from by omega, h.vw]
    unfold Proofs.Yteomgafghiockaa.vw
    rw [List.getElem?_drop, List.getElem?_drop]
theorem Rel.check {r : Rb} {f : Rf} (h : Rel r f) (e : Int) (fin : Bool) : checkP r e fin = rfCheck f e fin := by
  unfold checkP rfCheck
  rw [h.kn, h.fi, h.off, h.room, h.high]
  have hD : ((decide (0 ≤ r.final) = true ∧ ((if 0 ≤ r.final then r.final else 0) < e ∨ (fin = true ∧ e ≠ (if 0 ≤ r.final then r.final else 0)))) ∨ (decide (0 ≤ r.final) = false ∧ fin = true ∧ e < r.high)) ↔
      ((0 ≤ r.final ∧ (r.final < e ∨ (fin = true ∧ e ≠ r.final))) ∨ (r.final < 0 ∧ fin = true ∧ e < r.high)) := by
    by_cases hf : 0 ≤ r.final
    · have : ¬ r.final < 0 := by omega
      simp [hf, this]
    · have : r.final < 0 := by omega
      simp [hf, this]
  by_cases hA : 0 ≤ r.final ∧ (r.final < e ∨ (fin = true ∧ e ≠ r.final))
  · rw [if_pos hA, if_pos (hD.2 (.inl hA))]
  · by_cases hB : r.final < 0 ∧ fin = true ∧ e < r.high
    · rw [if_neg hA, if_pos hB, if_pos (hD.2 (.inr hB))]
    · rw [if_neg hA, if_neg hB, if_neg (fun h => (hD.1 h).elim hA hB)]
theorem Rel.put {r : Rb} {f : Rf} (h : Rel r f) (at_ : Int) (d : List UInt8) (fin : Bool) : (putP r at_ d fin).1 = (rfPut f at_ d fin).1 ∧ (putP r at_ d fin).2.1 = (rfPut f at_ d fin).2.1 ∧ Rel (putP r at_ d fin).2.2 (rfPut f at_ d fin).2.2 := by
  have hok := putP_ok at_ d fin h.ok
  unfold putP rfPut at *
  by_cases c1 : at_ < 0 ∨ 4611686018427387903 - (d.length : Int) < at_
  · rw [if_pos c1, if_pos c1]; exact ⟨rfl, rfl, h⟩
  rw [if_neg c1] at hok
  rw [if_neg c1, if_neg c1, ← h.check]
  by_cases c2 : checkP r (at_ + d.length) fin ≠ 0
  · rw [if_pos c2, if_pos c2]; exact ⟨rfl, rfl, h⟩
  rw [if_neg c2] at hok
  rw [if_neg c2, if_neg c2]
  simp only at hok ⊢
  obtain ⟨i1, i2, i3, i4⟩ := runR_all (d := d) (s := ⟨f.B, f.H, 0⟩) (k := at_ - f.off) h.len
  have hoff := h.off
  have hhi := hok.hi
  simp only at hhi i1 i2 i3 i4
  have hhl := h.hl
  have hrel : Rel { r with final := if fin then at_ + d.length else r.final, high := max r.high (at_ + d.length), ps := insP at_ d (at_ + d.length) (max at_ r.off) r.ps } (rfPutOk f at_ d fin) := by
    refine ⟨hok, h.room, h.off, by show max f.high _ = max r.high _; rw [h.high], ?_, ?_, i1, by show ((runR ⟨f.B, f.H, 0⟩ (at_ - f.off) d).H.length : Int) ≤ r.room; omega, fun i => ?_⟩
    · show (f.known || fin) = decide (0 ≤ if fin then at_ + (d.length : Int) else r.final)
      cases fin with
      | true => simp; omega
      | false => simp [h.kn]
    · show (if fin then at_ + (d.length : Int) else f.final) = if 0 ≤ (if fin then at_ + (d.length : Int) else r.final) then (if fin then at_ + (d.length : Int) else r.final) else 0
      cases fin with
      | true => simp; omega
      | false => simp [h.fi]
    · show mAt (insP at_ d (at_ + d.length) (max at_ r.off) r.ps) (r.off + i) = _
      show _ = Proofs.Yteomgafghiockaa.vw (runR ⟨f.B, f.H, 0⟩ (at_ - f.off) d).H (runR ⟨f.B, f.H, 0⟩ (at_ - f.off) d).B i
      rw [insP_at rfl h.ok.chain (by omega) (by omega), i3 i, h.vw i]
      congr 1
      by_cases c : at_ - f.off ≤ i ∧ (i : Int) < at_ - f.off + d.length
      · rw [if_pos c, if_pos (by omega)]
        congr 1; omega
      · rw [if_neg c, if_neg (by omega)]
  refine ⟨?_, trivial, hrel⟩
  have e1 := hrel.held
  have e2 := h.held
  have e3 := total_perm (insP_perm (at_ := at_) (d := d) (e := at_ + d.length) (ps := r.ps) (place := max at_ r.off))
  rw [total_app] at e3
  have e4 : (rfPutOk f at_ d fin).H = (runR ⟨f.B, f.H, 0⟩ (at_ - f.off) d).H := rfl
  rw [e4] at e1
  simp only at e1
  omega
theorem Rel.new (room : Int) (h : 1 ≤ room ∧ room ≤ 65536) : Rel (newR room) ⟨room, 0, 0, false, 0, [], []⟩ :=
  ⟨newR_ok h, rfl, rfl, rfl, rfl, rfl, rfl, by show ((0 : Nat) : Int) ≤ room; omega, fun i => by simp [newR, mAt, Proofs.Yteomgafghiockaa.vw]⟩
theorem Rel.final {r : Rb} {f : Rf} (h : Rel r f) : finV r = .tuple #[.int .i64 f.final, .bool f.known] := by
  unfold finV
  rw [h.kn, h.fi]
  by_cases hf : r.final < 0
  · have : ¬ 0 ≤ r.final := by omega
    simp [hf, this]
  · have : 0 ≤ r.final := by omega
    simp [hf, this]
end Go.Proofs.Yteomgafghiockaa
