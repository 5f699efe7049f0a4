/- ReasmPrefix, ReasmWhole, ReasmFirst: plain. -/
import Derived.Test.YteomgafghiockaaReaL
namespace Go.Proofs.Yteomgafghiockaa
open Go.Proofs
set_option maxRecDepth 10000

theorem putP_none {r : Rb} {at_ : Int} {d : List UInt8} {fin : Bool} (h : (putP r at_ d fin).2.1 ≠ 0) : (putP r at_ d fin).1 = 0 ∧ (putP r at_ d fin).2.2 = r := by
  unfold putP at *
  split
  · exact ⟨rfl, rfl⟩
  · rename_i c
    rw [if_neg c] at h
    split
    · exact ⟨rfl, rfl⟩
    · rename_i c2
      rw [if_neg c2] at h
      exact absurd rfl h
theorem putP_eq {r : Rb} {at_ : Int} {d : List UInt8} {fin : Bool} (h1 : 0 ≤ at_ ∧ at_ ≤ 4611686018427387903 - d.length) (hc : checkP r (at_ + d.length) fin = 0) : putP r at_ d fin = ((total (gapsP at_ d (at_ + d.length) (max at_ r.off) r.ps) : Int), 0, putEnd r at_ d fin) := by
  unfold putP
  rw [if_neg (by omega), if_neg (by rw [hc]; decide)]
  rfl
theorem putP_mAt {r : Rb} (at_ : Int) (d : List UInt8) (fin : Bool) (h : RbOk r) (k : Int) : mAt (putP r at_ d fin).2.2.ps k = (mAt r.ps k).or (if (putP r at_ d fin).2.1 = 0 ∧ max at_ r.off ≤ k ∧ k < at_ + d.length then d[(k - at_).toNat]? else none) := by
  by_cases he : (putP r at_ d fin).2.1 = 0
  · have hc : (0 ≤ at_ ∧ at_ ≤ 4611686018427387903 - d.length) ∧ checkP r (at_ + d.length) fin = 0 := by
      unfold putP at he
      split at he
      · cases he
      · rename_i c
        split at he
        · rename_i c2; exact absurd he c2
        · rename_i c2; exact ⟨by omega, Decidable.not_not.1 c2⟩
    rw [putP_eq hc.1 hc.2]
    show mAt (insP at_ d (at_ + d.length) (max at_ r.off) r.ps) k = _
    rw [insP_at rfl h.chain (by omega) (by omega)]
    congr 1
    by_cases c : max at_ r.off ≤ k ∧ k < at_ + d.length
    · rw [if_pos c, if_pos ⟨rfl, c⟩]
    · rw [if_neg c, if_neg (fun h => c h.2)]
  · rw [(putP_none he).2, if_neg (fun h => he h.1), Option.or_none]
theorem putP_off {r : Rb} (at_ : Int) (d : List UInt8) (fin : Bool) : (putP r at_ d fin).2.2.off = r.off ∧ (putP r at_ d fin).2.2.room = r.room := by
  unfold putP
  split
  · exact ⟨rfl, rfl⟩
  · split <;> exact ⟨rfl, rfl⟩
theorem putP_fresh {r : Rb} (at_ : Int) (d : List UInt8) (fin : Bool) : (putP r at_ d fin).1 + (total r.ps : Int) = total (putP r at_ d fin).2.2.ps := by
  unfold putP
  split
  · simp
  · split
    · simp
    · have h5 := total_perm (insP_perm (at_ := at_) (d := d) (e := at_ + d.length) (ps := r.ps) (place := max at_ r.off))
      rw [total_app] at h5
      simp only
      omega

/-! ### A piece of a source -/
abbrev CutI := Int × Int
def pieceP (S : List UInt8) (c : CutI) : Int × List UInt8 × Bool :=
  if c.1 < 0 ∨ (S.length : Int) < c.1 ∨ c.2 < 0 then (0, [], decide ((S.length : Int) = 0))
  else (c.1, (S.drop c.1.toNat).take (min c.2 (S.length - c.1)).toNat, decide (c.1 + min c.2 (S.length - c.1) = S.length))
theorem piece_all (S : List UInt8) (c : CutI) : 0 ≤ (pieceP S c).1 ∧ (pieceP S c).1 + ((pieceP S c).2.1.length : Int) ≤ S.length ∧ ((pieceP S c).2.2 = true → (pieceP S c).1 + ((pieceP S c).2.1.length : Int) = S.length) ∧
    ∀ i : Nat, i < (pieceP S c).2.1.length → (pieceP S c).2.1[i]? = S[(pieceP S c).1.toNat + i]? := by
  unfold pieceP
  split
  · refine ⟨Int.le_refl _, by simp, fun h => ?_, fun i hi => by simp at hi⟩
    have := of_decide_eq_true h
    simp only [List.length_nil]; omega
  · rename_i h
    simp only [List.length_take, List.length_drop]
    refine ⟨by omega, by omega, fun h2 => ?_, fun i hi => ?_⟩
    · have := of_decide_eq_true h2
      omega
    · rw [List.getElem?_take_of_lt (by omega), List.getElem?_drop]
structure Agr (S : List UInt8) (known : Bool) (r : Rb) : Prop where
  ok : RbOk r
  room : r.room = 65536
  fin : r.final = if known then (S.length : Int) else -1
  hi : r.high ≤ S.length
  at_ : ∀ k v, mAt r.ps k = some v → 0 ≤ k ∧ S[k.toNat]? = some v
theorem Agr.new (S : List UInt8) : Agr S false (newR 65536) :=
  ⟨newR_ok ⟨by decide, by decide⟩, rfl, rfl, by show (0 : Int) ≤ _; omega, fun k v h => by cases h⟩
theorem Agr.put {S : List UInt8} {known : Bool} {r : Rb} (h : Agr S known r) (hS : S.length ≤ 65536) {at_ : Int} {d : List UInt8} {last : Bool} (h0 : 0 ≤ at_) (h1 : at_ + (d.length : Int) ≤ S.length) (h2 : last = true → at_ + (d.length : Int) = S.length)
    (h3 : ∀ i : Nat, i < d.length → d[i]? = S[at_.toNat + i]?) : (putP r at_ d last).2.1 = 0 ∧ Agr S (known || last) (putP r at_ d last).2.2 := by
  have hoff := h.ok.off
  have hroom := h.room
  have hfin := h.fin
  have hhi := h.hi
  have hc : checkP r (at_ + d.length) last = 0 := by
    unfold checkP
    rw [if_neg ?_, if_neg ?_, if_neg (by omega)]
    · rintro ⟨c1, c2, c3⟩
      have := h2 c2
      omega
    · rintro ⟨c1, c2⟩
      cases known with
      | true =>
        rw [if_pos rfl] at hfin
        rcases c2 with c2 | ⟨c2, c3⟩
        · omega
        · have := h2 c2; omega
      | false =>
        rw [if_neg (by decide)] at hfin
        omega
  have he := putP_eq (r := r) (fin := last) ⟨h0, by omega⟩ hc
  refine ⟨by rw [he], putP_ok at_ d last h.ok, by rw [(putP_off at_ d last).2]; exact hroom, ?_, ?_, fun k v hv => ?_⟩
  · rw [he]
    show (if last = true then at_ + (d.length : Int) else r.final) = _
    cases last with
    | true => rw [if_pos rfl, Bool.or_true, if_pos rfl]; exact h2 rfl
    | false => rw [if_neg (by decide), Bool.or_false]; exact hfin
  · rw [he]
    show max r.high (at_ + (d.length : Int)) ≤ S.length
    omega
  · rw [putP_mAt at_ d last h.ok] at hv
    cases hm : mAt r.ps k with
    | some u =>
      rw [hm] at hv
      obtain rfl : u = v := by simpa using hv
      exact h.at_ k u hm
    | none =>
      rw [hm, Option.none_or] at hv
      split at hv
      · rename_i c
        refine ⟨by omega, ?_⟩
        rw [h3 _ (by omega)] at hv
        rw [← hv]
        congr 1; omega
      · cases hv
theorem Agr.read {S : List UInt8} {known : Bool} {r : Rb} (h : Agr S known r) (n : Int) : Agr S known (readR r n).2.2 ∧ S.take r.off.toNat ++ (readR r n).1 = S.take (readR r n).2.2.off.toNat ∧ (readR r n).2.2.off = r.off + (readR r n).1.length ∧ (readR r n).2.2.off ≤ S.length ∧ (0 ≤ n → ((readR r n).1.length : Int) ≤ n) ∧ (readR r n).2.1 = (known && decide ((readR r n).2.2.off = S.length)) := by
  obtain ⟨h1, h2, h3⟩ := readP_at (n := n) h.ok.chain
  obtain ⟨h4, h5⟩ := readP_chain (n := n) h.ok.chain
  have h6 := h4.le
  have hoff := h.ok.off
  have hhi := h.hi
  have hfin := h.fin
  refine ⟨⟨readR_ok n h.ok, h.room, hfin, hhi, fun k v hv => ?_⟩, ?_, h5, by show (readP n r.off r.ps).2.1 ≤ _; omega, fun hn => by show ((readP n r.off r.ps).1.length : Int) ≤ n; omega, ?_⟩
  · have hv' : mAt (readP n r.off r.ps).2.2 k = some v := hv
    rcases Int.lt_or_le k (readP n r.off r.ps).2.1 with hk | hk
    · rw [h4.below hk] at hv'; cases hv'
    · rw [h3 k hk] at hv'
      exact h.at_ k v hv'
  · show S.take r.off.toNat ++ (readP n r.off r.ps).1 = S.take (readP n r.off r.ps).2.1.toNat
    rw [h5, show (r.off + ((readP n r.off r.ps).1.length : Int)).toNat = r.off.toNat + (readP n r.off r.ps).1.length from by omega, List.take_add]
    congr 1
    apply List.ext_getElem?
    intro i
    rcases Nat.lt_or_ge i (readP n r.off r.ps).1.length with hi | hi
    · obtain ⟨v, hv⟩ : ∃ v, (readP n r.off r.ps).1[i]? = some v := ⟨_, List.getElem?_eq_getElem hi⟩
      rw [hv, List.getElem?_take_of_lt hi, List.getElem?_drop]
      rw [h2 i hi] at hv
      have := (h.at_ _ _ hv).2
      rw [← this]
      congr 1; omega
    · rw [List.getElem?_eq_none hi, List.getElem?_eq_none (by rw [List.length_take]; omega)]
  · show decide ((readP n r.off r.ps).2.1 = r.final) = (known && decide ((readP n r.off r.ps).2.1 = (S.length : Int)))
    rw [hfin]
    cases known with
    | true => simp
    | false =>
      have : ¬ (readP n r.off r.ps).2.1 = -1 := by omega
      simp [this]
end Go.Proofs.Yteomgafghiockaa
