/- Parameters: what is written is read back; what is read is right. -/
import Derived.Test.YtaknehiifafhfaaParO
namespace Go.Proofs.Ytaknehiifafhfaa
open Go.Proofs
set_option maxRecDepth 20000

theorem vget_put (pre post : List UInt8) {n : Int} (h : hasForm n) : vget (pre ++ (vput n ++ post)) pre.length = (n, ((pre.length + (vput n).length : Nat) : Int), 0) := by
  have hv : vput n = vputN n.toNat := by unfold vput; rw [if_pos h]
  have h0 := h.1
  have h1 := h.2
  rw [hv, vget_form (by omega), vputN_length, Int.toNat_of_nonneg h.1]
theorem vput_pos {n : Int} (h : hasForm n) : 0 < (vput n).length := by
  rw [vput_length]
  unfold vsize
  rw [if_pos h]
  exact Nat.two_pow_pos _
theorem rnum_put (pre post : List UInt8) {n : Int} (h : hasForm n) : rnum (pre ++ (vput n ++ post)) (pre.length, 0) = (n, (pre.length + (vput n).length, 0)) := by
  have e := vget_put pre post h
  obtain ⟨m, rfl⟩ := Int.eq_ofNat_of_zero_le h.1
  exact rnum_ok e
theorem parse_put (pre post v : List UInt8) {id : Int} (h : hasForm id) (hv : hasForm v.length) : parseI (pre ++ (encI id v ++ post)) pre.length = (id, v, pre.length + (encI id v).length, 0) := by
  unfold parseI
  have e1 := rnum_put pre (vput v.length ++ (v ++ post)) h
  have e2 := rnum_put (pre ++ vput id) (v ++ post) hv
  have hb : pre ++ (encI id v ++ post) = pre ++ (vput id ++ (vput v.length ++ (v ++ post))) := by simp [encI]
  have hb2 : pre ++ (vput id ++ (vput v.length ++ (v ++ post))) = (pre ++ vput id) ++ (vput v.length ++ (v ++ post)) := by simp
  have hb3 : (pre ++ vput id) ++ (vput v.length ++ (v ++ post)) = (pre ++ vput id ++ vput v.length) ++ (v ++ post) := by simp
  rw [hb, e1]
  simp only
  rw [hb2, show pre.length + (vput id).length = (pre ++ vput id).length from List.length_append.symm, e2]
  simp only
  rw [hb3, show (pre ++ vput id).length + (vput v.length).length = (pre ++ vput id ++ vput v.length).length from List.length_append.symm, rbytes_ok (by simp only [List.length_append]; omega), List.drop_left, List.take_left]
  simp only [encI, List.length_append]
  refine Prod.ext rfl (Prod.ext rfl (Prod.ext ?_ rfl))
  simp only; omega

/-! ### What take changes -/
theorem take_other {q : Pm} {k i : Int} {v : List UInt8} {server : Bool} (hne : i ≠ k) : rN (takeP q k v server).1 i = rN q i ∧ rH (takeP q k v server).1 i = rH q i ∧ rB (takeP q k v server).1 i = rB q i := by
  cases hk : itemT k with
  | num j lo hi =>
    have e2 : (takeP q k v server).1 = { q with nums := q.nums.set j (vget v 0).1 } := by unfold takeP; rw [hk]
    rw [e2]
    refine ⟨?_, rfl, rfl⟩
    unfold rN
    cases hi' : itemT i with
    | num j' lo' hi'' =>
      have : j' ≠ j := fun e => hne (itemT_inj (a := i) (b := k) (x := (false, j)) (by rw [hi', e]; rfl) (by rw [hk]; rfl))
      simp only [Pm.num]
      rw [List.getElem?_set_ne (fun e => this e.symm)]
    | txt j' lo' hi'' s' => rfl
    | none => rfl
  | txt j lo hi s =>
    have e2 : (takeP q k v server).1 = { q with hs := q.hs.set j true, bys := q.bys.set j v } := by unfold takeP; rw [hk]
    rw [e2]
    refine ⟨rfl, ?_, ?_⟩
    · unfold rH
      cases hi' : itemT i with
      | txt j' lo' hi'' s' =>
        have : j' ≠ j := fun e => hne (itemT_inj (a := i) (b := k) (x := (true, j)) (by rw [hi', e]; rfl) (by rw [hk]; rfl))
        simp only [Pm.has]
        rw [List.getElem?_set_ne (fun e => this e.symm)]
      | num j' lo' hi'' => rfl
      | none => rfl
    · unfold rB
      cases hi' : itemT i with
      | txt j' lo' hi'' s' =>
        have : j' ≠ j := fun e => hne (itemT_inj (a := i) (b := k) (x := (true, j)) (by rw [hi', e]; rfl) (by rw [hk]; rfl))
        simp only [Pm.by_]
        rw [List.getElem?_set_ne (fun e => this e.symm)]
      | num j' lo' hi'' => rfl
      | none => rfl
  | none =>
    have e2 : (takeP q k v server).1 = if k = 12 then { q with nm := true } else q := by unfold takeP; rw [hk]; simp only; split <;> rfl
    rw [e2]
    split
    · exact ⟨rfl, rfl, rfl⟩
    · exact ⟨rfl, rfl, rfl⟩
theorem itemT_12 : itemT 12 = .none := by decide
theorem take_nm {q : Pm} {k : Int} {v : List UInt8} {server : Bool} (hk : k ≠ 12) : (takeP q k v server).1.nm = q.nm := by
  unfold takeP
  split
  · rfl
  · rfl
  · rw [if_neg hk]
theorem take_12 {q : Pm} {v : List UInt8} {server : Bool} : takeP q 12 v server = ({ q with nm := true }, decide (v.length = 0)) := by
  unfold takeP
  rw [itemT_12]
  simp

/-! ### Reading back -/
/-- What has been read of p's bytes, ahead of the parameter k. -/
structure Mid (p : Pm) (k : Nat) (q : Pm) : Prop where
  ok : q.Ok
  same : ∀ i : Nat, i < k → sameI q p i = true
  rest : ∀ i : Nat, k ≤ i → rN q i = rN usualP i ∧ rH q i = false
  nm : q.nm = if k ≤ 12 then false else p.nm
theorem Mid.zero (p : Pm) : Mid p 0 usualP := ⟨usualP_ok, fun i h => absurd h (Nat.not_lt_zero i), fun i _ => ⟨rfl, by
  unfold rH
  cases h : itemT i with
  | txt j lo hi s =>
    have hj := (itemT_txt h).1
    have : ∀ j, j < 4 → usualP.has j = false := by decide
    exact this j hj
  | num j lo hi => rfl
  | none => rfl⟩, rfl⟩
theorem sameI_none {p q : Pm} {i : Int} (h : itemT i = .none) : sameI p q i = true := by
  unfold sameI rN rH
  rw [h]; simp
theorem sameI_num {p q : Pm} {i : Int} {j : Nat} {lo hi : Int} (h : itemT i = .num j lo hi) (e : p.num j = q.num j) : sameI p q i = true := by
  unfold sameI rN rH
  rw [h]; simp [e]
theorem sameI_txt {p q : Pm} {i : Int} {j : Nat} {lo hi : Int} {s : Bool} (h : itemT i = .txt j lo hi s) (e : p.has j = q.has j) (e2 : p.has j = true → p.by_ j = q.by_ j) : sameI p q i = true := by
  unfold sameI rN rH rB
  rw [h]
  cases hh : p.has j with
  | false => simp [← e, hh]
  | true => simp [← e, hh, e2 hh]
theorem sameI_congr {p q q' : Pm} {i : Int} (h : sameI q p i = true) (e : rN q' i = rN q i ∧ rH q' i = rH q i ∧ rB q' i = rB q i) : sameI q' p i = true := by
  unfold sameI at h ⊢
  rw [e.1, e.2.1, e.2.2]; exact h
/-- A parameter that is not told. -/
theorem Mid.skip {p q : Pm} {k : Nat} (m : Mid p k q) (h : toldV p k = none) : Mid p (k + 1) q := by
  refine ⟨m.ok, fun i hi => ?_, fun i hi => m.rest i (by omega), ?_⟩
  · by_cases hik : i < k
    · exact m.same i hik
    obtain rfl : i = k := by omega
    have hr := m.rest i (Nat.le_refl _)
    unfold toldV at h
    cases hit : itemT i with
    | num j lo hi =>
      rw [hit] at h
      simp only at h
      split at h
      · rename_i e
        refine sameI_num hit ?_
        have := hr.1
        unfold rN at this
        rw [hit] at this
        simp only at this
        rw [this, e]
      · cases h
    | txt j lo hi s =>
      rw [hit] at h
      simp only at h
      split at h
      · cases h
      · rename_i e
        have := hr.2
        unfold rH at this
        rw [hit] at this
        simp only at this
        refine sameI_txt hit (by rw [this]; simpa using e) (by rw [this]; exact fun h => by cases h)
    | none => exact sameI_none hit
  · rw [m.nm]
    by_cases hk : k = 12
    · subst hk
      unfold toldV at h
      rw [show itemT ((12 : Nat) : Int) = .none from itemT_12] at h
      simp only at h
      rw [if_pos (by rfl)] at h
      split at h
      · cases h
      · rename_i e
        simpa using e
    · by_cases h' : k ≤ 12
      · rw [if_pos h', if_pos (by omega)]
      · rw [if_neg h', if_neg (by omega)]
/-- A parameter that is told. -/
theorem Mid.told {p q : Pm} {k : Nat} {server : Bool} {v : List UInt8} (m : Mid p k q) (hch : checkN p server 17 = true) (hk : k < 17) (h : toldV p k = some v) : Mid p (k + 1) (takeP q k v server).1 ∧ (takeP q k v server).2 = true := by
  have key : (sameI (takeP q k v server).1 p k = true ∧ (takeP q k v server).2 = true) ∧ (takeP q k v server).1.nm = if k + 1 ≤ 12 then false else p.nm := by
    have hok := checkN_mono hch hk
    unfold toldV at h
    cases hit : itemT k with
    | num j lo hi =>
      have hj := itemT_num hit
      have hnr := num_range hch hk hit
      have hk12 : k ≠ 12 := fun e => by rw [e] at hit; rw [show itemT ((12 : Nat) : Int) = .none from itemT_12] at hit; cases hit
      rw [hit] at h
      simp only at h
      split at h
      · cases h
      cases h
      have hf : hasForm (p.num j) := ⟨by omega, by omega⟩
      have e := vget_put [] [] hf
      rw [List.nil_append, List.append_nil, List.length_nil, Nat.zero_add] at e
      have e : vget (vput (p.num j)) 0 = (p.num j, ((vput (p.num j)).length : Int), 0) := e
      have e2 : takeP q k (vput (p.num j)) server = ({ q with nums := q.nums.set j (p.num j) }, true) := by
        unfold takeP
        rw [hit]
        simp only [e, hnr, and_self, decide_true, Bool.and_self]
      rw [e2]
      refine ⟨⟨sameI_num hit (by simp [Pm.num, m.ok.n, hj.1]), rfl⟩, ?_⟩
      show q.nm = _
      rw [m.nm]
      by_cases h' : k ≤ 12
      · rw [if_pos h', if_pos (by omega)]
      · rw [if_neg h', if_neg (by omega)]
    | txt j lo hi s =>
      have hj := itemT_txt hit
      have hk12 : k ≠ 12 := fun e => by rw [e] at hit; rw [show itemT ((12 : Nat) : Int) = .none from itemT_12] at hit; cases hit
      rw [hit] at h hok
      simp only at h
      split at h
      · rename_i hh
        cases h
        have e2 : takeP q k (p.by_ j) server = ({ q with hs := q.hs.set j true, bys := q.bys.set j (p.by_ j) }, true) := by
          unfold takeP
          rw [hit]
          simp only [okIt, hh, Bool.not_true, Bool.false_or] at hok
          simp only [hok]
        rw [e2]
        refine ⟨⟨sameI_txt hit ?_ ?_, rfl⟩, ?_⟩
        · rw [hh]; simp [Pm.has, m.ok.h, hj.1]
        · intro _; simp [Pm.by_, m.ok.b, hj.1]
        show q.nm = _
        rw [m.nm]
        by_cases h' : k ≤ 12
        · rw [if_pos h', if_pos (by omega)]
        · rw [if_neg h', if_neg (by omega)]
      · cases h
    | none =>
      rw [hit] at h
      simp only at h
      split at h
      · rename_i hk12
        split at h
        · rename_i hn
          cases h
          rw [hk12, take_12]
          refine ⟨⟨sameI_none itemT_12, rfl⟩, ?_⟩
          rw [if_neg (by omega)]
          exact hn.symm
        · cases h
      · cases h
  refine ⟨⟨takeP_ok m.ok _ _ _, fun i hi => ?_, fun i hi => ?_, key.2⟩, key.1.2⟩
  · by_cases hik : i < k
    · exact sameI_congr (m.same i hik) (take_other (by omega))
    obtain rfl : i = k := by omega
    exact key.1.1
  · have := take_other (q := q) (k := k) (i := i) (v := v) (server := server) (by omega)
    rw [this.1, this.2.1]
    exact m.rest i (by omega)
theorem encN_split (p : Pm) (k : Nat) : ∀ m, ∃ rest, encN p (k + m) = encN p k ++ rest
  | 0 => ⟨[], by simp⟩
  | m + 1 => by
    obtain ⟨r, hr⟩ := encN_split p k m
    exact ⟨r ++ encO p ((k + m : Nat) : Int), by rw [show k + (m + 1) = (k + m) + 1 from rfl, encN_succ, hr, List.append_assoc]⟩
theorem back_go {p : Pm} {server : Bool} (hch : checkN p server 17 = true) (X : List UInt8) : ∀ k, k ≤ 17 → ∃ seen q, Mid p k q ∧ (∀ i ∈ seen, 0 ≤ i ∧ i < (k : Int)) ∧ ∀ r, ParD (encN p 17 ++ X) server ⟨(encN p k).length, seen, q⟩ r → ParD (encN p 17 ++ X) server s0 r
  | 0, _ => ⟨[], usualP, Mid.zero p, by simp, fun _ h => h⟩
  | k + 1, hk => by
    obtain ⟨seen, q, m, hs, hD⟩ := back_go hch X k (by omega)
    cases ht : toldV p k with
    | none =>
      refine ⟨seen, q, m.skip ht, fun i hi => by have := hs i hi; omega, ?_⟩
      have e : encN p (k + 1) = encN p k := by rw [encN_succ]; unfold encO; rw [ht, List.append_nil]
      rw [e]
      exact hD
    | some v =>
      obtain ⟨m', ht'⟩ := m.told hch (by omega) ht
      refine ⟨seen ++ [(k : Int)], _, m', fun i hi => ?_, fun r h => hD r ?_⟩
      · rcases List.mem_append.1 hi with h | h
        · have := hs i h; omega
        · rw [List.mem_singleton.1 h]; omega
      have hvl := toldV_len hch (by omega) ht
      have hfk : hasForm (k : Int) := ⟨by omega, by omega⟩
      obtain ⟨rest, hr⟩ := encN_split p (k + 1) (16 - k)
      rw [show k + 1 + (16 - k) = 17 from by omega] at hr
      have e : encN p (k + 1) = encN p k ++ encI k v := by rw [encN_succ]; unfold encO; rw [ht]
      have hb : encN p 17 ++ X = encN p k ++ (encI k v ++ (rest ++ X)) := by rw [hr, e]; simp
      have hst : decStep (encN p 17 ++ X) server ⟨(encN p k).length, seen, q⟩ = .inr ⟨(encN p (k + 1)).length, seen ++ [(k : Int)], (takeP q k v server).1⟩ := by
        rw [decStep_eq, hb]
        simp only
        rw [parse_put (encN p k) (rest ++ X) v hfk ⟨by omega, by omega⟩, e, List.length_append]
        exact decOf_ok rfl (fun h => by have := hs _ h; omega) ht'
      refine .step ?_ hst h
      rw [hb]
      have := vput_pos hfk
      simp only [List.length_append, encI]
      omega
theorem Mid.sameP {p q : Pm} (m : Mid p 17 q) : sameP q p = true := by
  unfold Proofs.Ytaknehiifafhfaa.sameP sameN
  rw [Bool.and_eq_true, List.all_eq_true]
  refine ⟨fun i hi => m.same i (List.mem_range.1 hi), ?_⟩
  rw [m.nm, if_neg (by omega)]; simp
/-- Right parameters are read back, ahead of one that nobody knows. -/
theorem back {p : Pm} {server : Bool} (hch : checkN p server 17 = true) {X : List UInt8} (hX : X = [] ∨ ∃ id v, X = encI id v ∧ 16 < id ∧ hasForm id ∧ v.length < 8192) : ∃ q, DecR (encN p 17 ++ X) server (q, 0, 0) ∧ sameP q p = true := by
  obtain ⟨seen, q, m, hs, hD⟩ := back_go hch X 17 (Nat.le_refl _)
  have hl := encN_len hch 17 (Nat.le_refl _)
  refine ⟨q, .inr ⟨?_, hD _ ?_⟩, m.sameP⟩
  · rcases hX with rfl | ⟨id, v, rfl, h16, hf, hv⟩
    · simp only [List.append_nil]; omega
    · have h1 := vsize_le id
      have h2 := vsize_le (v.length : Int)
      rw [← vput_length] at h1 h2
      simp only [List.length_append, encI]; omega
  · rcases hX with rfl | ⟨id, v, rfl, h16, hf, hv⟩
    · exact .done (by simp)
    · have e := parse_put (encN p 17) [] v hf ⟨by omega, by omega⟩
      rw [List.append_nil] at e
      have hnone : itemT id = .none := (itemT_range id).resolve_right (by omega)
      have e2 : takeP q id v server = (q, true) := by
        unfold takeP
        rw [hnone]
        simp only
        rw [if_neg (by omega)]
      have hp := vput_pos hf
      refine .step (s' := ⟨(encN p 17).length + (encI id v).length, seen ++ [id], q⟩) (by simp only [List.length_append, encI]; omega) ?_ (.done (s := ⟨_, _, q⟩) (by simp))
      rw [decStep_eq]
      simp only
      rw [e, decOf_ok rfl (fun h => by have := hs _ h; simp only at this; omega) (by rw [e2])]
      rw [e2]

/-! ### What is read is right -/
theorem okIt_usual (server : Bool) : ∀ k : Nat, k < 17 → okIt usualP server (itemT k) = true := by cases server <;> decide
theorem okIt_congr {p q : Pm} {server : Bool} {i : Int} (e : rN q i = rN p i ∧ rH q i = rH p i ∧ rB q i = rB p i) : okIt q server (itemT i) = okIt p server (itemT i) := by
  unfold rN rH rB at e
  cases hit : itemT i with
  | num j lo hi => rw [hit] at e; simp only at e; unfold okIt; simp only [e.1]
  | txt j lo hi s => rw [hit] at e; simp only at e; unfold okIt; simp only [e.2.1, e.2.2]
  | none => rfl
def AllOk (server : Bool) (p : Pm) : Prop := ∀ k : Nat, k < 17 → okIt p server (itemT k) = true
theorem take_all {p : Pm} {server : Bool} {id : Int} {v : List UInt8} (hp : p.Ok) (h : AllOk server p) (ht : (takeP p id v server).2 = true) : AllOk server (takeP p id v server).1 := by
  intro k hk
  by_cases e : (k : Int) = id
  · rw [takeP_split hp, Bool.and_eq_true] at ht
    rw [e]; exact ht.2
  · rw [okIt_congr (take_other e)]
    exact h k hk
theorem ParD.right {bs : List UInt8} {server : Bool} {s : DS} {r : Pm × Int × Int} (h : ParD bs server s r) : s.p.Ok → AllOk server s.p → r.2.2 = 0 → AllOk server r.1 := by
  induction h with
  | done h => exact fun _ h _ => h
  | err h he =>
    intro _ _ h0
    rw [decStep_eq] at he
    exact absurd h0 (decOf_inl he)
  | step h he k ih =>
    intro hp ha h0
    rw [decStep_eq] at he
    obtain ⟨h1, h2, h3, rfl⟩ := decOf_inr he
    exact ih (takeP_ok hp _ _ _) (take_all hp ha h3) h0
theorem DecR.right {bs : List UInt8} {server : Bool} {r : Pm × Int × Int} (h : DecR bs server r) (he : r.2.2 = 0) : checkN r.1 server 17 = true := by
  rcases h with ⟨_, rfl⟩ | ⟨_, h⟩
  · exact absurd he (by decide)
  · unfold checkN
    rw [List.all_eq_true]
    exact fun i hi => h.right usualP_ok (okIt_usual server) he i (List.mem_range.1 hi)
theorem ParD.bad {bs : List UInt8} {server : Bool} {s : DS} {r : Pm × Int × Int} (h : ParD bs server s r) : r.2.2 ≠ 0 → r.1 = zeroP ∧ 0 ≤ r.2.1 ∧ r.2.1 ≤ bs.length := by
  induction h with
  | done h => exact fun h => absurd rfl h
  | err h he => exact fun _ => ⟨rfl, by simp only; omega, by simp only; omega⟩
  | step h he k ih => exact ih
theorem DecR.bad {bs : List UInt8} {server : Bool} {r : Pm × Int × Int} (h : DecR bs server r) (he : r.2.2 ≠ 0) : r.1 = zeroP ∧ 0 ≤ r.2.1 ∧ r.2.1 ≤ bs.length := by
  rcases h with ⟨h1, rfl⟩ | ⟨_, h⟩
  · exact ⟨rfl, Int.le_refl 0, by simp only; omega⟩
  · exact h.bad he
theorem sameI_comm (p q : Pm) (i : Int) : sameI p q i = true → sameI q p i = true := by
  unfold sameI
  simp only [Bool.and_eq_true, decide_eq_true_eq, beq_iff_eq, Bool.or_eq_true, Bool.not_eq_true']
  rintro ⟨⟨h1, h2⟩, h3⟩
  refine ⟨⟨h1.symm, h2.symm⟩, ?_⟩
  rw [← h2]
  exact h3.imp_right Eq.symm
theorem sameP_comm {p q : Pm} (h : sameP p q = true) : sameP q p = true := by
  unfold sameP sameN at h ⊢
  rw [Bool.and_eq_true, List.all_eq_true] at h ⊢
  exact ⟨fun i hi => sameI_comm _ _ _ (h.1 i hi), by have := h.2; simp only [beq_iff_eq] at this ⊢; exact this.symm⟩
end Go.Proofs.Ytaknehiifafhfaa
