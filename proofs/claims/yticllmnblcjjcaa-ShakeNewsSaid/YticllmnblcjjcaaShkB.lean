/- Layer 10: lists of texts. -/
import Derived.Test.YticllmnblcjjcaaShkA
namespace Go.Proofs.Yticllmnblcjjcaa
open Go.Proofs
set_option maxRecDepth 10000

theorem baL_loop (b : ByteArray) : ∀ (k i : Nat) (r : List UInt8), b.size - i = k → ByteArray.toList.loop b i r = r.reverse ++ b.data.toList.drop i
  | 0, i, r, h => by
    unfold ByteArray.toList.loop
    rw [if_neg (by omega), List.drop_eq_nil_of_le (by show b.data.toList.length ≤ i; rw [Array.length_toList]; show b.size ≤ i; omega), List.append_nil]
  | k + 1, i, r, h => by
    unfold ByteArray.toList.loop
    have hi : i < b.data.toList.length := by rw [Array.length_toList]; show i < b.size; omega
    rw [if_pos (by omega), baL_loop b k (i + 1) _ (by omega), List.drop_eq_getElem_cons hi, List.reverse_cons, List.append_assoc]
    congr 2
    rw [List.cons_append, List.nil_append]
    congr 1
    show b.data[i]! = _
    rw [Array.getElem_toList]
    exact getElem!_pos b.data i (by rw [Array.length_toList] at hi; exact hi)
theorem baL (b : ByteArray) : b.toList = b.data.toList := by
  unfold ByteArray.toList
  rw [baL_loop b _ 0 [] rfl]
  rfl
theorem ba_ext {a b : ByteArray} (h : a.data.toList = b.data.toList) : a = b := by
  obtain ⟨⟨a⟩⟩ := a
  obtain ⟨⟨b⟩⟩ := b
  exact congrArg (fun l => ByteArray.mk (Array.mk l)) h
theorem ba_beq (a b : ByteArray) : (a.toList == b.toList) = decide (a = b) := by
  by_cases h : a = b
  · subst h; simp
  · have : a.toList ≠ b.toList := fun e => h (ba_ext (by rw [← baL, ← baL, e]))
    simp [h, this]

/-- A list of texts in memory. -/
def stL (ps : List ByteArray) : List Value := ps.map Value.string
theorem stL_len (ps : List ByteArray) : (stL ps).length = ps.length := by simp [stL]
theorem stL_get {ps : List ByteArray} {k : Nat} (h : k < ps.length) : (stL ps)[k]? = some (.string ps[k]) := by simp [stL, h]
theorem stL_one (ps : List ByteArray) : ∀ v ∈ stL ps, oneCell v = true := by
  intro v hv
  obtain ⟨p, _, rfl⟩ := List.mem_map.1 hv
  rfl
def PredS (f : FuncId) (cap : Array Value) (p : ByteArray → Bool) (G : Mp) : Prop := ∀ x : ByteArray, Spec Try.prog f ([Value.string x] ++ cap.toList).toArray [] G (Ret (.bool (p x)))
def idxI {α : Type} (p : α → Bool) (l : List α) : Int := match l.findIdx? p with
  | some i => i
  | none => -1
theorem idxI_take {α : Type} {p : α → Bool} {l : List α} {k : Nat} (hk : k < l.length) (h : ∀ x ∈ l.take k, p x = false) (hp : p l[k] = true) : idxI p l = k := by
  have : l.findIdx? p = some k := by
    rw [List.findIdx?_eq_some_iff_getElem]
    refine ⟨hk, hp, fun j hj => ?_⟩
    have := h l[j] (List.mem_take_iff_getElem.2 ⟨j, by omega, rfl⟩)
    simp [this]
  simp [idxI, this]
theorem idxI_none {α : Type} {p : α → Bool} {l : List α} (h : ∀ x ∈ l, p x = false) : idxI p l = -1 := by
  have : l.findIdx? p = none := List.findIdx?_eq_none_iff.2 h
  simp [idxI, this]
theorem take_all {α : Type} {p : α → Bool} {l : List α} {k : Nat} (hk : k < l.length) (h : ∀ x ∈ l.take k, p x = false) (hp : p l[k] = false) : ∀ x ∈ l.take (k + 1), p x = false := by
  rw [List.take_succ_eq_append_getElem hk]
  intro x hx
  rcases List.mem_append.1 hx with hx | hx
  · exact h x hx
  · simp only [List.mem_singleton] at hx; subst hx; exact hp
theorem idxI_any {α : Type} (p : α → Bool) (l : List α) : decide (0 ≤ idxI p l) = l.any p := by
  cases h : l.findIdx? p with
  | none =>
    have : l.any p = false := by
      rw [List.findIdx?_eq_none_iff] at h
      rw [List.any_eq_false]
      exact fun x hx => by simp [h x hx]
    simp [idxI, h, this]
  | some i =>
    have : l.any p = true := by
      rw [List.findIdx?_eq_some_iff_getElem] at h
      obtain ⟨hi, hp, _⟩ := h
      exact List.any_eq_true.2 ⟨_, List.getElem_mem hi, hp⟩
    simp [idxI, h, this]
theorem indexf_spec (A : Option Addr) (c : Nat) (l : List ByteArray) (f : FuncId) (cap : Array Value) (p : ByteArray → Bool) (G : Mp) (h1 : Ent G (RowAt A (stL l))) (hf : PredS f cap p G) (hl : l.length ≤ 9223372036854775807) :
    Spec Try.prog 56 #[.slice A l.length c, .func (.func f) #[] cap] [] G (Ret (.int .i64 (idxI p l))) := by
  refine Spec.intro (args := [_, _]) wide Try.func56 rfl Try.call56 (by rfl) (by rfl) (fun w0 hw0 => ?_)
  refine vcLoop_of (fun k : Nat => l.length - k) (fun k => [(0, .slice A l.length c), (1, .func (.func f) #[] cap), (7, .int .i64 l.length), (8, .int .i64 k)]) (fun _ => []) (fun _ => MT) (fun k => k ≤ l.length ∧ ∀ x ∈ l.take k, p x = false)
    0 ⟨by omega, by simp⟩ ⟨rfl, rfl, rfl, rfl, trivial⟩ ⟨_, .nil⟩ Ent.refl ?_
  rintro k ⟨hk, ht⟩
  refine vcIf_dec (fun hlt => ?_) (fun hge => ?_)
  · have hk' : k < l.length := by omega
    refine vcIdx_nat k rfl (Ent.gnG h1) hk' (by rw [stL_len]; omega) (fun a ha => ?_)
    subst ha
    refine vcLoad1_row (Ent.gnG h1) (stL_get hk') ?_
    refine vcCall_of .nil ((hf l[k]).weak (Ent.gnG Ent.refl)) (fun v own' N' hv => ?_)
    obtain ⟨rfl, rfl, rfl⟩ := hv
    refine vcIf_split (fun hp => ?_) (fun hp => ?_)
    · rw [idxI_take hk' ht hp]
      exact ⟨[], _, MT, .nil, fun _ _ _ => trivial, rfl, rfl, rfl⟩
    · refine vcFit_i64 (by omega) ?_
      exact ⟨k + 1, ⟨by omega, take_all hk' ht hp⟩, by omega, ⟨rfl, rfl, rfl, rfl, trivial⟩, ⟨_, .nil⟩, fun _ _ => trivial⟩
  · obtain rfl : k = l.length := by omega
    rw [idxI_none (by simpa using ht)]
    exact ⟨[], _, MT, .nil, fun _ _ _ => trivial, rfl, rfl, rfl⟩
theorem containsf_spec (A : Option Addr) (c : Nat) (l : List ByteArray) (f : FuncId) (cap : Array Value) (p : ByteArray → Bool) (G : Mp) (h1 : Ent G (RowAt A (stL l))) (hf : PredS f cap p G) (hl : l.length ≤ 9223372036854775807) :
    Spec Try.prog 48 #[.slice A l.length c, .func (.func f) #[] cap] [] G (Ret (.bool (l.any p))) := by
  refine Spec.intro (args := [_, _]) wide Try.func48 rfl Try.call48 (by rfl) (by rfl) (fun w0 hw0 => ?_)
  refine vcCall_of .nil (indexf_spec A c l f cap p _ (Ent.gnG h1) (fun x => (hf x).weak (Ent.gnG Ent.refl)) hl) (fun v own' N' hv => ?_); obtain ⟨rfl, rfl, rfl⟩ := hv
  refine ⟨[], _, MT, .nil, fun _ _ _ => trivial, ?_, rfl, rfl⟩
  rw [← idxI_any]
  rfl
def badS (p : ByteArray) : Bool := decide (p.size = 0 ∨ 32 < p.size)
theorem right1_spec (p : ByteArray) (G : Mp) : Spec Try.prog 49 #[.string p] [] G (Ret (.bool (badS p))) := by
  refine Spec.intro (args := [_]) wide Try.func49 rfl Try.call49 (by rfl) (by rfl) (fun w0 hw0 => ?_)
  refine vcIf_split (fun h => ?_) (fun h => ?_)
  · rw [ba_beq] at h
    have h := of_decide_eq_true h
    refine ⟨[], _, MT, .nil, fun _ _ _ => trivial, ?_, rfl, rfl⟩
    subst h
    rfl
  · rw [ba_beq] at h
    have h := of_decide_eq_false h
    refine ⟨[], _, MT, .nil, fun _ _ _ => trivial, ?_, rfl, rfl⟩
    have h0 : p.size ≠ 0 := fun e => h (ba_ext (by
      have : p.data.toList.length = 0 := by rw [Array.length_toList]; exact e
      rw [List.eq_nil_of_length_eq_zero this]))
    refine congrArg Value.bool (decide_eq_decide.2 ?_)
    omega
/-- Texts that may be protos. -/
def goodL (ps : List ByteArray) : Prop := 1 ≤ ps.length ∧ ps.length ≤ 8 ∧ ∀ p ∈ ps, 1 ≤ p.size ∧ p.size ≤ 32
instance (ps : List ByteArray) : Decidable (goodL ps) := inferInstanceAs (Decidable (_ ∧ _ ∧ _))
theorem goodL_any {ps : List ByteArray} : ps.any badS = false ↔ ∀ p ∈ ps, 1 ≤ p.size ∧ p.size ≤ 32 := by
  rw [List.any_eq_false]
  refine ⟨fun h p hp => ?_, fun h p hp => ?_⟩
  · have := h p hp
    simp only [badS, decide_eq_true_eq] at this
    omega
  · have := h p hp
    simp only [badS, decide_eq_true_eq]
    omega
theorem right_spec (A : Option Addr) (c : Nat) (ps : List ByteArray) (G : Mp) (h1 : Ent G (RowAt A (stL ps))) (hl : ps.length ≤ 9223372036854775807) : Spec Try.prog 25 #[.slice A ps.length c] [] G (Ret (.bool (decide (goodL ps)))) := by
  refine Spec.intro (args := [_]) wide Try.func25 rfl Try.call25 (by rfl) (by rfl) (fun w0 hw0 => ?_)
  refine vcIf_dec (fun ha => ?_) (fun ha => ?_)
  · refine vcIf_dec (fun hb => ?_) (fun hb => ?_)
    · refine vcCall_of .nil (containsf_spec A c ps 49 #[] badS _ (Ent.gnG h1) (fun x => right1_spec x _) hl) (fun v own' N' hv => ?_); obtain ⟨rfl, rfl, rfl⟩ := hv
      refine ⟨[], _, MT, .nil, fun _ _ _ => trivial, ?_, rfl, rfl⟩
      refine congrArg Value.bool ?_
      cases hany : ps.any badS with
      | true =>
        have : ¬ goodL ps := fun h => by rw [goodL_any.2 h.2.2] at hany; cases hany
        simp [this]
      | false =>
        have : goodL ps := ⟨by omega, by omega, goodL_any.1 hany⟩
        simp [this]
    · refine ⟨[], _, MT, .nil, fun _ _ _ => trivial, ?_, rfl, rfl⟩
      have : ¬ goodL ps := fun h => hb (by have := h.2.1; omega)
      exact congrArg Value.bool (by simp [this])
  · refine ⟨[], _, MT, .nil, fun _ _ _ => trivial, ?_, rfl, rfl⟩
    have : ¬ goodL ps := fun h => ha (by have := h.1; omega)
    exact congrArg Value.bool (by simp [this])
theorem goodp_spec (A : Option Addr) (c : Nat) (ps : List ByteArray) (G : Mp) (h1 : Ent G (RowAt A (stL ps))) (hl : ps.length ≤ 9223372036854775807) : Spec Try.prog 38 #[.slice A ps.length c] [] G (Ret (.bool (decide (goodL ps)))) := by
  refine Spec.intro (args := [_]) wide Try.func38 rfl Try.call38 (by rfl) (by rfl) (fun w0 hw0 => ?_)
  have bad : ¬ goodL ps → Value.bool false = .bool (decide (goodL ps)) := fun h => by simp [h]
  refine vcIf_dec (fun ha => ?_) (fun ha => ?_)
  · refine ⟨[], _, MT, .nil, fun _ _ _ => trivial, ?_, rfl, rfl⟩
    exact bad (fun h => by have := h.1; omega)
  refine vcIf_dec (fun hb => ?_) (fun hb => ?_)
  · refine ⟨[], _, MT, .nil, fun _ _ _ => trivial, ?_, rfl, rfl⟩
    exact bad (fun h => by have := h.2.1; omega)
  refine vcLoop_of (fun k : Nat => ps.length - k) (fun k => [(0, .slice A ps.length c), (3, .int .i64 k)]) (fun _ => []) (fun _ => MT) (fun k => k ≤ ps.length ∧ ∀ x ∈ ps.take k, badS x = false)
    0 ⟨by omega, by simp⟩ ⟨rfl, rfl, trivial⟩ ⟨_, .nil⟩ Ent.refl ?_
  rintro k ⟨hk, ht⟩
  refine vcIf_dec (fun hlt => ?_) (fun hge => ?_)
  · have hk' : k < ps.length := by omega
    refine vcIdx_nat k rfl (Ent.gnG h1) hk' (by rw [stL_len]; omega) (fun a ha => ?_)
    subst ha
    refine vcLoad1_row (Ent.gnG h1) (stL_get hk') ?_
    have no : badS ps[k] = true → ¬ goodL ps := fun h hg => by
      have := hg.2.2 _ (List.getElem_mem hk')
      simp only [badS, decide_eq_true_eq] at h
      omega
    refine vcIf_dec (fun hs => ?_) (fun hs => ?_)
    · refine ⟨[], _, MT, .nil, fun _ _ _ => trivial, ?_, rfl, rfl⟩
      exact bad (no (by simp only [badS, decide_eq_true_eq]; omega))
    refine vcIdx_nat k rfl (Ent.gnG h1) hk' (by rw [stL_len]; omega) (fun a ha => ?_)
    cases ha
    refine vcLoad1_row (Ent.gnG h1) (stL_get hk') ?_
    refine vcIf_dec (fun hs2 => ?_) (fun hs2 => ?_)
    · refine ⟨[], _, MT, .nil, fun _ _ _ => trivial, ?_, rfl, rfl⟩
      exact bad (no (by simp only [badS, decide_eq_true_eq]; omega))
    refine vcFit_i64 (by omega) ?_
    exact ⟨k + 1, ⟨by omega, take_all hk' ht (by simp only [badS, decide_eq_false_iff_not]; omega)⟩, by omega, ⟨rfl, rfl, trivial⟩, ⟨_, .nil⟩, fun _ _ => trivial⟩
  · obtain rfl : k = ps.length := by omega
    rw [List.take_length] at ht
    refine ⟨[], _, MT, .nil, fun _ _ _ => trivial, ?_, rfl, rfl⟩
    have : goodL ps := ⟨by omega, by omega, goodL_any.1 (List.any_eq_false.2 (fun x hx => by rw [ht x hx]; decide))⟩
    exact congrArg Value.bool (by simp [this])
theorem sclone_spec (A : Option Addr) (c : Nat) (ps : List ByteArray) (G : Mp) (h1 : Ent G (RowAt A (stL ps))) (hx : ps.length ≤ 1000000) :
    Spec Try.prog 26 #[.slice A ps.length c] [] G (Own1 ps.length 9 1 (stL ps)) := by
  refine Spec.intro (args := [_]) wide Try.func26 rfl Try.call26 (by rfl) (by rfl) (fun w0 hw0 => ?_)
  refine vcIf_split (fun hnil => ?_) (fun _ => ?_)
  · have hA : A = none := by simpa using hnil
    subst hA
    have hxs : ps = [] := by
      cases ps with
      | nil => rfl
      | cons x r =>
        obtain ⟨a, ha, _⟩ := h1 w0 (hw0.pers w0 (Fr.refl _ _)) 0 (.string x) (by simp [stL])
        cases ha
    subst hxs
    exact ⟨_, [], MT, .cons .none_ .nil, fun _ _ _ => trivial, _, _, rfl, rfl, rfl, Nat.le_refl _⟩
  · intro b
    refine vcApp_of [] _ (stL ps) .here rfl (by simp [stL_len]) (by omega) (stL_one ps) (Ent.gnG h1) (by omega) (by omega) (fun A' cap' hc => ?_)
    refine ⟨_, [], MT, .cons .here .nil, fun _ _ _ => trivial, A', cap', ?_, rfl, rfl, ?_⟩
    · rw [Nat.zero_add]; rfl
    · omega
end Go.Proofs.Yticllmnblcjjcaa
