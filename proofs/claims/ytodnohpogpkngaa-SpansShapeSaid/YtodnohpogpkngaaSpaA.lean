/- Rows of spans, and the library's functions that only read them. -/
import Derived.Test.YtodnohpogpkngaaLib
import Derived.Test.YtodnohpogpkngaaFlat
namespace Go.Proofs.Ytodnohpogpkngaa
open Go.Proofs
set_option maxRecDepth 10000

abbrev Sp := Int × Int
def spV (x : Sp) : List Value := [.int .i64 x.1, .int .i64 x.2]
def spL (l : List Sp) : List Value := l.flatMap spV
def spA (x : Sp) : Value := .agg #[.int .i64 x.1, .int .i64 x.2]
theorem spV_len (x : Sp) : (spV x).length = 2 := rfl
theorem spL_len (l : List Sp) : (spL l).length = l.length * 2 := flatMap_len spV_len l
theorem spL_cons (x : Sp) (l : List Sp) : spL (x :: l) = spV x ++ spL l := by simp [spL]
theorem spL_append (a b : List Sp) : spL (a ++ b) = spL a ++ spL b := by simp [spL]
theorem spL_take (l : List Sp) (k : Nat) : (spL l).take (k * 2) = spL (l.take k) := by
  rcases Nat.le_total k l.length with h | h
  · have e : spL l = spL (l.take k) ++ spL (l.drop k) := by rw [← spL_append, List.take_append_drop]
    have hl : (spL (l.take k)).length = k * 2 := by rw [spL_len, List.length_take, Nat.min_eq_left h]
    rw [e, List.take_left' hl]
  · rw [List.take_of_length_le (by rw [spL_len]; omega), List.take_of_length_le h]
theorem spL_drop (l : List Sp) (k : Nat) : (spL l).drop (k * 2) = spL (l.drop k) := by
  rcases Nat.le_total k l.length with h | h
  · have e : spL l = spL (l.take k) ++ spL (l.drop k) := by rw [← spL_append, List.take_append_drop]
    have hl : (spL (l.take k)).length = k * 2 := by rw [spL_len, List.length_take, Nat.min_eq_left h]
    rw [e, List.drop_left' hl]
  · rw [List.drop_eq_nil_of_le (by rw [spL_len]; omega), List.drop_eq_nil_of_le h]; rfl
theorem spL_chunk {l : List Sp} {k : Nat} (hk : k < l.length) : ((spL l).drop (k * 2)).take 2 = spV l[k] := flatMap_chunk spV_len l k hk
theorem spL_one (l : List Sp) : ∀ v ∈ spL l, oneCell v = true := by
  intro v hv
  simp only [spL, List.mem_flatMap] at hv
  obtain ⟨x, _, hx⟩ := hv
  simp only [spV, List.mem_cons, List.not_mem_nil, or_false] at hx
  rcases hx with rfl | rfl <;> rfl
theorem spL_get0 {l : List Sp} {k : Nat} (hk : k < l.length) : (spL l)[k * 2]? = some (.int .i64 l[k].1) := by
  have h := spL_chunk hk
  have h2 : (((spL l).drop (k * 2)).take 2)[0]? = some (.int .i64 l[k].1) := by rw [h]; rfl
  rwa [List.getElem?_take, if_pos (by omega), List.getElem?_drop] at h2
theorem spL_get1 {l : List Sp} {k : Nat} (hk : k < l.length) : (spL l)[k * 2 + 1]? = some (.int .i64 l[k].2) := by
  have h := spL_chunk hk
  have h2 : (((spL l).drop (k * 2)).take 2)[1]? = some (.int .i64 l[k].2) := by rw [h]; rfl
  rwa [List.getElem?_take, if_pos (by omega), List.getElem?_drop] at h2

/-- A test of a span that the library is handed. -/
def PredF (f : FuncId) (cap : Array Value) (p : Sp → Bool) (G : Mp) : Prop := ∀ x : Sp, Spec Try.prog f ([spA x] ++ cap.toList).toArray [] G (Ret (.bool (p x)))

def idxI {α : Type} (p : α → Bool) (l : List α) : Int := match l.findIdx? p with
  | some i => i
  | none => -1
theorem idxI_take {α : Type} {p : α → Bool} {l : List α} {k : Nat} (hk : k < l.length) (h : ∀ x ∈ l.take k, p x = false) (hp : p l[k] = true) : idxI p l = k := by
  have : l.findIdx? p = some k := by
    rw [List.findIdx?_eq_some_iff_getElem]
    refine ⟨hk, hp, fun j hj => ?_⟩
    have := h l[j] (List.mem_take_iff_getElem.2 ⟨j, by omega, rfl⟩)
    simp [this]
  simp [idxI, this]
theorem idxI_none {α : Type} {p : α → Bool} {l : List α} (h : ∀ x ∈ l, p x = false) : idxI p l = -1 := by
  have : l.findIdx? p = none := List.findIdx?_eq_none_iff.2 h
  simp [idxI, this]
theorem take_all {α : Type} {p : α → Bool} {l : List α} {k : Nat} (hk : k < l.length) (h : ∀ x ∈ l.take k, p x = false) (hp : p l[k] = false) : ∀ x ∈ l.take (k + 1), p x = false := by
  rw [List.take_succ_eq_append_getElem hk]
  intro x hx
  rcases List.mem_append.1 hx with hx | hx
  · exact h x hx
  · simp only [List.mem_singleton] at hx; subst hx; exact hp

theorem indexf_spec (A : Option Addr) (c : Nat) (l : List Sp) (f : FuncId) (cap : Array Value) (p : Sp → Bool) (G : Mp) (h1 : Ent G (RowAt A (spL l))) (hf : PredF f cap p G) (hl : l.length ≤ 9223372036854775807) :
    Spec Try.prog 37 #[.slice A l.length c, .func (.func f) #[] cap] [] G (Ret (.int .i64 (idxI p l))) := by
  refine Spec.intro (args := [_, _]) wide Try.func37 rfl Try.call37 (by rfl) (by rfl) (fun w0 hw0 => ?_)
  refine vcLoop_of (fun k : Nat => l.length - k) (fun k => [(0, .slice A l.length c), (1, .func (.func f) #[] cap), (7, .int .i64 l.length), (8, .int .i64 k)]) (fun _ => []) (fun _ => MT) (fun k => k ≤ l.length ∧ ∀ x ∈ l.take k, p x = false)
    0 ⟨by omega, by simp⟩ ⟨rfl, rfl, rfl, rfl, trivial⟩ ⟨_, .nil⟩ Ent.refl ?_
  rintro k ⟨hk, ht⟩
  refine vcIf_dec (fun hlt => ?_) (fun hge => ?_)
  · have hk' : k < l.length := by omega
    refine vcIdx_nats (s := 2) k rfl (Ent.gnG h1) hk' (by rw [spL_len]; omega) (by omega) (fun a ha => ?_)
    subst ha
    refine vcLoadN_1 (spV l[k]) (Ent.gnG h1) rfl (spL_chunk hk') ?_
    refine vcCall_of .nil ((hf l[k]).weak (Ent.gnG Ent.refl)) (fun v own' N' hv => ?_)
    obtain ⟨rfl, rfl, rfl⟩ := hv
    refine vcIf_split (fun hp => ?_) (fun hp => ?_)
    · rw [idxI_take hk' ht hp]
      exact ⟨[], _, MT, .nil, fun _ _ _ => trivial, rfl, rfl, rfl⟩
    · refine vcFit_i64 (by omega) ?_
      exact ⟨k + 1, ⟨by omega, take_all hk' ht hp⟩, by omega, ⟨rfl, rfl, rfl, rfl, trivial⟩, ⟨_, .nil⟩, fun _ _ => trivial⟩
  · obtain rfl : k = l.length := by omega
    rw [idxI_none (by simpa using ht)]
    exact ⟨[], _, MT, .nil, fun _ _ _ => trivial, rfl, rfl, rfl⟩
theorem idxI_any {α : Type} (p : α → Bool) (l : List α) : decide (0 ≤ idxI p l) = l.any p := by
  cases h : l.findIdx? p with
  | none =>
    have : l.any p = false := by
      rw [List.findIdx?_eq_none_iff] at h
      rw [List.any_eq_false]
      exact fun x hx => by simp [h x hx]
    simp [idxI, h, this]
  | some i =>
    have : l.any p = true := by
      rw [List.findIdx?_eq_some_iff_getElem] at h
      obtain ⟨hi, hp, _⟩ := h
      exact List.any_eq_true.2 ⟨_, List.getElem_mem hi, hp⟩
    simp [idxI, h, this]
theorem containsf_spec (A : Option Addr) (c : Nat) (l : List Sp) (f : FuncId) (cap : Array Value) (p : Sp → Bool) (G : Mp) (h1 : Ent G (RowAt A (spL l))) (hf : PredF f cap p G) (hl : l.length ≤ 9223372036854775807) :
    Spec Try.prog 26 #[.slice A l.length c, .func (.func f) #[] cap] [] G (Ret (.bool (l.any p))) := by
  refine Spec.intro (args := [_, _]) wide Try.func26 rfl Try.call26 (by rfl) (by rfl) (fun w0 hw0 => ?_)
  refine vcCall_of .nil (indexf_spec A c l f cap p _ (Ent.gnG h1) (fun x => (hf x).weak (Ent.gnG Ent.refl)) hl) (fun v own' N' hv => ?_); obtain ⟨rfl, rfl, rfl⟩ := hv
  refine ⟨[], _, MT, .nil, fun _ _ _ => trivial, ?_, rfl, rfl⟩
  rw [← idxI_any]
  rfl
theorem clone_spec (A : Option Addr) (c : Nat) (l : List Sp) (G : Mp) (h1 : Ent G (RowAt A (spL l))) (hl : l.length ≤ 1000000) :
    Spec Try.prog 28 #[.slice A l.length c] [] G (fun v own N => (A = none ∧ l.length = 0 ∧ v = .slice none 0 0 ∧ own = [] ∧ N = MT) ∨ Own1 l.length 29 2 (spL l) v own N) := by
  refine Spec.intro (args := [_]) wide Try.func28 rfl Try.call28 (by rfl) (by rfl) (fun w0 hw0 => ?_)
  cases A with
  | none =>
    obtain rfl : l = [] := by
      cases l with
      | nil => rfl
      | cons x r =>
        obtain ⟨a, ha, _⟩ := h1 _ (hw0.pers w0 (Fr.refl _ _)) 0 (.int .i64 x.1) rfl
        cases ha
    exact ⟨[], _, MT, .nil, fun _ _ _ => trivial, .inl ⟨rfl, rfl, rfl, rfl, rfl⟩⟩
  | some a =>
    intro b
    refine vcApp_of [] _ (spL l) .here rfl (by rw [spL_len]) (by omega) (spL_one l) (Ent.gnG h1) (by omega) (by omega) (fun A' cap' hc => ?_)
    rw [Nat.zero_add, List.nil_append]
    refine ⟨_, [], MT, .cons .here .nil, fun _ _ _ => trivial, .inr ⟨A', cap', rfl, rfl, rfl, by omega⟩⟩
end Go.Proofs.Ytodnohpogpkngaa
