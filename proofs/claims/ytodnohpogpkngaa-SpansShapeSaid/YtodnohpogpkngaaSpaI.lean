/- Plain: the set and the reference's set answer alike. -/
import Derived.Test.YtodnohpogpkngaaSpaH
namespace Go.Proofs.Ytodnohpogpkngaa
open Go.Proofs
set_option maxRecDepth 10000

theorem cuts_zero {F t : Int} {l : List Sp} (h : ∀ x ∈ l, cutI F t x = 0) : cuts F t l = 0 := by
  induction l with
  | nil => rfl
  | cons x r ih =>
    have e : cuts F t (x :: r) = cutI F t x + cuts F t r := by simp [cuts]
    rw [e, h x (List.mem_cons_self ..), ih fun y hy => h y (List.mem_cons_of_mem _ hy)]; rfl
theorem foldl_left {o : Sp} : ∀ {a : List Sp} {acc : List Sp}, (∀ x ∈ a, x.1 < o.1 ∧ x.1 ≤ o.2) → a.foldl (stepR o) (acc, false) = (acc ++ a, false)
  | [], acc, _ => by simp
  | x :: r, acc, h => by
    have h1 := h x (List.mem_cons_self ..)
    have e : stepR o (acc, false) x = (acc ++ [x], false) := by
      unfold stepR
      rw [if_neg (by omega), if_neg (by rintro ⟨h, _⟩; omega)]
    rw [List.foldl_cons, e, foldl_left fun y hy => h y (List.mem_cons_of_mem _ hy)]; simp
theorem foldl_mid {o : Sp} {st : List Sp × Bool} : ∀ {m : List Sp}, (∀ x ∈ m, o.1 ≤ x.1 ∧ x.2 ≤ o.2) → m.foldl (stepR o) st = st
  | [], _ => rfl
  | x :: r, h => by
    have h1 := h x (List.mem_cons_self ..)
    have e : stepR o st x = st := by unfold stepR; rw [if_pos h1]
    rw [List.foldl_cons, e, foldl_mid fun y hy => h y (List.mem_cons_of_mem _ hy)]
theorem foldl_placed {o : Sp} : ∀ {b : List Sp} {acc : List Sp}, (∀ x ∈ b, o.2 < x.1 ∧ x.1 ≤ x.2) → b.foldl (stepR o) (acc, true) = (acc ++ b, true)
  | [], acc, _ => by simp
  | x :: r, acc, h => by
    have h1 := h x (List.mem_cons_self ..)
    have e : stepR o (acc, true) x = (acc ++ [x], true) := by
      unfold stepR
      rw [if_neg (by omega), if_neg (by simp)]
    rw [List.foldl_cons, e, foldl_placed fun y hy => h y (List.mem_cons_of_mem _ hy)]; simp
theorem outR_eq {floor F t : Int} {a m b : List Sp} (hr : Rise floor (a ++ (m ++ b))) (hF : floor ≤ F ∧ F ≤ t ∧ t ≤ 4611686018427387903) (ha : ∀ x ∈ a, x.2 + 1 < F) (hm : ∀ x ∈ m, F ≤ x.2 + 1 ∧ x.1 ≤ t + 1) (hb : ∀ x ∈ b, t + 1 < x.1) :
    outR F t (a ++ (m ++ b)) = a ++ ([oneS (F, t) m] ++ b) ∧ cuts F t (a ++ (m ++ b)) = cuts F t m := by
  have hra : ∀ x ∈ a, x.1 ≤ x.2 := fun x hx => (hr.1 x (List.mem_append_left _ hx)).2.1
  have hrm : ∀ x ∈ m, x.1 ≤ x.2 := fun x hx => (hr.1 x (List.mem_append_right _ (List.mem_append_left _ hx))).2.1
  have hrb : ∀ x ∈ b, x.1 ≤ x.2 := fun x hx => (hr.1 x (List.mem_append_right _ (List.mem_append_right _ hx))).2.1
  have hfil : (a ++ (m ++ b)).filter (touch F t) = m := by
    rw [List.filter_append, List.filter_append]
    have e1 : a.filter (touch F t) = [] := List.filter_eq_nil_iff.2 fun x hx => by have := ha x hx; simp [touch]; omega
    have e2 : m.filter (touch F t) = m := List.filter_eq_self.2 fun x hx => by have := hm x hx; simp [touch]; omega
    have e3 : b.filter (touch F t) = [] := List.filter_eq_nil_iff.2 fun x hx => by have := hb x hx; have := hrb x hx; simp [touch]; omega
    rw [e1, e2, e3]; simp
  have hri := rise_add hr hF ha hb
  have hone : oneR F t (a ++ (m ++ b)) = oneS (F, t) m := by unfold oneR; rw [hfil]
  generalize ho : oneS (F, t) m = o at *
  have hso : o.1 ≤ F ∧ t ≤ o.2 := by have := oneS_sub m (F, t); rw [ho] at this; exact this
  have hmo : ∀ x ∈ m, o.1 ≤ x.1 ∧ x.2 ≤ o.2 := by
    have key : ∀ (m : List Sp) (p : Sp), ∀ x ∈ m, (oneS p m).1 ≤ x.1 ∧ x.2 ≤ (oneS p m).2 := by
      intro m
      induction m with
      | nil => intro p x hx; cases hx
      | cons y r ih =>
        intro p x hx
        show (oneS (min p.1 y.1, max p.2 y.2) r).1 ≤ x.1 ∧ x.2 ≤ (oneS (min p.1 y.1, max p.2 y.2) r).2
        rcases List.mem_cons.1 hx with rfl | hx
        · have := oneS_sub r (min p.1 x.1, max p.2 x.2)
          simp only at this; omega
        · exact ih _ x hx
    intro x hx
    have := key m (F, t) x hx
    rw [ho] at this; exact this
  have hpa := (List.pairwise_append.1 hri.2).2.2
  have hpb := (List.pairwise_append.1 (List.pairwise_append.1 hri.2).2.1).2.2
  have hal : ∀ x ∈ a, x.1 < o.1 ∧ x.1 ≤ o.2 := fun x hx => by
    have h1 := hpa x hx o (List.mem_append_left _ (List.mem_singleton.2 rfl))
    have h2 := hra x hx
    omega
  have hbl : ∀ x ∈ b, o.2 < x.1 ∧ x.1 ≤ x.2 := fun x hx => by
    have h1 := hpb o (List.mem_singleton.2 rfl) x hx
    have h2 := hrb x hx
    omega
  refine ⟨?_, ?_⟩
  · unfold outR
    rw [hone]
    unfold foldR
    rw [List.foldl_append, List.foldl_append, foldl_left hal, foldl_mid hmo]
    cases b with
    | nil => simp
    | cons x r =>
      have h1 := hbl x (List.mem_cons_self ..)
      have e : stepR o ([] ++ a, false) x = ([] ++ a ++ [o] ++ [x], true) := by
        unfold stepR
        rw [if_neg (by omega), if_pos ⟨h1.1, rfl⟩]
      rw [List.foldl_cons, e, foldl_placed fun y hy => hbl y (List.mem_cons_of_mem _ hy)]
      simp
  · rw [cuts_append, cuts_append, cuts_zero (l := a), cuts_zero (l := b)]
    · omega
    · intro x hx
      have := hb x hx
      have := hrb x hx
      unfold cutI
      rw [if_neg (by omega)]
    · intro x hx
      have := ha x hx
      unfold cutI
      rw [if_neg (by omega)]

theorem add_alike {most floor : Int} {l : List Sp} {f t fr e fl fr2 e2 fl2 : Int} {l1 l2 : List Sp} (h : AddTo most floor l f t fr e fl l1) (h2 : RAddTo most floor l f t fr2 e2 fl2 l2) (hs : SetOk most floor l) : fr = fr2 ∧ e = e2 ∧ fl = fl2 ∧ l1 = l2 := by
  rcases h with ⟨hb, rfl, rfl, rfl, rfl⟩ | ⟨⟨hft, hlt⟩, rfl, rfl, rfl, rfl⟩ | ⟨⟨hft, hle⟩, rfl, a, m, b, rfl, ha, hm, hbb, rfl, h⟩
  · rcases h2 with ⟨_, rfl, rfl, rfl, rfl⟩ | ⟨⟨hft, _⟩, _⟩ | ⟨⟨hft, _⟩, _⟩
    · exact ⟨rfl, rfl, rfl, rfl⟩
    · omega
    · exfalso
      rcases hb with h | h | h
      · exact absurd hft.1 (by omega)
      · exact absurd hft.2.1 (by omega)
      · exact absurd hft.2.2 (by omega)
  · rcases h2 with ⟨hb, _⟩ | ⟨_, rfl, rfl, rfl, rfl⟩ | ⟨⟨_, hle⟩, _⟩
    · omega
    · exact ⟨rfl, rfl, rfl, rfl⟩
    · exact absurd (Int.lt_of_le_of_lt hle hlt) (Int.lt_irrefl _)
  · rcases h2 with ⟨hb, _⟩ | ⟨⟨_, hlt⟩, _⟩ | ⟨_, rfl, rfl, h2⟩
    · omega
    · omega
    · obtain ⟨e1, e2⟩ := outR_eq hs.hr (F := max f floor) (t := t) ⟨by omega, by omega, hft.2.2⟩ ha hm hbb
      rw [e1] at h2
      rw [e2]
      refine ⟨rfl, rfl, ?_⟩
      rcases h with ⟨hl, rfl, rfl⟩ | ⟨hg, x, hx, rfl⟩
      · rcases h2 with ⟨_, rfl, rfl⟩ | ⟨hg, _⟩
        · exact ⟨rfl, rfl⟩
        · omega
      · rcases h2 with ⟨hl, _⟩ | ⟨_, y, hy, rfl⟩
        · omega
        · rw [hx] at hy
          obtain ⟨rfl, rfl⟩ := List.cons.inj hy
          exact ⟨rfl, rfl⟩
theorem rise_all {floor : Int} {l : List Sp} (hr : Rise floor l) : raiseL floor l = l := by
  have e : l.filter (fun x => !decide (x.2 < floor)) = l := List.filter_eq_self.2 fun x hx => by
    have := hr.1 x hx
    simp; omega
  unfold raiseL
  rw [e]
  cases l with
  | nil => rfl
  | cons x r =>
    have := hr.1 x (List.mem_cons_self ..)
    show (max x.1 floor, x.2) :: r = x :: r
    rw [show max x.1 floor = x.1 from by omega]
theorem rraise_eq {floor f : Int} {l : List Sp} (hr : Rise floor l) : rraise f l = raiseL f l := by
  have hrf : Rise floor (l.filter fun x => !decide (x.2 < f)) := hr.sub (List.filter_sublist)
  have hge : ∀ x ∈ l.filter (fun x => !decide (x.2 < f)), f ≤ x.2 := fun x hx => by
    have := (List.mem_filter.1 hx).2
    simp at this; omega
  unfold rraise raiseL
  generalize l.filter (fun x => !decide (x.2 < f)) = fl at *
  cases fl with
  | nil => rfl
  | cons x r =>
    have h3 := List.pairwise_cons.1 hrf.2
    have h2 := hge x (List.mem_cons_self ..)
    show (max x.1 f, x.2) :: r.map _ = (max x.1 f, x.2) :: r
    congr 1
    have : r.map (fun x => (max x.1 f, x.2)) = r.map id := List.map_congr_left fun y hy => by
      have := h3.1 y hy
      show (max y.1 f, y.2) = y
      rw [show max y.1 f = y.1 from by omega]
    rw [this, List.map_id]
theorem raise_alike {most floor : Int} {l : List Sp} {f e fl e2 fl2 : Int} {l1 l2 : List Sp} (h : RaiseTo floor l f e fl l1) (h2 : RRaiseTo floor l f e2 fl2 l2) (hs : SetOk most floor l) : e = e2 ∧ fl = fl2 ∧ l1 = l2 := by
  rcases h with ⟨hb, rfl, rfl, rfl⟩ | ⟨hf, rfl, rfl, rfl⟩
  · rcases h2 with ⟨_, rfl, rfl, rfl⟩ | ⟨hf, _⟩
    · exact ⟨rfl, rfl, rfl⟩
    · omega
  · rcases h2 with ⟨hb, _⟩ | ⟨_, rfl, ⟨hle, rfl, rfl⟩ | ⟨hlt, rfl, rfl⟩⟩
    · omega
    · rw [show max fl2 f = fl2 from by omega]
      exact ⟨rfl, rfl, rise_all hs.hr⟩
    · rw [show max floor fl2 = fl2 from by omega]
      exact ⟨rfl, rfl, (rraise_eq hs.hr).symm⟩
theorem has_alike {most floor : Int} {l : List Sp} (n : Int) (hs : SetOk most floor l) : (if n < floor then decide (0 ≤ n) else l.any fun x => decide (x.1 ≤ n ∧ n ≤ x.2)) = (decide (0 ≤ n ∧ n < floor) || l.any (inS n)) := by
  show (if n < floor then decide (0 ≤ n) else l.any (inS n)) = _
  by_cases h : n < floor
  · rw [if_pos h]
    by_cases h0 : 0 ≤ n
    · rw [decide_eq_true h0, decide_eq_true ⟨h0, h⟩]; rfl
    · rw [decide_eq_false h0, decide_eq_false (fun h => h0 h.1), Bool.false_or]
      symm
      rw [List.any_eq_false]
      intro x hx
      have := hs.hr.1 x hx
      simp [inS]; omega
  · rw [if_neg h, decide_eq_false (fun h' => h h'.2), Bool.false_or]
end Go.Proofs.Ytodnohpogpkngaa
