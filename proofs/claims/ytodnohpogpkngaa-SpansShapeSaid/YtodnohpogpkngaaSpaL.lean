/- Plain: what is had stays had, and what is fresh adds up. -/
import Derived.Test.YtodnohpogpkngaaSpaJ
namespace Go.Proofs.Ytodnohpogpkngaa
open Go.Proofs
set_option maxRecDepth 10000

theorem inS_iff {n : Int} {x : Sp} : inS n x = true ↔ x.1 ≤ n ∧ n ≤ x.2 := by simp [inS]
theorem oneS_in {n : Int} : ∀ (m : List Sp) (o : Sp), o.1 ≤ o.2 → (∀ x ∈ m, x.1 ≤ x.2 ∧ o.1 ≤ x.2 + 1 ∧ x.1 ≤ o.2 + 1) → ((oneS o m).1 ≤ n ∧ n ≤ (oneS o m).2 ↔ (o.1 ≤ n ∧ n ≤ o.2) ∨ ∃ x ∈ m, x.1 ≤ n ∧ n ≤ x.2)
  | [], o, _, _ => by simp [oneS]
  | x :: r, o, ho, h => by
    have h1 := h x (List.mem_cons_self ..)
    have ih := oneS_in (n := n) r (min o.1 x.1, max o.2 x.2) (by simp only; omega) fun y hy => by
      have := h y (List.mem_cons_of_mem _ hy)
      simp only; omega
    have e : oneS o (x :: r) = oneS (min o.1 x.1, max o.2 x.2) r := rfl
    rw [e, ih]
    simp only [List.mem_cons, exists_eq_or_imp]
    constructor
    · rintro (h2 | h2)
      · by_cases h3 : o.1 ≤ n ∧ n ≤ o.2
        · exact .inl h3
        · exact .inr (.inl (by omega))
      · exact .inr (.inr h2)
    · rintro (h2 | h2 | h2)
      · exact .inl (by omega)
      · exact .inl (by omega)
      · exact .inr h2
/-- A number is had. -/
def Had (floor : Int) (l : List Sp) (n : Int) : Prop := n < floor ∨ l.any (inS n) = true
theorem any_in {l : List Sp} {n : Int} : l.any (inS n) = true ↔ ∃ x ∈ l, x.1 ≤ n ∧ n ≤ x.2 := by
  rw [List.any_eq_true]
  exact ⟨fun ⟨x, hx, h⟩ => ⟨x, hx, inS_iff.1 h⟩, fun ⟨x, hx, h⟩ => ⟨x, hx, inS_iff.2 h⟩⟩
theorem one_any {most floor F t : Int} {a m b : List Sp} (hs : SetOk most floor (a ++ (m ++ b))) (hF : floor ≤ F ∧ F ≤ t) (hm : ∀ x ∈ m, F ≤ x.2 + 1 ∧ x.1 ≤ t + 1) (n : Int) :
    (a ++ ([oneS (F, t) m] ++ b)).any (inS n) = true ↔ (F ≤ n ∧ n ≤ t) ∨ (a ++ (m ++ b)).any (inS n) = true := by
  rw [any_in, any_in]
  have h := oneS_in (n := n) m (F, t) hF.2 fun x hx => by
    have := hm x hx
    have := hs.hr.1 x (List.mem_append_right _ (List.mem_append_left _ hx))
    simp only; omega
  constructor
  · rintro ⟨x, hx, hn⟩
    rcases List.mem_append.1 hx with hx | hx
    · exact .inr ⟨x, List.mem_append_left _ hx, hn⟩
    rcases List.mem_append.1 hx with hx | hx
    · rw [List.mem_singleton] at hx; subst hx
      rcases h.1 hn with h | ⟨y, hy, h⟩
      · exact .inl h
      · exact .inr ⟨y, List.mem_append_right _ (List.mem_append_left _ hy), h⟩
    · exact .inr ⟨x, List.mem_append_right _ (List.mem_append_right _ hx), hn⟩
  · have one : oneS (F, t) m ∈ a ++ ([oneS (F, t) m] ++ b) := List.mem_append_right _ (List.mem_append_left _ (List.mem_singleton.2 rfl))
    rintro (hn | ⟨x, hx, hn⟩)
    · exact ⟨_, one, h.2 (.inl hn)⟩
    rcases List.mem_append.1 hx with hx | hx
    · exact ⟨x, List.mem_append_left _ hx, hn⟩
    rcases List.mem_append.1 hx with hx | hx
    · exact ⟨_, one, h.2 (.inr ⟨x, hx, hn⟩)⟩
    · exact ⟨x, List.mem_append_right _ (List.mem_append_right _ hx), hn⟩
/-- Behind Add: what is had. -/
theorem AddTo.had {most floor : Int} {l : List Sp} {f t fr e fl : Int} {l' : List Sp} (h : AddTo most floor l f t fr e fl l') (hs : SetOk most floor l) :
    floor ≤ fl ∧ (∀ n, Had floor l n → Had fl l' n) ∧ (e = 0 → 0 ≤ f ∧ f ≤ t ∧ t ≤ 4611686018427387903 ∧ ∀ n, f ≤ n → n ≤ t → Had fl l' n) := by
  rcases h with ⟨hb, rfl, rfl, rfl, rfl⟩ | ⟨⟨hft, hlt⟩, rfl, rfl, rfl, rfl⟩ | ⟨⟨hft, hle⟩, rfl, a, m, b, rfl, ha, hm, hbb, rfl, h⟩
  · exact ⟨Int.le_refl _, fun _ h => h, fun h => by omega⟩
  · exact ⟨Int.le_refl _, fun _ h => h, fun _ => ⟨hft.1, hft.2.1, hft.2.2, fun n _ h => .inl (by omega)⟩⟩
  · have hF : floor ≤ max f floor ∧ max f floor ≤ t := by omega
    have hany := one_any hs hF hm
    have hri := rise_add hs.hr (F := max f floor) (t := t) ⟨by omega, by omega, hft.2.2⟩ ha hbb
    generalize hF' : max f floor = F at *
    have key : ∀ n, (f ≤ n ∧ n ≤ t) ∨ Had floor (a ++ (m ++ b)) n → Had floor (a ++ ([oneS (F, t) m] ++ b)) n := by
      rintro n (h | h | h)
      · by_cases hn : n < floor
        · exact .inl hn
        · exact .inr ((hany n).2 (.inl (by omega)))
      · exact .inl h
      · exact .inr ((hany n).2 (.inr h))
    rcases h with ⟨_, rfl, rfl⟩ | ⟨_, x, hx, rfl⟩
    · exact ⟨Int.le_refl _, fun n h => key n (.inr h), fun _ => ⟨hft.1, hft.2.1, hft.2.2, fun n h1 h2 => key n (.inl ⟨h1, h2⟩)⟩⟩
    · rw [hx] at hri key
      have h1 := hri.1 x (List.mem_cons_self ..)
      have low : ∀ n, Had floor (x :: l') n → Had (x.2 + 1) l' n := by
        rintro n (h | h)
        · exact .inl (by omega)
        · rw [any_in] at h
          obtain ⟨y, hy, h⟩ := h
          rcases List.mem_cons.1 hy with rfl | hy
          · exact .inl (by omega)
          · exact .inr (any_in.2 ⟨y, hy, h⟩)
      exact ⟨by omega, fun n h => low n (key n (.inr h)), fun _ => ⟨hft.1, hft.2.1, hft.2.2, fun n h1 h2 => low n (key n (.inl ⟨h1, h2⟩))⟩⟩
theorem clip_any {fl n : Int} (hn : fl ≤ n) : ∀ l : List Sp, (clip fl l).any (inS n) = l.any (inS n)
  | [] => rfl
  | x :: r => by
    have : inS n (max x.1 fl, x.2) = inS n x := by simp only [inS]; exact decide_eq_decide.2 ⟨fun h => by omega, fun h => by omega⟩
    simp [clip, this]
theorem RaiseTo.had {most floor : Int} {l : List Sp} {f e fl : Int} {l' : List Sp} (h : RaiseTo floor l f e fl l') (hs : SetOk most floor l) : floor ≤ fl ∧ (∀ n, Had floor l n → Had fl l' n) := by
  rcases h with ⟨hb, rfl, rfl, rfl⟩ | ⟨hf, rfl, rfl, rfl⟩
  · exact ⟨Int.le_refl _, fun _ h => h⟩
  · refine ⟨by omega, fun n hn => ?_⟩
    by_cases hlt : n < max floor f
    · exact .inl hlt
    rcases hn with hn | hn
    · omega
    refine .inr ?_
    unfold raiseL
    rw [clip_any (by omega)]
    rw [any_in] at hn ⊢
    obtain ⟨x, hx, h⟩ := hn
    exact ⟨x, List.mem_filter.2 ⟨hx, by simp; omega⟩, h⟩

/-! How many numbers. -/
def szS (x : Sp) : Int := x.2 - x.1 + 1
def szL (l : List Sp) : Int := (l.map szS).sum
theorem szL_cons (x : Sp) (l : List Sp) : szL (x :: l) = szS x + szL l := by simp [szL]
theorem szL_append (a b : List Sp) : szL (a ++ b) = szL a + szL b := by simp [szL]
theorem szL_nn {floor : Int} {l : List Sp} (h : Rise floor l) : 0 ≤ szL l := by
  induction l with
  | nil => exact Int.le_refl _
  | cons x r ih =>
    have h1 := h.1 x (List.mem_cons_self ..)
    have := ih (h.sub (List.sublist_cons_self ..))
    rw [szL_cons]; unfold szS; omega
theorem szL_le : ∀ {l : List Sp} {floor : Int}, Rise floor l → floor ≤ 4611686018427387904 → floor + szL l ≤ 4611686018427387904
  | [], floor, _, hf => by simp [szL]; omega
  | x :: r, floor, h, hf => by
    have h1 := h.1 x (List.mem_cons_self ..)
    have h2 := List.pairwise_cons.1 h.2
    have := szL_le (l := r) (floor := x.2 + 1) ⟨fun y hy => by
      have := h.1 y (List.mem_cons_of_mem _ hy)
      have := h2.1 y hy
      omega, h2.2⟩ (by omega)
    rw [szL_cons]; unfold szS; omega
theorem oneS_sz {F t : Int} (hFt : F ≤ t) : ∀ (m : List Sp) (o : Sp), o.1 ≤ F → (o.2 = t ∨ m = []) → (∀ x ∈ m, o.1 < F → F ≤ x.1) → m.Pairwise (fun x y => x.2 + 1 < y.1) → (∀ x ∈ m, x.1 ≤ x.2 ∧ F ≤ x.2 + 1 ∧ x.1 ≤ t + 1) →
    szS (oneS o m) = szS o + szL m - cuts F t m
  | [], o, _, _, _, _, _ => by simp [oneS, szL, cuts]
  | x :: r, o, h1, h2, h3, h4, h5 => by
    have hx := h5 x (List.mem_cons_self ..)
    have hx3 := h3 x (List.mem_cons_self ..)
    have hp := List.pairwise_cons.1 h4
    have h2' : o.2 = t := h2.resolve_right (by simp)
    have ih := oneS_sz hFt r (min o.1 x.1, max o.2 x.2) (by simp only; omega) (by
      by_cases hc : x.2 ≤ t
      · exact .inl (by simp only; omega)
      · refine .inr ?_
        cases r with
        | nil => rfl
        | cons y r' =>
          have := hp.1 y (List.mem_cons_self ..)
          have := h5 y (List.mem_cons_of_mem _ (List.mem_cons_self ..))
          omega) (fun y hy _ => by
        have := hp.1 y hy
        omega) hp.2 (fun y hy => h5 y (List.mem_cons_of_mem _ hy))
    have e : oneS o (x :: r) = oneS (min o.1 x.1, max o.2 x.2) r := rfl
    have ec : cuts F t (x :: r) = cutI F t x + cuts F t r := by simp [cuts]
    have es : szS (min o.1 x.1, max o.2 x.2) = szS o + szS x - cutI F t x := by
      unfold szS cutI
      simp only
      split <;> omega
    rw [e, ih, ec, szL_cons, es]
    omega
/-- Behind Add: how many numbers are held. -/
theorem AddTo.size {most floor : Int} {l : List Sp} {f t fr e fl : Int} {l' : List Sp} (h : AddTo most floor l f t fr e fl l') (hs : SetOk most floor l) :
    0 ≤ fr ∧ floor + szL l + fr ≤ fl + szL l' ∧ (fl = 0 → floor = 0 ∧ szL l' = szL l + fr) := by
  have h0 := hs.hf.1
  rcases h with ⟨hb, rfl, rfl, rfl, rfl⟩ | ⟨⟨hft, hlt⟩, rfl, rfl, rfl, rfl⟩ | ⟨⟨hft, hle⟩, rfl, a, m, b, rfl, ha, hm, hbb, rfl, h⟩
  · exact ⟨by omega, by omega, fun h => ⟨h, by omega⟩⟩
  · exact ⟨by omega, by omega, fun h => ⟨h, by omega⟩⟩
  · have hF : floor ≤ max f floor ∧ max f floor ≤ t := by omega
    have hri := rise_add hs.hr (F := max f floor) (t := t) ⟨by omega, by omega, hft.2.2⟩ ha hbb
    have hrm : Rise floor m := hs.hr.sub (((List.sublist_append_left m b).trans (List.sublist_append_right a _)))
    generalize hF' : max f floor = F at *
    have hsz := oneS_sz hF.2 m (F, t) (Int.le_refl _) (.inl rfl) (fun x _ h => by simp only at h; omega) hrm.2 (fun x hx => ⟨(hrm.1 x hx).2.1, hm x hx⟩)
    have e1 : szS (F, t) = t - F + 1 := rfl
    have e2 : szL (a ++ ([oneS (F, t) m] ++ b)) = szL (a ++ (m ++ b)) + (t - F + 1 - cuts F t m) := by
      rw [szL_append, szL_append, szL_append, szL_append, show szL [oneS (F, t) m] = szS (oneS (F, t) m) from by simp [szL], hsz, e1]
      omega
    have hfr : 0 ≤ t - F + 1 - cuts F t m := by
      have : szL m ≤ szS (oneS (F, t) m) := by
        have key : ∀ (m : List Sp) (lo hi : Int), Rise lo m → (∀ x ∈ m, x.2 ≤ hi) → lo ≤ hi + 1 → szL m ≤ hi - lo + 1 := by
          intro m
          induction m with
          | nil => intro lo hi _ _ h; simp [szL]; omega
          | cons x r ih =>
            intro lo hi hr hh hl
            have h1 := hr.1 x (List.mem_cons_self ..)
            have h2 := hh x (List.mem_cons_self ..)
            have hp := List.pairwise_cons.1 hr.2
            have := ih (x.2 + 1) hi ⟨fun y hy => by
              have := hr.1 y (List.mem_cons_of_mem _ hy)
              have := hp.1 y hy
              omega, hp.2⟩ (fun y hy => hh y (List.mem_cons_of_mem _ hy)) (by omega)
            rw [szL_cons]; unfold szS; omega
        have hb : ∀ (m : List Sp) (o : Sp), ∀ x ∈ m, (oneS o m).1 ≤ x.1 ∧ x.2 ≤ (oneS o m).2 := by
          intro m
          induction m with
          | nil => intro o x hx; cases hx
          | cons y r ih =>
            intro o x hx
            show (oneS (min o.1 y.1, max o.2 y.2) r).1 ≤ x.1 ∧ x.2 ≤ (oneS (min o.1 y.1, max o.2 y.2) r).2
            rcases List.mem_cons.1 hx with rfl | hx
            · have := oneS_sub r (min o.1 x.1, max o.2 x.2)
              simp only at this; omega
            · exact ih _ x hx
        have hsub := oneS_sub m (F, t)
        simp only at hsub
        exact key m _ _ ⟨fun x hx => ⟨(hb m (F, t) x hx).1, (hrm.1 x hx).2⟩, hrm.2⟩ (fun x hx => (hb m (F, t) x hx).2) (by omega)
      rw [hsz, e1] at this
      omega
    refine ⟨hfr, ?_⟩
    rcases h with ⟨_, rfl, rfl⟩ | ⟨_, x, hx, rfl⟩
    · exact ⟨by omega, fun h => ⟨h, e2⟩⟩
    · rw [hx] at hri e2
      have h1 := hri.1 x (List.mem_cons_self ..)
      rw [szL_cons] at e2
      unfold szS at e2
      exact ⟨by omega, fun h => by omega⟩
/-- The same span once more. -/
theorem AddTo.again {most floor : Int} {l : List Sp} {f t fr e fl fr2 e2 fl2 : Int} {l' l2 : List Sp} (h : AddTo most floor l f t fr e fl l') (hs : SetOk most floor l) (h2 : AddTo most fl l' f t fr2 e2 fl2 l2) : e2 = e ∧ fr2 = 0 := by
  have hs' := h.ok hs
  rcases h2 with ⟨hb, rfl, rfl, rfl, rfl⟩ | ⟨⟨hft, hlt⟩, rfl, rfl, rfl, rfl⟩ | ⟨⟨hft, hle⟩, rfl, a2, m2, b2, rfl, ha2, hm2, hb2, rfl, -⟩
  · rcases h with ⟨_, rfl, rfl, rfl, rfl⟩ | ⟨⟨hft, _⟩, -⟩ | ⟨⟨hft, _⟩, -⟩
    · exact ⟨rfl, rfl⟩
    · omega
    · omega
  · rcases h with ⟨hb, rfl, rfl, rfl, rfl⟩ | ⟨_, _, rfl, _⟩ | ⟨_, rfl, _⟩
    · omega
    · exact ⟨rfl, rfl⟩
    · exact ⟨rfl, rfl⟩
  · have hcov : e = 0 ∧ ∃ x ∈ a2 ++ (m2 ++ b2), x.1 ≤ max f fl ∧ t ≤ x.2 := by
      rcases h with ⟨hb, _⟩ | ⟨⟨_, hlt⟩, _, _, rfl, _⟩ | ⟨⟨_, hle'⟩, rfl, a, m, b, rfl, ha, hm, hbb, _, h⟩
      · omega
      · omega
      · have hsub := oneS_sub m (max f floor, t)
        simp only at hsub
        have hri := rise_add hs.hr (F := max f floor) (t := t) ⟨by omega, by omega, hft.2.2⟩ ha hbb
        refine ⟨rfl, ?_⟩
        rcases h with ⟨_, rfl, h⟩ | ⟨_, x, hx, rfl⟩
        · rw [h]
          exact ⟨_, List.mem_append_right _ (List.mem_append_left _ (List.mem_singleton.2 rfl)), by omega, by omega⟩
        · cases a with
          | nil =>
            rw [List.nil_append, List.singleton_append] at hx
            obtain ⟨rfl, _⟩ := List.cons.inj hx
            omega
          | cons y r =>
            rw [List.cons_append] at hx hri
            obtain ⟨rfl, hx⟩ := List.cons.inj hx
            rename_i hx0
            rw [← hx0]
            have := hri.1 y (List.mem_cons_self ..)
            have := ha y (List.mem_cons_self ..)
            exact ⟨_, List.mem_append_right _ (List.mem_append_left _ (List.mem_singleton.2 rfl)), by omega, by omega⟩
    obtain ⟨rfl, x, hx, hx1, hx2⟩ := hcov
    refine ⟨rfl, ?_⟩
    have hm' : x ∈ m2 := by
      rcases List.mem_append.1 hx with hx | hx
      · have := ha2 x hx; omega
      · rcases List.mem_append.1 hx with hx | hx
        · exact hx
        · have := hb2 x hx; omega
    have hrm : Rise fl m2 := hs'.hr.sub (((List.sublist_append_left m2 b2).trans (List.sublist_append_right a2 _)))
    obtain ⟨p, q, rfl⟩ := List.append_of_mem hm'
    obtain ⟨_, pq, pp⟩ := List.pairwise_append.1 hrm.2
    have pq := List.pairwise_cons.1 pq
    rw [cuts_append, show cuts (max f fl) t (x :: q) = cutI (max f fl) t x + cuts (max f fl) t q from by simp [cuts], cuts_zero (l := p), cuts_zero (l := q)]
    · unfold cutI
      rw [if_pos (by omega)]
      omega
    · intro y hy
      have := pq.1 y hy
      unfold cutI
      rw [if_neg (by omega)]
    · intro y hy
      have := pp y hy x (List.mem_cons_self ..)
      unfold cutI
      rw [if_neg (by omega)]
theorem AddTo.len {most floor : Int} {l : List Sp} {f t fr e fl : Int} {l' : List Sp} (h : AddTo most floor l f t fr e fl l') (hs : SetOk most floor l) : (e ≠ 0 → l' = l ∧ fl = floor ∧ ¬ (0 ≤ f ∧ f ≤ t ∧ t ≤ 4611686018427387903)) ∧ (e = 0 → l'.length ≤ l.length + 1) ∧ (fl = floor ∨ (e = 0 ∧ most < l.length + 1)) := by
  rcases h with ⟨hb, rfl, rfl, rfl, rfl⟩ | ⟨⟨hft, hlt⟩, rfl, rfl, rfl, rfl⟩ | ⟨⟨hft, hle⟩, rfl, a, m, b, rfl, ha, hm, hbb, rfl, h⟩
  · exact ⟨fun _ => ⟨rfl, rfl, by omega⟩, fun h => by omega, .inl rfl⟩
  · exact ⟨fun h => absurd rfl h, fun _ => by omega, .inl rfl⟩
  · have hl : (a ++ ([oneS (max f floor, t) m] ++ b)).length ≤ (a ++ (m ++ b)).length + 1 := by simp; omega
    rcases h with ⟨_, rfl, rfl⟩ | ⟨hg, x, hx, rfl⟩
    · exact ⟨fun h => absurd rfl h, fun _ => hl, .inl rfl⟩
    · rw [hx] at hl hg
      exact ⟨fun h => absurd rfl h, fun _ => by simp only [List.length_cons] at hl; omega, .inr ⟨rfl, by omega⟩⟩
theorem AddTo.same {most : Int} {l : List Sp} {f t fr fl : Int} {l' : List Sp} (h : AddTo most 0 l f t fr 0 fl l') (hs : SetOk most 0 l) (hf : fl = 0) (n : Int) : l'.any (inS n) = ((l.any (inS n)) || inS n (f, t)) := by
  rcases h with ⟨_, _, h, _⟩ | ⟨⟨hft, hlt⟩, _⟩ | ⟨⟨hft, hle⟩, _, a, m, b, rfl, ha, hm, hbb, rfl, h⟩
  · omega
  · omega
  · rw [show max f 0 = f from by omega] at *
    rcases h with ⟨_, _, rfl⟩ | ⟨_, x, hx, rfl⟩
    · rw [Bool.eq_iff_iff, one_any hs ⟨by omega, by omega⟩ hm, Bool.or_eq_true, inS_iff]
      exact or_comm
    · have hri := rise_add hs.hr (F := f) (t := t) ⟨by omega, by omega, hft.2.2⟩ ha hbb
      rw [hx] at hri
      have := hri.1 x (List.mem_cons_self ..)
      omega
end Go.Proofs.Ytodnohpogpkngaa
