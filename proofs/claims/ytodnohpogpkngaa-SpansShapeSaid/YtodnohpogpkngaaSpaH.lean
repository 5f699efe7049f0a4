/- The reference's Add. -/
import Derived.Test.YtodnohpogpkngaaSpaG
namespace Go.Proofs.Ytodnohpogpkngaa
open Go.Proofs
set_option maxRecDepth 10000

def touch (F t : Int) (x : Sp) : Bool := decide (F - 1 ≤ x.2 ∧ x.1 ≤ t + 1)
def stepR (one : Sp) (st : List Sp × Bool) (x : Sp) : List Sp × Bool :=
  if one.1 ≤ x.1 ∧ x.2 ≤ one.2 then st else if one.2 < x.1 ∧ st.2 = false then (st.1 ++ [one] ++ [x], true) else (st.1 ++ [x], st.2)
def foldR (one : Sp) (l : List Sp) : List Sp × Bool := l.foldl (stepR one) ([], false)
def oneR (F t : Int) (l : List Sp) : Sp := oneS (F, t) (l.filter (touch F t))
def outR (F t : Int) (l : List Sp) : List Sp := match foldR (oneR F t l) l with
  | (out, true) => out
  | (out, false) => out ++ [oneR F t l]
theorem foldR_snoc (one : Sp) (l : List Sp) (x : Sp) : foldR one (l ++ [x]) = stepR one (foldR one l) x := by simp [foldR]
theorem foldR_fits (one : Sp) : ∀ (l : List Sp), (foldR one l).1.length ≤ 2 * l.length ∧ ∀ y ∈ (foldR one l).1, y = one ∨ y ∈ l := by
  have key : ∀ (l : List Sp) (st : List Sp × Bool), (l.foldl (stepR one) st).1.length ≤ st.1.length + 2 * l.length ∧ ∀ y ∈ (l.foldl (stepR one) st).1, y ∈ st.1 ∨ y = one ∨ y ∈ l := by
    intro l
    induction l with
    | nil => exact fun st => ⟨by simp, fun y hy => .inl hy⟩
    | cons x r ih =>
      intro st
      have h1 : (stepR one st x).1.length ≤ st.1.length + 2 ∧ ∀ y ∈ (stepR one st x).1, y ∈ st.1 ∨ y = one ∨ y = x := by
        unfold stepR
        split
        · exact ⟨by omega, fun y hy => .inl hy⟩
        · split
          · refine ⟨by simp, fun y hy => ?_⟩
            simp only [List.mem_append, List.mem_singleton] at hy
            rcases hy with (hy | hy) | hy
            · exact .inl hy
            · exact .inr (.inl hy)
            · exact .inr (.inr hy)
          · refine ⟨by simp, fun y hy => ?_⟩
            simp only [List.mem_append, List.mem_singleton] at hy
            rcases hy with hy | hy
            · exact .inl hy
            · exact .inr (.inr hy)
      have h2 := ih (stepR one st x)
      rw [List.foldl_cons]
      refine ⟨by rw [List.length_cons]; omega, fun y hy => ?_⟩
      rcases h2.2 y hy with h | h | h
      · rcases h1.2 y h with h | h | h
        · exact .inl h
        · exact .inr (.inl h)
        · exact .inr (.inr (h ▸ List.mem_cons_self ..))
      · exact .inr (.inl h)
      · exact .inr (.inr (List.mem_cons_of_mem _ h))
  intro l
  have := key l ([], false)
  refine ⟨by simpa [foldR] using this.1, fun y hy => ?_⟩
  rcases this.2 y hy with h | h
  · simp at h
  · exact h
def RAddTo (most floor : Int) (l : List Sp) (f t fresh e floor' : Int) (l' : List Sp) : Prop :=
  ((f < 0 ∨ t < f ∨ 4611686018427387903 < t) ∧ fresh = 0 ∧ e = 21 ∧ floor' = floor ∧ l' = l) ∨
  (((0 ≤ f ∧ f ≤ t ∧ t ≤ 4611686018427387903) ∧ t < floor) ∧ fresh = 0 ∧ e = 0 ∧ floor' = floor ∧ l' = l) ∨
  (((0 ≤ f ∧ f ≤ t ∧ t ≤ 4611686018427387903) ∧ floor ≤ t) ∧ e = 0 ∧ fresh = t - max f floor + 1 - cuts (max f floor) t l ∧
    (((outR (max f floor) t l).length ≤ most ∧ floor' = floor ∧ l' = outR (max f floor) t l) ∨
     (most < (outR (max f floor) t l).length ∧ ∃ x, outR (max f floor) t l = x :: l' ∧ floor' = x.2 + 1)))
theorem radd_spec (d : Nat) (A : Option Addr) (c : Nat) (most floor : Int) (l : List Sp) (f t : Int) (G : Mp) (hG : Ent G (RowAt A (spL l))) (hs : SetOk most floor l) :
    Spec Try.prog 18 #[.pointer (some ⟨d, 0, none⟩), .int .i64 f, .int .i64 t] [refR d A l.length c most floor] G (fun v own N => ∃ fresh e floor' l' A' c', v = .tuple #[.int .i64 fresh, .int .i64 e] ∧ own = [refR d A' l'.length c' most floor'] ∧ Known A l A' l' N ∧ RAddTo most floor l f t fresh e floor' l') := by
  obtain ⟨hm, hf, hl, hr⟩ := hs
  refine Spec.introC (args := [_, _, _]) wide Try.func18 rfl Try.call18 (by rfl) (by rfl) [7, 17, 26, 29, 32] (fun w0 hw0 => ?_)
  have bad : (f < 0 ∨ t < f ∨ 4611686018427387903 < t) → ∃ (own' rest : List Ob) (N' : Mp), Pick own' [refR d A l.length c most floor] rest ∧ (∀ w, MT w → Objs rest w → N' w) ∧ ∃ fresh e floor' l' A' c', (Value.tuple #[.int .i64 0, .int .i64 21]) = .tuple #[.int .i64 fresh, .int .i64 e] ∧ own' = [refR d A' l'.length c' most floor'] ∧ Known A l A' l' N' ∧ RAddTo most floor l f t fresh e floor' l' :=
    fun h => ⟨_, _, MT, .cons .here .nil, fun _ _ _ => trivial, 0, 21, floor, l, A, c, rfl, rfl, .inl ⟨rfl, rfl⟩, .inl ⟨h, rfl, rfl, rfl, rfl⟩⟩
  refine vcIf_dec (fun h1 => bad (.inl h1)) (fun h1 => ?_)
  refine vcIf_dec (fun h2 => bad (.inr (.inl h2))) (fun h2 => ?_)
  refine vcIf_dec (fun h3 => bad (.inr (.inr h3))) (fun h3 => ?_)
  refine vcLoad1_row (Ent.gnO .here (fun w hw => Ob.row_at hw)) rfl ?_
  refine vcIf_dec (fun h4 => ?_) (fun h4 => ?_)
  · exact ⟨_, _, MT, .cons .here .nil, fun _ _ _ => trivial, 0, 0, floor, l, A, c, rfl, rfl, .inl ⟨rfl, rfl⟩, .inr (.inl ⟨⟨⟨by omega, by omega, by omega⟩, h4⟩, rfl, rfl, rfl, rfl⟩)⟩
  refine vcCut_of (fun g : Int => [(0, .pointer (some ⟨d, 0, none⟩)), (1, .int .i64 g), (2, .int .i64 t)]) (fun _ => [refR d A l.length c most floor]) (fun _ => MT) (fun g => max f floor = g) ?_ ?_
  · refine vcLoad1_row (Ent.gnO .here (fun w hw => Ob.row_at hw)) rfl ?_
    refine vcIf_dec (fun h5 => ?_) (fun h5 => ?_)
    · refine vcLoad1_row (Ent.gnO .here (fun w hw => Ob.row_at hw)) rfl ?_
      exact ⟨floor, by omega, ⟨rfl, rfl, rfl, trivial⟩, ⟨_, .cons .here .nil⟩, Ent.refl⟩
    · exact ⟨f, by omega, ⟨rfl, rfl, rfl, trivial⟩, ⟨_, .cons .here .nil⟩, Ent.refl⟩
  intro F hF
  have hFb : 0 ≤ F ∧ F ≤ t ∧ F ≤ 4611686018427387904 := by omega
  have hcb : ∀ k, 0 ≤ cuts F t (l.take k) ∧ cuts F t (l.take k) ≤ t - F + 1 := fun k => by
    have := cuts_bound F t floor (l.take k) floor (hr.sub (List.take_sublist _ _)) (fun x hx => (hr.1 x (List.mem_of_mem_take hx)).1)
    omega
  have hlb : ∀ k (hk : k < l.length), 0 ≤ l[k].1 ∧ l[k].1 ≤ l[k].2 ∧ l[k].2 ≤ 4611686018427387903 := fun k hk => by
    have := hr.1 _ (List.getElem_mem hk)
    omega
  refine vcFit_i64 (by omega) ?_
  refine vcFit_i64 (by omega) ?_
  intro b9
  refine ⟨rfl, vcStoreN_row _ .here rfl (spL_one [(F, t)]) ?_⟩
  refine vcLoop_of (fun g : Nat × Sp × Int => l.length - g.1) (fun g => [(0, .pointer (some ⟨d, 0, none⟩)), (1, .int .i64 F), (2, .int .i64 t), (8, .int .i64 g.2.2), (9, .pointer (some ⟨b9, 0, none⟩)), (10, .int .i64 g.1)])
    (fun g => [.row b9 29 (spV g.2.1) 2, refR d A l.length c most floor]) (fun _ => MT) (fun g => g.1 ≤ l.length ∧ g.2.1 = oneR F t (l.take g.1) ∧ g.2.2 = t - F + 1 - cuts F t (l.take g.1)) (0, (F, t), t - F + 1) ⟨by simp, rfl, by simp [cuts]⟩ ⟨rfl, rfl, rfl, rfl, rfl, rfl, trivial⟩ ⟨_, .cons .here (.cons .here .nil)⟩ (fun _ _ => trivial) ?_
  rintro ⟨k, o, fr⟩ ⟨hk, ho, hfr⟩
  simp only at hk ho hfr
  refine vcLoad1_row (Ent.gnO (.there .here) (fun w hw => Ob.row_at hw)) rfl ?_
  refine vcIf_dec (fun hlt => ?_) (fun hge => ?_)
  · have hk' : k < l.length := by omega
    have hcs := hcb (k + 1)
    have hcs' := hcb k
    have hcu : cuts F t (l.take (k + 1)) = cuts F t (l.take k) + cutI F t l[k] := by rw [take_snoc_get hk', cuts_append]; simp [cuts]
    have hon : oneR F t (l.take (k + 1)) = if touch F t l[k] = true then (min o.1 l[k].1, max o.2 l[k].2) else o := by
      unfold oneR at ho ⊢
      rw [take_snoc_get hk', List.filter_append]
      cases h : touch F t l[k] with
      | true => simp [h, oneS_snoc, ← ho]
      | false => simp [h, ← ho]
    have hb := hlb k hk'
    have hcI : 0 ≤ cutI F t l[k] ∧ cutI F t l[k] ≤ 4611686018427387904 := by unfold cutI; split <;> omega
    refine vcLoad1_row (Ent.gnO (.there .here) (fun w hw => Ob.row_at hw)) rfl ?_
    refine vcIdx_nats (s := 2) k rfl (Ent.gnG hG) hk' (by rw [spL_len]; omega) (by omega) (fun a ha => ?_)
    subst ha
    refine vcLoadN_1 (spV l[k]) (Ent.gnG hG) rfl (spL_chunk hk') ?_
    intro b11
    refine ⟨rfl, vcStoreN_row _ .here rfl (spL_one [l[k]]) ?_⟩
    refine vcLoad1_row (Ent.gnO .here (fun w hw => Ob.row_at hw)) rfl ?_
    refine vcLoad1_row (Ent.gnO .here (fun w hw => Ob.row_at hw)) rfl ?_
    refine vcCall_of .nil (cut_spec l[k] F t _ hb (by omega) (by omega)) (fun v own' N' hv => ?_); obtain ⟨rfl, rfl, rfl⟩ := hv
    refine vcFit_i64 (by simp only; omega) ?_
    refine vcLoad1_row (Ent.gnO .here (fun w hw => Ob.row_at hw)) rfl ?_
    refine vcFit_i64 (by omega) ?_
    have no : touch F t l[k] = false → ∃ g' : Nat × Sp × Int, (g'.1 ≤ l.length ∧ g'.2.1 = oneR F t (l.take g'.1) ∧ g'.2.2 = t - F + 1 - cuts F t (l.take g'.1)) ∧ g' = (k + 1, o, fr - cutI F t l[k]) := fun h => by
      refine ⟨_, ⟨?_, ?_, ?_⟩, rfl⟩
      · simp only; omega
      · simp only [hon, h]; rfl
      · simp only; omega
    refine vcIf_dec (fun h5 => ?_) (fun h5 => ?_)
    · refine vcLoad1_row (Ent.gnO .here (fun w hw => Ob.row_at hw)) rfl ?_
      refine vcFit_i64 (by omega) ?_
      refine vcIf_dec (fun h6 => ?_) (fun h6 => ?_)
      · have hto : touch F t l[k] = true := decide_eq_true ⟨h5, h6⟩
        rw [hto, if_pos rfl] at hon
        refine vcCut_of (fun _ : Sp => [(0, .pointer (some ⟨d, 0, none⟩)), (1, .int .i64 F), (2, .int .i64 t), (8, .int .i64 (fr - cutI F t l[k])), (9, .pointer (some ⟨b9, 0, none⟩)), (10, .int .i64 k), (11, .pointer (some ⟨b11, 0, none⟩))])
          (fun y => [.row b11 29 (spV l[k]) 2, .row b9 29 (spV y) 2, refR d (some a) l.length c most floor]) (fun _ => MT) (fun y => y = (min o.1 l[k].1, o.2)) ?_ ?_
        · refine vcLoad1_row (Ent.gnO .here (fun w hw => Ob.row_at hw)) rfl ?_
          refine vcLoad1_row (Ent.gnO (.there .here) (fun w hw => Ob.row_at hw)) rfl ?_
          refine vcIf_dec (fun h7 => ?_) (fun h7 => ?_)
          · refine vcLoad1_row (Ent.gnO .here (fun w hw => Ob.row_at hw)) rfl ?_
            refine vcStore1_1 (.row b9 _ _ _) _ (.there .here) rfl (by show (0 : Nat) < 2; decide) rfl ?_
            refine ⟨(l[k].1, o.2), ?_, ⟨rfl, rfl, rfl, rfl, rfl, rfl, rfl, trivial⟩, ⟨_, .cons (.there .here) (.cons .here (.cons .here .nil))⟩, fun _ _ => trivial⟩
            simp only at h7
            simp only [Prod.mk.injEq, and_true]; omega
          · simp only at h7
            refine ⟨o, ?_, ⟨rfl, rfl, rfl, rfl, rfl, rfl, rfl, trivial⟩, ⟨_, .cons .here (.cons .here (.cons .here .nil))⟩, fun _ _ => trivial⟩
            rw [show min o.1 l[k].1 = o.1 from by omega]
        rintro y rfl
        refine vcLoad1_row (Ent.gnO .here (fun w hw => Ob.row_at hw)) rfl ?_
        refine vcLoad1_row (Ent.gnO (.there .here) (fun w hw => Ob.row_at hw)) rfl ?_
        refine vcIf_dec (fun h7 => ?_) (fun h7 => ?_)
        · refine vcLoad1_row (Ent.gnO .here (fun w hw => Ob.row_at hw)) rfl ?_
          refine vcStore1_1 (.row b9 _ _ _) _ (.there .here) rfl (by show (1 : Nat) < 2; decide) rfl ?_
          refine vcFit_i64 (by omega) ?_
          refine ⟨(k + 1, (min o.1 l[k].1, l[k].2), fr - cutI F t l[k]), ⟨by simp only; omega, ?_, by simp only; omega⟩, by simp only; omega, ⟨rfl, rfl, rfl, rfl, rfl, rfl, trivial⟩, ⟨_, .cons .here (.cons (.there .here) .nil)⟩, fun _ _ => trivial⟩
          simp only [hon, Prod.mk.injEq, true_and]; omega
        · refine vcFit_i64 (by omega) ?_
          refine ⟨(k + 1, (min o.1 l[k].1, o.2), fr - cutI F t l[k]), ⟨by simp only; omega, ?_, by simp only; omega⟩, by simp only; omega, ⟨rfl, rfl, rfl, rfl, rfl, rfl, trivial⟩, ⟨_, .cons (.there .here) (.cons (.there .here) .nil)⟩, fun _ _ => trivial⟩
          simp only [hon, Prod.mk.injEq, true_and]; omega
      · obtain ⟨g', hR, rfl⟩ := no (decide_eq_false fun h => h6 h.2)
        refine vcFit_i64 (by omega) ?_
        exact ⟨_, hR, by simp only; omega, ⟨rfl, rfl, rfl, rfl, rfl, rfl, trivial⟩, ⟨_, .cons (.there .here) (.cons (.there .here) .nil)⟩, fun _ _ => trivial⟩
    · obtain ⟨g', hR, rfl⟩ := no (decide_eq_false fun h => h5 h.1)
      refine vcFit_i64 (by omega) ?_
      exact ⟨_, hR, by simp only; omega, ⟨rfl, rfl, rfl, rfl, rfl, rfl, trivial⟩, ⟨_, .cons (.there .here) (.cons (.there .here) .nil)⟩, fun _ _ => trivial⟩
  obtain rfl : k = l.length := by omega
  rw [List.take_length] at ho hfr
  have hob : 0 ≤ o.2 ∧ o.2 ≤ 4611686018427387903 := by
    have h1 := oneS_sub (l.filter (touch F t)) (F, t)
    have h2 := oneS_hi (g := 4611686018427387904) (l.filter (touch F t)) (F, t) (by simp only; omega) (fun x hx => by have := hr.1 x (List.mem_filter.1 hx).1; omega)
    unfold oneR at ho
    rw [← ho] at h1 h2
    simp only at h1; omega
  -- the second loop
  refine vcLoop_of (fun g : Nat × Option Addr × Nat × List Sp × Bool => l.length - g.1) (fun g => [(0, .pointer (some ⟨d, 0, none⟩)), (8, .int .i64 fr), (9, .pointer (some ⟨b9, 0, none⟩)), (12, .slice g.2.1 g.2.2.2.1.length g.2.2.1), (13, .bool g.2.2.2.2), (14, .int .i64 g.1)])
    (fun g => [.row b9 29 (spV o) 2, refR d A l.length c most floor, .sl g.2.1 g.2.2.1 29 2 (spL g.2.2.2.1)]) (fun _ => MT) (fun g => g.1 ≤ l.length ∧ (g.2.2.2.1, g.2.2.2.2) = foldR o (l.take g.1) ∧ g.2.2.2.1.length ≤ g.2.2.1) (0, none, 0, [], false) ⟨by simp, rfl, by simp⟩ ⟨rfl, rfl, rfl, rfl, rfl, rfl, trivial⟩ ⟨_, .cons .here (.cons .here (.cons .none_ .nil))⟩ (fun _ _ => trivial) ?_
  rintro ⟨k, Ao, co, out, pl⟩ ⟨hk, hout, hoc⟩
  simp only at hk hout hoc
  have hol : out.length ≤ 2 * l.length := by
    have := (foldR_fits o (l.take k)).1
    rw [← hout, List.length_take] at this
    simp only at this; omega
  refine vcLoad1_row (Ent.gnO (.there .here) (fun w hw => Ob.row_at hw)) rfl ?_
  refine vcIf_dec (fun hlt => ?_) (fun hge => ?_)
  · have hk' : k < l.length := by omega
    have hsn := foldR_snoc o (l.take k) l[k]
    rw [← take_snoc_get hk', ← hout] at hsn
    unfold stepR at hsn
    refine vcLoad1_row (Ent.gnO (.there .here) (fun w hw => Ob.row_at hw)) rfl ?_
    refine vcIdx_nats (s := 2) k rfl (Ent.gnG hG) hk' (by rw [spL_len]; omega) (by omega) (fun a ha => ?_)
    subst ha
    refine vcLoadN_1 (spV l[k]) (Ent.gnG hG) rfl (spL_chunk hk') ?_
    intro b15
    refine ⟨rfl, vcStoreN_row _ .here rfl (spL_one [l[k]]) ?_⟩
    refine vcCut_of (fun _ : Unit => [(0, .pointer (some ⟨d, 0, none⟩)), (8, .int .i64 fr), (9, .pointer (some ⟨b9, 0, none⟩)), (12, .slice Ao out.length co), (13, .bool pl), (14, .int .i64 k), (15, .pointer (some ⟨b15, 0, none⟩))])
      (fun _ => [.row b15 29 (spV l[k]) 2, .row b9 29 (spV o) 2, refR d (some a) l.length c most floor, .sl Ao co 29 2 (spL out)]) (fun _ => MT) (fun _ => ¬ (o.1 ≤ l[k].1 ∧ l[k].2 ≤ o.2)) ?_ ?_
    · refine vcLoad1_row (Ent.gnO .here (fun w hw => Ob.row_at hw)) rfl ?_
      refine vcLoad1_row (Ent.gnO (.there .here) (fun w hw => Ob.row_at hw)) rfl ?_
      refine vcIf_dec (fun h5 => ?_) (fun h5 => ?_)
      · refine vcLoad1_row (Ent.gnO .here (fun w hw => Ob.row_at hw)) rfl ?_
        refine vcLoad1_row (Ent.gnO (.there .here) (fun w hw => Ob.row_at hw)) rfl ?_
        refine vcIf_dec (fun h6 => ?_) (fun h6 => ?_)
        · rw [if_pos ⟨h5, h6⟩] at hsn
          refine vcFit_i64 (by simp only; omega) ?_
          exact ⟨(k + 1, Ao, co, out, pl), ⟨by simp only; omega, hsn.symm, hoc⟩, by simp only; omega, ⟨rfl, rfl, rfl, rfl, rfl, rfl, trivial⟩, ⟨_, .cons (.there .here) (.cons (.there .here) (.cons (.there .here) .nil))⟩, fun _ _ => trivial⟩
        · exact ⟨(), fun h => h6 h.2, ⟨rfl, rfl, rfl, rfl, rfl, rfl, rfl, trivial⟩, ⟨_, .cons .here (.cons .here (.cons .here (.cons .here .nil)))⟩, fun _ _ => trivial⟩
      · exact ⟨(), fun h => h5 h.1, ⟨rfl, rfl, rfl, rfl, rfl, rfl, rfl, trivial⟩, ⟨_, .cons .here (.cons .here (.cons .here (.cons .here .nil)))⟩, fun _ _ => trivial⟩
    intro _ hin
    rw [if_neg hin] at hsn
    refine vcCut_of (fun g : Option Addr × Nat × List Sp × Bool => [(0, .pointer (some ⟨d, 0, none⟩)), (8, .int .i64 fr), (9, .pointer (some ⟨b9, 0, none⟩)), (12, .slice g.1 g.2.2.1.length g.2.1), (13, .bool g.2.2.2), (14, .int .i64 k), (15, .pointer (some ⟨b15, 0, none⟩))])
      (fun g => [.row b15 29 (spV l[k]) 2, .row b9 29 (spV o) 2, refR d (some a) l.length c most floor, .sl g.1 g.2.1 29 2 (spL g.2.2.1)]) (fun _ => MT) (fun g => (g.2.2.1 ++ [l[k]], g.2.2.2) = foldR o (l.take (k + 1)) ∧ g.2.2.1.length ≤ 2 * l.length + 1) ?_ ?_
    · refine vcLoad1_row (Ent.gnO .here (fun w hw => Ob.row_at hw)) rfl ?_
      refine vcLoad1_row (Ent.gnO (.there .here) (fun w hw => Ob.row_at hw)) rfl ?_
      refine vcIf_dec (fun h7 => ?_) (fun h7 => ?_)
      · cases pl with
        | true =>
          rw [if_neg (by simp)] at hsn
          exact ⟨(Ao, co, out, true), ⟨hsn.symm, by simp only; omega⟩, ⟨rfl, rfl, rfl, rfl, rfl, rfl, rfl, trivial⟩, ⟨_, .cons .here (.cons .here (.cons .here (.cons .here .nil)))⟩, fun _ _ => trivial⟩
        | false =>
          rw [if_pos ⟨h7, rfl⟩] at hsn
          refine vcLoadN_0 (Ent.gnO (.there .here) (fun w hw => Ob.row_at hw)) rfl ?_
          intro bv
          refine vcApp_of (spL out) _ (spL [o]) (.there (.there (.there (.there .here)))) (by rw [spL_len]) rfl (by omega) (spL_one _) (Ent.gnO .here (fun w hw => Ob.sl_at hw)) (by omega) (by omega) (fun A' c' hc' => ?_)
          refine ⟨(A', c', out ++ [o], true), ⟨hsn.symm, by simp; omega⟩, ⟨rfl, rfl, rfl, ?_, rfl, rfl, rfl, trivial⟩, ?_, fun _ _ => trivial⟩
          · simp only [List.length_append, List.length_cons, List.length_nil]; rfl
          · simp only [spL_append]
            exact ⟨_, .cons (.there (.there .here)) (.cons (.there (.there .here)) (.cons (.there (.there .here)) (.cons .here .nil)))⟩
      · rw [if_neg (fun h => h7 h.1)] at hsn
        exact ⟨(Ao, co, out, pl), ⟨hsn.symm, by simp only; omega⟩, ⟨rfl, rfl, rfl, rfl, rfl, rfl, rfl, trivial⟩, ⟨_, .cons .here (.cons .here (.cons .here (.cons .here .nil)))⟩, fun _ _ => trivial⟩
    rintro ⟨A1, c1, out1, pl1⟩ ⟨hout1, hl1⟩
    simp only at hout1 hl1
    refine vcLoadN_0 (Ent.gnO .here (fun w hw => Ob.row_at hw)) rfl ?_
    intro bv
    refine vcApp_of (spL out1) _ (spL [l[k]]) (.there (.there (.there (.there .here)))) (by rw [spL_len]) rfl (by omega) (spL_one _) (Ent.gnO .here (fun w hw => Ob.sl_at hw)) (by simp only; omega) (by simp only; omega) (fun A' c' hc' => ?_)
    refine vcFit_i64 (by omega) ?_
    refine ⟨(k + 1, A', c', out1 ++ [l[k]], pl1), ⟨by simp only; omega, hout1, by simp; exact hc'⟩, by simp only; omega, ⟨rfl, rfl, rfl, ?_, rfl, rfl, trivial⟩, ?_, fun _ _ => trivial⟩
    · simp only [List.length_append, List.length_cons, List.length_nil]; rfl
    · simp only [spL_append]
      exact ⟨_, .cons (.there (.there (.there .here))) (.cons (.there (.there (.there .here))) (.cons .here .nil))⟩
  obtain rfl : k = l.length := by omega
  rw [List.take_length] at hout
  have hfin : ∀ y ∈ out, 0 ≤ y.2 ∧ y.2 ≤ 4611686018427387903 := fun y hy => by
    have := (foldR_fits o l).2 y (by rw [← hout]; exact hy)
    rcases this with rfl | h
    · exact hob
    · have := hr.1 y h; omega
  have houtR : outR F t l = if pl = true then out else out ++ [o] := by
    unfold outR
    rw [← ho, ← hout]
    cases pl <;> rfl
  refine vcCut_of (fun g : Option Addr × Nat × List Sp => [(0, .pointer (some ⟨d, 0, none⟩)), (8, .int .i64 fr), (12, .slice g.1 g.2.2.length g.2.1)])
    (fun g => [refR d A l.length c most floor, .sl g.1 g.2.1 29 2 (spL g.2.2)]) (fun _ => MT) (fun g => g.2.2 = outR F t l ∧ (∀ y ∈ g.2.2, 0 ≤ y.2 ∧ y.2 ≤ 4611686018427387903) ∧ g.2.2.length ≤ g.2.1) ?_ ?_
  · cases pl with
    | true => exact ⟨(Ao, co, out), ⟨houtR.symm, hfin, hoc⟩, ⟨rfl, rfl, rfl, trivial⟩, ⟨_, .cons (.there .here) (.cons (.there .here) .nil)⟩, fun _ _ => trivial⟩
    | false =>
      refine vcLoadN_0 (Ent.gnO .here (fun w hw => Ob.row_at hw)) rfl ?_
      intro bv
      refine vcApp_of (spL out) _ (spL [o]) (.there (.there (.there .here))) (by rw [spL_len]) rfl (by omega) (spL_one _) (Ent.gnO .here (fun w hw => Ob.sl_at hw)) (by simp only; omega) (by simp only; omega) (fun A' c' hc' => ?_)
      refine ⟨(A', c', out ++ [o]), ⟨houtR.symm, fun y hy => ?_, by simp; exact hc'⟩, ⟨rfl, rfl, ?_, trivial⟩, ?_, fun _ _ => trivial⟩
      · rcases List.mem_append.1 hy with hy | hy
        · exact hfin y hy
        · simp only [List.mem_singleton] at hy; subst hy; exact hob
      · simp only [List.length_append, List.length_cons, List.length_nil]; rfl
      · simp only [spL_append]
        exact ⟨_, .cons (.there (.there (.there .here))) (.cons .here .nil)⟩
  rintro ⟨A1, c1, out1⟩ ⟨hout1, hfin1, hc1⟩
  simp only at hout1 hfin1 hc1
  have hor : ∀ floor' l', (((outR (max f floor) t l).length ≤ most ∧ floor' = floor ∧ l' = outR (max f floor) t l) ∨ (most < (outR (max f floor) t l).length ∧ ∃ x, outR (max f floor) t l = x :: l' ∧ floor' = x.2 + 1)) → RAddTo most floor l f t fr 0 floor' l' := fun floor' l' h =>
    .inr (.inr ⟨⟨⟨by omega, by omega, by omega⟩, by omega⟩, rfl, by rw [hF]; exact hfr, h⟩)
  rw [hF, ← hout1] at hor
  clear hout1
  refine vcLoad1_row (Ent.gnO .here (fun w hw => Ob.row_at hw)) rfl ?_
  refine vcIf_dec (fun hgt => ?_) (fun hle => ?_)
  · obtain ⟨x, r, rfl⟩ : ∃ x r, out1 = x :: r := by
      cases out1 with
      | nil => simp at hgt; omega
      | cons x r => exact ⟨x, r, rfl⟩
    have hx := hfin1 x (List.mem_cons_self ..)
    refine vcIdx_nats (s := 2) 0 rfl (Ent.gnO (.there .here) (fun w hw => Ob.sl_at hw)) (by simp) (by rw [spL_len]; exact Nat.le_refl _) (by omega) (fun ad ha => ?_)
    simp only at ha
    subst ha
    refine vcLoad1_2 (Ent.gnO (.there .here) (fun w hw => Ob.sl_at hw)) (i := 0) (j := 1) (v := .int .i64 x.2) rfl ?_
    refine vcFit_i64 (by omega) ?_
    refine vcStore1_1 (.row d _ _ _) _ .here rfl (by show (1 : Nat) < 3; decide) rfl ?_
    rw [List.length_cons] at hc1
    refine vcSlE 1 r.length (c1 - 1) rfl (by simp only [List.length_cons]; omega) (by simp only; omega) (by omega) (by simp only; omega) ?_
    refine vcStore1_1 (.row d _ _ _) _ .here rfl (by show (2 : Nat) < 3; decide) rfl ?_
    refine ⟨[refR d (cutA (some ad) (1 + (c1 - 1)) 1 2) r.length (c1 - 1) most (x.2 + 1)], _, RowAt (cutA (some ad) (1 + (c1 - 1)) 1 2) (spL r), .cons .here .nil, fun w _ ho => ?_, fr, 0, x.2 + 1, r, cutA (some ad) (1 + (c1 - 1)) 1 2, c1 - 1, rfl, rfl, .inr Ent.refl, hor _ _ (.inr ⟨by simp only at hgt; omega, x, rfl, rfl⟩)⟩
    exact (Ob.sl_at (ho _ (.head _))).spans (l := 1) rfl (by simp; omega) (by simp)
  · refine vcStore1_1 (.row d _ _ _) _ .here rfl (by show (2 : Nat) < 3; decide) rfl ?_
    exact ⟨[refR d A1 out1.length c1 most floor], _, RowAt A1 (spL out1), .cons .here .nil, fun w _ ho => Ob.sl_at (ho _ (.head _)), fr, 0, floor, out1, A1, c1, rfl, rfl, .inr Ent.refl, hor _ _ (.inl ⟨by simp only at hle; omega, rfl, rfl⟩)⟩
end Go.Proofs.Ytodnohpogpkngaa
