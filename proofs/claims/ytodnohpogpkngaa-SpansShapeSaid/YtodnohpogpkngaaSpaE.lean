/- A set's Add, walked. -/
import Derived.Test.YtodnohpogpkngaaSpaD
namespace Go.Proofs.Ytodnohpogpkngaa
open Go.Proofs
set_option maxRecDepth 10000

theorem cuts_append (f t : Int) (a b : List Sp) : cuts f t (a ++ b) = cuts f t a + cuts f t b := by simp [cuts]
theorem cuts_bound (f t floor : Int) : ∀ (m : List Sp) (g : Int), Rise floor m → (∀ x ∈ m, g ≤ x.1) → 0 ≤ cuts f t m ∧ cuts f t m ≤ max 0 (t - max f g + 1)
  | [], g, _, _ => by simp only [cuts, List.map_nil, List.sum_nil]; omega
  | x :: r, g, hr, hg => by
    have h1 := hr.1 x (List.mem_cons_self ..)
    have h2 := hg x (List.mem_cons_self ..)
    have h3 := List.pairwise_cons.1 hr.2
    have ih := cuts_bound f t floor r (x.2 + 2) ⟨fun y hy => hr.1 y (List.mem_cons_of_mem _ hy), h3.2⟩ (fun y hy => by have := h3.1 y hy; omega)
    have e : cuts f t (x :: r) = cutI f t x + cuts f t r := by simp [cuts]
    rw [e]
    unfold cutI
    split <;> omega
theorem oneS_snoc (o : Sp) (m : List Sp) (x : Sp) : oneS o (m ++ [x]) = (min (oneS o m).1 x.1, max (oneS o m).2 x.2) := by simp [oneS]
theorem Rise.sub {floor : Int} {l l' : List Sp} (h : Rise floor l) (hs : l'.Sublist l) : Rise floor l' := ⟨fun x hx => h.1 x (hs.subset hx), h.2.sublist hs⟩

def AddTo (most floor : Int) (l : List Sp) (f t fresh e floor' : Int) (l' : List Sp) : Prop :=
  ((f < 0 ∨ t < f ∨ 4611686018427387903 < t) ∧ fresh = 0 ∧ e = 21 ∧ floor' = floor ∧ l' = l) ∨
  (((0 ≤ f ∧ f ≤ t ∧ t ≤ 4611686018427387903) ∧ t < floor) ∧ fresh = 0 ∧ e = 0 ∧ floor' = floor ∧ l' = l) ∨
  (((0 ≤ f ∧ f ≤ t ∧ t ≤ 4611686018427387903) ∧ floor ≤ t) ∧ e = 0 ∧ ∃ a m b, l = a ++ (m ++ b) ∧ (∀ x ∈ a, x.2 + 1 < max f floor) ∧ (∀ x ∈ m, max f floor ≤ x.2 + 1 ∧ x.1 ≤ t + 1) ∧ (∀ x ∈ b, t + 1 < x.1) ∧
    fresh = t - max f floor + 1 - cuts (max f floor) t m ∧
    ((((a ++ ([oneS (max f floor, t) m] ++ b)).length ≤ most) ∧ floor' = floor ∧ l' = a ++ ([oneS (max f floor, t) m] ++ b)) ∨
     (most < (a ++ ([oneS (max f floor, t) m] ++ b)).length ∧ ∃ x, a ++ ([oneS (max f floor, t) m] ++ b) = x :: l' ∧ floor' = x.2 + 1)))
def AddPost (b : Nat) (most floor : Int) (l : List Sp) (f t : Int) (v : Value) (own : List Ob) (N : Mp) : Prop :=
  N = MT ∧ ∃ fresh e floor' l' A' c', v = .tuple #[.int .i64 fresh, .int .i64 e] ∧ own = setO b A' c' most floor' l' ∧ AddTo most floor l f t fresh e floor' l'
theorem AddPost.out {b : Nat} {most floor : Int} {l : List Sp} {f t : Int} {own : List Ob} {N : Mp} (fresh e floor' : Int) (l' : List Sp) (A' : Option Addr) (c' : Nat) (hp : ∃ rest, Pick (setO b A' c' most floor' l') own rest) (h : AddTo most floor l f t fresh e floor' l') :
    ∃ (own' rest : List Ob) (N' : Mp), Pick own' own rest ∧ (∀ w, N w → Objs rest w → N' w) ∧ AddPost b most floor l f t (.tuple #[.int .i64 fresh, .int .i64 e]) own' N' := by
  obtain ⟨rest, hp⟩ := hp
  exact ⟨_, _, MT, hp, fun _ _ _ => trivial, rfl, fresh, e, floor', l', A', c', rfl, rfl, h⟩

theorem oneS_lo {g : Int} : ∀ (m : List Sp) (o : Sp), g < o.1 → (∀ x ∈ m, g < x.1) → g < (oneS o m).1
  | [], o, h, _ => h
  | x :: r, o, h, hm => by
    have h1 := hm x (List.mem_cons_self ..)
    exact oneS_lo r (min o.1 x.1, max o.2 x.2) (by simp only; omega) fun y hy => hm y (List.mem_cons_of_mem _ hy)
theorem oneS_hi {g : Int} : ∀ (m : List Sp) (o : Sp), o.2 < g → (∀ x ∈ m, x.2 < g) → (oneS o m).2 < g
  | [], o, h, _ => h
  | x :: r, o, h, hm => by
    have h1 := hm x (List.mem_cons_self ..)
    exact oneS_hi r (min o.1 x.1, max o.2 x.2) (by simp only; omega) fun y hy => hm y (List.mem_cons_of_mem _ hy)
theorem oneS_sub : ∀ (m : List Sp) (o : Sp), (oneS o m).1 ≤ o.1 ∧ o.2 ≤ (oneS o m).2
  | [], o => ⟨Int.le_refl _, Int.le_refl _⟩
  | x :: r, o => by
    have := oneS_sub r (min o.1 x.1, max o.2 x.2)
    simp only at this
    show (oneS (min o.1 x.1, max o.2 x.2) r).1 ≤ o.1 ∧ o.2 ≤ (oneS (min o.1 x.1, max o.2 x.2) r).2
    omega
theorem rise_add {floor F t : Int} {a m b : List Sp} (hr : Rise floor (a ++ (m ++ b))) (hF : floor ≤ F ∧ F ≤ t ∧ t ≤ 4611686018427387903) (ha : ∀ x ∈ a, x.2 + 1 < F) (hb : ∀ x ∈ b, t + 1 < x.1) : Rise floor (a ++ ([oneS (F, t) m] ++ b)) := by
  have hs := oneS_sub m (F, t)
  simp only at hs
  obtain ⟨pa, pmb, pab⟩ := List.pairwise_append.1 hr.2
  obtain ⟨pm, pb, pmb'⟩ := List.pairwise_append.1 pmb
  refine ⟨fun x hx => ?_, List.pairwise_append.2 ⟨pa, List.pairwise_append.2 ⟨by simp, pb, fun x hx y hy => ?_⟩, fun x hx y hy => ?_⟩⟩
  · rcases List.mem_append.1 hx with hx | hx
    · exact hr.1 x (List.mem_append_left _ hx)
    · rcases List.mem_append.1 hx with hx | hx
      · simp only [List.mem_singleton] at hx
        subst hx
        have h1 := oneS_lo (g := floor - 1) m (F, t) (by simp only; omega) (fun x hx => by have := hr.1 x (List.mem_append_right _ (List.mem_append_left _ hx)); omega)
        have h2 := oneS_hi (g := 4611686018427387904) m (F, t) (by simp only; omega) (fun x hx => by have := hr.1 x (List.mem_append_right _ (List.mem_append_left _ hx)); omega)
        omega
      · exact hr.1 x (List.mem_append_right _ (List.mem_append_right _ hx))
  · simp only [List.mem_singleton] at hx
    subst hx
    have := oneS_hi (g := y.1 - 1) m (F, t) (by have := hb y hy; simp only; omega) (fun x hx => by have := pmb' x hx y hy; omega)
    omega
  · have h1 : ∀ x' ∈ m, x.2 + 1 < x'.1 := fun x' hx' => pab x hx x' (List.mem_append_left _ hx')
    rcases List.mem_append.1 hy with hy | hy
    · simp only [List.mem_singleton] at hy
      subst hy
      exact oneS_lo m (F, t) (ha x hx) h1
    · exact pab x hx y (List.mem_append_right _ hy)
theorem if_max (a b : Int) : (if a < b then b else a) = max a b := by omega
theorem if_min (a b : Int) : (if b < a then b else a) = min a b := by omega

theorem add_spec (b : Nat) (A : Option Addr) (c : Nat) (most floor : Int) (l : List Sp) (f t : Int) (G : Mp) (hs : SetOk most floor l) :
    Spec Try.prog 9 #[.pointer (some ⟨b, 0, none⟩), .int .i64 f, .int .i64 t] (setO b A c most floor l) G (AddPost b most floor l f t) := by
  obtain ⟨hm, hf, hl, hr⟩ := hs
  refine Spec.introC (args := [_, _, _]) wide Try.func9 rfl Try.call9 (by rfl) (by rfl) [4, 15, 17] (fun w0 hw0 => ?_)
  have bad : (f < 0 ∨ t < f ∨ 4611686018427387903 < t) → ∃ (own' rest : List Ob) (N' : Mp), Pick own' (setO b A c most floor l) rest ∧ (∀ w, MT w → Objs rest w → N' w) ∧ AddPost b most floor l f t (.tuple #[.int .i64 0, .int .i64 21]) own' N' :=
    fun h => AddPost.out 0 21 floor l A c ⟨_, .cons .here (.cons .here .nil)⟩ (.inl ⟨h, rfl, rfl, rfl, rfl⟩)
  refine vcIf_dec (fun h1 => bad (.inl h1)) (fun h1 => ?_)
  refine vcIf_dec (fun h2 => bad (.inr (.inl h2))) (fun h2 => ?_)
  refine vcIf_dec (fun h3 => bad (.inr (.inr h3))) (fun h3 => ?_)
  refine vcCut_of (fun _ : Unit => [(0, .pointer (some ⟨b, 0, none⟩)), (1, .int .i64 (max f floor)), (2, .int .i64 t)]) (fun _ => setO b A c most floor l) (fun _ => MT) (fun _ => 0 ≤ f ∧ f ≤ t ∧ t ≤ 4611686018427387903) ?_ ?_
  · refine vcLoad1_row (Ent.gnO .here (fun w hw => Ob.row_at hw)) rfl ?_
    exact ⟨(), ⟨by omega, by omega, by omega⟩, ⟨rfl, congrArg (fun z => some (Value.int .i64 z)) (if_max f floor), rfl, trivial⟩, ⟨_, .cons .here (.cons .here .nil)⟩, Ent.refl⟩
  intro _ hft
  generalize hF : max f floor = F
  refine vcIf_dec (fun h4 => ?_) (fun h4 => ?_)
  · exact AddPost.out 0 0 floor l A c ⟨_, .cons .here (.cons .here .nil)⟩ (.inr (.inl ⟨⟨hft, by omega⟩, rfl, rfl, rfl, rfl⟩))
  have hFb : 0 ≤ F ∧ F ≤ 4611686018427387904 := by omega
  refine vcLoad1_row (Ent.gnO .here (fun w hw => Ob.row_at hw)) rfl ?_
  refine vcCall_of .nil (bsearch_spec A c l F floor _ (Ent.gnO (.there .here) (fun w hw => Ob.sl_at hw)) hr hf.1 hFb (by omega)) (fun v own' N' hv => ?_)
  obtain ⟨lo, ok, rfl, rfl, rfl, hlo, hlow, hhigh⟩ := hv
  intro b11
  refine ⟨rfl, vcStoreN_row _ .here rfl (spL_one [(F, t)]) ?_⟩
  refine vcFit_i64 (by omega) ?_
  refine vcFit_i64 (by omega) ?_
  refine vcCut_of (fun g : Nat × Sp × Int => [(0, .pointer (some ⟨b, 0, none⟩)), (6, .int .i64 g.2.2), (8, .int .i64 lo), (10, .int .i64 (lo + g.1 : Nat)), (11, .pointer (some ⟨b11, 0, none⟩))])
      (fun g => [.row b11 29 (spV g.2.1) 2, setR b A l.length c most floor, .sl A c 29 2 (spL l)]) (fun _ => MT)
      (fun g => lo + g.1 ≤ l.length ∧ (∀ x ∈ (l.drop lo).take g.1, x.1 ≤ t + 1) ∧ (∀ x ∈ (l.drop lo).drop g.1, t + 1 < x.1) ∧ g.2.1 = oneS (F, t) ((l.drop lo).take g.1) ∧ g.2.2 = t - F + 1 - cuts F t ((l.drop lo).take g.1)) ?_ ?_
  · have hrr : Rise floor (l.drop lo) := hr.sub (List.drop_sublist _ _)
    have hfl : ∀ x ∈ l, floor ≤ x.1 := fun x hx => (hr.1 x hx).1
    have hcb : ∀ k, 0 ≤ cuts F t ((l.drop lo).take k) ∧ cuts F t ((l.drop lo).take k) ≤ t - F + 1 := fun k => by
      have := cuts_bound F t floor ((l.drop lo).take k) floor (hrr.sub (List.take_sublist _ _)) (fun x hx => hfl x (List.mem_of_mem_drop (List.mem_of_mem_take hx)))
      omega
    have hdl : (l.drop lo).length = l.length - lo := List.length_drop
    refine vcLoop_of (fun g : Nat × Sp × Int => l.length - g.1) (fun g => [(0, .pointer (some ⟨b, 0, none⟩)), (1, .int .i64 F), (2, .int .i64 t), (6, .int .i64 g.2.2), (8, .int .i64 lo), (10, .int .i64 (lo + g.1 : Nat)), (11, .pointer (some ⟨b11, 0, none⟩))])
      (fun g => [.row b11 29 (spV g.2.1) 2, setR b A l.length c most floor, .sl A c 29 2 (spL l)]) (fun _ => MT)
      (fun g => lo + g.1 ≤ l.length ∧ (∀ x ∈ (l.drop lo).take g.1, x.1 ≤ t + 1) ∧ g.2.1 = oneS (F, t) ((l.drop lo).take g.1) ∧ g.2.2 = t - F + 1 - cuts F t ((l.drop lo).take g.1)) (0, (F, t), t - F + 1) ⟨by simpa using hlo, by simp, rfl, by simp [cuts]⟩ ⟨rfl, rfl, rfl, rfl, rfl, rfl, rfl, trivial⟩ ⟨_, .cons .here (.cons .here (.cons .here .nil))⟩ (fun _ _ => trivial) ?_
    rintro ⟨k, o, fr⟩ ⟨hk, hmid, ho, hfr⟩
    simp only at hk hmid ho hfr
    have done : ((l.drop lo).drop k = [] ∨ ∃ x r, (l.drop lo).drop k = x :: r ∧ t + 1 < x.1) → ∀ x ∈ (l.drop lo).drop k, t + 1 < x.1 := by
      rintro (h | ⟨x, r, h, hx⟩)
      · rw [h]; simp
      · intro y hy
        have hrd : Rise floor ((l.drop lo).drop k) := hrr.sub (List.drop_sublist _ _)
        rw [h] at hy hrd
        rcases List.mem_cons.1 hy with rfl | hy
        · exact hx
        · have h1 := (List.pairwise_cons.1 hrd.2).1 y hy
          have h2 := hrd.1 x (List.mem_cons_self ..)
          omega
    refine vcLoad1_row (Ent.gnO (.there .here) (fun w hw => Ob.row_at hw)) rfl ?_
    refine vcIf_dec (fun hlt => ?_) (fun hge => ?_)
    · have hkl : lo + k < l.length := by omega
      have hdk : (l.drop lo).drop k = l[lo + k] :: (l.drop lo).drop (k + 1) := by
        rw [List.drop_drop, List.drop_drop, ← Nat.add_assoc]; exact List.drop_eq_getElem_cons hkl
      have htk : (l.drop lo).take (k + 1) = (l.drop lo).take k ++ [l[lo + k]] := by
        rw [List.take_succ_eq_append_getElem (by omega)]; simp
      have hx := hr.1 _ (List.getElem_mem hkl)
      refine vcLoad1_row (Ent.gnO (.there .here) (fun w hw => Ob.row_at hw)) rfl ?_
      refine vcIdx_nats (s := 2) (lo + k) rfl (Ent.gnO (.there (.there .here)) (fun w hw => Ob.sl_at hw)) hkl (by rw [spL_len]; omega) (by omega) (fun a ha => ?_)
      subst ha
      refine vcLoad1_2 (Ent.gnO (.there (.there .here)) (fun w hw => Ob.sl_at hw)) (spL_get0 hkl) ?_
      refine vcFit_i64 (by omega) ?_
      refine vcIf_dec (fun hle => ?_) (fun hgt => ?_)
      · refine vcLoad1_row (Ent.gnO (.there .here) (fun w hw => Ob.row_at hw)) rfl ?_
        refine vcIdx_some (lo + k) rfl hkl ?_
        refine vcLoadN_1 (spV l[lo + k]) (Ent.gnO (.there (.there .here)) (fun w hw => Ob.sl_at hw)) rfl (spL_chunk hkl) ?_
        intro b12
        refine ⟨rfl, vcStoreN_row _ .here rfl (spL_one [l[lo + k]]) ?_⟩
        refine vcCut_of (fun g : Int => [(0, .pointer (some ⟨b, 0, none⟩)), (1, .int .i64 F), (2, .int .i64 t), (6, .int .i64 g), (8, .int .i64 lo), (10, .int .i64 (lo + k : Nat)), (11, .pointer (some ⟨b11, 0, none⟩)), (12, .pointer (some ⟨b12, 0, none⟩))])
          (fun _ => [.row b12 29 (spV l[lo + k]) 2,   .row b11 29 (spV o) 2, setR b (some a) l.length c most floor, .sl (some a) c 29 2 (spL l)]) (fun _ => MT) (fun g => g = t - F + 1 - cuts F t ((l.drop lo).take (k + 1))) ?_ ?_
        · refine vcDraw_quiet (by kernel_rfl) ?_
          refine vcLoad1_row (Ent.gnO .here (fun w hw => Ob.row_at hw)) rfl ?_
          refine vcLoad1_row (Ent.gnO .here (fun w hw => Ob.row_at hw)) rfl ?_
          have hcs := hcb (k + 1)
          have hcs' := hcb k
          have hcu : cuts F t ((l.drop lo).take (k + 1)) = cuts F t ((l.drop lo).take k) + cutI F t l[lo + k] := by rw [htk, cuts_append]; simp [cuts]
          unfold cutI at hcu
          refine vcIf_dec (fun hab => ?_) (fun hab => ?_)
          · simp only [if_max, if_min] at hab
            rw [if_pos hab] at hcu
            refine vcFit_i64 (by simp only [if_max, if_min]; omega) ?_
            refine vcFit_i64 (by simp only [if_max, if_min]; omega) ?_
            refine vcFit_i64 (by simp only [if_max, if_min]; omega) ?_
            exact ⟨_, by simp only [if_max, if_min]; omega, ⟨rfl, rfl, rfl, rfl, rfl, rfl, rfl, rfl, trivial⟩, ⟨_, .cons .here (.cons .here (.cons .here (.cons .here .nil)))⟩, fun _ _ => trivial⟩
          · simp only [if_max, if_min] at hab
            rw [if_neg hab] at hcu
            exact ⟨fr, by omega, ⟨rfl, rfl, rfl, rfl, rfl, rfl, rfl, rfl, trivial⟩, ⟨_, .cons .here (.cons .here (.cons .here (.cons .here .nil)))⟩, fun _ _ => trivial⟩
        rintro fr' hfr'
        refine vcDraw_mixD [0, 1, 2, 3, 4, 5, 6, 7, 8, 9, 10, 11, 12, 13] [1] (GN _ _ _) (fun w => RowAt (some ⟨b12, 0, none⟩) (spV l[lo + k]) w ∧ ∃ u, RowAt (some ⟨b11, 0, none⟩) [u, .int .i64 o.2] w) (by kernel_rfl) Ent.refl (fun w hw => ⟨Ob.row_at (hw.2 _ (.head _)), _, Ob.row_at (hw.2 _ (.tail _ (.head _)))⟩) ?_
        refine vcLoad1_row (Ent.gnO (.there .here) (fun w hw => Ob.row_at hw)) rfl ?_
        refine vcLoad1_row (fun w hw => hw.1) rfl ?_
        refine vcLoad1_of (fun w hw => by
          obtain ⟨_, u, hu⟩ := hw
          obtain ⟨a, ha, hc⟩ := hu 1 _ rfl
          cases ha; exact hc) ?_
        refine vcLoad1_row (fun w hw => hw.1) rfl ?_
        refine vcStore1_1 (.row b11 _ _ _) _ (.there .here) rfl (by show (0 : Nat) < 2; decide) rfl ?_
        refine vcMix_drop (by kernel_rfl) (fun w hw => ⟨Ob.row_at (hw.2 _ (.tail _ (.head _))), _, Ob.row_at (hw.2 _ (.head _))⟩) ?_
        refine vcStore1_1 (.row b11 _ _ _) _ .here rfl (by show (1 : Nat) < 2; decide) rfl ?_
        refine vcMix_last (by kernel_rfl) ?_
        refine vcFit_i64 (by omega) ?_
        refine ⟨(k + 1, (if l[lo + k].1 < o.1 then l[lo + k].1 else o.1, if o.2 < l[lo + k].2 then l[lo + k].2 else o.2), fr'), ⟨by omega, ?_, ?_, hfr'⟩, by omega, ⟨rfl, rfl, rfl, rfl, rfl, rfl, rfl, trivial⟩, ⟨_, .cons .here (.cons (.there .here) (.cons (.there .here) .nil))⟩, fun _ _ => trivial⟩
        · simp only [htk]
          intro x hx
          rcases List.mem_append.1 hx with hx | hx
          · exact hmid x hx
          · simp only [List.mem_singleton] at hx; subst hx; exact hle
        · simp only [htk, oneS_snoc, ← ho, if_max, if_min]
      · exact ⟨(k, o, fr), ⟨hk, hmid, done (.inr ⟨_, _, hdk, by omega⟩), ho, hfr⟩, ⟨rfl, rfl, rfl, rfl, rfl, trivial⟩, ⟨_, .cons .here (.cons .here (.cons .here .nil))⟩, fun _ _ => trivial⟩
    · exact ⟨(k, o, fr), ⟨hk, hmid, done (.inl (List.drop_eq_nil_of_le (by omega))), ho, hfr⟩, ⟨rfl, rfl, rfl, rfl, rfl, trivial⟩, ⟨_, .cons .here (.cons .here (.cons .here .nil))⟩, fun _ _ => trivial⟩
  rintro ⟨k, o, fr⟩ ⟨hk, hmid, hend, ho, hfr⟩
  simp only at hk hmid hend ho hfr ⊢
  -- the list is rebuilt
  generalize hma : l.take lo = a at hlow
  generalize hmm : (l.drop lo).take k = m at hmid ho hfr
  generalize hmb : (l.drop lo).drop k = bb at hend
  have hsp : l = a ++ (m ++ bb) := by rw [← hma, ← hmm, ← hmb, List.take_append_drop, List.take_append_drop]
  have hla : a.length = lo := by rw [← hma, List.length_take]; omega
  have hlm : m.length = k := by rw [← hmm, List.length_take, List.length_drop]; omega
  have hmF : ∀ x ∈ m, F ≤ x.2 + 1 ∧ x.1 ≤ t + 1 := fun x hx => ⟨hhigh x (by rw [← hmm] at hx; exact List.mem_of_mem_take hx), hmid x hx⟩
  subst hla; subst hlm
  refine vcDraw_mix [0, 1, 2, 3, 4, 5, 6, 7, 8, 9, 10, 11, 12] (fun w => (setR b A l.length c most floor).is w ∧ (Ob.row b11 29 (spV o) 2).is w) (by kernel_rfl) (fun w hw => ⟨hw.2 _ (.tail _ (.head _)), hw.2 _ (.head _)⟩) ?_
  refine vcLoad1_row (fun w hw => Ob.row_at hw.1) rfl ?_
  refine vcLoadN_0 (fun w hw => Ob.row_at hw.2) rfl ?_
  intro bv
  refine vcMix_same (fun w hw => ⟨hw.2 _ (.tail _ (.tail _ (.head _))), hw.2 _ (.tail _ (.head _))⟩) ?_
  have hlen : (a ++ (m ++ bb)).length = a.length + (m.length + bb.length) := by simp
  rw [hsp] at hl ⊢
  refine vcCall_of (.cons (.there (.there (.there .here))) (.cons .here .nil)) (replace_spec A c a m bb o bv _ (by omega)) (fun v own' N' hv => ?_)
  obtain ⟨A', c', rfl, rfl, rfl, hc'⟩ := hv
  refine vcMix_same (fun w hw => ⟨hw.2 _ (.tail _ (.tail _ (.head _))), hw.2 _ (.tail _ (.head _))⟩) ?_
  refine vcStore1_1 (.row b _ _ _) _ (.there (.there .here)) rfl (by show (2 : Nat) < 3; decide) rfl ?_
  refine vcMix_last (by kernel_rfl) ?_
  have hl1 : (a ++ ([o] ++ bb)).length = a.length + 1 + bb.length := by simp; omega
  have hor : ∀ floor' l', ((((a ++ ([oneS (max f floor, t) m] ++ bb)).length ≤ most) ∧ floor' = floor ∧ l' = a ++ ([oneS (max f floor, t) m] ++ bb)) ∨
     (most < (a ++ ([oneS (max f floor, t) m] ++ bb)).length ∧ ∃ x, a ++ ([oneS (max f floor, t) m] ++ bb) = x :: l' ∧ floor' = x.2 + 1)) → AddTo most floor (a ++ (m ++ bb)) f t fr 0 floor' l' := fun floor' l' h =>
    .inr (.inr ⟨⟨hft, by omega⟩, rfl, a, m, bb, rfl, by rw [hF]; exact hlow, by rw [hF]; exact hmF, hend, by rw [hF]; exact hfr, h⟩)
  rw [hF, ← ho] at hor
  refine vcDraw_quiet (by kernel_rfl) ?_
  refine vcLoad1_row (Ent.gnO .here (fun w hw => Ob.row_at hw)) rfl ?_
  refine vcLoad1_row (Ent.gnO .here (fun w hw => Ob.row_at hw)) rfl ?_
  refine vcIf_dec (fun hgt => ?_) (fun hle => ?_)
  · have hri : Rise floor (a ++ ([o] ++ bb)) := by rw [ho]; exact rise_add (hsp ▸ hr) ⟨by omega, by omega, hft.2.2⟩ hlow hend
    generalize hL : a ++ ([o] ++ bb) = L at *
    obtain ⟨x, l1, rfl⟩ : ∃ x l1, L = x :: l1 := by
      cases L with
      | nil => simp at hl1; omega
      | cons x l1 => exact ⟨x, l1, rfl⟩
    generalize hn : a.length + 1 + bb.length = n at *
    rw [List.length_cons] at hl1
    subst hl1
    have hx2 := hri.1 x (List.mem_cons_self ..)
    refine vcLoad1_row (Ent.gnO .here (fun w hw => Ob.row_at hw)) rfl ?_
    refine vcIdx_nats (s := 2) 0 rfl (Ent.gnO (.there .here) (fun w hw => Ob.sl_at hw)) (by omega) (by rw [spL_len]; exact Nat.le_refl _) (by omega) (fun ad ha => ?_)
    subst ha
    refine vcLoad1_2 (Ent.gnO (.there .here) (fun w hw => Ob.sl_at hw)) (j := 1) (i := 0) (v := .int .i64 x.2) rfl ?_
    refine vcFit_i64 (by omega) ?_
    refine vcStore1_1 (.row b _ _ _) _ .here rfl (by show (1 : Nat) < 3; decide) rfl ?_
    refine vcLoad1_row (Ent.gnO .here (fun w hw => Ob.row_at hw)) rfl ?_
    refine vcCall_of (.cons (.there .here) .nil) (delete_spec (some ad) c' [] [x] l1 _ (by simp) (by simp only [List.nil_append, List.length_append, List.length_cons, List.length_nil]; omega)) (fun v own' N' hv => ?_)
    obtain ⟨A2, c2, rfl, rfl, rfl, hc2⟩ := hv
    refine vcStore1_1 (.row b _ _ _) _ (.there .here) rfl (by show (2 : Nat) < 3; decide) rfl ?_
    refine AddPost.out fr 0 (x.2 + 1) l1 A2 c2 ⟨_, .cons .here (.cons .here .nil)⟩ (hor _ _ (.inr ⟨by rw [List.length_cons]; omega, x, rfl, rfl⟩))
  · refine AddPost.out fr 0 floor (a ++ ([o] ++ bb)) A' c' ?_ (hor _ _ (.inl ⟨by omega, rfl, rfl⟩))
    unfold setO
    rw [hl1]
    exact ⟨_, .cons .here (.cons .here .nil)⟩
end Go.Proofs.Ytodnohpogpkngaa
