/- A set's other calls. -/
import Derived.Test.YtodnohpogpkngaaSpaE
namespace Go.Proofs.Ytodnohpogpkngaa
open Go.Proofs
set_option maxRecDepth 10000

theorem Rise.mono {floor floor' : Int} {l : List Sp} (h : Rise floor l) (hf : ∀ x ∈ l, floor' ≤ x.1) : Rise floor' l := ⟨fun x hx => ⟨hf x hx, (h.1 x hx).2⟩, h.2⟩
/-- Adding keeps a set right; what is fresh. -/
theorem AddTo.ok {most floor : Int} {l : List Sp} {f t fresh e floor' : Int} {l' : List Sp} (h : AddTo most floor l f t fresh e floor' l') (hs : SetOk most floor l) : SetOk most floor' l' := by
  obtain ⟨hm, hf, hl, hr⟩ := hs
  rcases h with ⟨_, _, _, rfl, rfl⟩ | ⟨_, _, _, rfl, rfl⟩ | ⟨⟨hft, hfl⟩, _, a, m, b, rfl, ha, hmm, hb, _, h⟩
  · exact ⟨hm, hf, hl, hr⟩
  · exact ⟨hm, hf, hl, hr⟩
  · have hri := rise_add hr (F := max f floor) (t := t) ⟨by omega, by omega, hft.2.2⟩ ha hb
    rcases h with ⟨hl', rfl, rfl⟩ | ⟨hgt, x, hx, rfl⟩
    · exact ⟨hm, hf, hl', hri⟩
    · have hlen : (a ++ ([oneS (max f floor, t) m] ++ b)).length ≤ (a ++ (m ++ b)).length + 1 := by simp; omega
      rw [hx] at hri hlen
      rw [List.length_cons] at hlen
      have h1 := hri.1 x (List.mem_cons_self ..)
      have h2 := List.pairwise_cons.1 hri.2
      exact ⟨hm, by omega, by omega, ⟨fun y hy => by
        have := hri.1 y (List.mem_cons_of_mem _ hy)
        have := h2.1 y hy
        omega, h2.2⟩⟩

theorem raise1_spec (b b2 : Nat) (A : Option Addr) (n c : Nat) (most floor : Int) (x : Sp) (G : Mp) (h1 : Ent G (RowAt (some ⟨b2, 0, none⟩) [.pointer (some ⟨b, 0, none⟩)])) (h2 : Ent G (RowAt (some ⟨b, 0, none⟩) [.int .i64 most, .int .i64 floor, .slice A n c])) :
    Spec Try.prog 30 #[spA x, .pointer (some ⟨b2, 0, none⟩)] [] G (Ret (.bool (decide (x.2 < floor)))) := by
  refine Spec.intro (args := [_, _]) wide Try.func30 rfl Try.call30 (by rfl) (by rfl) (fun w0 hw0 => ?_)
  intro b3
  refine vcDraw_quiet (by kernel_rfl) ?_
  refine vcLoad1_row (Ent.gnO .here (fun w hw => Ob.row_at hw)) rfl ?_
  refine vcLoad1_0 (Ent.gnG h1) rfl ?_
  refine vcLoad1_row (Ent.gnG h2) rfl ?_
  exact ⟨[], _, MT, .nil, fun _ _ _ => trivial, rfl, rfl, rfl⟩
theorem has1_spec (b3 : Nat) (n : Int) (x : Sp) (G : Mp) (h1 : Ent G (RowAt (some ⟨b3, 0, none⟩) [.int .i64 n])) :
    Spec Try.prog 27 #[spA x, .pointer (some ⟨b3, 0, none⟩)] [] G (Ret (.bool (decide (x.1 ≤ n ∧ n ≤ x.2)))) := by
  refine Spec.intro (args := [_, _]) wide Try.func27 rfl Try.call27 (by rfl) (by rfl) (fun w0 hw0 => ?_)
  intro b4
  refine vcLoad1_row (Ent.gnO .here (fun w hw => Ob.row_at hw)) rfl ?_
  refine vcLoad1_0 (Ent.gnG h1) rfl ?_
  refine vcIf_dec (fun hle => ?_) (fun hgt => ?_)
  · refine vcLoad1_0 (Ent.gnG h1) rfl ?_
    refine vcLoad1_row (Ent.gnO .here (fun w hw => Ob.row_at hw)) rfl ?_
    refine ⟨[], _, MT, .nil, fun _ _ _ => trivial, ?_, rfl, rfl⟩
    exact congrArg Value.bool (decide_eq_decide.2 ⟨fun h => h.2, fun h => ⟨hle, h⟩⟩).symm
  · refine ⟨[], _, MT, .nil, fun _ _ _ => trivial, ?_, rfl, rfl⟩
    exact congrArg Value.bool (decide_eq_false (fun h => hgt h.1)).symm

theorem has_spec (b : Nat) (A : Option Addr) (c : Nat) (most floor : Int) (l : List Sp) (n : Int) (G : Mp) (hs : SetOk most floor l) :
    Spec Try.prog 12 #[.pointer (some ⟨b, 0, none⟩), .int .i64 n] (setO b A c most floor l) G (fun v own N => v = .bool (if n < floor then decide (0 ≤ n) else l.any fun x => decide (x.1 ≤ n ∧ n ≤ x.2)) ∧ own = setO b A c most floor l ∧ N = MT) := by
  refine Spec.intro (args := [_, _]) wide Try.func12 rfl Try.call12 (by rfl) (by rfl) (fun w0 hw0 => ?_)
  intro b3
  refine vcDraw_quiet (by kernel_rfl) ?_
  refine vcLoad1_0 (Ent.gnO .here (fun w hw => Ob.row_at hw)) rfl ?_
  refine vcLoad1_row (Ent.gnO (.there .here) (fun w hw => Ob.row_at hw)) rfl ?_
  refine vcIf_dec (fun hlt => ?_) (fun hge => ?_)
  · refine vcLoad1_0 (Ent.gnO .here (fun w hw => Ob.row_at hw)) rfl ?_
    refine ⟨setO b A c most floor l, _, MT, .cons (.there .here) (.cons (.there .here) .nil), fun _ _ _ => trivial, ?_, rfl, rfl⟩
    rw [if_pos hlt]; rfl
  · refine vcLoad1_row (Ent.gnO (.there .here) (fun w hw => Ob.row_at hw)) rfl ?_
    have := hs.hl; have := hs.hm
    refine vcCall_of .nil (containsf_spec A c l 27 #[.pointer (some ⟨b3, 0, none⟩)] (fun x => decide (x.1 ≤ n ∧ n ≤ x.2)) _ (Ent.gnO (.there (.there .here)) (fun w hw => Ob.sl_at hw)) (fun x => has1_spec b3 n x _ (Ent.gnO .here (fun w hw => Ob.row_at hw))) (by omega)) (fun v own' N' hv => ?_)
    obtain ⟨rfl, rfl, rfl⟩ := hv
    refine ⟨setO b A c most floor l, _, MT, .cons (.there .here) (.cons (.there .here) .nil), fun _ _ _ => trivial, ?_, rfl, rfl⟩
    rw [if_neg hge]; rfl
theorem floor_spec (b : Nat) (A : Option Addr) (n c : Nat) (most floor : Int) (G : Mp) :
    Spec Try.prog 10 #[.pointer (some ⟨b, 0, none⟩)] [setR b A n c most floor] G (fun v own N => v = .int .i64 floor ∧ own = [setR b A n c most floor] ∧ N = MT) := by
  refine Spec.intro (args := [_]) wide Try.func10 rfl Try.call10 (by rfl) (by rfl) (fun w0 hw0 => ?_)
  refine vcLoad1_row (Ent.gnO .here (fun w hw => Ob.row_at hw)) rfl ?_
  exact ⟨_, _, MT, .cons .here .nil, fun _ _ _ => trivial, rfl, rfl, rfl⟩
theorem list_spec (b : Nat) (A : Option Addr) (c : Nat) (most floor : Int) (l : List Sp) (G : Mp) (hs : SetOk most floor l) :
    Spec Try.prog 14 #[.pointer (some ⟨b, 0, none⟩)] (setO b A c most floor l) G (fun v own N => N = MT ∧ ∃ A' c', v = .slice A' l.length c' ∧ own = .sl A' c' 29 2 (spL l) :: setO b A c most floor l) := by
  refine Spec.intro (args := [_]) wide Try.func14 rfl Try.call14 (by rfl) (by rfl) (fun w0 hw0 => ?_)
  refine vcLoad1_row (Ent.gnO .here (fun w hw => Ob.row_at hw)) rfl ?_
  have := hs.hl; have := hs.hm
  refine vcCall_of .nil (clone_spec A c l _ (Ent.gnO (.there .here) (fun w hw => Ob.sl_at hw)) (by omega)) (fun v own' N' hv => ?_)
  rcases hv with ⟨rfl, hl0, rfl, rfl, rfl⟩ | ⟨A', c', rfl, rfl, rfl, hc'⟩
  · obtain rfl := List.eq_nil_of_length_eq_zero hl0
    exact ⟨.sl none 0 29 2 [] :: setO b none c most floor [], _, MT, .cons .none_ (.cons .here (.cons .here .nil)), fun _ _ _ => trivial, rfl, none, 0, rfl, rfl⟩
  · exact ⟨.sl A' c' 29 2 (spL l) :: setO b A c most floor l, _, MT, .cons .here (.cons .here (.cons .here .nil)), fun _ _ _ => trivial, rfl, A', c', rfl, rfl⟩
def highN (l : List Sp) : Int := match l.getLast? with
  | some x => x.2
  | none => 0
theorem high_spec (b : Nat) (A : Option Addr) (c : Nat) (most floor : Int) (l : List Sp) (G : Mp) (hs : SetOk most floor l) :
    Spec Try.prog 16 #[.pointer (some ⟨b, 0, none⟩)] (setO b A c most floor l) G (fun v own N => v = .tuple #[.int .i64 (highN l), .bool (!l.isEmpty)] ∧ own = setO b A c most floor l ∧ N = MT) := by
  refine Spec.intro (args := [_]) wide Try.func16 rfl Try.call16 (by rfl) (by rfl) (fun w0 hw0 => ?_)
  have := hs.hl; have := hs.hm
  refine vcLoad1_row (Ent.gnO .here (fun w hw => Ob.row_at hw)) rfl ?_
  refine vcIf_dec (fun h0 => ?_) (fun h0 => ?_)
  · obtain rfl : l = [] := List.eq_nil_of_length_eq_zero (by omega)
    exact ⟨setO b A c most floor [], _, MT, .cons .here (.cons .here .nil), fun _ _ _ => trivial, rfl, rfl, rfl⟩
  have hn : l.length - 1 < l.length := by omega
  refine vcDraw_quiet (by kernel_rfl) ?_
  refine vcLoad1_row (Ent.gnO .here (fun w hw => Ob.row_at hw)) rfl ?_
  refine vcLoad1_row (Ent.gnO .here (fun w hw => Ob.row_at hw)) rfl ?_
  refine vcFit_i64 (by omega) ?_
  refine vcIdx_nats (s := 2) (l.length - 1) (by omega) (Ent.gnO (.there .here) (fun w hw => Ob.sl_at hw)) hn (by rw [spL_len]; exact Nat.le_refl _) (by omega) (fun ad ha => ?_)
  subst ha
  refine vcLoad1_2 (Ent.gnO (.there .here) (fun w hw => Ob.sl_at hw)) (spL_get1 hn) ?_
  refine ⟨setO b (some ad) c most floor l, _, MT, .cons .here (.cons .here .nil), fun _ _ _ => trivial, ?_, rfl, rfl⟩
  have hne : l ≠ [] := by intro h; subst h; simp at h0
  have e1 : highN l = l[l.length - 1].2 := by
    unfold highN
    rw [List.getLast?_eq_getElem?, List.getElem?_eq_getElem hn]
  have e2 : l.isEmpty = false := by simpa using hne
  rw [e1, e2]; rfl

/-- What Raise computes. -/
def clip (fl : Int) : List Sp → List Sp
  | [] => []
  | x :: r => (max x.1 fl, x.2) :: r
def raiseL (fl : Int) (l : List Sp) : List Sp := clip fl (l.filter fun x => !decide (x.2 < fl))
def RaiseTo (floor : Int) (l : List Sp) (f e floor' : Int) (l' : List Sp) : Prop :=
  ((f < 0 ∨ 4611686018427387903 < f) ∧ e = 21 ∧ floor' = floor ∧ l' = l) ∨ ((0 ≤ f ∧ f ≤ 4611686018427387903) ∧ e = 0 ∧ floor' = max floor f ∧ l' = raiseL (max floor f) l)
def RaisePost (b : Nat) (most floor : Int) (l : List Sp) (f : Int) (v : Value) (own : List Ob) (N : Mp) : Prop :=
  N = MT ∧ ∃ e floor' l' A' c', v = .int .i64 e ∧ own = setO b A' c' most floor' l' ∧ RaiseTo floor l f e floor' l'
theorem RaisePost.out {b : Nat} {most floor : Int} {l : List Sp} {f : Int} {own : List Ob} {N : Mp} (e floor' : Int) (l' : List Sp) (A' : Option Addr) (c' : Nat) (hp : ∃ rest, Pick (setO b A' c' most floor' l') own rest) (h : RaiseTo floor l f e floor' l') :
    ∃ (own' rest : List Ob) (N' : Mp), Pick own' own rest ∧ (∀ w, N w → Objs rest w → N' w) ∧ RaisePost b most floor l f (.int .i64 e) own' N' := by
  obtain ⟨rest, hp⟩ := hp
  exact ⟨_, _, MT, hp, fun _ _ _ => trivial, rfl, e, floor', l', A', c', rfl, rfl, h⟩
theorem filter_len_le {p : Sp → Bool} (l : List Sp) : (l.filter p).length ≤ l.length := List.length_filter_le ..

theorem raise_spec (b : Nat) (A : Option Addr) (c : Nat) (most floor : Int) (l : List Sp) (f : Int) (G : Mp) (hs : SetOk most floor l) :
    Spec Try.prog 17 #[.pointer (some ⟨b, 0, none⟩), .int .i64 f] (setO b A c most floor l) G (RaisePost b most floor l f) := by
  obtain ⟨hm, hf, hl, hr⟩ := hs
  refine Spec.introC (args := [_, _]) wide Try.func17 rfl Try.call17 (by rfl) (by rfl) [4] (fun w0 hw0 => ?_)
  intro b2
  have bad : (f < 0 ∨ 4611686018427387903 < f) → ∃ (own' rest : List Ob) (N' : Mp), Pick own' (.row b2 24 [.pointer (some ⟨b, 0, none⟩)] 1 :: setO b A c most floor l) rest ∧ (∀ w, MT w → Objs rest w → N' w) ∧ RaisePost b most floor l f (.int .i64 21) own' N' :=
    fun h => RaisePost.out 21 floor l A c ⟨_, .cons (.there .here) (.cons (.there .here) .nil)⟩ (.inl ⟨h, rfl, rfl, rfl⟩)
  refine vcIf_dec (fun h1 => bad (.inl h1)) (fun h1 => ?_)
  refine vcIf_dec (fun h2 => bad (.inr h2)) (fun h2 => ?_)
  refine vcCut_of (fun _ : Int => [(2, .pointer (some ⟨b2, 0, none⟩))]) (fun g => .row b2 24 [.pointer (some ⟨b, 0, none⟩)] 1 :: setO b A c most g l) (fun _ => MT) (fun g => max floor f = g) ?_ ?_
  · refine vcDraw_mix [0, 1, 2, 3, 4, 5, 6, 7, 8, 9] (GN _ _ _) (by kernel_rfl) Ent.refl ?_
    refine vcLoad1_0 (Ent.gnO .here (fun w hw => Ob.row_at hw)) rfl ?_
    refine vcLoad1_0 (Ent.gnO .here (fun w hw => Ob.row_at hw)) rfl ?_
    refine vcLoad1_row (Ent.gnO (.there .here) (fun w hw => Ob.row_at hw)) rfl ?_
    refine vcStore1_1 (.row b _ _ _) _ (.there .here) rfl (by show (1 : Nat) < 3; decide) rfl ?_
    refine vcMix_last (by kernel_rfl) ?_
    exact ⟨if floor < f then f else floor, (if_max floor f).symm, ⟨rfl, trivial⟩, ⟨_, .cons (.there .here) (.cons .here (.cons .here .nil))⟩, fun _ _ => trivial⟩
  intro F hF
  have hlen := List.length_filter_le (fun x : Sp => !decide (x.2 < F)) l
  refine vcDraw_mix [0, 1, 2, 3, 4, 5, 6, 7, 8, 9] (fun w => RowAt (some ⟨b2, 0, none⟩) [.pointer (some ⟨b, 0, none⟩)] w ∧ RowAt (some ⟨b, 0, none⟩) [.int .i64 most, .int .i64 F, .slice A l.length c] w) (by kernel_rfl) (fun w hw => ⟨Ob.row_at (hw.2 _ (.head _)), Ob.row_at (hw.2 _ (.tail _ (.head _)))⟩) ?_
  refine vcLoad1_0 (fun w hw => hw.1) rfl ?_
  refine vcLoad1_0 (fun w hw => hw.1) rfl ?_
  refine vcLoad1_row (fun w hw => hw.2) rfl ?_
  refine vcCall_of (.cons (.there (.there .here)) .nil) (deletef_spec A c l 30 #[.pointer (some ⟨b2, 0, none⟩)] (fun x => decide (x.2 < F)) _ (fun x => raise1_spec b b2 A l.length c most F x _ (Ent.gnO .here (fun w hw => Ob.row_at hw)) (Ent.gnO (.there .here) (fun w hw => Ob.row_at hw))) (by omega)) (fun v own' N' hv => ?_)
  obtain ⟨A', c', rfl, rfl, rfl, hc'⟩ := hv
  refine vcMix_same (fun w hw => ⟨Ob.row_at (hw.2 _ (.tail _ (.head _))), Ob.row_at (hw.2 _ (.tail _ (.tail _ (.head _))))⟩) ?_
  refine vcStore1_1 (.row b _ _ _) _ (.there (.there .here)) rfl (by show (2 : Nat) < 3; decide) rfl ?_
  refine vcMix_last (by kernel_rfl) ?_
  have hout : ∀ l', l' = raiseL F l → RaiseTo floor l f 0 F l' := fun l' h => .inr ⟨⟨by omega, by omega⟩, rfl, hF.symm, by rw [hF]; exact h⟩
  refine vcLoad1_0 (Ent.gnO (.there (.there .here)) (fun w hw => Ob.row_at hw)) rfl ?_
  refine vcLoad1_row (Ent.gnO .here (fun w hw => Ob.row_at hw)) rfl ?_
  unfold raiseL at hout
  generalize l.filter (fun x => !decide (x.2 < F)) = fl at *
  refine vcIf_dec (fun hgt => ?_) (fun hle => ?_)
  · obtain ⟨x, r, rfl⟩ : ∃ x r, fl = x :: r := by
      cases fl with
      | nil => simp at hgt
      | cons x r => exact ⟨x, r, rfl⟩
    refine vcDraw_mix [0, 1, 2, 3, 4, 5, 6, 7, 8, 9, 10, 11, 12, 13, 14, 15, 16, 17, 18] (GN _ _ _) (by kernel_rfl) Ent.refl ?_
    refine vcLoad1_0 (Ent.gnO (.there (.there .here)) (fun w hw => Ob.row_at hw)) rfl ?_
    refine vcLoad1_row (Ent.gnO .here (fun w hw => Ob.row_at hw)) rfl ?_
    refine vcLoad1_0 (Ent.gnO (.there (.there .here)) (fun w hw => Ob.row_at hw)) rfl ?_
    refine vcLoad1_row (Ent.gnO .here (fun w hw => Ob.row_at hw)) rfl ?_
    refine vcIdx_nats (s := 2) 0 rfl (Ent.gnO (.there .here) (fun w hw => Ob.sl_at hw)) (by simp) (by rw [spL_len]; exact Nat.le_refl _) (by omega) (fun ad ha => ?_)
    subst ha
    refine vcLoad1_2 (Ent.gnO (.there .here) (fun w hw => Ob.sl_at hw)) (i := 0) (j := 0) (v := .int .i64 x.1) rfl ?_
    refine vcLoad1_0 (Ent.gnO (.there (.there .here)) (fun w hw => Ob.row_at hw)) rfl ?_
    refine vcLoad1_row (Ent.gnO .here (fun w hw => Ob.row_at hw)) rfl ?_
    refine vcIdx_some 0 rfl (by simp) ?_
    refine vcStore1_2 _ _ (.there .here) rfl (by show (0 : Nat) < (spL _).length; rw [spL_len]; simp) rfl ?_
    refine vcMix_last (by kernel_rfl) ?_
    refine RaisePost.out 0 F _ (some ad) c' ?_ (hout _ rfl)
    have e : clip F (x :: r) = ((if x.1 < F then F else x.1), x.2) :: r := by rw [if_max]; rfl
    rw [e]
    exact ⟨_, .cons (.there .here) (.cons .here .nil)⟩
  · obtain rfl : fl = [] := List.eq_nil_of_length_eq_zero (by omega)
    exact RaisePost.out 0 F [] A' c' ⟨_, .cons .here (.cons .here .nil)⟩ (hout _ rfl)
theorem RaiseTo.ok {most floor : Int} {l : List Sp} {f e floor' : Int} {l' : List Sp} (h : RaiseTo floor l f e floor' l') (hs : SetOk most floor l) : SetOk most floor' l' := by
  obtain ⟨hm, hf, hl, hr⟩ := hs
  rcases h with ⟨_, _, rfl, rfl⟩ | ⟨hfb, _, rfl, rfl⟩
  · exact ⟨hm, hf, hl, hr⟩
  · generalize hF : max floor f = F
    have hrf : Rise floor (l.filter fun x => !decide (x.2 < F)) := hr.sub (List.filter_sublist)
    have hge : ∀ x ∈ l.filter (fun x => !decide (x.2 < F)), F ≤ x.2 := fun x hx => by
      have := (List.mem_filter.1 hx).2
      simp at this; omega
    have hlen := List.length_filter_le (fun x : Sp => !decide (x.2 < F)) l
    unfold raiseL
    generalize l.filter (fun x => !decide (x.2 < F)) = fl at *
    refine ⟨hm, by omega, ?_, ?_⟩
    · have : (clip F fl).length = fl.length := by cases fl <;> rfl
      omega
    · cases fl with
      | nil => exact ⟨by simp [clip], by simp [clip]⟩
      | cons x r =>
        have h1 := hrf.1 x (List.mem_cons_self ..)
        have h2 := hge x (List.mem_cons_self ..)
        have h3 := List.pairwise_cons.1 hrf.2
        refine ⟨fun y hy => ?_, List.pairwise_cons.2 ⟨fun y hy => ?_, h3.2⟩⟩
        · rcases List.mem_cons.1 hy with rfl | hy
          · simp only; omega
          · have h4 := hrf.1 y (List.mem_cons_of_mem _ hy)
            have h5 := h3.1 y hy
            omega
        · exact h3.1 y hy
end Go.Proofs.Ytodnohpogpkngaa
