/- The reference's functions over sets, but Add. -/
import Derived.Test.YtodnohpogpkngaaSpaF
namespace Go.Proofs.Ytodnohpogpkngaa
open Go.Proofs
set_option maxRecDepth 10000

def inS (n : Int) (x : Sp) : Bool := decide (x.1 ≤ n ∧ n ≤ x.2)
theorem good_spec (most : Int) (G : Mp) : Spec Try.prog 15 #[.int .i64 most] [] G (Ret (.bool (decide (1 ≤ most ∧ most ≤ 64)))) := by
  refine Spec.intro (args := [_]) wide Try.func15 rfl Try.call15 (by rfl) (by rfl) (fun w0 hw0 => ?_)
  refine vcIf_dec (fun h1 => ?_) (fun h1 => ?_)
  · refine ⟨[], _, MT, .nil, fun _ _ _ => trivial, ?_, rfl, rfl⟩
    exact congrArg Value.bool (decide_eq_decide.2 ⟨fun h => h.2, fun h => ⟨h1, h⟩⟩).symm
  · refine ⟨[], _, MT, .nil, fun _ _ _ => trivial, ?_, rfl, rfl⟩
    exact congrArg Value.bool (decide_eq_false (fun h => h1 h.1)).symm
theorem cut_spec (x : Sp) (f t : Int) (G : Mp) (hx : 0 ≤ x.1 ∧ x.1 ≤ x.2 ∧ x.2 ≤ 4611686018427387903) (hf : 0 ≤ f ∧ f ≤ 4611686018427387904) (ht : 0 ≤ t ∧ t ≤ 4611686018427387903) :
    Spec Try.prog 31 #[.int .i64 x.1, .int .i64 x.2, .int .i64 f, .int .i64 t] [] G (Ret (.int .i64 (cutI f t x))) := by
  refine Spec.introC (args := [_, _, _, _]) wide Try.func31 rfl Try.call31 (by rfl) (by rfl) [3, 5] (fun w0 hw0 => ?_)
  refine vcCut_of (fun g : Int => [(0, .int .i64 g), (1, .int .i64 x.2), (2, .int .i64 f), (3, .int .i64 t)]) (fun _ => []) (fun _ => MT) (fun g => g = max x.1 f) ?_ ?_
  · refine vcIf_dec (fun h => ?_) (fun h => ?_)
    · exact ⟨f, by omega, ⟨rfl, rfl, rfl, rfl, trivial⟩, ⟨_, .nil⟩, Ent.refl⟩
    · exact ⟨x.1, by omega, ⟨rfl, rfl, rfl, rfl, trivial⟩, ⟨_, .nil⟩, Ent.refl⟩
  intro a ha
  refine vcCut_of (fun g : Int => [(0, .int .i64 a), (1, .int .i64 g), (2, .int .i64 f), (3, .int .i64 t)]) (fun _ => []) (fun _ => MT) (fun g => g = min x.2 t) ?_ ?_
  · refine vcIf_dec (fun h => ?_) (fun h => ?_)
    · exact ⟨t, by omega, ⟨rfl, rfl, rfl, rfl, trivial⟩, ⟨_, .nil⟩, Ent.refl⟩
    · exact ⟨x.2, by omega, ⟨rfl, rfl, rfl, rfl, trivial⟩, ⟨_, .nil⟩, Ent.refl⟩
  intro b hb
  unfold cutI
  rw [← ha, ← hb]
  refine vcIf_dec (fun h => ?_) (fun h => ?_)
  · rw [if_neg (by omega)]
    exact ⟨[], _, MT, .nil, fun _ _ _ => trivial, rfl, rfl, rfl⟩
  · rw [if_pos (by omega)]
    refine vcFit_i64 (by omega) ?_
    refine vcFit_i64 (by omega) ?_
    exact ⟨[], _, MT, .nil, fun _ _ _ => trivial, rfl, rfl, rfl⟩
theorem in_spec (A : Option Addr) (c : Nat) (l : List Sp) (n : Int) (G : Mp) (h1 : Ent G (RowAt A (spL l))) (hl : l.length ≤ 9223372036854775800) :
    Spec Try.prog 13 #[.slice A l.length c, .int .i64 n] [] G (Ret (.bool (l.any (inS n)))) := by
  refine Spec.intro (args := [_, _]) wide Try.func13 rfl Try.call13 (by rfl) (by rfl) (fun w0 hw0 => ?_)
  refine vcLoop_of (fun k : Nat => l.length - k) (fun k => [(0, .slice A l.length c), (1, .int .i64 n), (5, .int .i64 k)]) (fun _ => []) (fun _ => MT) (fun k => k ≤ l.length ∧ ∀ x ∈ l.take k, inS n x = false)
    0 ⟨by omega, by simp⟩ ⟨rfl, rfl, rfl, trivial⟩ ⟨_, .nil⟩ Ent.refl ?_
  rintro k ⟨hk, ht⟩
  refine vcIf_dec (fun hlt => ?_) (fun hge => ?_)
  · have hk' : k < l.length := by omega
    have next : inS n l[k] = false → k + 1 ≤ l.length ∧ ∀ x ∈ l.take (k + 1), inS n x = false := fun h => ⟨by omega, take_all hk' ht h⟩
    refine vcIdx_nats (s := 2) k rfl (Ent.gnG h1) hk' (by rw [spL_len]; omega) (by omega) (fun a ha => ?_)
    subst ha
    refine vcLoad1_2 (Ent.gnG h1) (spL_get0 hk') ?_
    refine vcIf_dec (fun h2 => ?_) (fun h2 => ?_)
    · refine vcIdx_some k rfl hk' ?_
      refine vcLoad1_2 (Ent.gnG h1) (spL_get1 hk') ?_
      refine vcIf_dec (fun h3 => ?_) (fun h3 => ?_)
      · have : l.any (inS n) = true := List.any_eq_true.2 ⟨_, List.getElem_mem hk', decide_eq_true ⟨h2, h3⟩⟩
        rw [this]
        exact ⟨[], _, MT, .nil, fun _ _ _ => trivial, rfl, rfl, rfl⟩
      · refine vcFit_i64 (by omega) ?_
        exact ⟨k + 1, next (decide_eq_false fun h => h3 h.2), by omega, ⟨rfl, rfl, rfl, trivial⟩, ⟨_, .nil⟩, Ent.refl⟩
    · refine vcFit_i64 (by omega) ?_
      exact ⟨k + 1, next (decide_eq_false fun h => h2 h.1), by omega, ⟨rfl, rfl, rfl, trivial⟩, ⟨_, .nil⟩, Ent.refl⟩
  · obtain rfl : k = l.length := by omega
    have : l.any (inS n) = false := by
      rw [List.any_eq_false]
      rw [List.take_length] at ht
      exact fun x hx => by rw [ht x hx]; simp
    rw [this]
    exact ⟨[], _, MT, .nil, fun _ _ _ => trivial, rfl, rfl, rfl⟩
theorem spV_inj {x y : Sp} : spV x = spV y ↔ x = y := by
  obtain ⟨a, b⟩ := x
  obtain ⟨c, d⟩ := y
  simp [spV]
theorem samespans_spec (A A' : Option Addr) (c d : Nat) (xs ys : List Sp) (G : Mp) (h1 : Ent G (RowAt A (spL xs))) (h2 : Ent G (RowAt A' (spL ys))) (hx : xs.length ≤ 9223372036854775800) :
    Spec Try.prog 32 #[.slice A xs.length c, .slice A' ys.length d] [] G (Ret (.bool (decide (xs = ys)))) := by
  refine Spec.intro (args := [_, _]) wide Try.func32 rfl Try.call32 (by rfl) (by rfl) (fun w0 hw0 => ?_)
  refine vcIf_ndec (fun hne => ?_) (fun heq => ?_)
  · rw [decide_eq_false (fun e => hne (by rw [e]))]
    exact ⟨[], _, MT, .nil, fun _ _ _ => trivial, rfl, rfl, rfl⟩
  have hl : xs.length = ys.length := by omega
  refine vcLoop_of (fun k : Nat => xs.length - k) (fun k => [(0, .slice A xs.length c), (1, .slice A' ys.length d), (5, .int .i64 k)]) (fun _ => []) (fun _ => MT) (fun k => k ≤ xs.length ∧ xs.take k = ys.take k)
    0 ⟨by omega, by simp⟩ ⟨rfl, rfl, rfl, trivial⟩ ⟨_, .nil⟩ Ent.refl ?_
  rintro k ⟨hk, ht⟩
  refine vcIf_dec (fun hlt => ?_) (fun hge => ?_)
  · have hk' : k < xs.length := by omega
    refine vcDraw_quiet (by kernel_rfl) ?_
    refine vcIdx_nats (s := 2) k rfl (Ent.gnG h1) hk' (by rw [spL_len]; omega) (by omega) (fun a ha => ?_)
    subst ha
    refine vcLoadN_1 (spV xs[k]) (Ent.gnG h1) rfl (spL_chunk hk') ?_
    refine vcIdx_nats (s := 2) k rfl (Ent.gnG h2) (by omega) (by rw [spL_len]; omega) (by omega) (fun a ha => ?_)
    subst ha
    refine vcLoadN_1 (spV ys[k]) (Ent.gnG h2) rfl (spL_chunk (by omega)) ?_
    refine vcEqA_of [.i .i64, .i .i64] (by kernel_rfl) rfl rfl (xs[k] = ys[k]) spV_inj ?_
    refine vcIf_ndec (fun hne => ?_) (fun heq => ?_)
    · rw [decide_eq_false (take_snoc_ne hk' (by omega) hne)]
      exact ⟨[], _, MT, .nil, fun _ _ _ => trivial, rfl, rfl, rfl⟩
    · refine vcFit_i64 (by omega) ?_
      exact ⟨k + 1, ⟨by omega, take_snoc_eq ht hk' (by omega) heq⟩, by omega, ⟨rfl, rfl, rfl, trivial⟩, ⟨_, .nil⟩, Ent.refl⟩
  · obtain rfl : k = xs.length := by omega
    rw [decide_eq_true (by rw [List.take_length, hl, List.take_length] at ht; exact ht : xs = ys)]
    exact ⟨[], _, MT, .nil, fun _ _ _ => trivial, rfl, rfl, rfl⟩

/-! ### The reference's set: its list is only read. -/
def refR (d : Nat) (A : Option Addr) (n c : Nat) (most floor : Int) : Ob := .row d 48 [.int .i64 most, .int .i64 floor, .slice A n c] 3
theorem rhas_spec (d : Nat) (A : Option Addr) (c : Nat) (most floor : Int) (l : List Sp) (n : Int) (G : Mp) (h1 : Ent G (RowAt A (spL l))) (hl : l.length ≤ 1000000) :
    Spec Try.prog 20 #[.pointer (some ⟨d, 0, none⟩), .int .i64 n] [refR d A l.length c most floor] G (fun v own N => v = .bool (decide (0 ≤ n ∧ n < floor) || l.any (inS n)) ∧ own = [refR d A l.length c most floor] ∧ N = MT) := by
  refine Spec.intro (args := [_, _]) wide Try.func20 rfl Try.call20 (by rfl) (by rfl) (fun w0 hw0 => ?_)
  refine vcIf_dec (fun h0 => ?_) (fun h0 => ?_)
  · refine vcLoad1_row (Ent.gnO .here (fun w hw => Ob.row_at hw)) rfl ?_
    refine vcIf_dec (fun h2 => ?_) (fun h2 => ?_)
    · refine ⟨_, _, MT, .cons .here .nil, fun _ _ _ => trivial, ?_, rfl, rfl⟩
      rw [decide_eq_true ⟨h0, h2⟩]; rfl
    · refine vcLoad1_row (Ent.gnO .here (fun w hw => Ob.row_at hw)) rfl ?_
      refine vcCall_of .nil (in_spec A c l n _ (Ent.gnG h1) (by omega)) (fun v own' N' hv => ?_); obtain ⟨rfl, rfl, rfl⟩ := hv
      refine ⟨_, _, MT, .cons .here .nil, fun _ _ _ => trivial, ?_, rfl, rfl⟩
      rw [decide_eq_false (fun h => h2 h.2), Bool.false_or]; rfl
  · refine vcLoad1_row (Ent.gnO .here (fun w hw => Ob.row_at hw)) rfl ?_
    refine vcCall_of .nil (in_spec A c l n _ (Ent.gnG h1) (by omega)) (fun v own' N' hv => ?_); obtain ⟨rfl, rfl, rfl⟩ := hv
    refine ⟨_, _, MT, .cons .here .nil, fun _ _ _ => trivial, ?_, rfl, rfl⟩
    rw [decide_eq_false (fun h => h0 h.1), Bool.false_or]; rfl
def rraise (f : Int) (l : List Sp) : List Sp := (l.filter fun x => !decide (x.2 < f)).map fun x => (max x.1 f, x.2)
def RRaiseTo (floor : Int) (l : List Sp) (f e floor' : Int) (l' : List Sp) : Prop :=
  (f < 0 ∨ 4611686018427387903 < f) ∧ e = 21 ∧ floor' = floor ∧ l' = l ∨ (0 ≤ f ∧ f ≤ 4611686018427387903) ∧ e = 0 ∧ (f ≤ floor ∧ floor' = floor ∧ l' = l ∨ floor < f ∧ floor' = f ∧ l' = rraise f l)
theorem rraise_snoc (f : Int) (l : List Sp) (x : Sp) : rraise f (l ++ [x]) = if x.2 < f then rraise f l else rraise f l ++ [(max x.1 f, x.2)] := by
  unfold rraise
  rw [List.filter_append, List.map_append]
  by_cases h : x.2 < f <;> simp [h]
theorem rraise_len (f : Int) (l : List Sp) : (rraise f l).length ≤ l.length := by
  unfold rraise
  rw [List.length_map]; exact List.length_filter_le ..
/-- A row that was known before, or is known now. -/
def Known (A : Option Addr) (l : List Sp) (A' : Option Addr) (l' : List Sp) (N : Mp) : Prop := (A' = A ∧ l' = l) ∨ Ent N (RowAt A' (spL l'))
theorem rraise_spec (d : Nat) (A : Option Addr) (c : Nat) (most floor : Int) (l : List Sp) (f : Int) (G : Mp) (h1 : Ent G (RowAt A (spL l))) (hl : l.length ≤ 1000000) :
    Spec Try.prog 19 #[.pointer (some ⟨d, 0, none⟩), .int .i64 f] [refR d A l.length c most floor] G (fun v own N => ∃ e floor' l' A' c', v = .int .i64 e ∧ own = [refR d A' l'.length c' most floor'] ∧ Known A l A' l' N ∧ RRaiseTo floor l f e floor' l') := by
  refine Spec.introC (args := [_, _]) wide Try.func19 rfl Try.call19 (by rfl) (by rfl) [14] (fun w0 hw0 => ?_)
  have bad : (f < 0 ∨ 4611686018427387903 < f) → ∃ (own' rest : List Ob) (N' : Mp), Pick own' [refR d A l.length c most floor] rest ∧ (∀ w, MT w → Objs rest w → N' w) ∧ ∃ e floor' l' A' c', (Value.int .i64 21) = .int .i64 e ∧ own' = [refR d A' l'.length c' most floor'] ∧ Known A l A' l' N' ∧ RRaiseTo floor l f e floor' l' :=
    fun h => ⟨_, _, MT, .cons .here .nil, fun _ _ _ => trivial, 21, floor, l, A, c, rfl, rfl, .inl ⟨rfl, rfl⟩, .inl ⟨h, rfl, rfl, rfl⟩⟩
  refine vcIf_dec (fun h0 => bad (.inl h0)) (fun h0 => ?_)
  refine vcIf_dec (fun h2 => bad (.inr h2)) (fun h2 => ?_)
  refine vcLoad1_row (Ent.gnO .here (fun w hw => Ob.row_at hw)) rfl ?_
  refine vcIf_dec (fun h3 => ?_) (fun h3 => ?_)
  · exact ⟨_, _, MT, .cons .here .nil, fun _ _ _ => trivial, 0, floor, l, A, c, rfl, rfl, .inl ⟨rfl, rfl⟩, .inr ⟨⟨by omega, by omega⟩, rfl, .inl ⟨h3, rfl, rfl⟩⟩⟩
  refine vcStore1_1 (.row d _ _ _) _ .here rfl (by show (1 : Nat) < 3; decide) rfl ?_
  refine vcLoop_of (fun g : Nat × Option Addr × Nat × List Sp => l.length - g.1) (fun g => [(0, .pointer (some ⟨d, 0, none⟩)), (1, .int .i64 f), (5, .slice g.2.1 g.2.2.2.length g.2.2.1), (6, .int .i64 g.1)])
    (fun g => [refR d A l.length c most f, .sl g.2.1 g.2.2.1 29 2 (spL g.2.2.2)]) (fun _ => MT) (fun g => g.1 ≤ l.length ∧ g.2.2.2 = rraise f (l.take g.1)) (0, none, 0, []) ⟨by simp, rfl⟩ ⟨rfl, rfl, rfl, rfl, trivial⟩ ⟨_, .cons .here (.cons .none_ .nil)⟩ (fun _ _ => trivial) ?_
  rintro ⟨k, Ao, co, out⟩ ⟨hk, hout⟩
  simp only at hk hout
  have hol : out.length ≤ k := by
    have := rraise_len f (l.take k)
    rw [← hout, List.length_take] at this
    omega
  refine vcLoad1_row (Ent.gnO .here (fun w hw => Ob.row_at hw)) rfl ?_
  refine vcIf_dec (fun hlt => ?_) (fun hge => ?_)
  · have hk' : k < l.length := by omega
    have hsn := rraise_snoc f (l.take k) l[k]
    rw [← take_snoc_get hk', ← hout] at hsn
    refine vcLoad1_row (Ent.gnO .here (fun w hw => Ob.row_at hw)) rfl ?_
    refine vcIdx_nats (s := 2) k rfl (Ent.gnG h1) hk' (by rw [spL_len]; omega) (by omega) (fun a ha => ?_)
    subst ha
    refine vcLoadN_1 (spV l[k]) (Ent.gnG h1) rfl (spL_chunk hk') ?_
    intro b7
    refine ⟨rfl, vcStoreN_row _ .here rfl (spL_one [l[k]]) ?_⟩
    refine vcLoad1_row (Ent.gnO .here (fun w hw => Ob.row_at hw)) rfl ?_
    refine vcIf_dec (fun h4 => ?_) (fun h4 => ?_)
    · rw [if_pos h4] at hsn
      refine vcFit_i64 (by omega) ?_
      exact ⟨(k + 1, Ao, co, out), ⟨by simp only; omega, hsn.symm⟩, by simp only; omega, ⟨rfl, rfl, rfl, rfl, trivial⟩, ⟨_, .cons (.there .here) (.cons (.there .here) .nil)⟩, fun _ _ => trivial⟩
    · rw [if_neg h4] at hsn
      refine vcCut_of (fun _ : Sp => [(0, .pointer (some ⟨d, 0, none⟩)), (1, .int .i64 f), (5, .slice Ao out.length co), (6, .int .i64 k), (7, .pointer (some ⟨b7, 0, none⟩))])
        (fun y => [.row b7 29 (spV y) 2, refR d (some a) l.length c most f, .sl Ao co 29 2 (spL out)]) (fun _ => MT) (fun y => y = (max l[k].1 f, l[k].2)) ?_ ?_
      · refine vcLoad1_row (Ent.gnO .here (fun w hw => Ob.row_at hw)) rfl ?_
        refine vcIf_dec (fun h5 => ?_) (fun h5 => ?_)
        · refine vcStore1_1 (.row b7 _ _ _) _ .here rfl (by show (0 : Nat) < 2; decide) rfl ?_
          refine ⟨(f, l[k].2), ?_, ⟨rfl, rfl, rfl, rfl, rfl, trivial⟩, ⟨_, .cons .here (.cons .here (.cons .here .nil))⟩, fun _ _ => trivial⟩
          simp only [Prod.mk.injEq, and_true]; omega
        · refine ⟨l[k], ?_, ⟨rfl, rfl, rfl, rfl, rfl, trivial⟩, ⟨_, .cons .here (.cons .here (.cons .here .nil))⟩, fun _ _ => trivial⟩
          rw [show max l[k].1 f = l[k].1 from by omega]
      rintro y rfl
      refine vcLoadN_0 (Ent.gnO .here (fun w hw => Ob.row_at hw)) rfl ?_
      intro bv
      refine vcApp_of (spL out) _ (spL [(max l[k].1 f, l[k].2)]) (.there (.there (.there .here))) (by rw [spL_len]) rfl (by omega) (spL_one _) (Ent.gnO .here (fun w hw => Ob.sl_at hw)) (by omega) (by omega) (fun A' c' hc' => ?_)
      refine vcFit_i64 (by omega) ?_
      refine ⟨(k + 1, A', c', out ++ [(max l[k].1 f, l[k].2)]), ⟨by simp only; omega, hsn.symm⟩, by simp only; omega, ⟨rfl, rfl, ?_, rfl, trivial⟩, ?_, fun _ _ => trivial⟩
      · simp only [List.length_append, List.length_cons, List.length_nil]; rfl
      · simp only [spL_append]
        exact ⟨_, .cons (.there (.there (.there .here))) (.cons .here .nil)⟩
  · obtain rfl : k = l.length := by omega
    rw [List.take_length] at hout
    refine vcStore1_1 (.row d _ _ _) _ .here rfl (by show (2 : Nat) < 3; decide) rfl ?_
    exact ⟨[refR d Ao out.length co most f], _, RowAt Ao (spL out), .cons .here .nil, fun w _ ho => Ob.sl_at (ho _ (.head _)), 0, f, out, Ao, co, rfl, rfl, .inr Ent.refl, .inr ⟨⟨by omega, by omega⟩, rfl, .inr ⟨by omega, rfl, hout⟩⟩⟩
end Go.Proofs.Ytodnohpogpkngaa
