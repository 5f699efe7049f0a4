/- SpansHas. -/
import Derived.Test.YtodnohpogpkngaaSpaL
namespace Go.Proofs.Ytodnohpogpkngaa
open Go.Proofs
set_option maxRecDepth 10000

theorem flat_one (l : List Int) : (l.flatMap fun n => [Value.int .i64 n]) = l.map fun n => Value.int .i64 n := by
  induction l with
  | nil => rfl
  | cons x r ih => rw [List.flatMap_cons, ih]; rfl

structure HasInv (floor : Int) (l good : List Sp) : Prop where
  right : ∀ x ∈ good, 0 ≤ x.1 ∧ x.1 ≤ x.2 ∧ x.2 ≤ 4611686018427387903
  same : (floor = 0 ∧ l.length ≤ good.length ∧ ∀ n, l.any (inS n) = good.any (inS n)) ∨ (0 < floor ∧ 64 < good.length)
theorem HasInv.add {floor : Int} {l good : List Sp} (h : HasInv floor l good) (hs : SetOk 64 floor l) {f t fr fl : Int} {l' : List Sp} (ha : AddTo 64 floor l f t fr 0 fl l') : HasInv fl l' (good ++ [(f, t)]) := by
  have h1 := ha.had hs
  have h2 := ha.len hs
  have h3 := h1.2.2 rfl
  have h4 := h2.2.1 rfl
  have hl := hs.hl
  have h0 := hs.hf
  refine ⟨fun x hx => ?_, ?_⟩
  · rcases List.mem_append.1 hx with hx | hx
    · exact h.right x hx
    · rw [List.mem_singleton] at hx; subst hx; exact ⟨h3.1, h3.2.1, h3.2.2.1⟩
  · have hlen : (good ++ [(f, t)]).length = good.length + 1 := by simp
    rw [hlen]
    rcases h.same with ⟨rfl, hle, hsame⟩ | ⟨hf, hg⟩
    · rcases h2.2.2 with rfl | ⟨_, hc⟩
      · refine .inl ⟨rfl, by omega, fun n => ?_⟩
        rw [ha.same hs rfl, hsame n, List.any_append]
        simp
      · by_cases hf : fl = 0
        · subst hf
          refine .inl ⟨rfl, by omega, fun n => ?_⟩
          rw [ha.same hs rfl, hsame n, List.any_append]
          simp
        · exact .inr ⟨by omega, by omega⟩
    · exact .inr ⟨by omega, by omega⟩

theorem spV_one (x : Sp) : ∀ v ∈ spV x, oneCell v = true := by
  intro v hv
  simp only [spV, List.mem_cons, List.not_mem_nil, or_false] at hv
  rcases hv with rfl | rfl <;> rfl

theorem hasl_spec (Ax : Option Addr) (cx : Nat) (xs : List Sp) (Aq : Option Addr) (cq : Nat) (qs : List Int) (G : Mp) (hG : Ent G (RowAt Ax (spL xs))) (hQ : Ent G (RowAt Aq (qs.map fun n => .int .i64 n))) (hx : xs.length ≤ 8796093022207) (hq : qs.length ≤ 1000000000000000) :
    Spec Try.prog 3 #[.slice Ax xs.length cx, .slice Aq qs.length cq] [] G (Ret (.bool true)) := by
  refine Spec.intro (args := [_, _]) wide Try.func3 rfl Try.call3 (by rfl) (by rfl) (fun w0 hw0 => ?_)
  refine vcCall_of .nil (new_spec 64 _) (fun v own' N' hv => ?_)
  obtain ⟨rfl, ⟨h, _⟩ | ⟨h, b, rfl, rfl⟩⟩ := hv
  · omega
  refine vcLoop_of (fun g : Nat × Int × List Sp × Option Addr × Nat × List Sp × Option Addr × Nat => xs.length - g.1) (fun g => [(1, .slice Aq qs.length cq), (5, .pointer (some ⟨b, 0, none⟩)), (7, .slice g.2.2.2.2.2.2.1 g.2.2.2.2.2.1.length g.2.2.2.2.2.2.2), (26, .slice Ax xs.length cx), (27, .int .i64 xs.length), (28, .int .i64 g.1)])
    (fun g => .sl g.2.2.2.2.2.2.1 g.2.2.2.2.2.2.2 29 2 (spL g.2.2.2.2.2.1) :: setO b g.2.2.2.1 g.2.2.2.2.1 64 g.2.1 g.2.2.1) (fun _ => MT) (fun g => g.1 ≤ xs.length ∧ g.2.2.2.2.2.1.length ≤ g.1 ∧ SetOk 64 g.2.1 g.2.2.1 ∧ HasInv g.2.1 g.2.2.1 g.2.2.2.2.2.1)
    (0, 0, [], none, 0, [], none, 0) ⟨by simp, by simp, newok' h, ⟨by simp, .inl ⟨rfl, by simp, fun _ => rfl⟩⟩⟩ ⟨rfl, rfl, rfl, rfl, rfl, rfl, trivial⟩ ⟨_, .cons .none_ (.cons .here (.cons .here .nil))⟩ (fun _ _ => trivial) ?_
  rintro ⟨k, floor, l, A, c, good, Ag, cg⟩ ⟨hk, hgk, hs, hi⟩
  simp only at hk hgk hs hi
  refine vcIf_dec (fun hlt => ?_) (fun hge => ?_)
  · have hk' : k < xs.length := by omega
    refine vcIdx_nats (s := 2) k rfl (Ent.gnG hG) hk' (by rw [spL_len]; omega) (by omega) (fun a ha => ?_)
    subst ha
    refine vcLoadN_1 (spV xs[k]) (Ent.gnG hG) rfl (spL_chunk hk') ?_
    intro b9
    refine ⟨rfl, vcStoreN_row _ .here rfl (spV_one xs[k]) ?_⟩
    generalize hop : xs[k] = op
    obtain ⟨f, t⟩ := op
    refine vcLoad1_row (Ent.gnO .here (fun w hw => Ob.row_at hw)) rfl ?_
    refine vcLoad1_row (Ent.gnO .here (fun w hw => Ob.row_at hw)) rfl ?_
    refine vcCall_of (.cons (.there (.there .here)) (.cons (.there (.there .here)) .nil)) (add_spec b A c 64 floor l f t _ hs) (fun v own' N' hv => ?_)
    obtain ⟨rfl, fr, e, fl, l', A', c', rfl, rfl, h⟩ := hv
    have hs' := h.ok hs
    have hl := h.len hs
    refine vcIf_dec (fun he => ?_) (fun he => ?_)
    · obtain rfl : e = 0 := he
      refine vcLoadN_0 (xs := spV (f, t)) (Ent.gnO (.there (.there .here)) (fun w hw => Ob.row_at hw)) rfl ?_
      intro b10
      refine vcApp_of (spL good) _ (spL [(f, t)]) (.there (.there (.there (.there .here)))) (by rw [spL_len]) (by rw [spL_len]; rfl) (by omega) (spL_one _) (Ent.gnO .here (fun w hw => Ob.sl_at hw)) (by simp only; omega) (by simp only; omega) (fun A2 c2 hc2 => ?_)
      rw [← spL_append]
      refine vcFit_i64 (by omega) ?_
      have hlen : (good ++ [(f, t)]).length = good.length + 1 := by simp
      exact ⟨(k + 1, fl, l', A', c', good ++ [(f, t)], A2, c2), ⟨by simp only; omega, by simp only [hlen]; omega, hs', hi.add hs h⟩, by simp only; omega, ⟨rfl, rfl, by simp only [hlen]; rfl, rfl, rfl, rfl, trivial⟩, ⟨_, .cons .here (.cons (.there .here) (.cons (.there .here) .nil))⟩, fun _ _ => trivial⟩
    · obtain ⟨rfl, rfl, hbad⟩ := hl.1 he
      refine vcLoad1_row (Ent.gnO (.there (.there .here)) (fun w hw => Ob.row_at hw)) rfl ?_
      refine vcIf_dec (fun h1 => ?_) (fun h1 => ?_)
      · refine vcLoad1_row (Ent.gnO (.there (.there .here)) (fun w hw => Ob.row_at hw)) rfl ?_
        refine vcLoad1_row (Ent.gnO (.there (.there .here)) (fun w hw => Ob.row_at hw)) rfl ?_
        refine vcIf_dec (fun h2 => ?_) (fun h2 => ?_)
        · refine vcLoad1_row (Ent.gnO (.there (.there .here)) (fun w hw => Ob.row_at hw)) rfl ?_
          refine vcIf_dec (fun h3 => absurd ⟨h1, h2, h3⟩ hbad) (fun h3 => ?_)
          refine vcFit_i64 (by simp only; omega) ?_
          exact ⟨(k + 1, fl, l', A', c', good, Ag, cg), ⟨by simp only; omega, by simp only; omega, hs', hi⟩, by simp only; omega, ⟨rfl, rfl, rfl, rfl, rfl, rfl, trivial⟩, ⟨_, .cons (.there (.there (.there .here))) (.cons .here (.cons .here .nil))⟩, fun _ _ => trivial⟩
        · refine vcFit_i64 (by simp only; omega) ?_
          exact ⟨(k + 1, fl, l', A', c', good, Ag, cg), ⟨by simp only; omega, by simp only; omega, hs', hi⟩, by simp only; omega, ⟨rfl, rfl, rfl, rfl, rfl, rfl, trivial⟩, ⟨_, .cons (.there (.there (.there .here))) (.cons .here (.cons .here .nil))⟩, fun _ _ => trivial⟩
      · refine vcFit_i64 (by simp only; omega) ?_
        exact ⟨(k + 1, fl, l', A', c', good, Ag, cg), ⟨by simp only; omega, by simp only; omega, hs', hi⟩, by simp only; omega, ⟨rfl, rfl, rfl, rfl, rfl, rfl, trivial⟩, ⟨_, .cons (.there (.there (.there .here))) (.cons .here (.cons .here .nil))⟩, fun _ _ => trivial⟩
  · refine vcCall_of (.cons (.there .here) .nil) (floor_spec b A l.length c 64 floor _) (fun v own' N' hv => ?_)
    obtain ⟨rfl, rfl, rfl⟩ := hv
    have hf0 := hs.hf
    refine vcIf_dec (fun hp => ?_) (fun hp => ?_)
    · rcases hi.same with ⟨rfl, _⟩ | ⟨_, hg⟩
      · omega
      refine vcIf_yes (by simp only; omega) ?_
      refine vcCall_of .nil (awake_spec _) (fun v own' N' hv => ?_); obtain ⟨rfl, rfl, rfl⟩ := hv
      exact ⟨[], _, MT, .nil, fun _ _ _ => trivial, rfl, rfl, rfl⟩
    rcases hi.same with ⟨rfl, _, hsame⟩ | ⟨h, _⟩
    case inr => omega
    have hhas : ∀ n, (if n < 0 then decide (0 ≤ n) else l.any fun x => decide (x.1 ≤ n ∧ n ≤ x.2)) = good.any (inS n) := fun n => by
      rw [has_alike n hs, hsame n, decide_eq_false (by omega), Bool.false_or]
    refine vcLoop_of (fun g : Nat => qs.length - g) (fun g => [(5, .pointer (some ⟨b, 0, none⟩)), (7, .slice Ag good.length cg), (72, .slice Aq qs.length cq), (73, .int .i64 qs.length), (74, .int .i64 g)])
      (fun _ => .sl Ag cg 29 2 (spL good) :: setO b A c 64 0 l) (fun _ => MT) (fun g => g ≤ qs.length) 0 (by simp) ⟨rfl, rfl, rfl, rfl, rfl, trivial⟩ ⟨_, .cons (.there .here) (.cons .here (.cons .here .nil))⟩ (fun _ _ => trivial) ?_
    intro j hj
    refine vcIf_dec (fun hlt => ?_) (fun hge => ?_)
    · have hj' : j < qs.length := by omega
      refine vcIdx_nat j rfl (Ent.gnG hQ) hj' (by simp) (fun a ha => ?_)
      subst ha
      refine vcLoad1_row (v := .int .i64 qs[j]) (Ent.gnG hQ) (by simp [hj']) ?_
      refine vcCall_of (.cons (.there .here) (.cons (.there .here) .nil)) (has_spec b A c 64 0 l qs[j] _ hs) (fun v own' N' hv => ?_)
      obtain ⟨rfl, rfl, rfl⟩ := hv
      refine vcCall_of .nil (in_spec Ag cg good qs[j] _ (Ent.gnO (.there (.there .here)) (fun w hw => Ob.sl_at hw)) (by omega)) (fun v own' N' hv => ?_)
      obtain ⟨rfl, rfl, rfl⟩ := hv
      rw [hhas]
      refine vcIf_is false (by simp) ?_
      refine vcFit_i64 (by omega) ?_
      exact ⟨j + 1, by omega, by omega, ⟨rfl, rfl, rfl, rfl, rfl, trivial⟩, ⟨_, .cons (.there (.there .here)) (.cons .here (.cons .here .nil))⟩, fun _ _ => trivial⟩
    refine vcLoop_of (fun g : Nat => good.length - g) (fun g => [(5, .pointer (some ⟨b, 0, none⟩)), (86, .slice Ag good.length cg), (87, .int .i64 good.length), (88, .int .i64 g)])
      (fun _ => .sl Ag cg 29 2 (spL good) :: setO b A c 64 0 l) (fun _ => MT) (fun g => g ≤ good.length) 0 (by simp) ⟨rfl, rfl, rfl, rfl, trivial⟩ ⟨_, .cons .here (.cons .here (.cons .here .nil))⟩ (fun _ _ => trivial) ?_
    intro j hj
    refine vcIf_dec (fun hlt => ?_) (fun hge => ?_)
    · have hj' : j < good.length := by omega
      refine vcIdx_nats (s := 2) j rfl (Ent.gnO .here (fun w hw => Ob.sl_at hw)) hj' (by rw [spL_len]; omega) (by omega) (fun a ha => ?_)
      subst ha
      refine vcLoadN_1 (spV good[j]) (Ent.gnO .here (fun w hw => Ob.sl_at hw)) rfl (spL_chunk hj') ?_
      intro b9
      refine ⟨rfl, vcStoreN_row _ .here rfl (spV_one good[j]) ?_⟩
      have hr := hi.right good[j] (List.getElem_mem hj')
      have hin : ∀ n, good[j].1 ≤ n → n ≤ good[j].2 → good.any (inS n) = true := fun n h1 h2 => any_in.2 ⟨_, List.getElem_mem hj', h1, h2⟩
      generalize good[j] = op at *
      obtain ⟨f, t⟩ := op
      simp only at hr hin
      refine vcLoad1_row (Ent.gnO .here (fun w hw => Ob.row_at hw)) rfl ?_
      refine vcCall_of (.cons (.there (.there .here)) (.cons (.there (.there .here)) .nil)) (has_spec b _ c 64 0 l f _ hs) (fun v own' N' hv => ?_)
      obtain ⟨rfl, rfl, rfl⟩ := hv
      rw [hhas, hin f (by omega) (by omega)]
      refine vcLoad1_row (Ent.gnO (.there (.there .here)) (fun w hw => Ob.row_at hw)) rfl ?_
      refine vcCall_of (.cons .here (.cons .here .nil)) (has_spec b _ c 64 0 l t _ hs) (fun v own' N' hv => ?_)
      obtain ⟨rfl, rfl, rfl⟩ := hv
      rw [hhas, hin t (by omega) (by omega)]
      refine vcLoad1_row (Ent.gnO (.there (.there .here)) (fun w hw => Ob.row_at hw)) rfl ?_
      refine vcLoad1_row (Ent.gnO (.there (.there .here)) (fun w hw => Ob.row_at hw)) rfl ?_
      refine vcLoad1_row (Ent.gnO (.there (.there .here)) (fun w hw => Ob.row_at hw)) rfl ?_
      refine vcFit_i64 (by simp only; omega) ?_
      refine vcQuo_i64 (by simp only; omega) ?_
      refine vcFit_i64 (by simp only; omega) ?_
      refine vcCall_of (.cons .here (.cons .here .nil)) (has_spec b _ c 64 0 l (f + (t - f) / 2) _ hs) (fun v own' N' hv => ?_)
      obtain ⟨rfl, rfl, rfl⟩ := hv
      rw [hhas, hin _ (by omega) (by omega)]
      refine vcFit_i64 (by omega) ?_
      exact ⟨j + 1, by omega, by omega, ⟨rfl, rfl, rfl, rfl, trivial⟩, ⟨_, .cons (.there (.there (.there .here))) (.cons .here (.cons .here .nil))⟩, fun _ _ => trivial⟩
    refine vcCall_of .nil (awake_spec _) (fun v own' N' hv => ?_); obtain ⟨rfl, rfl, rfl⟩ := hv
    exact ⟨[], _, MT, .nil, fun _ _ _ => trivial, rfl, rfl, rfl⟩
end Go.Proofs.Ytodnohpogpkngaa
