/- SpansShape. -/
import Derived.Test.YtodnohpogpkngaaSpaM
import Derived.Test.YtodnohpogpkngaaSpaK
namespace Go.Proofs.Ytodnohpogpkngaa
open Go.Proofs
set_option maxRecDepth 10000

abbrev intL (l : List Int) : List Value := l.map fun n => .int .i64 n
theorem intL_one (l : List Int) : ∀ v ∈ intL l, oneCell v = true := by
  intro v hv
  rw [List.mem_map] at hv
  obtain ⟨n, _, rfl⟩ := hv
  rfl
def AllHad (floor : Int) (l : List Sp) (had : List Int) : Prop := ∀ n ∈ had, 0 ≤ n ∧ Had floor l n

set_option maxHeartbeats 1000000 in
theorem shape_spec (most : Int) (Ax : Option Addr) (cx : Nat) (xs : List OpI) (G : Mp) (hG : Ent G (RowAt Ax (xs.flatMap opV))) (hx : xs.length ≤ 5864062014805) :
    Spec Try.prog 6 #[.int .i64 most, .slice Ax xs.length cx] [] G (Ret (.bool true)) := by
  refine Spec.introC (args := [_, _]) wide Try.func6 rfl Try.call6 (by rfl) (by rfl) [14] (fun w0 hw0 => ?_)
  refine vcCall_of .nil (new_spec most _) (fun v own' N' hv => ?_)
  obtain ⟨rfl, ⟨h, rfl, rfl⟩ | ⟨h, b, rfl, rfl⟩⟩ := hv
  · refine vcIf_dec (fun h1 => ?_) (fun h1 => ?_)
    · refine vcCall_of .nil (awake_spec _) (fun v own' N' hv => ?_); obtain ⟨rfl, rfl, rfl⟩ := hv
      exact ⟨[], _, MT, .nil, fun _ _ _ => trivial, rfl, rfl, rfl⟩
    · refine vcIf_yes (by omega) ?_
      refine vcCall_of .nil (awake_spec _) (fun v own' N' hv => ?_); obtain ⟨rfl, rfl, rfl⟩ := hv
      exact ⟨[], _, MT, .nil, fun _ _ _ => trivial, rfl, rfl, rfl⟩
  have hok := newok' h
  refine vcLoop_of (fun g : Nat × Int × List Sp × Option Addr × Nat × List Int × Option Addr × Nat => xs.length - g.1) (fun g => [(0, .int .i64 most), (5, .pointer (some ⟨b, 0, none⟩)), (7, .int .i64 g.2.1), (8, .slice g.2.2.2.2.2.2.1 g.2.2.2.2.2.1.length g.2.2.2.2.2.2.2), (38, .slice Ax xs.length cx), (39, .int .i64 xs.length), (40, .int .i64 g.1)])
    (fun g => .sl g.2.2.2.2.2.2.1 g.2.2.2.2.2.2.2 3 1 (intL g.2.2.2.2.2.1) :: setO b g.2.2.2.1 g.2.2.2.2.1 most g.2.1 g.2.2.1) (fun _ => MT) (fun g => g.1 ≤ xs.length ∧ g.2.2.2.2.2.1.length ≤ 2 * g.1 ∧ SetOk most g.2.1 g.2.2.1 ∧ AllHad g.2.1 g.2.2.1 g.2.2.2.2.2.1)
    (0, 0, [], none, 0, [], none, 0) ⟨by simp, by simp, hok, fun _ h => by cases h⟩ ⟨rfl, rfl, rfl, rfl, rfl, rfl, rfl, trivial⟩ ⟨_, .cons .none_ (.cons .here (.cons .here .nil))⟩ (fun _ _ => trivial) ?_
  rintro ⟨k, floor, l, A, c, had, Ah, ch⟩ ⟨hk, hhk, hs, hi⟩
  simp only at hk hhk hs hi
  refine vcIf_dec (fun hlt => ?_) (fun hge => ?_)
  · have hk' : k < xs.length := (by first | omega | (simp only; omega))
    refine vcIdx_nats (s := 3) k rfl (Ent.gnG hG) hk' (by rw [flatMap_len opV_len]; exact Nat.le_refl _) (by omega) (fun a ha => ?_)
    subst ha
    refine vcLoadN_1 (opV xs[k]) (Ent.gnG hG) rfl (flatMap_chunk opV_len xs k hk') ?_
    intro b9
    refine ⟨rfl, vcStoreN_row _ .here rfl (opV_one xs[k]) ?_⟩
    generalize hop : xs[k] = op
    obtain ⟨kind, f, t⟩ := op
    refine vcCut_of (fun g : Int × List Sp × Option Addr × Nat × List Int × Option Addr × Nat => [(0, .int .i64 most), (5, .pointer (some ⟨b, 0, none⟩)), (7, .int .i64 floor), (8, .slice g.2.2.2.2.2.1 g.2.2.2.2.1.length g.2.2.2.2.2.2), (38, .slice (some a) xs.length cx), (39, .int .i64 xs.length), (40, .int .i64 k)])
      (fun g => .sl g.2.2.2.2.2.1 g.2.2.2.2.2.2 3 1 (intL g.2.2.2.2.1) :: setO b g.2.2.1 g.2.2.2.1 most g.1 g.2.1) (fun _ => MT) (fun g => floor ≤ g.1 ∧ g.2.2.2.2.1.length ≤ 2 * (k + 1) ∧ SetOk most g.1 g.2.1 ∧ AllHad g.1 g.2.1 g.2.2.2.2.1) ?_ ?_
    · refine vcLoad1_row (Ent.gnO .here (fun w hw => Ob.row_at hw)) rfl ?_
      refine vcIf_dec (fun h1 => ?_) (fun h1 => ?_)
      · refine vcLoad1_row (Ent.gnO .here (fun w hw => Ob.row_at hw)) rfl ?_
        refine vcCall_of (.cons (.there (.there .here)) (.cons (.there (.there .here)) .nil)) (raise_spec b A c most floor l f _ hs) (fun v own' N' hv => ?_)
        obtain ⟨rfl, e, fl, l', A', c', rfl, rfl, h⟩ := hv
        have hh := h.had hs
        exact ⟨(fl, l', A', c', had, Ah, ch), ⟨hh.1, by simp only; omega, h.ok hs, fun n hn => ⟨(hi n hn).1, hh.2 n (hi n hn).2⟩⟩, ⟨rfl, rfl, rfl, rfl, rfl, rfl, rfl, trivial⟩, ⟨_, .cons (.there (.there (.there .here))) (.cons .here (.cons .here .nil))⟩, fun _ _ => trivial⟩
      · refine vcLoad1_row (Ent.gnO .here (fun w hw => Ob.row_at hw)) rfl ?_
        refine vcLoad1_row (Ent.gnO .here (fun w hw => Ob.row_at hw)) rfl ?_
        refine vcCall_of (.cons (.there (.there .here)) (.cons (.there (.there .here)) .nil)) (add_spec b A c most floor l f t _ hs) (fun v own' N' hv => ?_)
        obtain ⟨rfl, fr, e, fl, l', A', c', rfl, rfl, h⟩ := hv
        have hh := h.had hs
        have hi' : AllHad fl l' had := fun n hn => ⟨(hi n hn).1, hh.2.1 n (hi n hn).2⟩
        refine vcIf_dec (fun he => ?_) (fun he => ?_)
        · have h3 := hh.2.2 he
          refine vcLoad1_row (Ent.gnO (.there (.there .here)) (fun w hw => Ob.row_at hw)) rfl ?_
          refine vcLoad1_row (Ent.gnO (.there (.there .here)) (fun w hw => Ob.row_at hw)) rfl ?_
          intro b10
          refine vcApp_of (intL had) _ (intL [f, t]) (.there (.there (.there (.there .here)))) (by simp) rfl (by omega) (intL_one _) (Ent.gnO .here (fun w hw => Ob.sl_at hw)) (by first | omega | (simp only; omega)) (by first | omega | (simp only; omega)) (fun A2 c2 hc2 => ?_)
          rw [show intL had ++ intL [f, t] = intL (had ++ [f, t]) from (List.map_append ..).symm]
          have hlen : (had ++ [f, t]).length = had.length + 2 := by simp
          exact ⟨(fl, l', A', c', had ++ [f, t], A2, c2), ⟨hh.1, by simp only [hlen]; omega, h.ok hs, fun n hn => by
            rcases List.mem_append.1 hn with hn | hn
            · exact hi' n hn
            · simp only [List.mem_cons, List.not_mem_nil, or_false] at hn
              rcases hn with rfl | rfl
              · exact ⟨h3.1, h3.2.2.2 _ (Int.le_refl _) h3.2.1⟩
              · exact ⟨by omega, h3.2.2.2 _ h3.2.1 (Int.le_refl _)⟩⟩, ⟨rfl, rfl, rfl, by simp only [hlen]; rfl, rfl, rfl, rfl, trivial⟩, ⟨_, .cons .here (.cons (.there .here) (.cons (.there .here) .nil))⟩, fun _ _ => trivial⟩
        · exact ⟨(fl, l', A', c', had, Ah, ch), ⟨hh.1, by simp only; omega, h.ok hs, hi'⟩, ⟨rfl, rfl, rfl, rfl, rfl, rfl, rfl, trivial⟩, ⟨_, .cons (.there (.there (.there .here))) (.cons .here (.cons .here .nil))⟩, fun _ _ => trivial⟩
    clear hi hs hhk
    rintro ⟨fl, l', A', c', had', Ah', ch'⟩ ⟨hfl, hhk, hs, hi⟩
    simp only at hfl hhk hs hi ⊢
    have hf1 := hs.hf
    have hll := hs.hl
    have hmm := hs.hm
    refine vcCall_of (.cons (.there .here) (.cons (.there .here) .nil)) (list_spec b A' c' most fl l' _ hs) (fun v own' N' hv => ?_)
    obtain ⟨rfl, A2, c2, rfl, rfl⟩ := hv
    refine vcCall_of (.cons (.there .here) .nil) (floor_spec b A' l'.length c' most fl _) (fun v own' N' hv => ?_)
    obtain ⟨rfl, rfl, rfl⟩ := hv
    refine vcIf_no (by omega) ?_
    refine vcIf_no (by omega) ?_
    refine vcCall_of (.cons .here .nil) (floor_spec b A' l'.length c' most fl _) (fun v own' N' hv => ?_)
    obtain ⟨rfl, rfl, rfl⟩ := hv
    refine vcLoop_of (fun g : Nat => l'.length - g) (fun g => [(0, .int .i64 most), (5, .pointer (some ⟨b, 0, none⟩)), (7, .int .i64 fl), (8, .slice Ah' had'.length ch'), (13, .slice A2 l'.length c2), (38, .slice (some a) xs.length cx), (39, .int .i64 xs.length), (40, .int .i64 k), (83, .slice A2 l'.length c2), (84, .int .i64 l'.length), (85, .int .i64 g)])
      (fun _ => .sl Ah' ch' 3 1 (intL had') :: .sl A2 c2 29 2 (spL l') :: setO b A' c' most fl l') (fun _ => MT) (fun g => g ≤ l'.length) 0 (by simp) ⟨rfl, rfl, rfl, rfl, rfl, rfl, rfl, rfl, rfl, rfl, rfl, trivial⟩ ⟨_, .cons (by first | ((repeat (first | exact .here | apply Take.there)); done) | exact .none_) (.cons (by first | ((repeat (first | exact .here | apply Take.there)); done) | exact .none_) (.cons (by first | ((repeat (first | exact .here | apply Take.there)); done) | exact .none_) (.cons (by first | ((repeat (first | exact .here | apply Take.there)); done) | exact .none_) .nil)))⟩ (fun _ _ => trivial) ?_
    · intro j hj
      refine vcIf_dec (fun hlt => ?_) (fun hge => ?_)
      · have hj' : j < l'.length := by omega
        refine vcIdx_nats (s := 2) j rfl (Ent.gnO (.there .here) (fun w hw => Ob.sl_at hw)) hj' (by rw [spL_len]; omega) (by omega) (fun a2 ha2 => ?_)
        subst ha2
        refine vcLoadN_1 (spV l'[j]) (Ent.gnO (.there .here) (fun w hw => Ob.sl_at hw)) rfl (spL_chunk hj') ?_
        intro b12
        refine ⟨rfl, vcStoreN_row _ .here rfl (spV_one l'[j]) ?_⟩
        have hr := hs.hr.1 l'[j] (List.getElem_mem hj')
        have hp : ∀ (i : Nat) (hi : i < l'.length), i < j → l'[i].2 + 1 < l'[j].1 := fun i hi h => hs.hr.get h hj'
        generalize hop2 : l'[j] = op at *
        obtain ⟨f2, t2⟩ := op
        simp only at hr hp
        refine vcDraw_quiet (by kernel_rfl) ?_
        refine vcLoad1_row (Ent.gnO .here (fun w hw => Ob.row_at hw)) rfl ?_
        refine vcLoad1_row (Ent.gnO .here (fun w hw => Ob.row_at hw)) rfl ?_
        refine vcIf_no (by first | omega | (simp only; omega)) ?_
        refine vcLoad1_row (Ent.gnO .here (fun w hw => Ob.row_at hw)) rfl ?_
        refine vcIf_no (by first | omega | (simp only; omega)) ?_
        refine vcLoad1_row (Ent.gnO .here (fun w hw => Ob.row_at hw)) rfl ?_
        refine vcIf_no (by first | omega | (simp only; omega)) ?_
        refine vcIf_dec (fun h0 => ?_) (fun h0 => ?_)
        · refine vcLoad1_row (Ent.gnO .here (fun w hw => Ob.row_at hw)) rfl ?_
          refine vcFit_i64 (by first | omega | (simp only; omega)) ?_
          refine vcFit_i64 (by first | omega | (simp only; omega)) ?_
          refine vcIdx_some (j - 1) (by omega) (by omega) ?_
          refine vcLoad1_2 (Ent.gnO (.there (.there .here)) (fun w hw => Ob.sl_at hw)) (spL_get1 (by omega)) ?_
          refine vcIf_no (by have := hp (j - 1) (by omega) (by omega); simp only; omega) ?_
          refine vcFit_i64 (by omega) ?_
          exact ⟨j + 1, by omega, by omega, ⟨rfl, rfl, rfl, rfl, rfl, rfl, rfl, rfl, rfl, rfl, rfl, trivial⟩, ⟨_, .cons (by first | ((repeat (first | exact .here | apply Take.there)); done) | exact .none_) (.cons (by first | ((repeat (first | exact .here | apply Take.there)); done) | exact .none_) (.cons (by first | ((repeat (first | exact .here | apply Take.there)); done) | exact .none_) (.cons (by first | ((repeat (first | exact .here | apply Take.there)); done) | exact .none_) .nil)))⟩, fun _ _ => trivial⟩
        · refine vcFit_i64 (by omega) ?_
          exact ⟨j + 1, by omega, by omega, ⟨rfl, rfl, rfl, rfl, rfl, rfl, rfl, rfl, rfl, rfl, rfl, trivial⟩, ⟨_, .cons (by first | ((repeat (first | exact .here | apply Take.there)); done) | exact .none_) (.cons (by first | ((repeat (first | exact .here | apply Take.there)); done) | exact .none_) (.cons (by first | ((repeat (first | exact .here | apply Take.there)); done) | exact .none_) (.cons (by first | ((repeat (first | exact .here | apply Take.there)); done) | exact .none_) .nil)))⟩, fun _ _ => trivial⟩
      refine vcLoop_of (fun g : Nat => had'.length - g) (fun g => [(0, .int .i64 most), (5, .pointer (some ⟨b, 0, none⟩)), (7, .int .i64 fl), (8, .slice Ah' had'.length ch'), (38, .slice (some a) xs.length cx), (39, .int .i64 xs.length), (40, .int .i64 k), (123, .slice Ah' had'.length ch'), (124, .int .i64 had'.length), (125, .int .i64 g)])
        (fun _ => .sl Ah' ch' 3 1 (intL had') :: setO b A' c' most fl l') (fun _ => MT) (fun g => g ≤ had'.length) 0 (by simp) ⟨rfl, rfl, rfl, rfl, rfl, rfl, rfl, rfl, rfl, rfl, trivial⟩ ⟨_, .cons (by first | ((repeat (first | exact .here | apply Take.there)); done) | exact .none_) (.cons (by first | ((repeat (first | exact .here | apply Take.there)); done) | exact .none_) (.cons (by first | ((repeat (first | exact .here | apply Take.there)); done) | exact .none_) .nil))⟩ (fun _ _ => trivial) ?_
      intro q hq
      refine vcIf_dec (fun hlt => ?_) (fun hge => ?_)
      · have hq' : q < had'.length := by omega
        refine vcIdx_nat q rfl (Ent.gnO .here (fun w hw => Ob.sl_at hw)) hq' (by simp) (fun a2 ha2 => ?_)
        subst ha2
        refine vcLoad1_row (v := .int .i64 had'[q]) (Ent.gnO .here (fun w hw => Ob.sl_at hw)) (by simp [hq']) ?_
        refine vcCall_of (.cons (.there .here) (.cons (.there .here) .nil)) (has_spec b A' c' most fl l' had'[q] _ hs) (fun v own' N' hv => ?_)
        obtain ⟨rfl, rfl, rfl⟩ := hv
        have hn := hi had'[q] (List.getElem_mem hq')
        have e1 : (if had'[q] < fl then decide (0 ≤ had'[q]) else l'.any fun x => decide (x.1 ≤ had'[q] ∧ had'[q] ≤ x.2)) = true := by
          by_cases h : had'[q] < fl
          · rw [if_pos h]; exact decide_eq_true hn.1
          · rw [if_neg h]; exact hn.2.resolve_left h
        rw [e1]
        refine vcFit_i64 (by omega) ?_
        exact ⟨q + 1, by omega, by omega, ⟨rfl, rfl, rfl, rfl, rfl, rfl, rfl, rfl, rfl, rfl, trivial⟩, ⟨_, .cons (by first | ((repeat (first | exact .here | apply Take.there)); done) | exact .none_) (.cons (by first | ((repeat (first | exact .here | apply Take.there)); done) | exact .none_) (.cons (by first | ((repeat (first | exact .here | apply Take.there)); done) | exact .none_) .nil))⟩, fun _ _ => trivial⟩
      refine vcFit_i64 (by first | omega | (simp only; omega)) ?_
      exact ⟨(k + 1, fl, l', A', c', had', Ah', ch'), ⟨(by first | omega | (simp only; omega)), (by first | omega | (simp only; omega)), hs, hi⟩, (by first | omega | (simp only; omega)), ⟨rfl, rfl, rfl, rfl, rfl, rfl, rfl, trivial⟩, ⟨_, .cons (by first | ((repeat (first | exact .here | apply Take.there)); done) | exact .none_) (.cons (by first | ((repeat (first | exact .here | apply Take.there)); done) | exact .none_) (.cons (by first | ((repeat (first | exact .here | apply Take.there)); done) | exact .none_) .nil))⟩, fun _ _ => trivial⟩
  · refine vcCall_of .nil (awake_spec _) (fun v own' N' hv => ?_); obtain ⟨rfl, rfl, rfl⟩ := hv
    exact ⟨[], _, MT, .nil, fun _ _ _ => trivial, rfl, rfl, rfl⟩
end Go.Proofs.Ytodnohpogpkngaa
