/- SpansFresh. -/
import Derived.Test.YtodnohpogpkngaaSpaM
namespace Go.Proofs.Ytodnohpogpkngaa
open Go.Proofs
set_option maxRecDepth 10000

structure FreInv (floor : Int) (l : List Sp) (S : Int) : Prop where
  nn : 0 ≤ S
  le : S ≤ floor + szL l
  same : floor = 0 → S = szL l
theorem FreInv.add {floor : Int} {l : List Sp} {S : Int} (h : FreInv floor l S) (hs : SetOk 64 floor l) {f t fr e fl : Int} {l' : List Sp} (ha : AddTo 64 floor l f t fr e fl l') : FreInv fl l' (S + fr) := by
  have h1 := ha.size hs
  have := h.nn
  have := h.le
  refine ⟨by omega, by omega, fun h0 => ?_⟩
  obtain ⟨h2, h3⟩ := h1.2.2 h0
  rw [h3, h.same h2]
theorem szL_take {l : List Sp} {k : Nat} (hk : k < l.length) : szL (l.take (k + 1)) = szL (l.take k) + szS l[k] := by
  rw [List.take_succ_eq_append_getElem hk, szL_append]; simp [szL]

theorem fresh_spec (Ax : Option Addr) (cx : Nat) (xs : List Sp) (G : Mp) (hG : Ent G (RowAt Ax (spL xs))) (hx : xs.length ≤ 8796093022207) :
    Spec Try.prog 4 #[.slice Ax xs.length cx] [] G (Ret (.bool true)) := by
  refine Spec.intro (args := [_]) wide Try.func4 rfl Try.call4 (by rfl) (by rfl) (fun w0 hw0 => ?_)
  refine vcCall_of .nil (new_spec 64 _) (fun v own' N' hv => ?_)
  obtain ⟨rfl, ⟨h, _⟩ | ⟨h, b, rfl, rfl⟩⟩ := hv
  · omega
  refine vcLoop_of (fun g : Nat × Int × List Sp × Option Addr × Nat × Int => xs.length - g.1) (fun g => [(3, .pointer (some ⟨b, 0, none⟩)), (5, .int .i64 (9223372036854775807 - g.2.2.2.2.2)), (25, .slice Ax xs.length cx), (26, .int .i64 xs.length), (27, .int .i64 g.1)])
    (fun g => setO b g.2.2.2.1 g.2.2.2.2.1 64 g.2.1 g.2.2.1) (fun _ => MT) (fun g => g.1 ≤ xs.length ∧ SetOk 64 g.2.1 g.2.2.1 ∧ FreInv g.2.1 g.2.2.1 g.2.2.2.2.2)
    (0, 0, [], none, 0, 0) ⟨by simp, newok' h, ⟨Int.le_refl _, Int.le_refl _, fun _ => rfl⟩⟩ ⟨rfl, rfl, rfl, rfl, rfl, trivial⟩ ⟨_, .cons .here (.cons .here .nil)⟩ (fun _ _ => trivial) ?_
  rintro ⟨k, floor, l, A, c, S⟩ ⟨hk, hs, hi⟩
  simp only at hk hs hi
  have hnn := hi.nn
  have hle := hi.le
  have hsz := szL_le hs.hr hs.hf.2
  refine vcIf_dec (fun hlt => ?_) (fun hge => ?_)
  · have hk' : k < xs.length := by omega
    refine vcIdx_nats (s := 2) k rfl (Ent.gnG hG) hk' (by rw [spL_len]; omega) (by omega) (fun a ha => ?_)
    subst ha
    refine vcLoadN_1 (spV xs[k]) (Ent.gnG hG) rfl (spL_chunk hk') ?_
    intro b9
    refine ⟨rfl, vcStoreN_row _ .here rfl (spV_one xs[k]) ?_⟩
    generalize hop : xs[k] = op
    obtain ⟨f, t⟩ := op
    refine vcLoad1_row (Ent.gnO .here (fun w hw => Ob.row_at hw)) rfl ?_
    refine vcLoad1_row (Ent.gnO .here (fun w hw => Ob.row_at hw)) rfl ?_
    refine vcCall_of (.cons (.there .here) (.cons (.there .here) .nil)) (add_spec b A c 64 floor l f t _ hs) (fun v own' N' hv => ?_)
    obtain ⟨rfl, fr, e, fl, l1, A1, c1, rfl, rfl, h1⟩ := hv
    have hs1 := h1.ok hs
    have hi1 := hi.add hs h1
    have z1 := h1.size hs
    have hsz1 := szL_le hs1.hr hs1.hf.2
    have hle1 := hi1.le
    have hf1 := hs1.hf
    have hn1 := szL_nn hs1.hr
    refine vcLoad1_row (Ent.gnO (.there (.there .here)) (fun w hw => Ob.row_at hw)) rfl ?_
    refine vcLoad1_row (Ent.gnO (.there (.there .here)) (fun w hw => Ob.row_at hw)) rfl ?_
    refine vcCall_of (.cons .here (.cons .here .nil)) (add_spec b A1 c1 64 fl l1 f t _ hs1) (fun v own' N' hv => ?_)
    obtain ⟨rfl, fr2, e2, fl2, l2, A2, c2, rfl, rfl, h2⟩ := hv
    have hs2 := h2.ok hs1
    have hi2 := hi1.add hs1 h2
    obtain ⟨rfl, rfl⟩ := h1.again hs h2
    refine vcIf_nno rfl ?_
    refine vcIf_no (by first | omega | (simp only; omega)) ?_
    refine vcIf_no (by first | omega | (simp only; omega)) ?_
    refine vcFit_i64 (by first | omega | (simp only; omega)) ?_
    refine vcFit_i64 (by first | omega | (simp only; omega)) ?_
    exact ⟨(k + 1, fl2, l2, A2, c2, S + fr + 0), ⟨by simp only; omega, hs2, hi2⟩, by simp only; omega, ⟨rfl, congrArg (fun z => some (Value.int .i64 z)) (by first | omega | (simp only; omega)), rfl, rfl, rfl, trivial⟩, ⟨_, .cons .here (.cons .here .nil)⟩, fun _ _ => trivial⟩
  refine vcCall_of (.cons .here .nil) (floor_spec b A l.length c 64 floor _) (fun v own' N' hv => ?_)
  obtain ⟨rfl, rfl, rfl⟩ := hv
  have hf0 := hs.hf
  refine vcIf_dec (fun hp => ?_) (fun hp => ?_)
  · refine vcCall_of .nil (awake_spec _) (fun v own' N' hv => ?_); obtain ⟨rfl, rfl, rfl⟩ := hv
    exact ⟨[], _, MT, .nil, fun _ _ _ => trivial, rfl, rfl, rfl⟩
  obtain rfl : floor = 0 := by omega
  have hS := hi.same rfl
  refine vcCall_of (.cons .here (.cons .here .nil)) (list_spec b A c 64 0 l _ hs) (fun v own' N' hv => ?_)
  obtain ⟨rfl, A', c', rfl, rfl⟩ := hv
  have hll := hs.hl
  refine vcLoop_of (fun g : Nat => l.length - g) (fun g => [(5, .int .i64 (9223372036854775807 - S + szL (l.take g))), (74, .slice A' l.length c'), (75, .int .i64 l.length), (76, .int .i64 g)])
    (fun _ => [.sl A' c' 29 2 (spL l)]) (fun _ => MT) (fun g => g ≤ l.length) 0 (by simp) ⟨congrArg (fun z => some (Value.int .i64 z)) (by simp [szL]), rfl, rfl, rfl, trivial⟩ ⟨_, .cons .here .nil⟩ (fun _ _ => trivial) ?_
  intro j hj
  refine vcIf_dec (fun hlt => ?_) (fun hge => ?_)
  · have hj' : j < l.length := by omega
    refine vcIdx_nats (s := 2) j rfl (Ent.gnO .here (fun w hw => Ob.sl_at hw)) hj' (by rw [spL_len]; omega) (by omega) (fun a ha => ?_)
    subst ha
    refine vcLoadN_1 (spV l[j]) (Ent.gnO .here (fun w hw => Ob.sl_at hw)) rfl (spL_chunk hj') ?_
    intro b9
    refine ⟨rfl, vcStoreN_row _ .here rfl (spV_one l[j]) ?_⟩
    have hr := hs.hr.1 l[j] (List.getElem_mem hj')
    have e1 := szL_take hj'
    have e2 : szL l = szL (l.take j) + szL (l.drop j) := by rw [← szL_append, List.take_append_drop]
    have e3 : szL l = szL (l.take (j + 1)) + szL (l.drop (j + 1)) := by rw [← szL_append, List.take_append_drop]
    have p1 := szL_nn (hs.hr.sub (List.take_sublist j l))
    have p2 := szL_nn (hs.hr.sub (List.drop_sublist (j + 1) l))
    unfold szS at e1
    generalize l[j] = op at *
    obtain ⟨f, t⟩ := op
    simp only at hr e1
    refine vcLoad1_row (Ent.gnO .here (fun w hw => Ob.row_at hw)) rfl ?_
    refine vcLoad1_row (Ent.gnO .here (fun w hw => Ob.row_at hw)) rfl ?_
    refine vcFit_i64 (by first | omega | (simp only; omega)) ?_
    refine vcIf_no (by first | omega | (simp only; omega)) ?_
    refine vcIf_no (by first | omega | (simp only; omega)) ?_
    refine vcFit_i64 (by first | omega | (simp only; omega)) ?_
    refine vcFit_i64 (by first | omega | (simp only; omega)) ?_
    refine vcIf_no (by first | omega | (simp only; omega)) ?_
    refine vcFit_i64 (by first | omega | (simp only; omega)) ?_
    refine vcFit_i64 (by first | omega | (simp only; omega)) ?_
    refine vcFit_i64 (by omega) ?_
    exact ⟨j + 1, by omega, by omega, ⟨congrArg (fun z => some (Value.int .i64 z)) (by first | omega | (simp only; omega)), rfl, rfl, rfl, trivial⟩, ⟨_, .cons (.there .here) .nil⟩, fun _ _ => trivial⟩
  obtain rfl : j = l.length := by omega
  refine vcIf_yes (by rw [List.take_length]; omega) ?_
  refine vcCall_of .nil (awake_spec _) (fun v own' N' hv => ?_); obtain ⟨rfl, rfl, rfl⟩ := hv
  exact ⟨[], _, MT, .nil, fun _ _ _ => trivial, rfl, rfl, rfl⟩
end Go.Proofs.Ytodnohpogpkngaa
