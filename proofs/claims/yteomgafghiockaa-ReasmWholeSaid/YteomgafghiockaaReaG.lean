/- ReasmNews; the law's fixed answer. -/
import Derived.Test.YteomgafghiockaaReaF
import Derived.Test.YteomgafghiockaaReaD
namespace Go.Proofs.Yteomgafghiockaa
open Go.Proofs
set_option maxRecDepth 10000

theorem good_spec (n : Int) (G : Mp) : Spec Try.prog 18 #[.int .i64 n] [] G (Ret (.bool (decide (1 ≤ n ∧ n ≤ 65536)))) := by
  refine Spec.intro (args := [_]) wide Try.func18 rfl Try.call18 (by rfl) (by rfl) (fun w0 hw0 => ?_)
  refine vcIf_dec (fun h1 => ?_) (fun h1 => ?_)
  · refine ⟨[], _, MT, .nil, fun _ _ _ => trivial, ?_, rfl, rfl⟩
    exact congrArg Value.bool (decide_eq_decide.2 ⟨fun h => ⟨h1, h⟩, fun h => h.2⟩)
  · refine ⟨[], _, MT, .nil, fun _ _ _ => trivial, ?_, rfl, rfl⟩
    exact congrArg Value.bool (decide_eq_false fun h => h1 h.1).symm
def awR : Rb := (putP (newR 8) 0 [97, 98] true).2.2
theorem awake_spec (G : Mp) : Spec Try.prog 14 #[] [] G (Ret (.bool true)) := by
  refine Spec.intro (args := []) wide Try.func14 rfl Try.call14 (by rfl) (by rfl) (fun w0 hw0 => ?_)
  refine vcCall_of .nil (rnew_spec 8 _) (fun v own' N' hv => ?_)
  obtain ⟨rfl, ⟨h, _⟩ | ⟨_, b, rfl, rfl⟩⟩ := hv
  · exact absurd ⟨by decide, by decide⟩ h
  intro bs
  refine .intro ⟨bs, 0, none⟩ 2 1 (Bs [97, 98]) _ rfl .here ?_
  have hok0 := newR_ok (room := 8) ⟨by decide, by decide⟩
  refine vcCall_of (.cons (.there .here) (.cons (.there .here) .nil)) (put_spec b ⟨none, 0, []⟩ (newR 8) 0 (some ⟨bs, 0, none⟩) 2 [97, 98] true _ hok0 rfl (Ent.gnO .here (fun w hw => Ob.sl_at hw)) (Nat.le_refl _) (by decide)) (fun v own' N' hv => ?_)
  obtain ⟨m1, rfl, rfl, hm1, hN1⟩ := hv
  have e1 : putP (newR 8) 0 [97, 98] true = (2, 0, ⟨8, 0, 2, 2, [(0, [97, 98])]⟩) := by rfl
  have hok1 : RbOk ⟨8, 0, 2, 2, [(0, [97, 98])]⟩ := by
    have := putP_ok 0 [97, 98] true hok0
    rwa [e1] at this
  rw [e1] at hm1 ⊢
  have hE : ∀ (own : List Ob) (N : Mp), Ent N N' → Ent (GN G own N) (PcsAt m1.l) := fun own N hN w hw => hN1 w ⟨(fun p hp => by cases hp), hN w hw.1.2⟩
  refine vcCall_of (.cons .here (.cons .here .nil)) (read_spec b m1 ⟨8, 0, 2, 2, [(0, [97, 98])]⟩ 9 _ hok1 hm1 (hE _ _ (Ent.andR Ent.refl)) (by decide)) (fun v own' N2 hv => ?_)
  obtain ⟨A, c, m2, rfl, rfl, rfl, hm2, _⟩ := hv
  have e2 : readR ⟨8, 0, 2, 2, [(0, [97, 98])]⟩ 9 = ([97, 98], true, ⟨8, 2, 2, 2, []⟩) := by rfl
  rw [e2]
  refine vcIdx_nat 1 rfl (Ent.gnO .here (fun w hw => Ob.sl_at hw)) (by decide) (by decide) (fun a ha => ?_)
  refine vcLoad1_row (v := B 98) (Ent.gnO .here (fun w hw => ha ▸ Ob.sl_at hw)) rfl ?_
  exact ⟨[], _, MT, .nil, fun _ _ _ => trivial, rfl, rfl, rfl⟩

theorem rnews_spec (room : Int) (G : Mp) : Spec Try.prog 6 #[.int .i64 room] [] G (Ret (.bool true)) := by
  refine Spec.intro (args := [_]) wide Try.func6 rfl Try.call6 (by rfl) (by rfl) (fun w0 hw0 => ?_)
  refine vcCall_of .nil (rnew_spec room _) (fun v own' N' hv => ?_)
  obtain ⟨rfl, ⟨h, rfl, rfl⟩ | ⟨h, b, rfl, rfl⟩⟩ := hv
  · refine vcCall_of .nil (good_spec room _) (fun v own' N' hv => ?_); obtain ⟨rfl, rfl, rfl⟩ := hv
    refine vcIf_nyes h ?_
    refine vcCall_of .nil (awake_spec _) (fun v own' N' hv => ?_); obtain ⟨rfl, rfl, rfl⟩ := hv
    exact ⟨[], _, MT, .nil, fun _ _ _ => trivial, rfl, rfl, rfl⟩
  refine vcCall_of .nil (good_spec room _) (fun v own' N' hv => ?_)
  obtain ⟨rfl, rfl, rfl⟩ := hv
  refine vcIf_nno h ?_
  have hok := newR_ok h
  refine vcCall_of (.cons .here (.cons .here .nil)) (read_spec b ⟨none, 0, []⟩ (newR room) 5 _ hok rfl (fun w _ p hp => by cases hp) (by decide)) (fun v own' N2 hv => ?_)
  obtain ⟨A, c, m2, rfl, rfl, rfl, hm2, _⟩ := hv
  have e2 : readR (newR room) 5 = ([], false, newR room) := by
    unfold readR newR
    simp [readP]
  rw [e2] at hm2 ⊢
  refine vcCall_of (.cons (.there .here) (.cons (.there .here) .nil)) (final_spec b m2 (newR room) _) (fun v own' N' hv => ?_)
  obtain ⟨rfl, rfl, rfl⟩ := hv
  refine vcCall_of (.cons .here (.cons .here .nil)) (ready_spec b m2 (newR room) _ hok hm2) (fun v own' N' hv => ?_)
  obtain ⟨rfl, rfl, rfl⟩ := hv
  refine vcCall_of (.cons .here (.cons .here .nil)) (offset_spec b m2 (newR room) _) (fun v own' N' hv => ?_)
  obtain ⟨rfl, rfl, rfl⟩ := hv
  refine vcCall_of (.cons .here (.cons .here .nil)) (high_spec b m2 (newR room) _) (fun v own' N' hv => ?_)
  obtain ⟨rfl, rfl, rfl⟩ := hv
  refine vcCall_of (.cons .here (.cons .here .nil)) (held_spec b m2 (newR room) _ hok hm2) (fun v own' N' hv => ?_)
  obtain ⟨rfl, rfl, rfl⟩ := hv
  refine vcCall_of .nil (awake_spec _) (fun v own' N' hv => ?_); obtain ⟨rfl, rfl, rfl⟩ := hv
  exact ⟨[], _, MT, .nil, fun _ _ _ => trivial, rfl, rfl, rfl⟩
end Go.Proofs.Yteomgafghiockaa
