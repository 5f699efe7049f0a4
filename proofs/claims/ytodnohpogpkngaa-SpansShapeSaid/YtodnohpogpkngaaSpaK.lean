/- SpansPlays. -/
import Derived.Test.YtodnohpogpkngaaSpaJ
namespace Go.Proofs.Ytodnohpogpkngaa
open Go.Proofs
set_option maxRecDepth 10000

abbrev OpI := Int × Int × Int
def opV (x : OpI) : List Value := [.int .i64 x.1, .int .i64 x.2.1, .int .i64 x.2.2]
theorem opV_len (x : OpI) : (opV x).length = 3 := rfl
theorem opV_one (x : OpI) : ∀ v ∈ opV x, oneCell v = true := by
  intro v hv
  simp only [opV, List.mem_cons, List.not_mem_nil, or_false] at hv
  rcases hv with rfl | rfl | rfl <;> rfl
theorem Known.row {A A' : Option Addr} {l l' : List Sp} {N : Mp} (h : Known A l A' l' N) {M : Mp} (h1 : Ent M (RowAt A (spL l))) (h2 : Ent M N) : Ent M (RowAt A' (spL l')) := by
  rcases h with ⟨rfl, rfl⟩ | h
  · exact h1
  · exact fun w hw => h w (h2 w hw)

theorem plays_spec (most : Int) (Ax : Option Addr) (cx : Nat) (xs : List OpI) (G : Mp) (hG : Ent G (RowAt Ax (xs.flatMap opV))) (hx : xs.length ≤ 1000000000000000) :
    Spec Try.prog 7 #[.int .i64 most, .slice Ax xs.length cx] [] G (Ret (.bool true)) := by
  refine Spec.introC (args := [_, _]) wide Try.func7 rfl Try.call7 (by rfl) (by rfl) [22] (fun w0 hw0 => ?_)
  refine vcCall_of .nil (new_spec most _) (fun v own' N' hv => ?_)
  obtain ⟨rfl, ⟨h, rfl, rfl⟩ | ⟨h, b, rfl, rfl⟩⟩ := hv
  · refine vcCall_of .nil (good_spec most _) (fun v own' N' hv => ?_); obtain ⟨rfl, rfl, rfl⟩ := hv
    refine vcIf_nyes (by omega) ?_
    refine vcCall_of .nil (awake_spec _) (fun v own' N' hv => ?_); obtain ⟨rfl, rfl, rfl⟩ := hv
    exact ⟨[], _, MT, .nil, fun _ _ _ => trivial, rfl, rfl, rfl⟩
  refine vcCall_of .nil (good_spec most _) (fun v own' N' hv => ?_)
  obtain ⟨rfl, rfl, rfl⟩ := hv
  refine vcIf_nno h ?_
  have hok := newok' h
  intro d
  refine vcLoop_of (fun g : Nat × Int × List Sp × Option Addr × Nat × Option Addr × Nat => xs.length - g.1) (fun g => [(5, .pointer (some ⟨b, 0, none⟩)), (7, .pointer (some ⟨d, 0, none⟩)), (36, .slice Ax xs.length cx), (37, .int .i64 xs.length), (38, .int .i64 g.1)])
    (fun g => refR d g.2.2.2.2.2.1 g.2.2.1.length g.2.2.2.2.2.2 most g.2.1 :: setO b g.2.2.2.1 g.2.2.2.2.1 most g.2.1 g.2.2.1) (fun g => RowAt g.2.2.2.2.2.1 (spL g.2.2.1)) (fun g => g.1 ≤ xs.length ∧ SetOk most g.2.1 g.2.2.1)
    (0, 0, [], none, 0, none, 0) ⟨by simp, hok⟩ ⟨rfl, rfl, rfl, rfl, rfl, trivial⟩ ⟨_, .cons .here (.cons .here (.cons .here .nil))⟩ (fun _ _ => RowAt.nil) ?_
  rintro ⟨k, floor, l, A, c, A2, c2⟩ ⟨hk, hs⟩
  simp only at hk hs
  refine vcIf_dec (fun hlt => ?_) (fun hge => ?_)
  · have hk' : k < xs.length := by omega
    have hl := hs.hl
    have hm := hs.hm
    refine vcIdx_nats (s := 3) k rfl (Ent.gnG hG) hk' (by rw [flatMap_len opV_len]; exact Nat.le_refl _) (by omega) (fun a ha => ?_)
    subst ha
    refine vcLoadN_1 (opV xs[k]) (Ent.gnG hG) rfl (flatMap_chunk opV_len xs k hk') ?_
    intro b9
    refine ⟨rfl, vcStoreN_row _ .here rfl (opV_one xs[k]) ?_⟩
    generalize hop : xs[k] = op
    obtain ⟨kind, f, t⟩ := op
    refine vcCut_of (fun g : Int × List Sp × Option Addr × Nat × Option Addr × Nat => [(5, .pointer (some ⟨b, 0, none⟩)), (7, .pointer (some ⟨d, 0, none⟩)), (36, .slice (some a) xs.length cx), (37, .int .i64 xs.length), (38, .int .i64 k)])
      (fun g => refR d g.2.2.2.2.1 g.2.1.length g.2.2.2.2.2 most g.1 :: setO b g.2.2.1 g.2.2.2.1 most g.1 g.2.1) (fun g => RowAt g.2.2.2.2.1 (spL g.2.1)) (fun g => SetOk most g.1 g.2.1) ?_ ?_
    · refine vcLoad1_row (Ent.gnO .here (fun w hw => Ob.row_at hw)) rfl ?_
      refine vcIf_dec (fun h1 => ?_) (fun h1 => ?_)
      · refine vcLoad1_row (Ent.gnO .here (fun w hw => Ob.row_at hw)) rfl ?_
        refine vcLoad1_row (Ent.gnO .here (fun w hw => Ob.row_at hw)) rfl ?_
        refine vcCall_of (.cons (.there (.there .here)) (.cons (.there (.there .here)) .nil)) (add_spec b A c most floor l f t _ hs) (fun v own' N' hv => ?_)
        obtain ⟨rfl, fr, e, fl, l', A', c', rfl, rfl, h⟩ := hv
        refine vcLoad1_row (Ent.gnO (.there (.there .here)) (fun w hw => Ob.row_at hw)) rfl ?_
        refine vcLoad1_row (Ent.gnO (.there (.there .here)) (fun w hw => Ob.row_at hw)) rfl ?_
        refine vcCall_of (.cons (.there (.there (.there .here))) .nil) (radd_spec d A2 c2 most floor l f t _ (Ent.gnN (Ent.andL Ent.refl)) hs) (fun v own' N' hv => ?_)
        obtain ⟨fr2, e2, fl2, l2, A3, c3, rfl, rfl, hkn, h2⟩ := hv
        obtain ⟨rfl, rfl, rfl, rfl⟩ := add_alike h h2 hs
        refine vcIf_nno rfl ?_
        refine vcIf_nno rfl ?_
        exact ⟨(fl, l', A', c', A3, c3), h.ok hs, ⟨rfl, rfl, rfl, rfl, rfl, trivial⟩, ⟨_, .cons .here (.cons .here (.cons .here .nil))⟩, hkn.row (Ent.andL (Ent.andL Ent.refl)) (Ent.andR Ent.refl)⟩
      refine vcIf_dec (fun h2 => ?_) (fun h2 => ?_)
      · refine vcDraw_mix [0,1,2,4,5,6,3,7,8] (RowAt (some ⟨b9, 0, none⟩) (opV (kind, f, t))) (by kernel_rfl) (Ent.gnO .here (fun w hw => Ob.row_at hw)) ?_
        refine vcLoad1_row Ent.refl rfl ?_
        refine vcLoad1_row Ent.refl rfl ?_
        refine vcCall_of (.cons (.there (.there .here)) (.cons (.there (.there .here)) .nil)) (raise_spec b A c most floor l f _ hs) (fun v own' N' hv => ?_)
        obtain ⟨rfl, e, fl, l', A', c', rfl, rfl, h⟩ := hv
        refine vcMix_same (Ent.gnO (.there (.there .here)) (fun w hw => Ob.row_at hw)) ?_
        refine vcCall_of (.cons (.there (.there (.there .here))) .nil) (rraise_spec d A2 c2 most floor l f _ (Ent.gnN (Ent.andL Ent.refl)) (by omega)) (fun v own' N' hv => ?_)
        obtain ⟨e2, fl2, l2, A3, c3, rfl, rfl, hkn, h2⟩ := hv
        obtain ⟨rfl, rfl, rfl⟩ := raise_alike h h2 hs
        refine vcMix_same (Ent.gnO (.there (.there (.there .here))) (fun w hw => Ob.row_at hw)) ?_
        refine vcIf_nno rfl ?_
        exact ⟨(fl, l', A', c', A3, c3), h.ok hs, ⟨rfl, rfl, rfl, rfl, rfl, trivial⟩, ⟨_, .cons .here (.cons .here (.cons .here .nil))⟩, hkn.row (Ent.andL (Ent.andL Ent.refl)) (Ent.andR Ent.refl)⟩
      refine vcIf_dec (fun h3 => ?_) (fun h3 => ?_)
      · refine vcDraw_mix [0,1,2,4,5,6,3,7,8] (RowAt (some ⟨b9, 0, none⟩) (opV (kind, f, t))) (by kernel_rfl) (Ent.gnO .here (fun w hw => Ob.row_at hw)) ?_
        refine vcLoad1_row Ent.refl rfl ?_
        refine vcLoad1_row Ent.refl rfl ?_
        refine vcCall_of (.cons (.there (.there .here)) (.cons (.there (.there .here)) .nil)) (has_spec b A c most floor l f _ hs) (fun v own' N' hv => ?_)
        obtain ⟨rfl, rfl, rfl⟩ := hv
        refine vcMix_same (Ent.gnO (.there (.there .here)) (fun w hw => Ob.row_at hw)) ?_
        refine vcCall_of (.cons (.there (.there (.there .here))) .nil) (rhas_spec d A2 c2 most floor l f _ (Ent.gnN (Ent.andL Ent.refl)) (by omega)) (fun v own' N' hv => ?_)
        obtain ⟨rfl, rfl, rfl⟩ := hv
        refine vcMix_same (Ent.gnO (.there (.there (.there .here))) (fun w hw => Ob.row_at hw)) ?_
        rw [has_alike f hs]
        refine vcIf_is false (by simp) ?_
        exact ⟨(floor, l, A, c, A2, c2), hs, ⟨rfl, rfl, rfl, rfl, rfl, trivial⟩, ⟨_, .cons .here (.cons .here (.cons .here .nil))⟩, Ent.andL (Ent.andL Ent.refl)⟩
      · exact ⟨(floor, l, A, c, A2, c2), hs, ⟨rfl, rfl, rfl, rfl, rfl, trivial⟩, ⟨_, .cons (.there .here) (.cons (.there .here) (.cons (.there .here) .nil))⟩, Ent.refl⟩
    rintro ⟨fl, l', A', c', A3, c3⟩ hs'
    simp only at hs' ⊢
    refine vcCall_of (.cons .here (.cons .here (.cons .here .nil))) (rest_spec b d A' A3 c' c3 most fl l' _ hs' (Ent.gnN Ent.refl)) (fun v own' N' hv => ?_)
    obtain ⟨rfl, rfl, rfl⟩ := hv
    refine vcFit_i64 (by omega) ?_
    exact ⟨(k + 1, fl, l', A', c', A3, c3), ⟨by simp only; omega, hs'⟩, by simp only; omega, ⟨rfl, rfl, rfl, rfl, rfl, trivial⟩, ⟨_, .cons .here (.cons .here (.cons .here .nil))⟩, Ent.andL Ent.refl⟩
  · refine vcCall_of .nil (awake_spec _) (fun v own' N' hv => ?_); obtain ⟨rfl, rfl, rfl⟩ := hv
    exact ⟨[], _, MT, .nil, fun _ _ _ => trivial, rfl, rfl, rfl⟩
end Go.Proofs.Ytodnohpogpkngaa
