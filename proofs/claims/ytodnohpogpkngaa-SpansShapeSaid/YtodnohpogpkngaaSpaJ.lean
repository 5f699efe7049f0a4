/- The laws' helpers; SpansNews, SpansPlays. -/
import Derived.Test.YtodnohpogpkngaaSpaI
namespace Go.Proofs.Ytodnohpogpkngaa
open Go.Proofs
set_option maxRecDepth 10000

theorem newok : SetOk 1 0 [] := ⟨by omega, by omega, by simp, by simp, by simp⟩
theorem newok' {most : Int} (h : 1 ≤ most ∧ most ≤ 64) : SetOk most 0 [] := ⟨h, by omega, by simp; omega, by simp, by simp⟩
theorem awake_spec (G : Mp) : Spec Try.prog 11 #[] [] G (Ret (.bool true)) := by
  refine Spec.intro (args := []) wide Try.func11 rfl Try.call11 (by rfl) (by rfl) (fun w0 hw0 => ?_)
  refine vcCall_of .nil (new_spec 1 _) (fun v own' N' hv => ?_)
  obtain ⟨rfl, ⟨h, _⟩ | ⟨_, b, rfl, rfl⟩⟩ := hv
  · omega
  refine vcCall_of (.cons .here (.cons .here .nil)) (add_spec b none 0 1 0 [] 3 5 _ newok) (fun v own' N' hv => ?_)
  obtain ⟨rfl, fr, e, fl, l', A', c', rfl, rfl, h⟩ := hv
  have hok := h.ok newok
  obtain ⟨rfl, rfl, rfl, rfl⟩ : fr = 3 ∧ e = 0 ∧ fl = 0 ∧ l' = [(3, 5)] := by
    rcases h with ⟨h, _⟩ | ⟨⟨_, h⟩, _⟩ | ⟨_, rfl, a, m, b, hab, _, _, _, rfl, h⟩
    · omega
    · omega
    · obtain ⟨rfl, hmb⟩ := List.append_eq_nil_iff.1 hab.symm
      obtain ⟨rfl, rfl⟩ := List.append_eq_nil_iff.1 hmb
      rcases h with ⟨_, rfl, rfl⟩ | ⟨h, _⟩
      · exact ⟨rfl, rfl, rfl, rfl⟩
      · simp at h
  refine vcCall_of (.cons .here (.cons .here .nil)) (has_spec b A' c' 1 0 [(3, 5)] 4 _ hok) (fun v own' N' hv => ?_)
  obtain ⟨rfl, rfl, rfl⟩ := hv
  refine vcCall_of (.cons .here (.cons .here .nil)) (has_spec b A' c' 1 0 [(3, 5)] 6 _ hok) (fun v own' N' hv => ?_)
  obtain ⟨rfl, rfl, rfl⟩ := hv
  refine vcCall_of (.cons .here (.cons .here .nil)) (list_spec b A' c' 1 0 [(3, 5)] _ hok) (fun v own' N' hv => ?_)
  obtain ⟨rfl, A2, c2, rfl, rfl⟩ := hv
  exact ⟨[], _, MT, .nil, fun _ _ _ => trivial, rfl, rfl, rfl⟩

theorem rest_spec (b d : Nat) (A A2 : Option Addr) (c c2 : Nat) (most floor : Int) (l : List Sp) (G : Mp) (hs : SetOk most floor l) (hG : Ent G (RowAt A2 (spL l))) :
    Spec Try.prog 21 #[.pointer (some ⟨b, 0, none⟩), .pointer (some ⟨d, 0, none⟩)] (refR d A2 l.length c2 most floor :: setO b A c most floor l) G (fun v own N => v = .bool true ∧ own = refR d A2 l.length c2 most floor :: setO b A c most floor l ∧ N = MT) := by
  have hm := hs.hm
  have hl := hs.hl
  refine Spec.intro (args := [_, _]) wide Try.func21 rfl Try.call21 (by rfl) (by rfl) (fun w0 hw0 => ?_)
  refine vcCall_of (.cons (.there .here) (.cons (.there .here) .nil)) (list_spec b A c most floor l _ hs) (fun v own' N' hv => ?_)
  obtain ⟨rfl, A', c', rfl, rfl⟩ := hv
  refine vcDraw_mix [0,1,2,3,4,5,6,7,8,10,11,12,13,9,14,15] (RowAt (some ⟨d, 0, none⟩) [.int .i64 most, .int .i64 floor, .slice A2 l.length c2]) (by kernel_rfl) (fun w hw => Ob.row_at (hw.2 _ (.tail _ (.tail _ (.tail _ (.head _)))))) ?_
  refine vcLoad1_row Ent.refl rfl ?_
  refine vcCall_of .nil (samespans_spec A' A2 c' c2 l l _ (Ent.gnO .here (fun w hw => Ob.sl_at hw)) (Ent.gnG hG) (by omega)) (fun v own' N' hv => ?_)
  obtain ⟨rfl, rfl, rfl⟩ := hv
  rw [decide_eq_true rfl]
  refine vcMix_same (Ent.gnO (.there (.there (.there .here))) (fun w hw => Ob.row_at hw)) ?_
  refine vcLoad1_row Ent.refl rfl ?_
  refine vcCall_of (.cons (.there .here) .nil) (floor_spec b A l.length c most floor _) (fun v own' N' hv => ?_)
  obtain ⟨rfl, rfl, rfl⟩ := hv
  refine vcMix_same (Ent.gnO (.there (.there (.there .here))) (fun w hw => Ob.row_at hw)) ?_
  refine vcIf_nno rfl ?_
  refine vcLoop_of (fun g : Nat × List Value => l.length - g.1) (fun g => [(0, .pointer (some ⟨b, 0, none⟩)), (1, .pointer (some ⟨d, 0, none⟩)), (5, .slice A' l.length c'), (28, .int .i64 l.length), (29, .int .i64 g.1)])
    (fun g => [refR d A2 l.length c2 most floor, setR b A l.length c most floor, .sl A c 29 2 (spL l), .sl A' c' 29 2 g.2]) (fun _ => MT) (fun g => g.1 ≤ l.length ∧ g.2.length = l.length * 2) (0, spL l) ⟨by simp, by rw [spL_len]⟩ ⟨rfl, rfl, rfl, rfl, rfl, trivial⟩
    ⟨_, .cons (.there (.there (.there .here))) (.cons .here (.cons (.there .here) (.cons .here .nil)))⟩ (fun _ _ => trivial) ?_
  rintro ⟨k, xs⟩ ⟨hk, hxs⟩
  simp only at hk hxs
  refine vcIf_dec (fun hlt => ?_) (fun hge => ?_)
  · have hk' : k < l.length := by omega
    refine vcIdx_nats (s := 2) k rfl (Ent.gnO (.there (.there (.there .here))) (fun w hw => Ob.sl_at hw)) hk' (by simp only; omega) (by omega) (fun a ha => ?_)
    subst ha
    refine vcStore1_2 _ _ (.there (.there (.there .here))) rfl (by show k * 2 + 0 + 0 < xs.length; omega) rfl ?_
    refine vcFit_i64 (by omega) ?_
    exact ⟨(k + 1, xs.set (k * 2 + 0 + 0) (.int .i64 (-1))), ⟨by simp only; omega, by simp only [List.length_set]; exact hxs⟩, by simp only; omega, ⟨rfl, rfl, rfl, rfl, rfl, trivial⟩, ⟨_, .cons (.there .here) (.cons (.there .here) (.cons (.there .here) (.cons .here .nil)))⟩, fun _ _ => trivial⟩
  refine vcCall_of (.cons (.there .here) (.cons (.there .here) .nil)) (high_spec b A c most floor l _ hs) (fun v own' N' hv => ?_)
  obtain ⟨rfl, rfl, rfl⟩ := hv
  refine vcLoad1_row (Ent.gnO (.there (.there .here)) (fun w hw => Ob.row_at hw)) rfl ?_
  have fin : ∀ (bb : Bool) (N0 : Mp), bb = true → ∃ (own' rest : List Ob) (N' : Mp), Pick own' (setO b A c most floor l ++ [refR d A2 l.length c2 most floor, .sl A' c' 29 2 xs]) rest ∧ (∀ w, N0 w → Objs rest w → N' w) ∧ (Value.bool bb = .bool true ∧ own' = refR d A2 l.length c2 most floor :: setO b A c most floor l ∧ N' = MT) :=
    fun bb N0 h => ⟨refR d A2 l.length c2 most floor :: setO b A c most floor l, _, MT, .cons (.there (.there .here)) (.cons .here (.cons .here .nil)), fun _ _ _ => trivial, by rw [h], rfl, rfl⟩
  refine vcIf_dec (fun h0 => ?_) (fun h0 => ?_)
  · obtain rfl : l = [] := List.eq_nil_of_length_eq_zero (by omega)
    exact fin _ _ rfl
  · have hn : l.length - 1 < l.length := by omega
    refine vcDraw_quiet (by kernel_rfl) ?_
    have hne : l ≠ [] := by intro h; subst h; simp at h0
    have e2 : l.isEmpty = false := by simpa using hne
    rw [e2]
    refine vcLoad1_row (Ent.gnO (.there (.there .here)) (fun w hw => Ob.row_at hw)) rfl ?_
    refine vcLoad1_row (Ent.gnO (.there (.there .here)) (fun w hw => Ob.row_at hw)) rfl ?_
    refine vcFit_i64 (by omega) ?_
    refine vcIdx_nats (s := 2) (l.length - 1) (by omega) (Ent.gnG hG) hn (by rw [spL_len]; exact Nat.le_refl _) (by omega) (fun ad ha => ?_)
    subst ha
    refine vcLoad1_2 (Ent.gnG hG) (spL_get1 hn) ?_
    have e1 : highN l = l[l.length - 1].2 := by
      unfold highN
      rw [List.getLast?_eq_getElem?, List.getElem?_eq_getElem hn]
    exact fin _ _ (decide_eq_true e1)

theorem spansNews_spec (most : Int) (G : Mp) : Spec Try.prog 5 #[.int .i64 most] [] G (Ret (.bool true)) := by
  refine Spec.intro (args := [_]) wide Try.func5 rfl Try.call5 (by rfl) (by rfl) (fun w0 hw0 => ?_)
  refine vcCall_of .nil (new_spec most _) (fun v own' N' hv => ?_)
  obtain ⟨rfl, ⟨h, rfl, rfl⟩ | ⟨h, b, rfl, rfl⟩⟩ := hv
  · refine vcCall_of .nil (good_spec most _) (fun v own' N' hv => ?_); obtain ⟨rfl, rfl, rfl⟩ := hv
    refine vcIf_nyes (by omega) ?_
    refine vcCall_of .nil (awake_spec _) (fun v own' N' hv => ?_); obtain ⟨rfl, rfl, rfl⟩ := hv
    exact ⟨[], _, MT, .nil, fun _ _ _ => trivial, rfl, rfl, rfl⟩
  refine vcCall_of .nil (good_spec most _) (fun v own' N' hv => ?_)
  obtain ⟨rfl, rfl, rfl⟩ := hv
  refine vcIf_nno h ?_
  have hok := newok' h
  refine vcCall_of (.cons .here (.cons .here .nil)) (high_spec b none 0 most 0 [] _ hok) (fun v own' N' hv => ?_)
  obtain ⟨rfl, rfl, rfl⟩ := hv
  refine vcCall_of (.cons .here (.cons .here .nil)) (list_spec b none 0 most 0 [] _ hok) (fun v own' N' hv => ?_)
  obtain ⟨rfl, A2, c2, rfl, rfl⟩ := hv
  refine vcCall_of (.cons (.there .here) .nil) (floor_spec b none 0 0 most 0 _) (fun v own' N' hv => ?_)
  obtain ⟨rfl, rfl, rfl⟩ := hv
  refine vcCall_of (.cons .here (.cons (.there .here) .nil)) (has_spec b none 0 most 0 [] 0 _ hok) (fun v own' N' hv => ?_)
  obtain ⟨rfl, rfl, rfl⟩ := hv
  refine vcCall_of .nil (awake_spec _) (fun v own' N' hv => ?_); obtain ⟨rfl, rfl, rfl⟩ := hv
  exact ⟨[], _, MT, .nil, fun _ _ _ => trivial, rfl, rfl, rfl⟩
end Go.Proofs.Ytodnohpogpkngaa
