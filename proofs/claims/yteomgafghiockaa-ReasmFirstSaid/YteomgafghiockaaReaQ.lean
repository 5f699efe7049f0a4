/- ReasmFirst. -/
import Derived.Test.YteomgafghiockaaReaN
namespace Go.Proofs.Yteomgafghiockaa
open Go.Proofs
set_option maxRecDepth 10000

structure Ext (r r' : Rb) : Prop where
  ok : RbOk r'
  off : r'.off = r.off
  at_ : ∀ k v, mAt r.ps k = some v → mAt r'.ps k = some v
theorem Ext.put {r r' : Rb} (h : Ext r r') (at_ : Int) (d : List UInt8) (fin : Bool) : Ext r (putP r' at_ d fin).2.2 :=
  ⟨putP_ok at_ d fin h.ok, (putP_off at_ d fin).1.trans h.off, fun k v hv => by rw [putP_mAt at_ d fin h.ok, h.at_ k v hv]; rfl⟩
theorem Ext.read {r r' : Rb} (h : Ext r r') (hr : RbOk r) : (readR r' (readyP r.off r.ps - r.off)).1 = (readR r (readyP r.off r.ps - r.off)).1 ∧ (readR r (readyP r.off r.ps - r.off)).2.2.off = readyP r.off r.ps ∧ ((readR r (readyP r.off r.ps - r.off)).1.length : Int) = readyP r.off r.ps - r.off := by
  obtain ⟨a1, a2, a3⟩ := readP_at (n := readyP r.off r.ps - r.off) hr.chain
  obtain ⟨b1, b2, b3⟩ := readP_at (n := readyP r.off r.ps - r.off) h.ok.chain
  obtain ⟨c1, c2⟩ := readP_chain (n := readyP r.off r.ps - r.off) hr.chain
  obtain ⟨d1, d2⟩ := readyP_at hr.chain
  obtain ⟨e1, e2⟩ := readyP_at h.ok.chain
  have hb := readyP_bound hr.chain
  have hb2 := readyP_bound h.ok.chain
  have hoff := h.off
  have hge : readyP r.off r.ps ≤ readyP r'.off r'.ps := by
    rcases Int.lt_or_le (readyP r'.off r'.ps) (readyP r.off r.ps) with hlt | hge
    · obtain ⟨v, hv⟩ := d1 (readyP r'.off r'.ps) (by omega) hlt
      rw [h.at_ _ _ hv] at e2
      cases e2
    · exact hge
  have hl1 : ((readP (readyP r.off r.ps - r.off) r.off r.ps).1.length : Int) = readyP r.off r.ps - r.off := by omega
  have hl2 : ((readP (readyP r.off r.ps - r.off) r'.off r'.ps).1.length : Int) = readyP r.off r.ps - r.off := by omega
  refine ⟨?_, by show (readP _ r.off r.ps).2.1 = _; omega, hl1⟩
  show (readP (readyP r.off r.ps - r.off) r'.off r'.ps).1 = (readP (readyP r.off r.ps - r.off) r.off r.ps).1
  apply List.ext_getElem?
  intro i
  rcases Nat.lt_or_ge i (readP (readyP r.off r.ps - r.off) r.off r.ps).1.length with hi | hi
  · rw [b2 i (by omega), a2 i hi]
    obtain ⟨v, hv⟩ := d1 (r.off + i) (by omega) (by omega)
    rw [hv, hoff]
    exact h.at_ _ _ hv
  · rw [List.getElem?_eq_none hi, List.getElem?_eq_none (by omega)]
structure FsS where
  mb : RbM
  mc : RbM
  r : Rb
theorem rfirst_spec (room : Int) (Ax : Option Addr) (cx : Nat) (xs : List ROp) (Ay : Option Addr) (cy : Nat) (ys : List ROp) (G : Mp) (hG : Ent G (RowAt Ax (xs.flatMap ropV))) (hG2 : Ent G (RowAt Ay (ys.flatMap ropV)))
    (hD : ∀ o ∈ xs, Ent G (RowAt o.2.2.1.1 (Bs o.2.2.1.2.2)) ∧ o.2.2.1.2.2.length ≤ 281474976710656) (hD2 : ∀ o ∈ ys, Ent G (RowAt o.2.2.1.1 (Bs o.2.2.1.2.2)) ∧ o.2.2.1.2.2.length ≤ 281474976710656) (hx : xs.length ≤ 1000000000000000) (hy : ys.length ≤ 1000000000000000) :
    Spec Try.prog 4 #[.int .i64 room, .slice Ax xs.length cx, .slice Ay ys.length cy] [] G (Ret (.bool true)) := by
  refine Spec.intro (args := [_, _, _]) wide Try.func4 rfl Try.call4 (by rfl) (by rfl) (fun w0 hw0 => ?_)
  have fin : ∀ (own : List Ob) (N : Mp), ∃ (own' rest : List Ob) (N' : Mp), Pick own' own rest ∧ (∀ w, N w → Objs rest w → N' w) ∧ (Value.bool true = .bool true ∧ own' = [] ∧ N' = MT) := fun own N => ⟨[], own, MT, .nil, fun _ _ _ => trivial, rfl, rfl, rfl⟩
  refine vcCall_of .nil (rnew_spec room _) (fun v own' N' hv => ?_)
  obtain ⟨rfl, ⟨h, rfl, rfl⟩ | ⟨h, b, rfl, rfl⟩⟩ := hv
  · refine vcCall_of .nil (rnew_spec room _) (fun v own' N' hv => ?_)
    obtain ⟨rfl, ⟨_, rfl, rfl⟩ | ⟨h2, b, rfl, rfl⟩⟩ := hv
    · refine vcIf_dec (fun h1 => ?_) (fun h1 => ?_)
      · refine vcCall_of .nil (awake_spec _) (fun v own' N' hv => ?_); obtain ⟨rfl, rfl, rfl⟩ := hv
        exact fin _ _
      refine vcIf_yes (by omega) ?_
      refine vcCall_of .nil (awake_spec _) (fun v own' N' hv => ?_); obtain ⟨rfl, rfl, rfl⟩ := hv
      exact fin _ _
    · exact absurd h2 h
  refine vcCall_of .nil (rnew_spec room _) (fun v own' N' hv => ?_)
  obtain ⟨rfl, ⟨h2, rfl, rfl⟩ | ⟨_, c, rfl, rfl⟩⟩ := hv
  · exact absurd h h2
  refine vcLoop_of (fun g : Nat × FsS => xs.length - g.1) (fun g => [(2, .slice Ay ys.length cy), (7, .pointer (some ⟨b, 0, none⟩)), (9, .pointer (some ⟨c, 0, none⟩)), (56, .slice Ax xs.length cx), (57, .int .i64 xs.length), (58, .int .i64 g.1)]) (fun g => rbO b g.2.mb g.2.r ++ rbO c g.2.mc g.2.r) (fun g => MpAnd (PcsAt g.2.mb.l) (PcsAt g.2.mc.l))
    (fun g => g.1 ≤ xs.length ∧ RbAt g.2.mb g.2.r ∧ RbAt g.2.mc g.2.r ∧ RbOk g.2.r ∧ g.2.r.off = 0) (0, ⟨⟨none, 0, []⟩, ⟨none, 0, []⟩, newR room⟩) ⟨Nat.zero_le _, rfl, rfl, newR_ok h, rfl⟩ ⟨rfl, rfl, rfl, rfl, rfl, rfl, trivial⟩
    ⟨_, .cons (.there (.there .here)) (.cons (.there (.there .here)) (.cons .here (.cons .here .nil)))⟩ (fun _ _ => ⟨(fun p hp => by cases hp), (fun p hp => by cases hp)⟩) ?_
  rintro ⟨j, ⟨mb, mc, r⟩⟩ ⟨hj, hmb, hmc, hok, hof⟩
  simp only at hj hmb hmc hok hof
  refine vcIf_dec (fun hlt => ?_) (fun hge => ?_)
  · have hj' : j < xs.length := by have h9 : (j : Int) < (xs.length : Int) := hlt; omega
    refine vcIdx_nats (s := 4) j rfl (Ent.gnG hG) hj' (by rw [flatMap_len ropV_len]; exact Nat.le_refl _) (by omega) (fun ad had => ?_)
    subst had
    refine vcLoadN_1 (ropV xs[j]) (Ent.gnG hG) rfl (flatMap_chunk ropV_len xs j hj') ?_
    intro b9
    refine ⟨rfl, vcStoreN_row _ .here rfl (ropV_one xs[j]) ?_⟩
    obtain ⟨hD1, hDl⟩ := hD _ (List.getElem_mem hj')
    generalize xs[j] = op at hD1 hDl ⊢
    obtain ⟨kd, at_, ⟨Ao, co, d⟩, fi⟩ := op
    simp only at hD1 hDl
    refine vcLoad1_row (j := 0) (Ent.gnO .here (fun w hw => Ob.row_at hw)) rfl ?_
    refine vcIf_ndec (fun h1 => ?_) (fun h1 => ?_)
    · refine vcFit_i64 (by first | omega | (simp only; omega)) ?_
      exact ⟨(j + 1, ⟨mb, mc, r⟩), ⟨by simp only; omega, hmb, hmc, hok, hof⟩, by simp only; omega, ⟨rfl, rfl, rfl, rfl, rfl, rfl, trivial⟩, ⟨_, .cons (.there .here) (.cons (.there .here) (.cons (.there .here) (.cons (.there .here) .nil)))⟩, Ent.refl⟩
    refine vcLoadN_0 (xs := ropV (kd, at_, (Ao, co, d), fi)) (Ent.gnO .here (fun w hw => Ob.row_at hw)) rfl ?_
    refine vcCall_of (.cons (.there .here) (.cons (.there .here) .nil)) (lput_spec b mb r kd at_ Ao co d fi _ hok hmb (Ent.gnG hD1) hDl) (fun v own' N' hv => ?_)
    obtain ⟨mb', rfl, rfl, hmb', hEb⟩ := hv
    have hoff := putP_off (r := r) at_ d fi
    refine vcIf_dec (fun he => ?_) (fun he => ?_)
    · refine vcLoadN_0 (xs := ropV (kd, at_, (Ao, co, d), fi)) (Ent.gnO (.there (.there .here)) (fun w hw => Ob.row_at hw)) rfl ?_
      refine vcCall_of (.cons (.there (.there (.there .here))) (.cons (.there (.there (.there .here))) .nil)) (lput_spec c mc r kd at_ Ao co d fi _ hok hmc (Ent.gnG hD1) hDl) (fun v own' N2 hv => ?_)
      obtain ⟨mc', rfl, rfl, hmc', hEc⟩ := hv
      refine vcFit_i64 (by first | omega | (simp only; omega)) ?_
      exact ⟨(j + 1, ⟨mb', mc', (putP r at_ d fi).2.2⟩), ⟨by simp only; omega, hmb', hmc', putP_ok at_ d fi hok, hoff.1.trans hof⟩, by simp only; omega, ⟨rfl, rfl, rfl, rfl, rfl, rfl, trivial⟩, ⟨_, .cons (.there (.there .here)) (.cons (.there (.there .here)) (.cons .here (.cons .here .nil)))⟩, fun w hw => ⟨hEb w ⟨hw.1.1.1, hw.1.2⟩, hEc w ⟨hw.1.1.2, hw.2⟩⟩⟩
    · have he' : (putP r at_ d fi).2.1 ≠ 0 := he
      obtain ⟨p1, p2⟩ := putP_none he'
      refine vcIf_nno p1 ?_
      refine vcFit_i64 (by first | omega | (simp only; omega)) ?_
      rw [p2] at hmb' ⊢
      exact ⟨(j + 1, ⟨mb', mc, r⟩), ⟨by simp only; omega, hmb', hmc, hok, hof⟩, by simp only; omega, ⟨rfl, rfl, rfl, rfl, rfl, rfl, trivial⟩, ⟨_, .cons .here (.cons .here (.cons (.there .here) (.cons (.there .here) .nil)))⟩, fun w hw => ⟨hEb w ⟨hw.1.1, hw.2⟩, hw.1.2⟩⟩
  clear hj hge
  refine vcCall_of (.cons .here (.cons .here .nil)) (ready_spec b mb r _ hok hmb) (fun v own' N' hv => ?_)
  obtain ⟨rfl, rfl, rfl⟩ := hv
  have hrb := readyP_bound hok.chain
  have hhi := hok.hi
  have hroom := hok.room
  refine vcLoop_of (fun g : Nat × RbM × Rb => ys.length - g.1) (fun g => [(7, .pointer (some ⟨b, 0, none⟩)), (9, .pointer (some ⟨c, 0, none⟩)), (16, .int .i64 (readyP r.off r.ps - r.off)), (82, .slice Ay ys.length cy), (83, .int .i64 ys.length), (84, .int .i64 g.1)]) (fun g => rbO b g.2.1 g.2.2 ++ rbO c mc r) (fun g => MpAnd (PcsAt g.2.1.l) (PcsAt mc.l))
    (fun g => g.1 ≤ ys.length ∧ RbAt g.2.1 g.2.2 ∧ Ext r g.2.2) (0, mb, r) ⟨Nat.zero_le _, hmb, ⟨hok, rfl, fun _ _ h => h⟩⟩ ⟨rfl, rfl, rfl, rfl, rfl, rfl, trivial⟩
    ⟨_, .cons .here (.cons .here (.cons .here (.cons .here .nil)))⟩ (Ent.andL Ent.refl) ?_
  rintro ⟨i, mb2, r2⟩ ⟨hi, hmb2, hext⟩
  simp only at hi hmb2 hext
  refine vcIf_dec (fun hlt => ?_) (fun hge => ?_)
  · have hi' : i < ys.length := by have h9 : (i : Int) < (ys.length : Int) := hlt; omega
    refine vcIdx_nats (s := 4) i rfl (Ent.gnG hG2) hi' (by rw [flatMap_len ropV_len]; exact Nat.le_refl _) (by omega) (fun ad had => ?_)
    subst had
    refine vcLoadN_1 (ropV ys[i]) (Ent.gnG hG2) rfl (flatMap_chunk ropV_len ys i hi') ?_
    intro b9
    refine ⟨rfl, vcStoreN_row _ .here rfl (ropV_one ys[i]) ?_⟩
    obtain ⟨hD1, hDl⟩ := hD2 _ (List.getElem_mem hi')
    generalize ys[i] = op at hD1 hDl ⊢
    obtain ⟨kd, at_, ⟨Ao, co, d⟩, fi⟩ := op
    simp only at hD1 hDl
    refine vcLoad1_row (j := 0) (Ent.gnO .here (fun w hw => Ob.row_at hw)) rfl ?_
    refine vcIf_dec (fun h1 => ?_) (fun h1 => ?_)
    · refine vcLoad1_row (j := 1) (Ent.gnO .here (fun w hw => Ob.row_at hw)) rfl ?_
      refine vcLoad1_row (j := 2) (Ent.gnO .here (fun w hw => Ob.row_at hw)) rfl ?_
      refine vcCall_of (.cons (.there .here) (.cons (.there .here) .nil)) (lput_spec b mb2 r2 1 at_ Ao co d false _ hext.ok hmb2 (Ent.gnG hD1) hDl) (fun v own' N' hv => ?_)
      obtain ⟨mb3, rfl, rfl, hmb3, hE3⟩ := hv
      refine vcFit_i64 (by first | omega | (simp only; omega)) ?_
      exact ⟨(i + 1, mb3, (putP r2 at_ d false).2.2), ⟨by simp only; omega, hmb3, hext.put at_ d false⟩, by simp only; omega, ⟨rfl, rfl, rfl, rfl, rfl, rfl, trivial⟩, ⟨_, .cons .here (.cons .here (.cons (.there .here) (.cons (.there .here) .nil)))⟩, fun w hw => ⟨hE3 w ⟨hw.1.1, hw.2⟩, hw.1.2⟩⟩
    · refine vcFit_i64 (by first | omega | (simp only; omega)) ?_
      exact ⟨(i + 1, mb2, r2), ⟨by simp only; omega, hmb2, hext⟩, by simp only; omega, ⟨rfl, rfl, rfl, rfl, rfl, rfl, trivial⟩, ⟨_, .cons (.there .here) (.cons (.there .here) (.cons (.there .here) (.cons (.there .here) .nil)))⟩, Ent.refl⟩
  · obtain ⟨p1, p2, p3⟩ := hext.read hok
    refine vcCall_of (.cons .here (.cons .here .nil)) (read_spec b mb2 r2 (readyP r.off r.ps - r.off) _ hext.ok hmb2 (Ent.gnN (Ent.andL Ent.refl)) (by omega)) (fun v own' N' hv => ?_)
    obtain ⟨A, cA, mb3, rfl, rfl, rfl, hmb3, _⟩ := hv
    refine vcCall_of (.cons (.there (.there (.there .here))) (.cons (.there (.there (.there .here))) .nil)) (read_spec c mc r (readyP r.off r.ps - r.off) _ hok hmc (Ent.gnN (Ent.andL (Ent.andR Ent.refl))) (by omega)) (fun v own' N' hv => ?_)
    obtain ⟨A2, cA2, mc3, rfl, rfl, rfl, hmc3, _⟩ := hv
    rw [p1]
    refine vcCall_of (.cons (.there .here) (.cons (.there .here) .nil)) (offset_spec c mc3 (readR r (readyP r.off r.ps - r.off)).2.2 _) (fun v own' N' hv => ?_)
    obtain ⟨rfl, rfl, rfl⟩ := hv
    refine vcIf_yes (by rw [p2, hof]; omega) ?_
    generalize (readR r (readyP r.off r.ps - r.off)).1 = X at p3 ⊢
    refine vcCall_of .nil (same_spec A A2 cA cA2 X X _ (Ent.gnO (.there (.there (.there .here))) (fun w hw => Ob.sl_at hw)) (Ent.gnO (.there (.there .here)) (fun w hw => Ob.sl_at hw)) (by omega)) (fun v own' N4 hv => ?_)
    obtain ⟨rfl, rfl, rfl⟩ := hv
    rw [decide_eq_true (rfl : X = X)]
    refine vcCall_of .nil (awake_spec _) (fun v own' N' hv => ?_); obtain ⟨rfl, rfl, rfl⟩ := hv
    exact fin _ _
end Go.Proofs.Yteomgafghiockaa
