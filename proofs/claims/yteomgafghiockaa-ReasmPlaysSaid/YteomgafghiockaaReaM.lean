/- ReasmPlays, walked. -/
import Derived.Test.YteomgafghiockaaReaL
namespace Go.Proofs.Yteomgafghiockaa
open Go.Proofs
set_option maxRecDepth 10000

structure PyS where
  m : RbM
  r : Rb
  m2 : RfM
  f : Rf
theorem rplays_spec (room : Int) (Ax : Option Addr) (cx : Nat) (xs : List ROp) (G : Mp) (hG : Ent G (RowAt Ax (xs.flatMap ropV))) (hD : ∀ o ∈ xs, Ent G (RowAt o.2.2.1.1 (Bs o.2.2.1.2.2)) ∧ o.2.2.1.2.2.length ≤ 281474976710656 ∧ o.2.1 ≤ 9223372036854775807) (hx : xs.length ≤ 1000000000000000) :
    Spec Try.prog 7 #[.int .i64 room, .slice Ax xs.length cx] [] G (Ret (.bool true)) := by
  refine Spec.introC (args := [_, _]) wide Try.func7 rfl Try.call7 (by rfl) (by rfl) [26] (fun w0 hw0 => ?_)
  have fin : ∀ (own : List Ob) (N : Mp), ∃ (own' rest : List Ob) (N' : Mp), Pick own' own rest ∧ (∀ w, N w → Objs rest w → N' w) ∧ (Value.bool true = .bool true ∧ own' = [] ∧ N' = MT) := fun own N => ⟨[], own, MT, .nil, fun _ _ _ => trivial, rfl, rfl, rfl⟩
  refine vcCall_of .nil (rnew_spec room _) (fun v own' N' hv => ?_)
  obtain ⟨rfl, ⟨h, rfl, rfl⟩ | ⟨h, b, rfl, rfl⟩⟩ := hv
  · refine vcCall_of .nil (good_spec room _) (fun v own' N' hv => ?_); obtain ⟨rfl, rfl, rfl⟩ := hv
    refine vcIf_nyes h ?_
    refine vcCall_of .nil (awake_spec _) (fun v own' N' hv => ?_); obtain ⟨rfl, rfl, rfl⟩ := hv
    exact fin _ _
  refine vcCall_of .nil (good_spec room _) (fun v own' N' hv => ?_)
  obtain ⟨rfl, rfl, rfl⟩ := hv
  refine vcIf_nno h ?_
  intro dd
  refine vcLoop_of (fun g : Nat × PyS => xs.length - g.1) (fun g => [(5, .pointer (some ⟨b, 0, none⟩)), (7, .pointer (some ⟨dd, 0, none⟩)), (44, .slice Ax xs.length cx), (45, .int .i64 xs.length), (46, .int .i64 g.1)]) (fun g => rbO b g.2.m g.2.r ++ rfO dd g.2.m2 g.2.f) (fun g => PcsAt g.2.m.l)
    (fun g => g.1 ≤ xs.length ∧ RbAt g.2.m g.2.r ∧ Rel g.2.r g.2.f) (0, ⟨⟨none, 0, []⟩, newR room, ⟨none, 0, none, 0⟩, ⟨room, 0, 0, false, 0, [], []⟩⟩) ⟨Nat.zero_le _, rfl, Rel.new room h⟩ ⟨rfl, rfl, rfl, rfl, rfl, trivial⟩
    ⟨_, .cons (.there .here) (.cons (.there .here) (.cons .here (.cons .none_ (.cons .none_ .nil))))⟩ (fun _ _ p hp => by cases hp) ?_
  rintro ⟨j, ⟨m, r, m2, f⟩⟩ ⟨hj, hm, hrel⟩
  simp only at hj hm hrel
  refine vcIf_dec (fun hlt => ?_) (fun hge => ?_)
  · have hj' : j < xs.length := by have h9 : (j : Int) < (xs.length : Int) := hlt; omega
    refine vcIdx_nats (s := 4) j rfl (Ent.gnG hG) hj' (by rw [flatMap_len ropV_len]; exact Nat.le_refl _) (by omega) (fun ad had => ?_)
    subst had
    refine vcLoadN_1 (ropV xs[j]) (Ent.gnG hG) rfl (flatMap_chunk ropV_len xs j hj') ?_
    intro b9
    refine ⟨rfl, vcStoreN_row _ .here rfl (ropV_one xs[j]) ?_⟩
    obtain ⟨hD1, hD2, hD3⟩ := hD _ (List.getElem_mem hj')
    generalize xs[j] = op at hD1 hD2 hD3 ⊢
    obtain ⟨kd, at_, ⟨Ao, co, d⟩, fi⟩ := op
    simp only at hD1 hD2 hD3
    refine vcCut_of (fun _ : PyS => [(5, .pointer (some ⟨b, 0, none⟩)), (7, .pointer (some ⟨dd, 0, none⟩)), (44, .slice (some ad) xs.length cx), (45, .int .i64 xs.length), (46, .int .i64 j)]) (fun g => rbO b g.m g.r ++ rfO dd g.m2 g.f) (fun g => PcsAt g.m.l)
      (fun g => RbAt g.m g.r ∧ Rel g.r g.f) ?_ ?_
    · have hfl := hrel.hl
      have hrm := hrel.ok.room
      have hof := hrel.off
      have hof2 := hrel.ok.off
      have hhi := hrel.ok.hi
      have hle := hrel.ok.chain.le
      have hfr := hrel.room
      refine vcLoad1_row (j := 0) (Ent.gnO .here (fun w hw => Ob.row_at hw)) rfl ?_
      refine vcIf_dec (fun h1 => ?_) (fun h1 => ?_)
      · refine vcLoadN_0 (xs := ropV (kd, at_, (Ao, co, d), fi)) (Ent.gnO .here (fun w hw => Ob.row_at hw)) rfl ?_
        refine vcCall_of (.cons (.there .here) (.cons (.there .here) .nil)) (lput_spec b m r kd at_ Ao co d fi _ hrel.ok hm (Ent.gnG hD1) hD2) (fun v own' N' hv => ?_)
        obtain ⟨m', rfl, rfl, hm', hE⟩ := hv
        obtain ⟨p1, p2, p3⟩ := hrel.put at_ d fi
        rw [p1, p2]
        refine vcLoad1_row (j := 1) (Ent.gnO (.there (.there .here)) (fun w hw => Ob.row_at hw)) rfl ?_
        refine vcLoad1_row (j := 2) (Ent.gnO (.there (.there .here)) (fun w hw => Ob.row_at hw)) rfl ?_
        refine vcLoad1_row (j := 3) (Ent.gnO (.there (.there .here)) (fun w hw => Ob.row_at hw)) rfl ?_
        refine vcCall_of (.cons (.there (.there (.there .here))) (.cons (.there (.there (.there .here))) (.cons (.there (.there (.there .here))) .nil))) (rput_spec dd m2 f at_ Ao co d fi _ (Ent.gnG hD1) (by omega) hrel.len (by omega) (by omega) (by omega)) (fun v own' N2 hv => ?_)
        obtain ⟨m3, rfl, rfl, rfl⟩ := hv
        refine vcIf_nno rfl ?_
        refine vcIf_nno rfl ?_
        exact ⟨⟨m', (putP r at_ d fi).2.2, m3, (rfPut f at_ d fi).2.2⟩, ⟨hm', p3⟩, ⟨rfl, rfl, rfl, rfl, rfl, trivial⟩, ⟨_, .cons (.there (.there (.there .here))) (.cons (.there (.there (.there .here))) (.cons .here (.cons .here (.cons .here .nil))))⟩, fun w hw => hE w ⟨hw.1.1, hw.1.2⟩⟩
      refine vcIf_dec (fun h2 => ?_) (fun h2 => ?_)
      · refine vcLoad1_row (j := 1) (Ent.gnO .here (fun w hw => Ob.row_at hw)) rfl ?_
        obtain ⟨p1, p2, p3⟩ := hrel.read at_
        refine vcCall_of (.cons (.there .here) (.cons (.there .here) .nil)) (read_spec b m r at_ _ hrel.ok hm (Ent.gnN Ent.refl) hD3) (fun v own' N' hv => ?_)
        obtain ⟨A, c, m', rfl, rfl, rfl, hm', hE⟩ := hv
        rw [p1, p2]
        refine vcLoad1_row (j := 1) (Ent.gnO (.there (.there (.there .here))) (fun w hw => Ob.row_at hw)) rfl ?_
        refine vcCall_of (.cons (.there (.there (.there (.there .here)))) (.cons (.there (.there (.there (.there .here)))) (.cons (.there (.there (.there (.there .here)))) .nil))) (rread_spec dd m2 f at_ _ (by omega) hrel.len (by omega)) (fun v own' N2 hv => ?_)
        obtain ⟨A2, c2, m3, rfl, rfl, rfl⟩ := hv
        have hXl : (rfRead f at_).1.length ≤ 65536 := by
          have h9 := hrel.len
          show (f.B.take _).length ≤ 65536
          rw [List.length_take]; omega
        generalize (rfRead f at_).1 = X at hXl ⊢
        refine vcCall_of .nil (same_spec A A2 c c2 X X _ (Ent.gnO (.there (.there (.there (.there .here)))) (fun w hw => Ob.sl_at hw)) (Ent.gnO .here (fun w hw => Ob.sl_at hw)) (by omega)) (fun v own' N3 hv => ?_)
        obtain ⟨rfl, rfl, rfl⟩ := hv
        rw [decide_eq_true (rfl : X = X)]
        generalize (rfRead f at_).2.1 = u
        refine vcIf_is false (by cases u <;> rfl) ?_
        refine vcLoop_of (fun g : Nat × List UInt8 => X.length - g.1) (fun g => [(5, .pointer (some ⟨b, 0, none⟩)), (7, .pointer (some ⟨dd, 0, none⟩)), (44, .slice (some ad) xs.length cx), (45, .int .i64 xs.length), (46, .int .i64 j), (15, .slice A X.length c), (110, .int .i64 X.length), (111, .int .i64 g.1)])
          (fun g => .sl A c 5 1 (Bs g.2) :: (rbO b m' (readR r at_).2.2 ++ rfO dd m3 (rfRead f at_).2.2)) (fun _ => PcsAt m'.l) (fun g => g.1 ≤ X.length ∧ g.2.length = X.length) (0, X) ⟨Nat.zero_le _, rfl⟩ ⟨rfl, rfl, rfl, rfl, rfl, rfl, rfl, rfl, trivial⟩
          ⟨_, .cons (.there (.there (.there (.there .here)))) (.cons (.there (.there (.there (.there .here)))) (.cons (.there (.there (.there (.there .here)))) (.cons (.there .here) (.cons (.there .here) (.cons (.there .here) .nil)))))⟩ (fun w hw => hE w hw.1.1.1) ?_
        rintro ⟨k, ys⟩ ⟨hk, hl⟩
        simp only at hk hl
        refine vcIf_dec (fun hlt => ?_) (fun hge => ?_)
        · have hk' : k < X.length := by have h9 : (k : Int) < (X.length : Int) := hlt; omega
          have hkx : k < ys.length := by omega
          refine vcIdx_nat k rfl (Ent.gnO .here (fun w hw => Ob.sl_at hw)) hk' (by rw [Bs_length]; show X.length ≤ ys.length; omega) (fun a ha => ?_)
          subst ha
          refine vcLoad1_row (v := .int .u8 ys[k].toNat) (Ent.gnO .here (fun w hw => Ob.sl_at hw)) (Bs_get hkx) ?_
          refine vcBit_as _ (not_u8 ys[k]) ?_
          refine vcIdx_some k rfl hk' ?_
          refine vcStore1_1 (.sl (some a) c 5 1 (Bs ys)) _ .here rfl (by show k + 0 < (Bs ys).length; rw [Bs_length]; exact hkx) rfl ?_
          refine vcFit_i64 (by first | omega | (simp only; omega)) ?_
          exact ⟨(k + 1, ys.set k (255 ^^^ ys[k])), ⟨by simp only; omega, by simp only [List.length_set]; exact hl⟩, by simp only; omega, ⟨rfl, rfl, rfl, rfl, rfl, rfl, rfl, rfl, trivial⟩, ⟨_, .cons (Take.eq (by show Ob.sl _ _ _ _ (Bs (ys.set k (255 ^^^ ys[k]))) = _; rw [Bs_set_at]; rfl)) Pick.whole⟩, Ent.refl⟩
        · exact ⟨⟨m', (readR r at_).2.2, m3, (rfRead f at_).2.2⟩, ⟨hm', p3⟩, ⟨rfl, rfl, rfl, rfl, rfl, trivial⟩, ⟨_, .cons (.there .here) (.cons (.there .here) (.cons (.there .here) (.cons (.there .here) (.cons (.there .here) .nil))))⟩, Ent.refl⟩
      · exact ⟨⟨m, r, m2, f⟩, ⟨hm, hrel⟩, ⟨rfl, rfl, rfl, rfl, rfl, trivial⟩, ⟨_, .cons (.there .here) (.cons (.there .here) (.cons (.there .here) (.cons (.there .here) (.cons (.there .here) .nil))))⟩, Ent.refl⟩
    · rintro ⟨m, r, m2, f⟩ ⟨hm, hrel⟩
      simp only at hm hrel
      have hfl := hrel.hl
      have hrm := hrel.ok.room
      have hready := hrel.ready
      have hheld := hrel.held
      refine vcCall_of (.cons .here (.cons .here .nil)) (final_spec b m r _) (fun v own' N' hv => ?_)
      obtain ⟨rfl, rfl, rfl⟩ := hv
      rw [hrel.final]
      refine vcDraw_mix [0,2,1,3,4,5,6,8,7,9,10,11,12,13,15,16,17,18,14,19,20,21,22,24,25,26,27,23,28,29,30,31,32,33,34,35,36,37,38,39,40,41,42,43,44,45] (RowAt (some ⟨dd, 0, none⟩) (rfC m2 f)) (by kernel_rfl) (Ent.gnO (.there (.there .here)) (fun w hw => Ob.row_at hw)) ?_
      refine vcCall_of (.cons .here (.cons .here .nil)) (ready_spec b m r _ hrel.ok hm) (fun v own' N' hv => ?_)
      obtain ⟨rfl, rfl, rfl⟩ := hv
      refine vcMix_same (Ent.gnO (.there (.there .here)) (fun w hw => Ob.row_at hw)) ?_
      refine vcCall_of (.cons (.there (.there .here)) (.cons (.there (.there .here)) (.cons (.there (.there .here)) .nil))) (rready_spec dd m2 f _ (by omega)) (fun v own' N' hv => ?_)
      obtain ⟨rfl, rfl, rfl⟩ := hv
      refine vcMix_same (Ent.gnO .here (fun w hw => Ob.row_at hw)) ?_
      refine vcIf_nno hready ?_
      refine vcCall_of (.cons (.there (.there (.there .here))) (.cons (.there (.there (.there .here))) .nil)) (held_spec b m r _ hrel.ok hm) (fun v own' N' hv => ?_)
      obtain ⟨rfl, rfl, rfl⟩ := hv
      refine vcMix_same (Ent.gnO (.there (.there .here)) (fun w hw => Ob.row_at hw)) ?_
      refine vcCall_of (.cons (.there (.there .here)) (.cons (.there (.there .here)) (.cons (.there (.there .here)) .nil))) (rheld_spec dd m2 f _ (by omega)) (fun v own' N' hv => ?_)
      obtain ⟨rfl, rfl, rfl⟩ := hv
      refine vcMix_same (Ent.gnO .here (fun w hw => Ob.row_at hw)) ?_
      refine vcIf_nno (by rw [hheld]) ?_
      refine vcLoad1_row (j := 1) Ent.refl rfl ?_
      refine vcCall_of (.cons (.there (.there (.there .here))) (.cons (.there (.there (.there .here))) .nil)) (offset_spec b m r _) (fun v own' N' hv => ?_)
      obtain ⟨rfl, rfl, rfl⟩ := hv
      refine vcMix_same (Ent.gnO (.there (.there .here)) (fun w hw => Ob.row_at hw)) ?_
      refine vcIf_nno hrel.off.symm ?_
      refine vcLoad1_row (j := 2) Ent.refl rfl ?_
      refine vcCall_of (.cons .here (.cons .here .nil)) (high_spec b m r _) (fun v own' N' hv => ?_)
      obtain ⟨rfl, rfl, rfl⟩ := hv
      refine vcMix_same (Ent.gnO (.there (.there .here)) (fun w hw => Ob.row_at hw)) ?_
      refine vcIf_nno hrel.high.symm ?_
      refine vcLoad1_row (j := 3) Ent.refl rfl ?_
      refine vcIf_is false (by cases f.known <;> rfl) ?_
      refine vcLoad1_row (j := 4) Ent.refl rfl ?_
      refine vcIf_nno rfl ?_
      refine vcFit_i64 (by first | omega | (simp only; omega)) ?_
      exact ⟨(j + 1, ⟨m, r, m2, f⟩), ⟨by simp only; omega, hm, hrel⟩, by simp only; omega, ⟨rfl, rfl, rfl, rfl, rfl, trivial⟩, ⟨_, .cons .here (.cons .here (.cons .here (.cons .here (.cons .here .nil))))⟩, fun w hw => hw.1.1.1.1.1.1.1⟩
  · refine vcCall_of .nil (awake_spec _) (fun v own' N' hv => ?_); obtain ⟨rfl, rfl, rfl⟩ := hv
    exact fin _ _
end Go.Proofs.Yteomgafghiockaa
