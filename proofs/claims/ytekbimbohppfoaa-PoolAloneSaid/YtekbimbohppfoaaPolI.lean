/- PoolRests. -/
import Derived.Test.YtekbimbohppfoaaPolG
namespace Go.Proofs.Ytekbimbohppfoaa
open Go.Proofs
set_option maxRecDepth 10000

structure Rest (F D now : Int) (k : Int) (p : Pl) : Prop where
  ok : PlOk p
  cn : p.n = 1
  cL : p.L = 1
  cF : p.F = F
  cD : p.D = D
  ls : p.ls = []
  qn : p.q = []
  last : p.last = k - 1
  bs : p.bs = [if k ≤ F then (k - 1, 0) else (0, now + D)]
theorem mod1 (a : Int) : a % 1 = 0 := by omega
theorem Rest.dial {F D now k : Int} {p : Pl} (h : Rest F D now k p) (hk : k ≤ F) (hnow : 0 ≤ now ∧ now ≤ 1099511627776) {t kd l b e : Int} {p' : Pl} (hA : AcqTo p t now kd l b e p') :
    kd = 1 ∧ l = k ∧ b = 0 ∧ e = 0 ∧ PlOk p' ∧ ∃ x, x.num = k ∧ x.st = 0 ∧ x.b = 0 ∧ p' = { p with ls := [x], clock := p.clock + 1, last := k, turn := 1 } := by
  have hm : p.turn % p.n = 0 := by rw [h.cn]; exact mod1 _
  obtain ⟨h1, h2, h3, h4, blk, h5⟩ := acq_dial hA h.qn hnow (by rw [hm]; exact ⟨0, by rw [h.bs]; simp, rfl, by simp only [h.bs, if_pos hk, List.getElem_cons_zero]; exact hnow.1⟩) (by rw [h.ls]; simp) (by rw [h.ls, h.cL]; simp)
  have hlast := h.last
  refine ⟨h1, by omega, by rw [h3, hm], h4, hA.ok h.ok, newLk p blk 0, by show p.last + 1 = k; omega, rfl, rfl, ?_⟩
  rw [h5, hm, h.ls, show p.last + 1 = k from by omega]
  rfl
theorem Rest.fail {F D now k : Int} {p : Pl} (h : Rest F D now k p) (hk : k ≤ F) (hnow : 0 ≤ now ∧ now ≤ 1099511627776) {x : Lk} (hx : x.num = k ∧ x.st = 0 ∧ x.b = 0) {e : Int} {p' p2 : Pl} (hp' : p' = { p with ls := [x], clock := p.clock + 1, last := k, turn := 1 }) (hok : PlOk p') (hF : FailTo p' k now e p2) :
    e = 0 ∧ Rest F D now (k + 1) p2 := by
  have hok2 := hF.ok hok
  subst hp'
  rcases hF with ⟨h1, _⟩ | ⟨a, y, c, hls, hy, hst, ⟨h1, _⟩ | ⟨_, rfl, j, hj, hjb, rfl⟩⟩
  · have := h1 x (List.mem_singleton.2 rfl) hx.1
    omega
  · exact absurd hnow h1
  · have hac : a = [] ∧ c = [] := by
      have : ([x] : List Lk).length = (a ++ y :: c).length := congrArg List.length hls
      simp only [List.length_append, List.length_cons, List.length_nil] at this
      exact ⟨List.eq_nil_of_length_eq_zero (by omega), List.eq_nil_of_length_eq_zero (by omega)⟩
    obtain ⟨rfl, rfl⟩ := hac
    have hbs := h.bs
    have hcF := h.cF
    have hcD := h.cD
    obtain ⟨n, L, Q, I, F', D', bs, ls, clock, last, order, turn, q⟩ := p
    simp only at hbs hcF hcD hj hok2
    subst hbs; subst hcF; subst hcD
    have hj0 : j = 0 := by simpa using hj
    subst hj0
    refine ⟨rfl, hok2, h.cn, h.cL, rfl, rfl, rfl, h.qn, by show k = k + 1 - 1; omega, ?_⟩
    show ([if k ≤ F' then ((k - 1, 0) : Int × Int) else (0, now + D')].set 0 (failB _ now _)) = _
    simp only [List.set_cons_zero, List.getElem_cons_zero, if_pos hk, failB]
    congr 1
    by_cases h2 : F' ≤ k - 1 + 1
    · rw [if_pos h2, if_neg (by omega)]
    · rw [if_neg h2, if_pos (by omega), show k - 1 + 1 = k + 1 - 1 from by omega]
theorem Rest.start {c : CfgI} (h : CfgOk c) (hn : c.n = 1) (hL : c.L = 1) (now : Int) : Rest c.F c.D now 1 (newP c) := by
  have h6 := h.2.2.2.2.2
  refine ⟨newP_ok h, hn, hL, rfl, rfl, rfl, rfl, rfl, ?_⟩
  rw [if_pos h6.1]
  show List.replicate c.n.toNat ((0 : Int), (0 : Int)) = _
  rw [hn]; rfl
theorem acq_none {p : Pl} {t now k l b e : Int} {p' : Pl} (h : AcqTo p t now k l b e p') (hq : p.q = []) (hnow : 0 ≤ now ∧ now ≤ 1099511627776) (hup : anyU p now = false) : k = 0 ∧ e = 0 ∧ p' = p := by
  rcases h with ⟨h, _⟩ | ⟨_, h, _⟩ | ⟨_, _, he, ⟨_, h1, _, _, h2⟩ | ⟨h, _⟩⟩
  · rw [hq] at h; cases h
  · exact absurd hnow h
  · exact ⟨h1, he, h2⟩
  · rw [hup] at h; cases h

theorem rests_spec (F D now : Int) (G : Mp) : Spec Try.prog 4 #[.int .i64 F, .int .i64 D, .int .i64 now] [] G (Ret (.bool true)) := by
  refine Spec.intro (args := [_, _, _]) wide Try.func4 rfl Try.call4 (by rfl) (by rfl) (fun w0 hw0 => ?_)
  intro b5
  refine ⟨rfl, vcStoreN_row _ .here rfl (by simp [oneCell, cellsL]) ?_⟩
  refine vcLoadN_0 (Ent.gnO .here (fun w hw => Ob.row_at hw)) rfl ?_
  refine vcCall_of .nil (new_spec ⟨1, 1, 1, 9, F, D⟩ _) (fun v own' N' hv => ?_)
  have hcf : CfgOk ⟨1, 1, 1, 9, F, D⟩ ↔ (1 ≤ D ∧ D ≤ 1048576) ∧ (1 ≤ F ∧ F ≤ 100) := by
    unfold CfgOk; simp only; omega
  have fin : ∀ (own : List Ob) (N : Mp) (b : Bool), b = true → ∃ (own' rest : List Ob) (N' : Mp), Pick own' own rest ∧ (∀ w, N w → Objs rest w → N' w) ∧ (Value.bool b = .bool true ∧ own' = [] ∧ N' = MT) := fun own N b h => ⟨[], own, MT, .nil, fun _ _ _ => trivial, by rw [h], rfl, rfl⟩
  obtain ⟨rfl, ⟨h, rfl, rfl⟩ | ⟨h, a, rfl, rfl⟩⟩ := hv
  · rw [hcf] at h
    refine vcIf_dec (fun h1 => ?_) (fun h1 => ?_)
    · refine vcCall_of .nil (awake_spec _) (fun v own' N' hv => ?_); obtain ⟨rfl, rfl, rfl⟩ := hv
      exact fin _ _ _ rfl
    refine vcIf_dec (fun h2 => ?_) (fun h2 => ?_)
    · refine vcCall_of .nil (awake_spec _) (fun v own' N' hv => ?_); obtain ⟨rfl, rfl, rfl⟩ := hv
      exact fin _ _ _ rfl
    refine vcIf_dec (fun h3 => ?_) (fun h3 => ?_)
    · refine vcCall_of .nil (awake_spec _) (fun v own' N' hv => ?_); obtain ⟨rfl, rfl, rfl⟩ := hv
      exact fin _ _ _ rfl
    refine vcIf_yes (by omega) ?_
    · refine vcCall_of .nil (awake_spec _) (fun v own' N' hv => ?_); obtain ⟨rfl, rfl, rfl⟩ := hv
      exact fin _ _ _ rfl
  have hc := hcf.1 h
  refine vcIf_dec (fun hn1 => ?_) (fun hn1 => ?_)
  · refine vcCall_of .nil (awake_spec _) (fun v own' N' hv => ?_); obtain ⟨rfl, rfl, rfl⟩ := hv
    exact fin _ _ _ rfl
  refine vcIf_dec (fun hn2 => ?_) (fun hn2 => ?_)
  · refine vcCall_of .nil (awake_spec _) (fun v own' N' hv => ?_); obtain ⟨rfl, rfl, rfl⟩ := hv
    exact fin _ _ _ rfl
  have hnow : 0 ≤ now ∧ now ≤ 1099511627776 := by omega
  refine vcLoop_of (fun g : Nat × Pl × PlA => 101 - g.1) (fun g => [(0, .int .i64 F), (1, .int .i64 D), (2, .int .i64 now), (8, .pointer (some ⟨g.2.2.b, 0, none⟩)), (10, .int .i64 g.1)])
    (fun g => plO g.2.2 g.2.1) (fun _ => MT) (fun g => 1 ≤ g.1 ∧ (g.1 : Int) ≤ F + 1 ∧ Rest F D now g.1 g.2.1) (1, newP ⟨1, 1, 1, 9, F, D⟩, a) ⟨Nat.le_refl _, by simp only; omega, Rest.start h rfl rfl now⟩ ⟨rfl, rfl, rfl, rfl, rfl, trivial⟩ ⟨_, Pick.front⟩ (fun _ _ => trivial) ?_
  rintro ⟨k, p, a'⟩ ⟨hk1, hkF, hs⟩
  simp only at hk1 hkF hs
  have hlast := hs.last
  refine vcIf_dec (fun hle => ?_) (fun hgt => ?_)
  · simp only at hle
    refine vcCall_of (by exact Pick.whole) (acquire_spec a' p k now _ hs.ok (by omega) (by rw [hs.ls]; decide)) (fun v own' N' hv => ?_)
    obtain ⟨kd, l, b, e, p', a2, rfl, rfl, rfl, hab, hA⟩ := hv
    obtain ⟨rfl, rfl, rfl, rfl, hok', x, hx1, hx2, hx3, hp'⟩ := hs.dial hle hnow hA
    intro b9
    refine ⟨rfl, vcStoreN_row _ .here rfl (int3 _ _ _) ?_⟩
    refine vcDraw_mix [0,1,2,3,4,5,6,7,8,9,10,11,12,13,14] (RowAt (some ⟨b9, 0, none⟩) [.int .i64 1, .int .i64 k, .int .i64 0]) (by kernel_rfl) (Ent.gnO .here (fun w hw => Ob.row_at hw)) ?_
    refine vcLoadN_0 Ent.refl rfl ?_
    refine vcCall_of .nil (grant_spec 1 k 0 _) (fun v own' N' hv => ?_); obtain ⟨rfl, rfl, rfl⟩ := hv
    refine vcMix_same (Ent.gnO .here (fun w hw => Ob.row_at hw)) ?_
    refine vcEqA_of [.i .i64, .i .i64, .i .i64] (by kernel_rfl) rfl rfl _ gr_inj ?_
    rw [decide_eq_true (show (1 : Int) = 1 ∧ (k : Int) = k ∧ (0 : Int) = 0 from ⟨rfl, rfl, rfl⟩)]
    have hf := failed_spec a2 p' k now
    rw [hab] at hf
    refine vcCall_of (by exact Pick.front.under) (hf _ hok') (fun v own' N' hv => ?_)
    obtain ⟨e2, p2, rfl, rfl, rfl, hF⟩ := hv
    obtain ⟨rfl, hs2⟩ := hs.fail hle hnow ⟨hx1, hx2, hx3⟩ hp' hok' hF
    refine vcMix_same (Ent.mem (List.mem_append_right _ (List.mem_cons_self ..)) (fun w hw => Ob.row_at hw)) ?_
    refine vcFit_i64 (by simp only; omega) ?_
    exact ⟨(k + 1, p2, a2), ⟨by simp only; omega, by simp only; omega, by simpa using hs2⟩, by simp only; omega, ⟨rfl, rfl, rfl, by rw [← hab]; rfl, rfl, trivial⟩, ⟨_, Pick.front⟩, fun _ _ => trivial⟩
  · simp only at hgt
    have hkF : (k : Int) = F + 1 := by omega
    have hbs := hs.bs
    rw [if_neg (by omega)] at hbs
    have upI : ∀ (p2 : Pl) (t : Int), p2.bs = p.bs → (upB p2 t 0 ↔ now + D ≤ t) := fun p2 t hb => by
      constructor
      · rintro ⟨j, hj, _, h⟩
        obtain rfl : j = 0 := by rw [hb, hbs] at hj; simpa using hj
        simpa [hb, hbs] using h
      · intro h
        exact ⟨0, by rw [hb, hbs]; simp, rfl, by simpa [hb, hbs] using h⟩
    refine vcFit_i64 (by first | omega | (simp only; omega)) ?_
    refine vcFit_i64 (by first | omega | (simp only; omega)) ?_
    refine vcCall_of (by exact Pick.whole) (acquire_spec a' p 0 (now + D - 1) _ hs.ok (by omega) (by rw [hs.ls]; decide)) (fun v own' N' hv => ?_)
    obtain ⟨kd, l, b, e, p', a2, rfl, rfl, rfl, hab, hA⟩ := hv
    obtain ⟨rfl, rfl, rfl⟩ := acq_none hA hs.qn (by omega) (by
      rw [anyU, hbs]
      simp only [List.any_cons, List.any_nil, Bool.or_false]
      exact decide_eq_false (by omega))
    intro b9
    refine ⟨rfl, vcStoreN_row _ .here rfl (int3 _ _ _) ?_⟩
    refine vcFit_i64 (by first | omega | (simp only; omega)) ?_
    have hac := acquire_spec a2 p' 0 (now + D)
    rw [hab] at hac
    refine vcCall_of (by exact Pick.front.under) (hac _ hs.ok (by omega) (by rw [hs.ls]; decide)) (fun v own' N' hv => ?_)
    obtain ⟨kd3, l3, b3, e3, p3, a3, rfl, rfl, rfl, hab3, hA3⟩ := hv
    have hm : p'.turn % p'.n = 0 := by rw [hs.cn]; exact mod1 _
    obtain ⟨rfl, rfl, rfl, rfl, blk, hp3⟩ := acq_dial hA3 hs.qn (by omega) (by rw [hm]; exact (upI p' _ rfl).2 (by omega)) (by rw [hs.ls]; simp) (by rw [hs.ls, hs.cL]; simp)
    have hok3 := hA3.ok hs.ok
    have hbs3 : p3.bs = p'.bs := by rw [hp3]
    intro b10
    refine ⟨rfl, vcStoreN_row _ .here rfl (int3 _ _ _) ?_⟩
    refine vcLoad1_row (v := .int .i64 0) (Ent.mem (o := .row b9 30 [.int .i64 0, .int .i64 l, .int .i64 b] 3) (List.mem_cons_of_mem _ (List.mem_append_right _ (List.mem_cons_self ..))) (fun w hw => Ob.row_at hw)) rfl ?_
    refine vcLoad1_row (Ent.gnO .here (fun w hw => Ob.row_at hw)) rfl ?_
    refine vcFit_i64 (by first | omega | (simp only; omega)) ?_
    refine vcFit_i64 (by first | omega | (simp only; omega)) ?_
    have hup := up_spec a3 p3 0
    rw [hab3] at hup
    refine vcCall_of (by exact Pick.front.under) (hup (now + D - 1) _ hok3) (fun v own' N' hv => ?_)
    obtain ⟨r, rfl, rfl, rfl, hr⟩ := hv
    obtain rfl : r = false := by
      cases r with
      | false => rfl
      | true => exact absurd ((upI p3 _ hbs3).1 (hr.1 rfl)) (by omega)
    refine vcFit_i64 (by first | omega | (simp only; omega)) ?_
    refine vcCall_of (by exact Pick.front) (hup (now + D) _ hok3) (fun v own' N' hv => ?_)
    obtain ⟨r, rfl, rfl, rfl, hr⟩ := hv
    obtain rfl : r = true := hr.2 ((upI p3 _ hbs3).2 (by omega))
    refine vcCall_of .nil (awake_spec _) (fun v own' N' hv => ?_); obtain ⟨rfl, rfl, rfl⟩ := hv
    exact fin _ _ _ rfl
end Go.Proofs.Ytekbimbohppfoaa
