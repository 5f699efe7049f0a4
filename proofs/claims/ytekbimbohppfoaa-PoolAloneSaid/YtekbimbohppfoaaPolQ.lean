/- PoolAlone, walked. -/
import Derived.Test.YtekbimbohppfoaaPolP
import Derived.Test.YtekbimbohppfoaaSrL
namespace Go.Proofs.Ytekbimbohppfoaa
open Go.Proofs
set_option maxRecDepth 10000

abbrev POp := Int × Int × Int × Bool
def popV (o : POp) : List Value := [.int .i64 o.1, .int .i64 o.2.1, .int .i64 o.2.2.1, .bool o.2.2.2]
theorem popV_len (o : POp) : (popV o).length = 4 := rfl
theorem popV_one (o : POp) : ∀ v ∈ popV o, oneCell v = true := by
  intro v hv
  simp only [popV, List.mem_cons, List.not_mem_nil, or_false] at hv
  rcases hv with rfl | rfl | rfl | rfl <;> rfl

structure SA where
  a : PlA
  p : Pl
  A : Option Addr
  c : Nat
  held : List Int
  last : Int
def saO (b2 hb pb : Nat) (cf : CfgI) (s : SA) : List Ob := .row b2 23 (cfgV cf) 6 :: hdR hb pb cf.L cf.n s.A s.held.length s.c s.last :: hdS s.A s.c s.held :: plO s.a s.p
def saR (cf : CfgI) (pb : Nat) (j : Nat) (s : SA) : Prop := s.a.b = pb ∧ Al cf.n cf.L j s.p s.held s.last
theorem saR.few {cf : CfgI} {pb j : Nat} {s : SA} (h : saR cf pb j s) : s.held.length ≤ 256 := by
  have h1 := h.2.hd.length_eq
  rw [heldN_len] at h1
  have h2 := List.countP_le_length (p := busyB) (l := s.p.ls)
  have := h.2.ok.few
  omega

theorem alone_spec (cf : CfgI) (Ax : Option Addr) (cx : Nat) (xs : List POp) (G : Mp) (hG : Ent G (RowAt Ax (xs.flatMap popV))) (hx : xs.length ≤ 1000000000000000) :
    Spec Try.prog 6 #[cfgA cf, .slice Ax xs.length cx] [] G (Ret (.bool true)) := by
  refine Spec.introC (args := [_, _]) wide Try.func6 rfl Try.call6 (by rfl) (by rfl) [41] (fun w0 hw0 => ?_)
  intro b2
  have fin : ∀ (own : List Ob) (N : Mp), ∃ (own' rest : List Ob) (N' : Mp), Pick own' own rest ∧ (∀ w, N w → Objs rest w → N' w) ∧ (Value.bool true = .bool true ∧ own' = [] ∧ N' = MT) := fun own N => ⟨[], own, MT, .nil, fun _ _ _ => trivial, rfl, rfl, rfl⟩
  refine vcLoadN_0 (xs := cfgV cf) (Ent.gnO .here (fun w hw => Ob.row_at hw)) rfl ?_
  refine vcCall_of .nil (new_spec cf _) (fun v own' N' hv => ?_)
  obtain ⟨rfl, ⟨h, rfl, rfl⟩ | ⟨hcf, a0, rfl, rfl⟩⟩ := hv
  · refine vcCall_of .nil (awake_spec _) (fun v own' N' hv => ?_); obtain ⟨rfl, rfl, rfl⟩ := hv
    exact fin _ _
  have hp0 := newP_ok hcf
  refine vcLoad1_row (j := 1) (Ent.gnO (.there (.there (.there (.there .here)))) (fun w hw => Ob.row_at hw)) rfl ?_
  refine vcLoad1_row (j := 0) (Ent.gnO (.there (.there (.there (.there .here)))) (fun w hw => Ob.row_at hw)) rfl ?_
  intro hb
  have hal0 : Al cf.n cf.L 0 (newP cf) [] 0 := ⟨hp0, rfl, rfl, .refl _, rfl, Int.le_refl _, Int.le_refl _⟩
  refine vcLoop_of (fun g : Nat × SA => xs.length - g.1) (fun g => [(2, .pointer (some ⟨b2, 0, none⟩)), (5, .pointer (some ⟨a0.b, 0, none⟩)), (7, .pointer (some ⟨hb, 0, none⟩)), (42, .slice Ax xs.length cx), (43, .int .i64 xs.length), (44, .int .i64 g.1)])
    (fun g => saO b2 hb a0.b cf g.2) (fun _ => MT) (fun g => g.1 ≤ xs.length ∧ saR cf a0.b g.1 g.2) (0, ⟨a0, newP cf, none, 0, [], 0⟩) ⟨Nat.zero_le _, rfl, hal0⟩ ⟨rfl, rfl, rfl, rfl, rfl, rfl, trivial⟩
    ⟨_, .cons (.there (.there (.there (.there (.there .here))))) (.cons .here (.cons .none_ Pick.front))⟩ (fun _ _ => trivial) ?_
  clear hal0 hp0
  rintro ⟨j, s⟩ ⟨hj, hab, hal⟩
  simp only at hj hal hab
  refine vcIf_dec (fun hlt => ?_) (fun hge => ?_)
  · have hj' : j < xs.length := (by first | omega | (simp only; omega))
    refine vcIdx_nats (s := 4) j rfl (Ent.gnG hG) hj' (by rw [flatMap_len popV_len]; exact Nat.le_refl _) (by omega) (fun ad had => ?_)
    subst had
    refine vcLoadN_1 (popV xs[j]) (Ent.gnG hG) rfl (flatMap_chunk popV_len xs j hj') ?_
    intro b9
    refine ⟨rfl, vcStoreN_row _ .here rfl (popV_one xs[j]) ?_⟩
    generalize xs[j] = op
    obtain ⟨kd, oa, on, og⟩ := op
    refine vcCut_of (fun _ : SA => [(2, .pointer (some ⟨b2, 0, none⟩)), (5, .pointer (some ⟨a0.b, 0, none⟩)), (7, .pointer (some ⟨hb, 0, none⟩)), (42, .slice (some ad) xs.length cx), (43, .int .i64 xs.length), (44, .int .i64 j)])
      (fun s => saO b2 hb a0.b cf s) (fun _ => MT) (fun s => saR cf a0.b (j + 1) s) ?_ ?_
    · have hokp := hal.ok
      have hlk := hal.lk
      have hok2 := hal.ok2
      have hfew := hokp.few
      have hheld := saR.few (s := s) ⟨hab, hal⟩
      refine vcLoad1_row (j := 0) (Ent.gnO .here (fun w hw => Ob.row_at hw)) rfl ?_
      refine vcIf_dec (fun h1 => ?_) (fun h1 => ?_)
      · refine vcLoad1_row (j := 1) (Ent.gnO .here (fun w hw => Ob.row_at hw)) rfl ?_
        refine vcLoad1_row (j := 2) (Ent.gnO .here (fun w hw => Ob.row_at hw)) rfl ?_
        have hc := acquire_spec s.a s.p oa on
        rw [hab] at hc
        refine vcCall_of (by exact Pick.whole.under.under.under.under) (hc _ hokp (by omega) (by omega)) (fun v own' N' hv => ?_)
        obtain ⟨gk, gl, gb, e, p', a', rfl, rfl, rfl, hab', hA⟩ := hv
        intro b10
        refine ⟨rfl, vcStoreN_row _ .here rfl (int3 _ _ _) ?_⟩
        refine vcLoadN_0 (Ent.gnO .here (fun w hw => Ob.row_at hw)) rfl ?_
        have ht := htake_spec hb s.A s.c s.held s.last a' cf.n cf.L j s.p p' gk gl gb
        rw [hab'] at ht
        refine vcCall_of (by exact .cons (.there (Take.app (.there (.there .here)))) (.cons (.there (Take.app (.there (.there .here)))) Pick.front.under)) (ht _ hal (hA.gr hokp) (by omega)) (fun v own' N' hv => ?_)
        obtain ⟨A', c', held', last', rfl, rfl, rfl, hal'⟩ := hv
        exact ⟨⟨a', p', A', c', held', last'⟩, ⟨hab', hal'⟩, ⟨rfl, rfl, rfl, rfl, rfl, rfl, trivial⟩, ⟨_, .cons (Take.app (.there (.there .here))) Pick.front⟩, fun _ _ => trivial⟩
      refine vcIf_dec (fun h2 => ?_) (fun h2 => ?_)
      · refine vcLoad1_row (j := 2) (Ent.gnO .here (fun w hw => Ob.row_at hw)) rfl ?_
        have hc := serve_spec s.a s.p on
        rw [hab] at hc
        refine vcCall_of (by exact Pick.whole.under.under.under.under) (hc _ hokp (by omega) (by omega)) (fun v own' N' hv => ?_)
        obtain ⟨t, gk, gl, gb, ok, p', a', rfl, rfl, rfl, hab', hA⟩ := hv
        intro b13
        refine ⟨rfl, vcStoreN_row _ .here rfl (int3 _ _ _) ?_⟩
        refine vcLoadN_0 (Ent.gnO .here (fun w hw => Ob.row_at hw)) rfl ?_
        have ht := htake_spec hb s.A s.c s.held s.last a' cf.n cf.L j s.p p' gk gl gb
        rw [hab'] at ht
        refine vcCall_of (by exact .cons (.there (Take.app (.there (.there .here)))) (.cons (.there (Take.app (.there (.there .here)))) Pick.front.under)) (ht _ hal (hA.gr hokp) (by omega)) (fun v own' N' hv => ?_)
        obtain ⟨A', c', held', last', rfl, rfl, rfl, hal'⟩ := hv
        exact ⟨⟨a', p', A', c', held', last'⟩, ⟨hab', hal'⟩, ⟨rfl, rfl, rfl, rfl, rfl, rfl, trivial⟩, ⟨_, .cons (Take.app (.there (.there .here))) Pick.front⟩, fun _ _ => trivial⟩
      refine vcIf_dec (fun h3 => ?_) (fun h3 => ?_)
      · refine vcLoad1_row (j := 1) (Ent.gnO .here (fun w hw => Ob.row_at hw)) rfl ?_
        have hc := cancel_spec s.a s.p oa
        rw [hab] at hc
        refine vcCall_of (by exact Pick.whole.under.under.under.under) (hc _ hokp) (fun v own' N' hv => ?_)
        obtain ⟨e, p', a', rfl, rfl, rfl, hab', hA⟩ := hv
        exact ⟨⟨a', p', s.A, s.c, s.held, s.last⟩, ⟨hab', (hal.cancel hA).later (by omega)⟩, ⟨rfl, rfl, rfl, rfl, rfl, rfl, trivial⟩, ⟨_, .cons (Take.app (.there .here)) (.cons (Take.app (.there .here)) (.cons (Take.app (.there .here)) Pick.front))⟩, fun _ _ => trivial⟩
      refine vcIf_dec (fun h4 => ?_) (fun h4 => ?_)
      · refine vcLoad1_row (j := 1) (Ent.gnO .here (fun w hw => Ob.row_at hw)) rfl ?_
        have hc := opened_spec s.a s.p oa
        rw [hab] at hc
        refine vcCall_of (by exact Pick.whole.under.under.under.under) (hc _ hokp) (fun v own' N' hv => ?_)
        obtain ⟨e, p', rfl, rfl, rfl, hA⟩ := hv
        exact ⟨⟨s.a, p', s.A, s.c, s.held, s.last⟩, ⟨hab, (hal.opened hA).later (by omega)⟩, ⟨rfl, rfl, rfl, rfl, rfl, rfl, trivial⟩, ⟨_, .cons (Take.app (.there .here)) (.cons (Take.app (.there .here)) (.cons (Take.app (.there .here)) Pick.front))⟩, fun _ _ => trivial⟩
      refine vcIf_dec (fun h5 => ?_) (fun h5 => ?_)
      · refine vcLoad1_row (j := 1) (Ent.gnO .here (fun w hw => Ob.row_at hw)) rfl ?_
        refine vcLoad1_row (j := 2) (Ent.gnO .here (fun w hw => Ob.row_at hw)) rfl ?_
        have hc := failed_spec s.a s.p oa on
        rw [hab] at hc
        refine vcCall_of (by exact Pick.whole.under.under.under.under) (hc _ hokp) (fun v own' N' hv => ?_)
        obtain ⟨e, p', rfl, rfl, rfl, hA⟩ := hv
        have hq := hal.fail hA
        refine vcIf_dec (fun he => ?_) (fun he => ?_)
        · obtain ⟨_, hal'⟩ := hq.resolve_right fun h => h.1 he
          refine vcLoad1_row (j := 1) (Ent.gnO (.there (.there (.there (.there (Take.app .here))))) (fun w hw => Ob.row_at hw)) rfl ?_
          refine vcCall_of (by exact .cons (Take.app (.there (.there .here))) (.cons (Take.app (.there (.there .here))) .nil)) (hdrop_spec hb s.A s.c s.held s.last a0.b cf.n cf.L oa _ (by omega)) (fun v own' N' hv => ?_)
          obtain ⟨A', c', rfl, rfl, rfl⟩ := hv
          exact ⟨⟨s.a, p', A', c', _, s.last⟩, ⟨hab, hal'.later (by omega)⟩, ⟨rfl, rfl, rfl, rfl, rfl, rfl, trivial⟩, ⟨_, .cons (Take.app (Take.app (.there .here))) (.cons .here (.cons .here Pick.front))⟩, fun _ _ => trivial⟩
        · obtain ⟨_, rfl⟩ := hq.resolve_left fun h => he h.1
          exact ⟨⟨s.a, s.p, s.A, s.c, s.held, s.last⟩, ⟨hab, hal.later (by omega)⟩, ⟨rfl, rfl, rfl, rfl, rfl, rfl, trivial⟩, ⟨_, .cons (Take.app (.there .here)) (.cons (Take.app (.there .here)) (.cons (Take.app (.there .here)) Pick.front))⟩, fun _ _ => trivial⟩
      refine vcIf_dec (fun h6 => ?_) (fun h6 => ?_)
      · refine vcLoad1_row (j := 1) (Ent.gnO .here (fun w hw => Ob.row_at hw)) rfl ?_
        refine vcLoad1_row (j := 3) (Ent.gnO .here (fun w hw => Ob.row_at hw)) rfl ?_
        refine vcLoad1_row (j := 2) (Ent.gnO .here (fun w hw => Ob.row_at hw)) rfl ?_
        have hc := release_spec s.a s.p oa og on
        rw [hab] at hc
        refine vcCall_of (by exact Pick.whole.under.under.under.under) (hc _ hokp (by omega)) (fun v own' N' hv => ?_)
        obtain ⟨e, p', rfl, rfl, rfl, hA⟩ := hv
        have hq := hal.rel hA
        refine vcIf_dec (fun he => ?_) (fun he => ?_)
        · obtain ⟨_, hal'⟩ := hq.resolve_right fun h => h.1 he
          refine vcLoad1_row (j := 1) (Ent.gnO (.there (.there (.there (.there (Take.app .here))))) (fun w hw => Ob.row_at hw)) rfl ?_
          refine vcCall_of (by exact .cons (Take.app (.there (.there .here))) (.cons (Take.app (.there (.there .here))) .nil)) (hdrop_spec hb s.A s.c s.held s.last a0.b cf.n cf.L oa _ (by omega)) (fun v own' N' hv => ?_)
          obtain ⟨A', c', rfl, rfl, rfl⟩ := hv
          exact ⟨⟨s.a, p', A', c', _, s.last⟩, ⟨hab, hal'⟩, ⟨rfl, rfl, rfl, rfl, rfl, rfl, trivial⟩, ⟨_, .cons (Take.app (Take.app (.there .here))) (.cons .here (.cons .here Pick.front))⟩, fun _ _ => trivial⟩
        · obtain ⟨_, rfl⟩ := hq.resolve_left fun h => he h.1
          exact ⟨⟨s.a, s.p, s.A, s.c, s.held, s.last⟩, ⟨hab, hal.later (by omega)⟩, ⟨rfl, rfl, rfl, rfl, rfl, rfl, trivial⟩, ⟨_, .cons (Take.app (.there .here)) (.cons (Take.app (.there .here)) (.cons (Take.app (.there .here)) Pick.front))⟩, fun _ _ => trivial⟩
      refine vcIf_dec (fun h8 => ?_) (fun h8 => ?_)
      · refine vcLoad1_row (j := 1) (Ent.gnO .here (fun w hw => Ob.row_at hw)) rfl ?_
        have hc := lost_spec s.a s.p oa
        rw [hab] at hc
        refine vcCall_of (by exact Pick.whole.under.under.under.under) (hc _) (fun v own' N' hv => ?_)
        obtain ⟨e, p', rfl, rfl, rfl, hA⟩ := hv
        have hq := hal.lost hA
        refine vcIf_dec (fun he => ?_) (fun he => ?_)
        · obtain ⟨_, hal'⟩ := hq.resolve_right fun h => h.1 he
          refine vcLoad1_row (j := 1) (Ent.gnO (.there (.there (.there (.there (Take.app .here))))) (fun w hw => Ob.row_at hw)) rfl ?_
          refine vcCall_of (by exact .cons (Take.app (.there (.there .here))) (.cons (Take.app (.there (.there .here))) .nil)) (hdrop_spec hb s.A s.c s.held s.last a0.b cf.n cf.L oa _ (by omega)) (fun v own' N' hv => ?_)
          obtain ⟨A', c', rfl, rfl, rfl⟩ := hv
          exact ⟨⟨s.a, p', A', c', _, s.last⟩, ⟨hab, hal'.later (by omega)⟩, ⟨rfl, rfl, rfl, rfl, rfl, rfl, trivial⟩, ⟨_, .cons (Take.app (Take.app (.there .here))) (.cons .here (.cons .here Pick.front))⟩, fun _ _ => trivial⟩
        · obtain ⟨_, rfl⟩ := hq.resolve_left fun h => he h.1
          exact ⟨⟨s.a, s.p, s.A, s.c, s.held, s.last⟩, ⟨hab, hal.later (by omega)⟩, ⟨rfl, rfl, rfl, rfl, rfl, rfl, trivial⟩, ⟨_, .cons (Take.app (.there .here)) (.cons (Take.app (.there .here)) (.cons (Take.app (.there .here)) Pick.front))⟩, fun _ _ => trivial⟩
      refine vcIf_dec (fun h7 => ?_) (fun h7 => ?_)
      · refine vcLoad1_row (j := 2) (Ent.gnO .here (fun w hw => Ob.row_at hw)) rfl ?_
        have hc := expire_spec sort_spec s.a s.p on
        rw [hab] at hc
        refine vcCall_of (by exact Pick.whole.under.under.under.under) (hc _ hokp (by omega)) (fun v own' N' hv => ?_)
        obtain ⟨A', c', gone, p', rfl, rfl, rfl, hA, hgl⟩ := hv
        obtain ⟨hal', hno⟩ := hal.expire hA
        generalize hOO : (.sl A' c' 3 1 (intL gone) :: plO s.a p') ++ [.row b9 47 (cellsL (.agg (popV (kd, oa, on, og)).toArray)) 4, .row b2 23 (cfgV cf) 6, hdR hb a0.b cf.L cf.n s.A s.held.length s.c s.last, hdS s.A s.c s.held] = OO
        have tG : Take (.sl A' c' 3 1 (intL gone)) OO (plO s.a p' ++ [.row b9 47 (cellsL (.agg (popV (kd, oa, on, og)).toArray)) 4, .row b2 23 (cfgV cf) 6, hdR hb a0.b cf.L cf.n s.A s.held.length s.c s.last, hdS s.A s.c s.held]) := hOO ▸ .here
        have tH : ∃ r, Take (hdR hb a0.b cf.L cf.n s.A s.held.length s.c s.last) OO r := by rw [← hOO]; exact ⟨_, Take.app (.there (.there .here))⟩
        have tS : ∃ r, Take (hdS s.A s.c s.held) OO r := by rw [← hOO]; exact ⟨_, Take.app (.there (.there (.there .here)))⟩
        have tE : ∃ r, Pick (saO b2 hb a0.b cf ⟨s.a, p', s.A, s.c, s.held, s.last⟩) OO r := by rw [← hOO]; exact ⟨_, .cons (Take.app (.there .here)) (.cons (Take.app (.there .here)) (.cons (Take.app (.there .here)) Pick.front.under))⟩
        clear hOO
        obtain ⟨rH, tH⟩ := tH
        obtain ⟨rS, tS⟩ := tS
        obtain ⟨rE, tE⟩ := tE
        refine vcLoop_of (fun i : Nat => gone.length - i) (fun i => [(2, .pointer (some ⟨b2, 0, none⟩)), (5, .pointer (some ⟨a0.b, 0, none⟩)), (7, .pointer (some ⟨hb, 0, none⟩)), (42, .slice (some ad) xs.length cx), (43, .int .i64 xs.length), (44, .int .i64 j), (135, .slice A' gone.length c'), (136, .int .i64 gone.length), (137, .int .i64 i)])
          (fun _ => OO) (fun _ => MT) (fun i => i ≤ gone.length) 0 (Nat.zero_le _) ⟨rfl, rfl, rfl, rfl, rfl, rfl, rfl, rfl, rfl, trivial⟩ ⟨_, Pick.whole⟩ (fun _ _ => trivial) ?_
        intro i hi
        refine vcIf_dec (fun hlt2 => ?_) (fun hge2 => ?_)
        · have hi' : i < gone.length := by omega
          refine vcIdx_nat i rfl (Ent.gnO tG (fun w hw => Ob.sl_at hw)) hi' (by simp) (fun ag hag => ?_)
          subst hag
          refine vcLoad1_row (v := .int .i64 gone[i]) (Ent.gnO tG (fun w hw => Ob.sl_at hw)) (by simp [hi']) ?_
          refine vcLoad1_row (j := 3) (Ent.gnO tH (fun w hw => Ob.row_at hw)) rfl ?_
          refine vcLoop_of (fun k : Nat => s.held.length - k) (fun k => [(2, .pointer (some ⟨b2, 0, none⟩)), (5, .pointer (some ⟨a0.b, 0, none⟩)), (7, .pointer (some ⟨hb, 0, none⟩)), (42, .slice (some ad) xs.length cx), (43, .int .i64 xs.length), (44, .int .i64 j), (135, .slice (some ag) gone.length c'), (136, .int .i64 gone.length), (137, .int .i64 i), (16, .int .i64 gone[i]), (144, .slice s.A s.held.length s.c), (145, .int .i64 s.held.length), (146, .int .i64 k)])
            (fun _ => OO) (fun _ => MT) (fun k => k ≤ s.held.length) 0 (Nat.zero_le _) ⟨rfl, rfl, rfl, rfl, rfl, rfl, rfl, rfl, rfl, rfl, rfl, rfl, rfl, trivial⟩ ⟨_, Pick.whole⟩ (fun _ _ => trivial) ?_
          intro k hk
          refine vcIf_dec (fun hlt3 => ?_) (fun hge3 => ?_)
          · have hk' : k < s.held.length := by omega
            refine vcIdx_nat k rfl (Ent.gnO tS (fun w hw => Ob.sl_at hw)) hk' (by simp) (fun ah hah => ?_)
            refine vcLoad1_row (v := .int .i64 s.held[k]) (Ent.gnO tS (fun w hw => hah ▸ Ob.sl_at hw)) (by simp [hk']) ?_
            refine vcIf_no (fun e => hno _ (List.getElem_mem hi') (e ▸ List.getElem_mem hk')) ?_
            refine vcFit_i64 (by first | omega | (simp only; omega)) ?_
            exact ⟨k + 1, by omega, by omega, ⟨rfl, rfl, rfl, rfl, rfl, rfl, rfl, rfl, rfl, rfl, rfl, rfl, rfl, trivial⟩, ⟨_, Pick.whole⟩, fun _ _ => trivial⟩
          · refine vcFit_i64 (by first | omega | (simp only; omega)) ?_
            exact ⟨i + 1, by omega, by omega, ⟨rfl, rfl, rfl, rfl, rfl, rfl, rfl, rfl, rfl, trivial⟩, ⟨_, Pick.whole⟩, fun _ _ => trivial⟩
        · exact ⟨⟨s.a, p', s.A, s.c, s.held, s.last⟩, ⟨hab, hal'.later (by omega)⟩, ⟨rfl, rfl, rfl, rfl, rfl, rfl, trivial⟩, ⟨_, tE⟩, fun _ _ => trivial⟩
      · exact ⟨s, ⟨hab, hal.later (by omega)⟩, ⟨rfl, rfl, rfl, rfl, rfl, rfl, trivial⟩, ⟨_, Pick.whole.under⟩, fun _ _ => trivial⟩
    · clear hal hab
      intro s hs
      obtain ⟨hab, hal⟩ := hs
      refine vcLoad1_row (j := 0) (Ent.gnO .here (fun w hw => Ob.row_at hw)) rfl ?_
      have hokp := hal.ok
      have hfew := hokp.few
      have hcn := hal.cn
      have hn := hokp.n
      have h0 : ∀ l ∈ s.p.ls, 0 ≤ l.b := fun l hl => (hokp.ls l hl).1.1
      refine vcLoop_of (fun k : Nat => cf.n.toNat - k) (fun k => [(2, .pointer (some ⟨b2, 0, none⟩)), (5, .pointer (some ⟨a0.b, 0, none⟩)), (7, .pointer (some ⟨hb, 0, none⟩)), (42, .slice (some ad) xs.length cx), (43, .int .i64 xs.length), (44, .int .i64 j), (19, .int .i64 (below k busyB s.p.ls)), (156, .int .i64 cf.n), (157, .int .i64 k)])
        (fun _ => saO b2 hb a0.b cf s) (fun _ => MT) (fun k => (k : Int) ≤ cf.n) 0 (by omega) ⟨rfl, rfl, rfl, rfl, rfl, rfl, by rw [below_zero h0]; rfl, rfl, rfl, trivial⟩ ⟨_, Pick.whole⟩ (fun _ _ => trivial) ?_
      intro k hk
      have hbl : below k busyB s.p.ls ≤ s.p.ls.length := List.countP_le_length
      refine vcIf_dec (fun hlt => ?_) (fun hge => ?_)
      · have hc := count_spec s.a s.p k
        rw [hab] at hc
        refine vcCall_of (by exact Pick.whole.under.under.under) (hc _ hokp (by omega)) (fun v own' N' hv => ?_)
        obtain ⟨rfl, rfl, rfl⟩ := hv
        have hbd := busy_diff s.p.ls k
        have hbs := below_succ k busyB s.p.ls
        have h1 : s.p.ls.countP (isB k) ≤ s.p.ls.length := List.countP_le_length
        refine vcFit_i64 (by first | omega | (simp only; omega)) ?_
        refine vcFit_i64 (by first | omega | (simp only; omega)) ?_
        refine vcFit_i64 (by first | omega | (simp only; omega)) ?_
        exact ⟨k + 1, (by first | omega | (simp only; omega)), (by first | omega | (simp only; omega)), ⟨rfl, rfl, rfl, rfl, rfl, rfl, congrArg (fun z => some (Value.int .i64 z)) (by omega), rfl, rfl, trivial⟩, ⟨_, .cons (Take.app .here) (.cons (Take.app .here) (.cons (Take.app .here) Pick.front))⟩, fun _ _ => trivial⟩
      · have hkn : (k : Int) = cf.n := by omega
        have hall : below k busyB s.p.ls = s.held.length := by
          rw [below_all (fun l hl => by have := (hokp.ls l hl).1.2; omega), hal.hd.length_eq, heldN_len]
        refine vcLoad1_row (j := 3) (Ent.gnO (.there .here) (fun w hw => Ob.row_at hw)) rfl ?_
        refine vcIf_nno (by omega) ?_
        refine vcFit_i64 (by first | omega | (simp only; omega)) ?_
        exact ⟨(j + 1, s), ⟨by omega, hab, hal⟩, (by first | omega | (simp only; omega)), ⟨rfl, rfl, rfl, rfl, rfl, rfl, trivial⟩, ⟨_, Pick.whole⟩, fun _ _ => trivial⟩
  · refine vcCall_of .nil (awake_spec _) (fun v own' N' hv => ?_); obtain ⟨rfl, rfl, rfl⟩ := hv
    exact fin _ _
end Go.Proofs.Ytekbimbohppfoaa
