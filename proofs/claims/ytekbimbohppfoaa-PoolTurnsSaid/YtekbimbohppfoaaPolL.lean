/- PoolTurns, walked. -/
import Derived.Test.YtekbimbohppfoaaPolK
namespace Go.Proofs.Ytekbimbohppfoaa
open Go.Proofs
set_option maxRecDepth 10000

def upTo (m : Nat) : List Int := (List.range m).map fun k : Nat => (k : Int)
theorem upTo_succ (m : Nat) : upTo (m + 1) = upTo m ++ [(m : Int)] := by simp [upTo, List.range_succ]
theorem upTo_len (m : Nat) : (upTo m).length = m := by simp [upTo]
theorem upTo_mem {m : Nat} {t : Int} (h : t ∈ upTo m) : t < m := by
  simp only [upTo, List.mem_map, List.mem_range] at h
  obtain ⟨k, hk, rfl⟩ := h
  omega
theorem upTo_drop {m t : Nat} (h : t < m) : (upTo m).drop t = (t : Int) :: (upTo m).drop (t + 1) := by
  rw [List.drop_eq_getElem_cons (by rw [upTo_len]; exact h)]
  simp [upTo]

theorem turns_spec (Q count : Int) (G : Mp) : Spec Try.prog 5 #[.int .i64 Q, .int .i64 count] [] G (Ret (.bool true)) := by
  refine Spec.intro (args := [_, _]) wide Try.func5 rfl Try.call5 (by rfl) (by rfl) (fun w0 hw0 => ?_)
  intro b5
  refine ⟨rfl, vcStoreN_row _ .here rfl (by simp [oneCell, cellsL]) ?_⟩
  refine vcLoadN_0 (Ent.gnO .here (fun w hw => Ob.row_at hw)) rfl ?_
  refine vcCall_of .nil (new_spec ⟨1, 1, Q, 9, 9, 9⟩ _) (fun v own' N' hv => ?_)
  have hcf : CfgOk ⟨1, 1, Q, 9, 9, 9⟩ ↔ 0 ≤ Q ∧ Q ≤ 256 := by
    unfold CfgOk; simp only; omega
  have fin : ∀ (own : List Ob) (N : Mp) (b : Bool), b = true → ∃ (own' rest : List Ob) (N' : Mp), Pick own' own rest ∧ (∀ w, N w → Objs rest w → N' w) ∧ (Value.bool b = .bool true ∧ own' = [] ∧ N' = MT) := fun own N b h => ⟨[], own, MT, .nil, fun _ _ _ => trivial, by rw [h], rfl, rfl⟩
  obtain ⟨rfl, ⟨h, rfl, rfl⟩ | ⟨h, a, rfl, rfl⟩⟩ := hv
  · rw [hcf] at h
    refine vcIf_dec (fun h1 => ?_) (fun h1 => ?_)
    · refine vcCall_of .nil (awake_spec _) (fun v own' N' hv => ?_); obtain ⟨rfl, rfl, rfl⟩ := hv
      exact fin _ _ _ rfl
    refine vcIf_yes (by omega) ?_
    · refine vcCall_of .nil (awake_spec _) (fun v own' N' hv => ?_); obtain ⟨rfl, rfl, rfl⟩ := hv
      exact fin _ _ _ rfl
  have hc := hcf.1 h
  refine vcIf_dec (fun hn1 => ?_) (fun hn1 => ?_)
  · refine vcCall_of .nil (awake_spec _) (fun v own' N' hv => ?_); obtain ⟨rfl, rfl, rfl⟩ := hv
    exact fin _ _ _ rfl
  refine vcIf_dec (fun hn2 => ?_) (fun hn2 => ?_)
  · refine vcCall_of .nil (awake_spec _) (fun v own' N' hv => ?_); obtain ⟨rfl, rfl, rfl⟩ := hv
    exact fin _ _ _ rfl
  have hp0 := newP_ok h
  refine vcCall_of (by exact Pick.front) (acquire_spec a (newP ⟨1, 1, Q, 9, 9, 9⟩) (-1) 0 _ hp0 (by show (0 : Int) ≤ _; decide) (by show (0 : Nat) ≤ _; decide)) (fun v own' N' hv => ?_)
  obtain ⟨k, l, b, e, p1, a1, rfl, rfl, rfl, hab1, hA⟩ := hv
  have hok1 := hA.ok hp0
  obtain ⟨rfl, hl, hb, rfl, blk, hp1⟩ := acq_dial hA rfl (by omega) ⟨0, by simp [newP], by simp [newP], by simp [newP]⟩ (by simp [newP]) (by show (0 : Int) < 1; decide)
  intro b8
  refine ⟨rfl, vcStoreN_row _ .here rfl (int3 _ _ _) ?_⟩
  refine vcLoad1_row (Ent.gnO .here (fun w hw => Ob.row_at hw)) rfl ?_
  have ho := opened_spec a1 p1 1
  rw [hab1] at ho
  refine vcCall_of (by exact Pick.front.under) (ho _ hok1) (fun v own' N' hv => ?_)
  obtain ⟨e, p2, rfl, rfl, rfl, hO⟩ := hv
  have hok2 := hO.ok hok1
  obtain ⟨rfl, hone⟩ : e = 0 ∧ One Q 1 [] p2 ∧ p2.order = 0 := by
    subst hp1
    rcases hO with ⟨h1, _⟩ | ⟨pa, y, pc, hls, _, _, he, rfl⟩
    · exact absurd rfl (h1 _ (List.mem_append_right _ (List.mem_singleton.2 rfl)) rfl)
    · obtain ⟨rfl, rfl, rfl⟩ := one_split hls
      exact ⟨he, ⟨hok2, rfl, rfl, rfl, rfl, rfl, rfl, _, rfl, rfl, rfl, rfl⟩, rfl⟩
  refine vcLoop_of (fun g : Nat × Pl × PlA => (count - g.1).toNat) (fun g => [(0, .int .i64 Q), (1, .int .i64 count), (6, .pointer (some ⟨g.2.2.b, 0, none⟩)), (66, .int .i64 count), (67, .int .i64 g.1)])
    (fun g => plO g.2.2 g.2.1) (fun _ => MT) (fun g => (g.1 : Int) ≤ count ∧ One Q 1 (upTo (min g.1 Q.toNat)) g.2.1 ∧ g.2.1.order = 0) (0, p2, a1) ⟨by simp only; omega, by simpa [upTo] using hone.1, hone.2⟩ ⟨rfl, rfl, by rw [← hab1]; rfl, rfl, rfl, trivial⟩ ⟨_, Pick.front⟩ (fun _ _ => trivial) ?_
  clear hO hok2 hone ho hA hp1 hok1 hl hb
  rintro ⟨t, p, a'⟩ ⟨htc, hs, ho0⟩
  simp only at htc hs ho0
  have hlast := hs.last
  have hlen1 : p.ls.length = 1 := by obtain ⟨x, hx, _⟩ := hs.ls; rw [hx]; rfl
  refine vcIf_dec (fun hlt => ?_) (fun hge => ?_)
  · simp only at hlt
    refine vcCall_of (by exact Pick.whole) (acquire_spec a' p t 0 _ hs.ok (by omega) (by omega)) (fun v own' N' hv => ?_)
    obtain ⟨kd, l, b, e, p', a2, rfl, rfl, rfl, hab, hA⟩ := hv
    have ho' : p'.order = p.order := by
      rcases hA with ⟨_, _, _, _, _, rfl⟩ | ⟨_, _, _, _, _, _, rfl⟩ | ⟨_, _, _, ⟨_, _, _, _, rfl⟩ | ⟨_, ⟨_, _, h1⟩ | ⟨_, _, _, ⟨_, _, rfl⟩ | ⟨_, _, rfl⟩⟩⟩⟩
      · rfl
      · rfl
      · rfl
      · rcases h1 with ⟨_, _, _, rfl, _⟩ | ⟨_, _, _, _, _, _, ⟨_, _, _, _, _, _, _, rfl⟩ | ⟨_, _, _, _, _, rfl⟩⟩ <;> rfl
      · rfl
      · rfl
    obtain ⟨rfl, hw⟩ := hs.wait hA (fun hm => by have := upTo_mem hm; omega)
    rw [upTo_len] at hw
    have hkd : (kd = 3 ↔ (t : Int) < Q) ∧ (kd = 4 ↔ Q ≤ t) ∧ One Q 1 (upTo (min (t + 1) Q.toNat)) p' := by
      rcases hw with ⟨h1, rfl, h2⟩ | ⟨h1, rfl, h2⟩
      · refine ⟨⟨fun h => by omega, fun h => by omega⟩, ⟨fun _ => by omega, fun _ => rfl⟩, ?_⟩
        rwa [show min (t + 1) Q.toNat = min t Q.toNat from by omega]
      · refine ⟨⟨fun _ => by omega, fun _ => rfl⟩, ⟨fun h => by omega, fun h => by omega⟩, ?_⟩
        have e1 : min t Q.toNat = t := by omega
        rw [e1] at h2
        rw [show min (t + 1) Q.toNat = t + 1 from by omega, upTo_succ]
        exact h2
    intro b11
    refine ⟨rfl, vcStoreN_row _ .here rfl (int3 _ _ _) ?_⟩
    refine vcLoad1_row (Ent.gnO .here (fun w hw => Ob.row_at hw)) rfl ?_
    refine vcIf_is false (by simp [hkd.1]) ?_
    refine vcLoad1_row (Ent.gnO .here (fun w hw => Ob.row_at hw)) rfl ?_
    refine vcIf_is false (by simp [hkd.2.1]) ?_
    refine vcFit_i64 (by first | omega | (simp only; omega)) ?_
    exact ⟨(t + 1, p', a2), ⟨(by first | omega | (simp only; omega)), hkd.2.2, ho'.trans ho0⟩, (by first | omega | (simp only; omega)), ⟨rfl, rfl, by rw [← hab]; rfl, rfl, rfl, trivial⟩, ⟨_, Pick.front.under⟩, fun _ _ => trivial⟩
  simp only at hge
  obtain rfl : (t : Int) = count := by omega
  generalize hM : min t Q.toNat = M at *
  refine vcLoop_of (fun g : Nat × Pl × PlA => M - g.1) (fun g => [(6, .pointer (some ⟨g.2.2.b, 0, none⟩)), (99, .int .i64 M), (100, .int .i64 g.1)])
    (fun g => plO g.2.2 g.2.1) (fun _ => MT) (fun g => g.1 ≤ M ∧ One Q 1 ((upTo M).drop g.1) g.2.1 ∧ g.2.1.order ≤ g.1) (0, p, a') ⟨Nat.zero_le _, hs, by simp only; omega⟩ ⟨rfl, congrArg (fun z => some (Value.int .i64 z)) (by split <;> omega), rfl, trivial⟩ ⟨_, Pick.whole⟩ (fun _ _ => trivial) ?_
  clear hs ho0 hlast hlen1
  rintro ⟨j, p, a'⟩ ⟨hjM, hs, ho0⟩
  simp only at hjM hs ho0
  refine vcIf_dec (fun hlt => ?_) (fun hge => ?_)
  · have hj : j < M := (by first | omega | (simp only; omega))
    rw [upTo_drop hj] at hs
    have hlast := hs.last
    have hlen1 : p.ls.length = 1 := by obtain ⟨x, hx, _⟩ := hs.ls; rw [hx]; rfl
    refine vcCall_of (by exact Pick.whole) (serve_spec a' p 0 _ hs.ok (by omega) (by omega)) (fun v own' N' hv => ?_)
    obtain ⟨u, k, l, b, ok, p', a2, rfl, rfl, rfl, hab, hS⟩ := hv
    obtain ⟨rfl, rfl⟩ := hs.serveNo hS
    intro b15
    refine ⟨rfl, vcStoreN_row _ .here rfl (int3 _ _ _) ?_⟩
    have hr := release_spec a2 p' 1 true 0
    rw [hab] at hr
    refine vcCall_of (by exact Pick.front.under) (hr _ hs.ok (by omega)) (fun v own' N' hv => ?_)
    obtain ⟨e, p3, rfl, rfl, rfl, hR⟩ := hv
    have hok3 := hR.ok hs.ok
    obtain ⟨rfl, hs3, ho3⟩ := hs.release hok3 hR
    have hlast3 := hs3.last
    have hlen3 : p3.ls.length = 1 := by obtain ⟨x, hx, _⟩ := hs3.ls; rw [hx]; rfl
    have hse := serve_spec a2 p3 0
    rw [hab] at hse
    refine vcCall_of (by exact Pick.front) (hse _ hok3 (by omega) (by omega)) (fun v own' N' hv => ?_)
    obtain ⟨u2, k2, l2, b2, ok, p4, a4, rfl, rfl, rfl, hab4, hS2⟩ := hv
    have hok4 := hS2.ok hok3
    obtain ⟨rfl, rfl, rfl, rfl, rfl, hs4, ho4⟩ := hs3.serveYes hS2 hok4
    intro b18
    refine ⟨rfl, vcStoreN_row _ .here rfl (int3 _ _ _) ?_⟩
    refine vcDraw_mix [0,1,2,3,4,5,6,7,8,9,10,11] (RowAt (some ⟨b18, 0, none⟩) [.int .i64 2, .int .i64 1, .int .i64 0]) (by kernel_rfl) (Ent.gnO .here (fun w hw => Ob.row_at hw)) ?_
    refine vcIf_nno rfl ?_
    refine vcLoadN_0 Ent.refl rfl ?_
    refine vcCall_of .nil (grant_spec 2 1 0 _) (fun v own' N' hv => ?_); obtain ⟨rfl, rfl, rfl⟩ := hv
    refine vcMix_same (Ent.gnO .here (fun w hw => Ob.row_at hw)) ?_
    refine vcEqA_of [.i .i64, .i .i64, .i .i64] (by kernel_rfl) rfl rfl _ gr_inj ?_
    rw [decide_eq_true (show (2 : Int) = 2 ∧ (1 : Int) = 1 ∧ (0 : Int) = 0 from ⟨rfl, rfl, rfl⟩)]
    refine vcFit_i64 (by first | omega | (simp only; omega)) ?_
    exact ⟨(j + 1, p4, a4), ⟨(by first | omega | (simp only; omega)), hs4, by simp only; omega⟩, (by first | omega | (simp only; omega)), ⟨by rw [← hab4]; rfl, rfl, rfl, trivial⟩, ⟨_, Pick.front.under⟩, fun _ _ => trivial⟩
  refine vcCall_of .nil (awake_spec _) (fun v own' N' hv => ?_); obtain ⟨rfl, rfl, rfl⟩ := hv
  exact fin _ _ _ rfl
end Go.Proofs.Ytekbimbohppfoaa
