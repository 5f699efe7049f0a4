/- Parameters: Decode, walked. -/
import Derived.Test.YtaknehiifafhfaaParC
namespace Go.Proofs.Ytaknehiifafhfaa
open Go.Proofs
set_option maxRecDepth 10000

def decT (As : List SlA) (r : Pm × Int × Int) : Value := .tuple #[pA As r.1, .int .i64 r.2.1, .int .i64 r.2.2]
def DecPost (bs : List UInt8) (server : Bool) (v : Value) (own : List Ob) (N : Mp) : Prop := ∃ As r, v = decT As r ∧ own = [] ∧ Ent N (PmAt As r.1) ∧ As.length = 4 ∧ r.1.Ok ∧ DecR bs server r
theorem PmAt.zero (w : World) (p : Pm) (h : p.bys = [[], [], [], []]) : PmAt nilAs p w := by
  intro x hx
  rw [h] at hx
  simp only [nilAs, List.zip_cons_cons, List.zip_nil_right, List.mem_cons, List.not_mem_nil, or_false, or_self] at hx
  subst hx
  exact RowAt.nil
theorem PmAt.take {As : List SlA} {p : Pm} {id : Int} {A : Option Addr} {c : Nat} {val : List UInt8} {server : Bool} {w : World} (h : PmAt As p w) (hv : RowAt A (Bs val) w) : PmAt (takeA As id (A, c)) (takeP p id val server).1 w := by
  cases hit : itemT id with
  | num j lo hi =>
    have e1 : takeA As id (A, c) = As := by unfold takeA; rw [hit]
    have e2 : (takeP p id val server).1.bys = p.bys := by unfold takeP; rw [hit]
    unfold PmAt
    rw [e1, e2]; exact h
  | txt j lo hi s =>
    have e1 : takeA As id (A, c) = As.set j (A, c) := by unfold takeA; rw [hit]
    have e2 : (takeP p id val server).1.bys = p.bys.set j val := by unfold takeP; rw [hit]
    unfold PmAt
    rw [e1, e2]
    intro x hx
    rw [zip_set] at hx
    rcases List.mem_or_eq_of_mem_set hx with hx | rfl
    · exact h x hx
    · exact hv
  | none =>
    have e1 : takeA As id (A, c) = As := by unfold takeA; rw [hit]
    have e2 : (takeP p id val server).1.bys = p.bys := by unfold takeP; rw [hit]; simp only; split <;> rfl
    unfold PmAt
    rw [e1, e2]; exact h

theorem rbytes_len (bs : List UInt8) (n : Int) (s : Nat × Int) : (rbytes bs n s).1.length ≤ bs.length := by
  unfold rbytes
  split
  · exact Nat.zero_le _
  · split
    · exact Nat.zero_le _
    · split
      · exact Nat.zero_le _
      · rw [List.length_take, List.length_drop]; omega
theorem decode_spec (A : Option Addr) (c : Nat) (bs : List UInt8) (server : Bool) (G : Mp) (h1 : Ent G (RowAt A (Bs bs))) (hx : bs.length ≤ 140737488355328) :
    Spec Try.prog 9 #[.slice A bs.length c, .bool server] [] G (DecPost bs server) := by
  refine Spec.intro (args := [_, _]) wide Try.func9 rfl Try.call9 (by rfl) (by rfl) (fun w0 hw0 => ?_)
  intro b4
  have out : ∀ (r : Pm × Int × Int) (own : List Ob) (N : Mp), DecR bs server r → r.1 = zeroP → ∃ (own' rest : List Ob) (N' : Mp), Pick own' own rest ∧ (∀ w, N w → Objs rest w → N' w) ∧ DecPost bs server (decT nilAs r) own' N' := fun r own N h hz => by
    refine ⟨[], own, MT, .nil, fun _ _ _ => trivial, nilAs, r, rfl, rfl, fun w _ => PmAt.zero w _ (by rw [hz]; rfl), rfl, by rw [hz]; exact zeroP_ok, h⟩
  refine vcIf_dec (fun h0 => ?_) (fun h0 => ?_)
  · refine ⟨rfl, vcStoreN_row _ .here rfl (pC_one nilAs zeroP) ?_⟩
    refine vcLoadN_0 (Ent.gnO .here (fun w hw => Ob.row_at hw)) rfl ?_
    exact out (zeroP, 0, 52) _ _ (.inl ⟨by omega, rfl⟩) rfl
  have hlen : bs.length ≤ 16384 := by omega
  refine vcCall_of .nil (usual_spec _) (fun v own' N' hv => ?_)
  obtain ⟨rfl, rfl, rfl⟩ := hv
  refine ⟨rfl, vcStoreN_row _ .here rfl (pC_one nilAs usualP) ?_⟩
  refine vcCall_of .nil (vopen_spec A c bs _ (Ent.gnG h1) (by omega)) (fun v own' N' hv => ?_)
  obtain ⟨rb, A2, c2, rfl, rfl, rfl, hc2⟩ := hv
  intro mb
  refine vcLoop_of (fun g : DS × List SlA × Ents × Nat => bs.length - g.1.pos) (fun g => [(1, .bool server), (4, .pointer (some ⟨b4, 0, none⟩)), (7, .pointer (some ⟨rb, 0, none⟩)), (8, .map (some mb))])
    (fun g => [.map mb (mI .i64 g.2.2.1) g.2.2.2, .row rb 87 (rdV A2 c2 bs.length g.1.pos 0) 3, .sl A2 c2 5 1 (Bs bs), .row b4 25 (pC g.2.1 g.1.p) 20]) (fun g => PmAt g.2.1 g.1.p)
    (fun g => g.1.pos ≤ bs.length ∧ g.1.p.Ok ∧ g.2.1.length = 4 ∧ SeenM g.1.seen g.2.2.1 ∧ ∀ r, ParD bs server g.1 r → ParD bs server s0 r)
    (s0, nilAs, [], 0) ⟨Nat.zero_le _, usualP_ok, rfl, ⟨fun _ _ => rfl, fun _ h => by cases h⟩, fun _ h => h⟩ ⟨rfl, rfl, rfl, rfl, trivial⟩ ⟨_, .cons .here (.cons .here (.cons .here (.cons .here .nil)))⟩ (fun w _ => PmAt.zero w _ rfl) ?_
  rintro ⟨s, As, l, clock⟩ ⟨hp, hok, hA, hsn, hD⟩
  simp only at hp hok hA hsn hD
  refine vcCall_of (.cons (.there .here) .nil) (left_spec rb A2 c2 bs s.pos 0 _ (by omega) hp) (fun v own' N' hv => ?_)
  obtain ⟨rfl, rfl, rfl⟩ := hv
  rw [show rleft bs (s.pos, 0) = (bs.length : Int) - s.pos from if_neg (by simp)]
  refine vcIf_dec (fun hlt => ?_) (fun hge => ?_)
  · have hpl := pC_len hok hA
    have hlt' : s.pos < bs.length := by omega
    have hst := @decStep_pos bs server s
    have herr := @ParD.err bs server s hlt'
    have hstep := @ParD.step bs server s
    unfold decStep at hst herr hstep
    refine vcCall_of (.cons .here .nil) (at_spec rb A2 c2 bs.length s.pos 0 _) (fun v own' N' hv => ?_)
    obtain ⟨rfl, rfl, rfl⟩ := hv
    refine vcCall_of (.cons .here .nil) (number_spec rb A2 c2 bs s.pos 0 _ (Ent.gnO (.there .here) (fun w hw => Ob.sl_at hw)) hc2 (by omega) hp) (fun v own' N' hv => ?_)
    obtain ⟨rfl, rfl, rfl⟩ := hv
    have l1 := rnum_le bs (s.pos, 0) hp
    generalize hr1 : rnum bs (s.pos, 0) = r1 at *
    obtain ⟨id, p1, f1⟩ := r1
    simp only at l1 hst herr hstep ⊢
    refine vcCall_of (.cons .here .nil) (number_spec rb A2 c2 bs p1 f1 _ (Ent.gnO (.there .here) (fun w hw => Ob.sl_at hw)) hc2 (by omega) l1) (fun v own' N' hv => ?_)
    obtain ⟨rfl, rfl, rfl⟩ := hv
    have l2 := rnum_le bs (p1, f1) l1
    generalize hr2 : rnum bs (p1, f1) = r2 at *
    obtain ⟨n, p2, f2⟩ := r2
    simp only at l2 hst herr hstep ⊢
    refine vcCall_of (.cons .here .nil) (bytesG_spec rb A2 c2 bs n p2 f2 _ (Ent.gnO (.there .here) (fun w hw => Ob.sl_at hw)) hc2 (by omega) l2) (fun v own' N' hv => ?_)
    obtain ⟨Av, cv, rfl, rfl, hval, hcv⟩ := hv
    have l3 := rbytes_le bs n (p2, f2) l2
    have l4 := rbytes_len bs n (p2, f2)
    generalize hr3 : rbytes bs n (p2, f2) = r3 at *
    obtain ⟨val, p3, f3⟩ := r3
    simp only at l3 l4 hst herr hstep hval hcv ⊢
    refine vcCall_of (.cons .here .nil) (fault_spec rb A2 c2 bs.length p3 f3 _) (fun v own' N' hv => ?_)
    obtain ⟨rfl, rfl, rfl⟩ := hv
    refine vcIf_ndec (fun hf => ?_) (fun hf => ?_)
    · refine ⟨rfl, vcStoreN_row (xs := pC As s.p) (m := 20) _ (by first | ((repeat (first | exact .here | apply Take.there)); done) | exact .none_) (by rw [hpl]; rfl) (pC_one nilAs zeroP) ?_⟩
      refine vcLoadN_0 (Ent.gnO .here (fun w hw => Ob.row_at hw)) rfl ?_
      exact out (zeroP, s.pos, 12) _ _ (.inr ⟨hlen, hD _ (herr (if_pos hf))⟩) rfl
    rw [if_neg (by simpa using hf)] at hst herr hstep
    obtain rfl : f3 = 0 := hf
    have hsub : ∀ e, (e : Nat) = e := fun _ => rfl
    by_cases hin : id ∈ s.seen
    · obtain ⟨bo, hg⟩ := hsn.yes id hin
      refine ⟨rfl, l, clock, Ent.gnO (by first | ((repeat (first | exact .here | apply Take.there)); done) | exact .none_) (fun w h => h), _, hg, ?_⟩
      refine vcFit_i64 (by first | omega | (simp only; omega)) ?_
      refine vcMapSet.old rfl l clock _ (by first | ((repeat (first | exact .here | apply Take.there)); done) | exact .none_) _ hg ?_
      refine ⟨rfl, _, clock, Ent.gnO .here (fun w h => h), _, getE_set hg, ?_⟩
      refine ⟨rfl, vcStoreN_row (xs := pC As s.p) (m := 20) _ (by first | ((repeat (first | exact .here | apply Take.there)); done) | exact .none_) (by rw [hpl]; rfl) (pC_one nilAs zeroP) ?_⟩
      refine vcLoadN_0 (Ent.gnO .here (fun w hw => Ob.row_at hw)) rfl ?_
      exact out (zeroP, s.pos, 90) _ _ (.inr ⟨hlen, hD _ (herr (if_pos hin))⟩) rfl
    rw [if_neg hin] at hst herr hstep
    have hg := hsn.no id hin
    refine ⟨rfl, l, clock, Ent.gnO (by first | ((repeat (first | exact .here | apply Take.there)); done) | exact .none_) (fun w h => h), _, hg, ?_⟩
    refine vcFit_i64 (by omega) ?_
    refine vcMapSet.new rfl l clock _ (by first | ((repeat (first | exact .here | apply Take.there)); done) | exact .none_) hg ?_
    refine ⟨rfl, _, _, Ent.gnO .here (fun w h => h), _, (getE_new hg).trans (if_pos rfl), ?_⟩
    refine vcCall_of (.cons (by first | ((repeat (first | exact .here | apply Take.there)); done) | exact .none_) .nil) (take_spec b4 As s.p id Av cv val server 20 _ hok hA (Ent.gnN (by repeat first | exact hval | exact Ent.andR hval | refine Ent.andL ?_)) hcv (by omega)) (fun v own' N' hv => ?_)
    obtain ⟨rfl, rfl, rfl⟩ := hv
    have htk := takeP_ok hok id val server
    have hta := takeA_len hA id (Av, cv)
    cases ht : (takeP s.p id val server).2 with
    | false =>
      refine ⟨rfl, vcStoreN_row (xs := pC (takeA As id (Av, cv)) (takeP s.p id val server).1) (m := 20) _ .here (by rw [pC_len htk hta]; rfl) (pC_one nilAs zeroP) ?_⟩
      refine vcLoadN_0 (Ent.gnO .here (fun w hw => Ob.row_at hw)) rfl ?_
      exact out (zeroP, s.pos, 91) _ _ (.inr ⟨hlen, hD _ (herr (if_pos ht))⟩) rfl
    | true =>
      rw [if_neg (by rw [ht]; simp)] at hst hstep
      have hpp := hst hp rfl
      simp only at hpp
      refine ⟨(⟨p3, s.seen ++ [id], (takeP s.p id val server).1⟩, takeA As id (Av, cv), l ++ [(id, .int .i64 (0 + 1), clock)], clock + 1), ⟨hpp.2, htk, hta, hsn.add hin clock, fun r hr => hD r (hstep hlt' rfl hr)⟩, by simp only; omega, ⟨rfl, rfl, rfl, rfl, trivial⟩, ⟨_, .cons (by first | ((repeat (first | exact .here | apply Take.there)); done) | exact .none_) (.cons (by first | ((repeat (first | exact .here | apply Take.there)); done) | exact .none_) (.cons (by first | ((repeat (first | exact .here | apply Take.there)); done) | exact .none_) (.cons (by first | ((repeat (first | exact .here | apply Take.there)); done) | exact .none_) .nil)))⟩, ?_⟩
      intro w hw
      have hv : RowAt Av (Bs val) w := (by repeat first | exact Ent.andR hval | refine Ent.andL ?_ : Ent _ (RowAt Av (Bs val))) w hw
      have hp0 : PmAt As s.p w := (by repeat first | exact Ent.refl | refine Ent.andL ?_ : Ent _ (PmAt As s.p)) w hw
      exact hp0.take hv
  · have hend : bs.length ≤ s.pos := by omega
    refine vcLoadN_0 (Ent.gnO (by first | ((repeat (first | exact .here | apply Take.there)); done) | exact .none_) (fun w hw => Ob.row_at hw)) (pC_len hok hA) ?_
    refine ⟨(pC_len hok hA).trans (by rfl), vcStoreN_row (xs := pC As s.p) (m := 20) _ (by first | ((repeat (first | exact .here | apply Take.there)); done) | exact .none_) (by rfl) (pC_one As s.p) ?_⟩
    refine vcLoadN_0 (Ent.gnO .here (fun w hw => Ob.row_at hw)) (pC_len hok hA) ?_
    refine ⟨[], _, PmAt As s.p, .nil, fun w hw _ => (by repeat first | exact Ent.refl | refine Ent.andL ?_ : Ent _ (PmAt As s.p)) w hw, As, (s.p, 0, 0), rfl, rfl, Ent.refl, hA, hok, .inr ⟨hlen, hD _ (.done hend)⟩⟩
end Go.Proofs.Ytaknehiifafhfaa
