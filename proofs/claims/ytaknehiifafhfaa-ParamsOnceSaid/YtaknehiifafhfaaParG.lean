/- Parameters: the reference's Decode. -/
import Derived.Test.YtaknehiifafhfaaParF
namespace Go.Proofs.Ytaknehiifafhfaa
open Go.Proofs
set_option maxRecDepth 10000

abbrev intL (l : List Int) : List Value := l.map fun n => .int .i64 n
theorem intL_one (l : List Int) : ∀ v ∈ intL l, oneCell v = true := by
  intro v hv
  rw [List.mem_map] at hv
  obtain ⟨n, _, rfl⟩ := hv
  rfl
theorem rbytesG_spec (b : Nat) (A : Option Addr) (c : Nat) (bs : List UInt8) (n : Int) (p : Nat) (f : Int) (G : Mp) (h1 : Ent G (RowAt A (Bs bs))) (hc : bs.length ≤ c) (hm : bs.length ≤ 211106232532992) (hp : p ≤ bs.length) :
    Spec Try.prog 32 #[.pointer (some ⟨b, 0, none⟩), .int .i64 n] [.row b 63 (rdV A c bs.length p f) 3] G (fun v own N => ∃ A' c', v = .slice A' (rbytes bs n (p, f)).1.length c' ∧ own = [.row b 63 (rdV A c bs.length (rbytes bs n (p, f)).2.1 (rbytes bs n (p, f)).2.2) 3] ∧ Ent N (RowAt A' (Bs (rbytes bs n (p, f)).1)) ∧ (rbytes bs n (p, f)).1.length ≤ c') :=
  (rrbytes_spec b A c bs n p f G h1 hc hm hp).dropP fun v own N hv => by
    obtain ⟨A', c', rfl, rfl, rfl, hc⟩ := hv
    exact ⟨[_], [.sl A' c' 5 1 (Bs (rbytes bs n (p, f)).1)], RowAt A' (Bs (rbytes bs n (p, f)).1), .cons (.there .here) .nil, fun w _ ho => Ob.sl_at (ho _ (List.mem_singleton.2 rfl)), A', c', rfl, rfl, Ent.refl, hc⟩
def rdecT (As : List SlA) (r : Pm × Int × Int) : Value := .tuple #[.agg (refC As r.1).toArray, .int .i64 r.2.1, .int .i64 r.2.2]
def RDecPost (bs : List UInt8) (server : Bool) (v : Value) (own : List Ob) (N : Mp) : Prop := ∃ As r, v = rdecT As r ∧ own = [] ∧ Ent N (PmAt As r.1) ∧ As.length = 4 ∧ r.1.Ok ∧ DecR bs server r

theorem rdecode_spec (A : Option Addr) (c : Nat) (bs : List UInt8) (server : Bool) (G : Mp) (h1 : Ent G (RowAt A (Bs bs))) (hc : bs.length ≤ c) :
    Spec Try.prog 10 #[.slice A bs.length c, .bool server] [] G (RDecPost bs server) := by
  refine Spec.intro (args := [_, _]) wide Try.func10 rfl Try.call10 (by rfl) (by rfl) (fun w0 hw0 => ?_)
  intro b4
  have out : ∀ (r : Pm × Int × Int) (own : List Ob) (N : Mp), DecR bs server r → r.1 = zeroP → ∃ (own' rest : List Ob) (N' : Mp), Pick own' own rest ∧ (∀ w, N w → Objs rest w → N' w) ∧ RDecPost bs server (rdecT nilAs r) own' N' := fun r own N h hz => by
    refine ⟨[], own, MT, .nil, fun _ _ _ => trivial, nilAs, r, rfl, rfl, fun w _ => PmAt.zero w _ (by rw [hz]; rfl), rfl, by rw [hz]; exact zeroP_ok, h⟩
  refine vcIf_dec (fun h0 => ?_) (fun h0 => ?_)
  · refine ⟨rfl, vcStoreN_row (xs := refC nilAs zeroP) (m := 52) _ .here rfl (refC_one nilAs zeroP) ?_⟩
    refine vcLoadN_0 (Ent.gnO .here (fun w hw => Ob.row_at hw)) rfl ?_
    exact out (zeroP, 0, 52) _ _ (.inl ⟨by omega, rfl⟩) rfl
  have hlen : bs.length ≤ 16384 := by omega
  refine vcCall_of .nil (rusual_spec _) (fun v own' N' hv => ?_)
  obtain ⟨rfl, rfl, rfl⟩ := hv
  intro b7
  refine ⟨rfl, vcStoreN_row (xs := refC nilAs zeroP) (m := 52) _ .here rfl (refC_one nilAs usualP) ?_⟩
  intro rb
  refine vcLoop_of (fun g : DS × List SlA × Option Addr × Nat => bs.length - g.1.pos) (fun g => [(1, .bool server), (4, .pointer (some ⟨b4, 0, none⟩)), (7, .pointer (some ⟨b7, 0, none⟩)), (8, .pointer (some ⟨rb, 0, none⟩)), (9, .slice g.2.2.1 g.1.seen.length g.2.2.2)])
    (fun g => [.row rb 63 (rdV A c bs.length g.1.pos 0) 3, .row b7 33 (refC g.2.1 g.1.p) 52, .row b4 33 (refC nilAs zeroP) 52, .sl g.2.2.1 g.2.2.2 3 1 (intL g.1.seen)]) (fun g => PmAt g.2.1 g.1.p)
    (fun g => g.1.pos ≤ bs.length ∧ g.1.p.Ok ∧ g.2.1.length = 4 ∧ g.1.seen.length ≤ g.1.pos ∧ ∀ r, ParD bs server g.1 r → ParD bs server s0 r)
    (s0, nilAs, none, 0) ⟨Nat.zero_le _, usualP_ok, rfl, Nat.le_refl _, fun _ h => h⟩ ⟨rfl, rfl, rfl, rfl, rfl, trivial⟩ ⟨_, .cons .here (.cons .here (.cons .here (.cons .none_ .nil)))⟩ (fun w _ => PmAt.zero w _ rfl) ?_
  rintro ⟨s, As, Aq, cq⟩ ⟨hp, hok, hA, hsl, hD⟩
  simp only at hp hok hA hsl hD
  refine vcCall_of (.cons .here .nil) (rleft_spec rb A c bs s.pos 0 _ (by omega) hp) (fun v own' N' hv => ?_)
  obtain ⟨rfl, rfl, rfl⟩ := hv
  rw [show rleft bs (s.pos, 0) = (bs.length : Int) - s.pos from if_neg (by simp)]
  refine vcIf_dec (fun hlt => ?_) (fun hge => ?_)
  · have hlt' : s.pos < bs.length := by omega
    have hst := @decStep_pos bs server s
    have herr := @ParD.err bs server s hlt'
    have hstep := @ParD.step bs server s
    unfold decStep at hst herr hstep
    refine vcLoad1_row (Ent.gnO .here (fun w hw => Ob.row_at hw)) rfl ?_
    refine vcCall_of (.cons .here .nil) (rnumber_spec rb A c bs s.pos 0 _ (Ent.gnG h1) hc (by omega) hp) (fun v own' N' hv => ?_)
    obtain ⟨rfl, rfl, rfl⟩ := hv
    have l1 := rnum_le bs (s.pos, 0) hp
    generalize hr1 : rnum bs (s.pos, 0) = r1 at *
    obtain ⟨id, p1, f1⟩ := r1
    simp only at l1 hst herr hstep ⊢
    refine vcCall_of (.cons .here .nil) (rnumber_spec rb A c bs p1 f1 _ (Ent.gnG h1) hc (by omega) l1) (fun v own' N' hv => ?_)
    obtain ⟨rfl, rfl, rfl⟩ := hv
    have l2 := rnum_le bs (p1, f1) l1
    generalize hr2 : rnum bs (p1, f1) = r2 at *
    obtain ⟨n, p2, f2⟩ := r2
    simp only at l2 hst herr hstep ⊢
    refine vcCall_of (.cons .here .nil) (rbytesG_spec rb A c bs n p2 f2 _ (Ent.gnG h1) hc (by omega) l2) (fun v own' N' hv => ?_)
    obtain ⟨Av, cv, rfl, rfl, hval, hcv⟩ := hv
    have l3 := rbytes_le bs n (p2, f2) l2
    have l4 := rbytes_len bs n (p2, f2)
    generalize hr3 : rbytes bs n (p2, f2) = r3 at *
    obtain ⟨val, p3, f3⟩ := r3
    simp only at l3 l4 hst herr hstep hval hcv ⊢
    refine vcLoad1_row (Ent.gnO .here (fun w hw => Ob.row_at hw)) rfl ?_
    refine vcIf_ndec (fun hf => ?_) (fun hf => ?_)
    · refine ⟨rfl, vcStoreN_row (xs := refC nilAs zeroP) (m := 52) _ (by first | ((repeat (first | exact .here | apply Take.there)); done) | exact .none_) rfl (refC_one nilAs zeroP) ?_⟩
      refine vcLoadN_0 (Ent.gnO .here (fun w hw => Ob.row_at hw)) rfl ?_
      exact out (zeroP, s.pos, 12) _ _ (.inr ⟨hlen, hD _ (herr (if_pos hf))⟩) rfl
    rw [if_neg (by simpa using hf)] at hst herr hstep
    obtain rfl : f3 = 0 := hf
    refine vcLoop_of (fun k : Nat => s.seen.length - k) (fun k => [(1, .bool server), (4, .pointer (some ⟨b4, 0, none⟩)), (7, .pointer (some ⟨b7, 0, none⟩)), (8, .pointer (some ⟨rb, 0, none⟩)), (9, .slice Aq s.seen.length cq), (10, .int .i64 s.pos), (11, .int .i64 id), (13, .slice Av val.length cv), (14, .int .i64 k)])
      (fun _ => [.row rb 63 (rdV A c bs.length p3 0) 3, .row b7 33 (refC As s.p) 52, .row b4 33 (refC nilAs zeroP) 52, .sl Aq cq 3 1 (intL s.seen)]) (fun _ => MpAnd (PmAt As s.p) (RowAt Av (Bs val)))
      (fun k => k ≤ s.seen.length ∧ ∀ x ∈ s.seen.take k, x ≠ id) 0 ⟨Nat.zero_le _, by simp⟩ ⟨rfl, rfl, rfl, rfl, rfl, rfl, rfl, rfl, rfl, trivial⟩ ⟨_, .cons (by first | ((repeat (first | exact .here | apply Take.there)); done) | exact .none_) (.cons (by first | ((repeat (first | exact .here | apply Take.there)); done) | exact .none_) (.cons (by first | ((repeat (first | exact .here | apply Take.there)); done) | exact .none_) (.cons (by first | ((repeat (first | exact .here | apply Take.there)); done) | exact .none_) .nil)))⟩
      (fun w hw => ⟨(by repeat first | exact Ent.refl | refine Ent.andL ?_ : Ent _ (PmAt As s.p)) w hw, (by repeat first | exact Ent.andR hval | refine Ent.andL ?_ : Ent _ (RowAt Av (Bs val))) w hw⟩) ?_
    rintro k ⟨hk, hno⟩
    refine vcIf_dec (fun hlt2 => ?_) (fun hge2 => ?_)
    · have hk' : k < s.seen.length := by omega
      refine vcIdx_nat k rfl (Ent.gnO (by first | ((repeat (first | exact .here | apply Take.there)); done) | exact .none_) (fun w hw => Ob.sl_at hw)) hk' (by simp) (fun a ha => ?_)
      subst ha
      refine vcLoad1_row (v := .int .i64 s.seen[k]) (Ent.gnO (by first | ((repeat (first | exact .here | apply Take.there)); done) | exact .none_) (fun w hw => Ob.sl_at hw)) (by simp [hk']) ?_
      refine vcIf_dec (fun hq => ?_) (fun hq => ?_)
      · refine ⟨rfl, vcStoreN_row (xs := refC nilAs zeroP) (m := 52) _ (by first | ((repeat (first | exact .here | apply Take.there)); done) | exact .none_) rfl (refC_one nilAs zeroP) ?_⟩
        refine vcLoadN_0 (Ent.gnO .here (fun w hw => Ob.row_at hw)) rfl ?_
        exact out (zeroP, s.pos, 90) _ _ (.inr ⟨hlen, hD _ (herr (if_pos (hq ▸ List.getElem_mem hk')))⟩) rfl
      · refine vcFit_i64 (by omega) ?_
        refine ⟨k + 1, ⟨by omega, fun x hx => ?_⟩, by omega, ⟨rfl, rfl, rfl, rfl, rfl, rfl, rfl, rfl, rfl, trivial⟩, ⟨_, .cons (by first | ((repeat (first | exact .here | apply Take.there)); done) | exact .none_) (.cons (by first | ((repeat (first | exact .here | apply Take.there)); done) | exact .none_) (.cons (by first | ((repeat (first | exact .here | apply Take.there)); done) | exact .none_) (.cons (by first | ((repeat (first | exact .here | apply Take.there)); done) | exact .none_) .nil)))⟩, Ent.refl⟩
        rw [List.take_succ_eq_append_getElem hk', List.mem_append, List.mem_singleton] at hx
        rcases hx with hx | rfl
        · exact hno x hx
        · exact hq
    obtain rfl : k = s.seen.length := by omega
    rw [List.take_length] at hno
    have hin : id ∉ s.seen := fun h => hno id h rfl
    rw [if_neg hin] at hst herr hstep
    intro bx
    refine vcApp_of (intL s.seen) _ (intL [id]) (by first | ((repeat (first | exact .here | apply Take.there)); done) | exact .none_) (by simp) rfl (by omega) (intL_one _) (Ent.gnO .here (fun w hw => Ob.sl_at hw)) (by omega) (by omega) (fun A3 c3 hc3 => ?_)
    rw [show intL s.seen ++ intL [id] = intL (s.seen ++ [id]) from (List.map_append ..).symm]
    refine vcCall_of (.cons (by first | ((repeat (first | exact .here | apply Take.there)); done) | exact .none_) .nil) (rtake_spec b7 As s.p id Av cv val server _ hok hA (Ent.gnN (Ent.andR Ent.refl)) (by omega)) (fun v own' N' hv => ?_)
    obtain ⟨rfl, rfl, rfl⟩ := hv
    have htk := takeP_ok hok id val server
    have hta := takeA_len hA id (Av, cv)
    have hsp := takeP_split hok id val server
    have bad : (takeP s.p id val server).2 = false → ∀ (own : List Ob) (N : Mp), ∃ (own' rest : List Ob) (N' : Mp), Pick own' own rest ∧ (∀ w, N w → Objs rest w → N' w) ∧ RDecPost bs server (rdecT nilAs (zeroP, s.pos, 91)) own' N' :=
      fun ht own N => out (zeroP, s.pos, 91) _ _ (.inr ⟨hlen, hD _ (herr (if_pos ht))⟩) rfl
    cases hrt : rtakeOk id val with
    | false =>
      rw [hrt, Bool.false_and] at hsp
      refine ⟨rfl, vcStoreN_row (xs := refC nilAs zeroP) (m := 52) _ (by first | ((repeat (first | exact .here | apply Take.there)); done) | exact .none_) rfl (refC_one nilAs zeroP) ?_⟩
      refine vcLoadN_0 (Ent.gnO .here (fun w hw => Ob.row_at hw)) rfl ?_
      exact bad hsp _ _
    | true =>
    rw [hrt, Bool.true_and] at hsp
    refine vcLoadN_0 (Ent.gnO .here (fun w hw => Ob.row_at hw)) (refC_len _ _) ?_
    refine vcCall_of .nil (rightID_spec (takeA As id (Av, cv)) (takeP s.p id val server).1 id server _) (fun v own' N' hv => ?_); obtain ⟨rfl, rfl, rfl⟩ := hv
    rw [← hsp]
    cases ht : (takeP s.p id val server).2 with
    | false =>
      refine ⟨rfl, vcStoreN_row (xs := refC nilAs zeroP) (m := 52) _ (by first | ((repeat (first | exact .here | apply Take.there)); done) | exact .none_) rfl (refC_one nilAs zeroP) ?_⟩
      refine vcLoadN_0 (Ent.gnO .here (fun w hw => Ob.row_at hw)) rfl ?_
      exact bad ht _ _
    | true =>
      rw [if_neg (by rw [ht]; simp)] at hst hstep
      have hpp := hst hp rfl
      simp only at hpp
      have hl1 : (s.seen ++ [id]).length = s.seen.length + 1 := by simp
      refine ⟨(⟨p3, s.seen ++ [id], (takeP s.p id val server).1⟩, takeA As id (Av, cv), A3, c3), ⟨hpp.2, htk, hta, by simp only [hl1]; omega, fun r hr => hD r (hstep hlt' rfl hr)⟩, by simp only; omega, ⟨rfl, rfl, rfl, rfl, by simp only [hl1]; rfl, trivial⟩, ⟨_, .cons (by first | ((repeat (first | exact .here | apply Take.there)); done) | exact .none_) (.cons (by first | ((repeat (first | exact .here | apply Take.there)); done) | exact .none_) (.cons (by first | ((repeat (first | exact .here | apply Take.there)); done) | exact .none_) (.cons (by first | ((repeat (first | exact .here | apply Take.there)); done) | exact .none_) .nil)))⟩, ?_⟩
      intro w hw
      have hv : MpAnd (PmAt As s.p) (RowAt Av (Bs val)) w := (by repeat first | exact Ent.refl | refine Ent.andL ?_ : Ent _ (MpAnd (PmAt As s.p) (RowAt Av (Bs val)))) w hw
      exact hv.1.take hv.2
  · have hend : bs.length ≤ s.pos := by omega
    refine vcLoadN_0 (Ent.gnO (by first | ((repeat (first | exact .here | apply Take.there)); done) | exact .none_) (fun w hw => Ob.row_at hw)) (refC_len _ _) ?_
    refine ⟨(refC_len _ _).trans (by rfl), vcStoreN_row (xs := refC nilAs zeroP) (m := 52) _ (by first | ((repeat (first | exact .here | apply Take.there)); done) | exact .none_) (by exact refC_len _ _) (refC_one As s.p) ?_⟩
    refine vcLoadN_0 (Ent.gnO .here (fun w hw => Ob.row_at hw)) (refC_len _ _) ?_
    refine ⟨[], _, PmAt As s.p, .nil, fun w hw _ => (by repeat first | exact Ent.refl | refine Ent.andL ?_ : Ent _ (PmAt As s.p)) w hw, As, (s.p, 0, 0), rfl, rfl, Ent.refl, hA, hok, .inr ⟨hlen, hD _ (.done hend)⟩⟩
end Go.Proofs.Ytaknehiifafhfaa
