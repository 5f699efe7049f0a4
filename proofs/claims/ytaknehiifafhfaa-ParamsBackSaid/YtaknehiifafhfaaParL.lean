/- Parameters: reading in the midst of other bytes; ParamsTwice. -/
import Derived.Test.YtaknehiifafhfaaParK
import Derived.Test.YtaknehiifafhfaaJoin
namespace Go.Proofs.Ytaknehiifafhfaa
open Go.Proofs
set_option maxRecDepth 20000

theorem vget_ctx {bs pre post : List UInt8} {p n en : Nat} (hp : p ≤ bs.length) (h : vget bs p = ((n : Int), (en : Int), 0)) : vget (pre ++ (bs ++ post)) ((pre.length + p : Nat) : Int) = ((n : Int), ((pre.length + en : Nat) : Int), 0) := by
  cases hd : bs.drop p with
  | nil => rw [vget_end hp hd] at h; simp at h
  | cons b r =>
    by_cases hs : r.length + 1 < 2 ^ (b.toNat / 64)
    · rw [vget_short hp hd hs] at h; simp at h
    · rw [vget_ok hp hd hs] at h
      simp only [Prod.mk.injEq] at h
      have hd2 : (pre ++ (bs ++ post)).drop (pre.length + p) = b :: (r ++ post) := by
        rw [← List.drop_drop, List.drop_left, List.drop_append_of_le_length hp, hd]; rfl
      rw [vget_ok (p := pre.length + p) (by simp; omega) hd2 (by simp; omega)]
      have htk : (r ++ post).take (2 ^ (b.toNat / 64) - 1) = r.take (2 ^ (b.toNat / 64) - 1) := List.take_append_of_le_length (by omega)
      rw [htk]
      simp only [Prod.mk.injEq, and_true]
      exact ⟨h.1, by omega⟩
theorem rnum_ctx {bs pre post : List UInt8} {p : Nat} (hp : p ≤ bs.length) (h : (rnum bs (p, 0)).2.2 = 0) : rnum (pre ++ (bs ++ post)) (pre.length + p, 0) = ((rnum bs (p, 0)).1, (pre.length + (rnum bs (p, 0)).2.1, 0)) := by
  rcases vget_cases bs p hp with ⟨e, he, hne⟩ | ⟨n, en, he, hle⟩
  · rw [rnum_no he hne] at h; exact absurd h hne
  · rw [rnum_ok he, rnum_ok (vget_ctx hp he)]
theorem rbytes_ctx {bs pre post : List UInt8} {n : Int} {p : Nat} (hp : p ≤ bs.length) (h : (rbytes bs n (p, 0)).2.2 = 0) : rbytes (pre ++ (bs ++ post)) n (pre.length + p, 0) = ((rbytes bs n (p, 0)).1, (pre.length + (rbytes bs n (p, 0)).2.1, 0)) := by
  by_cases hn : n < 0
  · rw [rbytes_neg hn] at h; simp at h
  by_cases hs : (bs.length : Int) - p < n
  · rw [rbytes_short hn hs] at h; simp at h
  obtain ⟨n, rfl⟩ := Int.eq_ofNat_of_zero_le (show 0 ≤ n by omega)
  rw [rbytes_ok hs, rbytes_ok (by simp; omega)]
  have : (pre ++ (bs ++ post)).drop (pre.length + p) = bs.drop p ++ post := by
    rw [← List.drop_drop, List.drop_left, List.drop_append_of_le_length hp]
  rw [this, List.take_append_of_le_length (by rw [List.length_drop]; omega), Nat.add_assoc]

/-- One parameter's bytes: id, value, the place behind, what is wrong. -/
def parseI (bs : List UInt8) (p : Nat) : Int × List UInt8 × Nat × Int :=
  ((rnum bs (p, 0)).1, (rbytes bs (rnum bs (rnum bs (p, 0)).2).1 (rnum bs (rnum bs (p, 0)).2).2).1, (rbytes bs (rnum bs (rnum bs (p, 0)).2).1 (rnum bs (rnum bs (p, 0)).2).2).2.1, (rbytes bs (rnum bs (rnum bs (p, 0)).2).1 (rnum bs (rnum bs (p, 0)).2).2).2.2)
def decOf (server : Bool) (s : DS) (x : Int × List UInt8 × Nat × Int) : Int ⊕ DS :=
  if x.2.2.2 ≠ 0 then .inl 12 else if x.1 ∈ s.seen then .inl 90 else if (takeP s.p x.1 x.2.1 server).2 = false then .inl 91 else .inr ⟨x.2.2.1, s.seen ++ [x.1], (takeP s.p x.1 x.2.1 server).1⟩
theorem decStep_eq (bs : List UInt8) (server : Bool) (s : DS) : decStep bs server s = decOf server s (parseI bs s.pos) := rfl
theorem parse_facts {bs : List UInt8} {p : Nat} (hp : p ≤ bs.length) (h : (parseI bs p).2.2.2 = 0) : (rnum bs (p, 0)).2.2 = 0 ∧ (rnum bs (rnum bs (p, 0)).2).2.2 = 0 ∧ (rnum bs (p, 0)).2.1 ≤ bs.length ∧ (rnum bs (rnum bs (p, 0)).2).2.1 ≤ bs.length := by
  have h : (rbytes bs (rnum bs (rnum bs (p, 0)).2).1 (rnum bs (rnum bs (p, 0)).2).2).2.2 = 0 := h
  have l1 := rnum_le bs (p, 0) hp
  have l2 := rnum_le bs (rnum bs (p, 0)).2 l1
  have f2 : (rnum bs (rnum bs (p, 0)).2).2.2 = 0 := by
    by_cases h' : (rnum bs (rnum bs (p, 0)).2).2.2 = 0
    · exact h'
    · rw [rbytes_fix h'] at h; exact absurd h h'
  exact ⟨(rnum_pos l1 f2).1, f2, l1, l2⟩
theorem parse_ctx {bs pre post : List UInt8} {p : Nat} (hp : p ≤ bs.length) (h : (parseI bs p).2.2.2 = 0) : parseI (pre ++ (bs ++ post)) (pre.length + p) = ((parseI bs p).1, (parseI bs p).2.1, pre.length + (parseI bs p).2.2.1, 0) := by
  obtain ⟨f1, f2, l1, l2⟩ := parse_facts hp h
  have h : (rbytes bs (rnum bs (rnum bs (p, 0)).2).1 (rnum bs (rnum bs (p, 0)).2).2).2.2 = 0 := h
  unfold parseI
  rw [rnum_ctx hp f1]
  generalize rnum bs (p, 0) = r1 at *
  obtain ⟨id, p1, g1⟩ := r1
  simp only at f1 f2 l1 l2 h ⊢
  subst f1
  rw [rnum_ctx l1 f2]
  generalize rnum bs (p1, 0) = r2 at *
  obtain ⟨n, p2, g2⟩ := r2
  simp only at f2 l2 h ⊢
  subst f2
  rw [rbytes_ctx l2 h]
theorem decOf_inl {server : Bool} {s : DS} {x : Int × List UInt8 × Nat × Int} {e : Int} (h : decOf server s x = .inl e) : e ≠ 0 := by
  unfold decOf at h
  split at h
  · cases h; decide
  split at h
  · cases h; decide
  split at h
  · cases h; decide
  · cases h
theorem decOf_inr {server : Bool} {s s' : DS} {x : Int × List UInt8 × Nat × Int} (h : decOf server s x = .inr s') : x.2.2.2 = 0 ∧ x.1 ∉ s.seen ∧ (takeP s.p x.1 x.2.1 server).2 = true ∧ s' = ⟨x.2.2.1, s.seen ++ [x.1], (takeP s.p x.1 x.2.1 server).1⟩ := by
  unfold decOf at h
  split at h
  · cases h
  rename_i h1
  split at h
  · cases h
  rename_i h2
  split at h
  · cases h
  rename_i h3
  cases h
  exact ⟨Classical.not_not.1 h1, h2, by simpa using h3, rfl⟩
theorem decOf_ok {server : Bool} {s : DS} {x : Int × List UInt8 × Nat × Int} (h1 : x.2.2.2 = 0) (h2 : x.1 ∉ s.seen) (h3 : (takeP s.p x.1 x.2.1 server).2 = true) : decOf server s x = .inr ⟨x.2.2.1, s.seen ++ [x.1], (takeP s.p x.1 x.2.1 server).1⟩ := by
  unfold decOf
  rw [if_neg (by simpa using h1), if_neg h2, if_neg (by simp [h3])]
theorem twice_go {bs : List UInt8} {server : Bool} {s : DS} {r : Pm × Int × Int} (h : ParD bs server s r) : r.2.2 = 0 → s.pos ≤ bs.length → 0 < bs.length → (parseI bs 0).2.2.2 = 0 → (parseI bs 0).1 ∈ s.seen → ParD (bs ++ bs) server s (zeroP, bs.length, 90) := by
  induction h with
  | @done s h =>
    intro _ hp hb h0 hin
    have hpos : s.pos = bs.length := by omega
    rw [← hpos]
    refine .err (by rw [List.length_append]; omega) ?_
    rw [decStep_eq, hpos]
    have := parse_ctx (bs := bs) (pre := bs) (post := []) (p := 0) (Nat.zero_le _) h0
    rw [List.append_nil, Nat.add_zero] at this
    rw [this]
    unfold decOf
    rw [if_neg (by simp), if_pos hin]
  | err h he =>
    intro he0
    rw [decStep_eq] at he
    exact absurd he0 (decOf_inl he)
  | @step s s' h he r k ih =>
    intro he0 hp hb h0 hin
    have hpp := decStep_pos hp he
    rw [decStep_eq] at he
    obtain ⟨h1, h2, h3, rfl⟩ := decOf_inr he
    refine .step (by rw [List.length_append]; omega) ?_ (ih he0 hpp.2 hb h0 (List.mem_append_left _ hin))
    have := parse_ctx (bs := bs) (pre := []) (post := bs) (p := s.pos) hp h1
    rw [List.nil_append, List.length_nil, Nat.zero_add, Nat.zero_add] at this
    rw [decStep_eq, this]
    exact decOf_ok rfl h2 h3
theorem twice {bs : List UInt8} {server : Bool} {r : Pm × Int × Int} (h : DecR bs server r) (he : r.2.2 = 0) (hb : 0 < bs.length) (hl : bs.length ≤ 8192) : DecR (bs ++ bs) server (zeroP, bs.length, 90) := by
  rcases h with ⟨hl', rfl⟩ | ⟨_, h⟩
  · omega
  refine .inr ⟨by rw [List.length_append]; omega, ?_⟩
  cases h with
  | done h => exact absurd h (by show ¬ bs.length ≤ 0; omega)
  | err h he' =>
    rw [decStep_eq] at he'
    exact absurd he (decOf_inl he')
  | step h hst k =>
    have hpp := decStep_pos (Nat.zero_le _) hst
    rw [decStep_eq] at hst
    obtain ⟨h1, h2, h3, rfl⟩ := decOf_inr hst
    have h1 : (parseI bs 0).2.2.2 = 0 := h1
    refine .step (by rw [List.length_append]; show 0 < _; omega) ?_ (twice_go k he hpp.2 hb h1 (List.mem_append_right _ (List.mem_singleton.2 rfl)))
    have := parse_ctx (bs := bs) (pre := []) (post := bs) (p := 0) (Nat.zero_le _) h1
    rw [List.nil_append, List.length_nil, Nat.zero_add, Nat.zero_add] at this
    rw [decStep_eq]
    show decOf server s0 (parseI (bs ++ bs) 0) = _
    rw [this]
    exact decOf_ok rfl h2 h3

theorem twice_spec (A : Option Addr) (c : Nat) (bs : List UInt8) (server : Bool) (G : Mp) (h1 : Ent G (RowAt A (Bs bs))) (hx : bs.length ≤ 140737488355328) :
    Spec Try.prog 4 #[.slice A bs.length c, .bool server] [] G (Ret (.bool true)) := by
  refine Spec.intro (args := [_, _]) wide Try.func4 rfl Try.call4 (by rfl) (by rfl) (fun w0 hw0 => ?_)
  refine vcCall_of .nil (copyG_spec A c bs _ (Ent.gnG h1) (by omega)) (fun v own' N0 hv => ?_)
  obtain ⟨A0, c0, rfl, rfl, k0, _⟩ := hv
  refine vcCall_of .nil (decode_spec A0 c0 bs server _ (Ent.gnN (Ent.andR k0)) hx) (fun v own' N1 hv => ?_)
  obtain ⟨As, r, rfl, rfl, hm, hA, hok, hd⟩ := hv
  intro b6
  refine ⟨(pC_len hok hA).trans (by rfl), vcStoreN_row (xs := pC nilAs zeroP) (m := 20) _ .here (by exact pC_len hok hA) (pC_one _ _) ?_⟩
  have fin : ∀ (b : Bool) (own : List Ob) (N : Mp), b = true → ∃ (own' rest : List Ob) (N' : Mp), Pick own' own rest ∧ (∀ w, N w → Objs rest w → N' w) ∧ Ret (.bool true) (.bool b) own' N' := fun b own N h => ⟨[], own, MT, .nil, fun _ _ _ => trivial, by rw [h], rfl, rfl⟩
  refine vcIf_ndec (fun he => ?_) (fun he => ?_)
  · refine vcCall_of .nil (awake9_spec _) (fun v own' N' hv => ?_); obtain ⟨rfl, rfl, rfl⟩ := hv
    exact fin _ _ _ rfl
  refine vcIf_dec (fun hl => ?_) (fun hl => ?_)
  · refine vcCall_of .nil (awake9_spec _) (fun v own' N' hv => ?_); obtain ⟨rfl, rfl, rfl⟩ := hv
    exact fin _ _ _ rfl
  refine vcIf_dec (fun hl2 => ?_) (fun hl2 => ?_)
  · refine vcCall_of .nil (awake9_spec _) (fun v own' N' hv => ?_); obtain ⟨rfl, rfl, rfl⟩ := hv
    exact fin _ _ _ rfl
  have h2 := twice hd he (by omega) (by omega)
  intro bj
  have hjp : pieces [(A, c, bs), (A, c, bs)] = bs ++ bs := by simp [pieces]
  have hjl : (bs ++ bs).length = bs.length + bs.length := List.length_append
  refine vcCall_of .nil (join_spec (some ⟨bj, 0, none⟩) 2 [(A, c, bs), (A, c, bs)] _ (Ent.gnO .here (fun w hw => Ob.sl_at hw)) (fun p hp => by
    simp only [List.mem_cons, List.not_mem_nil, or_false, or_self] at hp
    subst hp
    exact Ent.gnG h1) (by rw [hjp]; omega) (by simp)) (fun v own' N' hv => ?_)
  obtain ⟨Aj, cj, rfl, rfl, rfl, hcj⟩ := hv
  rw [hjp]
  refine vcCall_of .nil (decode_spec Aj cj (bs ++ bs) server _ (Ent.gnO .here (fun w hw => Ob.sl_at hw)) (by omega)) (fun v own' N2 hv => ?_)
  obtain ⟨As', r', rfl, rfl, hm', hA', hok', hd'⟩ := hv
  obtain rfl := hd'.unique h2
  intro b8
  refine ⟨(pC_len hok' hA').trans (by rfl), vcStoreN_row (xs := pC nilAs zeroP) (m := 20) _ .here (by exact pC_len hok' hA') (pC_one _ _) ?_⟩
  refine vcIf_yes rfl ?_
  refine vcCall_of .nil (awake9_spec _) (fun v own' N' hv => ?_); obtain ⟨rfl, rfl, rfl⟩ := hv
  exact fin _ _ _ rfl
end Go.Proofs.Ytaknehiifafhfaa
