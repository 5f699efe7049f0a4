/- ReasmWhole. -/
import Derived.Test.YteomgafghiockaaReaO
namespace Go.Proofs.Yteomgafghiockaa
open Go.Proofs
set_option maxRecDepth 10000

theorem ltr_snoc (l : List Bool) (x : Bool) : ltr (l ++ [x]) = if x = true ∧ ltr l = l.length then l.length + 1 else ltr l := by
  obtain ⟨h1, h2⟩ := ltr_get (H := l)
  have hle := ltr_le l
  by_cases c : ltr l = l.length
  · by_cases hx : x = true
    · rw [if_pos ⟨hx, c⟩]
      refine ltr_at (fun i hi => ?_) ?_
      · rcases Nat.lt_or_ge i l.length with h | h
        · rw [List.getElem?_append_left h]; exact h1 i (by omega)
        · rw [List.getElem?_append_right h, show i - l.length = 0 from by omega]; simp [hx]
      · rw [List.getElem?_eq_none (by simp)]; simp
    · rw [if_neg (fun h => hx h.1)]
      refine ltr_at (fun i hi => ?_) ?_
      · rw [List.getElem?_append_left (by omega)]; exact h1 i hi
      · rw [c, List.getElem?_append_right (Nat.le_refl _), Nat.sub_self]
        simpa using hx
  · rw [if_neg (fun h => c h.2)]
    refine ltr_at (fun i hi => ?_) ?_
    · rw [List.getElem?_append_left (by omega)]; exact h1 i hi
    · rw [List.getElem?_append_left (by omega)]; exact h2
/-- What is had. -/
structure Had (S : List UInt8) (known : Bool) (r : Rb) (H : List Bool) : Prop where
  agr : Agr S known r
  off : r.off = 0
  len : H.length = S.length
  at_ : ∀ i : Nat, i < S.length → H[i]? = some (mAt r.ps i).isSome
theorem Had.rel {S : List UInt8} {known : Bool} {r : Rb} {H : List Bool} (h : Had S known r H) (hS : S.length ≤ 65536) : Rel r ⟨65536, 0, r.high, decide (0 ≤ r.final), if 0 ≤ r.final then r.final else 0, S, H⟩ := by
  refine ⟨h.agr.ok, h.agr.room.symm, h.off.symm, rfl, rfl, rfl, h.len.symm, by rw [h.agr.room]; have := h.len; simp only; omega, fun i => ?_⟩
  rw [h.off, Int.zero_add]
  unfold vw
  simp only
  cases hm : mAt r.ps i with
  | none =>
    rcases Nat.lt_or_ge i S.length with hi | hi
    · rw [h.at_ i hi, hm]; simp
    · have := h.len
      rw [List.getElem?_eq_none (by omega)]; simp
  | some v =>
    obtain ⟨_, h2⟩ := h.agr.at_ _ _ hm
    rw [Int.toNat_natCast] at h2
    have hi : i < S.length := by
      rcases Nat.lt_or_ge i S.length with hi | hi
      · exact hi
      · rw [List.getElem?_eq_none hi] at h2; cases h2
    rw [h.at_ i hi, hm, if_pos (by rfl), h2]
theorem Had.put {S : List UInt8} {known : Bool} {r : Rb} {H H' : List Bool} (h : Had S known r H) (hS : S.length ≤ 65536) {at_ : Int} {d : List UInt8} {last : Bool} (h0 : 0 ≤ at_) (h1 : at_ + (d.length : Int) ≤ S.length) (h2 : last = true → at_ + (d.length : Int) = S.length)
    (h3 : ∀ i : Nat, i < d.length → d[i]? = S[at_.toNat + i]?) (hl : H'.length = H.length) (hH : ∀ k : Nat, k < H.length → H'[k]? = some ((H[k]? == some true) || decide (at_ ≤ k ∧ (k : Int) < at_ + d.length))) : Had S (known || last) (putP r at_ d last).2.2 H' := by
  obtain ⟨he, hag⟩ := h.agr.put hS h0 h1 h2 h3
  refine ⟨hag, (putP_off at_ d last).1.trans h.off, hl.trans h.len, fun i hi => ?_⟩
  rw [hH i (by rw [h.len]; exact hi), h.at_ i hi, putP_mAt at_ d last h.agr.ok]
  congr 1
  have hoff := h.off
  by_cases c : at_ ≤ i ∧ (i : Int) < at_ + d.length
  · rw [if_pos ⟨he, by omega⟩]
    obtain ⟨v, hv⟩ : ∃ v, d[((i : Int) - at_).toNat]? = some v := ⟨_, List.getElem?_eq_getElem (by omega)⟩
    rw [hv]
    cases mAt r.ps i <;> simp [c]
  · rw [if_neg (fun h => c (by omega)), Option.or_none]
    cases hm : (mAt r.ps i).isSome <;> simp [c]
structure WhS where
  m : RbM
  r : Rb
  known : Bool
  Ah : Option Addr
  ch : Nat
  H : List Bool
theorem rwhole_spec (As : Option Addr) (cs : Nat) (S : List UInt8) (Ax : Option Addr) (cx : Nat) (xs : List CutI) (G : Mp) (hS : Ent G (RowAt As (Bs S))) (hsc : S.length ≤ cs) (hG : Ent G (RowAt Ax (xs.flatMap cutV)))
    (hb : ∀ c ∈ xs, (-9223372036854775808 ≤ c.1 ∧ c.1 ≤ 9223372036854775807) ∧ (-9223372036854775808 ≤ c.2 ∧ c.2 ≤ 9223372036854775807)) (hx : xs.length ≤ 1000000000000000) :
    Spec Try.prog 5 #[.slice As S.length cs, .slice Ax xs.length cx] [] G (Ret (.bool true)) := by
  refine Spec.intro (args := [_, _]) wide Try.func5 rfl Try.call5 (by rfl) (by rfl) (fun w0 hw0 => ?_)
  have fin : ∀ (own : List Ob) (N : Mp), ∃ (own' rest : List Ob) (N' : Mp), Pick own' own rest ∧ (∀ w, N w → Objs rest w → N' w) ∧ (Value.bool true = .bool true ∧ own' = [] ∧ N' = MT) := fun own N => ⟨[], own, MT, .nil, fun _ _ _ => trivial, rfl, rfl, rfl⟩
  refine vcCall_of .nil (rnew_spec 65536 _) (fun v own' N' hv => ?_)
  obtain ⟨rfl, ⟨h, rfl, rfl⟩ | ⟨h, b, rfl, rfl⟩⟩ := hv
  · exact absurd ⟨by decide, by decide⟩ h
  refine vcIf_dec (fun hlong => ?_) (fun hshort => ?_)
  · refine ⟨[], _, MT, .nil, fun _ _ _ => trivial, congrArg Value.bool (decide_eq_true hlong), rfl, rfl⟩
  have hSl : S.length ≤ 65536 := by omega
  refine vcLoop_of (fun g : Nat × Option Addr × Nat => S.length - g.1) (fun g => [(0, .slice As S.length cs), (1, .slice Ax xs.length cx), (5, .pointer (some ⟨b, 0, none⟩)), (7, .slice g.2.1 (List.replicate g.1 false).length g.2.2), (43, .int .i64 S.length), (44, .int .i64 g.1)])
    (fun g => .sl g.2.1 g.2.2 4 1 (boolL (List.replicate g.1 false)) :: rbO b ⟨none, 0, []⟩ (newR 65536)) (fun _ => MT) (fun g => g.1 ≤ S.length) (0, none, 0) (Nat.zero_le _) ⟨rfl, rfl, rfl, rfl, rfl, rfl, trivial⟩ ⟨_, .cons .none_ (.cons .here (.cons .here .nil))⟩ (fun _ _ => trivial) ?_
  rintro ⟨j, Ah, ch⟩ hj
  simp only at hj
  refine vcIf_dec (fun hlt => ?_) (fun hge => ?_)
  · have hj' : j < S.length := by have h9 : (j : Int) < (S.length : Int) := hlt; omega
    intro bn
    refine vcApp_of (boolL (List.replicate j false)) _ (boolL [false]) (.there .here) (by simp) rfl (by omega) (boolL_one _) (Ent.gnO .here (fun w hw => Ob.sl_at hw)) (by simp only [List.length_replicate]; omega) (by simp only [List.length_replicate]; omega) (fun A2 c2 hc2 => ?_)
    rw [← List.map_append, ← List.replicate_succ']
    refine vcFit_i64 (by first | omega | (simp only; omega)) ?_
    exact ⟨(j + 1, A2, c2), hj', by simp only; omega, ⟨rfl, rfl, rfl, by simp only [List.length_replicate]; rfl, rfl, rfl, trivial⟩, ⟨_, .cons .here (.cons (.there .here) (.cons (.there .here) .nil))⟩, fun _ _ => trivial⟩
  have hjS : j = S.length := by have h9 : ¬ (j : Int) < (S.length : Int) := hge; omega
  subst hjS
  have had0 : Had S false (newR 65536) (List.replicate S.length false) := by
    refine ⟨Agr.new S, rfl, by simp, fun i hi => ?_⟩
    rw [List.getElem?_replicate, if_pos hi]; rfl
  refine vcLoop_of (fun g : Nat × WhS => xs.length - g.1) (fun g => [(0, .slice As S.length cs), (5, .pointer (some ⟨b, 0, none⟩)), (7, .slice g.2.Ah g.2.H.length g.2.ch), (8, .int .i64 (total g.2.r.ps)), (50, .slice Ax xs.length cx), (51, .int .i64 xs.length), (52, .int .i64 g.1)])
    (fun g => .sl g.2.Ah g.2.ch 4 1 (boolL g.2.H) :: rbO b g.2.m g.2.r) (fun g => PcsAt g.2.m.l) (fun g => g.1 ≤ xs.length ∧ RbAt g.2.m g.2.r ∧ Had S g.2.known g.2.r g.2.H) (0, ⟨⟨none, 0, []⟩, newR 65536, false, Ah, ch, List.replicate S.length false⟩) ⟨Nat.zero_le _, rfl, had0⟩
    ⟨rfl, rfl, rfl, rfl, rfl, rfl, rfl, trivial⟩ ⟨_, .cons .here (.cons .here (.cons .here .nil))⟩ (fun _ _ p hp => by cases hp) ?_
  rintro ⟨j, ⟨m, r, known, Ah, ch, H⟩⟩ ⟨hj, hm, had⟩
  simp only at hj hm had
  have hag := had.agr
  have hHl := had.len
  have htot := hag.ok.few.2
  refine vcIf_dec (fun hlt => ?_) (fun hge => ?_)
  · have hj' : j < xs.length := by have h9 : (j : Int) < (xs.length : Int) := hlt; omega
    refine vcIdx_nats (s := 2) j rfl (Ent.gnG hG) hj' (by rw [flatMap_len cutV_len]; exact Nat.le_refl _) (by omega) (fun ad had => ?_)
    subst had
    refine vcLoadN_1 (cutV xs[j]) (Ent.gnG hG) rfl (flatMap_chunk cutV_len xs j hj') ?_
    intro b10
    refine ⟨rfl, vcStoreN_row _ .here rfl (cutV_one xs[j]) ?_⟩
    have hbc := hb _ (List.getElem_mem hj')
    generalize xs[j] = cc at hbc ⊢
    refine vcLoadN_0 (xs := cutV cc) (Ent.gnO .here (fun w hw => Ob.row_at hw)) rfl ?_
    refine vcCall_of .nil (piece_spec As cs S cc _ (Ent.gnG hS) hSl hsc hbc) (fun v own' N' hv => ?_)
    obtain ⟨Ap, cp, rfl, rfl, hNp, hcp⟩ := hv
    obtain ⟨q1, q2, q3, q4⟩ := piece_all S cc
    generalize (pieceP S cc).1 = at_ at q1 q2 q3 q4 ⊢
    generalize (pieceP S cc).2.2 = last at q3 ⊢
    generalize (pieceP S cc).2.1 = d at q2 q3 q4 hNp hcp ⊢
    obtain ⟨he, hag2⟩ := hag.put hSl q1 q2 q3 q4
    refine vcCall_of (.cons (.there (.there .here)) (.cons (.there (.there .here)) .nil)) (put_spec b m r at_ Ap cp d last _ hag.ok hm (Ent.gnN (Ent.andR hNp)) hcp (by omega)) (fun v own' N2 hv => ?_)
    obtain ⟨m2, rfl, rfl, hm2, hE2⟩ := hv
    rw [he]
    have hfr := putP_fresh (r := r) at_ d last
    have htot2 := hag2.ok.few.2
    refine vcFit_i64 (by show -9223372036854775808 ≤ (total r.ps : Int) + (putP r at_ d last).1 ∧ (total r.ps : Int) + (putP r at_ d last).1 ≤ 9223372036854775807; omega) ?_
    refine vcLoop_of (fun g : Nat × List Bool => d.length - g.1) (fun g => [(0, .slice As S.length cs), (5, .pointer (some ⟨b, 0, none⟩)), (7, .slice Ah H.length ch), (8, .int .i64 (total (putP r at_ d last).2.2.ps)), (11, .int .i64 at_), (50, .slice (some ad) xs.length cx), (51, .int .i64 xs.length), (52, .int .i64 j), (77, .int .i64 d.length), (78, .int .i64 g.1)])
      (fun g => .sl Ah ch 4 1 (boolL g.2) :: rbO b m2 (putP r at_ d last).2.2) (fun _ => PcsAt m2.l) (fun g => g.1 ≤ d.length ∧ g.2.length = H.length ∧ ∀ k : Nat, k < H.length → g.2[k]? = some ((H[k]? == some true) || decide (at_ ≤ k ∧ (k : Int) < at_ + g.1)))
      (0, H) ⟨Nat.zero_le _, rfl, fun k hk => ?_⟩ ⟨rfl, rfl, rfl, congrArg (fun z => some (Value.int .i64 z)) (by show (total r.ps : Int) + (putP r at_ d last).1 = _; omega), rfl, rfl, rfl, rfl, rfl, rfl, trivial⟩ ⟨_, .cons (.there (.there (.there .here))) (.cons .here (.cons .here .nil))⟩ (fun w hw => hE2 w ⟨hw.1.1, hw.2⟩) ?_
    · have c0 : ¬ (at_ ≤ k ∧ (k : Int) < at_ + ((0 : Nat) : Int)) := by omega
      show H[k]? = some ((H[k]? == some true) || decide (at_ ≤ k ∧ (k : Int) < at_ + ((0 : Nat) : Int)))
      rw [List.getElem?_eq_getElem hk, decide_eq_false c0, Bool.or_false]
      cases H[k] <;> rfl
    rintro ⟨i, H2⟩ ⟨hi, hl2, hH2⟩
    simp only at hi hl2 hH2
    refine vcIf_dec (fun hlt => ?_) (fun hge => ?_)
    · have hi' : i < d.length := by have h9 : (i : Int) < (d.length : Int) := hlt; omega
      refine vcFit_i64 (by show _ ≤ at_ + (i : Int) ∧ at_ + (i : Int) ≤ _; omega) ?_
      obtain ⟨k, hk⟩ : ∃ k : Nat, at_ + (i : Int) = k := ⟨(at_ + i).toNat, by omega⟩
      have hkH : k < H.length := by omega
      refine vcIdx_nat k hk (Ent.gnO .here (fun w hw => Ob.sl_at hw)) hkH (by simp only [List.length_map]; omega) (fun a ha => ?_)
      subst ha
      refine vcStore1_1 (.sl (some a) ch 4 1 (boolL H2)) _ .here rfl (by show k + 0 < (boolL H2).length; rw [List.length_map]; omega) rfl ?_
      refine vcFit_i64 (by first | omega | (simp only; omega)) ?_
      refine ⟨(i + 1, H2.set k true), ⟨by simp only; omega, by simp only [List.length_set]; exact hl2, fun q hq => ?_⟩, by simp only; omega, ⟨rfl, rfl, rfl, rfl, rfl, rfl, rfl, rfl, rfl, rfl, trivial⟩, ⟨_, .cons (Take.eq (by simp [List.map_set, Ob.set])) (.cons .here (.cons .here .nil))⟩, Ent.refl⟩
      simp only
      by_cases hqk : q = k
      · subst hqk
        have c : at_ ≤ q ∧ (q : Int) < at_ + ((i + 1 : Nat) : Int) := by omega
        rw [List.getElem?_set_self (by omega), decide_eq_true c, Bool.or_true]
      · rw [List.getElem?_set_ne (fun e => hqk e.symm), hH2 q hq]
        congr 2
        exact decide_eq_decide.2 ⟨fun h => by omega, fun h => by omega⟩
    · have hie : i = d.length := by have h9 : ¬ (i : Int) < (d.length : Int) := hge; omega
      subst hie
      refine vcFit_i64 (by first | omega | (simp only; omega)) ?_
      exact ⟨(j + 1, ⟨m2, (putP r at_ d last).2.2, known || last, Ah, ch, H2⟩), ⟨by simp only; omega, hm2, had.put hSl q1 q2 q3 q4 hl2 hH2⟩, by simp only; omega, ⟨rfl, rfl, by rw [← hl2]; rfl, rfl, rfl, rfl, rfl, trivial⟩, ⟨_, Pick.whole⟩, Ent.refl⟩
  have hrel := had.rel hSl
  have hheld := hrel.held
  have hready := hrel.ready
  have hltr := ltr_le H
  simp only at hheld hready
  refine vcLoop_of (fun k : Nat => H.length - k) (fun k => [(0, .slice As S.length cs), (5, .pointer (some ⟨b, 0, none⟩)), (7, .slice Ah H.length ch), (8, .int .i64 (total r.ps)), (17, .int .i64 ((H.take k).countP id)), (18, .int .i64 (ltr (H.take k))), (88, .slice Ah H.length ch), (89, .int .i64 H.length), (90, .int .i64 k)])
    (fun _ => .sl Ah ch 4 1 (boolL H) :: rbO b m r) (fun _ => PcsAt m.l) (fun k => k ≤ H.length) 0 (Nat.zero_le _) ⟨rfl, rfl, rfl, rfl, rfl, rfl, rfl, rfl, rfl, trivial⟩ ⟨_, Pick.whole⟩ Ent.refl ?_
  intro k hk
  refine vcIf_dec (fun hlt => ?_) (fun hge => ?_)
  · have hk' : k < H.length := by omega
    have hle : (H.take k).countP id ≤ k := by
      have := List.countP_le_length (p := id) (l := H.take k)
      rw [List.length_take] at this; omega
    have hle2 : ltr (H.take k) ≤ k := by
      have := ltr_le (H.take k)
      rw [List.length_take] at this; omega
    have hs : (H.take (k + 1)).countP id = (H.take k).countP id + (if H[k] then 1 else 0) := by
      rw [take_snoc_get hk', List.countP_append, List.countP_cons, List.countP_nil]; simp
    have hs2 := ltr_snoc (H.take k) H[k]
    rw [← take_snoc_get hk', List.length_take, Nat.min_eq_left hk] at hs2
    refine vcIdx_nat k rfl (Ent.gnO .here (fun w hw => Ob.sl_at hw)) hk' (by simp) (fun a ha => ?_)
    refine vcLoad1_row (v := .bool H[k]) (Ent.gnO .here (fun w hw => ha ▸ Ob.sl_at hw)) (by simp [hk']) ?_
    refine vcIf_split (fun hp => ?_) (fun hp => ?_)
    · rw [hp, if_pos rfl] at hs
      refine vcFit_i64 (by first | omega | (simp only; omega)) ?_
      refine vcIf_dec (fun he => ?_) (fun he => ?_)
      · rw [if_pos ⟨hp, by omega⟩] at hs2
        refine vcFit_i64 (by first | omega | (simp only; omega)) ?_
        refine vcFit_i64 (by first | omega | (simp only; omega)) ?_
        exact ⟨k + 1, by omega, by omega, ⟨rfl, rfl, rfl, rfl, by rw [hs]; rfl, congrArg (fun z => some (Value.int .i64 z)) (by omega), rfl, rfl, rfl, trivial⟩, ⟨_, Pick.whole⟩, Ent.refl⟩
      · rw [if_neg (fun h => he (by have := h.2; omega))] at hs2
        refine vcFit_i64 (by first | omega | (simp only; omega)) ?_
        exact ⟨k + 1, by omega, by omega, ⟨rfl, rfl, rfl, rfl, by rw [hs]; rfl, by rw [hs2]; rfl, rfl, rfl, rfl, trivial⟩, ⟨_, Pick.whole⟩, Ent.refl⟩
    · rw [hp, if_neg (by decide)] at hs
      rw [if_neg (fun h => by rw [hp] at h; cases h.1)] at hs2
      refine vcFit_i64 (by first | omega | (simp only; omega)) ?_
      exact ⟨k + 1, by omega, by omega, ⟨rfl, rfl, rfl, rfl, by rw [hs]; rfl, by rw [hs2]; rfl, rfl, rfl, rfl, trivial⟩, ⟨_, Pick.whole⟩, Ent.refl⟩
  · obtain rfl : k = H.length := by omega
    rw [List.take_length]
    refine vcCall_of (.cons (.there .here) (.cons (.there .here) .nil)) (held_spec b m r _ hag.ok hm) (fun v own' N' hv => ?_)
    obtain ⟨rfl, rfl, rfl⟩ := hv
    refine vcIf_nno (by rw [hheld]) ?_
    refine vcIf_nno (by rw [hheld]) ?_
    refine vcCall_of (.cons .here (.cons .here .nil)) (ready_spec b m r _ hag.ok hm) (fun v own' N' hv => ?_)
    obtain ⟨rfl, rfl, rfl⟩ := hv
    refine vcIf_nno hready ?_
    obtain ⟨he, hag2⟩ := hag.put hSl (at_ := S.length) (d := []) (last := true) (by omega) (by simp) (by simp) (fun i hi => by simp at hi)
    have had2 : Had S (known || true) (putP r S.length [] true).2.2 H := had.put hSl (by omega) (by simp) (by simp) (fun i hi => by simp at hi) rfl (fun k hk => by
      have c : ¬ ((S.length : Int) ≤ k ∧ (k : Int) < (S.length : Int) + (([] : List UInt8).length : Int)) := by simp only [List.length_nil]; omega
      rw [decide_eq_false c, Bool.or_false, List.getElem?_eq_getElem hk]
      cases H[k] <;> rfl)
    refine vcCall_of (.cons .here (.cons .here .nil)) (put_spec b m r S.length none 0 [] true _ hag.ok hm (fun _ _ => RowAt.nil) (Nat.le_refl _) (by decide)) (fun v own' N2 hv => ?_)
    obtain ⟨m2, rfl, rfl, hm2, hE2⟩ := hv
    rw [he]
    have hready2 := (had2.rel hSl).ready
    simp only at hready2
    obtain ⟨g1, _, _⟩ := readP_at (n := 1048576) hag2.ok.chain
    obtain ⟨a1, a2, a3, a4, a5, a6⟩ := hag2.read 1048576
    have hoff2 := had2.off
    generalize (putP r S.length [] true).2.2 = r2 at *
    refine vcCall_of (.cons .here (.cons .here .nil)) (read_spec b m2 r2 1048576 _ hag2.ok hm2 (fun w hw => hE2 w ⟨hw.1.2.1.1.1, hw.1.2.2⟩) (by decide)) (fun v own' N' hv => ?_)
    obtain ⟨A, c, m3, rfl, rfl, rfl, hm3, _⟩ := hv
    have hXl : (readR r2 1048576).1.length = ltr H := by
      show (readP 1048576 r2.off r2.ps).1.length = ltr H
      omega
    generalize (readR r2 1048576).1 = X at *
    generalize (readR r2 1048576).2.2 = r3 at *
    rw [a6]
    refine vcIf_yes (by omega) ?_
    have hr3 : r3.off = (ltr H : Int) := by omega
    have hXS : X = S.take (ltr H) := by
      rw [hoff2] at a2
      have e : r3.off.toNat = ltr H := by omega
      rw [e] at a2
      simpa using a2
    have hXl2 : (S.take (ltr H)).length = ltr H := by rw [← hXS]; exact hXl
    subst hXS
    refine vcSlP0 (S.take (ltr H)).length cs (by rw [hXl2]) rfl (by omega) (by omega) ?_
    refine vcCall_of .nil (same_spec A As c cs (S.take (ltr H)) (S.take (ltr H)) _ (Ent.gnO .here (fun w hw => Ob.sl_at hw)) (Ent.gnG fun w hw => (hS w hw).bytes (cap := cs) (l := 0) (cutA_0 ..).symm hsc (by rw [List.drop_zero, hXl2])) (by omega)) (fun v own' N4 hv => ?_)
    obtain ⟨rfl, rfl, rfl⟩ := hv
    rw [decide_eq_true (rfl : S.take (ltr H) = S.take (ltr H))]
    refine vcIf_is true (by rw [Bool.or_true, Bool.true_and, hr3]; exact beq_self_eq_true _) ?_
    refine vcCall_of .nil (awake_spec _) (fun v own' N' hv => ?_); obtain ⟨rfl, rfl, rfl⟩ := hv
    exact fin _ _
end Go.Proofs.Yteomgafghiockaa
