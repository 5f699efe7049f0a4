/- ReasmPrefix, walked. -/
import Derived.Test.YteomgafghiockaaReaN
namespace Go.Proofs.Yteomgafghiockaa
open Go.Proofs
set_option maxRecDepth 10000

def cutV (c : CutI) : List Value := [.int .i64 c.1, .int .i64 c.2]
theorem cutV_len (o : CutI) : (cutV o).length = 2 := rfl
theorem cutV_one (o : CutI) : ∀ v ∈ cutV o, oneCell v = true := by
  intro v hv
  simp only [cutV, List.mem_cons, List.not_mem_nil, or_false] at hv
  rcases hv with rfl | rfl <;> rfl
theorem piece_spec (As : Option Addr) (cs : Nat) (S : List UInt8) (c : CutI) (G : Mp) (hS : Ent G (RowAt As (Bs S))) (hl : S.length ≤ 65536) (hc : S.length ≤ cs) (hb : (-9223372036854775808 ≤ c.1 ∧ c.1 ≤ 9223372036854775807) ∧ (-9223372036854775808 ≤ c.2 ∧ c.2 ≤ 9223372036854775807)) :
    Spec Try.prog 9 #[.slice As S.length cs, .agg #[.int .i64 c.1, .int .i64 c.2]] [] G (fun v own N => ∃ A cc, v = .tuple #[.int .i64 (pieceP S c).1, .slice A (pieceP S c).2.1.length cc, .bool (pieceP S c).2.2] ∧ own = [] ∧ Ent N (RowAt A (Bs (pieceP S c).2.1)) ∧ (pieceP S c).2.1.length ≤ cc) := by
  obtain ⟨ca, cn⟩ := c
  simp only at hb ⊢
  refine Spec.introC (args := [_, _]) wide Try.func9 rfl Try.call9 (by rfl) (by rfl) [6] (fun w0 hw0 => ?_)
  intro b3
  have bad : (ca < 0 ∨ (S.length : Int) < ca ∨ cn < 0) → pieceP S (ca, cn) = (0, [], decide ((S.length : Int) = 0)) := fun h => if_pos h
  have good : ¬ (ca < 0 ∨ (S.length : Int) < ca ∨ cn < 0) → pieceP S (ca, cn) = (ca, (S.drop ca.toNat).take (min cn (S.length - ca)).toNat, decide (ca + min cn (S.length - ca) = S.length)) := fun h => if_neg h
  have out : ∀ (own : List Ob) (N : Mp), (ca < 0 ∨ (S.length : Int) < ca ∨ cn < 0) → ∃ (own' rest : List Ob) (N' : Mp), Pick own' own rest ∧ (∀ w, N w → Objs rest w → N' w) ∧
      ∃ A cc, (Value.tuple #[.int .i64 0, .slice none 0 0, .bool (decide ((S.length : Int) = 0))]) = .tuple #[.int .i64 (pieceP S (ca, cn)).1, .slice A (pieceP S (ca, cn)).2.1.length cc, .bool (pieceP S (ca, cn)).2.2] ∧ own' = [] ∧ Ent N' (RowAt A (Bs (pieceP S (ca, cn)).2.1)) ∧ (pieceP S (ca, cn)).2.1.length ≤ cc :=
    fun own N h => ⟨[], own, MT, .nil, fun _ _ _ => trivial, none, 0, by rw [bad h]; rfl, rfl, by rw [bad h]; exact fun _ _ => RowAt.nil, by rw [bad h]; exact Nat.le_refl _⟩
  refine vcLoad1_row (j := 0) (Ent.gnO .here (fun w hw => Ob.row_at hw)) rfl ?_
  refine vcIf_dec (fun h1 => ?_) (fun h1 => ?_)
  · exact out _ _ (.inl h1)
  refine vcLoad1_row (j := 0) (Ent.gnO .here (fun w hw => Ob.row_at hw)) rfl ?_
  refine vcIf_dec (fun h2 => ?_) (fun h2 => ?_)
  · exact out _ _ (.inr (.inl h2))
  refine vcLoad1_row (j := 1) (Ent.gnO .here (fun w hw => Ob.row_at hw)) rfl ?_
  refine vcIf_dec (fun h3 => ?_) (fun h3 => ?_)
  · exact out _ _ (.inr (.inr h3))
  have hg := good (by omega)
  refine vcLoad1_row (j := 1) (Ent.gnO .here (fun w hw => Ob.row_at hw)) rfl ?_
  refine vcCut_of (fun _ : Unit => [(0, .slice As S.length cs), (3, .pointer (some ⟨b3, 0, none⟩)), (7, .int .i64 (min cn (S.length - ca)))]) (fun _ => [.row b3 30 [.int .i64 ca, .int .i64 cn] 2]) (fun _ => MT) (fun _ => True) ?_ ?_
  · refine vcLoad1_row (j := 0) (Ent.gnO .here (fun w hw => Ob.row_at hw)) rfl ?_
    refine vcFit_i64 (by first | omega | (simp only; omega)) ?_
    refine vcIf_dec (fun h4 => ?_) (fun h4 => ?_)
    · refine vcLoad1_row (j := 0) (Ent.gnO .here (fun w hw => Ob.row_at hw)) rfl ?_
      refine vcFit_i64 (by first | omega | (simp only; omega)) ?_
      exact ⟨(), trivial, ⟨rfl, rfl, congrArg (fun z => some (Value.int .i64 z)) (by omega), trivial⟩, ⟨_, .cons .here .nil⟩, fun _ _ => trivial⟩
    · exact ⟨(), trivial, ⟨rfl, rfl, congrArg (fun z => some (Value.int .i64 z)) (by omega), trivial⟩, ⟨_, .cons .here .nil⟩, fun _ _ => trivial⟩
  intro _ _
  obtain ⟨a, ha⟩ : ∃ a : Nat, ca = a := ⟨ca.toNat, by omega⟩
  obtain ⟨k, hk⟩ : ∃ k : Nat, min cn (S.length - ca) = k := ⟨(min cn (S.length - ca)).toNat, by omega⟩
  rw [hk]
  have hX : (S.drop ca.toNat).take (min cn (S.length - ca)).toNat = (S.drop a).take ((S.drop a).take k).length := by
    rw [hk, ha, Int.toNat_natCast, Int.toNat_natCast, List.length_take, List.length_drop, Nat.min_eq_left (by omega)]
  have hXl : ((S.drop a).take k).length = k := by rw [List.length_take, List.length_drop]; omega
  have hXe : (S.drop ca.toNat).take (min cn (S.length - ca)).toNat = (S.drop a).take k := by rw [hX, hXl]
  rw [hXe] at hg
  generalize hXX : (S.drop a).take k = X at *
  refine vcDraw_mix [0,1,2,3,4,5,6,7,8,9,11,12,13,14,15,16,17,10,18,19,20] (MpAnd G (RowAt (some ⟨b3, 0, none⟩) [.int .i64 ca, .int .i64 cn])) (by kernel_rfl) (fun w hw => ⟨hw.1.1, Ob.row_at (hw.2 _ (.head _))⟩) ?_
  refine vcLoad1_row (j := 0) (Ent.andR Ent.refl) rfl ?_
  refine vcLoad1_row (j := 0) (Ent.andR Ent.refl) rfl ?_
  refine vcLoad1_row (j := 0) (Ent.andR Ent.refl) rfl ?_
  refine vcFit_i64 (by first | omega | (simp only; omega)) ?_
  refine vcSlPE a X.length (cs - a) ha (by omega) (by omega) (by omega) (by omega) ?_
  rw [show a + (cs - a) = cs from by omega]
  refine vcLoad1_row (j := 0) (Ent.andR Ent.refl) rfl ?_
  refine vcFit_i64 (by first | omega | (simp only; omega)) ?_
  refine vcCall_of .nil (copyG_spec (cutA As cs a 1) (cs - a) X _ (fun w hw => (hS w hw.1.1).bytes rfl hc (by rw [hXl, ← hXX])) (by omega)) (fun v own' N' hv => ?_)
  obtain ⟨A2, c2, rfl, rfl, hN, hc2⟩ := hv
  refine vcMix_same (fun w hw => ⟨hw.1.1, Ob.row_at (hw.2 _ (.head _))⟩) ?_
  exact ⟨[], _, N', .nil, fun w hw _ => hw.2, A2, c2, by rw [hg, hk]; rfl, rfl, by rw [hg]; exact hN, by rw [hg]; exact hc2⟩

theorem flat_ints (l : List Int) : (l.flatMap fun n => [Value.int .i64 n]) = l.map fun n => Value.int .i64 n := by
  induction l with
  | nil => rfl
  | cons x r ih => rw [List.flatMap_cons, ih]; rfl
structure PxS where
  j : Nat
  m : RbM
  r : Rb
  known : Bool
  Ag : Option Addr
  cg : Nat
theorem rprefix_spec (As : Option Addr) (cs : Nat) (S : List UInt8) (Ax : Option Addr) (cx : Nat) (xs : List CutI) (Ar : Option Addr) (cr : Nat) (rs : List Int) (G : Mp) (hS : Ent G (RowAt As (Bs S))) (hsc : S.length ≤ cs) (hG : Ent G (RowAt Ax (xs.flatMap cutV)))
    (hb : ∀ c ∈ xs, (-9223372036854775808 ≤ c.1 ∧ c.1 ≤ 9223372036854775807) ∧ (-9223372036854775808 ≤ c.2 ∧ c.2 ≤ 9223372036854775807)) (hR : Ent G (RowAt Ar (rs.flatMap fun n => [.int .i64 n]))) (hrb : ∀ n ∈ rs, n ≤ 9223372036854775807) (hx : xs.length ≤ 1000000000000000) :
    Spec Try.prog 3 #[.slice As S.length cs, .slice Ax xs.length cx, .slice Ar rs.length cr] [] G (Ret (.bool true)) := by
  refine Spec.introC (args := [_, _, _]) wide Try.func3 rfl Try.call3 (by rfl) (by rfl) [14, 17] (fun w0 hw0 => ?_)
  have fin : ∀ (own : List Ob) (N : Mp), ∃ (own' rest : List Ob) (N' : Mp), Pick own' own rest ∧ (∀ w, N w → Objs rest w → N' w) ∧ (Value.bool true = .bool true ∧ own' = [] ∧ N' = MT) := fun own N => ⟨[], own, MT, .nil, fun _ _ _ => trivial, rfl, rfl, rfl⟩
  refine vcCall_of .nil (rnew_spec 65536 _) (fun v own' N' hv => ?_)
  obtain ⟨rfl, ⟨h, rfl, rfl⟩ | ⟨h, b, rfl, rfl⟩⟩ := hv
  · exact absurd ⟨by decide, by decide⟩ h
  refine vcIf_dec (fun hlong => ?_) (fun hshort => ?_)
  · refine ⟨[], _, MT, .nil, fun _ _ _ => trivial, congrArg Value.bool (decide_eq_true hlong), rfl, rfl⟩
  have hSl : S.length ≤ 65536 := by omega
  refine vcLoop_of (fun g : PxS => xs.length - g.j) (fun g => [(0, .slice As S.length cs), (2, .slice Ar rs.length cr), (7, .pointer (some ⟨b, 0, none⟩)), (9, .slice g.Ag (S.take g.r.off.toNat).length g.cg), (10, .bool g.known), (39, .slice Ax xs.length cx), (40, .int .i64 xs.length), (41, .int .i64 g.j)])
    (fun g => .sl g.Ag g.cg 5 1 (Bs (S.take g.r.off.toNat)) :: rbO b g.m g.r) (fun g => PcsAt g.m.l) (fun g => g.j ≤ xs.length ∧ RbAt g.m g.r ∧ Agr S g.known g.r ∧ g.r.off ≤ S.length)
    ⟨0, ⟨none, 0, []⟩, newR 65536, false, none, 0⟩ ⟨Nat.zero_le _, rfl, Agr.new S, by show (0 : Int) ≤ _; omega⟩ ⟨rfl, rfl, rfl, rfl, rfl, rfl, rfl, rfl, trivial⟩ ⟨_, .cons .none_ (.cons .here (.cons .here .nil))⟩ (fun _ _ p hp => by cases hp) ?_
  rintro ⟨j, m, r, known, Ag, cg⟩ ⟨hj, hm, hag, hof⟩
  simp only at hj hm hag hof
  have hof0 := hag.ok.off
  have hgl : (S.take r.off.toNat).length = r.off.toNat := by rw [List.length_take]; omega
  refine vcIf_dec (fun hlt => ?_) (fun hge => ?_)
  · have hj' : j < xs.length := by have h9 : (j : Int) < (xs.length : Int) := hlt; omega
    refine vcIdx_nats (s := 2) j rfl (Ent.gnG hG) hj' (by rw [flatMap_len cutV_len]; exact Nat.le_refl _) (by omega) (fun ad had => ?_)
    subst had
    refine vcLoadN_1 (cutV xs[j]) (Ent.gnG hG) rfl (flatMap_chunk cutV_len xs j hj') ?_
    intro b12
    refine ⟨rfl, vcStoreN_row _ .here rfl (cutV_one xs[j]) ?_⟩
    have hbc := hb _ (List.getElem_mem hj')
    generalize xs[j] = cc at hbc ⊢
    refine vcLoadN_0 (xs := cutV cc) (Ent.gnO .here (fun w hw => Ob.row_at hw)) rfl ?_
    refine vcCall_of .nil (piece_spec As cs S cc _ (Ent.gnG hS) hSl hsc hbc) (fun v own' N' hv => ?_)
    obtain ⟨Ap, cp, rfl, rfl, hNp, hcp⟩ := hv
    obtain ⟨q1, q2, q3, q4⟩ := piece_all S cc
    generalize (pieceP S cc).1 = at_ at q1 q2 q3 q4 ⊢
    generalize (pieceP S cc).2.2 = last at q3 ⊢
    generalize (pieceP S cc).2.1 = d at q2 q3 q4 hNp hcp ⊢
    obtain ⟨he, hag2⟩ := hag.put hSl q1 q2 q3 q4
    refine vcCall_of (.cons (.there (.there .here)) (.cons (.there (.there .here)) .nil)) (put_spec b m r at_ Ap cp d last _ hag.ok hm (Ent.gnN (Ent.andR hNp)) hcp (by omega)) (fun v own' N2 hv => ?_)
    obtain ⟨m2, rfl, rfl, hm2, hE2⟩ := hv
    rw [he]
    have hoff2 := putP_off (r := r) at_ d last
    generalize (putP r at_ d last).2.2 = r2 at hag2 hm2 hoff2 ⊢
    refine vcCut_of (fun _ : Unit => [(0, .slice As S.length cs), (2, .slice Ar rs.length cr), (7, .pointer (some ⟨b, 0, none⟩)), (9, .slice Ag (S.take r.off.toNat).length cg), (10, .bool (known || last)), (11, .int .i64 j), (39, .slice (some ad) xs.length cx), (40, .int .i64 xs.length), (41, .int .i64 j)])
      (fun _ => .sl Ag cg 5 1 (Bs (S.take r.off.toNat)) :: rbO b m2 r2) (fun _ => PcsAt m2.l) (fun _ => True) ?_ ?_
    · refine vcIf_split (fun hk => ?_) (fun hk => ?_)
      · have hk' : known = true := hk
        subst hk'
        exact ⟨(), trivial, ⟨rfl, rfl, rfl, rfl, rfl, rfl, rfl, rfl, rfl, trivial⟩, ⟨_, .cons (.there (.there (.there .here))) (.cons .here (.cons .here .nil))⟩, fun w hw => hE2 w ⟨hw.1.1, hw.2⟩⟩
      · have hk' : known = false := hk
        subst hk'
        exact ⟨(), trivial, ⟨rfl, rfl, rfl, rfl, rfl, rfl, rfl, rfl, rfl, trivial⟩, ⟨_, .cons (.there (.there (.there .here))) (.cons .here (.cons .here .nil))⟩, fun w hw => hE2 w ⟨hw.1.1, hw.2⟩⟩
    intro _ _
    refine vcCut_of (fun n : Int => [(0, .slice As S.length cs), (2, .slice Ar rs.length cr), (7, .pointer (some ⟨b, 0, none⟩)), (9, .slice Ag (S.take r.off.toNat).length cg), (10, .bool (known || last)), (18, .int .i64 n), (39, .slice (some ad) xs.length cx), (40, .int .i64 xs.length), (41, .int .i64 j)])
      (fun _ => .sl Ag cg 5 1 (Bs (S.take r.off.toNat)) :: rbO b m2 r2) (fun _ => PcsAt m2.l) (fun n => n ≤ 9223372036854775807) ?_ ?_
    · refine vcIf_dec (fun hjr => ?_) (fun hjr => ?_)
      · have hjr' : j < rs.length := by have h9 : (j : Int) < (rs.length : Int) := hjr; omega
        refine vcIdx_nats (s := 1) j rfl (Ent.gnG hR) hjr' (by rw [flatMap_len (n := 1) (fun _ => rfl)]; exact Nat.le_refl _) (by omega) (fun a ha => ?_)
        subst ha
        refine vcLoad1_row (v := .int .i64 rs[j]) (Ent.gnG hR) (by rw [flat_ints]; simp [hjr']) ?_
        exact ⟨rs[j], hrb _ (List.getElem_mem hjr'), ⟨rfl, rfl, rfl, rfl, rfl, rfl, rfl, rfl, rfl, trivial⟩, ⟨_, Pick.whole⟩, Ent.refl⟩
      · exact ⟨0, by decide, ⟨rfl, rfl, rfl, rfl, rfl, rfl, rfl, rfl, rfl, trivial⟩, ⟨_, Pick.whole⟩, Ent.refl⟩
    intro n hn
    obtain ⟨a1, a2, a3, a4, a5, a6⟩ := hag2.read n
    rw [hoff2.1] at a2 a3
    generalize (known || last) = known2 at *
    refine vcCall_of (.cons (.there .here) (.cons (.there .here) .nil)) (read_spec b m2 r2 n _ hag2.ok hm2 (Ent.gnN Ent.refl) hn) (fun v own' N' hv => ?_)
    obtain ⟨A, c, m3, rfl, rfl, rfl, hm3, hE3⟩ := hv
    generalize hX : (readR r2 n).1 = X at *
    generalize (readR r2 n).2.2 = r3 at *
    rw [a6]
    have hXl : X.length ≤ 65536 := by omega
    refine vcApp_of (Bs (S.take r.off.toNat)) _ (Bs X) (.there (.there (.there .here))) (by rw [Bs_length, Nat.mul_one]) (by rw [Bs_length, Nat.mul_one]) (by omega) (Bs_one _) (Ent.gnO .here (fun w hw => Ob.sl_at hw)) (by omega) (by omega) (fun A4 c4 hc4 => ?_)
    rw [← Bs_append, a2]
    have hL : (S.take r.off.toNat).length + X.length = (S.take r3.off.toNat).length := by rw [← a2, List.length_append]
    have hL2 : (S.take r3.off.toNat).length = r3.off.toNat := by rw [List.length_take]; omega
    have hr30 : 0 ≤ r3.off := by omega
    rw [hL]
    refine vcIf_no (by omega) ?_
    refine vcSlP0 (S.take r3.off.toNat).length cs rfl rfl (by omega) (by omega) ?_
    refine vcCall_of .nil (same_spec A4 As c4 cs (S.take r3.off.toNat) (S.take r3.off.toNat) _ (Ent.gnO .here (fun w hw => Ob.sl_at hw)) (Ent.gnG fun w hw => (hS w hw).bytes (cap := cs) (l := 0) (cutA_0 ..).symm hsc (by rw [List.drop_zero, hL2])) (by omega)) (fun v own' N4 hv => ?_)
    obtain ⟨rfl, rfl, rfl⟩ := hv
    rw [decide_eq_true (rfl : S.take r3.off.toNat = S.take r3.off.toNat)]
    have hdec : decide (r3.off = (S.length : Int)) = decide (((S.take r3.off.toNat).length : Int) = (S.length : Int)) := decide_eq_decide.2 (by rw [hL2]; omega)
    cases known2 with
    | true =>
      refine vcIf_is false (by rw [hdec]; simp) ?_
      refine vcIf_dec (fun hn0 => ?_) (fun hn0 => ?_)
      · refine vcIf_no (by have := a5 hn0; omega) ?_
        refine vcFit_i64 (by first | omega | (simp only; omega)) ?_
        exact ⟨⟨j + 1, m3, r3, true, A4, c4⟩, ⟨hj', hm3, a1, a4⟩, by simp only; omega, ⟨rfl, rfl, rfl, rfl, rfl, rfl, rfl, rfl, trivial⟩, ⟨_, .cons .here (.cons (.there .here) (.cons (.there .here) .nil))⟩, fun w hw => hE3 w hw.1.1⟩
      · refine vcFit_i64 (by first | omega | (simp only; omega)) ?_
        exact ⟨⟨j + 1, m3, r3, true, A4, c4⟩, ⟨hj', hm3, a1, a4⟩, by simp only; omega, ⟨rfl, rfl, rfl, rfl, rfl, rfl, rfl, rfl, trivial⟩, ⟨_, .cons .here (.cons (.there .here) (.cons (.there .here) .nil))⟩, fun w hw => hE3 w hw.1.1⟩
    | false =>
      refine vcIf_dec (fun hn0 => ?_) (fun hn0 => ?_)
      · refine vcIf_no (by have := a5 hn0; omega) ?_
        refine vcFit_i64 (by first | omega | (simp only; omega)) ?_
        exact ⟨⟨j + 1, m3, r3, false, A4, c4⟩, ⟨hj', hm3, a1, a4⟩, by simp only; omega, ⟨rfl, rfl, rfl, rfl, rfl, rfl, rfl, rfl, trivial⟩, ⟨_, .cons .here (.cons (.there .here) (.cons (.there .here) .nil))⟩, fun w hw => hE3 w hw.1.1⟩
      · refine vcFit_i64 (by first | omega | (simp only; omega)) ?_
        exact ⟨⟨j + 1, m3, r3, false, A4, c4⟩, ⟨hj', hm3, a1, a4⟩, by simp only; omega, ⟨rfl, rfl, rfl, rfl, rfl, rfl, rfl, rfl, trivial⟩, ⟨_, .cons .here (.cons (.there .here) (.cons (.there .here) .nil))⟩, fun w hw => hE3 w hw.1.1⟩
  · refine vcCall_of (.cons (.there .here) (.cons (.there .here) .nil)) (offset_spec b m r _) (fun v own' N' hv => ?_)
    obtain ⟨rfl, rfl, rfl⟩ := hv
    refine vcIf_yes (by show r.off = ((S.take r.off.toNat).length : Int); omega) ?_
    refine vcCall_of .nil (awake_spec _) (fun v own' N' hv => ?_); obtain ⟨rfl, rfl, rfl⟩ := hv
    exact fin _ _
end Go.Proofs.Yteomgafghiockaa
