/- Layer 10: made. -/
import Derived.Test.YticllmnblcjjcaaShkJ
namespace Go.Proofs.Yticllmnblcjjcaa
open Go.Proofs
set_option maxRecDepth 10000

theorem Ent.mem2 {G : Mp} {own : List Ob} {N R : Mp} (o : Ob) (h : o ∈ own) (k : ∀ w, o.is w → R w) : Ent (GN G own N) R := Ent.mem h k
def MadeTo (server : Bool) (r : Nat → UInt8) (priv : Int) (ps : List ByteArray) (par : Piece) (v : Value) (own : List Ob) (N : Mp) : Prop :=
  (goodC priv ps par.2.2 ∧ ∃ b d pA pc par2 wA wc said oA oc out rA rc pA' pc' sA sc lA lc dA dc n fd, v = .tuple #[.pointer (some ⟨b, 0, none⟩), .pointer (some ⟨d, 0, none⟩), .bool true] ∧
    own = sdR d server rA rc priv pA' pc' ps par sA sc lA lc dA dc n fd.length :: skO b (sk1 server r priv pA pc ps par2 wA wc (if server then wsServer else wsClient) said oA oc out) ∧
    Ent N (FdF lA dA fd) ∧ n < 2 ∧ outs out = outs fd ∧ out.length ≤ 1000 ∧ (∀ f ∈ out, f.2.2.2.length ≤ 1099511627776)) ∨
  (¬ goodC priv ps par.2.2 ∧ v = .tuple #[.pointer none, .pointer none, .bool true] ∧ own = [] ∧ N = MT)
set_option maxHeartbeats 1000000 in
theorem made_spec (server : Bool) (r : Nat → UInt8) (priv : Int) (pA : Option Addr) (pc : Nat) (ps : List ByteArray) (par : Piece) (G : Mp) (h1 : Ent G (RowAt pA (stL ps))) (h2 : Ent G (RowAt par.1 (Bs par.2.2))) (hl : ps.length ≤ 8796093021952) (hl2 : par.2.2.length ≤ 281474976710656) :
    Spec Try.prog 5 #[.agg (cfL server r priv pA pc ps par).toArray] [] G (MadeTo server r priv ps par) := by
  refine Spec.intro (args := [_]) wide Try.func5 rfl Try.call5 (by rfl) (by rfl) (fun w0 hw0 => ?_)
  intro b1
  refine vcLoadN_0 (xs := cfL server r priv pA pc ps par) (Ent.gnO .here (fun w hw => Ob.row_at hw)) rfl ?_
  refine vcCall_of .nil (copied_spec server r priv pA pc ps par _ (Ent.gnG h1) (Ent.gnG h2) hl hl2) (fun v own' N' hv => ?_)
  obtain ⟨pA2, pc2, pp, pcc, rfl, rfl, rfl⟩ := hv
  intro b5
  have one : ∀ v ∈ cfL server r priv pA2 pc2 ps (pp, pcc, par.2.2), oneCell v = true := by
    intro v hv
    simp only [cfL, List.mem_cons, List.mem_append, List.not_mem_nil, or_false] at hv
    rcases hv with rfl | hv | rfl | rfl | rfl
    · rfl
    · exact Bs_one _ v hv
    all_goals rfl
  refine ⟨rfl, vcStoreN_row (vs := cfL server r priv pA2 pc2 ps (pp, pcc, par.2.2)) _ .here rfl one ?_⟩
  refine vcLoadN_0 (xs := cfL server r priv pA2 pc2 ps (pp, pcc, par.2.2)) (Ent.gnO .here (fun w hw => Ob.row_at hw)) rfl ?_
  refine vcCall_of .nil (new_spec server r priv pA2 pc2 ps (pp, pcc, par.2.2) _ (Ent.gnO (o := .sl pA2 pc2 9 1 (stL ps)) (by first | ((repeat (first | exact .here | apply Take.there)); done) | exact .none_) (fun w hw => Ob.sl_at hw)) (Ent.gnO (o := pO (pp, pcc, par.2.2)) (by first | ((repeat (first | exact .here | apply Take.there)); done) | exact .none_) (fun w hw => Ob.sl_at hw)) (by omega)) (fun v own' N' hv => ?_)
  obtain ⟨sp, e, hv1, hQ⟩ : ∃ sp e, v = .tuple #[.pointer sp, .int .i64 e] ∧
      ((goodC priv ps par.2.2 ∧ e = 0 ∧ ∃ b pA pc pp pcc wA wc A c oA oc out, sp = some ⟨b, 0, none⟩ ∧ own' = skO b (sk1 server r priv pA pc ps (pp, pcc, par.2.2) wA wc (if server then wsServer else wsClient) (A, c, hi0 server r priv ps par.2.2) oA oc out) ∧ outs out = (if server then [] else [(0, hi0 server r priv ps par.2.2)])) ∨
        (¬ goodC priv ps par.2.2 ∧ e = 100 ∧ sp = none ∧ own' = [])) := by
    rcases hv with ⟨hg, b, pA, pc, pp, pcc, wA, wc, A, c, oA, oc, out, rfl, rfl, _, ho⟩ | ⟨hg, rfl, rfl, rfl⟩
    · exact ⟨_, _, rfl, .inl ⟨hg, rfl, b, pA, pc, pp, pcc, wA, wc, A, c, oA, oc, out, rfl, rfl, ho⟩⟩
    · exact ⟨_, _, rfl, .inr ⟨hg, rfl, rfl, rfl⟩⟩
  clear hv
  subst hv1
  generalize own' = OS at hQ ⊢
  refine vcLoad1_row (j := 35) (v := .slice pp par.2.2.length pcc) (xs := cfL server r priv pA2 pc2 ps (pp, pcc, par.2.2)) (Ent.mem2 (.row b5 26 (cfL server r priv pA2 pc2 ps (pp, pcc, par.2.2)) 36) (by simp) (fun w hw => Ob.row_at hw)) rfl ?_
  refine vcLoop_of (fun g : Nat × List UInt8 => par.2.2.length - g.1) (fun g => [(1, .pointer (some ⟨b1, 0, none⟩)), (5, .pointer (some ⟨b5, 0, none⟩)), (6, .pointer sp), (7, .int .i64 e), (19, .int .i64 par.2.2.length), (20, .int .i64 g.1)])
    (fun g => pO (pp, pcc, g.2) :: .row b5 26 (cfL server r priv pA2 pc2 ps (pp, pcc, par.2.2)) 36 :: .row b1 26 (cfL server r priv pA pc ps par) 36 :: .sl pA2 pc2 9 1 (stL ps) :: OS) (fun _ => MT) (fun g => g.1 ≤ par.2.2.length ∧ g.2.length = par.2.2.length)
    (0, par.2.2) ⟨Nat.zero_le _, rfl⟩ ⟨rfl, rfl, rfl, rfl, rfl, rfl, trivial⟩ ?_ (fun _ _ => trivial) ?_
  · have hperm : (pO (pp, pcc, par.2.2) :: Ob.row b5 26 (cfL server r priv pA2 pc2 ps (pp, pcc, par.2.2)) 36 :: Ob.row b1 26 (cfL server r priv pA pc ps par) 36 :: Ob.sl pA2 pc2 9 1 (stL ps) :: OS ++ []).Perm
        (OS ++ [Ob.row b5 26 (cfL server r priv pA2 pc2 ps (pp, pcc, par.2.2)) 36, Ob.sl pA2 pc2 9 1 (stL ps), pO (pp, pcc, par.2.2), Ob.row b1 26 (cfL server r priv pA pc ps par) 36]) := by
      rw [List.append_nil]
      refine List.Perm.trans ?_ List.perm_append_comm
      show (_ :: _ :: _ :: _ :: OS).Perm (_ :: _ :: _ :: _ :: OS)
      refine (List.Perm.swap _ _ _).trans (List.Perm.cons _ ?_)
      exact ((List.Perm.cons _ (List.Perm.swap _ _ _)).trans (List.Perm.swap _ _ _))
    obtain ⟨r', h, _⟩ := Pick.perm hperm
    exact ⟨r', h⟩
  rintro ⟨k, xs⟩ ⟨hk, hxl⟩
  simp only at hk hxl
  refine vcIf_dec (fun hlt => ?_) (fun hge => ?_)
  · have hk' : k < par.2.2.length := by have h9 : (k : Int) < (par.2.2.length : Int) := hlt; omega
    have hkx : k < xs.length := by omega
    refine vcDraw_mix [0,1,2,3,4,5,6,7,8,9,10] (GN _ _ _) (by kernel_rfl) Ent.refl ?_
    refine vcLoad1_row (j := 35) (v := .slice pp par.2.2.length pcc) (xs := cfL server r priv pA2 pc2 ps (pp, pcc, par.2.2)) (Ent.gnO (.there .here) (fun w hw => Ob.row_at hw)) rfl ?_
    refine vcLoad1_row (j := 35) (v := .slice pp par.2.2.length pcc) (xs := cfL server r priv pA2 pc2 ps (pp, pcc, par.2.2)) (Ent.gnO (.there .here) (fun w hw => Ob.row_at hw)) rfl ?_
    refine vcIdx_nat k rfl (Ent.gnO (o := pO (pp, pcc, xs)) .here (fun w hw => Ob.sl_at hw)) hk' (by rw [Bs_length]; show par.2.2.length ≤ xs.length; omega) (fun a4 ha4 => ?_)
    have ha4' : pp = some a4 := ha4
    subst ha4'
    refine vcLoad1_row (xs := Bs xs) (v := .int .u8 xs[k].toNat) (Ent.gnO (o := pO (some a4, pcc, xs)) .here (fun w hw => Ob.sl_at hw)) (Bs_get hkx) ?_
    refine vcBit_as _ (not_u8 xs[k]) ?_
    refine vcIdx_some k rfl hk' ?_
    refine vcStore1_eq (pO (some a4, pcc, xs)) (pO (some a4, pcc, xs.set k (255 ^^^ xs[k]))) _ .here rfl (by show k + 0 < (Bs xs).length; rw [Bs_length]; exact hkx) rfl (by show Ob.sl _ _ _ _ ((Bs xs).set k (.int .u8 ((255 : UInt8) ^^^ xs[k]).toNat)) = Ob.sl _ _ _ _ (Bs _); rw [Bs_set_at]) ?_
    refine vcMix_last (by kernel_rfl) ?_
    refine vcFit_i64 (by first | omega | (simp only; omega)) ?_
    exact ⟨(k + 1, xs.set k (255 ^^^ xs[k])), ⟨hk', by show (xs.set k _).length = _; rw [List.length_set]; exact hxl⟩, (by first | omega | (simp only; omega)), ⟨rfl, rfl, rfl, rfl, rfl, rfl, trivial⟩, ⟨_, Pick.whole⟩, fun _ _ => trivial⟩
  refine vcLoad1_row (j := 34) (v := .slice pA2 ps.length pc2) (xs := cfL server r priv pA2 pc2 ps (pp, pcc, par.2.2)) (Ent.gnO (.there .here) (fun w hw => Ob.row_at hw)) rfl ?_
  refine vcLoop_of (fun g : Nat × List ByteArray => ps.length - g.1) (fun g => [(1, .pointer (some ⟨b1, 0, none⟩)), (5, .pointer (some ⟨b5, 0, none⟩)), (6, .pointer sp), (7, .int .i64 e), (36, .int .i64 ps.length), (37, .int .i64 g.1)])
    (fun g => .sl pA2 pc2 9 1 (stL g.2) :: .row b5 26 (cfL server r priv pA2 pc2 ps (pp, pcc, par.2.2)) 36 :: .row b1 26 (cfL server r priv pA pc ps par) 36 :: OS) (fun _ => MT) (fun g => g.1 ≤ ps.length ∧ g.2.length = ps.length)
    (0, ps) ⟨Nat.zero_le _, rfl⟩ ⟨rfl, rfl, rfl, rfl, rfl, rfl, trivial⟩ ⟨_, .cons (by first | ((repeat (first | exact .here | apply Take.there)); done) | exact .none_) (.cons (by first | ((repeat (first | exact .here | apply Take.there)); done) | exact .none_) (.cons (by first | ((repeat (first | exact .here | apply Take.there)); done) | exact .none_) Pick.whole.under))⟩ (fun _ _ => trivial) ?_
  rintro ⟨k2, qs⟩ ⟨hk2, hql⟩
  simp only at hk2 hql
  refine vcIf_dec (fun hlt2 => ?_) (fun hge2 => ?_)
  · have hk' : k2 < ps.length := by have h9 : (k2 : Int) < (ps.length : Int) := hlt2; omega
    refine vcLoad1_row (j := 34) (v := .slice pA2 ps.length pc2) (xs := cfL server r priv pA2 pc2 ps (pp, pcc, par.2.2)) (Ent.gnO (.there .here) (fun w hw => Ob.row_at hw)) rfl ?_
    refine vcIdx_nat k2 rfl (Ent.gnO (o := .sl pA2 pc2 9 1 (stL qs)) .here (fun w hw => Ob.sl_at hw)) hk' (by rw [stL_len]; omega) (fun a4 ha4 => ?_)
    subst ha4
    refine vcStore1_eq (.sl (some a4) pc2 9 1 (stL qs)) (.sl (some a4) pc2 9 1 (stL (qs.set k2 (ByteArray.mk #[109,97,114,107])))) _ .here rfl (by show k2 + 0 < (stL qs).length; rw [stL_len]; omega) rfl (by show Ob.sl _ _ _ _ ((stL qs).set k2 _) = Ob.sl _ _ _ _ (stL (qs.set k2 _)); unfold stL; rw [List.map_set]) ?_
    refine vcFit_i64 (by first | omega | (simp only; omega)) ?_
    exact ⟨(k2 + 1, qs.set k2 (ByteArray.mk #[109,97,114,107])), ⟨hk', by show (qs.set k2 _).length = _; rw [List.length_set]; exact hql⟩, (by first | omega | (simp only; omega)), ⟨rfl, rfl, rfl, rfl, rfl, rfl, trivial⟩, ⟨_, Pick.whole⟩, fun _ _ => trivial⟩
  refine vcLoad1_row (j := 33) (v := .int .i64 priv) (xs := cfL server r priv pA pc ps par) (Ent.gnO (.there (.there .here)) (fun w hw => Ob.row_at hw)) rfl ?_
  refine vcLoad1_row (j := 34) (v := .slice pA ps.length pc) (xs := cfL server r priv pA pc ps par) (Ent.gnO (.there (.there .here)) (fun w hw => Ob.row_at hw)) rfl ?_
  refine vcLoad1_row (j := 35) (v := pieceV par) (xs := cfL server r priv pA pc ps par) (Ent.gnO (.there (.there .here)) (fun w hw => Ob.row_at hw)) rfl ?_
  refine vcCall_of .nil (good_spec priv pA pc ps par _ (Ent.gnG h1) (by omega)) (fun v own' N' hv => ?_); obtain ⟨rfl, rfl, rfl⟩ := hv
  rcases hQ with ⟨hg, rfl, b, pA3, pc3, pp3, pcc3, wA, wc, A, c, oA, oc, out, rfl, rfl, hout⟩ | ⟨hg, rfl, rfl, rfl⟩
  · refine vcIf_ndec (fun hn => absurd hg hn) (fun _ => ?_)
    have hb1 : ∀ {own : List Ob} {N : Mp}, Ob.row b1 26 (cfL server r priv pA pc ps par) 36 ∈ own → Ent (GN G own N) (RowAt (some ⟨b1, 0, none⟩) (cfL server r priv pA pc ps par)) := fun h => Ent.mem h (fun w hw => Ob.row_at hw)
    refine vcDraw_mix [0,1,2,3,4,6,7,8,9,10,11,13,14,5,12,15,16,17,18,19,20,21] (RowAt (some ⟨b1, 0, none⟩) (cfL server r priv pA pc ps par)) (by kernel_rfl) (hb1 (by simp)) ?_
    refine vcLoad1_row (j := 0) (v := .bool server) Ent.refl rfl ?_
    refine vcRange_of (by omega) ?_
    refine vcLoad1_row (j := 33) (v := .int .i64 priv) Ent.refl rfl ?_
    refine vcLoad1_row (j := 34) (v := .slice pA ps.length pc) Ent.refl rfl ?_
    refine vcLoad1_row (j := 35) (v := pieceV par) Ent.refl rfl ?_
    refine vcCall_of .nil (copy_spec (some ((⟨b1, 0, none⟩ : Addr).add 1)) 32 (rn r) _ (fun w hw => RowAt.part 1 (hb1 (by simp) w hw) rn_part) (by rw [rn_len]; decide)) (fun v own' N' hv => ?_)
    obtain ⟨rA, rc, rfl, rfl, rfl, hrc⟩ := hv
    refine vcMix_same (hb1 (by simp)) ?_
    refine vcCall_of .nil (rnew_spec server r rA rc priv pA pc ps par _ (Ent.gnO .here (fun w hw => Ob.sl_at hw)) (Ent.gnG h1) (Ent.gnG h2) hg) (fun v own' N' hv => ?_)
    obtain ⟨d, sA, sc, lA, lc, dA, dc, fd, rfl, rfl, hF, hfd⟩ := hv
    refine vcMix_same (hb1 (by simp)) ?_
    have hol : out.length ≤ 1000 := by
      have := congrArg List.length hout
      rw [outs, List.length_map] at this
      rw [this]
      split <;> simp
    have hod : ∀ f ∈ out, f.2.2.2.length ≤ 1099511627776 := by
      intro f hf
      have h5 : (f.1, f.2.2.2) ∈ outs out := List.mem_map_of_mem (f := fun f : Fl => (f.1, f.2.2.2)) hf
      rw [hout] at h5
      split at h5
      · cases h5
      · have := List.mem_singleton.1 h5
        have h6 : f.2.2.2 = hi0 server r priv ps par.2.2 := congrArg Prod.snd this
        rw [h6]
        exact Nat.le_trans (hi0_le hg) (by decide)
    exact ⟨sdR d server rA rc priv pA pc ps par sA sc lA lc dA dc (if server = true then 0 else 1) fd.length :: skO b (sk1 server r priv pA3 pc3 ps (pp3, pcc3, par.2.2) wA wc (if server then wsServer else wsClient) (A, c, hi0 server r priv ps par.2.2) oA oc out), _, FdF lA dA fd, .cons .here Pick.whole.under.under.under.under, fun w hw _ => hF w hw.2,
      .inl ⟨hg, b, d, pA3, pc3, (pp3, pcc3, par.2.2), wA, wc, (A, c, hi0 server r priv ps par.2.2), oA, oc, out, rA, rc, pA, pc, sA, sc, lA, lc, dA, dc, _, fd, rfl, rfl, Ent.refl, by split <;> decide, hout.trans hfd.symm, hol, hod⟩⟩
  · refine vcIf_ndec (fun hn => ?_) (fun hn => absurd hn hg)
    exact ⟨[], _, MT, .nil, fun _ _ _ => trivial, .inr ⟨hg, rfl, rfl, rfl⟩⟩
end Go.Proofs.Yticllmnblcjjcaa
