/- Layer 10: the reference's side as it begins. -/
import Derived.Test.YticllmnblcjjcaaShkE
namespace Go.Proofs.Yticllmnblcjjcaa
open Go.Proofs
set_option maxRecDepth 10000

theorem good_spec (priv : Int) (pA : Option Addr) (pc : Nat) (ps : List ByteArray) (par : Piece) (G : Mp) (h1 : Ent G (RowAt pA (stL ps))) (hl : ps.length ≤ 9223372036854775807) :
    Spec Try.prog 18 #[.int .i64 priv, .slice pA ps.length pc, pieceV par] [] G (Ret (.bool (decide (goodC priv ps par.2.2)))) := by
  refine Spec.intro (args := [_, _, _]) wide Try.func18 rfl Try.call18 (by rfl) (by rfl) (fun w0 hw0 => ?_)
  have bad : ¬ goodC priv ps par.2.2 → Value.bool false = .bool (decide (goodC priv ps par.2.2)) := fun h => by simp [h]
  refine vcIf_dec (fun ha => ?_) (fun ha => ?_)
  · refine vcIf_dec (fun hb => ?_) (fun hb => ?_)
    · refine vcCall_of .nil (goodp_spec pA pc ps _ (Ent.gnG h1) hl) (fun v own' N' hv => ?_); obtain ⟨rfl, rfl, rfl⟩ := hv
      refine vcIf_dec (fun hg => ?_) (fun hg => ?_)
      · refine ⟨[], _, MT, .nil, fun _ _ _ => trivial, ?_, rfl, rfl⟩
        refine congrArg Value.bool (decide_eq_decide.2 ⟨fun h => ⟨by omega, by omega, hg, by omega⟩, fun h => ?_⟩)
        have := h.2.2.2
        omega
      · refine ⟨[], _, MT, .nil, fun _ _ _ => trivial, ?_, rfl, rfl⟩
        exact bad (fun h => hg h.2.2.1)
    · refine ⟨[], _, MT, .nil, fun _ _ _ => trivial, ?_, rfl, rfl⟩
      exact bad (fun h => hb (by have := h.2.1; omega))
  · refine ⟨[], _, MT, .nil, fun _ _ _ => trivial, ?_, rfl, rfl⟩
    exact bad (fun h => ha (by have := h.1; omega))

/-- The reference's side, where only what New lays is set. -/
def sdL (server : Bool) (rA : Option Addr) (rc : Nat) (priv : Int) (pA : Option Addr) (pc : Nat) (ps : List ByteArray) (par : Piece) (sA : Option Addr) (sc : Nat) (lA : Option Addr) (lc : Nat) (oA : Option Addr) (oc : Nat) (n : Nat) (nout : Nat) : List Value :=
  [.bool server, .slice rA 32 rc, .int .i64 priv, .slice pA ps.length pc, pieceV par, .slice sA n sc, .slice none 0 0, .slice none 0 0, .bool false, .slice lA nout lc, .slice oA nout oc, .string (ByteArray.mk #[]), .slice none 0 0, .int .i64 0]
def sdR (d : Nat) (server : Bool) (rA : Option Addr) (rc : Nat) (priv : Int) (pA : Option Addr) (pc : Nat) (ps : List ByteArray) (par : Piece) (sA : Option Addr) (sc : Nat) (lA : Option Addr) (lc : Nat) (oA : Option Addr) (oc : Nat) (n nout : Nat) : Ob :=
  .row d 60 (sdL server rA rc priv pA pc ps par sA sc lA lc oA oc n nout) 14
theorem rhello_spec (d : Nat) (r : Nat → UInt8) (server : Bool) (rA : Option Addr) (rc : Nat) (priv : Int) (pA : Option Addr) (pc : Nat) (ps : List ByteArray) (par : Piece) (G : Mp) (h : Ent G (RowAt (some ⟨d, 0, none⟩) (sdL server rA rc priv pA pc ps par none 0 none 0 none 0 0 0)))
    (h1 : Ent G (RowAt rA (Bs (rn r)))) (hp : priv ≤ 9223372036854775807) :
    Spec Try.prog 40 #[.pointer (some ⟨d, 0, none⟩)] [] G (OwnB (helloL r priv)) := by
  refine Spec.intro (args := [_]) wide Try.func40 rfl Try.call40 (by rfl) (by rfl) (fun w0 hw0 => ?_)
  refine vcDraw_mix [0,1,2,3,4,5,6,7,8,9,10,11,12] (RowAt (some ⟨d, 0, none⟩) (sdL server rA rc priv pA pc ps par none 0 none 0 none 0 0 0)) (by kernel_rfl) (Ent.gnG h) ?_
  refine vcLoad1_row (j := 1) (v := .slice rA 32 rc) Ent.refl rfl ?_
  refine vcLoad1_row (j := 2) (v := .int .i64 priv) Ent.refl rfl ?_
  refine vcCall_of .nil (rpower_spec 37 priv (by decide) hp _) (fun v own' N' hv => ?_); obtain ⟨rfl, rfl, rfl⟩ := hv
  refine vcMix_same (Ent.gnG h) ?_
  refine vcCall_of .nil (reight_spec (powN 37 priv) (by have := powN_lt 37 priv; rw [prm_eq] at this; omega) _) (fun v own' N' hv => ?_)
  obtain ⟨A2, c2, rfl, rfl, rfl, hc2⟩ := hv
  refine vcMix_same (Ent.gnG h) ?_
  intro b3
  refine vcMix_same (Ent.gnG h) ?_
  have e : pieces [(rA, rc, rn r), (A2, c2, be 8 (powN 37 priv))] = helloL r priv := by simp [pieces, helloL]
  refine vcCall_of .nil (join_spec (some ⟨b3, 0, none⟩) 2 [(rA, rc, rn r), (A2, c2, be 8 (powN 37 priv))] _ (Ent.gnO .here (fun w hw => Ob.sl_at hw)) (fun p hp => ?_) (by rw [e, helloL_len]; decide) (by simp)) (fun v own' N' hv => ?_)
  · simp only [List.mem_cons, List.not_mem_nil, or_false] at hp
    rcases hp with rfl | rfl
    · exact Ent.gnG h1
    · exact (Ent.gnO (.there .here) (fun w hw => Ob.sl_at hw))
  rw [e] at hv
  obtain ⟨A', c', rfl, rfl, rfl, hc⟩ := hv
  refine vcMix_same (Ent.gnG h) ?_
  exact ⟨_, _, MT, .cons .here .nil, fun _ _ _ => trivial, _, _, rfl, rfl, rfl, hc⟩
def RSayTo (d : Nat) (server : Bool) (rA : Option Addr) (rc : Nat) (priv : Int) (pA : Option Addr) (pc : Nat) (ps : List ByteArray) (par : Piece) (lv : Int) (m : List UInt8) (v : Value) (own : List Ob) (N : Mp) : Prop :=
  ∃ sA sc lA lc oA oc Am cm, v = .tuple #[] ∧ own = [sdR d server rA rc priv pA pc ps par sA sc lA lc oA oc 1 1] ∧ Ent N (RowAt lA [.int .i64 lv]) ∧ Ent N (RowAt oA [.slice Am m.length cm]) ∧ Ent N (RowAt Am (Bs m))
theorem rsay_spec (d : Nat) (server : Bool) (rA : Option Addr) (rc : Nat) (priv : Int) (pA : Option Addr) (pc : Nat) (ps : List ByteArray) (par : Piece) (lv k : Int) (A : Option Addr) (c : Nat) (xs : List UInt8) (G : Mp) (h1 : Ent G (RowAt A (Bs xs))) (hx : xs.length ≤ 1099511627776) :
    Spec Try.prog 42 #[.pointer (some ⟨d, 0, none⟩), .int .i64 lv, .int .i64 k, .slice A xs.length c] [sdR d server rA rc priv pA pc ps par none 0 none 0 none 0 0 0] G (RSayTo d server rA rc priv pA pc ps par lv (msg k xs)) := by
  refine Spec.intro (args := [_, _, _, _]) wide Try.func42 rfl Try.call42 (by rfl) (by rfl) (fun w0 hw0 => ?_)
  refine vcCall_of .nil (message_spec k A c xs _ (Ent.gnG h1) (by omega)) (fun v own' N' hv => ?_); obtain ⟨Am, cm, rfl, rfl, rfl, hcm⟩ := hv
  refine vcLoad1_row (j := 5) (v := .slice none 0 0) (Ent.gnO (by first | ((repeat (first | exact .here | apply Take.there)); done) | exact .none_) (fun w hw => Ob.row_at hw)) rfl ?_
  intro b1
  refine vcApp_of [] _ [.slice Am (msg k xs).length cm] .none_ rfl rfl (by decide) (by simp [oneCell]) (Ent.gnO .here (fun w hw => Ob.sl_at hw)) (by decide) (by decide) (fun sA sc hsc => ?_)
  refine vcStore1_eq (sdR d server rA rc priv pA pc ps par none 0 none 0 none 0 0 0) (sdR d server rA rc priv pA pc ps par sA sc none 0 none 0 1 0) _ (.there (.there (.there .here))) rfl (by show (5 : Nat) < 14; decide) rfl rfl ?_
  refine vcLoad1_row (j := 10) (v := .slice none 0 0) (xs := sdL server rA rc priv pA pc ps par sA sc none 0 none 0 1 0) (Ent.gnO .here (fun w hw => Ob.row_at hw)) rfl ?_
  refine vcLoad1_row (j := 10) (v := .slice none 0 0) (xs := sdL server rA rc priv pA pc ps par sA sc none 0 none 0 1 0) (Ent.gnO .here (fun w hw => Ob.row_at hw)) rfl ?_
  intro b2
  refine vcApp_of [] _ [.slice Am (msg k xs).length cm] .none_ rfl rfl (by decide) (by simp [oneCell]) (Ent.gnO .here (fun w hw => Ob.sl_at hw)) (by decide) (by decide) (fun oA oc hoc => ?_)
  refine vcStore1_eq (sdR d server rA rc priv pA pc ps par sA sc none 0 none 0 1 0) (.row d 60 ((sdL server rA rc priv pA pc ps par sA sc none 0 none 0 1 0).set 10 (.slice oA 1 oc)) 14) _ (.there (.there .here)) rfl (by show (10 : Nat) < 14; decide) rfl rfl ?_
  refine vcLoad1_row (j := 9) (v := .slice none 0 0) (Ent.gnO .here (fun w hw => Ob.row_at hw)) rfl ?_
  intro b3
  refine vcApp_of [] _ [.int .i64 lv] .none_ rfl rfl (by decide) (by simp [oneCell]) (Ent.gnO .here (fun w hw => Ob.sl_at hw)) (by decide) (by decide) (fun lA lc hlc => ?_)
  refine vcStore1_eq (.row d 60 ((sdL server rA rc priv pA pc ps par sA sc none 0 none 0 1 0).set 10 (.slice oA 1 oc)) 14) (sdR d server rA rc priv pA pc ps par sA sc lA lc oA oc 1 1) _ (.there (.there .here)) rfl (by show (9 : Nat) < 14; decide) rfl rfl ?_
  refine ⟨[sdR d server rA rc priv pA pc ps par sA sc lA lc oA oc 1 1], _, fun w => RowAt lA [.int .i64 lv] w ∧ RowAt oA [.slice Am (msg k xs).length cm] w ∧ RowAt Am (Bs (msg k xs)) w, .cons .here .nil, fun w _ ho => ?_, sA, sc, lA, lc, oA, oc, Am, cm, rfl, rfl, fun w h => h.1, fun w h => h.2.1, fun w h => h.2.2⟩
  refine ⟨Ob.sl_at (ho (.sl lA lc 3 1 [.int .i64 lv]) (by simp)), Ob.sl_at (ho (.sl oA oc 24 1 [.slice Am (msg k xs).length cm]) (by simp)), Ob.sl_at (ho (.sl Am cm 5 1 (Bs (msg k xs))) (by simp))⟩
end Go.Proofs.Yticllmnblcjjcaa
