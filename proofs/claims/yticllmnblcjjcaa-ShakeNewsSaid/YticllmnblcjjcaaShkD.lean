/- Layer 10: what a side tells; its secrets. -/
import Derived.Test.YticllmnblcjjcaaShkC
import Derived.Test.YticllmnblcjjcaaDrp
namespace Go.Proofs.Yticllmnblcjjcaa
open Go.Proofs
set_option maxRecDepth 10000

theorem RowAt.part {a : Addr} {xs : List Value} {w : World} (n : Nat) {ys : List Value} (h : RowAt (some a) xs w) (hy : ∀ i u, ys[i]? = some u → xs[n + i]? = some u) : RowAt (some (a.add n)) ys w := by
  intro i u hi
  obtain ⟨a', ha, hc⟩ := h (n + i) u (hy i u hi)
  cases ha
  exact ⟨_, rfl, by rw [add_add]; exact hc⟩
theorem rn_part {v : Value} {r : Nat → UInt8} {t : List Value} : ∀ i u, (Bs (rn r))[i]? = some u → (v :: (Bs (rn r) ++ t))[1 + i]? = some u := by
  intro i u h
  rw [Nat.add_comm, List.getElem?_cons_succ, List.getElem?_append_left (List.getElem?_eq_some_iff.1 h).1]
  exact h
theorem rn_len (r : Nat → UInt8) : (rn r).length = 32 := rfl
def helloL (r : Nat → UInt8) (priv : Int) : List UInt8 := rn r ++ be 8 (powN 37 priv)
theorem helloL_len (r : Nat → UInt8) (priv : Int) : (helloL r priv).length = 40 := by unfold helloL; rw [List.length_append, be_length]; rfl
theorem hello_spec (b : Nat) (s : Sk) (G : Mp) (h : Ent G (RowAt (some ⟨b, 0, none⟩) (skL s))) (hp : s.priv ≤ 9223372036854775807) :
    Spec Try.prog 33 #[.pointer (some ⟨b, 0, none⟩)] [] G (OwnB (helloL s.rnd s.priv)) := by
  refine Spec.intro (args := [_]) wide Try.func33 rfl Try.call33 (by rfl) (by rfl) (fun w0 hw0 => ?_)
  refine vcDraw_mix [0,1,2,3,4,6,7,8,9,10,5,11,12,13,14] (RowAt (some ⟨b, 0, none⟩) (skL s)) (by kernel_rfl) (Ent.gnG h) ?_
  refine vcRange_of (by omega) ?_
  refine vcLoad1_2 (v := .int .i64 s.priv) (xs := skL s) (fun w hw => hw) rfl ?_
  refine vcCall_of .nil (clone_spec (some ((⟨b, 0, none⟩ : Addr).add 1)) 32 (rn s.rnd) _ (fun w hw => RowAt.part 1 (h w hw.1.1) rn_part) (by rw [rn_len]; decide)) (fun v own' N' hv => ?_)
  obtain ⟨A1, c1, rfl, rfl, rfl, hc1⟩ := hv
  refine vcMix_same (Ent.gnG h) ?_
  refine vcCall_of .nil (public_spec s.priv hp _) (fun v own' N' hv => ?_); obtain ⟨rfl, rfl, rfl⟩ := hv
  refine vcMix_same (Ent.gnG h) ?_
  refine vcCall_of .nil (eight_spec (powN 37 s.priv) _) (fun v own' N' hv => ?_)
  obtain ⟨A2, c2, rfl, rfl, rfl, hc2⟩ := hv
  refine vcMix_same (Ent.gnG h) ?_
  refine vcApp_big (Bs (rn s.rnd)) _ (Bs (be 8 (powN 37 s.priv))) (.there .here) rfl (by rw [Bs_length, Nat.mul_one]) (by decide) (Bs_one _) (Ent.gnO .here (fun w hw => Ob.sl_at hw)) (by rw [rn_len, be_length]; decide) (fun A3 c3 hc3 => ?_)
  refine vcMix_same (Ent.gnG h) ?_
  rw [← Bs_append]
  have hl : (rn s.rnd).length + (be 8 (powN 37 s.priv)).length = (helloL s.rnd s.priv).length := by unfold helloL; rw [List.length_append]
  rw [hl] at hc3 ⊢
  exact ⟨_, _, MT, .cons .here .nil, fun _ _ _ => trivial, A3, c3, rfl, rfl, rfl, hc3⟩

def OutTo (b : Nat) (s : Sk) (v : Value) (own : List Ob) (N : Mp) : Prop :=
  v = .slice s.oA s.out.length s.oc ∧ own = skO b { s with oA := none, oc := 0, out := [] } ++ .sl s.oA s.oc 56 2 (flL s.out) :: flO s.out ∧ N = MT
theorem out_spec (b : Nat) (s : Sk) (G : Mp) : Spec Try.prog 21 #[.pointer (some ⟨b, 0, none⟩)] (skO b s) G (OutTo b s) := by
  refine Spec.intro (args := [_]) wide Try.func21 rfl Try.call21 (by rfl) (by rfl) (fun w0 hw0 => ?_)
  refine vcLoad1_row (j := 41) (v := .slice s.oA s.out.length s.oc) (Ent.gnO .here (fun w hw => Ob.row_at hw)) rfl ?_
  refine vcStore1_eq (skR b s) (skR b { s with oA := none, oc := 0, out := [] }) _ .here rfl (by show (41 : Nat) < 49; decide) rfl rfl ?_
  refine ⟨_, [], MT, ?_, fun _ _ _ => trivial, rfl, rfl, rfl⟩
  exact .cons .here (.cons .here (.cons .here (.cons .here (.cons .none_ (.cons .here Pick.whole)))))
theorem done_spec (b : Nat) (s : Sk) (G : Mp) (h : Ent G (RowAt (some ⟨b, 0, none⟩) (skL s))) : Spec Try.prog 8 #[.pointer (some ⟨b, 0, none⟩)] [] G (Ret (.bool (decide (s.ws.length = 0)))) := by
  refine Spec.intro (args := [_]) wide Try.func8 rfl Try.call8 (by rfl) (by rfl) (fun w0 hw0 => ?_)
  refine vcLoad1_row (j := 36) (v := .slice s.wA s.ws.length s.wc) (Ent.gnG h) rfl ?_
  refine ⟨[], _, MT, .nil, fun _ _ _ => trivial, ?_, rfl, rfl⟩
  exact congrArg Value.bool (decide_eq_decide.2 (by omega))
theorem proto_spec (b : Nat) (s : Sk) (G : Mp) (h : Ent G (RowAt (some ⟨b, 0, none⟩) (skL s))) : Spec Try.prog 13 #[.pointer (some ⟨b, 0, none⟩)] [] G (Ret (.string s.proto)) := by
  refine Spec.intro (args := [_]) wide Try.func13 rfl Try.call13 (by rfl) (by rfl) (fun w0 hw0 => ?_)
  refine vcLoad1_row (j := 47) (v := .string s.proto) (Ent.gnG h) rfl ?_
  exact ⟨[], _, MT, .nil, fun _ _ _ => trivial, rfl, rfl, rfl⟩
theorem peer_spec (b : Nat) (s : Sk) (G : Mp) (h : Ent G (RowAt (some ⟨b, 0, none⟩) (skL s))) (hp : Ent G (RowAt s.peer.1 (Bs s.peer.2.2))) (hl : s.peer.2.2.length ≤ 1099511627776) :
    Spec Try.prog 17 #[.pointer (some ⟨b, 0, none⟩)] [] G (OwnB s.peer.2.2) := by
  refine Spec.intro (args := [_]) wide Try.func17 rfl Try.call17 (by rfl) (by rfl) (fun w0 hw0 => ?_)
  refine vcLoad1_row (j := 48) (v := pieceV s.peer) (Ent.gnG h) rfl ?_
  refine vcCall_of .nil (clone_spec s.peer.1 s.peer.2.1 s.peer.2.2 _ (Ent.gnG hp) (by omega)) (fun v own' N' hv => ?_)
  obtain ⟨A1, c1, rfl, rfl, rfl, hc1⟩ := hv
  exact ⟨_, _, MT, .cons .here .nil, fun _ _ _ => trivial, A1, c1, rfl, rfl, rfl, hc1⟩
def GivTo (p q : Piece) (v : Value) (own : List Ob) (N : Mp) : Prop :=
  ∃ A c A' c', v = .tuple #[.agg #[.slice A p.2.2.length c, .slice A' q.2.2.length c'], .bool p.1.isSome] ∧ own = [pO (A, c, p.2.2), pO (A', c', q.2.2)] ∧ N = MT
theorem given_spec (p q : Piece) (G : Mp) (h1 : Ent G (RowAt p.1 (Bs p.2.2))) (h2 : Ent G (RowAt q.1 (Bs q.2.2))) (l1 : p.2.2.length ≤ 1099511627776) (l2 : q.2.2.length ≤ 1099511627776) :
    Spec Try.prog 37 #[.agg #[pieceV p, pieceV q]] [] G (GivTo p q) := by
  refine Spec.intro (args := [_]) wide Try.func37 rfl Try.call37 (by rfl) (by rfl) (fun w0 hw0 => ?_)
  intro b1 b2
  refine vcDraw_mix [0,1,3,4,7,8,9,2,5,6,10,11] (RowAt (some ⟨b1, 0, none⟩) [pieceV p, pieceV q]) (by kernel_rfl) (Ent.gnO (.there .here) (fun w hw => Ob.row_at hw)) ?_
  refine vcLoad1_row (j := 0) (v := pieceV p) Ent.refl rfl ?_
  refine vcLoad1_row (j := 1) (v := pieceV q) Ent.refl rfl ?_
  refine vcLoad1_row (j := 0) (v := pieceV p) Ent.refl rfl ?_
  refine vcCall_of .nil (clone_spec p.1 p.2.1 p.2.2 _ (Ent.gnG h1) (by omega)) (fun v own' N' hv => ?_)
  obtain ⟨A1, c1, rfl, rfl, rfl, hc1⟩ := hv
  refine vcMix_same (Ent.gnO (by first | ((repeat (first | exact .here | apply Take.there)); done) | exact .none_) (fun w hw => Ob.row_at hw)) ?_
  refine vcCall_of .nil (clone_spec q.1 q.2.1 q.2.2 _ (Ent.gnG h2) (by omega)) (fun v own' N' hv => ?_)
  obtain ⟨A2, c2, rfl, rfl, rfl, hc2⟩ := hv
  refine vcMix_same (Ent.gnO (by first | ((repeat (first | exact .here | apply Take.there)); done) | exact .none_) (fun w hw => Ob.row_at hw)) ?_
  refine ⟨rfl, vcStoreN_row _ (.there (.there .here)) rfl (by intro v hv; change v ∈ [Value.slice A1 p.2.2.length c1, Value.slice A2 q.2.2.length c2] at hv; simp only [List.mem_cons, List.not_mem_nil, or_false] at hv; rcases hv with rfl | rfl <;> rfl) ?_⟩
  refine vcMix_same (Ent.gnO (by first | ((repeat (first | exact .here | apply Take.there)); done) | exact .none_) (fun w hw => Ob.row_at hw)) ?_
  refine vcLoadN_0 (xs := [Value.slice A1 p.2.2.length c1, Value.slice A2 q.2.2.length c2]) (Ent.gnO .here (fun w hw => Ob.row_at hw)) rfl ?_
  refine ⟨[pO (A1, c1, p.2.2), pO (A2, c2, q.2.2)], _, MT, .cons (.there (.there .here)) (.cons (.there .here) .nil), fun _ _ _ => trivial, A1, c1, A2, c2, ?_, rfl, rfl⟩
  have e : (!p.1.isNone) = p.1.isSome := by cases p.1 <;> rfl
  rw [← e]
  rfl
theorem hand_spec (b : Nat) (s : Sk) (G : Mp) (h : Ent G (RowAt (some ⟨b, 0, none⟩) (skL s))) (h1 : Ent G (RowAt s.hc.1 (Bs s.hc.2.2))) (h2 : Ent G (RowAt s.hs.1 (Bs s.hs.2.2))) (l1 : s.hc.2.2.length ≤ 1099511627776) (l2 : s.hs.2.2.length ≤ 1099511627776) :
    Spec Try.prog 14 #[.pointer (some ⟨b, 0, none⟩)] [] G (GivTo s.hc s.hs) := by
  refine Spec.intro (args := [_]) wide Try.func14 rfl Try.call14 (by rfl) (by rfl) (fun w0 hw0 => ?_)
  intro b2
  refine vcLoadN_1 [pieceV s.hc, pieceV s.hs] (Ent.gnG h) rfl rfl ?_
  refine vcCall_of .nil (given_spec s.hc s.hs _ (Ent.gnG h1) (Ent.gnG h2) l1 l2) (fun v own' N' hv => ?_)
  obtain ⟨A1, c1, A2, c2, rfl, rfl, rfl⟩ := hv
  refine ⟨rfl, vcStoreN_row _ (.there (.there .here)) rfl (by intro v hv; change v ∈ [Value.slice A1 s.hc.2.2.length c1, Value.slice A2 s.hs.2.2.length c2] at hv; simp only [List.mem_cons, List.not_mem_nil, or_false] at hv; rcases hv with rfl | rfl <;> rfl) ?_⟩
  refine vcLoadN_0 (xs := [Value.slice A1 s.hc.2.2.length c1, Value.slice A2 s.hs.2.2.length c2]) (Ent.gnO .here (fun w hw => Ob.row_at hw)) rfl ?_
  exact ⟨[pO (A1, c1, s.hc.2.2), pO (A2, c2, s.hs.2.2)], _, MT, .cons (.there .here) (.cons (.there .here) .nil), fun _ _ _ => trivial, A1, c1, A2, c2, rfl, rfl, rfl⟩
theorem app_spec (b : Nat) (s : Sk) (G : Mp) (h : Ent G (RowAt (some ⟨b, 0, none⟩) (skL s))) (h1 : Ent G (RowAt s.ac.1 (Bs s.ac.2.2))) (h2 : Ent G (RowAt s.as_.1 (Bs s.as_.2.2))) (l1 : s.ac.2.2.length ≤ 1099511627776) (l2 : s.as_.2.2.length ≤ 1099511627776) :
    Spec Try.prog 15 #[.pointer (some ⟨b, 0, none⟩)] [] G (GivTo s.ac s.as_) := by
  refine Spec.intro (args := [_]) wide Try.func15 rfl Try.call15 (by rfl) (by rfl) (fun w0 hw0 => ?_)
  intro b2
  refine vcLoadN_1 [pieceV s.ac, pieceV s.as_] (Ent.gnG h) rfl rfl ?_
  refine vcCall_of .nil (given_spec s.ac s.as_ _ (Ent.gnG h1) (Ent.gnG h2) l1 l2) (fun v own' N' hv => ?_)
  obtain ⟨A1, c1, A2, c2, rfl, rfl, rfl⟩ := hv
  refine ⟨rfl, vcStoreN_row _ (.there (.there .here)) rfl (by intro v hv; change v ∈ [Value.slice A1 s.ac.2.2.length c1, Value.slice A2 s.as_.2.2.length c2] at hv; simp only [List.mem_cons, List.not_mem_nil, or_false] at hv; rcases hv with rfl | rfl <;> rfl) ?_⟩
  refine vcLoadN_0 (xs := [Value.slice A1 s.ac.2.2.length c1, Value.slice A2 s.as_.2.2.length c2]) (Ent.gnO .here (fun w hw => Ob.row_at hw)) rfl ?_
  exact ⟨[pO (A1, c1, s.ac.2.2), pO (A2, c2, s.as_.2.2)], _, MT, .cons (.there .here) (.cons (.there .here) .nil), fun _ _ _ => trivial, A1, c1, A2, c2, rfl, rfl, rfl⟩
end Go.Proofs.Yticllmnblcjjcaa
