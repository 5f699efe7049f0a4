/- Layer 10: ShakeNews. -/
import Derived.Test.YticllmnblcjjcaaShkK
import Derived.Test.YticllmnblcjjcaaRead
namespace Go.Proofs.Yticllmnblcjjcaa
open Go.Proofs
set_option maxRecDepth 10000

theorem rn_eq (r : Nat → UInt8) : rn r = (List.range 32).map r := rfl
open Go.ChangeShapes Go.WideShapes Go.ChangeAt Go.RowKit in
/-- An array of 32 bytes. -/
theorem Dec.arr32 {P : Program} {e t : TypeId} (he : P.underlying e = some (.int .u8)) (hce : P.cellsOf e = 1) (ht : P.underlying t = some (.array 32 e)) (hc : P.cellsOf t = 32) :
    Dec P t (Nat → UInt8) (fun r => Bs (rn r)) (fun _ => True) (fun _ => MT) := by
  refine ⟨fun _ => hc.symm, ?_, fun _ _ _ _ _ => trivial⟩
  intro H enc W held fuel cs d ps h hw
  cases fuel with
  | zero => simp [DataW.trod] at h
  | succ fuel =>
    have h2 : (if cs.length = P.cellsOf t then ((List.range 32).mapM fun i => DataW.trod enc P W 0 (fun _ => true) held fuel e ((cs.drop (i * P.cellsOf e)).take (P.cellsOf e))).map fun xs => (DataW.agg (xs.map (·.1)), xs.flatMap (·.2)) else none) = some (d, ps) := by
      rw [← h]
      conv => rhs; unfold DataW.trod
      rw [ht]
    split at h2
    · rename_i hlen
      rw [hc] at hlen
      simp only [Option.map_eq_some_iff, Prod.mk.injEq] at h2
      obtain ⟨xs, hxs, rfl, _⟩ := h2
      simp only [DataW.weights, ht] at hw
      obtain ⟨l1, g1⟩ := mapM_get hxs
      let r : Nat → UInt8 := fun i => match cs[i]? with
        | some (.int .u8 z) => UInt8.ofNat z.toNat
        | _ => 0
      refine ⟨r, ?_, trivial, trivial⟩
      refine List.ext_getElem? fun i => ?_
      rw [rn_eq]
      unfold Bs
      rw [List.getElem?_map, List.getElem?_map]
      rcases Nat.lt_or_ge i 32 with hi | hi
      · obtain ⟨b, hb1, hb2⟩ := g1 i i (by rw [List.getElem?_range hi])
        have hmem : b.1 ∈ xs.map (·.1) := List.mem_map.2 ⟨b, List.mem_of_getElem? hb1, rfl⟩
        obtain ⟨z, hz, hok, _⟩ := (Dec.int he hce).get enc W held fuel _ b.1 b.2 hb2 (List.all_eq_true.2 fun n hn => List.all_eq_true.1 hw n (weightsAll_mem hmem n hn))
        rw [hce, Nat.mul_one] at hz
        have hci : cs[i]? = some (.int .u8 z) := by
          have h3 := congrArg (fun l : List Value => l[0]?) hz
          simpa [List.getElem?_take, List.getElem?_drop] using h3
        have hz' : 0 ≤ z ∧ z ≤ 255 := by simpa [IntKind.min, IntKind.max, IntKind.signed, IntKind.bits] using hok
        rw [List.getElem?_range hi, hci]
        simp only [Option.map_some, Option.some.injEq]
        show _ = B (r i)
        have hr : r i = UInt8.ofNat z.toNat := by simp only [r, hci]
        rw [hr]
        simp only [B, UInt8.toNat_ofNat']
        congr 1
        omega
      · rw [List.getElem?_eq_none (by omega), List.getElem?_eq_none (by simp; omega)]
        rfl
    · cases h2
theorem flat_st (l : List ByteArray) : (l.flatMap fun s => [Value.string s]) = stL l := by
  induction l with
  | nil => rfl
  | cons x l ih => rw [List.flatMap_cons, ih]; rfl
theorem awake_spec (G : Mp) : Spec Try.prog 6 #[] [] G (Ret (.bool true)) := by
  refine Spec.intro (args := []) wide Try.func6 rfl Try.call6 (by rfl) (by rfl) (fun w0 hw0 => ?_)
  intro b1
  have hg : goodC 5 [ByteArray.mk #[104, 51]] [] := by decide
  refine vcCall_of .nil (new_spec false (fun _ => 0) 5 (some ⟨b1, 0, none⟩) 1 [ByteArray.mk #[104, 51]] nilP _ (Ent.gnO .here (fun w hw => Ob.sl_at hw)) (fun _ _ => row0) (by decide)) (fun v own' N' hv => ?_)
  rcases hv with ⟨_, b, pA, pc, pp, pcc, wA, wc, A, c, oA, oc, out, rfl, rfl, hF, hout⟩ | ⟨hn, _⟩
  · have hout : outs out = [(0, hi0 false (fun _ => 0) 5 [ByteArray.mk #[104, 51]] [])] := hout
    obtain ⟨f, rfl⟩ : ∃ f, out = [f] := by
      cases out with
      | nil => cases hout
      | cons f r => cases r with
        | nil => exact ⟨f, rfl⟩
        | cons _ _ => exact absurd (congrArg List.length hout) (by simp [outs])
    have h1 : f.1 = 0 := congrArg Prod.fst (List.cons.inj hout).1
    have h2 : f.2.2.2 = hi0 false (fun _ => 0) 5 [ByteArray.mk #[104, 51]] [] := congrArg Prod.snd (List.cons.inj hout).1
    have h3 : f.2.2.2.length = 50 := by
      rw [h2]
      show (msg 1 (bodyL _ _ _ _)).length = 50
      rw [msg_length]
      simp only [bodyL, lng, List.length_append, helloL_len, List.length_cons, List.length_nil]
      rfl
    obtain ⟨s1, hs1⟩ : ∃ s1, s1 = { sk0 false (fun _ => 0) 5 pA pc [ByteArray.mk #[104, 51]] (pp, pcc, nilP.2.2) wA wc (if false = true then wsServer else wsClient) with said := (A, c, hi0 false (fun _ => 0) 5 [ByteArray.mk #[104, 51]] []), oA := oA, oc := oc, out := [f] } := ⟨_, rfl⟩
    have e1 : s1.oA = oA := by rw [hs1]
    have e2 : s1.oc = oc := by rw [hs1]
    have e3 : s1.out = [f] := by rw [hs1]
    refine vcCall_of (A := skO b s1) (by rw [hs1]; exact Pick.front) (out_spec b s1 _) (fun v own' N' hv => ?_)
    rw [OutTo, e1, e2, e3] at hv
    obtain ⟨rfl, rfl, rfl⟩ := hv
    have hfr : ∀ {rest : List Ob} {N : Mp}, Ent (GN G ((skO b { s1 with oA := none, oc := 0, out := [] } ++ Ob.sl oA oc 56 2 (flL [f]) :: flO [f]) ++ rest) N) (RowAt oA (flL [f])) := Ent.mem (o := .sl oA oc 56 2 (flL [f])) (by simp) (fun w hw => Ob.sl_at hw)
    have hby : ∀ {rest : List Ob} {N : Mp}, Ent (GN G ((skO b { s1 with oA := none, oc := 0, out := [] } ++ Ob.sl oA oc 56 2 (flL [f]) :: flO [f]) ++ rest) N) (RowAt f.2.1 (Bs f.2.2.2)) := Ent.mem (o := pO f.2) (by simp [flO]) (fun w hw => Ob.sl_at hw)
    have g0 : (flL [f])[0 * 2]? = some (.int .i64 f.1) := flL_get0 (l := [f]) (k := 0) Nat.zero_lt_one
    have g1 : (flL [f])[0 * 2 + 1]? = some (pieceV f.2) := flL_get1 (l := [f]) (k := 0) Nat.zero_lt_one
    refine vcIdx_nats (s := 2) 0 rfl hfr Nat.zero_lt_one (by rw [flL_len]; exact Nat.le_refl _) (by omega) (fun a1 ha1 => ?_)
    refine vcLoad1_2 (xs := flL [f]) (v := .int .i64 f.1) (fun w hw => by rw [← ha1]; exact hfr w hw) g0 ?_
    refine vcIf_yes h1 ?_
    refine vcIdx_nats (s := 2) 0 rfl hfr Nat.zero_lt_one (by rw [flL_len]; exact Nat.le_refl _) (by omega) (fun a2 ha2 => ?_)
    refine vcLoad1_2 (xs := flL [f]) (v := pieceV f.2) (fun w hw => by rw [← ha2]; exact hfr w hw) g1 ?_
    refine vcIf_yes (by omega) ?_
    refine vcIdx_nats (s := 2) 0 rfl hfr Nat.zero_lt_one (by rw [flL_len]; exact Nat.le_refl _) (by omega) (fun a3 ha3 => ?_)
    refine vcLoad1_2 (xs := flL [f]) (v := pieceV f.2) (fun w hw => by rw [← ha3]; exact hfr w hw) g1 ?_
    refine vcIdx_nat 0 rfl hby (by omega) (by rw [Bs_length]; exact Nat.le_refl _) (fun a4 ha4 => ?_)
    refine vcLoad1_row (xs := Bs f.2.2.2) (v := .int .u8 1) (fun w hw => by rw [← ha4]; exact hby w hw) (by rw [h2]; rfl) ?_
    exact ⟨[], _, MT, .nil, fun _ _ _ => trivial, rfl, rfl, rfl⟩
  · exact absurd hg hn
theorem news_spec (server : Bool) (r : Nat → UInt8) (priv : Int) (pA : Option Addr) (pc : Nat) (ps : List ByteArray) (par : Piece) (G : Mp) (h1 : Ent G (RowAt pA (stL ps))) (h2 : Ent G (RowAt par.1 (Bs par.2.2))) (hl : ps.length ≤ 8796093021952) (hl2 : par.2.2.length ≤ 281474976710656) :
    Spec Try.prog 3 #[.agg (cfL server r priv pA pc ps par).toArray] [] G (Ret (.bool true)) := by
  refine Spec.intro (args := [_]) wide Try.func3 rfl Try.call3 (by rfl) (by rfl) (fun w0 hw0 => ?_)
  intro b1
  refine vcLoadN_0 (xs := cfL server r priv pA pc ps par) (Ent.gnO .here (fun w hw => Ob.row_at hw)) rfl ?_
  refine vcCall_of .nil (made_spec server r priv pA pc ps par _ (Ent.gnG h1) (Ent.gnG h2) hl hl2) (fun v own' N' hv => ?_)
  rcases hv with ⟨hg, b, d, pA2, pc2, par2, wA, wc, said, oA, oc, out, rA, rc, pA', pc', sA, sc, lA, lc, dA, dc, n, fd, rfl, rfl, hF, hn, ho, hlen, hod⟩ | ⟨hg, rfl, rfl, rfl⟩
  · refine vcCall_of (A := sdR d server rA rc priv pA' pc' ps par sA sc lA lc dA dc n fd.length :: skO b (sk1 server r priv pA2 pc2 ps par2 wA wc (if server then wsServer else wsClient) said oA oc out)) Pick.front
      (rest_spec b d server r priv pA2 pc2 ps par2 wA wc (if server then wsServer else wsClient) said oA oc out rA rc pA' pc' ps par sA sc lA lc dA dc n fd _ (fun w hw => hF w hw.1.2.2) hn (by split <;> decide) ho hlen hod) (fun v own' N2 hv => ?_)
    obtain ⟨rfl, rfl, rfl⟩ := hv
    refine vcCall_of .nil (done_spec b (sk1 server r priv pA2 pc2 ps par2 wA wc (if server then wsServer else wsClient) said none 0 []) _ (Ent.mem (o := skR b _) (.head _) (fun w hw => Ob.row_at hw))) (fun v own' N3 hv => ?_)
    have hwz : decide ((sk1 server r priv pA2 pc2 ps par2 wA wc (if server then wsServer else wsClient) said none 0 []).ws.length = 0) = false := by
      show decide ((if server = true then wsServer else wsClient).length = 0) = false
      split <;> rfl
    rw [hwz] at hv
    obtain ⟨rfl, rfl, rfl⟩ := hv
    refine vcCall_of .nil (awake_spec _) (fun v own' N' hv => ?_); obtain ⟨rfl, rfl, rfl⟩ := hv
    exact ⟨[], _, MT, .nil, fun _ _ _ => trivial, rfl, rfl, rfl⟩
  · refine vcCall_of .nil (awake_spec _) (fun v own' N' hv => ?_); obtain ⟨rfl, rfl, rfl⟩ := hv
    exact ⟨[], _, MT, .nil, fun _ _ _ => trivial, rfl, rfl, rfl⟩
end Go.Proofs.Yticllmnblcjjcaa
