/- RouteAsked is true of every input; no condition. [AskC AskD AskE RAsk] -/
import Derived.Test.YtnhkeghahiedfaaMg4
import Derived.Test.YtnhkeghahiedfaaMg2
section
/- RouteAsked: what becomes of an initial packet. -/
namespace Go.Proofs.Ytnhkeghahiedfaa
open Go.Proofs
set_option maxRecDepth 10000

/-- A retry, ahead of its digest. -/
def rplH (peer id tok : List UInt8) : List UInt8 := [240, 0, 0, 0, 1] ++ (byteI peer.length :: peer) ++ (byteI id.length :: id) ++ tok
def vdV (k : Int) (f p r : Value) : Value := .agg #[.int .i64 k, .int .i64 0, f, p, r]
def hdA (id peer tok : List UInt8) : HdrL := ⟨1, 1, id, peer, tok, [], 1000⟩
theorem hdr_one (h : HdrL) (d s t v : Pl) : ∀ x ∈ hdrOf h d s t v, oneCell x = true := by
  intro x hx
  simp only [hdrOf, hdrC, List.mem_cons, List.not_mem_nil, or_false] at hx
  rcases hx with rfl | rfl | rfl | rfl | rfl | rfl | rfl <;> rfl
theorem vd_one (k : Int) (f p r : Value) (hf : oneCell f = true) (hp : oneCell p = true) (hr : oneCell r = true) : ∀ x ∈ [.int .i64 k, .int .i64 0, f, p, r], oneCell x = true := by
  intro x hx
  simp only [List.mem_cons, List.not_mem_nil, or_false] at hx
  rcases hx with rfl | rfl | rfl | rfl | rfl <;> first | rfl | assumption
def InitA (b : Nat) (sec : Piece) (m1 m2 : Nat) (peer : List UInt8) (addr : Nat) (u : Nat) (v : Value) (own : List Ob) (N : Mp) : Prop :=
  ∃ A c dg, v = vdV 3 (.slice none 0 0) (.slice none 0 0) (.slice A (rplH peer (idB sec.2.2 9 0) (tokB sec.2.2 addr u (idB sec.2.2 9 0)) ++ dg).length c) ∧ dg.length = 16 ∧
    own = tbO b sec 1 m1 m2 ++ [.sl A c 5 1 (Bs (rplH peer (idB sec.2.2 9 0) (tokB sec.2.2 addr u (idB sec.2.2 9 0)) ++ dg))] ∧ N = MT ∧ (rplH peer (idB sec.2.2 9 0) (tokB sec.2.2 addr u (idB sec.2.2 9 0)) ++ dg).length ≤ c
set_option maxHeartbeats 1000000 in
theorem initA_spec (b : Nat) (sec : Piece) (m1 m2 : Nat) (id peer : List UInt8) (d s t vs : Pl) (addr now : Nat) (G : Mp) (hM : HdrM (hdA id peer []) d s t vs G) (h16 : sec.2.2.length = 16) (ha : addr ≤ 4294967295) (hnow : now ≤ 1099511627776) (hi : id.length ≤ 20) (hp : peer.length ≤ 20) :
    Spec Try.prog 41 #[.pointer (some ⟨b, 0, none⟩), .int .i64 addr, .agg (hdrOf (hdA id peer []) d s t vs).toArray, .int .i64 now] (tbO b sec 0 m1 m2) G (InitA b sec m1 m2 peer addr (now + 10000)) := by
  refine Spec.intro (args := [_, _, _, _]) wide Try.func41 rfl Try.call41 (by rfl) (by rfl) (fun w0 hw0 => ?_)
  intro b6 b8
  refine vcLoad1_2 (v := .bool true) (xs := tbL sec 0 m1 m2) (Ent.gnO (.there (.there .here)) (fun w hw => Ob.row_at hw)) rfl ?_
  refine vcLoad1_row (j := 4) (v := .slice t.1 0 t.2) (xs := hdrOf (hdA id peer []) d s t vs) (Ent.gnO (.there .here) (fun w hw => Ob.row_at hw)) rfl ?_
  refine vcCall_of (A := tbO b sec 0 m1 m2) (.cons (.there (.there .here)) (.cons (.there (.there .here)) (.cons (.there (.there .here)) .nil))) (next_spec b sec m1 m2 _ h16) (fun v own' N' hv => ?_)
  have h8 : (idB sec.2.2 9 0).length = 8 := xorD_length _ _
  obtain ⟨id8, hid8⟩ : ∃ x, x = idB sec.2.2 9 0 := ⟨_, rfl⟩
  unfold InitA
  rw [← hid8] at hv h8 ⊢
  obtain ⟨A1, c1, rfl, rfl, rfl, hc1⟩ := hv
  refine vcLoad1_2 (v := pieceV sec) (xs := tbL sec 1 m1 m2) (Ent.gnO .here (fun w hw => Ob.row_at hw)) rfl ?_
  refine vcFit_i64 (by omega) ?_
  refine vcCall_of .nil (token_spec sec.1 A1 sec.2.1 c1 sec.2.2 id8 addr ((now : Int) + 10000) _ (Ent.gnO (o := .sl sec.1 sec.2.1 5 1 (Bs sec.2.2)) (.there (.there .here)) (fun w hw => Ob.sl_at hw)) (Ent.gnO (o := .sl A1 c1 5 1 (Bs id8)) (.there (.there (.there .here))) (fun w hw => Ob.sl_at hw))) (fun v own' N' hv => ?_)
  have htk : tokenL sec.2.2 addr ((now : Int) + 10000) id8 = (tokB sec.2.2 addr (now + 10000) id8, 0) := by
    have he : tokE sec.2.2.length addr ((now : Int) + 10000) id8.length = 0 := by
      unfold tokE
      rw [if_neg (by omega), if_neg (by omega), if_neg (by omega), if_neg (by omega)]
    have h2 : ((now : Int) + 10000).toNat = now + 10000 := by omega
    unfold tokenL
    rw [if_neg (by omega), Int.toNat_natCast, h2]
  rw [htk] at hv
  have htl : (tokB sec.2.2 addr (now + 10000) id8).length = 44 := by rw [tokB_length (by omega), h8]
  obtain ⟨tk, htkd⟩ : ∃ x, x = tokB sec.2.2 addr (now + 10000) id8 := ⟨_, rfl⟩
  rw [← htkd] at hv htl ⊢
  obtain ⟨A2, c2, rfl, rfl, rfl, hc2⟩ := hv
  intro b10
  refine vcLoad1_row (j := 3) (v := .slice s.1 peer.length s.2) (xs := hdrOf (hdA id peer []) d s t vs) (Ent.mem (o := .row b6 70 (hdrOf (hdA id peer []) d s t vs) 7) (by simp [hdrOf, hdrC]) (fun w hw => Ob.row_at hw)) rfl ?_
  refine vcCall_of .nil (short_spec2 s.1 s.2 peer _ (Ent.gnG hM.src) (by omega)) (fun v own' N' hv => ?_)
  obtain ⟨A3, c3, rfl, rfl, rfl, hc3⟩ := hv
  refine vcCall_of .nil (short_spec2 A1 c1 id8 _ (Ent.mem (o := .sl A1 c1 5 1 (Bs id8)) (by simp) (fun w hw => Ob.sl_at hw)) (by omega)) (fun v own' N' hv => ?_)
  obtain ⟨A4, c4, rfl, rfl, rfl, hc4⟩ := hv
  intro b11
  have e1 : pieces [(some ⟨b10, 0, none⟩, 5, [240, 0, 0, 0, 1]), (A3, c3, byteI peer.length :: peer), (A4, c4, byteI id8.length :: id8), (A2, c2, tk)] = rplH peer id8 tk := by simp [pieces, rplH]
  have el1 : (rplH peer id8 tk).length = 59 + peer.length := by simp only [rplH, List.length_append, List.length_cons, List.length_nil]; omega
  refine vcCall_of .nil (concat_spec (some ⟨b11, 0, none⟩) 4 [(some ⟨b10, 0, none⟩, 5, [240, 0, 0, 0, 1]), (A3, c3, byteI peer.length :: peer), (A4, c4, byteI id8.length :: id8), (A2, c2, tk)] _ (Ent.gnO .here (fun w hw => Ob.sl_at hw)) (fun p hp' => ?_) (by rw [e1, el1]; omega) (by simp)) (fun v own' N' hv => ?_)
  · simp only [List.mem_cons, List.not_mem_nil, or_false] at hp'
    rcases hp' with rfl | rfl | rfl | rfl
    · exact Ent.mem (o := .sl (some ⟨b10, 0, none⟩) 5 5 1 (Bs [240, 0, 0, 0, 1])) (by simp [Bs, B]) (fun w hw => Ob.sl_at hw)
    · exact Ent.mem (o := .sl A3 c3 5 1 (Bs (byteI peer.length :: peer))) (by simp) (fun w hw => Ob.sl_at hw)
    · exact Ent.mem (o := .sl A4 c4 5 1 (Bs (byteI id8.length :: id8))) (by simp) (fun w hw => Ob.sl_at hw)
    · exact Ent.mem (o := .sl A2 c2 5 1 (Bs tk)) (by simp) (fun w hw => Ob.sl_at hw)
  rw [e1] at hv
  obtain ⟨A5, c5, rfl, rfl, rfl, hc5⟩ := hv
  intro b12
  refine vcMark_of .here ?_
  refine vcLoad1_row (j := 2) (v := .slice d.1 id.length d.2) (xs := hdrOf (hdA id peer []) d s t vs) (Ent.mem (o := .row b6 70 (hdrOf (hdA id peer []) d s t vs) 7) (by simp [hdrOf, hdrC]) (fun w hw => Ob.row_at hw)) rfl ?_
  refine vcCall_of .nil (short_spec2 d.1 d.2 id _ (Ent.gnG hM.dst) (by omega)) (fun v own' N' hv => ?_)
  obtain ⟨A6, c6, rfl, rfl, rfl, hc6⟩ := hv
  intro b13
  have hpl : (pieces [(some ⟨b12, 0, none⟩, 5, [114, 101, 116, 114, 121]), (A6, c6, byteI id.length :: id), (A5, c5, rplH peer id8 tk)]).length ≤ 1000 := by
    simp only [pieces, List.flatMap_cons, List.flatMap_nil, List.length_append, List.length_cons, List.length_nil]; omega
  refine vcCall_of .nil (digest_spec (some ⟨b13, 0, none⟩) 3 [(some ⟨b12, 0, none⟩, 5, [114, 101, 116, 114, 121]), (A6, c6, byteI id.length :: id), (A5, c5, rplH peer id8 tk)] _ (Ent.gnO .here (fun w hw => Ob.sl_at hw)) (fun p hp' => ?_) (by omega) (by simp)) (fun v own' N' hv => ?_)
  · simp only [List.mem_cons, List.not_mem_nil, or_false] at hp'
    rcases hp' with rfl | rfl | rfl
    · exact Ent.mem (o := .sl (some ⟨b12, 0, none⟩) 5 5 1 (Bs [114, 101, 116, 114, 121])) (by simp [Bs, B]) (fun w hw => Ob.sl_at hw)
    · exact Ent.mem (o := .sl A6 c6 5 1 (Bs (byteI id.length :: id))) (by simp) (fun w hw => Ob.sl_at hw)
    · exact Ent.mem (o := .sl A5 c5 5 1 (Bs (rplH peer id8 tk))) (by simp) (fun w hw => Ob.sl_at hw)
  have hdl := dig_length (pieces [(some ⟨b12, 0, none⟩, 5, [114, 101, 116, 114, 121]), (A6, c6, byteI id.length :: id), (A5, c5, rplH peer id8 tk)])
  generalize dig (pieces [(some ⟨b12, 0, none⟩, 5, [114, 101, 116, 114, 121]), (A6, c6, byteI id.length :: id), (A5, c5, rplH peer id8 tk)]) = dg at hv hdl
  obtain ⟨A7, c7, rfl, rfl, hr7, hc7⟩ := hv
  refine vcApp_big (Bs (rplH peer id8 tk)) _ (Bs dg) (by first | ((repeat (first | exact .here | apply Take.there)); done) | exact .none_) (by rw [Bs_length, Nat.mul_one]) (by rw [Bs_length, Nat.mul_one]) (by decide) (Bs_one _) (fun w hw => hr7 w hw.1.2.2) (by omega) (fun A8 c8 hc8 => ?_)
  rw [← Bs_append]
  have hrl : (rplH peer id8 tk).length + dg.length = (rplH peer id8 tk ++ dg).length := by rw [List.length_append]
  rw [hrl] at hc8 ⊢
  refine ⟨rfl, vcStoreN_row (b := b8) (ty := 53) (xs := [.int .i64 0, .int .i64 0, .slice none 0 0, .slice none 0 0, .slice none 0 0]) (m := 5) _ (by first | ((repeat (first | exact .here | apply Take.there)); done) | exact .none_) rfl (vd_one _ _ _ _ rfl rfl rfl) ?_⟩
  refine vcLoadN_0 (xs := [.int .i64 3, .int .i64 0, .slice none 0 0, .slice none 0 0, .slice A8 (rplH peer id8 tk ++ dg).length c8]) (Ent.gnO .here (fun w hw => Ob.row_at hw)) rfl ?_
  refine ⟨tbO b sec 1 m1 m2 ++ [.sl A8 c8 5 1 (Bs (rplH peer id8 tk ++ dg))], _, MT, .cons (by first | ((repeat (first | exact .here | apply Take.there)); done) | exact .none_) (.cons (by first | ((repeat (first | exact .here | apply Take.there)); done) | exact .none_) (.cons (by first | ((repeat (first | exact .here | apply Take.there)); done) | exact .none_) (.cons (by first | ((repeat (first | exact .here | apply Take.there)); done) | exact .none_) .nil))), fun _ _ _ => trivial, A8, c8, dg, rfl, hdl, rfl, rfl, hc8⟩
def InitB (b : Nat) (sec : Piece) (m1 m2 : Nat) (id peer : List UInt8) (v : Value) (own : List Ob) (N : Mp) : Prop :=
  ∃ d s : Pl, v = vdV 2 (.slice d.1 id.length d.2) (.slice s.1 peer.length s.2) (.slice none 0 0) ∧ own = tbO b sec 1 m1 m2 ∧ Ent N (RowAt d.1 (Bs id)) ∧ Ent N (RowAt s.1 (Bs peer))
theorem initB_spec (b : Nat) (sec : Piece) (m1 m2 : Nat) (id peer : List UInt8) (d s t vs : Pl) (addr now u : Nat) (tk : List UInt8) (htk : tk = tokB sec.2.2 addr u id) (G : Mp) (hM : HdrM (hdA id peer tk) d s t vs G) (h16 : sec.2.2.length = 16) (ha : addr ≤ 4294967295) (hu : u ≤ 4611686018427387903) (hnow : now ≤ u) (hi : id.length ≤ 20) :
    Spec Try.prog 41 #[.pointer (some ⟨b, 0, none⟩), .int .i64 addr, .agg (hdrOf (hdA id peer tk) d s t vs).toArray, .int .i64 now] (tbO b sec 1 m1 m2) G
      (fun v own N => v = vdV 2 (.slice d.1 id.length d.2) (.slice s.1 peer.length s.2) (.slice none 0 0) ∧ own = tbO b sec 1 m1 m2 ∧ N = MT) := by
  refine Spec.intro (args := [_, _, _, _]) wide Try.func41 rfl Try.call41 (by rfl) (by rfl) (fun w0 hw0 => ?_)
  have htl : tk.length = id.length + 36 := by rw [htk]; exact tokB_length hi
  have hMt := hM.tok
  have hMc := hM.ct
  have hMd := hM.dst
  have hMs := hM.src
  simp only [hdA] at hMt hMc hMd hMs
  intro b6 b8
  refine vcLoad1_2 (v := .bool true) (xs := tbL sec 1 m1 m2) (Ent.gnO (.there (.there .here)) (fun w hw => Ob.row_at hw)) rfl ?_
  refine vcLoad1_row (j := 4) (v := .slice t.1 tk.length t.2) (xs := hdrOf (hdA id peer tk) d s t vs) (Ent.gnO (.there .here) (fun w hw => Ob.row_at hw)) rfl ?_
  refine vcIf_no (by omega) ?_
  refine vcLoad1_2 (v := .bool true) (xs := tbL sec 1 m1 m2) (Ent.gnO (.there (.there .here)) (fun w hw => Ob.row_at hw)) rfl ?_
  refine vcDraw_mix [0,1,2,3,4,5,6,7,8,9,10,11,12,13,14] (GN _ _ _) (by kernel_rfl) Ent.refl ?_
  refine vcLoad1_2 (v := pieceV sec) (xs := tbL sec 1 m1 m2) (Ent.gnO (.there (.there .here)) (fun w hw => Ob.row_at hw)) rfl ?_
  refine vcLoad1_row (j := 4) (v := .slice t.1 tk.length t.2) (xs := hdrOf (hdA id peer tk) d s t vs) (Ent.gnO (.there .here) (fun w hw => Ob.row_at hw)) rfl ?_
  have hpr : ∀ G' : Mp, Ent G' (RowAt sec.1 (Bs sec.2.2)) → Ent G' (RowAt t.1 (Bs tk)) → Spec Try.prog 17 #[.slice sec.1 sec.2.2.length sec.2.1, .int .i64 addr, .int .i64 now, .slice t.1 tk.length t.2] [] G' (GetBE (proofR now u id).1 (proofR now u id).2) := fun G' a1 a2 => by
    subst htk
    exact proof_spec sec.1 t.1 sec.2.1 t.2 sec.2.2 addr u id now G' a1 a2 h16 (by omega) hu hi hMc
  clear htk
  refine vcCall_of .nil (hpr _ (Ent.gnO (o := .sl sec.1 sec.2.1 5 1 (Bs sec.2.2)) (.there (.there (.there (.there .here)))) (fun w hw => Ob.sl_at hw)) (Ent.gnG hMt)) (fun v own' N' hv => ?_)
  rw [show proofR now u id = (id, 0) from if_neg (by omega)] at hv
  obtain ⟨A1, c1, rfl, rfl, hr1, hc1⟩ := hv
  refine vcMix_last (by kernel_rfl) ?_
  refine vcLoad1_row (j := 2) (v := .slice d.1 id.length d.2) (xs := hdrOf (hdA id peer tk) d s t vs) (Ent.gnO (.there .here) (fun w hw => Ob.row_at hw)) rfl ?_
  refine vcCall_of .nil (bequal_spec A1 d.1 c1 d.2 id id.length id.length rfl rfl _ (fun w hw => hr1 w hw.1.2.2) (Ent.gnG hMd)) (fun v own' N' hv => ?_); obtain ⟨rfl, rfl, rfl⟩ := hv
  refine vcLoad1_row (j := 2) (v := .slice d.1 id.length d.2) (xs := hdrOf (hdA id peer tk) d s t vs) (Ent.gnO (.there .here) (fun w hw => Ob.row_at hw)) rfl ?_
  refine vcLoad1_row (j := 3) (v := .slice s.1 peer.length s.2) (xs := hdrOf (hdA id peer tk) d s t vs) (Ent.gnO (.there .here) (fun w hw => Ob.row_at hw)) rfl ?_
  refine ⟨rfl, vcStoreN_row (b := b8) (ty := 53) (xs := [.int .i64 0, .int .i64 0, .slice none 0 0, .slice none 0 0, .slice none 0 0]) (m := 5) _ (by first | ((repeat (first | exact .here | apply Take.there)); done) | exact .none_) rfl (vd_one _ _ _ _ rfl rfl rfl) ?_⟩
  refine vcLoadN_0 (xs := [.int .i64 2, .int .i64 0, .slice d.1 id.length d.2, .slice s.1 peer.length s.2, .slice none 0 0]) (Ent.gnO .here (fun w hw => Ob.row_at hw)) rfl ?_
  exact ⟨tbO b sec 1 m1 m2, _, MT, .cons (by first | ((repeat (first | exact .here | apply Take.there)); done) | exact .none_) (.cons (by first | ((repeat (first | exact .here | apply Take.there)); done) | exact .none_) (.cons (by first | ((repeat (first | exact .here | apply Take.there)); done) | exact .none_) .nil)), fun _ _ _ => trivial, rfl, rfl, rfl⟩
end Go.Proofs.Ytnhkeghahiedfaa
end

section
/- RouteAsked: Look. -/
namespace Go.Proofs.Ytnhkeghahiedfaa
open Go.Proofs
set_option maxRecDepth 10000

theorem clamp {n : Int} (h0 : 0 ≤ n) (h : n ≤ 1099511627776) : (if (1099511627776 : Int) < if n < 0 then 0 else n then 1099511627776 else if n < 0 then 0 else n) = n := by
  rw [if_neg (show ¬ n < 0 by omega), if_neg (by omega)]
theorem HdrM.to {h : HdrL} {d s t v : Pl} {M N : Mp} (hm : HdrM h d s t v N) (hM : Ent M N) : HdrM h d s t v M :=
  ⟨fun w hw => hm.dst w (hM w hw), fun w hw => hm.src w (hM w hw), fun w hw => hm.tok w (hM w hw), fun w hw => hm.vers w (hM w hw), hm.cd, hm.cs, hm.ct, hm.cv⟩
set_option maxHeartbeats 1000000 in
theorem lookA_spec (b : Nat) (sec : Piece) (m1 m2 : Nat) (id peer : List UInt8) (A : Option Addr) (c : Nat) (bs : List UInt8) (hbs : bs = askB peer id []) (addr now : Nat) (G : Mp) (hb : Ent G (RowAt A (Bs bs))) (h16 : sec.2.2.length = 16) (ha : addr ≤ 4294967295) (hnow : now ≤ 1099511627776) (hi8 : 8 ≤ id.length) (hi : id.length ≤ 20) (hp : peer.length ≤ 20) :
    Spec Try.prog 20 #[.pointer (some ⟨b, 0, none⟩), .int .i64 addr, .slice A bs.length c, .int .i64 now] (tbO b sec 0 m1 m2) G
      (fun v own N => ∃ vd, v = .tuple #[vd, .int .i64 0] ∧ InitA b sec m1 m2 peer addr (now + 10000) vd own N) := by
  refine Spec.intro (args := [_, _, _, _]) wide Try.func20 rfl Try.call20 (by rfl) (by rfl) (fun w0 hw0 => ?_)
  have hlen : bs.length = 1209 + id.length + peer.length + (vput (([] : List UInt8).length : Nat)).length + 0 := by rw [hbs]; exact ask_len peer id []
  have hv9 := vput_le9 (([] : List UInt8).length : Nat)
  obtain ⟨st, en, hpar⟩ := ask_parse peer id [] hi hp (Nat.zero_le _)
  rw [← hbs] at hpar
  have hparT := parseT_ok hpar
  intro b8
  refine vcIf_no (by omega) ?_
  refine vcCall_of .nil (parse_spec A c bs 8 _ (Ent.gnG hb) (by omega) (.inl (by omega))) (fun v own' N' hv => ?_)
  rw [hparT] at hv
  obtain ⟨d, s, t, vs, rfl, rfl, hM⟩ := hv
  have hMd := hM.dst
  simp only at hMd
  intro b10
  refine ⟨rfl, vcStoreN_row (vs := hdrOf (hdA id peer []) d s t vs) _ .here rfl (hdr_one _ _ _ _ _) ?_⟩
  refine vcDraw_mix [0,1,2,3,4,5,6,7,8,9,10,11,12] (GN _ _ _) (by kernel_rfl) Ent.refl ?_
  refine vcLoad1_row (j := 5) (v := .map (some m1)) (xs := tbL sec 0 m1 m2) (Ent.mem (o := tbR b sec 0 m1 m2) (by simp [tbO]) (fun w hw => Ob.row_at hw)) rfl ?_
  refine vcLoad1_row (j := 2) (v := .slice d.1 id.length d.2) (xs := hdrOf (hdA id peer []) d s t vs) (Ent.gnO .here (fun w hw => Ob.row_at hw)) rfl ?_
  refine vcBytesStr.intro id rfl (fun w hw => hMd w hw.1.2.2) ?_
  refine vcLookS.intro 0 (Ent.mem (o := .map m1 [] 0) (by simp [tbO]) (fun w hw => hw)) ?_
  refine vcLoad1_row (j := 0) (v := .int .i64 1) (xs := hdrOf (hdA id peer []) d s t vs) (Ent.gnO .here (fun w hw => Ob.row_at hw)) rfl ?_
  refine vcIf_yes (by omega) ?_
  refine vcLoad1_row (j := 2) (v := .slice d.1 id.length d.2) (xs := hdrOf (hdA id peer []) d s t vs) (Ent.gnO .here (fun w hw => Ob.row_at hw)) rfl ?_
  refine vcIf_yes (by omega) ?_
  refine vcLoadN_0 (xs := hdrOf (hdA id peer []) d s t vs) (Ent.gnO .here (fun w hw => Ob.row_at hw)) rfl ?_
  have hI := fun G (hM : HdrM (hdA id peer []) d s t vs G) => initA_spec b sec m1 m2 id peer d s t vs addr now G hM h16 ha hnow hi hp
  refine vcCall_of (A := tbO b sec 0 m1 m2) (.cons (.there (.there .here)) (.cons (.there (.there .here)) (.cons (.there (.there .here)) .nil))) (Post := InitA b sec m1 m2 peer addr (now + 10000)) ?_ (fun v own' N' hv => ?_)
  · rw [clamp (n := (now : Int)) (by omega) (by omega)]
    exact hI _ (hM.to (fun w hw => hw.1.2.2))
  obtain ⟨A1, c1, dg, rfl, hdl, rfl, rfl, hc1⟩ := hv
  refine ⟨rfl, vcStoreN_row (b := b8) (ty := 53) (xs := [.int .i64 0, .int .i64 0, .slice none 0 0, .slice none 0 0, .slice none 0 0]) (m := 5) _ (by first | ((repeat (first | exact .here | apply Take.there)); done) | exact .none_) rfl (vd_one _ _ _ _ rfl rfl rfl) ?_⟩
  refine vcLoadN_0 (xs := [.int .i64 3, .int .i64 0, .slice none 0 0, .slice none 0 0, .slice A1 (rplH peer (idB sec.2.2 9 0) (tokB sec.2.2 addr (now + 10000) (idB sec.2.2 9 0)) ++ dg).length c1]) (Ent.gnO .here (fun w hw => Ob.row_at hw)) rfl ?_
  refine ⟨tbO b sec 1 m1 m2 ++ [.sl A1 c1 5 1 (Bs (rplH peer (idB sec.2.2 9 0) (tokB sec.2.2 addr (now + 10000) (idB sec.2.2 9 0)) ++ dg))], _, MT, .cons (by first | ((repeat (first | exact .here | apply Take.there)); done) | exact .none_) (.cons (by first | ((repeat (first | exact .here | apply Take.there)); done) | exact .none_) (.cons (by first | ((repeat (first | exact .here | apply Take.there)); done) | exact .none_) (.cons (by first | ((repeat (first | exact .here | apply Take.there)); done) | exact .none_) .nil))), fun _ _ _ => trivial, _, rfl, A1, c1, dg, rfl, hdl, rfl, rfl, hc1⟩
set_option maxHeartbeats 1000000 in
theorem lookB_spec (b : Nat) (sec : Piece) (m1 m2 : Nat) (id peer : List UInt8) (A : Option Addr) (c : Nat) (tk bs : List UInt8) (hbs : bs = askB peer id tk) (addr now u : Nat) (htk : tk = tokB sec.2.2 addr u id) (G : Mp) (hb : Ent G (RowAt A (Bs bs))) (h16 : sec.2.2.length = 16) (ha : addr ≤ 4294967295) (hnow : now ≤ 1099511627776) (hu : u ≤ 4611686018427387903) (hnu : now ≤ u) (hi8 : id.length = 8) (hp : peer.length ≤ 20) :
    Spec Try.prog 20 #[.pointer (some ⟨b, 0, none⟩), .int .i64 addr, .slice A bs.length c, .int .i64 now] (tbO b sec 1 m1 m2) G
      (fun v own N => ∃ d s : Pl, v = .tuple #[vdV 2 (.slice d.1 id.length d.2) (.slice s.1 peer.length s.2) (.slice none 0 0), .int .i64 0] ∧ own = tbO b sec 1 m1 m2 ∧ Ent N (RowAt d.1 (Bs id)) ∧ Ent N (RowAt s.1 (Bs peer))) := by
  refine Spec.intro (args := [_, _, _, _]) wide Try.func20 rfl Try.call20 (by rfl) (by rfl) (fun w0 hw0 => ?_)
  have htl : tk.length = id.length + 36 := by rw [htk]; exact tokB_length (by omega)
  have hlen : bs.length = 1209 + id.length + peer.length + (vput (tk.length : Nat)).length + tk.length := by rw [hbs]; exact ask_len peer id tk
  have hv9 := vput_le9 (tk.length : Nat)
  obtain ⟨st, en, hpar⟩ := ask_parse peer id tk (by omega) hp (by omega)
  rw [← hbs] at hpar
  have hparT := parseT_ok hpar
  intro b8
  refine vcIf_no (by omega) ?_
  refine vcCall_of .nil (parse_spec A c bs 8 _ (Ent.gnG hb) (by omega) (.inl (by omega))) (fun v own' N' hv => ?_)
  rw [hparT] at hv
  obtain ⟨d, s, t, vs, rfl, rfl, hM⟩ := hv
  have hMd := hM.dst
  have hMs := hM.src
  simp only at hMd hMs
  intro b10
  refine ⟨rfl, vcStoreN_row (vs := hdrOf (hdA id peer tk) d s t vs) _ .here rfl (hdr_one _ _ _ _ _) ?_⟩
  refine vcDraw_mix [0,1,2,3,4,5,6,7,8,9,10,11,12] (GN _ _ _) (by kernel_rfl) Ent.refl ?_
  refine vcLoad1_row (j := 5) (v := .map (some m1)) (xs := tbL sec 1 m1 m2) (Ent.mem (o := tbR b sec 1 m1 m2) (by simp [tbO]) (fun w hw => Ob.row_at hw)) rfl ?_
  refine vcLoad1_row (j := 2) (v := .slice d.1 id.length d.2) (xs := hdrOf (hdA id peer tk) d s t vs) (Ent.gnO .here (fun w hw => Ob.row_at hw)) rfl ?_
  refine vcBytesStr.intro id rfl (fun w hw => hMd w hw.1.2.2) ?_
  refine vcLookS.intro 0 (Ent.mem (o := .map m1 [] 0) (by simp [tbO]) (fun w hw => hw)) ?_
  refine vcLoad1_row (j := 0) (v := .int .i64 1) (xs := hdrOf (hdA id peer tk) d s t vs) (Ent.gnO .here (fun w hw => Ob.row_at hw)) rfl ?_
  refine vcIf_yes (by omega) ?_
  refine vcLoad1_row (j := 2) (v := .slice d.1 id.length d.2) (xs := hdrOf (hdA id peer tk) d s t vs) (Ent.gnO .here (fun w hw => Ob.row_at hw)) rfl ?_
  refine vcIf_yes (by omega) ?_
  refine vcLoadN_0 (xs := hdrOf (hdA id peer tk) d s t vs) (Ent.gnO .here (fun w hw => Ob.row_at hw)) rfl ?_
  have hI := fun G (hM : HdrM (hdA id peer tk) d s t vs G) => initB_spec b sec m1 m2 id peer d s t vs addr now u tk htk G hM h16 ha hu hnu (by omega)
  refine vcCall_of (A := tbO b sec 1 m1 m2) (.cons (.there (.there .here)) (.cons (.there (.there .here)) (.cons (.there (.there .here)) .nil))) (Post := fun v own N => v = vdV 2 (.slice d.1 id.length d.2) (.slice s.1 peer.length s.2) (.slice none 0 0) ∧ own = tbO b sec 1 m1 m2 ∧ N = MT) ?_ (fun v own' N' hv => ?_)
  · rw [clamp (n := (now : Int)) (by omega) (by omega)]
    exact hI _ (hM.to (fun w hw => hw.1.2.2))
  obtain ⟨rfl, rfl, rfl⟩ := hv
  refine ⟨rfl, vcStoreN_row (b := b8) (ty := 53) (xs := [.int .i64 0, .int .i64 0, .slice none 0 0, .slice none 0 0, .slice none 0 0]) (m := 5) _ (by first | ((repeat (first | exact .here | apply Take.there)); done) | exact .none_) rfl (vd_one _ _ _ _ rfl rfl rfl) ?_⟩
  refine vcLoadN_0 (xs := [.int .i64 2, .int .i64 0, .slice d.1 id.length d.2, .slice s.1 peer.length s.2, .slice none 0 0]) (Ent.gnO .here (fun w hw => Ob.row_at hw)) rfl ?_
  refine ⟨tbO b sec 1 m1 m2, _, _, .cons (by first | ((repeat (first | exact .here | apply Take.there)); done) | exact .none_) (.cons (by first | ((repeat (first | exact .here | apply Take.there)); done) | exact .none_) (.cons (by first | ((repeat (first | exact .here | apply Take.there)); done) | exact .none_) .nil)), fun w hw _ => hw, d, s, rfl, rfl, fun w hw => hMd w hw.1.2, fun w hw => hMs w hw.1.2⟩
end Go.Proofs.Ytnhkeghahiedfaa
end

section
/- RouteAsked: who got a retry and comes again may begin. -/
namespace Go.Proofs.Ytnhkeghahiedfaa
open Go.Proofs
set_option maxRecDepth 10000

theorem rply {p id8 tk dg : List UInt8} (hi : id8.length = 8) (hk : tk.length = 44) (hd : dg.length = 16) (hp : p.length ≤ 20) : ∃ R, R = rplH p id8 tk ++ dg ∧ R.length = 75 + p.length ∧ (∃ h, R[0]'h = 240) ∧ (∃ h, R[6 + p.length]'h = 8) ∧
    id8 = (R.drop (7 + p.length)).take 8 ∧ tk = (R.drop (15 + p.length)).take 44 := by
  have hpre : ([240, 0, 0, 0, 1, byteI p.length] ++ p).length = 6 + p.length := by simp; omega
  have e : rplH p id8 tk ++ dg = ([240, 0, 0, 0, 1, byteI p.length] ++ p) ++ (byteI id8.length :: (id8 ++ (tk ++ dg))) := by simp [rplH]
  have el : (rplH p id8 tk ++ dg).length = 75 + p.length := by rw [e, List.length_append, hpre]; simp; omega
  have e7 : ([240, 0, 0, 0, 1, byteI p.length] ++ p ++ [byteI id8.length]).length = 7 + p.length := by rw [List.length_append, hpre]; simp; omega
  have e15 : ([240, 0, 0, 0, 1, byteI p.length] ++ p ++ [byteI id8.length] ++ id8).length = 15 + p.length := by rw [List.length_append, e7]; omega
  refine ⟨_, rfl, el, ⟨by omega, ?_⟩, ⟨by omega, ?_⟩, ?_, ?_⟩
  · simp [rplH]
  · have h8 : byteI id8.length = 8 := by rw [hi]; decide
    have : (rplH p id8 tk ++ dg)[6 + p.length]? = some 8 := by
      rw [e, List.getElem?_append_right (by omega), hpre, Nat.sub_self, h8]; rfl
    exact (List.getElem?_eq_some_iff.1 this).2
  · rw [e, show ([240, 0, 0, 0, 1, byteI p.length] ++ p) ++ (byteI id8.length :: (id8 ++ (tk ++ dg))) = ([240, 0, 0, 0, 1, byteI p.length] ++ p ++ [byteI id8.length]) ++ (id8 ++ (tk ++ dg)) from by simp, ← e7, List.drop_left, ← hi, List.take_left]
  · rw [e, show ([240, 0, 0, 0, 1, byteI p.length] ++ p) ++ (byteI id8.length :: (id8 ++ (tk ++ dg))) = ([240, 0, 0, 0, 1, byteI p.length] ++ p ++ [byteI id8.length] ++ id8) ++ (tk ++ dg) from by simp, ← e15, List.drop_left, ← hk, List.take_left]
def agC (addr now later : Int) (f p : Piece) : List Value := [.int .i64 addr, .int .i64 now, .int .i64 later, pieceV f, pieceV p]
abbrev agV (addr now later : Int) (f p : Piece) : Value := .agg (agC addr now later f p).toArray
abbrev sec0 : List UInt8 := [48, 49, 50, 51, 52, 53, 54, 55, 56, 57, 97, 98, 99, 100, 101, 102]
set_option maxHeartbeats 2000000 in
theorem asked13_spec (f p : Piece) (addr now later : Int) (G : Mp) (hf : HasB G f) (hp : HasB G p) : Spec Try.prog 6 #[agV addr now later f p] [] G (Ret (.bool true)) := by
  obtain ⟨Af, cf, f⟩ := f
  obtain ⟨Ap, cp, p⟩ := p
  obtain ⟨hf, _, lf⟩ := hf
  obtain ⟨hp, _, lp⟩ := hp
  simp only at hf hp lf lp
  refine Spec.intro (args := [_]) wide Try.func6 rfl Try.call6 (by rfl) (by rfl) (fun w0 hw0 => ?_)
  intro bx
  refine vcDraw_quiet (by kernel_rfl) ?_
  refine vcLoad1_row (j := 0) (v := .int .i64 addr) (xs := agC addr now later (Af, cf, f) (Ap, cp, p)) (Ent.gnO .here (fun w hw => Ob.row_at hw)) rfl ?_
  refine vcLoad1_row (j := 1) (v := .int .i64 now) (xs := agC addr now later (Af, cf, f) (Ap, cp, p)) (Ent.gnO .here (fun w hw => Ob.row_at hw)) rfl ?_
  refine vcLoad1_row (j := 2) (v := .int .i64 later) (xs := agC addr now later (Af, cf, f) (Ap, cp, p)) (Ent.gnO .here (fun w hw => Ob.row_at hw)) rfl ?_
  refine vcLoad1_row (j := 3) (v := pieceV (Af, cf, f)) (xs := agC addr now later (Af, cf, f) (Ap, cp, p)) (Ent.gnO .here (fun w hw => Ob.row_at hw)) rfl ?_
  refine vcLoad1_row (j := 4) (v := pieceV (Ap, cp, p)) (xs := agC addr now later (Af, cf, f) (Ap, cp, p)) (Ent.gnO .here (fun w hw => Ob.row_at hw)) rfl ?_
  refine vcCall_of .nil (secret_spec _) (fun v own' N' hv => ?_); obtain ⟨A0, c0, rfl, rfl, rfl, hc0⟩ := hv
  refine vcCall_of .nil (new_spec (A0, c0, sec0) _ (Ent.gnO .here (fun w hw => Ob.sl_at hw)) rfl) (fun v own' N' hv => ?_)
  obtain ⟨b, A, c, m1, m2, rfl, rfl, rfl⟩ := hv
  refine vcIf_dec (fun h1 => ?_) (fun h1 => ?_)
  · refine vcCall_of .nil (awake_spec _) (fun v own' N' hv => ?_); obtain ⟨rfl, rfl, rfl⟩ := hv
    exact ⟨[], _, MT, .nil, fun _ _ _ => trivial, rfl, rfl, rfl⟩
  refine vcIf_dec (fun h2 => ?_) (fun h2 => ?_)
  · refine vcCall_of .nil (awake_spec _) (fun v own' N' hv => ?_); obtain ⟨rfl, rfl, rfl⟩ := hv
    exact ⟨[], _, MT, .nil, fun _ _ _ => trivial, rfl, rfl, rfl⟩
  refine vcIf_dec (fun h3 => ?_) (fun h3 => ?_)
  · refine vcCall_of .nil (awake_spec _) (fun v own' N' hv => ?_); obtain ⟨rfl, rfl, rfl⟩ := hv
    exact ⟨[], _, MT, .nil, fun _ _ _ => trivial, rfl, rfl, rfl⟩
  refine vcIf_dec (fun h4 => ?_) (fun h4 => ?_)
  · refine vcCall_of .nil (awake_spec _) (fun v own' N' hv => ?_); obtain ⟨rfl, rfl, rfl⟩ := hv
    exact ⟨[], _, MT, .nil, fun _ _ _ => trivial, rfl, rfl, rfl⟩
  refine vcIf_dec (fun h5 => ?_) (fun h5 => ?_)
  · refine vcCall_of .nil (awake_spec _) (fun v own' N' hv => ?_); obtain ⟨rfl, rfl, rfl⟩ := hv
    exact ⟨[], _, MT, .nil, fun _ _ _ => trivial, rfl, rfl, rfl⟩
  refine vcIf_dec (fun h6 => ?_) (fun h6 => ?_)
  · refine vcCall_of .nil (awake_spec _) (fun v own' N' hv => ?_); obtain ⟨rfl, rfl, rfl⟩ := hv
    exact ⟨[], _, MT, .nil, fun _ _ _ => trivial, rfl, rfl, rfl⟩
  refine vcIf_dec (fun h7 => ?_) (fun h7 => ?_)
  · refine vcCall_of .nil (awake_spec _) (fun v own' N' hv => ?_); obtain ⟨rfl, rfl, rfl⟩ := hv
    exact ⟨[], _, MT, .nil, fun _ _ _ => trivial, rfl, rfl, rfl⟩
  refine vcIf_dec (fun h8 => ?_) (fun h8 => ?_)
  · refine vcCall_of .nil (awake_spec _) (fun v own' N' hv => ?_); obtain ⟨rfl, rfl, rfl⟩ := hv
    exact ⟨[], _, MT, .nil, fun _ _ _ => trivial, rfl, rfl, rfl⟩
  refine vcIf_dec (fun h9 => ?_) (fun h9 => ?_)
  · refine vcCall_of .nil (awake_spec _) (fun v own' N' hv => ?_); obtain ⟨rfl, rfl, rfl⟩ := hv
    exact ⟨[], _, MT, .nil, fun _ _ _ => trivial, rfl, rfl, rfl⟩
  simp only at h1 h2 h3
  have h16 : sec0.length = 16 := rfl
  obtain ⟨addr, rfl⟩ := Int.eq_ofNat_of_zero_le (show 0 ≤ addr by omega)
  obtain ⟨now, rfl⟩ := Int.eq_ofNat_of_zero_le (show 0 ≤ now by omega)
  obtain ⟨later, rfl⟩ := Int.eq_ofNat_of_zero_le (show 0 ≤ later by omega)
  refine vcCall_of .nil (asked_spec (Ap, cp, p) (Af, cf, f) (none, 0, []) _ (Ent.gnG hp) (Ent.gnG hf) (fun w hw => RowAt.nil) (by simp only; omega) (by simp only; omega) (Nat.zero_le _)) (fun v own' N' hv => ?_)
  obtain ⟨A1, c1, rfl, rfl, rfl, hc1⟩ := hv
  have hL := fun G hG => lookA_spec b (A, c, sec0) m1 m2 f p A1 c1 _ rfl addr now G hG h16 (by omega) (by omega) (by omega) (by omega) (by omega)
  refine vcCall_of (A := tbO b (A, c, sec0) 0 m1 m2) (.cons (.there .here) (.cons (.there .here) (.cons (.there .here) .nil))) (hL _ (Ent.gnO .here (fun w hw => Ob.sl_at hw))) (fun v own' N' hv => ?_)
  obtain ⟨_, rfl, A2, c2, dg, rfl, hdl, rfl, rfl, hc2⟩ := hv
  intro bv
  have h8 : (idB sec0 9 0).length = 8 := xorD_length _ _
  obtain ⟨id8, hid8⟩ : ∃ x, x = idB sec0 9 0 := ⟨_, rfl⟩
  have htl : (tokB sec0 addr (now + 10000) (idB sec0 9 0)).length = 44 := by rw [tokB_length (by omega), h8]
  obtain ⟨tk, htk⟩ : ∃ x, x = tokB sec0 addr (now + 10000) (idB sec0 9 0) := ⟨_, rfl⟩
  simp only
  simp only at hc2
  rw [← htk] at htl hc2 ⊢
  rw [← hid8] at h8 hc2 htk ⊢
  obtain ⟨R, hR, hRl, ⟨hR0, hR0v⟩, ⟨hR6, hR6v⟩, hRid, hRtk⟩ := rply h8 htl hdl (p := p) (by omega)
  rw [← hR] at hc2 ⊢
  refine ⟨rfl, vcStoreN_row (b := bv) (ty := 53) (xs := [.int .i64 0, .int .i64 0, .slice none 0 0, .slice none 0 0, .slice none 0 0]) (m := 5) _ (by first | ((repeat (first | exact .here | apply Take.there)); done) | exact .none_) rfl (vd_one _ _ _ _ rfl rfl rfl) ?_⟩
  refine vcFit_i64 (by simp only; omega) ?_
  obtain ⟨vd, hvd⟩ : ∃ x : List Value, x = [.int .i64 3, .int .i64 0, .slice none 0 0, .slice none 0 0, .slice A2 R.length c2] := ⟨_, rfl⟩
  refine vcLoad1_row (j := 0) (v := .int .i64 3) (xs := [.int .i64 3, .int .i64 0, .slice none 0 0, .slice none 0 0, .slice A2 R.length c2]) (Ent.gnO .here (fun w hw => Ob.row_at hw)) rfl ?_
  refine vcLoad1_row (j := 4) (v := .slice A2 R.length c2) (xs := [.int .i64 3, .int .i64 0, .slice none 0 0, .slice none 0 0, .slice A2 R.length c2]) (Ent.gnO .here (fun w hw => Ob.row_at hw)) rfl ?_
  simp only
  refine vcFit_i64 (by omega) ?_
  refine vcFit_i64 (by omega) ?_
  refine vcFit_i64 (by omega) ?_
  refine vcIf_no (by omega) ?_
  refine vcLoad1_row (j := 4) (v := .slice A2 R.length c2) (xs := [.int .i64 3, .int .i64 0, .slice none 0 0, .slice none 0 0, .slice A2 R.length c2]) (Ent.gnO .here (fun w hw => Ob.row_at hw)) rfl ?_
  refine vcIdx_nat 0 rfl (Ent.mem (o := .sl A2 c2 5 1 (Bs R)) (by simp [tbO]) (fun w hw => Ob.sl_at hw)) (by omega) (by rw [Bs_length]; omega) (fun a2 ha2 => ?_)
  refine vcLoad1_0 (ha2 ▸ Ent.mem (o := .sl A2 c2 5 1 (Bs R)) (by simp [tbO]) (fun w hw => Ob.sl_at hw)) (Bs_get hR0) ?_
  rw [hR0v]
  refine vcLoad1_row (j := 4) (v := .slice A2 R.length c2) (xs := [.int .i64 3, .int .i64 0, .slice none 0 0, .slice none 0 0, .slice A2 R.length c2]) (Ent.gnO .here (fun w hw => Ob.row_at hw)) rfl ?_
  refine vcIdx_nat (6 + p.length) (by omega) (Ent.mem (o := .sl A2 c2 5 1 (Bs R)) (by simp [tbO]) (fun w hw => Ob.sl_at hw)) (by omega) (by rw [Bs_length]; omega) (fun a3 ha3 => ?_)
  refine vcLoad1_row (j := 6 + p.length) (ha3 ▸ Ent.mem (o := .sl A2 c2 5 1 (Bs R)) (by simp [tbO]) (fun w hw => Ob.sl_at hw)) (Bs_get hR6) ?_
  rw [hR6v]
  refine vcDraw_quiet (by kernel_rfl) ?_
  refine vcLoad1_row (j := 4) (v := .slice A2 R.length c2) (xs := [.int .i64 3, .int .i64 0, .slice none 0 0, .slice none 0 0, .slice A2 R.length c2]) (Ent.gnO .here (fun w hw => Ob.row_at hw)) rfl ?_
  refine vcFit_i64 (by omega) ?_
  refine vcFit_i64 (by omega) ?_
  refine vcSlice3_as (7 + p.length) id8.length (c2 - (7 + p.length)) (by omega) (by omega) (by omega) (by omega) (by omega) (fun A4 hA4 => ?_)
  refine vcLoad1_row (j := 4) (v := .slice A2 R.length c2) (xs := [.int .i64 3, .int .i64 0, .slice none 0 0, .slice none 0 0, .slice A2 R.length c2]) (Ent.gnO .here (fun w hw => Ob.row_at hw)) rfl ?_
  refine vcFit_i64 (by omega) ?_
  refine vcLoad1_row (j := 4) (v := .slice A2 R.length c2) (xs := [.int .i64 3, .int .i64 0, .slice none 0 0, .slice none 0 0, .slice A2 R.length c2]) (Ent.gnO .here (fun w hw => Ob.row_at hw)) rfl ?_
  refine vcFit_i64 (by omega) ?_
  refine vcSlice3_as (15 + p.length) tk.length (c2 - (15 + p.length)) (by omega) (by omega) (by omega) (by omega) (by omega) (fun A5 hA5 => ?_)
  have e4 : ∀ w, (Ob.sl A2 c2 5 1 (Bs R)).is w → RowAt A4 (Bs id8) w := fun w hw => (Ob.sl_at hw).bytes hA4 (by omega) (by rw [h8]; exact hRid)
  have e5 : ∀ w, (Ob.sl A2 c2 5 1 (Bs R)).is w → RowAt A5 (Bs tk) w := fun w hw => (Ob.sl_at hw).bytes hA5 (by omega) (by rw [htl]; exact hRtk)
  refine vcCall_of .nil (asked_spec (Ap, cp, p) (A4, c2 - (7 + p.length), id8) (A5, c2 - (15 + p.length), tk) _ (Ent.gnG hp) (Ent.mem (o := .sl A2 c2 5 1 (Bs R)) (by simp [tbO]) e4) (Ent.mem (o := .sl A2 c2 5 1 (Bs R)) (by simp [tbO]) e5) (by simp only; omega) (by simp only; omega) (by simp only; omega)) (fun v own' N' hv => ?_)
  obtain ⟨A6, c6, rfl, rfl, rfl, hc6⟩ := hv
  refine vcFit_i64 (by omega) ?_
  have hL2 := fun G hG => lookB_spec b (A, c, sec0) m1 m2 id8 p A6 c6 tk _ rfl addr (now + later) (now + 10000) htk G hG h16 (by omega) (by omega) (by omega) (by omega) h8 (by omega)
  rw [show ((now + later : Nat) : Int) = (now : Int) + later from rfl] at hL2
  refine vcCall_of (A := tbO b (A, c, sec0) 1 m1 m2) (.cons (by first | ((repeat (first | exact .here | apply Take.there)); done) | exact .none_) (.cons (by first | ((repeat (first | exact .here | apply Take.there)); done) | exact .none_) (.cons (by first | ((repeat (first | exact .here | apply Take.there)); done) | exact .none_) .nil))) (hL2 _ (Ent.gnO .here (fun w hw => Ob.sl_at hw))) (fun v own' N2 hv => ?_)
  obtain ⟨d, s, rfl, rfl, hd, hs⟩ := hv
  intro bu
  refine ⟨rfl, vcStoreN_row (b := bu) (ty := 53) (xs := [.int .i64 0, .int .i64 0, .slice none 0 0, .slice none 0 0, .slice none 0 0]) (m := 5) _ (by first | ((repeat (first | exact .here | apply Take.there)); done) | exact .none_) rfl (vd_one _ _ _ _ rfl rfl rfl) ?_⟩
  refine vcLoad1_row (j := 0) (v := .int .i64 2) (xs := [.int .i64 2, .int .i64 0, .slice d.1 id8.length d.2, .slice s.1 p.length s.2, .slice none 0 0]) (Ent.gnO .here (fun w hw => Ob.row_at hw)) rfl ?_
  refine vcLoad1_row (j := 2) (v := .slice d.1 id8.length d.2) (xs := [.int .i64 2, .int .i64 0, .slice d.1 id8.length d.2, .slice s.1 p.length s.2, .slice none 0 0]) (Ent.gnO .here (fun w hw => Ob.row_at hw)) rfl ?_
  refine vcCall_of .nil (same_spec d.1 A4 d.2 (c2 - (7 + p.length)) id8 id8 _ (fun w hw => hd w hw.1.2.2) (Ent.mem (o := .sl A2 c2 5 1 (Bs R)) (by simp [tbO]) e4) (by omega)) (fun v own' N' hv => ?_); obtain ⟨rfl, rfl, rfl⟩ := hv
  refine vcIf_yes rfl ?_
  refine vcLoad1_row (j := 3) (v := .slice s.1 p.length s.2) (xs := [.int .i64 2, .int .i64 0, .slice d.1 id8.length d.2, .slice s.1 p.length s.2, .slice none 0 0]) (Ent.gnO .here (fun w hw => Ob.row_at hw)) rfl ?_
  refine vcCall_of .nil (same_spec s.1 Ap s.2 cp p p _ (fun w hw => hs w hw.1.2.1.2) (Ent.gnG hp) (by omega)) (fun v own' N' hv => ?_); obtain ⟨rfl, rfl, rfl⟩ := hv
  refine vcIf_yes rfl ?_
  refine vcCall_of .nil (awake_spec _) (fun v own' N' hv => ?_); obtain ⟨rfl, rfl, rfl⟩ := hv
  exact ⟨[], _, MT, .nil, fun _ _ _ => trivial, rfl, rfl, rfl⟩
end Go.Proofs.Ytnhkeghahiedfaa
end

section
/- RouteAsked is true of every input; no condition. -/
namespace Go.Proofs.Ytnhkeghahiedfaa
open Go.ChangeShapes Go.WideShapes Go.ChangeAt Go.RowKit

set_option maxRecDepth 100000 in
set_option maxHeartbeats 2000000 in
theorem routeAskedLifted (os : Os) (started : os.Started) (H : Type) (enc : TypeId × Value → H) :
    ReturnsInHanded {} Try.checked os 6 .any (Rows.routeAskedSpec.pre6 enc Try.prog Try.f6 Rows.routeAskedRow.domain false) (Rows.routeAskedSpec.post enc Try.prog Try.f6 false true false false) := by
  refine returnsInHanded_of_change_sized (C := Try.checked) ownK started (by kernel_rfl) Try.func6
    (ChangeSpec.witness6 (enc := enc) (C := Try.checked) false ⟨#[], #[.agg #[.int .i64 0, .int .i64 0, .int .i64 0, .slice none 0 0, .slice none 0 0]], []⟩ 8 (by kernel_rfl) (by kernel_rfl) (by kernel_rfl) (by kernel_rfl)) ?_
  intro W base args ds gs before hval0 hW hcnd hsz0 _
  have hsz : (DataW.weightsEach Try.prog (Try.f6.params.toList ++ Rows.routeAskedSpec.plain.varTypes Try.prog) (ds ++ gs)).all (· ≤ reachBytes) = true := hsz0
  have hval : ∀ (j : Nat) t v, Try.f6.params[j]? = some t → args[j]? = some v → Value.okWide Try.prog W .any base t v := hval0
  have hW' := hW
  obtain ⟨p, q, hA0, hV, rfl, hfz, hnd⟩ := hW
  have hA : DataW.TrodAll enc Try.prog W 0 (fun _ => true) true Try.f6.params.toList args.toList ds p := hA0
  rw [Try.params6] at hA hval hsz
  obtain ⟨v0, vs0, d0, ds0, p0, q0, hargs, rfl, rfl, h0, r0⟩ := trodAll_cons hA
  obtain ⟨rfl, rfl, rfl⟩ := trodAll_nil r0
  obtain rfl : args = #[v0] := by cases args; simp_all
  obtain ⟨rfl, rfl⟩ := trodVars_none hV
  clear hA0 hval0 hsz0
  have lt0 : ∀ x ∈ p0, x.block < W.heap.size := by obtain ⟨m, hm⟩ := h0; exact DataW.trod_lt m _ _ _ hm
  have D0 := Dec.struct Try.underlying45 rfl (DecF.cons (k := 1) (m := 4) (Dec.i64 Try.underlying3 (by kernel_rfl)) rfl (by kernel_rfl) (DecF.cons (k := 1) (m := 3) (Dec.i64 Try.underlying3 (by kernel_rfl)) rfl (by kernel_rfl) (DecF.cons (k := 1) (m := 2) (Dec.i64 Try.underlying3 (by kernel_rfl)) rfl (by kernel_rfl) (DecF.cons (k := 1) (m := 1) (Dec.bytes Try.underlying5 (by kernel_rfl) (by kernel_rfl) Try.underlying22 (by kernel_rfl)) rfl (by kernel_rfl) (DecF.one (n := 1) (Dec.bytes Try.underlying5 (by kernel_rfl) (by kernel_rfl) Try.underlying22 (by kernel_rfl)) rfl (by kernel_rfl)) rfl) rfl) rfl) rfl)
  obtain ⟨⟨x0, x1, x2, ⟨A3, c3, b3⟩, ⟨A4, c4, b4⟩⟩, e0, ok0, m0⟩ := D0.arg h0 hsz (j := 0) rfl rfl
  have fr0 := fun w' hf => D0.fr (x0, x1, x2, (A3, c3, b3), (A4, c4, b4)) W w' m0 hf
  obtain rfl := val_agg e0 (okWide_agg (hval 0 _ _ rfl rfl) (by kernel_rfl))
  try simp only at ok0 m0
  clear hval hsz
  refine ((asked13_spec (A3, c3, b3) (A4, c4, b4) x0 x1 x2 (fun w => MT w ∧ MT w ∧ MT w ∧ RowAt A3 (Bs b3) w ∧ RowAt A4 (Bs b4) w) ⟨fun _ h => h.2.2.2.1, by simp only; omega, by simp only; omega⟩ ⟨fun _ h => h.2.2.2.2, by simp only; omega, by simp only; omega⟩).law W (fun w' hf => fr0 w' hf)).mono fun e W' ⟨he, bel⟩ => ?_
  subst he
  exact ⟨_, rfl, _, _, _, [], _, [], hW', trodAll_mk1 (shut_bool Try.underlying4 _), (trodAll_cons_mk (Below.trod laidOutK (by kernel_rfl) (of_decide_eq_true (by kernel_rfl)) h0 bel lt0) trodAll_mk0), rfl, bel.frame _, fun h => by cases h⟩

theorem routeAskedOver : Rows.routeAskedRow.holds Try.pinned (OpenSpec.ofChange Rows.routeAskedSpec) :=
  OpenClaim.holds_of_wide 6 Try.f6 rfl rfl rfl rfl rfl rfl rfl ⟨rfl, rfl, rfl, rfl, rfl⟩ rfl rfl rfl rfl rfl (by kernel_rfl) Try.func6 (by kernel_rfl)
    (of_decide_eq_true (by kernel_rfl)) (by unfold Func.isWrapper; first | (rw [if_pos (by decide +kernel)]; kernel_rfl) | (rw [if_neg (by decide +kernel)]; exact ⟨rfl, rfl⟩))
    (fun os started H enc _ => routeAskedLifted os started H enc)

/-- The statement. -/
theorem routeAskedProved : Rows.RouteAskedSaid := routeAskedOver
#print axioms routeAskedProved
end Go.Proofs.Ytnhkeghahiedfaa
end
