/- ShakeMeets is true of every input; no condition. [ShkI ShkJ ShkK ShkL ShkZ SkMt RSkM] -/
import Derived.Test.YticllmnblcjjcaaMg5
import Derived.Test.YticllmnblcjjcaaMg2
section
/- Layer 10: the law's rest, walked. -/
namespace Go.Proofs.Yticllmnblcjjcaa
open Go.Proofs
set_option maxRecDepth 10000

theorem shp_get {l m : List Fl} (h : shp l = shp m) {i : Nat} (hl : i < l.length) (hm : i < m.length) : l[i].1 = m[i].1 ∧ l[i].2.1 = m[i].2.1 ∧ l[i].2.2.1 = m[i].2.2.1 ∧ l[i].2.2.2.length = m[i].2.2.2.length := by
  have h1 : (shp l)[i]? = (shp m)[i]? := by rw [h]
  simp only [shp, List.getElem?_map, List.getElem?_eq_getElem hl, List.getElem?_eq_getElem hm, Option.map_some, Option.some.injEq, Prod.mk.injEq] at h1
  exact h1
theorem shp_len {l m : List Fl} (h : shp l = shp m) : l.length = m.length := by
  have := congrArg List.length h
  simpa only [shp, List.length_map] using this
theorem outs_get {l m : List Fl} (h : outs l = outs m) {i : Nat} (hl : i < l.length) (hm : i < m.length) : l[i].1 = m[i].1 ∧ l[i].2.2.2 = m[i].2.2.2 := by
  have h1 : (outs l)[i]? = (outs m)[i]? := by rw [h]
  simp only [outs, List.getElem?_map, List.getElem?_eq_getElem hl, List.getElem?_eq_getElem hm, Option.map_some, Option.some.injEq, Prod.mk.injEq] at h1
  exact h1
theorem flO_mem {l : List Fl} {i : Nat} (h : i < l.length) : pO l[i].2 ∈ flO l := List.mem_map_of_mem (f := fun f : Fl => pO f.2) (List.getElem_mem h)
theorem row0 {A : Option Addr} {w : World} : RowAt A (Bs []) w := fun i u h => by cases i <;> cases h
def sk1 (server : Bool) (r : Nat → UInt8) (priv : Int) (pA : Option Addr) (pc : Nat) (ps : List ByteArray) (par : Piece) (wA : Option Addr) (wc : Nat) (ws : List Wn) (said : Piece) (oA : Option Addr) (oc : Nat) (out : List Fl) : Sk :=
  { sk0 server r priv pA pc ps par wA wc ws with said := said, oA := oA, oc := oc, out := out }
set_option maxHeartbeats 1000000 in
theorem rest_spec (b d : Nat) (server : Bool) (r : Nat → UInt8) (priv : Int) (pA : Option Addr) (pc : Nat) (ps : List ByteArray) (par : Piece) (wA : Option Addr) (wc : Nat) (ws : List Wn) (said : Piece) (oA : Option Addr) (oc : Nat) (out : List Fl)
    (rA : Option Addr) (rc : Nat) (pA' : Option Addr) (pc' : Nat) (ps' : List ByteArray) (par' : Piece) (sA : Option Addr) (sc : Nat) (lA : Option Addr) (lc : Nat) (dA : Option Addr) (dc : Nat) (n : Nat) (fd : List Fl) (G : Mp)
    (hF : Ent G (FdF lA dA fd)) (hn : n < 2) (hws : ws.length ≠ 0) (ho : outs out = outs fd) (hlen : out.length ≤ 1000) (hod : ∀ f ∈ out, f.2.2.2.length ≤ 1099511627776) :
    Spec Try.prog 7 #[.pointer (some ⟨b, 0, none⟩), .pointer (some ⟨d, 0, none⟩)] (sdR d server rA rc priv pA' pc' ps' par' sA sc lA lc dA dc n fd.length :: skO b (sk1 server r priv pA pc ps par wA wc ws said oA oc out)) G
      (fun v own N => v = .bool true ∧ own = [skR b (sk1 server r priv pA pc ps par wA wc ws said none 0 [])] ∧ N = MT) := by
  refine Spec.intro (args := [_, _]) wide Try.func7 rfl Try.call7 (by rfl) (by rfl) (fun w0 hw0 => ?_)
  refine vcCall_of (A := skO b (sk1 server r priv pA pc ps par wA wc ws said oA oc out)) Pick.whole.under (out_spec b _ _) (fun v own' N' hv => ?_)
  obtain ⟨rfl, rfl, rfl⟩ := hv
  have hfl : out.length = fd.length := by have := congrArg List.length ho; simpa [outs] using this
  refine vcLoad1_row (j := 10) (v := .slice dA fd.length dc) (xs := sdL server rA rc priv pA' pc' ps' par' sA sc lA lc dA dc n fd.length) (Ent.mem (o := sdR d server rA rc priv pA' pc' ps' par' sA sc lA lc dA dc n fd.length) (by simp) (fun w hw => Ob.row_at hw)) rfl ?_
  refine vcIf_ndec (fun hne => ?_) (fun _ => ?_)
  · have h9 : (out.length : Int) = (fd.length : Int) := by omega
    exact absurd h9 hne
  obtain ⟨s1, hs1⟩ : ∃ s1, s1 = sk1 server r priv pA pc ps par wA wc ws said none 0 [] := ⟨_, rfl⟩
  obtain ⟨dr, hdr⟩ : ∃ dr, dr = sdR d server rA rc priv pA' pc' ps' par' sA sc lA lc dA dc n fd.length := ⟨_, rfl⟩
  refine vcLoop_of (fun g : Nat × List Fl => out.length - g.1) (fun g => [(0, .pointer (some ⟨b, 0, none⟩)), (1, .pointer (some ⟨d, 0, none⟩)), (5, .slice oA out.length oc), (28, .int .i64 out.length), (29, .int .i64 g.1)])
    (fun g => skR b s1 :: dr :: .sl oA oc 56 2 (flL out) :: flO g.2) (fun _ => MT) (fun g => g.1 ≤ out.length ∧ shp g.2 = shp out ∧ g.2.drop g.1 = out.drop g.1)
    (0, out) ⟨Nat.zero_le _, rfl, rfl⟩ ⟨rfl, rfl, rfl, rfl, rfl, trivial⟩ ?_ (fun _ _ => trivial) ?_
  · subst hs1; subst hdr
    have hperm : (skR b (sk1 server r priv pA pc ps par wA wc ws said none 0 []) :: sdR d server rA rc priv pA' pc' ps' par' sA sc lA lc dA dc n fd.length :: (.sl oA oc 56 2 (flL out) :: flO out ++ [pO nilP, pO nilP, pO said, .sl none 0 56 2 []])).Perm
        (skR b (sk1 server r priv pA pc ps par wA wc ws said none 0 []) :: ([pO nilP, pO nilP, pO said, .sl none 0 56 2 []] ++ .sl oA oc 56 2 (flL out) :: flO out ++ [sdR d server rA rc priv pA' pc' ps' par' sA sc lA lc dA dc n fd.length])) := by
      refine List.Perm.cons _ (List.Perm.trans ?_ List.perm_append_comm)
      exact List.Perm.cons _ List.perm_append_comm
    obtain ⟨r', h, _⟩ := Pick.perm (s := skR b (sk1 server r priv pA pc ps par wA wc ws said none 0 []) :: sdR d server rA rc priv pA' pc' ps' par' sA sc lA lc dA dc n fd.length :: .sl oA oc 56 2 (flL out) :: flO out)
      (r := [pO nilP, pO nilP, pO said, .sl none 0 56 2 []]) hperm
    exact ⟨_, h⟩
  rintro ⟨i, out'⟩ ⟨hi, hsh, hdp⟩
  simp only at hi hsh hdp
  have hol := shp_len hsh
  refine vcIf_dec (fun hlt => ?_) (fun hge => ?_)
  · have hi' : i < out.length := by have h9 : (i : Int) < (out.length : Int) := hlt; omega
    have hgi : out'[i]'(by omega) = out[i] := by
      have h1 : (out'.drop i)[0]? = (out.drop i)[0]? := by rw [hdp]
      rw [List.getElem?_drop, List.getElem?_drop, Nat.add_zero, List.getElem?_eq_getElem (by omega), List.getElem?_eq_getElem hi'] at h1
      exact Option.some.inj h1
    obtain ⟨hlv, hby⟩ := outs_get ho hi' (by omega : i < fd.length)
    have hFl : ∀ {own : List Ob} {N : Mp}, Ent (GN G own N) (RowAt lA (lvL fd)) := Ent.gnG (fun w hw => (hF w hw).1)
    have hFo : ∀ {own : List Ob} {N : Mp}, Ent (GN G own N) (RowAt dA (odL fd)) := Ent.gnG (fun w hw => (hF w hw).2.1)
    refine vcDraw_mix [0,1,2,3,4,5,6,7,8,9,10,11,12,13,14,15,16,17,18,19,20,21,22,23,24,25,26,27,28] (GN _ _ _) (by kernel_rfl) Ent.refl ?_
    refine vcIdx_nats (s := 2) i rfl (Ent.gnO (.there (.there .here)) (fun w hw => Ob.sl_at hw)) hi' (by rw [flL_len]; exact Nat.le_refl _) (by omega) (fun a ha => ?_)
    refine vcLoad1_2 (xs := flL out) (v := .int .i64 out[i].1) (Ent.gnO (o := .sl oA oc 56 2 (flL out)) (.there (.there .here)) (fun w hw => by rw [← ha]; exact Ob.sl_at hw)) (flL_get0 hi') ?_
    refine vcLoad1_row (j := 9) (v := .slice lA fd.length lc) (xs := sdL server rA rc priv pA' pc' ps' par' sA sc lA lc dA dc n fd.length) (Ent.gnO (.there .here) (fun w hw => by rw [hdr] at hw; exact Ob.row_at hw)) rfl ?_
    refine vcIdx_nat i rfl hFl (by omega) (by simp [lvL]) (fun a1 ha1 => ?_)
    refine vcLoad1_row (xs := lvL fd) (v := .int .i64 (fd[i]'(by omega)).1) (Ent.gnG (fun w hw => by rw [← ha1]; exact (hF w hw).1)) (by simp [lvL, show i < fd.length from by omega]) ?_
    refine vcIf_ndec (fun hne => ?_) (fun _ => ?_)
    · exact absurd hlv hne
    refine vcIdx_nats (s := 2) i rfl (Ent.gnO (.there (.there .here)) (fun w hw => Ob.sl_at hw)) hi' (by rw [flL_len]; exact Nat.le_refl _) (by omega) (fun a2 ha2 => ?_)
    obtain rfl : a2 = a := by rw [ha] at ha2; cases ha2; rfl
    refine vcLoad1_2 (xs := flL out) (v := pieceV out[i].2) (Ent.gnO (o := .sl oA oc 56 2 (flL out)) (.there (.there .here)) (fun w hw => by rw [← ha]; exact Ob.sl_at hw)) (flL_get1 hi') ?_
    refine vcLoad1_row (j := 10) (v := .slice dA fd.length dc) (xs := sdL server rA rc priv pA' pc' ps' par' sA sc lA lc dA dc n fd.length) (Ent.gnO (.there .here) (fun w hw => by rw [hdr] at hw; exact Ob.row_at hw)) rfl ?_
    refine vcIdx_nat i rfl hFo (by omega) (by simp [odL]) (fun a3 ha3 => ?_)
    refine vcLoad1_row (xs := odL fd) (v := pieceV (fd[i]'(by omega)).2) (Ent.gnG (fun w hw => by rw [← ha3]; exact (hF w hw).2.1)) (by simp [odL, show i < fd.length from by omega]) ?_
    refine vcCall_of .nil (same_spec out[i].2.1 (fd[i]'(by omega)).2.1 out[i].2.2.1 (fd[i]'(by omega)).2.2.1 out[i].2.2.2 (fd[i]'(by omega)).2.2.2 _ (Ent.mem (o := pO out[i].2) (by rw [← hgi]; exact .tail _ (.tail _ (.tail _ (flO_mem _)))) (fun w hw => Ob.sl_at hw)) (Ent.gnG (fun w hw => (hF w hw).2.2 _ (List.getElem_mem _))) (by have := hod _ (List.getElem_mem hi'); omega)) (fun v own' N' hv => ?_)
    obtain ⟨rfl, rfl, rfl⟩ := hv
    refine vcMix_last (by kernel_rfl) ?_
    refine vcIf_ndec (fun hne => ?_) (fun _ => ?_)
    · exact absurd hby hne
    refine vcIdx_nats (s := 2) i rfl (Ent.gnO (.there (.there .here)) (fun w hw => Ob.sl_at hw)) hi' (by rw [flL_len]; exact Nat.le_refl _) (by omega) (fun a2 ha2 => ?_)
    cases ha.symm.trans ha2
    refine vcLoad1_2 (xs := flL out) (v := pieceV out[i].2) (Ent.gnO (o := .sl oA oc 56 2 (flL out)) (.there (.there .here)) (fun w hw => by rw [← ha]; exact Ob.sl_at hw)) (flL_get1 hi') ?_
    refine vcLoop_of (fun g : Nat × List Fl => out[i].2.2.2.length - g.1) (fun g => [(0, .pointer (some ⟨b, 0, none⟩)), (1, .pointer (some ⟨d, 0, none⟩)), (5, .slice oA out.length oc), (28, .int .i64 out.length), (29, .int .i64 i), (6, .int .i64 i), (66, .int .i64 out[i].2.2.2.length), (67, .int .i64 g.1)])
      (fun g => skR b s1 :: dr :: .sl oA oc 56 2 (flL out) :: flO g.2) (fun _ => MT) (fun g => g.1 ≤ out[i].2.2.2.length ∧ shp g.2 = shp out ∧ g.2.drop (i + 1) = out.drop (i + 1))
      (0, out') ⟨Nat.zero_le _, hsh, by rw [← List.drop_drop, hdp, List.drop_drop]⟩ ⟨rfl, rfl, rfl, rfl, rfl, rfl, rfl, rfl, trivial⟩ ⟨_, Pick.whole⟩ (fun _ _ => trivial) ?_
    rintro ⟨k, o2⟩ ⟨hk, hsh2, hdp2⟩
    simp only at hk hsh2 hdp2
    have hol2 := shp_len hsh2
    have hi2 : i < o2.length := by omega
    obtain ⟨g1, g2, g3, g4⟩ := shp_get hsh2 hi2 hi'
    refine vcIf_dec (fun hlt2 => ?_) (fun hge2 => ?_)
    · have hk' : k < out[i].2.2.2.length := by have h9 : (k : Int) < (out[i].2.2.2.length : Int) := hlt2; omega
      have hkx : k < o2[i].2.2.2.length := by omega
      have hb40 := hod _ (List.getElem_mem hi')
      have hrow : ∀ {N : Mp}, Ent (GN G (skR b s1 :: dr :: .sl oA oc 56 2 (flL out) :: flO o2) N) (RowAt out[i].2.1 (Bs o2[i].2.2.2)) := Ent.mem (o := pO o2[i].2) (.tail _ (.tail _ (.tail _ (flO_mem hi2)))) (fun w hw => by rw [← g2]; exact Ob.sl_at hw)
      refine vcDraw_mix [0,1,2,3,4,5,6,7,8,9,10,11,12,13,14,15,16] (GN _ _ _) (by kernel_rfl) Ent.refl ?_
      refine vcIdx_nats (s := 2) i rfl (Ent.gnO (.there (.there .here)) (fun w hw => Ob.sl_at hw)) hi' (by rw [flL_len]; exact Nat.le_refl _) (by omega) (fun a2 ha2 => ?_)
      cases ha.symm.trans ha2
      refine vcLoad1_2 (xs := flL out) (v := pieceV out[i].2) (Ent.gnO (o := .sl oA oc 56 2 (flL out)) (.there (.there .here)) (fun w hw => by rw [← ha]; exact Ob.sl_at hw)) (flL_get1 hi') ?_
      refine vcIdx_nats (s := 2) i rfl (Ent.gnO (.there (.there .here)) (fun w hw => Ob.sl_at hw)) hi' (by rw [flL_len]; exact Nat.le_refl _) (by omega) (fun a2 ha2 => ?_)
      cases ha.symm.trans ha2
      refine vcLoad1_2 (xs := flL out) (v := pieceV out[i].2) (Ent.gnO (o := .sl oA oc 56 2 (flL out)) (.there (.there .here)) (fun w hw => by rw [← ha]; exact Ob.sl_at hw)) (flL_get1 hi') ?_
      refine vcIdx_nat k rfl hrow hk' (by rw [Bs_length]; omega) (fun a4 ha4 => ?_)
      refine vcLoad1_row (xs := Bs o2[i].2.2.2) (v := .int .u8 o2[i].2.2.2[k].toNat) (fun w hw => by rw [← ha4]; exact hrow w hw) (Bs_get hkx) ?_
      refine vcBit_as _ (not_u8 o2[i].2.2.2[k]) ?_
      refine vcIdx_nat k rfl hrow hk' (by rw [Bs_length]; omega) (fun a5 ha5 => ?_)
      cases ha4.symm.trans ha5
      have htk : Take (pO o2[i].2) (skR b s1 :: dr :: .sl oA oc 56 2 (flL out) :: flO o2) (skR b s1 :: dr :: .sl oA oc 56 2 (flL out) :: (flO (o2.take i) ++ flO (o2.drop (i + 1)))) := by
        rw [flO_split hi2]; exact .there (.there (.there Take.mid))
      refine vcStore1_eq (pO o2[i].2) (pO (o2[i].2.1, o2[i].2.2.1, o2[i].2.2.2.set k (255 ^^^ o2[i].2.2.2[k]))) _ htk (by show o2[i].2.1 = some a4; rw [g2]; exact ha4) (by show k + 0 < (Bs o2[i].2.2.2).length; rw [Bs_length]; exact hkx) rfl
        (by show Ob.sl _ _ _ _ ((Bs o2[i].2.2.2).set k (.int .u8 ((255 : UInt8) ^^^ o2[i].2.2.2[k]).toNat)) = Ob.sl _ _ _ _ (Bs _); rw [Bs_set_at]) ?_
      refine vcMix_last (by kernel_rfl) ?_
      refine vcFit_i64 (by first | omega | (simp only; omega)) ?_
      have hperm : (flO (o2.take i) ++ pO (o2[i].2.1, o2[i].2.2.1, o2[i].2.2.2.set k (255 ^^^ o2[i].2.2.2[k])) :: flO (o2.drop (i + 1)) ++ []).Perm (pO (o2[i].2.1, o2[i].2.2.1, o2[i].2.2.2.set k (255 ^^^ o2[i].2.2.2[k])) :: (flO (o2.take i) ++ flO (o2.drop (i + 1)))) := by
        rw [List.append_nil]; exact List.perm_middle
      obtain ⟨r', hp', _⟩ := Pick.perm hperm
      rw [← flO_set hi2 o2[i].1] at hp'
      refine ⟨(k + 1, o2.set i (o2[i].1, (o2[i].2.1, o2[i].2.2.1, o2[i].2.2.2.set k (255 ^^^ o2[i].2.2.2[k])))), ⟨hk', ?_, ?_⟩, (by first | omega | (simp only; omega)), ⟨rfl, rfl, rfl, rfl, rfl, rfl, rfl, rfl, trivial⟩, ⟨r', .cons (.there .here) (.cons (.there .here) (.cons (.there .here) hp'))⟩, fun _ _ => trivial⟩
      · rw [← hsh2]; exact shp_set hi2 _ (by rw [List.length_set])
      · show (o2.set i _).drop (i + 1) = _
        rw [List.drop_set_of_lt (by omega)]; exact hdp2
    · refine vcFit_i64 (by first | omega | (simp only; omega)) ?_
      exact ⟨(i + 1, o2), ⟨hi', hsh2, hdp2⟩, (by first | omega | (simp only; omega)), ⟨rfl, rfl, rfl, rfl, rfl, trivial⟩, ⟨_, Pick.whole⟩, fun _ _ => trivial⟩
  · subst hdr
    refine vcStore1_eq (sdR d server rA rc priv pA' pc' ps' par' sA sc lA lc dA dc n fd.length) (.row d 60 ((sdL server rA rc priv pA' pc' ps' par' sA sc lA lc dA dc n fd.length).set 10 (.slice none 0 0)) 14) _ (.there .here) rfl (by show (10 : Nat) < 14; decide) rfl rfl ?_
    refine vcStore1_eq (.row d 60 ((sdL server rA rc priv pA' pc' ps' par' sA sc lA lc dA dc n fd.length).set 10 (.slice none 0 0)) 14) (sdR d server rA rc priv pA' pc' ps' par' sA sc none 0 none 0 n 0) _ .here rfl (by show (9 : Nat) < 14; decide) rfl rfl ?_
    have hs : ∀ {own : List Ob} {N : Mp}, skR b s1 ∈ own → Ent (GN G own N) (RowAt (some ⟨b, 0, none⟩) (skL s1)) := fun h => Ent.mem h (fun w hw => Ob.row_at hw)
    have hnil : ∀ {M : Mp}, Ent M (RowAt none (Bs [])) := fun _ _ => nil_row
    have hd : ∀ {own : List Ob} {N : Mp}, sdR d server rA rc priv pA' pc' ps' par' sA sc none 0 none 0 n 0 ∈ own → Ent (GN G own N) (RowAt (some ⟨d, 0, none⟩) (sdL server rA rc priv pA' pc' ps' par' sA sc none 0 none 0 n 0)) := fun h => Ent.mem h (fun w hw => Ob.row_at hw)
    refine vcCall_of .nil (hand_spec b s1 _ (hs (by simp)) (by rw [hs1]; exact hnil) (by rw [hs1]; exact hnil) (by rw [hs1]; exact Nat.zero_le _) (by rw [hs1]; exact Nat.zero_le _)) (fun v own' N' hv => ?_)
    rw [show s1.hc = nilP from by rw [hs1]; rfl, show s1.hs = nilP from by rw [hs1]; rfl] at hv
    obtain ⟨A1, c1, A2, c2, rfl, rfl, rfl⟩ := hv
    intro b8
    refine ⟨rfl, vcStoreN_row _ .here rfl (by intro v hv; change v ∈ [Value.slice A1 0 c1, Value.slice A2 0 c2] at hv; simp only [List.mem_cons, List.not_mem_nil, or_false] at hv; rcases hv with rfl | rfl <;> rfl) ?_⟩
    refine vcCall_of .nil (rhand_spec d n hn _ sA sc rfl _ (hd (by simp))) (fun v own' N' hv => ?_); obtain ⟨rfl, rfl, rfl⟩ := hv
    refine vcCall_of .nil (app_spec b s1 _ (hs (by simp)) (by rw [hs1]; exact hnil) (by rw [hs1]; exact hnil) (by rw [hs1]; exact Nat.zero_le _) (by rw [hs1]; exact Nat.zero_le _)) (fun v own' N' hv => ?_)
    rw [show s1.ac = nilP from by rw [hs1]; rfl, show s1.as_ = nilP from by rw [hs1]; rfl] at hv
    obtain ⟨A3, c3, A4, c4, rfl, rfl, rfl⟩ := hv
    intro b9
    refine ⟨rfl, vcStoreN_row _ .here rfl (by intro v hv; change v ∈ [Value.slice A3 0 c3, Value.slice A4 0 c4] at hv; simp only [List.mem_cons, List.not_mem_nil, or_false] at hv; rcases hv with rfl | rfl <;> rfl) ?_⟩
    refine vcCall_of .nil (rapp_spec d n hn _ sA sc rfl _ (hd (by simp))) (fun v own' N' hv => ?_); obtain ⟨rfl, rfl, rfl⟩ := hv
    refine vcLoad1_row (j := 0) (v := .slice A1 0 c1) (xs := [.slice A1 0 c1, .slice A2 0 c2]) (Ent.gnO (o := .row b8 44 [.slice A1 0 c1, .slice A2 0 c2] 2) (by first | ((repeat (first | exact .here | apply Take.there)); done) | exact .none_) (fun w hw => Ob.row_at hw)) rfl ?_
    refine vcCall_of .nil (same_spec A1 none c1 0 [] [] _ (fun _ _ => row0) (fun _ _ => row0) (Nat.zero_le _)) (fun v own' N' hv => ?_); obtain ⟨rfl, rfl, rfl⟩ := hv
    refine vcLoad1_row (j := 1) (v := .slice A2 0 c2) (xs := [.slice A1 0 c1, .slice A2 0 c2]) (Ent.gnO (o := .row b8 44 [.slice A1 0 c1, .slice A2 0 c2] 2) (by first | ((repeat (first | exact .here | apply Take.there)); done) | exact .none_) (fun w hw => Ob.row_at hw)) rfl ?_
    refine vcCall_of .nil (same_spec A2 none c2 0 [] [] _ (fun _ _ => row0) (fun _ _ => row0) (Nat.zero_le _)) (fun v own' N' hv => ?_); obtain ⟨rfl, rfl, rfl⟩ := hv
    refine vcLoad1_row (j := 0) (v := .slice A3 0 c3) (xs := [.slice A3 0 c3, .slice A4 0 c4]) (Ent.gnO (o := .row b9 44 [.slice A3 0 c3, .slice A4 0 c4] 2) (by first | ((repeat (first | exact .here | apply Take.there)); done) | exact .none_) (fun w hw => Ob.row_at hw)) rfl ?_
    refine vcCall_of .nil (same_spec A3 none c3 0 [] [] _ (fun _ _ => row0) (fun _ _ => row0) (Nat.zero_le _)) (fun v own' N' hv => ?_); obtain ⟨rfl, rfl, rfl⟩ := hv
    refine vcLoad1_row (j := 1) (v := .slice A4 0 c4) (xs := [.slice A3 0 c3, .slice A4 0 c4]) (Ent.gnO (o := .row b9 44 [.slice A3 0 c3, .slice A4 0 c4] 2) (by first | ((repeat (first | exact .here | apply Take.there)); done) | exact .none_) (fun w hw => Ob.row_at hw)) rfl ?_
    refine vcCall_of .nil (same_spec A4 none c4 0 [] [] _ (fun _ _ => row0) (fun _ _ => row0) (Nat.zero_le _)) (fun v own' N' hv => ?_); obtain ⟨rfl, rfl, rfl⟩ := hv
    refine vcLoad1_row (j := 0) (v := .slice A1 0 c1) (xs := [.slice A1 0 c1, .slice A2 0 c2]) (Ent.gnO (o := .row b8 44 [.slice A1 0 c1, .slice A2 0 c2] 2) (by first | ((repeat (first | exact .here | apply Take.there)); done) | exact .none_) (fun w hw => Ob.row_at hw)) rfl ?_
    refine vcLoop_of (fun _ : Unit => 0) (fun _ => [(0, .pointer (some ⟨b, 0, none⟩)), (1, .pointer (some ⟨d, 0, none⟩)), (156, .int .i64 0), (157, .int .i64 0)]) (fun _ => [skR b s1, sdR d server rA rc priv pA' pc' ps' par' sA sc none 0 none 0 n 0]) (fun _ => MT) (fun _ => True) () trivial
      ⟨rfl, rfl, rfl, rfl, trivial⟩ ⟨_, .cons (by first | ((repeat (first | exact .here | apply Take.there)); done) | exact .none_) (.cons (by first | ((repeat (first | exact .here | apply Take.there)); done) | exact .none_) .nil)⟩ (fun _ _ => trivial) ?_
    intro _ _
    refine vcDraw_mix [0,2,3,4,5,1,6,7,8,10,11,12,13,9,14,15,16,17,19,18,20,21,22,23] (RowAt (some ⟨d, 0, none⟩) (sdL server rA rc priv pA' pc' ps' par' sA sc none 0 none 0 n 0)) (by kernel_rfl) (hd (by simp)) ?_
    obtain ⟨q, hq⟩ : ∃ q, q = ByteArray.mk #[] := ⟨_, rfl⟩
    have hsp : s1.proto = q := by rw [hs1, hq]; rfl
    refine vcLoad1_row (j := 11) (v := .string q) Ent.refl (by rw [hq]; rfl) ?_
    refine vcCall_of .nil (proto_spec b s1 _ (hs (by simp))) (fun v own' N' hv => ?_)
    rw [hsp] at hv
    obtain ⟨rfl, rfl, rfl⟩ := hv
    refine vcMix_same (hd (by simp)) ?_
    refine vcIf_is true (beq_self_eq_true q.toList) ?_
    refine vcLoad1_row (j := 12) (v := .slice none 0 0) Ent.refl rfl ?_
    refine vcCall_of .nil (peer_spec b s1 _ (hs (by simp)) (by rw [hs1]; exact hnil) (by rw [hs1]; exact Nat.zero_le _)) (fun v own' N' hv => ?_)
    rw [show s1.peer = nilP from by rw [hs1]; rfl] at hv
    obtain ⟨A5, c5, rfl, rfl, rfl, _⟩ := hv
    refine vcMix_same (hd (by simp)) ?_
    refine vcCall_of .nil (same_spec A5 none c5 0 [] [] _ (fun _ _ => row0) (fun _ _ => row0) (Nat.zero_le _)) (fun v own' N' hv => ?_); obtain ⟨rfl, rfl, rfl⟩ := hv
    refine vcMix_same (hd (by simp)) ?_
    refine vcCall_of .nil (done_spec b s1 _ (hs (by simp))) (fun v own' N' hv => ?_)
    have hwz : decide (s1.ws.length = 0) = false := decide_eq_false (by rw [hs1]; exact hws)
    rw [hwz] at hv
    obtain ⟨rfl, rfl, rfl⟩ := hv
    refine vcMix_same (hd (by simp)) ?_
    refine vcCall_of .nil (rdone_spec d n hn _ sA sc rfl _ (hd (by simp))) (fun v own' N' hv => ?_); obtain ⟨rfl, rfl, rfl⟩ := hv
    refine vcMix_same (hd (by simp)) ?_
    refine ⟨[skR b s1], _, MT, .cons (by first | ((repeat (first | exact .here | apply Take.there)); done) | exact .none_) .nil, fun _ _ _ => trivial, rfl, by rw [hs1], rfl⟩
end Go.Proofs.Yticllmnblcjjcaa
end

section
/- Layer 10: copied, made. -/
namespace Go.Proofs.Yticllmnblcjjcaa
open Go.Proofs
set_option maxRecDepth 10000

theorem psL_le : ∀ (ps : List ByteArray), (∀ p ∈ ps, p.size ≤ 32) → (psL ps).length ≤ 33 * ps.length
  | [], _ => Nat.zero_le _
  | p :: r, h => by
    have h1 := psL_le r (fun q hq => h q (.tail _ hq))
    have h2 := h p (.head _)
    have h3 : p.data.toList.length = p.size := by rw [Array.length_toList]; rfl
    simp only [psL, List.flatMap_cons, List.length_append, txt, List.length_cons] at h1 ⊢
    omega
theorem hi0_le {server : Bool} {r : Nat → UInt8} {priv : Int} {ps : List ByteArray} {par : List UInt8} (h : goodC priv ps par) : (hi0 server r priv ps par).length ≤ 1400 := by
  unfold hi0
  split
  · exact Nat.zero_le _
  · rw [msg_length]
    have h1 := psL_le ps (fun p hp => (h.2.2.1.2.2 p hp).2)
    have h2 := h.2.2.1.2.1
    have h3 := h.2.2.2
    simp only [bodyL, lng, List.length_append, helloL_len, List.length_cons, List.length_nil]
    omega
theorem copied_spec (server : Bool) (r : Nat → UInt8) (priv : Int) (pA : Option Addr) (pc : Nat) (ps : List ByteArray) (par : Piece) (G : Mp) (h1 : Ent G (RowAt pA (stL ps))) (h2 : Ent G (RowAt par.1 (Bs par.2.2))) (hl : ps.length ≤ 8796093021952) (hl2 : par.2.2.length ≤ 281474976710656) :
    Spec Try.prog 10 #[.agg (cfL server r priv pA pc ps par).toArray] [] G (fun v own N => ∃ pA2 pc2 pp pcc, v = .agg (cfL server r priv pA2 pc2 ps (pp, pcc, par.2.2)).toArray ∧ own = [.sl pA2 pc2 9 1 (stL ps), pO (pp, pcc, par.2.2)] ∧ N = MT) := by
  refine Spec.intro (args := [_]) wide Try.func10 rfl Try.call10 (by rfl) (by rfl) (fun w0 hw0 => ?_)
  intro b1 b2
  refine vcLoad1_row (j := 35) (v := pieceV par) (xs := cfL server r priv pA pc ps par) (Ent.gnO (.there .here) (fun w hw => Ob.row_at hw)) rfl ?_
  refine vcCall_of .nil (copy_spec par.1 par.2.1 par.2.2 _ (Ent.gnG h2) hl2) (fun v own' N' hv => ?_)
  obtain ⟨pp, pcc, rfl, rfl, rfl, hpcc⟩ := hv
  refine vcStore1_eq (.row b1 26 (cfL server r priv pA pc ps par) 36) (.row b1 26 (cfL server r priv pA pc ps (pp, pcc, par.2.2)) 36) _ (.there (.there .here)) rfl (by show (35 : Nat) < 36; decide) rfl rfl ?_
  intro b3
  refine vcLoad1_row (j := 34) (v := .slice pA ps.length pc) (xs := cfL server r priv pA pc ps (pp, pcc, par.2.2)) (Ent.gnO (.there .here) (fun w hw => Ob.row_at hw)) rfl ?_
  refine vcApp_of [] _ (stL ps) .here rfl (by rw [stL_len]; exact (Nat.mul_one _).symm) (by decide) (stL_one ps) (Ent.gnG h1) (by omega) (by omega) (fun pA2 pc2 hpc2 => ?_)
  rw [Nat.zero_add, List.nil_append]
  refine vcStore1_eq (.row b1 26 (cfL server r priv pA pc ps (pp, pcc, par.2.2)) 36) (.row b1 26 (cfL server r priv pA2 pc2 ps (pp, pcc, par.2.2)) 36) _ (.there .here) rfl (by show (34 : Nat) < 36; decide) rfl rfl ?_
  refine vcLoadN_0 (xs := cfL server r priv pA2 pc2 ps (pp, pcc, par.2.2)) (Ent.gnO .here (fun w hw => Ob.row_at hw)) rfl ?_
  refine ⟨rfl, vcStoreN_row (vs := cfL server r priv pA2 pc2 ps (pp, pcc, par.2.2)) _ (.there (.there (.there .here))) rfl ?_ ?_⟩
  · intro v hv
    simp only [cfL, List.mem_cons, List.mem_append, List.not_mem_nil, or_false] at hv
    rcases hv with rfl | hv | rfl | rfl | rfl
    · rfl
    · exact Bs_one _ v hv
    all_goals rfl
  refine vcLoadN_0 (xs := cfL server r priv pA2 pc2 ps (pp, pcc, par.2.2)) (Ent.gnO .here (fun w hw => Ob.row_at hw)) rfl ?_
  exact ⟨[.sl pA2 pc2 9 1 (stL ps), pO (pp, pcc, par.2.2)], _, MT, .cons (by first | ((repeat (first | exact .here | apply Take.there)); done) | exact .none_) (.cons (by first | ((repeat (first | exact .here | apply Take.there)); done) | exact .none_) .nil), fun _ _ _ => trivial, pA2, pc2, pp, pcc, rfl, rfl, rfl⟩
end Go.Proofs.Yticllmnblcjjcaa
end

section
/- Layer 10: made. -/
namespace Go.Proofs.Yticllmnblcjjcaa
open Go.Proofs
set_option maxRecDepth 10000

theorem Ent.mem2 {G : Mp} {own : List Ob} {N R : Mp} (o : Ob) (h : o ∈ own) (k : ∀ w, o.is w → R w) : Ent (GN G own N) R := Ent.mem h k
def MadeTo (server : Bool) (r : Nat → UInt8) (priv : Int) (ps : List ByteArray) (par : Piece) (v : Value) (own : List Ob) (N : Mp) : Prop :=
  (goodC priv ps par.2.2 ∧ ∃ b d pA pc par2 wA wc said oA oc out rA rc pA' pc' sA sc lA lc dA dc n fd, v = .tuple #[.pointer (some ⟨b, 0, none⟩), .pointer (some ⟨d, 0, none⟩), .bool true] ∧
    own = sdR d server rA rc priv pA' pc' ps par sA sc lA lc dA dc n fd.length :: skO b (sk1 server r priv pA pc ps par2 wA wc (if server then wsServer else wsClient) said oA oc out) ∧
    Ent N (FdF lA dA fd) ∧ n < 2 ∧ outs out = outs fd ∧ out.length ≤ 1000 ∧ (∀ f ∈ out, f.2.2.2.length ≤ 1099511627776)) ∨
  (¬ goodC priv ps par.2.2 ∧ v = .tuple #[.pointer none, .pointer none, .bool true] ∧ own = [] ∧ N = MT)
set_option maxHeartbeats 1000000 in
theorem made_spec (server : Bool) (r : Nat → UInt8) (priv : Int) (pA : Option Addr) (pc : Nat) (ps : List ByteArray) (par : Piece) (G : Mp) (h1 : Ent G (RowAt pA (stL ps))) (h2 : Ent G (RowAt par.1 (Bs par.2.2))) (hl : ps.length ≤ 8796093021952) (hl2 : par.2.2.length ≤ 281474976710656) :
    Spec Try.prog 5 #[.agg (cfL server r priv pA pc ps par).toArray] [] G (MadeTo server r priv ps par) := by
  refine Spec.intro (args := [_]) wide Try.func5 rfl Try.call5 (by rfl) (by rfl) (fun w0 hw0 => ?_)
  intro b1
  refine vcLoadN_0 (xs := cfL server r priv pA pc ps par) (Ent.gnO .here (fun w hw => Ob.row_at hw)) rfl ?_
  refine vcCall_of .nil (copied_spec server r priv pA pc ps par _ (Ent.gnG h1) (Ent.gnG h2) hl hl2) (fun v own' N' hv => ?_)
  obtain ⟨pA2, pc2, pp, pcc, rfl, rfl, rfl⟩ := hv
  intro b5
  have one : ∀ v ∈ cfL server r priv pA2 pc2 ps (pp, pcc, par.2.2), oneCell v = true := by
    intro v hv
    simp only [cfL, List.mem_cons, List.mem_append, List.not_mem_nil, or_false] at hv
    rcases hv with rfl | hv | rfl | rfl | rfl
    · rfl
    · exact Bs_one _ v hv
    all_goals rfl
  refine ⟨rfl, vcStoreN_row (vs := cfL server r priv pA2 pc2 ps (pp, pcc, par.2.2)) _ .here rfl one ?_⟩
  refine vcLoadN_0 (xs := cfL server r priv pA2 pc2 ps (pp, pcc, par.2.2)) (Ent.gnO .here (fun w hw => Ob.row_at hw)) rfl ?_
  refine vcCall_of .nil (new_spec server r priv pA2 pc2 ps (pp, pcc, par.2.2) _ (Ent.gnO (o := .sl pA2 pc2 9 1 (stL ps)) (by first | ((repeat (first | exact .here | apply Take.there)); done) | exact .none_) (fun w hw => Ob.sl_at hw)) (Ent.gnO (o := pO (pp, pcc, par.2.2)) (by first | ((repeat (first | exact .here | apply Take.there)); done) | exact .none_) (fun w hw => Ob.sl_at hw)) (by omega)) (fun v own' N' hv => ?_)
  obtain ⟨sp, e, hv1, hQ⟩ : ∃ sp e, v = .tuple #[.pointer sp, .int .i64 e] ∧
      ((goodC priv ps par.2.2 ∧ e = 0 ∧ ∃ b pA pc pp pcc wA wc A c oA oc out, sp = some ⟨b, 0, none⟩ ∧ own' = skO b (sk1 server r priv pA pc ps (pp, pcc, par.2.2) wA wc (if server then wsServer else wsClient) (A, c, hi0 server r priv ps par.2.2) oA oc out) ∧ outs out = (if server then [] else [(0, hi0 server r priv ps par.2.2)])) ∨
        (¬ goodC priv ps par.2.2 ∧ e = 100 ∧ sp = none ∧ own' = [])) := by
    rcases hv with ⟨hg, b, pA, pc, pp, pcc, wA, wc, A, c, oA, oc, out, rfl, rfl, _, ho, _⟩ | ⟨hg, rfl, rfl, rfl⟩
    · exact ⟨_, _, rfl, .inl ⟨hg, rfl, b, pA, pc, pp, pcc, wA, wc, A, c, oA, oc, out, rfl, rfl, ho⟩⟩
    · exact ⟨_, _, rfl, .inr ⟨hg, rfl, rfl, rfl⟩⟩
  clear hv
  subst hv1
  generalize own' = OS at hQ ⊢
  refine vcLoad1_row (j := 35) (v := .slice pp par.2.2.length pcc) (xs := cfL server r priv pA2 pc2 ps (pp, pcc, par.2.2)) (Ent.mem2 (.row b5 26 (cfL server r priv pA2 pc2 ps (pp, pcc, par.2.2)) 36) (by simp) (fun w hw => Ob.row_at hw)) rfl ?_
  refine vcLoop_of (fun g : Nat × List UInt8 => par.2.2.length - g.1) (fun g => [(1, .pointer (some ⟨b1, 0, none⟩)), (5, .pointer (some ⟨b5, 0, none⟩)), (6, .pointer sp), (7, .int .i64 e), (19, .int .i64 par.2.2.length), (20, .int .i64 g.1)])
    (fun g => pO (pp, pcc, g.2) :: .row b5 26 (cfL server r priv pA2 pc2 ps (pp, pcc, par.2.2)) 36 :: .row b1 26 (cfL server r priv pA pc ps par) 36 :: .sl pA2 pc2 9 1 (stL ps) :: OS) (fun _ => MT) (fun g => g.1 ≤ par.2.2.length ∧ g.2.length = par.2.2.length)
    (0, par.2.2) ⟨Nat.zero_le _, rfl⟩ ⟨rfl, rfl, rfl, rfl, rfl, rfl, trivial⟩ ?_ (fun _ _ => trivial) ?_
  · have hperm : (pO (pp, pcc, par.2.2) :: Ob.row b5 26 (cfL server r priv pA2 pc2 ps (pp, pcc, par.2.2)) 36 :: Ob.row b1 26 (cfL server r priv pA pc ps par) 36 :: Ob.sl pA2 pc2 9 1 (stL ps) :: OS ++ []).Perm
        (OS ++ [Ob.row b5 26 (cfL server r priv pA2 pc2 ps (pp, pcc, par.2.2)) 36, Ob.sl pA2 pc2 9 1 (stL ps), pO (pp, pcc, par.2.2), Ob.row b1 26 (cfL server r priv pA pc ps par) 36]) := by
      rw [List.append_nil]
      refine List.Perm.trans ?_ List.perm_append_comm
      show (_ :: _ :: _ :: _ :: OS).Perm (_ :: _ :: _ :: _ :: OS)
      refine (List.Perm.swap _ _ _).trans (List.Perm.cons _ ?_)
      exact ((List.Perm.cons _ (List.Perm.swap _ _ _)).trans (List.Perm.swap _ _ _))
    obtain ⟨r', h, _⟩ := Pick.perm hperm
    exact ⟨r', h⟩
  rintro ⟨k, xs⟩ ⟨hk, hxl⟩
  simp only at hk hxl
  refine vcIf_dec (fun hlt => ?_) (fun hge => ?_)
  · have hk' : k < par.2.2.length := by have h9 : (k : Int) < (par.2.2.length : Int) := hlt; omega
    have hkx : k < xs.length := by omega
    refine vcDraw_mix [0,1,2,3,4,5,6,7,8,9,10] (GN _ _ _) (by kernel_rfl) Ent.refl ?_
    refine vcLoad1_row (j := 35) (v := .slice pp par.2.2.length pcc) (xs := cfL server r priv pA2 pc2 ps (pp, pcc, par.2.2)) (Ent.gnO (.there .here) (fun w hw => Ob.row_at hw)) rfl ?_
    refine vcLoad1_row (j := 35) (v := .slice pp par.2.2.length pcc) (xs := cfL server r priv pA2 pc2 ps (pp, pcc, par.2.2)) (Ent.gnO (.there .here) (fun w hw => Ob.row_at hw)) rfl ?_
    refine vcIdx_nat k rfl (Ent.gnO (o := pO (pp, pcc, xs)) .here (fun w hw => Ob.sl_at hw)) hk' (by rw [Bs_length]; show par.2.2.length ≤ xs.length; omega) (fun a4 ha4 => ?_)
    have ha4' : pp = some a4 := ha4
    subst ha4'
    refine vcLoad1_row (xs := Bs xs) (v := .int .u8 xs[k].toNat) (Ent.gnO (o := pO (some a4, pcc, xs)) .here (fun w hw => Ob.sl_at hw)) (Bs_get hkx) ?_
    refine vcBit_as _ (not_u8 xs[k]) ?_
    refine vcIdx_some k rfl hk' ?_
    refine vcStore1_eq (pO (some a4, pcc, xs)) (pO (some a4, pcc, xs.set k (255 ^^^ xs[k]))) _ .here rfl (by show k + 0 < (Bs xs).length; rw [Bs_length]; exact hkx) rfl (by show Ob.sl _ _ _ _ ((Bs xs).set k (.int .u8 ((255 : UInt8) ^^^ xs[k]).toNat)) = Ob.sl _ _ _ _ (Bs _); rw [Bs_set_at]) ?_
    refine vcMix_last (by kernel_rfl) ?_
    refine vcFit_i64 (by first | omega | (simp only; omega)) ?_
    exact ⟨(k + 1, xs.set k (255 ^^^ xs[k])), ⟨hk', by show (xs.set k _).length = _; rw [List.length_set]; exact hxl⟩, (by first | omega | (simp only; omega)), ⟨rfl, rfl, rfl, rfl, rfl, rfl, trivial⟩, ⟨_, Pick.whole⟩, fun _ _ => trivial⟩
  refine vcLoad1_row (j := 34) (v := .slice pA2 ps.length pc2) (xs := cfL server r priv pA2 pc2 ps (pp, pcc, par.2.2)) (Ent.gnO (.there .here) (fun w hw => Ob.row_at hw)) rfl ?_
  refine vcLoop_of (fun g : Nat × List ByteArray => ps.length - g.1) (fun g => [(1, .pointer (some ⟨b1, 0, none⟩)), (5, .pointer (some ⟨b5, 0, none⟩)), (6, .pointer sp), (7, .int .i64 e), (36, .int .i64 ps.length), (37, .int .i64 g.1)])
    (fun g => .sl pA2 pc2 9 1 (stL g.2) :: .row b5 26 (cfL server r priv pA2 pc2 ps (pp, pcc, par.2.2)) 36 :: .row b1 26 (cfL server r priv pA pc ps par) 36 :: OS) (fun _ => MT) (fun g => g.1 ≤ ps.length ∧ g.2.length = ps.length)
    (0, ps) ⟨Nat.zero_le _, rfl⟩ ⟨rfl, rfl, rfl, rfl, rfl, rfl, trivial⟩ ⟨_, .cons (by first | ((repeat (first | exact .here | apply Take.there)); done) | exact .none_) (.cons (by first | ((repeat (first | exact .here | apply Take.there)); done) | exact .none_) (.cons (by first | ((repeat (first | exact .here | apply Take.there)); done) | exact .none_) Pick.whole.under))⟩ (fun _ _ => trivial) ?_
  rintro ⟨k2, qs⟩ ⟨hk2, hql⟩
  simp only at hk2 hql
  refine vcIf_dec (fun hlt2 => ?_) (fun hge2 => ?_)
  · have hk' : k2 < ps.length := by have h9 : (k2 : Int) < (ps.length : Int) := hlt2; omega
    refine vcLoad1_row (j := 34) (v := .slice pA2 ps.length pc2) (xs := cfL server r priv pA2 pc2 ps (pp, pcc, par.2.2)) (Ent.gnO (.there .here) (fun w hw => Ob.row_at hw)) rfl ?_
    refine vcIdx_nat k2 rfl (Ent.gnO (o := .sl pA2 pc2 9 1 (stL qs)) .here (fun w hw => Ob.sl_at hw)) hk' (by rw [stL_len]; omega) (fun a4 ha4 => ?_)
    subst ha4
    refine vcStore1_eq (.sl (some a4) pc2 9 1 (stL qs)) (.sl (some a4) pc2 9 1 (stL (qs.set k2 (ByteArray.mk #[109,97,114,107])))) _ .here rfl (by show k2 + 0 < (stL qs).length; rw [stL_len]; omega) rfl (by show Ob.sl _ _ _ _ ((stL qs).set k2 _) = Ob.sl _ _ _ _ (stL (qs.set k2 _)); unfold stL; rw [List.map_set]) ?_
    refine vcFit_i64 (by first | omega | (simp only; omega)) ?_
    exact ⟨(k2 + 1, qs.set k2 (ByteArray.mk #[109,97,114,107])), ⟨hk', by show (qs.set k2 _).length = _; rw [List.length_set]; exact hql⟩, (by first | omega | (simp only; omega)), ⟨rfl, rfl, rfl, rfl, rfl, rfl, trivial⟩, ⟨_, Pick.whole⟩, fun _ _ => trivial⟩
  refine vcLoad1_row (j := 33) (v := .int .i64 priv) (xs := cfL server r priv pA pc ps par) (Ent.gnO (.there (.there .here)) (fun w hw => Ob.row_at hw)) rfl ?_
  refine vcLoad1_row (j := 34) (v := .slice pA ps.length pc) (xs := cfL server r priv pA pc ps par) (Ent.gnO (.there (.there .here)) (fun w hw => Ob.row_at hw)) rfl ?_
  refine vcLoad1_row (j := 35) (v := pieceV par) (xs := cfL server r priv pA pc ps par) (Ent.gnO (.there (.there .here)) (fun w hw => Ob.row_at hw)) rfl ?_
  refine vcCall_of .nil (good_spec priv pA pc ps par _ (Ent.gnG h1) (by omega)) (fun v own' N' hv => ?_); obtain ⟨rfl, rfl, rfl⟩ := hv
  rcases hQ with ⟨hg, rfl, b, pA3, pc3, pp3, pcc3, wA, wc, A, c, oA, oc, out, rfl, rfl, hout⟩ | ⟨hg, rfl, rfl, rfl⟩
  · refine vcIf_ndec (fun hn => absurd hg hn) (fun _ => ?_)
    have hb1 : ∀ {own : List Ob} {N : Mp}, Ob.row b1 26 (cfL server r priv pA pc ps par) 36 ∈ own → Ent (GN G own N) (RowAt (some ⟨b1, 0, none⟩) (cfL server r priv pA pc ps par)) := fun h => Ent.mem h (fun w hw => Ob.row_at hw)
    refine vcDraw_mix [0,1,2,3,4,6,7,8,9,10,11,13,14,5,12,15,16,17,18,19,20,21] (RowAt (some ⟨b1, 0, none⟩) (cfL server r priv pA pc ps par)) (by kernel_rfl) (hb1 (by simp)) ?_
    refine vcLoad1_row (j := 0) (v := .bool server) Ent.refl rfl ?_
    refine vcRange_of (by omega) ?_
    refine vcLoad1_row (j := 33) (v := .int .i64 priv) Ent.refl rfl ?_
    refine vcLoad1_row (j := 34) (v := .slice pA ps.length pc) Ent.refl rfl ?_
    refine vcLoad1_row (j := 35) (v := pieceV par) Ent.refl rfl ?_
    refine vcCall_of .nil (copy_spec (some ((⟨b1, 0, none⟩ : Addr).add 1)) 32 (rn r) _ (fun w hw => RowAt.part 1 (hb1 (by simp) w hw) rn_part) (by rw [rn_len]; decide)) (fun v own' N' hv => ?_)
    obtain ⟨rA, rc, rfl, rfl, rfl, hrc⟩ := hv
    refine vcMix_same (hb1 (by simp)) ?_
    refine vcCall_of .nil (rnew_spec server r rA rc priv pA pc ps par _ (Ent.gnO .here (fun w hw => Ob.sl_at hw)) (Ent.gnG h1) (Ent.gnG h2) hg) (fun v own' N' hv => ?_)
    obtain ⟨d, sA, sc, lA, lc, dA, dc, fd, rfl, rfl, hF, hfd⟩ := hv
    refine vcMix_same (hb1 (by simp)) ?_
    have hol : out.length ≤ 1000 := by
      have := congrArg List.length hout
      rw [outs, List.length_map] at this
      rw [this]
      split <;> simp
    have hod : ∀ f ∈ out, f.2.2.2.length ≤ 1099511627776 := by
      intro f hf
      have h5 : (f.1, f.2.2.2) ∈ outs out := List.mem_map_of_mem (f := fun f : Fl => (f.1, f.2.2.2)) hf
      rw [hout] at h5
      split at h5
      · cases h5
      · have := List.mem_singleton.1 h5
        have h6 : f.2.2.2 = hi0 server r priv ps par.2.2 := congrArg Prod.snd this
        rw [h6]
        exact Nat.le_trans (hi0_le hg) (by decide)
    exact ⟨sdR d server rA rc priv pA pc ps par sA sc lA lc dA dc (if server = true then 0 else 1) fd.length :: skO b (sk1 server r priv pA3 pc3 ps (pp3, pcc3, par.2.2) wA wc (if server then wsServer else wsClient) (A, c, hi0 server r priv ps par.2.2) oA oc out), _, FdF lA dA fd, .cons .here Pick.whole.under.under.under.under, fun w hw _ => hF w hw.2,
      .inl ⟨hg, b, d, pA3, pc3, (pp3, pcc3, par.2.2), wA, wc, (A, c, hi0 server r priv ps par.2.2), oA, oc, out, rA, rc, pA, pc, sA, sc, lA, lc, dA, dc, _, fd, rfl, rfl, Ent.refl, by split <;> decide, hout.trans hfd.symm, hol, hod⟩⟩
  · refine vcIf_ndec (fun hn => ?_) (fun hn => absurd hn hg)
    exact ⟨[], _, MT, .nil, fun _ _ _ => trivial, .inr ⟨hg, rfl, rfl, rfl⟩⟩
end Go.Proofs.Yticllmnblcjjcaa
end

section
/- Layer 10: ShakeNews. -/
namespace Go.Proofs.Yticllmnblcjjcaa
open Go.Proofs
set_option maxRecDepth 10000

theorem rn_eq (r : Nat → UInt8) : rn r = (List.range 32).map r := rfl
open Go.ChangeShapes Go.WideShapes Go.ChangeAt Go.RowKit in
/-- An array of 32 bytes. -/
theorem Dec.arr32 {P : Program} {e t : TypeId} (he : P.underlying e = some (.int .u8)) (hce : P.cellsOf e = 1) (ht : P.underlying t = some (.array 32 e)) (hc : P.cellsOf t = 32) :
    Dec P t (Nat → UInt8) (fun r => Bs (rn r)) (fun _ => True) (fun _ => MT) := by
  refine ⟨fun _ => hc.symm, ?_, fun _ _ _ _ _ => trivial⟩
  intro H enc W held fuel cs d ps h hw
  cases fuel with
  | zero => simp [DataW.trod] at h
  | succ fuel =>
    have h2 : (if cs.length = P.cellsOf t then ((List.range 32).mapM fun i => DataW.trod enc P W 0 (fun _ => true) held fuel e ((cs.drop (i * P.cellsOf e)).take (P.cellsOf e))).map fun xs => (DataW.agg (xs.map (·.1)), xs.flatMap (·.2)) else none) = some (d, ps) := by
      rw [← h]
      conv => rhs; unfold DataW.trod
      rw [ht]
    split at h2
    · rename_i hlen
      rw [hc] at hlen
      simp only [Option.map_eq_some_iff, Prod.mk.injEq] at h2
      obtain ⟨xs, hxs, rfl, _⟩ := h2
      simp only [DataW.weights, ht] at hw
      obtain ⟨l1, g1⟩ := mapM_get hxs
      let r : Nat → UInt8 := fun i => match cs[i]? with
        | some (.int .u8 z) => UInt8.ofNat z.toNat
        | _ => 0
      refine ⟨r, ?_, trivial, trivial⟩
      refine List.ext_getElem? fun i => ?_
      rw [rn_eq]
      unfold Bs
      rw [List.getElem?_map, List.getElem?_map]
      rcases Nat.lt_or_ge i 32 with hi | hi
      · obtain ⟨b, hb1, hb2⟩ := g1 i i (by rw [List.getElem?_range hi])
        have hmem : b.1 ∈ xs.map (·.1) := List.mem_map.2 ⟨b, List.mem_of_getElem? hb1, rfl⟩
        obtain ⟨z, hz, hok, _⟩ := (Dec.int he hce).get enc W held fuel _ b.1 b.2 hb2 (List.all_eq_true.2 fun n hn => List.all_eq_true.1 hw n (weightsAll_mem hmem n hn))
        rw [hce, Nat.mul_one] at hz
        have hci : cs[i]? = some (.int .u8 z) := by
          have h3 := congrArg (fun l : List Value => l[0]?) hz
          simpa [List.getElem?_take, List.getElem?_drop] using h3
        have hz' : 0 ≤ z ∧ z ≤ 255 := by simpa [IntKind.min, IntKind.max, IntKind.signed, IntKind.bits] using hok
        rw [List.getElem?_range hi, hci]
        simp only [Option.map_some, Option.some.injEq]
        show _ = B (r i)
        have hr : r i = UInt8.ofNat z.toNat := by simp only [r, hci]
        rw [hr]
        simp only [B, UInt8.toNat_ofNat']
        congr 1
        omega
      · rw [List.getElem?_eq_none (by omega), List.getElem?_eq_none (by simp; omega)]
        rfl
    · cases h2
theorem flat_st (l : List ByteArray) : (l.flatMap fun s => [Value.string s]) = stL l := by
  induction l with
  | nil => rfl
  | cons x l ih => rw [List.flatMap_cons, ih]; rfl
theorem awake_spec (G : Mp) : Spec Try.prog 6 #[] [] G (Ret (.bool true)) := by
  refine Spec.intro (args := []) wide Try.func6 rfl Try.call6 (by rfl) (by rfl) (fun w0 hw0 => ?_)
  intro b1
  have hg : goodC 5 [ByteArray.mk #[104, 51]] [] := by decide
  refine vcCall_of .nil (new_spec false (fun _ => 0) 5 (some ⟨b1, 0, none⟩) 1 [ByteArray.mk #[104, 51]] nilP _ (Ent.gnO .here (fun w hw => Ob.sl_at hw)) (fun _ _ => row0) (by decide)) (fun v own' N' hv => ?_)
  rcases hv with ⟨_, b, pA, pc, pp, pcc, wA, wc, A, c, oA, oc, out, rfl, rfl, hF, hout, _⟩ | ⟨hn, _⟩
  · have hout : outs out = [(0, hi0 false (fun _ => 0) 5 [ByteArray.mk #[104, 51]] [])] := hout
    obtain ⟨f, rfl⟩ : ∃ f, out = [f] := by
      cases out with
      | nil => cases hout
      | cons f r => cases r with
        | nil => exact ⟨f, rfl⟩
        | cons _ _ => exact absurd (congrArg List.length hout) (by simp [outs])
    have h1 : f.1 = 0 := congrArg Prod.fst (List.cons.inj hout).1
    have h2 : f.2.2.2 = hi0 false (fun _ => 0) 5 [ByteArray.mk #[104, 51]] [] := congrArg Prod.snd (List.cons.inj hout).1
    have h3 : f.2.2.2.length = 50 := by
      rw [h2]
      show (msg 1 (bodyL _ _ _ _)).length = 50
      rw [msg_length]
      simp only [bodyL, lng, List.length_append, helloL_len, List.length_cons, List.length_nil]
      rfl
    obtain ⟨s1, hs1⟩ : ∃ s1, s1 = { sk0 false (fun _ => 0) 5 pA pc [ByteArray.mk #[104, 51]] (pp, pcc, nilP.2.2) wA wc (if false = true then wsServer else wsClient) with said := (A, c, hi0 false (fun _ => 0) 5 [ByteArray.mk #[104, 51]] []), oA := oA, oc := oc, out := [f] } := ⟨_, rfl⟩
    have e1 : s1.oA = oA := by rw [hs1]
    have e2 : s1.oc = oc := by rw [hs1]
    have e3 : s1.out = [f] := by rw [hs1]
    refine vcCall_of (A := skO b s1) (by rw [hs1]; exact Pick.front) (out_spec b s1 _) (fun v own' N' hv => ?_)
    rw [OutTo, e1, e2, e3] at hv
    obtain ⟨rfl, rfl, rfl⟩ := hv
    have hfr : ∀ {rest : List Ob} {N : Mp}, Ent (GN G ((skO b { s1 with oA := none, oc := 0, out := [] } ++ Ob.sl oA oc 56 2 (flL [f]) :: flO [f]) ++ rest) N) (RowAt oA (flL [f])) := Ent.mem (o := .sl oA oc 56 2 (flL [f])) (by simp) (fun w hw => Ob.sl_at hw)
    have hby : ∀ {rest : List Ob} {N : Mp}, Ent (GN G ((skO b { s1 with oA := none, oc := 0, out := [] } ++ Ob.sl oA oc 56 2 (flL [f]) :: flO [f]) ++ rest) N) (RowAt f.2.1 (Bs f.2.2.2)) := Ent.mem (o := pO f.2) (by simp [flO]) (fun w hw => Ob.sl_at hw)
    have g0 : (flL [f])[0 * 2]? = some (.int .i64 f.1) := flL_get0 (l := [f]) (k := 0) Nat.zero_lt_one
    have g1 : (flL [f])[0 * 2 + 1]? = some (pieceV f.2) := flL_get1 (l := [f]) (k := 0) Nat.zero_lt_one
    refine vcIdx_nats (s := 2) 0 rfl hfr Nat.zero_lt_one (by rw [flL_len]; exact Nat.le_refl _) (by omega) (fun a1 ha1 => ?_)
    refine vcLoad1_2 (xs := flL [f]) (v := .int .i64 f.1) (fun w hw => by rw [← ha1]; exact hfr w hw) g0 ?_
    refine vcIf_yes h1 ?_
    refine vcIdx_nats (s := 2) 0 rfl hfr Nat.zero_lt_one (by rw [flL_len]; exact Nat.le_refl _) (by omega) (fun a2 ha2 => ?_)
    refine vcLoad1_2 (xs := flL [f]) (v := pieceV f.2) (fun w hw => by rw [← ha2]; exact hfr w hw) g1 ?_
    refine vcIf_yes (by omega) ?_
    refine vcIdx_nats (s := 2) 0 rfl hfr Nat.zero_lt_one (by rw [flL_len]; exact Nat.le_refl _) (by omega) (fun a3 ha3 => ?_)
    refine vcLoad1_2 (xs := flL [f]) (v := pieceV f.2) (fun w hw => by rw [← ha3]; exact hfr w hw) g1 ?_
    refine vcIdx_nat 0 rfl hby (by omega) (by rw [Bs_length]; exact Nat.le_refl _) (fun a4 ha4 => ?_)
    refine vcLoad1_row (xs := Bs f.2.2.2) (v := .int .u8 1) (fun w hw => by rw [← ha4]; exact hby w hw) (by rw [h2]; rfl) ?_
    exact ⟨[], _, MT, .nil, fun _ _ _ => trivial, rfl, rfl, rfl⟩
  · exact absurd hg hn
theorem news_spec (server : Bool) (r : Nat → UInt8) (priv : Int) (pA : Option Addr) (pc : Nat) (ps : List ByteArray) (par : Piece) (G : Mp) (h1 : Ent G (RowAt pA (stL ps))) (h2 : Ent G (RowAt par.1 (Bs par.2.2))) (hl : ps.length ≤ 8796093021952) (hl2 : par.2.2.length ≤ 281474976710656) :
    Spec Try.prog 3 #[.agg (cfL server r priv pA pc ps par).toArray] [] G (Ret (.bool true)) := by
  refine Spec.intro (args := [_]) wide Try.func3 rfl Try.call3 (by rfl) (by rfl) (fun w0 hw0 => ?_)
  intro b1
  refine vcLoadN_0 (xs := cfL server r priv pA pc ps par) (Ent.gnO .here (fun w hw => Ob.row_at hw)) rfl ?_
  refine vcCall_of .nil (made_spec server r priv pA pc ps par _ (Ent.gnG h1) (Ent.gnG h2) hl hl2) (fun v own' N' hv => ?_)
  rcases hv with ⟨hg, b, d, pA2, pc2, par2, wA, wc, said, oA, oc, out, rA, rc, pA', pc', sA, sc, lA, lc, dA, dc, n, fd, rfl, rfl, hF, hn, ho, hlen, hod⟩ | ⟨hg, rfl, rfl, rfl⟩
  · refine vcCall_of (A := sdR d server rA rc priv pA' pc' ps par sA sc lA lc dA dc n fd.length :: skO b (sk1 server r priv pA2 pc2 ps par2 wA wc (if server then wsServer else wsClient) said oA oc out)) Pick.front
      (rest_spec b d server r priv pA2 pc2 ps par2 wA wc (if server then wsServer else wsClient) said oA oc out rA rc pA' pc' ps par sA sc lA lc dA dc n fd _ (fun w hw => hF w hw.1.2.2) hn (by split <;> decide) ho hlen hod) (fun v own' N2 hv => ?_)
    obtain ⟨rfl, rfl, rfl⟩ := hv
    refine vcCall_of .nil (done_spec b (sk1 server r priv pA2 pc2 ps par2 wA wc (if server then wsServer else wsClient) said none 0 []) _ (Ent.mem (o := skR b _) (.head _) (fun w hw => Ob.row_at hw))) (fun v own' N3 hv => ?_)
    have hwz : decide ((sk1 server r priv pA2 pc2 ps par2 wA wc (if server then wsServer else wsClient) said none 0 []).ws.length = 0) = false := by
      show decide ((if server = true then wsServer else wsClient).length = 0) = false
      split <;> rfl
    rw [hwz] at hv
    obtain ⟨rfl, rfl, rfl⟩ := hv
    refine vcCall_of .nil (awake_spec _) (fun v own' N' hv => ?_); obtain ⟨rfl, rfl, rfl⟩ := hv
    exact ⟨[], _, MT, .nil, fun _ _ _ => trivial, rfl, rfl, rfl⟩
  · refine vcCall_of .nil (awake_spec _) (fun v own' N' hv => ?_); obtain ⟨rfl, rfl, rfl⟩ := hv
    exact ⟨[], _, MT, .nil, fun _ _ _ => trivial, rfl, rfl, rfl⟩
end Go.Proofs.Yticllmnblcjjcaa
end

section
/- Layer 10: helpers of the law ShakeMeets. -/
namespace Go.Proofs.Yticllmnblcjjcaa
open Go.Proofs
set_option maxRecDepth 10000

theorem Spec.perm {P : Program} {f : FuncId} {args : Array Value} {A A' : List Ob} {G : Mp} {Post : Value → List Ob → Mp → Prop} (h : Spec P f args A G Post) (hp : A.Perm A') : Spec P f args A' G Post := by
  have hb : (blksOf A).Perm (blksOf A') := hp.flatMap_right _
  refine ⟨h.1, fun w hw => ?_⟩
  have he : Entry w A G := ⟨fun o ho => hw.objs o (hp.mem_iff.1 ho), hb.nodup_iff.2 hw.nodup, fun w' hw' => hw.pers w' (hw'.mono fun i hi => hb.mem_iff.1 hi)⟩
  refine (h.2 w he).mono fun e w' hh => ?_
  obtain ⟨v, own, N, he, hP, hi⟩ := hh
  refine ⟨v, own, N, he, hP, hi.objs, hi.nodup, hi.fr.mono fun i hi => hb.mem_iff.1 hi, fun b hb' => (hi.from_ b hb').imp (fun h => hb.mem_iff.1 h) id, fun w'' h1 h2 => hi.stable w'' h1 fun i a1 a2 a3 => h2 i a1 a2 fun h => hb.mem_iff.1 (a3 h)⟩
theorem Pick.appL {s l r : List Ob} : ∀ {a : List Ob}, Pick s l r → Pick (a ++ s) (a ++ l) r
  | [], h => h
  | _ :: _, h => .cons .here (Pick.appL h)
def comB (a b : List ByteArray) : Bool := a.any fun x => b.any fun y => decide (x = y)
theorem common_spec (A B : Option Addr) (c d : Nat) (a b : List ByteArray) (G : Mp) (h1 : Ent G (RowAt A (stL a))) (h2 : Ent G (RowAt B (stL b))) (la : a.length ≤ 9223372036854775806) (lb : b.length ≤ 9223372036854775806) :
    Spec Try.prog 12 #[.slice A a.length c, .slice B b.length d] [] G (Ret (.bool (comB a b))) := by
  refine Spec.intro (args := [_, _]) wide Try.func12 rfl Try.call12 (by rfl) (by rfl) (fun w0 hw0 => ?_)
  refine vcLoop_of (fun k : Nat => a.length - k) (fun k => [(1, .slice B b.length d), (9, .slice A a.length c), (10, .int .i64 a.length), (11, .int .i64 k)]) (fun _ => []) (fun _ => MT) (fun k => k ≤ a.length ∧ ∀ x ∈ a.take k, (b.any fun y => decide (x = y)) = false)
    0 ⟨by omega, by simp⟩ ⟨rfl, rfl, rfl, rfl, trivial⟩ ⟨_, .nil⟩ Ent.refl ?_
  rintro k ⟨hk, ht⟩
  refine vcIf_dec (fun hlt => ?_) (fun hge => ?_)
  · have hk' : k < a.length := by omega
    refine vcIdx_nat k rfl (Ent.gnG h1) hk' (by rw [stL_len]; omega) (fun aa ha => ?_)
    subst ha
    refine vcLoad1_row (Ent.gnG h1) (stL_get hk') ?_
    refine vcLoop_of (fun j : Nat => b.length - j) (fun j => [(1, .slice B b.length d), (6, .string a[k]), (9, .slice (some aa) a.length c), (10, .int .i64 a.length), (11, .int .i64 k), (15, .slice B b.length d), (16, .int .i64 b.length), (17, .int .i64 j)]) (fun _ => []) (fun _ => MT) (fun j => j ≤ b.length ∧ ∀ y ∈ b.take j, decide (a[k] = y) = false)
      0 ⟨by omega, by simp⟩ ⟨rfl, rfl, rfl, rfl, rfl, rfl, rfl, rfl, trivial⟩ ⟨_, .nil⟩ (fun _ _ => trivial) ?_
    rintro j ⟨hj, hu⟩
    refine vcIf_dec (fun hlt2 => ?_) (fun hge2 => ?_)
    · have hj' : j < b.length := by omega
      refine vcIdx_nat j rfl (Ent.gnG h2) hj' (by rw [stL_len]; omega) (fun bb hb => ?_)
      subst hb
      refine vcLoad1_row (Ent.gnG h2) (stL_get hj') ?_
      refine vcIf_is (decide (a[k] = b[j])) (ba_beq _ _) ?_
      refine vcIf_dec (fun he => ?_) (fun he => ?_)
      · have : comB a b = true := List.any_eq_true.2 ⟨a[k], List.getElem_mem hk', List.any_eq_true.2 ⟨b[j], List.getElem_mem hj', decide_eq_true he⟩⟩
        rw [this]
        exact ⟨[], _, MT, .nil, fun _ _ _ => trivial, rfl, rfl, rfl⟩
      · refine vcFit_i64 (by omega) ?_
        exact ⟨j + 1, ⟨by omega, take_all hj' hu (decide_eq_false he)⟩, by omega, ⟨rfl, rfl, rfl, rfl, rfl, rfl, rfl, rfl, trivial⟩, ⟨_, .nil⟩, fun _ _ => trivial⟩
    · obtain rfl : j = b.length := by omega
      rw [List.take_length] at hu
      refine vcFit_i64 (by omega) ?_
      exact ⟨k + 1, ⟨by omega, take_all hk' ht (List.any_eq_false.2 fun y hy => by rw [hu y hy]; decide)⟩, by omega, ⟨rfl, rfl, rfl, rfl, trivial⟩, ⟨_, .nil⟩, fun _ _ => trivial⟩
  · obtain rfl : k = a.length := by omega
    rw [List.take_length] at ht
    have : comB a b = false := List.any_eq_false.2 fun x hx => by rw [ht x hx]; decide
    rw [this]
    exact ⟨[], _, MT, .nil, fun _ _ _ => trivial, rfl, rfl, rfl⟩
theorem feedsL_nil {s t : SP} {l : List (Int × List UInt8)} {w : Int} (h : FeedsL s l t w) (hl : l = []) : t = s ∧ w = 0 := by
  cases h with
  | nil => exact ⟨rfl, rfl⟩
  | snoc f h k => exact absurd hl (by simp)
theorem feedsL_snoc {s t : SP} {l : List (Int × List UInt8)} {f : Int × List UInt8} {w : Int} (h : FeedsL s (l ++ [f]) t w) : ∃ u w1 w2, FeedsL s l u w1 ∧ Feeds f.1 u f.2 t w2 ∧ w = max w1 w2 := by
  generalize hl : l ++ [f] = m at h
  cases h with
  | nil => simp at hl
  | snoc g h k =>
    obtain ⟨rfl, h2⟩ := List.append_inj' hl rfl
    cases h2
    exact ⟨_, _, _, h, k, rfl⟩
theorem feedsL_1 {s t : SP} {f : Int × List UInt8} {w : Int} (h : FeedsL s [f] t w) : Feeds f.1 s f.2 t w := by
  obtain ⟨u, w1, w2, h1, h2, rfl⟩ := feedsL_snoc (l := []) h
  obtain ⟨rfl, rfl⟩ := feedsL_nil h1 rfl
  have := h2.nn
  rw [Int.max_eq_right this]
  exact h2
theorem feedsL_2 {s t : SP} {f g : Int × List UInt8} {w : Int} (h : FeedsL s [f, g] t w) : ∃ u w1 w2, Feeds f.1 s f.2 u w1 ∧ Feeds g.1 u g.2 t w2 ∧ w = max w1 w2 := by
  obtain ⟨u, w1, w2, h1, h2, rfl⟩ := feedsL_snoc (l := [f]) h
  exact ⟨u, w1, w2, feedsL_1 h1, h2, rfl⟩
theorem inv_cli {r : Nat → UInt8} {a : Int} {p : List ByteArray} {par : List UInt8} (h : goodC a p par) (out : List (Int × List UInt8)) (ho : out.length + (out.map fun f => f.2.length).sum ≤ 100000) : Inv10 (cli0 r a p par out) := by
  have hb := bodyL_len (r := r) h
  obtain ⟨h1, h2, h3, h4⟩ := h
  refine ⟨⟨by show a ≤ _; omega, h3.2.1, h4, Nat.zero_le _, Nat.zero_le _, Nat.zero_le _⟩, h3, ?_, fun w hw => ?_⟩
  · show (msg 1 (bodyL r a p par)).length + out.length + (out.map fun f => f.2.length).sum + 20000 * 3 ≤ 1000000000000
    rw [msg_length]
    omega
  · have hw : w ∈ wsClient := hw
    simp only [wsClient, List.mem_cons, List.not_mem_nil, or_false] at hw
    rcases hw with rfl | rfl | rfl <;> (simp only [takes, fCH, fSH, fCho, fSF, fCF]; decide)
theorem inv_srv {r : Nat → UInt8} {a : Int} {p : List ByteArray} {par : List UInt8} (h : goodC a p par) : Inv10 (srv0 r a p par) := by
  obtain ⟨h1, h2, h3, h4⟩ := h
  refine ⟨⟨by show a ≤ _; omega, h3.2.1, h4, Nat.zero_le _, Nat.zero_le _, Nat.zero_le _⟩, h3, by show 0 + 0 + 0 + 20000 * 2 ≤ _; decide, fun w hw => ?_⟩
  have hw : w ∈ wsServer := hw
  simp only [wsServer, List.mem_cons, List.not_mem_nil, or_false] at hw
  rcases hw with rfl | rfl <;> (simp only [takes, fCH, fSH, fCho, fSF, fCF]; decide)
def Giv2 (p q : List UInt8) (v : Value) (own : List Ob) (N : Mp) : Prop :=
  ∃ A c A' c', v = .tuple #[.agg #[.slice A p.length c, .slice A' q.length c'], .bool true] ∧ own = [pO (A, c, p), pO (A', c', q)] ∧ N = MT
theorem GivTo.two {p q : Piece} {P Q : List UInt8} (h1 : p.2.2 = P) (h2 : q.2.2 = Q) (h3 : p.1.isSome = true) {v : Value} {own : List Ob} {N : Mp} (h : GivTo p q v own N) : Giv2 P Q v own N := by
  subst h1; subst h2
  obtain ⟨A, c, A', c', rfl, rfl, rfl⟩ := h
  rw [h3]
  exact ⟨A, c, A', c', rfl, rfl, rfl⟩
theorem hand2_spec (b : Nat) (s : Sk) (P Q : List UInt8) (h1 : (pu s).hc = P) (h2 : (pu s).hs = Q) (h3 : (pu s).hasH = true) (hP : P.length ≤ 1000) (hQ : Q.length ≤ 1000) (G : Mp) (h : Ent G (RowAt (some ⟨b, 0, none⟩) (skL s))) (hF : Ent G (SkF s)) :
    Spec Try.prog 14 #[.pointer (some ⟨b, 0, none⟩)] [] G (Giv2 P Q) := by
  have h1' : s.hc.2.2 = P := h1
  have h2' : s.hs.2.2 = Q := h2
  exact (hand_spec b s G h (hF.mono fun w hw => hw.piece (by simp)) (hF.mono fun w hw => hw.piece (by simp)) (by rw [h1']; omega) (by rw [h2']; omega)).mono fun v own N hv => hv.two h1 h2 h3
theorem app2_spec (b : Nat) (s : Sk) (P Q : List UInt8) (h1 : (pu s).ac = P) (h2 : (pu s).as_ = Q) (h3 : (pu s).hasA = true) (hP : P.length ≤ 1000) (hQ : Q.length ≤ 1000) (G : Mp) (h : Ent G (RowAt (some ⟨b, 0, none⟩) (skL s))) (hF : Ent G (SkF s)) :
    Spec Try.prog 15 #[.pointer (some ⟨b, 0, none⟩)] [] G (Giv2 P Q) := by
  have h1' : s.ac.2.2 = P := h1
  have h2' : s.as_.2.2 = Q := h2
  exact (app_spec b s G h (hF.mono fun w hw => hw.piece (by simp)) (hF.mono fun w hw => hw.piece (by simp)) (by rw [h1']; omega) (by rw [h2']; omega)).mono fun v own N hv => hv.two h1 h2 h3
theorem peer2_spec (b : Nat) (s : Sk) (P : List UInt8) (h1 : (pu s).peer = P) (hP : P.length ≤ 2000) (G : Mp) (h : Ent G (RowAt (some ⟨b, 0, none⟩) (skL s))) (hF : Ent G (SkF s)) :
    Spec Try.prog 17 #[.pointer (some ⟨b, 0, none⟩)] [] G (OwnB P) := by
  have h1' : s.peer.2.2 = P := h1
  have := peer_spec b s G h (hF.mono fun w hw => hw.piece (by simp)) (by rw [h1']; omega)
  rw [h1'] at this
  exact this
theorem totL_outs (l : List Fl) : totL l = ((outs l).map fun f => f.2.length).sum := by unfold totL outs; rw [List.map_map]; rfl
theorem outs_length (l : List Fl) : (outs l).length = l.length := by simp [outs]
theorem pu_out0 (s : Sk) : pu { s with oA := none, oc := 0, out := [] } = { pu s with out := [] } := rfl
theorem SkF_out0 (s : Sk) (w : World) : SkF { s with oA := none, oc := 0, out := [] } w ↔ SkF s w := Iff.rfl
theorem pick_any {S : SP} {body : List UInt8} : pickP S body = none ↔ comB (parseCH body).ps S.ps = false := by
  unfold pickP comB
  rw [List.find?_eq_none, List.any_eq_false]
  constructor
  · intro h x hx hc
    obtain ⟨y, hy, he⟩ := List.any_eq_true.1 hc
    have := of_decide_eq_true he
    subst this
    exact h x hy (List.any_eq_true.2 ⟨x, hx, decide_eq_true rfl⟩)
  · intro h x hx hc
    obtain ⟨y, hy, he⟩ := List.any_eq_true.1 hc
    have := of_decide_eq_true he
    subst this
    exact h x hy (List.any_eq_true.2 ⟨x, hx, decide_eq_true rfl⟩)
/-- The first flight, fed to the server. -/
theorem pass1_no {rc rs : Nat → UInt8} {ac as_ : Int} {pc ps : List ByteArray} {parc pars : List UInt8} (hc : goodC ac pc parc) (hx : pickP (srv0 rs as_ ps pars) (bodyL rc ac pc parc) = none) {t : SP} {w : Int}
    (h : FeedsL (srv0 rs as_ ps pars) [(0, msg 1 (bodyL rc ac pc parc))] t w) : w = 102 ∧ t.ws.length = 2 := by
  have ht : (takeF fCH (srv0 rs as_ ps pars) (bodyL rc ac pc parc)).2 = 102 := by
    rw [takeF_CH]; unfold takeCH; rw [if_pos (good_body hc), hx]
  have hW : WaitsFor (srv0 rs as_ ps pars) 0 1 fCH [w2] := ⟨rfl, rfl, rfl⟩
  have hF : Feeds ((0 : Nat) : Int) (srv0 rs as_ ps pars) (msg 1 (bodyL rc ac pc parc)) t w := feedsL_1 h
  obtain ⟨e1, e2⟩ := feeds_one (j := 0) (by decide) (byteK (k := 1) (by decide)) (bodyL_len hc) hW ht (by decide) hF (K := []) rfl rfl (by rw [Ne, ← List.length_eq_zero_iff, msg_length]; omega)
  exact ⟨e1, by rw [e2]; rfl⟩
theorem msg_ne (k : Int) (b : List UInt8) : msg k b ≠ [] := by rw [Ne, ← List.length_eq_zero_iff, msg_length]; omega
theorem pass1_ok {rc rs : Nat → UInt8} {ac as_ : Int} {pc ps : List ByteArray} {parc pars : List UInt8} {x : ByteArray} {M : Meet} (hc : goodC ac pc parc) (hx : pickP (srv0 rs as_ ps pars) (bodyL rc ac pc parc) = some x)
    (hM : M = meetOf (msg 1 (bodyL rc ac pc parc)) rs as_ (powN (pubN (powN 37 ac)) as_) x pars) {t : SP} {w : Int} (h : FeedsL (srv0 rs as_ ps pars) [(0, msg 1 (bodyL rc ac pc parc))] t w) : w = 0 ∧ t = srv1 rs as_ ps pars parc x M (outS rs as_ x pars M) := by
  have hF : Feeds ((0 : Nat) : Int) (srv0 rs as_ ps pars) (msg 1 (bodyL rc ac pc parc)) t w := feedsL_1 h
  obtain ⟨e1, e2⟩ := feeds_ok (j := 0) (by decide) hF (n := 3) rfl (by show 2 < 3; decide) (msg_ne _ _) (sv1 (rs := rs) (ps := ps) hc hx hM 1)
  exact ⟨e2, e1⟩
theorem pass2_ok {rc rs : Nat → UInt8} {ac as_ : Int} {pc : List ByteArray} {parc pars : List UInt8} {x : ByteArray} {M : Meet} (hc : goodC ac pc parc) (hs : 1 ≤ as_) (hx : x ∈ pc) (hp : pars.length ≤ 1024)
    (hM : M = meetOf (msg 1 (bodyL rc ac pc parc)) rs as_ (powN (pubN (powN 37 ac)) as_) x pars) {t : SP} {w : Int} (h : FeedsL (cli0 rc ac pc parc []) (outS rs as_ x pars M) t w) : w = 0 ∧ t = cli3 rc ac pc parc pars x M [(1, msg 20 M.cfin)] := by
  obtain ⟨u, w1, w2, h1, h2, rfl⟩ := feedsL_2 h
  have hF1 : Feeds ((0 : Nat) : Int) (cli0 rc ac pc parc []) (msg 2 (helloL rs as_)) u w1 := h1
  obtain ⟨e1, e2⟩ := feeds_ok (j := 0) (by decide) hF1 (n := 4) rfl (by show 3 < 4; decide) (msg_ne _ _) (cl1 (pc := pc) hc hs hM 2)
  subst e1
  have hF2 : Feeds ((1 : Nat) : Int) (cli1 rc ac pc parc M) (msg 8 (choL x pars) ++ msg 20 M.fin) t w2 := h2
  obtain ⟨e3, e4⟩ := feeds_ok (j := 1) (by decide) hF2 (n := 3) rfl (by show 2 < 3; decide) (by intro h; exact msg_ne _ _ (List.append_eq_nil_iff.1 h).1) (cl2 (pc := pc) hx hc.2.2.1 hp hM 0)
  exact ⟨by rw [e2, e4]; rfl, e3⟩
theorem pass3_ok {rc rs : Nat → UInt8} {ac as_ : Int} {pc ps : List ByteArray} {parc pars : List UInt8} {x : ByteArray} {M : Meet}
    (hM : M = meetOf (msg 1 (bodyL rc ac pc parc)) rs as_ (powN (pubN (powN 37 ac)) as_) x pars) {t : SP} {w : Int} (h : FeedsL (srv1 rs as_ ps pars parc x M []) [(1, msg 20 M.cfin)] t w) : w = 0 ∧ t = { srv1 rs as_ ps pars parc x M [] with ws := [], said := M.t4 ++ msg 20 M.cfin } := by
  have hF : Feeds ((1 : Nat) : Int) (srv1 rs as_ ps pars parc x M []) (msg 20 M.cfin) t w := feedsL_1 h
  obtain ⟨e1, e2⟩ := feeds_ok (j := 1) (by decide) hF (n := 3) rfl (by show 1 < 3; decide) (msg_ne _ _) (sv2 (ps := ps) hM 1)
  exact ⟨e2, e1⟩
end Go.Proofs.Yticllmnblcjjcaa
end

section
/- Layer 10: the law ShakeMeets. -/
namespace Go.Proofs.Yticllmnblcjjcaa
open Go.Proofs
set_option maxRecDepth 10000

theorem Pick.frontOf {s l r : List Ob} (h : l = s ++ r) : Pick s l r := by subst h; exact Pick.front
theorem flat_in (l : List Int) : (l.flatMap fun n => [Value.int .i64 n]) = l.map (Value.int .i64) := by
  induction l with
  | nil => rfl
  | cons x l ih => rw [List.flatMap_cons, ih]; rfl
set_option maxHeartbeats 4000000 in
theorem meets_spec (xc xs : Bool) (rc rs : Nat → UInt8) (ac as_ : Int) (pA : Option Addr) (pcc : Nat) (pc : List ByteArray) (parc : Piece) (qA : Option Addr) (qcc : Nat) (ps : List ByteArray) (pars : Piece) (cA : Option Addr) (cc : Nat) (cuts : List Int) (G : Mp)
    (h1 : Ent G (RowAt pA (stL pc))) (h2 : Ent G (RowAt parc.1 (Bs parc.2.2))) (h3 : Ent G (RowAt qA (stL ps))) (h4 : Ent G (RowAt pars.1 (Bs pars.2.2))) (hcu : Ent G (RowAt cA (cuts.map (Value.int .i64))))
    (l1 : pc.length ≤ 8796093021952) (l2 : parc.2.2.length ≤ 281474976710656) (l3 : ps.length ≤ 8796093021952) (l4 : pars.2.2.length ≤ 281474976710656) :
    Spec Try.prog 4 #[.agg (cfL xc rc ac pA pcc pc parc).toArray, .agg (cfL xs rs as_ qA qcc ps pars).toArray, .slice cA cuts.length cc] [] G (Ret (.bool true)) := by
  refine Spec.intro (args := [_, _, _]) wide Try.func4 rfl Try.call4 (by rfl) (by rfl) (fun w0 hw0 => ?_)
  intro b3 b4
  refine vcStore1_eq (.row b3 26 (cfL xc rc ac pA pcc pc parc) 36) (.row b3 26 (cfL false rc ac pA pcc pc parc) 36) _ (.there .here) rfl (by show (0 : Nat) < 36; decide) rfl rfl ?_
  refine vcStore1_eq (.row b4 26 (cfL xs rs as_ qA qcc ps pars) 36) (.row b4 26 (cfL true rs as_ qA qcc ps pars) 36) _ (.there .here) rfl (by show (0 : Nat) < 36; decide) rfl rfl ?_
  refine vcLoadN_0 (xs := cfL false rc ac pA pcc pc parc) (Ent.gnO (.there .here) (fun w hw => Ob.row_at hw)) rfl ?_
  refine vcCall_of .nil (copied_spec false rc ac pA pcc pc parc _ (Ent.gnG h1) (Ent.gnG h2) l1 l2) (fun v own' N' hv => ?_)
  obtain ⟨pA2, pc2, pp, ppc, rfl, rfl, rfl⟩ := hv
  refine vcCall_of .nil (new_spec false rc ac pA2 pc2 pc (pp, ppc, parc.2.2) _ (Ent.gnO (o := .sl pA2 pc2 9 1 (stL pc)) .here (fun w hw => Ob.sl_at hw)) (Ent.gnO (o := pO (pp, ppc, parc.2.2)) (.there .here) (fun w hw => Ob.sl_at hw)) (by omega)) (fun v own' N1 hv => ?_)
  obtain ⟨spc, ec, rfl, hc⟩ : ∃ sp e, v = .tuple #[.pointer sp, .int .i64 e] ∧
      ((goodC ac pc parc.2.2 ∧ e = 0 ∧ ∃ b s, sp = some ⟨b, 0, none⟩ ∧ own' = skO b s ∧ Ent N1 (SkF s) ∧ pu s = cli0 rc ac pc parc.2.2 [(0, msg 1 (bodyL rc ac pc parc.2.2))] ∧ KOk s) ∨ (¬ goodC ac pc parc.2.2 ∧ e = 100 ∧ sp = none ∧ own' = [])) := by
    rcases hv with ⟨hg, b, pA, pc, pp, pcc, wA, wc, A, c, oA, oc, out, rfl, rfl, hF, ho, hw⟩ | ⟨hg, rfl, rfl, rfl⟩
    · refine ⟨_, _, rfl, .inl ⟨hg, rfl, b, _, rfl, rfl, hF, ?_, ⟨hw⟩⟩⟩
      have ho : outs out = [(0, msg 1 (bodyL rc ac _ parc.2.2))] := ho
      unfold pu cli0
      simp only [ho]
      rfl
    · exact ⟨_, _, rfl, .inr ⟨hg, rfl, rfl, rfl⟩⟩
  clear hv
  refine vcLoadN_0 (xs := cfL true rs as_ qA qcc ps pars) (Ent.mem (o := .row b4 26 (cfL true rs as_ qA qcc ps pars) 36) (by simp) (fun w hw => Ob.row_at hw)) rfl ?_
  refine vcCall_of .nil (copied_spec true rs as_ qA qcc ps pars _ (Ent.gnG h3) (Ent.gnG h4) l3 l4) (fun v own2 N' hv => ?_)
  obtain ⟨qA2, qc2, qp, qpc, rfl, rfl, rfl⟩ := hv
  refine vcCall_of .nil (new_spec true rs as_ qA2 qc2 ps (qp, qpc, pars.2.2) _ (Ent.gnO (o := .sl qA2 qc2 9 1 (stL ps)) .here (fun w hw => Ob.sl_at hw)) (Ent.gnO (o := pO (qp, qpc, pars.2.2)) (.there .here) (fun w hw => Ob.sl_at hw)) (by omega)) (fun v own2 N2 hv => ?_)
  obtain ⟨sps, es, rfl, hs⟩ : ∃ sp e, v = .tuple #[.pointer sp, .int .i64 e] ∧
      ((goodC as_ ps pars.2.2 ∧ e = 0 ∧ ∃ b s, sp = some ⟨b, 0, none⟩ ∧ own2 = skO b s ∧ Ent N2 (SkF s) ∧ pu s = srv0 rs as_ ps pars.2.2 ∧ KOk s) ∨ (¬ goodC as_ ps pars.2.2 ∧ e = 100 ∧ sp = none ∧ own2 = [])) := by
    rcases hv with ⟨hg, b, pA, pc, pp, pcc, wA, wc, A, c, oA, oc, out, rfl, rfl, hF, ho, hw⟩ | ⟨hg, rfl, rfl, rfl⟩
    · refine ⟨_, _, rfl, .inl ⟨hg, rfl, b, _, rfl, rfl, hF, ?_, ⟨hw⟩⟩⟩
      have ho : outs out = [] := ho
      unfold pu srv0
      simp only [ho]
      rfl
    · exact ⟨_, _, rfl, .inr ⟨hg, rfl, rfl, rfl⟩⟩
  clear hv
  rcases hc with ⟨hgc, rfl, bc, sc, rfl, rfl, hFc, hpc, hkc⟩ | ⟨_, rfl, rfl, rfl⟩
  case inr =>
    rcases hs with ⟨_, rfl, bs, ss, rfl, rfl, _, _, _⟩ | ⟨_, rfl, rfl, rfl⟩
    · refine vcCall_of .nil (awake_spec _) (fun v own' N' hv => ?_); obtain ⟨rfl, rfl, rfl⟩ := hv
      exact ⟨[], _, MT, .nil, fun _ _ _ => trivial, rfl, rfl, rfl⟩
    · refine vcCall_of .nil (awake_spec _) (fun v own' N' hv => ?_); obtain ⟨rfl, rfl, rfl⟩ := hv
      exact ⟨[], _, MT, .nil, fun _ _ _ => trivial, rfl, rfl, rfl⟩
  rcases hs with ⟨hgs, rfl, bs, ss, rfl, rfl, hFs, hps, hks⟩ | ⟨_, rfl, rfl, rfl⟩
  case inr =>
    refine vcCall_of .nil (awake_spec _) (fun v own' N' hv => ?_); obtain ⟨rfl, rfl, rfl⟩ := hv
    exact ⟨[], _, MT, .nil, fun _ _ _ => trivial, rfl, rfl, rfl⟩
  have hoc : outs sc.out = [(0, msg 1 (bodyL rc ac pc parc.2.2))] := congrArg SP.out hpc
  have hbl := bodyL_len (r := rc) hgc
  have htc : totL sc.out ≤ 4100 := by rw [totL_outs, hoc]; simp only [List.map_cons, List.map_nil, List.sum_cons, List.sum_nil, msg_length]; omega
  have hlc : sc.out.length = 1 := by rw [← outs_length, hoc]; rfl
  have hpcl : pc.length ≤ 8 := hgc.2.2.1.2.1
  have hpsl : ps.length ≤ 8 := hgs.2.2.1.2.1
  refine vcCall_of (A := skO bs ss ++ skO bc sc) (Pick.appL (Pick.under (Pick.under Pick.front))) (pass_spec bc bs sc ss cA cc cuts 0 _ (fun w hw => hFs w hw.1.2.2) (Ent.gnG hcu) (Int.le_refl _) (by decide) (by rw [hps]; exact inv_srv hgs) hks (by rw [hps]; show 0 + 0 + totL sc.out ≤ _; omega) (by omega)) (fun v own' N3 hv => ?_)
  obtain ⟨s1, w1, at1, rfl, rfl, hF1, hfd1, hi1, hk1, ha1, hb1, hkl1⟩ := hv
  obtain ⟨c1, hc1⟩ : ∃ x, x = { sc with oA := none, oc := 0, out := [] } := ⟨_, rfl⟩
  rw [← hc1]
  have hpc1 : pu c1 = cli0 rc ac pc parc.2.2 [] := by rw [hc1, pu_out0, hpc]; rfl
  have hkc1 : KOk c1 := by rw [hc1]; exact ⟨hkc.wc⟩
  have hFc1 : ∀ w, SkF sc w → SkF c1 w := fun w h => by rw [hc1]; exact h
  rw [hps, hoc] at hfd1
  refine vcLoad1_row (j := 34) (v := .slice pA pc.length pcc) (xs := cfL false rc ac pA pcc pc parc) (Ent.mem (o := .row b3 26 (cfL false rc ac pA pcc pc parc) 36) (by simp) (fun w hw => Ob.row_at hw)) rfl ?_
  refine vcLoad1_row (j := 34) (v := .slice qA ps.length qcc) (xs := cfL true rs as_ qA qcc ps pars) (Ent.mem (o := .row b4 26 (cfL true rs as_ qA qcc ps pars) 36) (by simp) (fun w hw => Ob.row_at hw)) rfl ?_
  refine vcCall_of .nil (common_spec pA qA pcc qcc pc ps _ (Ent.gnG h1) (Ent.gnG h3) (by omega) (by omega)) (fun v own' N' hv => ?_); obtain ⟨rfl, rfl, rfl⟩ := hv
  have hparse := parse_body (r := rc) hgc
  refine vcIf_split (fun hcm => ?_) (fun hcm => ?_)
  · have hcf : comB pc ps = false := by
      cases h : comB pc ps with
      | false => rfl
      | true => rw [h] at hcm; cases hcm
    have hno : pickP (srv0 rs as_ ps pars.2.2) (bodyL rc ac pc parc.2.2) = none := by rw [pick_any, hparse]; exact hcf
    obtain ⟨rfl, hws⟩ := pass1_no hgc hno hfd1
    have hws1 : s1.ws.length = 2 := hws
    have hwc1 : c1.ws.length = 3 := congrArg (fun s : SP => s.ws.length) hpc1
    have hd1 : ∀ G' : Mp, Ent G' (RowAt (some ⟨bs, 0, none⟩) (skL s1)) → Spec Try.prog 8 #[.pointer (some ⟨bs, 0, none⟩)] [] G' (Ret (.bool false)) := fun G' h => by
      have := done_spec bs s1 G' h
      rw [show decide (s1.ws.length = 0) = false from by rw [hws1]; rfl] at this
      exact this
    have hd2 : ∀ G' : Mp, Ent G' (RowAt (some ⟨bc, 0, none⟩) (skL c1)) → Spec Try.prog 8 #[.pointer (some ⟨bc, 0, none⟩)] [] G' (Ret (.bool false)) := fun G' h => by
      have := done_spec bc c1 G' h
      rw [show decide (c1.ws.length = 0) = false from by rw [hwc1]; rfl] at this
      exact this
    refine vcCall_of .nil (hd1 _ (Ent.mem (o := skR bs s1) (by simp [skO]) (fun w hw => Ob.row_at hw))) (fun v own' N' hv => ?_); obtain ⟨rfl, rfl, rfl⟩ := hv
    refine vcCall_of .nil (hd2 _ (Ent.mem (o := skR bc c1) (by simp [skO]) (fun w hw => Ob.row_at hw))) (fun v own' N' hv => ?_); obtain ⟨rfl, rfl, rfl⟩ := hv
    refine vcCall_of .nil (awake_spec _) (fun v own' N' hv => ?_); obtain ⟨rfl, rfl, rfl⟩ := hv
    exact ⟨[], _, MT, .nil, fun _ _ _ => trivial, rfl, rfl, rfl⟩
  have hct : comB pc ps = true := nb hcm
  obtain ⟨x, hx⟩ : ∃ x, pickP (srv0 rs as_ ps pars.2.2) (bodyL rc ac pc parc.2.2) = some x := by
    cases h : pickP (srv0 rs as_ ps pars.2.2) (bodyL rc ac pc parc.2.2) with
    | some x => exact ⟨x, rfl⟩
    | none => rw [pick_any, hparse] at h; rw [show comB pc ps = false from h] at hct; cases hct
  have hxc : x ∈ pc := by
    have := List.find?_some hx
    rw [hparse] at this
    obtain ⟨y, hy, he⟩ := List.any_eq_true.1 this
    rw [of_decide_eq_true he]; exact hy
  obtain ⟨M, hM⟩ : ∃ M, M = meetOf (msg 1 (bodyL rc ac pc parc.2.2)) rs as_ (powN (pubN (powN 37 ac)) as_) x pars.2.2 := ⟨_, rfl⟩
  obtain ⟨rfl, hps1⟩ := pass1_ok hgc hx hM hfd1
  have hos : outs s1.out = outS rs as_ x pars.2.2 M := congrArg SP.out hps1
  have hfl : M.fin.length = 16 := by rw [hM]; exact prfL_len _ _
  have hcfl : M.cfin.length = 16 := by rw [hM]; exact prfL_len _ _
  have hx32 := (hgc.2.2.1.2.2 x hxc).2
  have hcl := choL_len (x := x) (par := pars.2.2) hx32 hgs.2.2.2
  have hts : totL s1.out ≤ 10000 := by
    rw [totL_outs, hos]
    have := helloL_len rs as_
    simp only [outS, List.map_cons, List.map_nil, List.sum_cons, List.sum_nil, List.length_append, msg_length]
    omega
  have hls : s1.out.length = 2 := by rw [← outs_length, hos]; rfl
  have hkl2 : kl (pu c1) = 0 := by rw [hpc1]; rfl
  refine vcCall_of (A := skO bs s1 ++ skO bc c1) Pick.front ((pass_spec bs bc s1 c1 cA cc cuts at1 _ (fun w hw => hFc1 w (hFc w (((by repeat first | exact Ent.refl | exact Ent.andR Ent.refl | refine Ent.andL ?_) : Ent _ N1) w hw.1.2))) (Ent.gnG hcu) ha1 (by omega) (by rw [hpc1]; exact inv_cli hgc [] (by simp)) hkc1 (by omega) (by omega)).perm List.perm_append_comm) (fun v own' N4 hv => ?_)
  obtain ⟨c2, w2, at2, rfl, rfl, hF2, hfd2, hi2, hk2, ha2, hb2, hkl3⟩ := hv
  obtain ⟨s2, hs2⟩ : ∃ x, x = { s1 with oA := none, oc := 0, out := [] } := ⟨_, rfl⟩
  rw [← hs2]
  rw [hpc1, hos] at hfd2
  obtain ⟨rfl, hpc2⟩ := pass2_ok hgc hgs.1 hxc hgs.2.2.2 hM hfd2
  have hps2 : pu s2 = srv1 rs as_ ps pars.2.2 parc.2.2 x M [] := by rw [hs2, pu_out0, hps1]; rfl
  have hks2 : KOk s2 := by rw [hs2]; exact ⟨hk1.wc⟩
  have hFs2 : ∀ w, SkF s1 w → SkF s2 w := fun w h => by rw [hs2]; exact h
  have hi1' : Inv10 (pu s2) := by rw [hs2, pu_out0]; exact ⟨⟨hi1.ok.priv, hi1.ok.ps, hi1.ok.par, hi1.ok.root, hi1.ok.hc, hi1.ok.hs⟩, hi1.ps, by
    have h := hi1.sz
    have e : szS { pu s1 with out := [] } ≤ szS (pu s1) := by unfold szS; simp only [List.length_nil, List.map_nil, List.sum_nil]; omega
    show szS { pu s1 with out := [] } + 20000 * (pu s1).ws.length ≤ _
    omega, hi1.ws⟩
  have hoc2 : outs c2.out = [(1, msg 20 M.cfin)] := congrArg SP.out hpc2
  have htc2 : totL c2.out ≤ 100 := by rw [totL_outs, hoc2]; simp only [List.map_cons, List.map_nil, List.sum_cons, List.sum_nil, msg_length]; omega
  have hlc2 : c2.out.length = 1 := by rw [← outs_length, hoc2]; rfl
  have hkls2 : kl (pu s2) = 0 := by rw [hps2]; rfl
  refine vcCall_of (A := skO bc c2 ++ skO bs s2) Pick.front ((pass_spec bc bs c2 s2 cA cc cuts at2 _ (fun w hw => hFs2 w (hF1 w ⟨hFs w (((by repeat first | exact Ent.refl | exact Ent.andR Ent.refl | refine Ent.andL ?_) : Ent _ N2) w hw.1.2), ((by repeat first | exact Ent.refl | exact Ent.andR Ent.refl | refine Ent.andL ?_) : Ent _ N3) w hw.1.2⟩)) (Ent.gnG hcu) ha2 (by omega) hi1' hks2 (by omega) (by omega)).perm List.perm_append_comm) (fun v own' N5 hv => ?_)
  obtain ⟨s3, w3, at3, rfl, rfl, hF3, hfd3, hi3, hk3, ha3, hb3, hkl4⟩ := hv
  obtain ⟨c3, hc3⟩ : ∃ x, x = { c2 with oA := none, oc := 0, out := [] } := ⟨_, rfl⟩
  rw [← hc3]
  rw [hps2, hoc2] at hfd3
  obtain ⟨rfl, hps3⟩ := pass3_ok hM hfd3
  have hpc3 : pu c3 = cli3 rc ac pc parc.2.2 pars.2.2 x M [] := by rw [hc3, pu_out0, hpc2]; rfl
  have hFc3 : ∀ w, SkF c2 w → SkF c3 w := fun w h => by rw [hc3]; exact h
  have FC : ∀ {own : List Ob} {N : Mp}, Ent N N1 → Ent N N4 → Ent (GN G own N) (SkF c3) := fun e1 e4 w hw => hFc3 w (hF2 w ⟨hFc1 w (hFc w (e1 w hw.1.2)), e4 w hw.1.2⟩)
  have FS : ∀ {own : List Ob} {N : Mp}, Ent N N2 → Ent N N3 → Ent N N5 → Ent (GN G own N) (SkF s3) := fun e2 e3 e5 w hw => hF3 w ⟨hFs2 w (hF1 w ⟨hFs w (e2 w hw.1.2), e3 w hw.1.2⟩), e5 w hw.1.2⟩
  have hwc3 : c3.ws.length = 0 := congrArg (fun s : SP => s.ws.length) hpc3
  have hws3 : s3.ws.length = 0 := congrArg (fun s : SP => s.ws.length) hps3
  have hd1 : ∀ G' : Mp, Ent G' (RowAt (some ⟨bs, 0, none⟩) (skL s3)) → Spec Try.prog 8 #[.pointer (some ⟨bs, 0, none⟩)] [] G' (Ret (.bool true)) := fun G' h => by
    have := done_spec bs s3 G' h
    rw [show decide (s3.ws.length = 0) = true from by rw [hws3]; rfl] at this
    exact this
  have hd2 : ∀ G' : Mp, Ent G' (RowAt (some ⟨bc, 0, none⟩) (skL c3)) → Spec Try.prog 8 #[.pointer (some ⟨bc, 0, none⟩)] [] G' (Ret (.bool true)) := fun G' h => by
    have := done_spec bc c3 G' h
    rw [show decide (c3.ws.length = 0) = true from by rw [hwc3]; rfl] at this
    exact this
  have hpx1 : c3.proto = x := congrArg SP.proto hpc3
  have hpx2 : s3.proto = x := congrArg SP.proto hps3
  refine vcCall_of .nil (hd2 _ (Ent.mem (o := skR bc c3) (by simp [skO]) (fun w hw => Ob.row_at hw))) (fun v own' N' hv => ?_); obtain ⟨rfl, rfl, rfl⟩ := hv
  refine vcCall_of .nil (hd1 _ (Ent.mem (o := skR bs s3) (by simp [skO]) (fun w hw => Ob.row_at hw))) (fun v own' N' hv => ?_); obtain ⟨rfl, rfl, rfl⟩ := hv
  refine vcCall_of .nil (proto_spec bc c3 _ (Ent.mem (o := skR bc c3) (by simp [skO]) (fun w hw => Ob.row_at hw))) (fun v own' N' hv => ?_); obtain ⟨rfl, rfl, rfl⟩ := hv
  refine vcCall_of .nil (proto_spec bs s3 _ (Ent.mem (o := skR bs s3) (by simp [skO]) (fun w hw => Ob.row_at hw))) (fun v own' N' hv => ?_); obtain ⟨rfl, rfl, rfl⟩ := hv
  refine vcIf_is false (by rw [hpx1, hpx2]; simp) ?_
  obtain ⟨H1, hH1⟩ : ∃ y, y = hcS M.root := ⟨_, rfl⟩
  obtain ⟨H2, hH2⟩ : ∃ y, y = hsS M.root := ⟨_, rfl⟩
  obtain ⟨A1, hA1⟩ : ∃ y, y = secL (appL M.root M.t4) (cLab ++ apLab) := ⟨_, rfl⟩
  obtain ⟨A2, hA2⟩ : ∃ y, y = secL (appL M.root M.t4) (sLab ++ apLab) := ⟨_, rfl⟩
  have hrl : M.root.length = 16 := by rw [hM]; exact rootL_len _ _
  have hapl : (appL M.root M.t4).length = 16 := dig_length _
  have k1 : H1.length = 16 := by rw [hH1]; exact secL_len (by omega) (by decide)
  have k2 : H2.length = 16 := by rw [hH2]; exact secL_len (by omega) (by decide)
  have k3 : A1.length = 16 := by rw [hA1]; exact secL_len (by omega) (by decide)
  have k4 : A2.length = 16 := by rw [hA2]; exact secL_len (by omega) (by decide)
  refine vcCall_of .nil (hand2_spec bc c3 H1 H2 ?_ ?_ ?_ (by omega) (by omega) _ (Ent.mem (o := skR bc c3) (by simp [skO]) (fun w hw => Ob.row_at hw)) (FC (by repeat first | exact Ent.refl | exact Ent.andR Ent.refl | refine Ent.andL ?_) (by repeat first | exact Ent.refl | exact Ent.andR Ent.refl | refine Ent.andL ?_))) (fun v own' N' hv => ?_)
  · rw [hH1]; exact congrArg SP.hc hpc3
  · rw [hH2]; exact congrArg SP.hs hpc3
  · exact congrArg SP.hasH hpc3
  obtain ⟨A5, a5, B5, b5, rfl, rfl, rfl⟩ := hv
  intro r5
  refine ⟨rfl, vcStoreN_row (vs := [.slice A5 H1.length a5, .slice B5 H2.length b5]) _ .here rfl (two_one rfl rfl) ?_⟩
  refine vcCall_of .nil (hand2_spec bs s3 H1 H2 ?_ ?_ ?_ (by omega) (by omega) _ (Ent.mem (o := skR bs s3) (by simp [skO]) (fun w hw => Ob.row_at hw)) (FS (by repeat first | exact Ent.refl | exact Ent.andR Ent.refl | refine Ent.andL ?_) (by repeat first | exact Ent.refl | exact Ent.andR Ent.refl | refine Ent.andL ?_) (by repeat first | exact Ent.refl | exact Ent.andR Ent.refl | refine Ent.andL ?_))) (fun v own' N' hv => ?_)
  · rw [hH1]; exact congrArg SP.hc hps3
  · rw [hH2]; exact congrArg SP.hs hps3
  · exact congrArg SP.hasH hps3
  obtain ⟨A6, a6, B6, b6, rfl, rfl, rfl⟩ := hv
  intro r6
  refine ⟨rfl, vcStoreN_row (vs := [.slice A6 H1.length a6, .slice B6 H2.length b6]) _ .here rfl (two_one rfl rfl) ?_⟩
  refine vcCall_of .nil (app2_spec bc c3 A1 A2 ?_ ?_ ?_ (by omega) (by omega) _ (Ent.mem (o := skR bc c3) (by simp [skO]) (fun w hw => Ob.row_at hw)) (FC (by repeat first | exact Ent.refl | exact Ent.andR Ent.refl | refine Ent.andL ?_) (by repeat first | exact Ent.refl | exact Ent.andR Ent.refl | refine Ent.andL ?_))) (fun v own' N' hv => ?_)
  · rw [hA1]; exact congrArg SP.ac hpc3
  · rw [hA2]; exact congrArg SP.as_ hpc3
  · exact congrArg SP.hasA hpc3
  obtain ⟨A7, a7, B7, b7, rfl, rfl, rfl⟩ := hv
  intro r7
  refine ⟨rfl, vcStoreN_row (vs := [.slice A7 A1.length a7, .slice B7 A2.length b7]) _ .here rfl (two_one rfl rfl) ?_⟩
  refine vcCall_of .nil (app2_spec bs s3 A1 A2 ?_ ?_ ?_ (by omega) (by omega) _ (Ent.mem (o := skR bs s3) (by simp [skO]) (fun w hw => Ob.row_at hw)) (FS (by repeat first | exact Ent.refl | exact Ent.andR Ent.refl | refine Ent.andL ?_) (by repeat first | exact Ent.refl | exact Ent.andR Ent.refl | refine Ent.andL ?_) (by repeat first | exact Ent.refl | exact Ent.andR Ent.refl | refine Ent.andL ?_))) (fun v own' N' hv => ?_)
  · rw [hA1]; exact congrArg SP.ac hps3
  · rw [hA2]; exact congrArg SP.as_ hps3
  · exact congrArg SP.hasA hps3
  obtain ⟨A8, a8, B8, b8, rfl, rfl, rfl⟩ := hv
  intro r8
  refine ⟨rfl, vcStoreN_row (vs := [.slice A8 A1.length a8, .slice B8 A2.length b8]) _ .here rfl (two_one rfl rfl) ?_⟩
  refine vcLoad1_row (j := 0) (v := .slice A5 H1.length a5) (xs := [.slice A5 H1.length a5, .slice B5 H2.length b5]) (Ent.mem (o := .row r5 44 [.slice A5 H1.length a5, .slice B5 H2.length b5] 2) (by simp) (fun w hw => Ob.row_at hw)) rfl ?_
  refine vcLoad1_row (j := 0) (v := .slice A6 H1.length a6) (xs := [.slice A6 H1.length a6, .slice B6 H2.length b6]) (Ent.mem (o := .row r6 44 [.slice A6 H1.length a6, .slice B6 H2.length b6] 2) (by simp) (fun w hw => Ob.row_at hw)) rfl ?_
  refine vcCall_of .nil (same_spec A5 A6 a5 a6 H1 H1 _ (Ent.mem (o := pO (A5, a5, H1)) (by simp) (fun w hw => Ob.sl_at hw)) (Ent.mem (o := pO (A6, a6, H1)) (by simp) (fun w hw => Ob.sl_at hw)) (by omega)) (fun v own' N' hv => ?_); obtain ⟨rfl, rfl, rfl⟩ := hv
  refine vcIf_nno rfl ?_
  refine vcLoad1_row (j := 1) (v := .slice B5 H2.length b5) (xs := [.slice A5 H1.length a5, .slice B5 H2.length b5]) (Ent.mem (o := .row r5 44 [.slice A5 H1.length a5, .slice B5 H2.length b5] 2) (by simp) (fun w hw => Ob.row_at hw)) rfl ?_
  refine vcLoad1_row (j := 1) (v := .slice B6 H2.length b6) (xs := [.slice A6 H1.length a6, .slice B6 H2.length b6]) (Ent.mem (o := .row r6 44 [.slice A6 H1.length a6, .slice B6 H2.length b6] 2) (by simp) (fun w hw => Ob.row_at hw)) rfl ?_
  refine vcCall_of .nil (same_spec B5 B6 b5 b6 H2 H2 _ (Ent.mem (o := pO (B5, b5, H2)) (by simp) (fun w hw => Ob.sl_at hw)) (Ent.mem (o := pO (B6, b6, H2)) (by simp) (fun w hw => Ob.sl_at hw)) (by omega)) (fun v own' N' hv => ?_); obtain ⟨rfl, rfl, rfl⟩ := hv
  refine vcIf_nno rfl ?_
  refine vcLoad1_row (j := 0) (v := .slice A7 A1.length a7) (xs := [.slice A7 A1.length a7, .slice B7 A2.length b7]) (Ent.mem (o := .row r7 44 [.slice A7 A1.length a7, .slice B7 A2.length b7] 2) (by simp) (fun w hw => Ob.row_at hw)) rfl ?_
  refine vcLoad1_row (j := 0) (v := .slice A8 A1.length a8) (xs := [.slice A8 A1.length a8, .slice B8 A2.length b8]) (Ent.mem (o := .row r8 44 [.slice A8 A1.length a8, .slice B8 A2.length b8] 2) (by simp) (fun w hw => Ob.row_at hw)) rfl ?_
  refine vcCall_of .nil (same_spec A7 A8 a7 a8 A1 A1 _ (Ent.mem (o := pO (A7, a7, A1)) (by simp) (fun w hw => Ob.sl_at hw)) (Ent.mem (o := pO (A8, a8, A1)) (by simp) (fun w hw => Ob.sl_at hw)) (by omega)) (fun v own' N' hv => ?_); obtain ⟨rfl, rfl, rfl⟩ := hv
  refine vcIf_nno rfl ?_
  refine vcLoad1_row (j := 1) (v := .slice B7 A2.length b7) (xs := [.slice A7 A1.length a7, .slice B7 A2.length b7]) (Ent.mem (o := .row r7 44 [.slice A7 A1.length a7, .slice B7 A2.length b7] 2) (by simp) (fun w hw => Ob.row_at hw)) rfl ?_
  refine vcLoad1_row (j := 1) (v := .slice B8 A2.length b8) (xs := [.slice A8 A1.length a8, .slice B8 A2.length b8]) (Ent.mem (o := .row r8 44 [.slice A8 A1.length a8, .slice B8 A2.length b8] 2) (by simp) (fun w hw => Ob.row_at hw)) rfl ?_
  refine vcCall_of .nil (same_spec B7 B8 b7 b8 A2 A2 _ (Ent.mem (o := pO (B7, b7, A2)) (by simp) (fun w hw => Ob.sl_at hw)) (Ent.mem (o := pO (B8, b8, A2)) (by simp) (fun w hw => Ob.sl_at hw)) (by omega)) (fun v own' N' hv => ?_); obtain ⟨rfl, rfl, rfl⟩ := hv
  refine vcIf_nno rfl ?_
  have hpeC : (pu c3).peer = pars.2.2 := congrArg SP.peer hpc3
  have hpeS : (pu s3).peer = parc.2.2 := congrArg SP.peer hps3
  have hMo : ∀ (own : List Ob) (N : Mp), Ob.row b3 26 (cfL false rc ac pA pcc pc parc) 36 ∈ own → Ob.row b4 26 (cfL true rs as_ qA qcc ps pars) 36 ∈ own → Ent (GN G own N) (MpAnd (RowAt (some ⟨b3, 0, none⟩) (cfL false rc ac pA pcc pc parc)) (RowAt (some ⟨b4, 0, none⟩) (cfL true rs as_ qA qcc ps pars))) :=
    fun own N m1 m2 => Ent.both (Ent.mem m1 (fun w hw => Ob.row_at hw)) (Ent.mem m2 (fun w hw => Ob.row_at hw))
  refine vcDraw_mix [0,2,3,1,4,5,6,8,9,7,10,11,12,13,16,17,14,15,18,19,20,21,22,23] (MpAnd (RowAt (some ⟨b3, 0, none⟩) (cfL false rc ac pA pcc pc parc)) (RowAt (some ⟨b4, 0, none⟩) (cfL true rs as_ qA qcc ps pars))) (by kernel_rfl) (hMo _ _ (by simp) (by simp)) ?_
  refine vcLoad1_row (j := 35) (v := pieceV pars) (fun w hw => hw.2) rfl ?_
  have lpc : parc.2.2.length ≤ 1024 := hgc.2.2.2
  have lps : pars.2.2.length ≤ 1024 := hgs.2.2.2
  refine vcCall_of .nil (peer2_spec bc c3 pars.2.2 hpeC (by omega) _ (Ent.mem (o := skR bc c3) (by simp [skO]) (fun w hw => Ob.row_at hw)) (FC (by repeat first | exact Ent.refl | exact Ent.andR Ent.refl | refine Ent.andL ?_) (by repeat first | exact Ent.refl | exact Ent.andR Ent.refl | refine Ent.andL ?_))) (fun v own' N' hv => ?_)
  obtain ⟨A9, a9, rfl, rfl, rfl, ha9⟩ := hv
  refine vcMix_same (hMo _ _ (by simp) (by simp)) ?_
  refine vcCall_of .nil (same_spec A9 pars.1 a9 pars.2.1 pars.2.2 pars.2.2 _ (Ent.gnO .here (fun w hw => Ob.sl_at hw)) (Ent.gnG h4) (by omega)) (fun v own' N' hv => ?_); obtain ⟨rfl, rfl, rfl⟩ := hv
  refine vcMix_same (hMo _ _ (by simp) (by simp)) ?_
  refine vcIf_yes rfl ?_
  refine vcLoad1_row (j := 35) (v := pieceV parc) (fun w hw => hw.1) rfl ?_
  refine vcCall_of .nil (peer2_spec bs s3 parc.2.2 hpeS (by omega) _ (Ent.mem (o := skR bs s3) (by simp [skO]) (fun w hw => Ob.row_at hw)) (FS (by repeat first | exact Ent.refl | exact Ent.andR Ent.refl | refine Ent.andL ?_) (by repeat first | exact Ent.refl | exact Ent.andR Ent.refl | refine Ent.andL ?_) (by repeat first | exact Ent.refl | exact Ent.andR Ent.refl | refine Ent.andL ?_))) (fun v own' N' hv => ?_)
  obtain ⟨A10, a10, rfl, rfl, rfl, ha10⟩ := hv
  refine vcMix_same (hMo _ _ (by simp) (by simp)) ?_
  refine vcCall_of .nil (same_spec A10 parc.1 a10 parc.2.1 parc.2.2 parc.2.2 _ (Ent.gnO .here (fun w hw => Ob.sl_at hw)) (Ent.gnG h2) (by omega)) (fun v own' N' hv => ?_); obtain ⟨rfl, rfl, rfl⟩ := hv
  refine vcMix_same (hMo _ _ (by simp) (by simp)) ?_
  refine vcIf_yes rfl ?_
  refine vcLoad1_row (j := 34) (v := .slice pA pc.length pcc) (fun w hw => hw.1) rfl ?_
  refine vcCall_of .nil (proto_spec bc c3 _ (Ent.mem (o := skR bc c3) (by simp [skO]) (fun w hw => Ob.row_at hw))) (fun v own' N' hv => ?_); obtain ⟨rfl, rfl, rfl⟩ := hv
  refine vcMix_same (hMo _ _ (by simp) (by simp)) ?_
  intro b11
  refine vcMix_same (hMo _ _ (by simp) (by simp)) ?_
  have hcb : comB [c3.proto] pc = true := by
    rw [hpx1]
    exact List.any_eq_true.2 ⟨x, by simp, List.any_eq_true.2 ⟨x, hxc, decide_eq_true rfl⟩⟩
  have hcs := fun G' k1 k2 => common_spec (some ⟨b11, 0, none⟩) pA 1 pcc [c3.proto] pc G' k1 k2 (by simp) (by omega)
  rw [hcb] at hcs
  refine vcCall_of .nil (hcs _ (Ent.gnO .here (fun w hw => Ob.sl_at hw)) (Ent.gnG h1)) (fun v own' N' hv => ?_); obtain ⟨rfl, rfl, rfl⟩ := hv
  refine vcMix_same (hMo _ _ (by simp) (by simp)) ?_
  refine vcCall_of .nil (awake_spec _) (fun v own' N' hv => ?_); obtain ⟨rfl, rfl, rfl⟩ := hv
  refine vcMix_same (hMo _ _ (by simp) (by simp)) ?_
  exact ⟨[], _, MT, .nil, fun _ _ _ => trivial, rfl, rfl, rfl⟩
end Go.Proofs.Yticllmnblcjjcaa
end

section
/- ShakeMeets is true of every input; no condition. -/
namespace Go.Proofs.Yticllmnblcjjcaa
open Go.ChangeShapes Go.WideShapes Go.ChangeAt Go.RowKit

set_option maxRecDepth 100000 in
set_option maxHeartbeats 2000000 in
theorem shakeMeetsLifted (os : Os) (started : os.Started) (H : Type) (enc : TypeId × Value → H) :
    ReturnsInHanded {} Try.checked os 4 .any (Rows.shakeMeetsSpec.pre6 enc Try.prog Try.f4 Rows.shakeMeetsRow.domain false) (Rows.shakeMeetsSpec.post enc Try.prog Try.f4 false true false false) := by
  refine returnsInHanded_of_change_sized (C := Try.checked) ownK started (by kernel_rfl) Try.func4
    (ChangeSpec.witness6 (enc := enc) (C := Try.checked) false ⟨#[], #[.agg #[.bool false, .int .u8 0, .int .u8 0, .int .u8 0, .int .u8 0, .int .u8 0, .int .u8 0, .int .u8 0, .int .u8 0, .int .u8 0, .int .u8 0, .int .u8 0, .int .u8 0, .int .u8 0, .int .u8 0, .int .u8 0, .int .u8 0, .int .u8 0, .int .u8 0, .int .u8 0, .int .u8 0, .int .u8 0, .int .u8 0, .int .u8 0, .int .u8 0, .int .u8 0, .int .u8 0, .int .u8 0, .int .u8 0, .int .u8 0, .int .u8 0, .int .u8 0, .int .u8 0, .int .i64 0, .slice none 0 0, .slice none 0 0], .agg #[.bool false, .int .u8 0, .int .u8 0, .int .u8 0, .int .u8 0, .int .u8 0, .int .u8 0, .int .u8 0, .int .u8 0, .int .u8 0, .int .u8 0, .int .u8 0, .int .u8 0, .int .u8 0, .int .u8 0, .int .u8 0, .int .u8 0, .int .u8 0, .int .u8 0, .int .u8 0, .int .u8 0, .int .u8 0, .int .u8 0, .int .u8 0, .int .u8 0, .int .u8 0, .int .u8 0, .int .u8 0, .int .u8 0, .int .u8 0, .int .u8 0, .int .u8 0, .int .u8 0, .int .i64 0, .slice none 0 0, .slice none 0 0], .slice none 0 0], []⟩ 8 (by kernel_rfl) (by kernel_rfl) (by kernel_rfl) (by kernel_rfl)) ?_
  intro W base args ds gs before hval0 hW hcnd hsz0 _
  have hsz : (DataW.weightsEach Try.prog (Try.f4.params.toList ++ Rows.shakeMeetsSpec.plain.varTypes Try.prog) (ds ++ gs)).all (· ≤ reachBytes) = true := hsz0
  have hval : ∀ (j : Nat) t v, Try.f4.params[j]? = some t → args[j]? = some v → Value.okWide Try.prog W .any base t v := hval0
  have hW' := hW
  obtain ⟨p, q, hA0, hV, rfl, hfz, hnd⟩ := hW
  have hA : DataW.TrodAll enc Try.prog W 0 (fun _ => true) true Try.f4.params.toList args.toList ds p := hA0
  rw [Try.params4] at hA hval hsz
  obtain ⟨v0, vs0, d0, ds0, p0, q0, hargs, rfl, rfl, h0, r0⟩ := trodAll_cons hA
  obtain ⟨v1, vs1, d1, ds1, p1, q1, rfl, rfl, rfl, h1, r1⟩ := trodAll_cons r0
  obtain ⟨v2, vs2, d2, ds2, p2, q2, rfl, rfl, rfl, h2, r2⟩ := trodAll_cons r1
  obtain ⟨rfl, rfl, rfl⟩ := trodAll_nil r2
  obtain rfl : args = #[v0, v1, v2] := by cases args; simp_all
  obtain ⟨rfl, rfl⟩ := trodVars_none hV
  clear hA0 hval0 hsz0
  have lt0 : ∀ x ∈ p0, x.block < W.heap.size := by obtain ⟨m, hm⟩ := h0; exact DataW.trod_lt m _ _ _ hm
  have D0 := Dec.struct Try.underlying26 rfl (DecF.cons (k := 1) (m := 35) (Dec.bool Try.underlying4 (by kernel_rfl)) rfl (by kernel_rfl) (DecF.cons (k := 32) (m := 3) (Dec.arr32 Try.underlying5 (by kernel_rfl) Try.underlying22 (by kernel_rfl)) rfl (by kernel_rfl) (DecF.cons (k := 1) (m := 2) (Dec.i64 Try.underlying3 (by kernel_rfl)) rfl (by kernel_rfl) (DecF.cons (k := 1) (m := 1) (Dec.sliceB (k := 16) (Dec.str Try.underlying9 (by kernel_rfl)) Try.underlying23 (by kernel_rfl) (by kernel_rfl)) rfl (by kernel_rfl) (DecF.one (n := 1) (Dec.bytes Try.underlying5 (by kernel_rfl) (by kernel_rfl) Try.underlying24 (by kernel_rfl)) rfl (by kernel_rfl)) rfl) rfl) rfl) rfl)
  obtain ⟨⟨x0, z0, y0, ⟨A3, c3, b3⟩, ⟨A4, c4, b4⟩⟩, e0, ok0, m0⟩ := D0.arg h0 hsz (j := 0) rfl rfl
  have fr0 := fun w' hf => D0.fr (x0, z0, y0, (A3, c3, b3), (A4, c4, b4)) W w' m0 hf
  obtain rfl := val_agg e0 (okWide_agg (hval 0 _ _ rfl rfl) (by kernel_rfl))
  try simp only at ok0 m0
  have lt1 : ∀ x ∈ p1, x.block < W.heap.size := by obtain ⟨m, hm⟩ := h1; exact DataW.trod_lt m _ _ _ hm
  have D1 := Dec.struct Try.underlying26 rfl (DecF.cons (k := 1) (m := 35) (Dec.bool Try.underlying4 (by kernel_rfl)) rfl (by kernel_rfl) (DecF.cons (k := 32) (m := 3) (Dec.arr32 Try.underlying5 (by kernel_rfl) Try.underlying22 (by kernel_rfl)) rfl (by kernel_rfl) (DecF.cons (k := 1) (m := 2) (Dec.i64 Try.underlying3 (by kernel_rfl)) rfl (by kernel_rfl) (DecF.cons (k := 1) (m := 1) (Dec.sliceB (k := 16) (Dec.str Try.underlying9 (by kernel_rfl)) Try.underlying23 (by kernel_rfl) (by kernel_rfl)) rfl (by kernel_rfl) (DecF.one (n := 1) (Dec.bytes Try.underlying5 (by kernel_rfl) (by kernel_rfl) Try.underlying24 (by kernel_rfl)) rfl (by kernel_rfl)) rfl) rfl) rfl) rfl)
  obtain ⟨⟨x1, z1, y1, ⟨A5, c5, b5⟩, ⟨A6, c6, b6⟩⟩, e1, ok1, m1⟩ := D1.arg h1 hsz (j := 1) rfl rfl
  have fr1 := fun w' hf => D1.fr (x1, z1, y1, (A5, c5, b5), (A6, c6, b6)) W w' m1 hf
  obtain rfl := val_agg e1 (okWide_agg (hval 1 _ _ rfl rfl) (by kernel_rfl))
  try simp only at ok1 m1
  have lt2 : ∀ x ∈ p2, x.block < W.heap.size := by obtain ⟨m, hm⟩ := h2; exact DataW.trod_lt m _ _ _ hm
  have D2 := Dec.sliceB (k := 8) (Dec.i64 Try.underlying3 (by kernel_rfl)) Try.underlying34 (by kernel_rfl) (by kernel_rfl)
  obtain ⟨⟨A2, c2, b2⟩, e2, ok2, m2⟩ := D2.arg h2 hsz (j := 2) rfl rfl
  have fr2 := fun w' hf => D2.fr (A2, c2, b2) W w' m2 hf
  obtain rfl := val_one e2 (okWide_one (hval 2 _ _ rfl rfl) (by kernel_rfl))
  try simp only at ok2 m2
  clear hval hsz
  refine ((meets_spec x0 x1 z0 z1 y0 y1 A3 c3 b3 (A4, c4, b4) A5 c5 b5 (A6, c6, b6) A2 c2 b2 (fun w => (MT w ∧ MT w ∧ MT w ∧ (RowAt A3 (b3.flatMap fun s => [.string s]) w ∧ ∀ x ∈ b3, MT w) ∧ RowAt A4 (Bs b4) w) ∧ (MT w ∧ MT w ∧ MT w ∧ (RowAt A5 (b5.flatMap fun s => [.string s]) w ∧ ∀ x ∈ b5, MT w) ∧ RowAt A6 (Bs b6) w) ∧ (RowAt A2 (b2.flatMap fun n => [.int .i64 n]) w ∧ ∀ x ∈ b2, MT w)) (fun _ h => flat_st b3 ▸ h.1.2.2.2.1.1) (fun _ h => h.1.2.2.2.2) (fun _ h => flat_st b5 ▸ h.2.1.2.2.2.1.1) (fun _ h => h.2.1.2.2.2.2) (fun _ h => flat_in b2 ▸ h.2.2.1) (by have := ok0.2.2.2.1; omega) (by have := ok0.2.2.2.2; simp only; omega) (by have := ok1.2.2.2.1; omega) (by have := ok1.2.2.2.2; simp only; omega)).law W (fun w' hf => ⟨fr0 w' hf, ⟨fr1 w' hf, fr2 w' hf⟩⟩)).mono fun e W' ⟨he, bel⟩ => ?_
  subst he
  exact ⟨_, rfl, _, _, _, [], _, [], hW', trodAll_mk1 (shut_bool Try.underlying4 _), (trodAll_cons_mk (Below.trod laidOutK (by kernel_rfl) (of_decide_eq_true (by kernel_rfl)) h0 bel lt0) (trodAll_cons_mk (Below.trod laidOutK (by kernel_rfl) (of_decide_eq_true (by kernel_rfl)) h1 bel lt1) (trodAll_cons_mk (Below.trod laidOutK (by kernel_rfl) (of_decide_eq_true (by kernel_rfl)) h2 bel lt2) trodAll_mk0))), rfl, bel.frame _, fun h => by cases h⟩

theorem shakeMeetsOver : Rows.shakeMeetsRow.holds Try.pinned (OpenSpec.ofChange Rows.shakeMeetsSpec) :=
  OpenClaim.holds_of_wide 4 Try.f4 rfl rfl rfl rfl rfl rfl rfl ⟨rfl, rfl, rfl, rfl, rfl⟩ rfl rfl rfl rfl rfl (by kernel_rfl) Try.func4 (by kernel_rfl)
    (of_decide_eq_true (by kernel_rfl)) (by unfold Func.isWrapper; first | (rw [if_pos (by decide +kernel)]; kernel_rfl) | (rw [if_neg (by decide +kernel)]; exact ⟨rfl, rfl⟩))
    (fun os started H enc _ => shakeMeetsLifted os started H enc)

/-- The statement. -/
theorem shakeMeetsProved : Rows.ShakeMeetsSaid := shakeMeetsOver
#print axioms shakeMeetsProved
end Go.Proofs.Yticllmnblcjjcaa
end
