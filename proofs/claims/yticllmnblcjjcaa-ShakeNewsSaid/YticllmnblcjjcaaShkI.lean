/- Layer 10: the law's rest, walked. -/
import Derived.Test.YticllmnblcjjcaaShkH
namespace Go.Proofs.Yticllmnblcjjcaa
open Go.Proofs
set_option maxRecDepth 10000

theorem shp_get {l m : List Fl} (h : shp l = shp m) {i : Nat} (hl : i < l.length) (hm : i < m.length) : l[i].1 = m[i].1 ∧ l[i].2.1 = m[i].2.1 ∧ l[i].2.2.1 = m[i].2.2.1 ∧ l[i].2.2.2.length = m[i].2.2.2.length := by
  have h1 : (shp l)[i]? = (shp m)[i]? := by rw [h]
  simp only [shp, List.getElem?_map, List.getElem?_eq_getElem hl, List.getElem?_eq_getElem hm, Option.map_some, Option.some.injEq, Prod.mk.injEq] at h1
  exact h1
theorem shp_len {l m : List Fl} (h : shp l = shp m) : l.length = m.length := by
  have := congrArg List.length h
  simpa only [shp, List.length_map] using this
theorem outs_get {l m : List Fl} (h : outs l = outs m) {i : Nat} (hl : i < l.length) (hm : i < m.length) : l[i].1 = m[i].1 ∧ l[i].2.2.2 = m[i].2.2.2 := by
  have h1 : (outs l)[i]? = (outs m)[i]? := by rw [h]
  simp only [outs, List.getElem?_map, List.getElem?_eq_getElem hl, List.getElem?_eq_getElem hm, Option.map_some, Option.some.injEq, Prod.mk.injEq] at h1
  exact h1
theorem flO_mem {l : List Fl} {i : Nat} (h : i < l.length) : pO l[i].2 ∈ flO l := List.mem_map_of_mem (f := fun f : Fl => pO f.2) (List.getElem_mem h)
theorem row0 {A : Option Addr} {w : World} : RowAt A (Bs []) w := fun i u h => by cases i <;> cases h
def sk1 (server : Bool) (r : Nat → UInt8) (priv : Int) (pA : Option Addr) (pc : Nat) (ps : List ByteArray) (par : Piece) (wA : Option Addr) (wc : Nat) (ws : List Wn) (said : Piece) (oA : Option Addr) (oc : Nat) (out : List Fl) : Sk :=
  { sk0 server r priv pA pc ps par wA wc ws with said := said, oA := oA, oc := oc, out := out }
set_option maxHeartbeats 1000000 in
theorem rest_spec (b d : Nat) (server : Bool) (r : Nat → UInt8) (priv : Int) (pA : Option Addr) (pc : Nat) (ps : List ByteArray) (par : Piece) (wA : Option Addr) (wc : Nat) (ws : List Wn) (said : Piece) (oA : Option Addr) (oc : Nat) (out : List Fl)
    (rA : Option Addr) (rc : Nat) (pA' : Option Addr) (pc' : Nat) (ps' : List ByteArray) (par' : Piece) (sA : Option Addr) (sc : Nat) (lA : Option Addr) (lc : Nat) (dA : Option Addr) (dc : Nat) (n : Nat) (fd : List Fl) (G : Mp)
    (hF : Ent G (FdF lA dA fd)) (hn : n < 2) (hws : ws.length ≠ 0) (ho : outs out = outs fd) (hlen : out.length ≤ 1000) (hod : ∀ f ∈ out, f.2.2.2.length ≤ 1099511627776) :
    Spec Try.prog 7 #[.pointer (some ⟨b, 0, none⟩), .pointer (some ⟨d, 0, none⟩)] (sdR d server rA rc priv pA' pc' ps' par' sA sc lA lc dA dc n fd.length :: skO b (sk1 server r priv pA pc ps par wA wc ws said oA oc out)) G
      (fun v own N => v = .bool true ∧ own = [skR b (sk1 server r priv pA pc ps par wA wc ws said none 0 [])] ∧ N = MT) := by
  refine Spec.intro (args := [_, _]) wide Try.func7 rfl Try.call7 (by rfl) (by rfl) (fun w0 hw0 => ?_)
  refine vcCall_of (A := skO b (sk1 server r priv pA pc ps par wA wc ws said oA oc out)) Pick.whole.under (out_spec b _ _) (fun v own' N' hv => ?_)
  obtain ⟨rfl, rfl, rfl⟩ := hv
  have hfl : out.length = fd.length := by have := congrArg List.length ho; simpa [outs] using this
  refine vcLoad1_row (j := 10) (v := .slice dA fd.length dc) (xs := sdL server rA rc priv pA' pc' ps' par' sA sc lA lc dA dc n fd.length) (Ent.mem (o := sdR d server rA rc priv pA' pc' ps' par' sA sc lA lc dA dc n fd.length) (by simp) (fun w hw => Ob.row_at hw)) rfl ?_
  refine vcIf_ndec (fun hne => ?_) (fun _ => ?_)
  · have h9 : (out.length : Int) = (fd.length : Int) := by omega
    exact absurd h9 hne
  obtain ⟨s1, hs1⟩ : ∃ s1, s1 = sk1 server r priv pA pc ps par wA wc ws said none 0 [] := ⟨_, rfl⟩
  obtain ⟨dr, hdr⟩ : ∃ dr, dr = sdR d server rA rc priv pA' pc' ps' par' sA sc lA lc dA dc n fd.length := ⟨_, rfl⟩
  refine vcLoop_of (fun g : Nat × List Fl => out.length - g.1) (fun g => [(0, .pointer (some ⟨b, 0, none⟩)), (1, .pointer (some ⟨d, 0, none⟩)), (5, .slice oA out.length oc), (28, .int .i64 out.length), (29, .int .i64 g.1)])
    (fun g => skR b s1 :: dr :: .sl oA oc 56 2 (flL out) :: flO g.2) (fun _ => MT) (fun g => g.1 ≤ out.length ∧ shp g.2 = shp out ∧ g.2.drop g.1 = out.drop g.1)
    (0, out) ⟨Nat.zero_le _, rfl, rfl⟩ ⟨rfl, rfl, rfl, rfl, rfl, trivial⟩ ?_ (fun _ _ => trivial) ?_
  · subst hs1; subst hdr
    have hperm : (skR b (sk1 server r priv pA pc ps par wA wc ws said none 0 []) :: sdR d server rA rc priv pA' pc' ps' par' sA sc lA lc dA dc n fd.length :: (.sl oA oc 56 2 (flL out) :: flO out ++ [pO nilP, pO nilP, pO said, .sl none 0 56 2 []])).Perm
        (skR b (sk1 server r priv pA pc ps par wA wc ws said none 0 []) :: ([pO nilP, pO nilP, pO said, .sl none 0 56 2 []] ++ .sl oA oc 56 2 (flL out) :: flO out ++ [sdR d server rA rc priv pA' pc' ps' par' sA sc lA lc dA dc n fd.length])) := by
      refine List.Perm.cons _ (List.Perm.trans ?_ List.perm_append_comm)
      exact List.Perm.cons _ List.perm_append_comm
    obtain ⟨r', h, _⟩ := Pick.perm (s := skR b (sk1 server r priv pA pc ps par wA wc ws said none 0 []) :: sdR d server rA rc priv pA' pc' ps' par' sA sc lA lc dA dc n fd.length :: .sl oA oc 56 2 (flL out) :: flO out)
      (r := [pO nilP, pO nilP, pO said, .sl none 0 56 2 []]) hperm
    exact ⟨_, h⟩
  rintro ⟨i, out'⟩ ⟨hi, hsh, hdp⟩
  simp only at hi hsh hdp
  have hol := shp_len hsh
  refine vcIf_dec (fun hlt => ?_) (fun hge => ?_)
  · have hi' : i < out.length := by have h9 : (i : Int) < (out.length : Int) := hlt; omega
    have hgi : out'[i]'(by omega) = out[i] := by
      have h1 : (out'.drop i)[0]? = (out.drop i)[0]? := by rw [hdp]
      rw [List.getElem?_drop, List.getElem?_drop, Nat.add_zero, List.getElem?_eq_getElem (by omega), List.getElem?_eq_getElem hi'] at h1
      exact Option.some.inj h1
    obtain ⟨hlv, hby⟩ := outs_get ho hi' (by omega : i < fd.length)
    have hFl : ∀ {own : List Ob} {N : Mp}, Ent (GN G own N) (RowAt lA (lvL fd)) := Ent.gnG (fun w hw => (hF w hw).1)
    have hFo : ∀ {own : List Ob} {N : Mp}, Ent (GN G own N) (RowAt dA (odL fd)) := Ent.gnG (fun w hw => (hF w hw).2.1)
    refine vcDraw_mix [0,1,2,3,4,5,6,7,8,9,10,11,12,13,14,15,16,17,18,19,20,21,22,23,24,25,26,27,28] (GN _ _ _) (by kernel_rfl) Ent.refl ?_
    refine vcIdx_nats (s := 2) i rfl (Ent.gnO (.there (.there .here)) (fun w hw => Ob.sl_at hw)) hi' (by rw [flL_len]; exact Nat.le_refl _) (by omega) (fun a ha => ?_)
    refine vcLoad1_2 (xs := flL out) (v := .int .i64 out[i].1) (Ent.gnO (o := .sl oA oc 56 2 (flL out)) (.there (.there .here)) (fun w hw => by rw [← ha]; exact Ob.sl_at hw)) (flL_get0 hi') ?_
    refine vcLoad1_row (j := 9) (v := .slice lA fd.length lc) (xs := sdL server rA rc priv pA' pc' ps' par' sA sc lA lc dA dc n fd.length) (Ent.gnO (.there .here) (fun w hw => by rw [hdr] at hw; exact Ob.row_at hw)) rfl ?_
    refine vcIdx_nat i rfl hFl (by omega) (by simp [lvL]) (fun a1 ha1 => ?_)
    refine vcLoad1_row (xs := lvL fd) (v := .int .i64 (fd[i]'(by omega)).1) (Ent.gnG (fun w hw => by rw [← ha1]; exact (hF w hw).1)) (by simp [lvL, show i < fd.length from by omega]) ?_
    refine vcIf_ndec (fun hne => ?_) (fun _ => ?_)
    · exact absurd hlv hne
    refine vcIdx_nats (s := 2) i rfl (Ent.gnO (.there (.there .here)) (fun w hw => Ob.sl_at hw)) hi' (by rw [flL_len]; exact Nat.le_refl _) (by omega) (fun a2 ha2 => ?_)
    obtain rfl : a2 = a := by rw [ha] at ha2; cases ha2; rfl
    refine vcLoad1_2 (xs := flL out) (v := pieceV out[i].2) (Ent.gnO (o := .sl oA oc 56 2 (flL out)) (.there (.there .here)) (fun w hw => by rw [← ha]; exact Ob.sl_at hw)) (flL_get1 hi') ?_
    refine vcLoad1_row (j := 10) (v := .slice dA fd.length dc) (xs := sdL server rA rc priv pA' pc' ps' par' sA sc lA lc dA dc n fd.length) (Ent.gnO (.there .here) (fun w hw => by rw [hdr] at hw; exact Ob.row_at hw)) rfl ?_
    refine vcIdx_nat i rfl hFo (by omega) (by simp [odL]) (fun a3 ha3 => ?_)
    refine vcLoad1_row (xs := odL fd) (v := pieceV (fd[i]'(by omega)).2) (Ent.gnG (fun w hw => by rw [← ha3]; exact (hF w hw).2.1)) (by simp [odL, show i < fd.length from by omega]) ?_
    refine vcCall_of .nil (same_spec out[i].2.1 (fd[i]'(by omega)).2.1 out[i].2.2.1 (fd[i]'(by omega)).2.2.1 out[i].2.2.2 (fd[i]'(by omega)).2.2.2 _ (Ent.mem (o := pO out[i].2) (by rw [← hgi]; exact .tail _ (.tail _ (.tail _ (flO_mem _)))) (fun w hw => Ob.sl_at hw)) (Ent.gnG (fun w hw => (hF w hw).2.2 _ (List.getElem_mem _))) (by have := hod _ (List.getElem_mem hi'); omega)) (fun v own' N' hv => ?_)
    obtain ⟨rfl, rfl, rfl⟩ := hv
    refine vcMix_last (by kernel_rfl) ?_
    refine vcIf_ndec (fun hne => ?_) (fun _ => ?_)
    · exact absurd hby hne
    refine vcIdx_nats (s := 2) i rfl (Ent.gnO (.there (.there .here)) (fun w hw => Ob.sl_at hw)) hi' (by rw [flL_len]; exact Nat.le_refl _) (by omega) (fun a2 ha2 => ?_)
    cases ha.symm.trans ha2
    refine vcLoad1_2 (xs := flL out) (v := pieceV out[i].2) (Ent.gnO (o := .sl oA oc 56 2 (flL out)) (.there (.there .here)) (fun w hw => by rw [← ha]; exact Ob.sl_at hw)) (flL_get1 hi') ?_
    refine vcLoop_of (fun g : Nat × List Fl => out[i].2.2.2.length - g.1) (fun g => [(0, .pointer (some ⟨b, 0, none⟩)), (1, .pointer (some ⟨d, 0, none⟩)), (5, .slice oA out.length oc), (28, .int .i64 out.length), (29, .int .i64 i), (6, .int .i64 i), (66, .int .i64 out[i].2.2.2.length), (67, .int .i64 g.1)])
      (fun g => skR b s1 :: dr :: .sl oA oc 56 2 (flL out) :: flO g.2) (fun _ => MT) (fun g => g.1 ≤ out[i].2.2.2.length ∧ shp g.2 = shp out ∧ g.2.drop (i + 1) = out.drop (i + 1))
      (0, out') ⟨Nat.zero_le _, hsh, by rw [← List.drop_drop, hdp, List.drop_drop]⟩ ⟨rfl, rfl, rfl, rfl, rfl, rfl, rfl, rfl, trivial⟩ ⟨_, Pick.whole⟩ (fun _ _ => trivial) ?_
    rintro ⟨k, o2⟩ ⟨hk, hsh2, hdp2⟩
    simp only at hk hsh2 hdp2
    have hol2 := shp_len hsh2
    have hi2 : i < o2.length := by omega
    obtain ⟨g1, g2, g3, g4⟩ := shp_get hsh2 hi2 hi'
    refine vcIf_dec (fun hlt2 => ?_) (fun hge2 => ?_)
    · have hk' : k < out[i].2.2.2.length := by have h9 : (k : Int) < (out[i].2.2.2.length : Int) := hlt2; omega
      have hkx : k < o2[i].2.2.2.length := by omega
      have hb40 := hod _ (List.getElem_mem hi')
      have hrow : ∀ {N : Mp}, Ent (GN G (skR b s1 :: dr :: .sl oA oc 56 2 (flL out) :: flO o2) N) (RowAt out[i].2.1 (Bs o2[i].2.2.2)) := Ent.mem (o := pO o2[i].2) (.tail _ (.tail _ (.tail _ (flO_mem hi2)))) (fun w hw => by rw [← g2]; exact Ob.sl_at hw)
      refine vcDraw_mix [0,1,2,3,4,5,6,7,8,9,10,11,12,13,14,15,16] (GN _ _ _) (by kernel_rfl) Ent.refl ?_
      refine vcIdx_nats (s := 2) i rfl (Ent.gnO (.there (.there .here)) (fun w hw => Ob.sl_at hw)) hi' (by rw [flL_len]; exact Nat.le_refl _) (by omega) (fun a2 ha2 => ?_)
      cases ha.symm.trans ha2
      refine vcLoad1_2 (xs := flL out) (v := pieceV out[i].2) (Ent.gnO (o := .sl oA oc 56 2 (flL out)) (.there (.there .here)) (fun w hw => by rw [← ha]; exact Ob.sl_at hw)) (flL_get1 hi') ?_
      refine vcIdx_nats (s := 2) i rfl (Ent.gnO (.there (.there .here)) (fun w hw => Ob.sl_at hw)) hi' (by rw [flL_len]; exact Nat.le_refl _) (by omega) (fun a2 ha2 => ?_)
      cases ha.symm.trans ha2
      refine vcLoad1_2 (xs := flL out) (v := pieceV out[i].2) (Ent.gnO (o := .sl oA oc 56 2 (flL out)) (.there (.there .here)) (fun w hw => by rw [← ha]; exact Ob.sl_at hw)) (flL_get1 hi') ?_
      refine vcIdx_nat k rfl hrow hk' (by rw [Bs_length]; omega) (fun a4 ha4 => ?_)
      refine vcLoad1_row (xs := Bs o2[i].2.2.2) (v := .int .u8 o2[i].2.2.2[k].toNat) (fun w hw => by rw [← ha4]; exact hrow w hw) (Bs_get hkx) ?_
      refine vcBit_as _ (not_u8 o2[i].2.2.2[k]) ?_
      refine vcIdx_nat k rfl hrow hk' (by rw [Bs_length]; omega) (fun a5 ha5 => ?_)
      cases ha4.symm.trans ha5
      have htk : Take (pO o2[i].2) (skR b s1 :: dr :: .sl oA oc 56 2 (flL out) :: flO o2) (skR b s1 :: dr :: .sl oA oc 56 2 (flL out) :: (flO (o2.take i) ++ flO (o2.drop (i + 1)))) := by
        rw [flO_split hi2]; exact .there (.there (.there Take.mid))
      refine vcStore1_eq (pO o2[i].2) (pO (o2[i].2.1, o2[i].2.2.1, o2[i].2.2.2.set k (255 ^^^ o2[i].2.2.2[k]))) _ htk (by show o2[i].2.1 = some a4; rw [g2]; exact ha4) (by show k + 0 < (Bs o2[i].2.2.2).length; rw [Bs_length]; exact hkx) rfl
        (by show Ob.sl _ _ _ _ ((Bs o2[i].2.2.2).set k (.int .u8 ((255 : UInt8) ^^^ o2[i].2.2.2[k]).toNat)) = Ob.sl _ _ _ _ (Bs _); rw [Bs_set_at]) ?_
      refine vcMix_last (by kernel_rfl) ?_
      refine vcFit_i64 (by first | omega | (simp only; omega)) ?_
      have hperm : (flO (o2.take i) ++ pO (o2[i].2.1, o2[i].2.2.1, o2[i].2.2.2.set k (255 ^^^ o2[i].2.2.2[k])) :: flO (o2.drop (i + 1)) ++ []).Perm (pO (o2[i].2.1, o2[i].2.2.1, o2[i].2.2.2.set k (255 ^^^ o2[i].2.2.2[k])) :: (flO (o2.take i) ++ flO (o2.drop (i + 1)))) := by
        rw [List.append_nil]; exact List.perm_middle
      obtain ⟨r', hp', _⟩ := Pick.perm hperm
      rw [← flO_set hi2 o2[i].1] at hp'
      refine ⟨(k + 1, o2.set i (o2[i].1, (o2[i].2.1, o2[i].2.2.1, o2[i].2.2.2.set k (255 ^^^ o2[i].2.2.2[k])))), ⟨hk', ?_, ?_⟩, (by first | omega | (simp only; omega)), ⟨rfl, rfl, rfl, rfl, rfl, rfl, rfl, rfl, trivial⟩, ⟨r', .cons (.there .here) (.cons (.there .here) (.cons (.there .here) hp'))⟩, fun _ _ => trivial⟩
      · rw [← hsh2]; exact shp_set hi2 _ (by rw [List.length_set])
      · show (o2.set i _).drop (i + 1) = _
        rw [List.drop_set_of_lt (by omega)]; exact hdp2
    · refine vcFit_i64 (by first | omega | (simp only; omega)) ?_
      exact ⟨(i + 1, o2), ⟨hi', hsh2, hdp2⟩, (by first | omega | (simp only; omega)), ⟨rfl, rfl, rfl, rfl, rfl, trivial⟩, ⟨_, Pick.whole⟩, fun _ _ => trivial⟩
  · subst hdr
    refine vcStore1_eq (sdR d server rA rc priv pA' pc' ps' par' sA sc lA lc dA dc n fd.length) (.row d 60 ((sdL server rA rc priv pA' pc' ps' par' sA sc lA lc dA dc n fd.length).set 10 (.slice none 0 0)) 14) _ (.there .here) rfl (by show (10 : Nat) < 14; decide) rfl rfl ?_
    refine vcStore1_eq (.row d 60 ((sdL server rA rc priv pA' pc' ps' par' sA sc lA lc dA dc n fd.length).set 10 (.slice none 0 0)) 14) (sdR d server rA rc priv pA' pc' ps' par' sA sc none 0 none 0 n 0) _ .here rfl (by show (9 : Nat) < 14; decide) rfl rfl ?_
    have hs : ∀ {own : List Ob} {N : Mp}, skR b s1 ∈ own → Ent (GN G own N) (RowAt (some ⟨b, 0, none⟩) (skL s1)) := fun h => Ent.mem h (fun w hw => Ob.row_at hw)
    have hnil : ∀ {M : Mp}, Ent M (RowAt none (Bs [])) := fun _ _ => nil_row
    have hd : ∀ {own : List Ob} {N : Mp}, sdR d server rA rc priv pA' pc' ps' par' sA sc none 0 none 0 n 0 ∈ own → Ent (GN G own N) (RowAt (some ⟨d, 0, none⟩) (sdL server rA rc priv pA' pc' ps' par' sA sc none 0 none 0 n 0)) := fun h => Ent.mem h (fun w hw => Ob.row_at hw)
    refine vcCall_of .nil (hand_spec b s1 _ (hs (by simp)) (by rw [hs1]; exact hnil) (by rw [hs1]; exact hnil) (by rw [hs1]; exact Nat.zero_le _) (by rw [hs1]; exact Nat.zero_le _)) (fun v own' N' hv => ?_)
    rw [show s1.hc = nilP from by rw [hs1]; rfl, show s1.hs = nilP from by rw [hs1]; rfl] at hv
    obtain ⟨A1, c1, A2, c2, rfl, rfl, rfl⟩ := hv
    intro b8
    refine ⟨rfl, vcStoreN_row _ .here rfl (by intro v hv; change v ∈ [Value.slice A1 0 c1, Value.slice A2 0 c2] at hv; simp only [List.mem_cons, List.not_mem_nil, or_false] at hv; rcases hv with rfl | rfl <;> rfl) ?_⟩
    refine vcCall_of .nil (rhand_spec d n hn _ sA sc rfl _ (hd (by simp))) (fun v own' N' hv => ?_); obtain ⟨rfl, rfl, rfl⟩ := hv
    refine vcCall_of .nil (app_spec b s1 _ (hs (by simp)) (by rw [hs1]; exact hnil) (by rw [hs1]; exact hnil) (by rw [hs1]; exact Nat.zero_le _) (by rw [hs1]; exact Nat.zero_le _)) (fun v own' N' hv => ?_)
    rw [show s1.ac = nilP from by rw [hs1]; rfl, show s1.as_ = nilP from by rw [hs1]; rfl] at hv
    obtain ⟨A3, c3, A4, c4, rfl, rfl, rfl⟩ := hv
    intro b9
    refine ⟨rfl, vcStoreN_row _ .here rfl (by intro v hv; change v ∈ [Value.slice A3 0 c3, Value.slice A4 0 c4] at hv; simp only [List.mem_cons, List.not_mem_nil, or_false] at hv; rcases hv with rfl | rfl <;> rfl) ?_⟩
    refine vcCall_of .nil (rapp_spec d n hn _ sA sc rfl _ (hd (by simp))) (fun v own' N' hv => ?_); obtain ⟨rfl, rfl, rfl⟩ := hv
    refine vcLoad1_row (j := 0) (v := .slice A1 0 c1) (xs := [.slice A1 0 c1, .slice A2 0 c2]) (Ent.gnO (o := .row b8 44 [.slice A1 0 c1, .slice A2 0 c2] 2) (by first | ((repeat (first | exact .here | apply Take.there)); done) | exact .none_) (fun w hw => Ob.row_at hw)) rfl ?_
    refine vcCall_of .nil (same_spec A1 none c1 0 [] [] _ (fun _ _ => row0) (fun _ _ => row0) (Nat.zero_le _)) (fun v own' N' hv => ?_); obtain ⟨rfl, rfl, rfl⟩ := hv
    refine vcLoad1_row (j := 1) (v := .slice A2 0 c2) (xs := [.slice A1 0 c1, .slice A2 0 c2]) (Ent.gnO (o := .row b8 44 [.slice A1 0 c1, .slice A2 0 c2] 2) (by first | ((repeat (first | exact .here | apply Take.there)); done) | exact .none_) (fun w hw => Ob.row_at hw)) rfl ?_
    refine vcCall_of .nil (same_spec A2 none c2 0 [] [] _ (fun _ _ => row0) (fun _ _ => row0) (Nat.zero_le _)) (fun v own' N' hv => ?_); obtain ⟨rfl, rfl, rfl⟩ := hv
    refine vcLoad1_row (j := 0) (v := .slice A3 0 c3) (xs := [.slice A3 0 c3, .slice A4 0 c4]) (Ent.gnO (o := .row b9 44 [.slice A3 0 c3, .slice A4 0 c4] 2) (by first | ((repeat (first | exact .here | apply Take.there)); done) | exact .none_) (fun w hw => Ob.row_at hw)) rfl ?_
    refine vcCall_of .nil (same_spec A3 none c3 0 [] [] _ (fun _ _ => row0) (fun _ _ => row0) (Nat.zero_le _)) (fun v own' N' hv => ?_); obtain ⟨rfl, rfl, rfl⟩ := hv
    refine vcLoad1_row (j := 1) (v := .slice A4 0 c4) (xs := [.slice A3 0 c3, .slice A4 0 c4]) (Ent.gnO (o := .row b9 44 [.slice A3 0 c3, .slice A4 0 c4] 2) (by first | ((repeat (first | exact .here | apply Take.there)); done) | exact .none_) (fun w hw => Ob.row_at hw)) rfl ?_
    refine vcCall_of .nil (same_spec A4 none c4 0 [] [] _ (fun _ _ => row0) (fun _ _ => row0) (Nat.zero_le _)) (fun v own' N' hv => ?_); obtain ⟨rfl, rfl, rfl⟩ := hv
    refine vcLoad1_row (j := 0) (v := .slice A1 0 c1) (xs := [.slice A1 0 c1, .slice A2 0 c2]) (Ent.gnO (o := .row b8 44 [.slice A1 0 c1, .slice A2 0 c2] 2) (by first | ((repeat (first | exact .here | apply Take.there)); done) | exact .none_) (fun w hw => Ob.row_at hw)) rfl ?_
    refine vcLoop_of (fun _ : Unit => 0) (fun _ => [(0, .pointer (some ⟨b, 0, none⟩)), (1, .pointer (some ⟨d, 0, none⟩)), (156, .int .i64 0), (157, .int .i64 0)]) (fun _ => [skR b s1, sdR d server rA rc priv pA' pc' ps' par' sA sc none 0 none 0 n 0]) (fun _ => MT) (fun _ => True) () trivial
      ⟨rfl, rfl, rfl, rfl, trivial⟩ ⟨_, .cons (by first | ((repeat (first | exact .here | apply Take.there)); done) | exact .none_) (.cons (by first | ((repeat (first | exact .here | apply Take.there)); done) | exact .none_) .nil)⟩ (fun _ _ => trivial) ?_
    intro _ _
    refine vcDraw_mix [0,2,3,4,5,1,6,7,8,10,11,12,13,9,14,15,16,17,19,18,20,21,22,23] (RowAt (some ⟨d, 0, none⟩) (sdL server rA rc priv pA' pc' ps' par' sA sc none 0 none 0 n 0)) (by kernel_rfl) (hd (by simp)) ?_
    obtain ⟨q, hq⟩ : ∃ q, q = ByteArray.mk #[] := ⟨_, rfl⟩
    have hsp : s1.proto = q := by rw [hs1, hq]; rfl
    refine vcLoad1_row (j := 11) (v := .string q) Ent.refl (by rw [hq]; rfl) ?_
    refine vcCall_of .nil (proto_spec b s1 _ (hs (by simp))) (fun v own' N' hv => ?_)
    rw [hsp] at hv
    obtain ⟨rfl, rfl, rfl⟩ := hv
    refine vcMix_same (hd (by simp)) ?_
    refine vcIf_is true (beq_self_eq_true q.toList) ?_
    refine vcLoad1_row (j := 12) (v := .slice none 0 0) Ent.refl rfl ?_
    refine vcCall_of .nil (peer_spec b s1 _ (hs (by simp)) (by rw [hs1]; exact hnil) (by rw [hs1]; exact Nat.zero_le _)) (fun v own' N' hv => ?_)
    rw [show s1.peer = nilP from by rw [hs1]; rfl] at hv
    obtain ⟨A5, c5, rfl, rfl, rfl, _⟩ := hv
    refine vcMix_same (hd (by simp)) ?_
    refine vcCall_of .nil (same_spec A5 none c5 0 [] [] _ (fun _ _ => row0) (fun _ _ => row0) (Nat.zero_le _)) (fun v own' N' hv => ?_); obtain ⟨rfl, rfl, rfl⟩ := hv
    refine vcMix_same (hd (by simp)) ?_
    refine vcCall_of .nil (done_spec b s1 _ (hs (by simp))) (fun v own' N' hv => ?_)
    have hwz : decide (s1.ws.length = 0) = false := decide_eq_false (by rw [hs1]; exact hws)
    rw [hwz] at hv
    obtain ⟨rfl, rfl, rfl⟩ := hv
    refine vcMix_same (hd (by simp)) ?_
    refine vcCall_of .nil (rdone_spec d n hn _ sA sc rfl _ (hd (by simp))) (fun v own' N' hv => ?_); obtain ⟨rfl, rfl, rfl⟩ := hv
    refine vcMix_same (hd (by simp)) ?_
    refine ⟨[skR b s1], _, MT, .cons (by first | ((repeat (first | exact .here | apply Take.there)); done) | exact .none_) .nil, fun _ _ _ => trivial, rfl, by rw [hs1], rfl⟩
end Go.Proofs.Yticllmnblcjjcaa
