/- Headers: what Parse answers. -/
import Derived.Test.YtlobimomeeppeaaHdrD
namespace Go.Proofs.Ytlobimomeeppeaa
open Go Go.Proofs
set_option maxRecDepth 10000

structure HdrL where
  kind : Int
  ver : Int
  dst : List UInt8
  src : List UInt8
  tok : List UInt8
  vers : List Nat
  len : Nat
def hdr0 : HdrL := ⟨0, 0, [], [], [], [], 0⟩
def versL (m : Nat) (l : List UInt8) : List Nat := (List.range m).map fun i => beval 0 ((l.drop (4 * i)).take 4)
def restP (bs : List UInt8) (first : UInt8) (v : Nat) (d s : List UInt8) (p : Nat) : Except Int (HdrL × Nat) :=
  if v = 0 then (if bs.length = p ∨ (bs.length - p) % 4 ≠ 0 then .error 54 else .ok (⟨5, 0, d, s, [], versL ((bs.length - p) / 4) (bs.drop p), 0⟩, bs.length))
  else if v = 1 then (if first.toNat / 64 % 2 = 0 then .error 62 else match kindP bs first p with
    | .error e => .error e
    | .ok (tok, l, q) => .ok (⟨kindN first, 1, d, s, tok, [], l⟩, q))
  else .ok (⟨7, v, d, s, [], [], 0⟩, p)
def endP (bs : List UInt8) (r : HdrL × Nat) : HdrL × Nat × Nat := (r.1, r.2, if 0 < r.1.len then r.2 + r.1.len else bs.length)
def longP (bs : List UInt8) (first : UInt8) (p : Nat) : Except Int (HdrL × Nat × Nat) := match wordP bs p with
  | .error e => .error e
  | .ok (v, p2) => match cidP bs p2 with
    | .error e => .error e
    | .ok (d, p3) => match cidP bs p3 with
      | .error e => .error e
      | .ok (s, p4) => match restP bs first v d s p4 with
        | .error e => .error e
        | .ok r => .ok (endP bs r)
def shortP (bs : List UInt8) (cid : Nat) (first : UInt8) (p : Nat) : Except Int (HdrL × Nat × Nat) := if first.toNat / 64 % 2 = 0 then .error 62 else match takeP bs cid p with
  | .error e => .error e
  | .ok (d, q) => .ok (⟨6, 0, d, [], [], [], bs.length - q⟩, q, bs.length)
def parseP (bs : List UInt8) (cid : Nat) : Except Int (HdrL × Nat × Nat) := match takeP bs 1 0 with
  | .error e => .error e
  | .ok (f, p) => if (f.headD 0).toNat < 128 then shortP bs cid (f.headD 0) p else longP bs (f.headD 0) p
def parseL (bs : List UInt8) (cid : Int) : Except Int (HdrL × Nat × Nat) := if cid < 0 ∨ 20 < cid then .error 61 else parseP bs cid.toNat
def parseT (bs : List UInt8) (cid : Int) : HdrL × Nat × Nat × Int := match parseL bs cid with
  | .error e => (hdr0, 0, 0, e)
  | .ok (h, a, en) => (h, a, en, 0)
theorem parseT_err {bs : List UInt8} {cid e : Int} (h : parseL bs cid = .error e) : parseT bs cid = (hdr0, 0, 0, e) := by unfold parseT; rw [h]
theorem parseT_ok {bs : List UInt8} {cid : Int} {h : HdrL} {a en : Nat} (he : parseL bs cid = .ok (h, a, en)) : parseT bs cid = (h, a, en, 0) := by unfold parseT; rw [he]

abbrev Pl := Option Addr × Nat
def nI (n : Nat) : Value := .int .i64 n
/-- A header's value, its parts lying where they lie. -/
def hdrOf (h : HdrL) (d s t v : Pl) : List Value := hdrC h.kind h.ver (d.1, d.2, h.dst) (s.1, s.2, h.src) (t.1, t.2, h.tok) (v.1, v.2, h.vers) h.len
structure HdrM (h : HdrL) (d s t v : Pl) (N : Mp) : Prop where
  dst : Ent N (RowAt d.1 (Bs h.dst))
  src : Ent N (RowAt s.1 (Bs h.src))
  tok : Ent N (RowAt t.1 (Bs h.tok))
  vers : Ent N (RowAt v.1 (h.vers.map nI))
  cd : h.dst.length ≤ d.2
  cs : h.src.length ≤ s.2
  ct : h.tok.length ≤ t.2
  cv : h.vers.length ≤ v.2
def ParsePost (r : HdrL × Nat × Nat × Int) (v : Value) (own : List Ob) (N : Mp) : Prop :=
  ∃ d s t vs : Pl, v = .tuple #[.agg (hdrOf r.1 d s t vs).toArray, .int .i64 r.2.1, .int .i64 r.2.2.1, .int .i64 r.2.2.2] ∧ own = [] ∧ HdrM r.1 d s t vs N
def XP {α : Type} (r : Except Int α) (a b5 b6 b7 : Nat) : XK := fun ch own _ => ∃ e hc i j k rest, r = .error e ∧ ch = [pE e] ∧
  Pick [hdrO a hc, .row b5 3 [.int .i64 i] 1, .row b6 3 [.int .i64 j] 1, .row b7 27 [.int .i64 k] 1] own rest ∧ hc.length = 7
theorem and128 : ∀ x, x < 256 → bitI .and .u8 ((x : Nat) : Int) 128 = ((x / 128 * 128 : Nat) : Int) := by decide +kernel
theorem and64 : ∀ x, x < 256 → bitI .and .u8 ((x : Nat) : Int) 64 = ((x / 64 % 2 * 64 : Nat) : Int) := by decide +kernel
theorem HdrM_0 (N : Mp) : HdrM hdr0 (none, 0) (none, 0) (none, 0) (none, 0) N := ⟨fun _ _ => RowAt.nil, fun _ _ => RowAt.nil, fun _ _ => RowAt.nil, fun _ _ => RowAt.nil, Nat.le_refl _, Nat.le_refl _, Nat.le_refl _, Nat.le_refl _⟩

theorem kindP_le {bs : List UInt8} {first : UInt8} {p l q : Nat} {tok : List UInt8} (h : kindP bs first p = .ok (tok, l, q)) : q + l ≤ bs.length := by
  unfold kindP at h
  split at h
  · split at h
    · cases h
    · cases h; omega
  · cases ht : tokP bs first p with
    | error e => rw [ht] at h; cases h
    | ok r =>
      rw [ht] at h
      simp only [lenP] at h
      split at h
      · cases h
      · split at h
        · cases h
        · cases h; omega

noncomputable def parseTail : Code := match Try.f11.body with
  | some (.seq _ (.seq _ t)) => t
  | _ => .skip

set_option maxHeartbeats 4000000 in
theorem parse_tail (a b5 b6 b7 : Nat) (A : Option Addr) (c : Nat) (bs : List UInt8) (cid : Int) (G : Mp) (h1 : Ent G (RowAt A (Bs bs))) (hm : bs.length ≤ 211106232530000) (hm2 : bs.length ≤ 70368744177664 ∨ ∀ x r, bs = x :: r → 128 ≤ x.toNat → ∀ p, wordP bs 1 ≠ .ok (0, p)) :
    vc (XP (parseL bs cid) a b5 b6 b7) Try.prog G [22, 25] parseTail (vcFin Try.prog G Try.f11.results.toList (ParsePost (parseT bs cid)))
      [(0, .slice A bs.length c), (1, .int .i64 cid), (4, .pointer (some ⟨a, 0, none⟩)), (5, .pointer (some ⟨b5, 0, none⟩)), (6, .pointer (some ⟨b6, 0, none⟩)), (7, .pointer (some ⟨b7, 0, none⟩))]
      [.row b7 27 [.int .i64 0] 1, .row b6 3 [.int .i64 0] 1, .row b5 3 [.int .i64 0] 1, hdrO a zeroC] MT := by
  have fin61 : cid < 0 ∨ 20 < cid → parseT bs cid = (hdr0, 0, 0, 61) := fun h => parseT_err (if_pos h)
  refine vcIf_dec (fun h => ?_) (fun h => ?_)
  · repeat (refine vcIf_yes (by rfl) ?_)
    rw [fin61 (.inl h)]
    refine ⟨rfl, vcStoreN_row _ (by first | ((repeat (first | exact .here | apply Take.there)); done) | exact .none_) (by rfl) (by simp [oneCell, cellsL]) ?_⟩
    refine vcStore1_0 (.row b5 3 [.int .i64 0] 1) _ (by first | ((repeat (first | exact .here | apply Take.there)); done) | exact .none_) rfl Nat.zero_lt_one rfl ?_
    refine vcStore1_0 (.row b6 3 [.int .i64 0] 1) _ (by first | ((repeat (first | exact .here | apply Take.there)); done) | exact .none_) rfl Nat.zero_lt_one rfl ?_
    refine vcStore1_0 (.row b7 27 [.int .i64 0] 1) _ (by first | ((repeat (first | exact .here | apply Take.there)); done) | exact .none_) rfl Nat.zero_lt_one rfl ?_
    refine vcLoadN_0 (xs := zeroC) (by first | exact Ent.gnO (by repeat first | exact .here | apply Take.there) (fun w hw => Ob.sl_at hw) | exact Ent.gnO (by repeat first | exact .here | apply Take.there) (fun w hw => Ob.row_at hw)) rfl ?_
    refine vcLoad1_0 (xs := [.int .i64 0]) (Ent.gnO (.there (.there .here)) (fun w hw => Ob.row_at hw)) rfl ?_
    refine vcLoad1_0 (xs := [.int .i64 0]) (Ent.gnO (.there .here) (fun w hw => Ob.row_at hw)) rfl ?_
    refine vcLoad1_0 (xs := [.int .i64 61]) (Ent.gnO .here (fun w hw => Ob.row_at hw)) rfl ?_
    exact ⟨[], _, MT, .nil, fun _ _ _ => trivial, (none, 0), (none, 0), (none, 0), (none, 0), rfl, rfl, HdrM_0 _⟩
  refine vcIf_dec (fun h' => ?_) (fun h' => ?_)
  · repeat (refine vcIf_yes (by rfl) ?_)
    rw [fin61 (.inr h')]
    refine ⟨rfl, vcStoreN_row _ (by first | ((repeat (first | exact .here | apply Take.there)); done) | exact .none_) (by rfl) (by simp [oneCell, cellsL]) ?_⟩
    refine vcStore1_0 (.row b5 3 [.int .i64 0] 1) _ (by first | ((repeat (first | exact .here | apply Take.there)); done) | exact .none_) rfl Nat.zero_lt_one rfl ?_
    refine vcStore1_0 (.row b6 3 [.int .i64 0] 1) _ (by first | ((repeat (first | exact .here | apply Take.there)); done) | exact .none_) rfl Nat.zero_lt_one rfl ?_
    refine vcStore1_0 (.row b7 27 [.int .i64 0] 1) _ (by first | ((repeat (first | exact .here | apply Take.there)); done) | exact .none_) rfl Nat.zero_lt_one rfl ?_
    refine vcLoadN_0 (xs := zeroC) (by first | exact Ent.gnO (by repeat first | exact .here | apply Take.there) (fun w hw => Ob.sl_at hw) | exact Ent.gnO (by repeat first | exact .here | apply Take.there) (fun w hw => Ob.row_at hw)) rfl ?_
    refine vcLoad1_0 (xs := [.int .i64 0]) (Ent.gnO (.there (.there .here)) (fun w hw => Ob.row_at hw)) rfl ?_
    refine vcLoad1_0 (xs := [.int .i64 0]) (Ent.gnO (.there .here) (fun w hw => Ob.row_at hw)) rfl ?_
    refine vcLoad1_0 (xs := [.int .i64 61]) (Ent.gnO .here (fun w hw => Ob.row_at hw)) rfl ?_
    exact ⟨[], _, MT, .nil, fun _ _ _ => trivial, (none, 0), (none, 0), (none, 0), (none, 0), rfl, rfl, HdrM_0 _⟩
  repeat (refine vcIf_no (by rfl) ?_)
  obtain ⟨k, rfl⟩ := Int.eq_ofNat_of_zero_le (Int.not_lt.mp h)
  have hL : parseL bs (k : Int) = parseP bs k := if_neg (by omega)
  clear fin61
  refine vcCall_of .nil (vopen_spec A c bs _ (Ent.gnG h1) (by omega)) (fun v own' N' hv => ?_)
  obtain ⟨br, Ab, cb, rfl, rfl, rfl, hcb⟩ := hv
  intro b8
  refine vcStore1_0 (.row b8 64 [.pointer none] 1) _ (by first | ((repeat (first | exact .here | apply Take.there)); done) | exact .none_) rfl Nat.zero_lt_one rfl ?_
  refine vcLoadN_0 (xs := srcC br) (by first | exact Ent.gnO (by repeat first | exact .here | apply Take.there) (fun w hw => Ob.sl_at hw) | exact Ent.gnO (by repeat first | exact .here | apply Take.there) (fun w hw => Ob.row_at hw)) rfl ?_
  refine vcCall_may (.cons (by first | ((repeat (first | exact .here | apply Take.there)); done) | exact .none_) .nil) (take_spec br Ab cb bs 0 _ 1 (by first | exact Ent.gnO (by repeat first | exact .here | apply Take.there) (fun w hw => Ob.sl_at hw) | exact Ent.gnO (by repeat first | exact .here | apply Take.there) (fun w hw => Ob.row_at hw)) hcb (by omega) (Nat.zero_le _)) (fun ch own' N' hx => ?_) (fun v own' N' hv => ?_)
  · obtain ⟨e, he, rfl, rfl, rfl⟩ := hx
    exact ⟨e, zeroC, 0, 0, 0, _, by rw [hL]; unfold parseP; rw [he], rfl, .cons (by first | ((repeat (first | exact .here | apply Take.there)); done) | exact .none_) (.cons (by first | ((repeat (first | exact .here | apply Take.there)); done) | exact .none_) (.cons (by first | ((repeat (first | exact .here | apply Take.there)); done) | exact .none_) (.cons (by first | ((repeat (first | exact .here | apply Take.there)); done) | exact .none_) .nil))), rfl⟩
  obtain ⟨xs, q, hxq, A', c', rfl, rfl, hr, hc'⟩ := hv
  obtain ⟨hx0, hq, hpn, hl1⟩ := takeP_ok hxq
  obtain ⟨x, rfl⟩ : ∃ x, xs = [x] := by
    cases xs with
    | nil => cases hl1
    | cons x r => cases r with
      | nil => exact ⟨x, rfl⟩
      | cons _ _ => simp at hl1
  have hx := x.toNat_lt
  have hql : q ≤ bs.length := by omega
  have hP : parseP bs k = if x.toNat < 128 then shortP bs k x q else longP bs x q := by unfold parseP; rw [hxq]; rfl
  rw [hP] at hL
  clear hP hxq hl1
  refine vcIdx_nat (xs := Bs [x]) 0 rfl (Ent.gnN (by repeat first | exact hr | exact Ent.andR hr | refine Ent.andL ?_)) Nat.zero_lt_one (Nat.le_refl 1) (fun ax hax => ?_)
  subst hax
  refine vcLoad1_row (v := .int .u8 x.toNat) (Ent.gnN (by repeat first | exact hr | exact Ent.andR hr | refine Ent.andL ?_)) rfl ?_
  refine vcBit_as _ (and128 _ hx) ?_
  refine vcIf_dec (fun h80 => ?_) (fun h80 => ?_)
  · have hL' : parseL bs (k : Int) = shortP bs k x q := by rw [hL, if_pos (by omega)]
    refine vcLoadN_0 (xs := srcC br) (by first | exact Ent.gnO (by repeat first | exact .here | apply Take.there) (fun w hw => Ob.sl_at hw) | exact Ent.gnO (by repeat first | exact .here | apply Take.there) (fun w hw => Ob.row_at hw)) rfl ?_
    refine vcBit_as _ (and64 _ hx) ?_
    refine vcCall_may (.cons (by first | ((repeat (first | exact .here | apply Take.there)); done) | exact .none_) .nil) (must_spec br Ab cb bs.length q 0 _ 62 _) (fun ch own' N' hx => ?_) (fun v own' N' hv => ?_)
    · obtain ⟨hh, rfl, rfl, rfl⟩ := hx
      rcases hh with hh | hh
      · exact absurd rfl hh
      · have h6 : (x.toNat / 64 % 2 * 64 : Nat) = (0 : Int) := by simpa using hh
        exact ⟨62, zeroC, 0, 0, 0, _, by rw [hL']; unfold shortP; rw [if_pos (by omega)], rfl, .cons (by first | ((repeat (first | exact .here | apply Take.there)); done) | exact .none_) (.cons (by first | ((repeat (first | exact .here | apply Take.there)); done) | exact .none_) (.cons (by first | ((repeat (first | exact .here | apply Take.there)); done) | exact .none_) (.cons (by first | ((repeat (first | exact .here | apply Take.there)); done) | exact .none_) .nil))), rfl⟩
    obtain ⟨⟨_, hh⟩, rfl, rfl, rfl⟩ := hv
    have h6 : ¬ (x.toNat / 64 % 2 * 64 : Nat) = (0 : Int) := by simpa using hh
    have hL2 : parseL bs (k : Int) = match takeP bs k q with
        | .error e => .error e
        | .ok (d, q) => .ok (⟨6, 0, d, [], [], [], bs.length - q⟩, q, bs.length) := by rw [hL']; unfold shortP; rw [if_neg (by omega)]
    refine vcDraw_mix [0,1,3,4,2,5,6,7] (RowAt (some ⟨b8, 0, none⟩) (srcC br)) (by kernel_rfl) (by first | exact Ent.gnO (by repeat first | exact .here | apply Take.there) (fun w hw => Ob.sl_at hw) | exact Ent.gnO (by repeat first | exact .here | apply Take.there) (fun w hw => Ob.row_at hw)) ?_
    refine vcLoadN_0 (xs := srcC br) Ent.refl rfl ?_
    refine vcLoad1_row (j := 0) (v := .pointer (some ⟨br, 0, none⟩)) Ent.refl rfl ?_
    refine vcCall_may (.cons (by first | ((repeat (first | exact .here | apply Take.there)); done) | exact .none_) .nil) (take_spec br Ab cb bs q _ k (by first | exact Ent.gnO (by repeat first | exact .here | apply Take.there) (fun w hw => Ob.sl_at hw) | exact Ent.gnO (by repeat first | exact .here | apply Take.there) (fun w hw => Ob.row_at hw)) hcb (by omega) hql) (fun ch own' N' hx => ?_) (fun v own' N' hv => ?_)
    · obtain ⟨e, he, rfl, rfl, rfl⟩ := hx
      exact ⟨e, zeroC, 0, 0, 0, _, by rw [hL2, he], rfl, .cons (by first | ((repeat (first | exact .here | apply Take.there)); done) | exact .none_) (.cons (by first | ((repeat (first | exact .here | apply Take.there)); done) | exact .none_) (.cons (by first | ((repeat (first | exact .here | apply Take.there)); done) | exact .none_) (.cons (by first | ((repeat (first | exact .here | apply Take.there)); done) | exact .none_) .nil))), rfl⟩
    obtain ⟨ds, q2, hds, Ad, cd, rfl, rfl, hrd, hcd⟩ := hv
    obtain ⟨_, hq2, hpn2, _⟩ := takeP_ok hds
    rw [hds] at hL2
    refine vcMix_same (by first | exact Ent.gnO (by repeat first | exact .here | apply Take.there) (fun w hw => Ob.sl_at hw) | exact Ent.gnO (by repeat first | exact .here | apply Take.there) (fun w hw => Ob.row_at hw)) ?_
    refine vcCall_of (.cons (by first | ((repeat (first | exact .here | apply Take.there)); done) | exact .none_) .nil) (left_spec br Ab cb bs q2 0 _ (by omega) (by omega)) (fun v own' N' hv => ?_)
    obtain ⟨rfl, rfl, rfl⟩ := hv
    rw [show rleft bs (q2, 0) = ((bs.length - q2 : Nat) : Int) from (if_neg (fun h => h rfl)).trans (by omega)]
    refine vcMix_same (by first | exact Ent.gnO (by repeat first | exact .here | apply Take.there) (fun w hw => Ob.sl_at hw) | exact Ent.gnO (by repeat first | exact .here | apply Take.there) (fun w hw => Ob.row_at hw)) ?_
    refine ⟨rfl, vcStoreN_row _ (by first | ((repeat (first | exact .here | apply Take.there)); done) | exact .none_) (by rfl) (by simp [oneCell, cellsL]) ?_⟩
    refine vcMix_last (by kernel_rfl) ?_
    have eR : parseT bs (k : Int) = (⟨6, 0, ds, [], [], [], bs.length - q2⟩, q2, bs.length, 0) := parseT_ok hL2
    rw [eR]
    refine vcDraw_mix [0,1,2,4,5,3,6,7,8,9] (fun w => RowAt (some ⟨a, 0, none⟩) (hdrC 6 0 (Ad, cd, ds) (none, 0, []) (none, 0, []) (none, 0, []) (bs.length - q2 : Nat)) w ∧ RowAt (some ⟨b8, 0, none⟩) (srcC br) w) (by kernel_rfl) (fun w hw => ⟨((by first | exact Ent.gnO (by repeat first | exact .here | apply Take.there) (fun w hw => Ob.sl_at hw) | exact Ent.gnO (by repeat first | exact .here | apply Take.there) (fun w hw => Ob.row_at hw)) : Ent _ (RowAt (some ⟨a, 0, none⟩) (hdrC 6 0 (Ad, cd, ds) (none, 0, []) (none, 0, []) (none, 0, []) (bs.length - q2 : Nat)))) w hw, ((by first | exact Ent.gnO (by repeat first | exact .here | apply Take.there) (fun w hw => Ob.sl_at hw) | exact Ent.gnO (by repeat first | exact .here | apply Take.there) (fun w hw => Ob.row_at hw)) : Ent _ (RowAt (some ⟨b8, 0, none⟩) (srcC br))) w hw⟩) ?_
    refine vcLoadN_0 (xs := hdrC 6 0 (Ad, cd, ds) (none, 0, []) (none, 0, []) (none, 0, []) (bs.length - q2 : Nat)) (fun w hw => hw.1) rfl ?_
    refine vcLoad1_row (j := 0) (v := .pointer (some ⟨br, 0, none⟩)) (fun w hw => hw.2) rfl ?_
    refine vcCall_of (.cons (by first | ((repeat (first | exact .here | apply Take.there)); done) | exact .none_) .nil) (at_spec br Ab cb bs.length q2 0 _) (fun v own' N' hv => ?_)
    obtain ⟨rfl, rfl, rfl⟩ := hv
    refine vcMix_same (fun w hw => ⟨((by first | exact Ent.gnO (by repeat first | exact .here | apply Take.there) (fun w hw => Ob.sl_at hw) | exact Ent.gnO (by repeat first | exact .here | apply Take.there) (fun w hw => Ob.row_at hw)) : Ent _ (RowAt (some ⟨a, 0, none⟩) (hdrC 6 0 (Ad, cd, ds) (none, 0, []) (none, 0, []) (none, 0, []) (bs.length - q2 : Nat)))) w hw, ((by first | exact Ent.gnO (by repeat first | exact .here | apply Take.there) (fun w hw => Ob.sl_at hw) | exact Ent.gnO (by repeat first | exact .here | apply Take.there) (fun w hw => Ob.row_at hw)) : Ent _ (RowAt (some ⟨b8, 0, none⟩) (srcC br))) w hw⟩) ?_
    refine ⟨rfl, vcStoreN_row _ (by first | ((repeat (first | exact .here | apply Take.there)); done) | exact .none_) (by rfl) (by simp [oneCell, cellsL, hdrC]) ?_⟩
    refine vcMix_same (fun w hw => ⟨((by first | exact Ent.gnO (by repeat first | exact .here | apply Take.there) (fun w hw => Ob.sl_at hw) | exact Ent.gnO (by repeat first | exact .here | apply Take.there) (fun w hw => Ob.row_at hw)) : Ent _ (RowAt (some ⟨a, 0, none⟩) (hdrC 6 0 (Ad, cd, ds) (none, 0, []) (none, 0, []) (none, 0, []) (bs.length - q2 : Nat)))) w hw, ((by first | exact Ent.gnO (by repeat first | exact .here | apply Take.there) (fun w hw => Ob.sl_at hw) | exact Ent.gnO (by repeat first | exact .here | apply Take.there) (fun w hw => Ob.row_at hw)) : Ent _ (RowAt (some ⟨b8, 0, none⟩) (srcC br))) w hw⟩) ?_
    refine vcStore1_0 (.row b5 3 [.int .i64 0] 1) _ (by first | ((repeat (first | exact .here | apply Take.there)); done) | exact .none_) rfl Nat.zero_lt_one rfl ?_
    refine vcMix_same (fun w hw => ⟨((by first | exact Ent.gnO (by repeat first | exact .here | apply Take.there) (fun w hw => Ob.sl_at hw) | exact Ent.gnO (by repeat first | exact .here | apply Take.there) (fun w hw => Ob.row_at hw)) : Ent _ (RowAt (some ⟨a, 0, none⟩) (hdrC 6 0 (Ad, cd, ds) (none, 0, []) (none, 0, []) (none, 0, []) (bs.length - q2 : Nat)))) w hw, ((by first | exact Ent.gnO (by repeat first | exact .here | apply Take.there) (fun w hw => Ob.sl_at hw) | exact Ent.gnO (by repeat first | exact .here | apply Take.there) (fun w hw => Ob.row_at hw)) : Ent _ (RowAt (some ⟨b8, 0, none⟩) (srcC br))) w hw⟩) ?_
    refine vcStore1_0 (.row b6 3 [.int .i64 0] 1) _ (by first | ((repeat (first | exact .here | apply Take.there)); done) | exact .none_) rfl Nat.zero_lt_one rfl ?_
    refine vcMix_same (fun w hw => ⟨((by first | exact Ent.gnO (by repeat first | exact .here | apply Take.there) (fun w hw => Ob.sl_at hw) | exact Ent.gnO (by repeat first | exact .here | apply Take.there) (fun w hw => Ob.row_at hw)) : Ent _ (RowAt (some ⟨a, 0, none⟩) (hdrC 6 0 (Ad, cd, ds) (none, 0, []) (none, 0, []) (none, 0, []) (bs.length - q2 : Nat)))) w hw, ((by first | exact Ent.gnO (by repeat first | exact .here | apply Take.there) (fun w hw => Ob.sl_at hw) | exact Ent.gnO (by repeat first | exact .here | apply Take.there) (fun w hw => Ob.row_at hw)) : Ent _ (RowAt (some ⟨b8, 0, none⟩) (srcC br))) w hw⟩) ?_
    refine vcStore1_0 (.row b7 27 [.int .i64 0] 1) _ (by first | ((repeat (first | exact .here | apply Take.there)); done) | exact .none_) rfl Nat.zero_lt_one rfl ?_
    refine vcMix_same (fun w hw => ⟨((by first | exact Ent.gnO (by repeat first | exact .here | apply Take.there) (fun w hw => Ob.sl_at hw) | exact Ent.gnO (by repeat first | exact .here | apply Take.there) (fun w hw => Ob.row_at hw)) : Ent _ (RowAt (some ⟨a, 0, none⟩) (hdrC 6 0 (Ad, cd, ds) (none, 0, []) (none, 0, []) (none, 0, []) (bs.length - q2 : Nat)))) w hw, ((by first | exact Ent.gnO (by repeat first | exact .here | apply Take.there) (fun w hw => Ob.sl_at hw) | exact Ent.gnO (by repeat first | exact .here | apply Take.there) (fun w hw => Ob.row_at hw)) : Ent _ (RowAt (some ⟨b8, 0, none⟩) (srcC br))) w hw⟩) ?_
    refine vcLoadN_0 (xs := hdrC 6 0 (Ad, cd, ds) (none, 0, []) (none, 0, []) (none, 0, []) (bs.length - q2 : Nat)) (by first | exact Ent.gnO (by repeat first | exact .here | apply Take.there) (fun w hw => Ob.sl_at hw) | exact Ent.gnO (by repeat first | exact .here | apply Take.there) (fun w hw => Ob.row_at hw)) rfl ?_
    refine vcLoad1_0 (xs := [.int .i64 q2]) (Ent.gnO (.there (.there .here)) (fun w hw => Ob.row_at hw)) rfl ?_
    refine vcLoad1_0 (xs := [.int .i64 bs.length]) (Ent.gnO (.there .here) (fun w hw => Ob.row_at hw)) rfl ?_
    refine vcLoad1_0 (xs := [.int .i64 0]) (Ent.gnO .here (fun w hw => Ob.row_at hw)) rfl ?_
    exact ⟨[], _, RowAt Ad (Bs ds), .nil, fun w hN _ => (by repeat first | exact Ent.andR hrd | refine Ent.andL ?_ : Ent _ (RowAt Ad (Bs ds))) w hN, (Ad, cd), (none, 0), (none, 0), (none, 0), rfl, rfl, Ent.refl, fun _ _ => RowAt.nil, fun _ _ => RowAt.nil, fun _ _ => RowAt.nil, hcd, Nat.le_refl _, Nat.le_refl _, Nat.le_refl _⟩
  · have hL' : parseL bs (k : Int) = longP bs x q := by rw [hL, if_neg (by omega)]
    refine vcLoadN_0 (xs := srcC br) (by first | exact Ent.gnO (by repeat first | exact .here | apply Take.there) (fun w hw => Ob.sl_at hw) | exact Ent.gnO (by repeat first | exact .here | apply Take.there) (fun w hw => Ob.row_at hw)) rfl ?_
    refine vcCall_may (.cons (by first | ((repeat (first | exact .here | apply Take.there)); done) | exact .none_) .nil) (word_spec br Ab cb bs q _ (by first | exact Ent.gnO (by repeat first | exact .here | apply Take.there) (fun w hw => Ob.sl_at hw) | exact Ent.gnO (by repeat first | exact .here | apply Take.there) (fun w hw => Ob.row_at hw)) hcb (by omega) hql) (fun ch own' N' hx => ?_) (fun v own' N' hv => ?_)
    · obtain ⟨e, he, rfl, rfl, rfl⟩ := hx
      exact ⟨e, zeroC, 0, 0, 0, _, by rw [hL']; unfold longP; rw [he], rfl, .cons (by first | ((repeat (first | exact .here | apply Take.there)); done) | exact .none_) (.cons (by first | ((repeat (first | exact .here | apply Take.there)); done) | exact .none_) (.cons (by first | ((repeat (first | exact .here | apply Take.there)); done) | exact .none_) (.cons (by first | ((repeat (first | exact .here | apply Take.there)); done) | exact .none_) .nil))), rfl⟩
    obtain ⟨ver, q2, hv2, rfl, rfl, rfl⟩ := hv
    have hq2 : q2 ≤ bs.length := by
      unfold wordP at hv2
      cases ht : takeP bs 4 q with
      | error e => rw [ht] at hv2; cases hv2
      | ok r => rw [ht] at hv2; cases hv2; obtain ⟨_, h2, h3, _⟩ := takeP_ok (xs := r.1) (q := r.2) ht; omega
    refine vcStore1_1 (.row a _ _ _) _ (by first | ((repeat (first | exact .here | apply Take.there)); done) | exact .none_) rfl (by show (1 : Nat) < 7; decide) rfl ?_
    refine vcDraw_mix [0,2,1,3,4,5,6,7] (RowAt (some ⟨b8, 0, none⟩) (srcC br)) (by kernel_rfl) (by first | exact Ent.gnO (by repeat first | exact .here | apply Take.there) (fun w hw => Ob.sl_at hw) | exact Ent.gnO (by repeat first | exact .here | apply Take.there) (fun w hw => Ob.row_at hw)) ?_
    refine vcLoadN_0 (xs := srcC br) Ent.refl rfl ?_
    refine vcLoadN_0 (xs := srcC br) Ent.refl rfl ?_
    refine vcCall_may (.cons (by first | ((repeat (first | exact .here | apply Take.there)); done) | exact .none_) .nil) (cid_spec br Ab cb bs q2 _ (by first | exact Ent.gnO (by repeat first | exact .here | apply Take.there) (fun w hw => Ob.sl_at hw) | exact Ent.gnO (by repeat first | exact .here | apply Take.there) (fun w hw => Ob.row_at hw)) hcb (by omega) hq2) (fun ch own' N' hx => ?_) (fun v own' N' hv => ?_)
    · obtain ⟨e, he, rfl, rfl, rfl⟩ := hx
      exact ⟨e, _, 0, 0, 0, _, by rw [hL']; unfold longP; rw [hv2]; simp only [he], rfl, .cons (by first | ((repeat (first | exact .here | apply Take.there)); done) | exact .none_) (.cons (by first | ((repeat (first | exact .here | apply Take.there)); done) | exact .none_) (.cons (by first | ((repeat (first | exact .here | apply Take.there)); done) | exact .none_) (.cons (by first | ((repeat (first | exact .here | apply Take.there)); done) | exact .none_) .nil))), rfl⟩
    obtain ⟨ds, q3, hd, Ad, cd, rfl, rfl, hrd, hcd⟩ := hv
    have hq3 : q3 ≤ bs.length := by
      unfold cidP at hd
      cases ht : takeP bs 1 q2 with
      | error e => rw [ht] at hd; cases hd
      | ok r =>
        rw [ht] at hd
        simp only at hd
        split at hd
        · cases hd
        · obtain ⟨_, h2, h3, _⟩ := takeP_ok hd; omega
    refine vcMix_same (by first | exact Ent.gnO (by repeat first | exact .here | apply Take.there) (fun w hw => Ob.sl_at hw) | exact Ent.gnO (by repeat first | exact .here | apply Take.there) (fun w hw => Ob.row_at hw)) ?_
    refine vcCall_may (.cons (by first | ((repeat (first | exact .here | apply Take.there)); done) | exact .none_) .nil) (cid_spec br Ab cb bs q3 _ (by first | exact Ent.gnO (by repeat first | exact .here | apply Take.there) (fun w hw => Ob.sl_at hw) | exact Ent.gnO (by repeat first | exact .here | apply Take.there) (fun w hw => Ob.row_at hw)) hcb (by omega) hq3) (fun ch own' N' hx => ?_) (fun v own' N' hv => ?_)
    · obtain ⟨e, he, rfl, rfl, rfl⟩ := hx
      exact ⟨e, _, 0, 0, 0, _, by rw [hL']; unfold longP; rw [hv2]; simp only [hd, he], rfl, .cons (by first | ((repeat (first | exact .here | apply Take.there)); done) | exact .none_) (.cons (by first | ((repeat (first | exact .here | apply Take.there)); done) | exact .none_) (.cons (by first | ((repeat (first | exact .here | apply Take.there)); done) | exact .none_) (.cons (by first | ((repeat (first | exact .here | apply Take.there)); done) | exact .none_) .nil))), rfl⟩
    obtain ⟨ss, q4, hs, As, cs, rfl, rfl, hrs, hcs⟩ := hv
    have hq4 : q4 ≤ bs.length := by
      unfold cidP at hs
      cases ht : takeP bs 1 q3 with
      | error e => rw [ht] at hs; cases hs
      | ok r =>
        rw [ht] at hs
        simp only at hs
        split at hs
        · cases hs
        · obtain ⟨_, h2, h3, _⟩ := takeP_ok hs; omega
    refine vcMix_same (by first | exact Ent.gnO (by repeat first | exact .here | apply Take.there) (fun w hw => Ob.sl_at hw) | exact Ent.gnO (by repeat first | exact .here | apply Take.there) (fun w hw => Ob.row_at hw)) ?_
    refine vcStore1_1 (.row a _ _ _) _ (by first | ((repeat (first | exact .here | apply Take.there)); done) | exact .none_) rfl (by show (2 : Nat) < 7; decide) rfl ?_
    refine vcMix_same (by first | exact Ent.gnO (by repeat first | exact .here | apply Take.there) (fun w hw => Ob.sl_at hw) | exact Ent.gnO (by repeat first | exact .here | apply Take.there) (fun w hw => Ob.row_at hw)) ?_
    refine vcStore1_1 (.row a _ _ _) _ (by first | ((repeat (first | exact .here | apply Take.there)); done) | exact .none_) rfl (by show (3 : Nat) < 7; decide) rfl ?_
    refine vcMix_same (by first | exact Ent.gnO (by repeat first | exact .here | apply Take.there) (fun w hw => Ob.sl_at hw) | exact Ent.gnO (by repeat first | exact .here | apply Take.there) (fun w hw => Ob.row_at hw)) ?_
    have hR : ∀ h q5, restP bs x ver ds ss q4 = .ok (h, q5) → parseL bs (k : Int) = .ok (endP bs (h, q5)) := fun h q5 hh => by
      rw [hL']; unfold longP; rw [hv2]; simp only [hd, hs, hh]
    have hRe : ∀ e, restP bs x ver ds ss q4 = .error e → parseL bs (k : Int) = .error e := fun e hh => by
      rw [hL']; unfold longP; rw [hv2]; simp only [hd, hs, hh]
    have hsm : ver = 0 → bs.length ≤ 70368744177664 := fun hv => by
      rcases hm2 with h | h
      · exact h
      · rw [hq, hv] at hv2
        refine absurd hv2 (h x (bs.drop 1) ?_ (by omega) _)
        cases bs with
        | nil => cases hx0
        | cons y r => cases hx0; rfl
    clear hL hL' hv2 hd hs hpn hq h80
    refine vcCut_of (fun _ : (HdrL × Nat) × Pl × Pl × Pl × Pl => [(0, .slice A bs.length c), (4, .pointer (some ⟨a, 0, none⟩)), (5, .pointer (some ⟨b5, 0, none⟩)), (6, .pointer (some ⟨b6, 0, none⟩)), (7, .pointer (some ⟨b7, 0, none⟩)), (8, .pointer (some ⟨b8, 0, none⟩))])
      (fun g => [hdrO a (hdrOf g.1.1 g.2.1 g.2.2.1 g.2.2.2.1 g.2.2.2.2), .row b5 3 [.int .i64 0] 1, .row b6 3 [.int .i64 0] 1, .row b7 27 [.int .i64 0] 1, .row b8 64 (srcC br) 1, rdO br Ab cb bs.length g.1.2 0, .sl g.2.2.2.2.1 g.2.2.2.2.2 3 1 (g.1.1.vers.map nI)])
      (fun g => MpAnd (RowAt g.2.1.1 (Bs g.1.1.dst)) (MpAnd (RowAt g.2.2.1.1 (Bs g.1.1.src)) (RowAt g.2.2.2.1.1 (Bs g.1.1.tok))))
      (fun g => parseL bs (k : Int) = .ok (endP bs g.1) ∧ g.1.2 ≤ bs.length ∧ g.1.2 + g.1.1.len ≤ bs.length ∧ g.1.1.dst.length ≤ g.2.1.2 ∧ g.1.1.src.length ≤ g.2.2.1.2 ∧ g.1.1.tok.length ≤ g.2.2.2.1.2 ∧ g.1.1.vers.length ≤ g.2.2.2.2.2) ?_ ?_
    · refine vcLoad1_row (j := 1) (v := .int .i64 ver) ((by first | exact Ent.gnO (by repeat first | exact .here | apply Take.there) (fun w hw => Ob.sl_at hw) | exact Ent.gnO (by repeat first | exact .here | apply Take.there) (fun w hw => Ob.row_at hw)) : Ent _ (RowAt (some ⟨a, 0, none⟩) (hdrC 0 ver (Ad, cd, ds) (As, cs, ss) (none, 0, []) (none, 0, []) 0))) rfl ?_
      refine vcIf_dec (fun hv0 => ?_) (fun hv0 => ?_)
      · have hver : ver = 0 := by omega
        subst hver
        have hsm := hsm rfl
        have hE : bs.length = q4 ∨ (bs.length - q4) % 4 ≠ 0 → restP bs x 0 ds ss q4 = .error 54 := fun hh => by unfold restP; rw [if_pos rfl, if_pos hh]
        have hO : ¬ (bs.length = q4 ∨ (bs.length - q4) % 4 ≠ 0) → restP bs x 0 ds ss q4 = .ok (⟨5, 0, ds, ss, [], versL ((bs.length - q4) / 4) (bs.drop q4), 0⟩, bs.length) := fun hh => by unfold restP; rw [if_pos rfl, if_neg hh]
        have hl0 : rleft bs (q4, 0) = ((bs.length - q4 : Nat) : Int) := (if_neg (fun h => h rfl)).trans (by omega)
        refine vcStore1_1 (.row a _ _ _) _ (by first | ((repeat (first | exact .here | apply Take.there)); done) | exact .none_) rfl (by show (0 : Nat) < 7; decide) rfl ?_
        refine vcDraw_mix [0,1,2,3,4,5,6,7,8,9,10,11,12] (RowAt (some ⟨b8, 0, none⟩) (srcC br)) (by kernel_rfl) (by first | exact Ent.gnO (by repeat first | exact .here | apply Take.there) (fun w hw => Ob.sl_at hw) | exact Ent.gnO (by repeat first | exact .here | apply Take.there) (fun w hw => Ob.row_at hw)) ?_
        refine vcLoadN_0 (xs := srcC br) Ent.refl rfl ?_
        refine vcLoad1_row (j := 0) (v := .pointer (some ⟨br, 0, none⟩)) Ent.refl rfl ?_
        refine vcCall_of (.cons (by first | ((repeat (first | exact .here | apply Take.there)); done) | exact .none_) .nil) (left_spec br Ab cb bs q4 0 _ (by omega) hq4) (fun v own' N' hv => ?_)
        obtain ⟨rfl, rfl, rfl⟩ := hv
        refine vcMix_same (by first | exact Ent.gnO (by repeat first | exact .here | apply Take.there) (fun w hw => Ob.sl_at hw) | exact Ent.gnO (by repeat first | exact .here | apply Take.there) (fun w hw => Ob.row_at hw)) ?_
        rw [hl0]
        refine vcIf_dec (fun hpos => ?_) (fun hpos => ?_)
        · repeat (refine vcIf_yes (by rfl) ?_)
          refine vcLoad1_row (j := 0) (v := .pointer (some ⟨br, 0, none⟩)) Ent.refl rfl ?_
          repeat (refine vcIf_yes (by rfl) ?_)
          refine vcCall_of (.cons (by first | ((repeat (first | exact .here | apply Take.there)); done) | exact .none_) .nil) (left_spec br Ab cb bs q4 0 _ (by omega) hq4) (fun v own' N' hv => ?_)
          obtain ⟨rfl, rfl, rfl⟩ := hv
          refine vcMix_same (by first | exact Ent.gnO (by repeat first | exact .here | apply Take.there) (fun w hw => Ob.sl_at hw) | exact Ent.gnO (by repeat first | exact .here | apply Take.there) (fun w hw => Ob.row_at hw)) ?_
          rw [hl0]
          repeat (refine vcIf_yes (by rfl) ?_)
          refine vcRem_pos (by omega) ?_
          repeat (refine vcIf_yes (by rfl) ?_)
          refine vcCall_may (.cons (by first | ((repeat (first | exact .here | apply Take.there)); done) | exact .none_) .nil) (must_spec br Ab cb bs.length q4 0 _ 54 _) (fun ch own' N' hx => ?_) (fun v own' N' hv => ?_)
          · obtain ⟨hh, rfl, rfl, rfl⟩ := hx
            rcases hh with hh | hh
            · exact absurd rfl hh
            · have h4 := of_decide_eq_false hh
              exact ⟨54, _, 0, 0, 0, _, hRe _ (hE (by omega)), rfl, .cons (by first | ((repeat (first | exact .here | apply Take.there)); done) | exact .none_) (.cons (by first | ((repeat (first | exact .here | apply Take.there)); done) | exact .none_) (.cons (by first | ((repeat (first | exact .here | apply Take.there)); done) | exact .none_) (.cons (by first | ((repeat (first | exact .here | apply Take.there)); done) | exact .none_) .nil))), rfl⟩
          obtain ⟨⟨_, hh⟩, rfl, rfl, rfl⟩ := hv
          have h4 := of_decide_eq_true hh
          have hO := hO (by omega)
          refine vcMix_last (by kernel_rfl) ?_
          obtain ⟨m, hm4⟩ : ∃ m, bs.length = q4 + 4 * m := ⟨(bs.length - q4) / 4, by omega⟩
          refine vcLoop_of (fun g : Nat × List Nat × Pl => m - g.1) (fun _ => [(0, .slice A bs.length c), (4, .pointer (some ⟨a, 0, none⟩)), (5, .pointer (some ⟨b5, 0, none⟩)), (6, .pointer (some ⟨b6, 0, none⟩)), (7, .pointer (some ⟨b7, 0, none⟩)), (8, .pointer (some ⟨b8, 0, none⟩))])
            (fun g => [hdrO a (hdrC 5 0 (Ad, cd, ds) (As, cs, ss) (none, 0, []) (g.2.2.1, g.2.2.2, g.2.1) 0), .row b5 3 [.int .i64 0] 1, .row b6 3 [.int .i64 0] 1, .row b7 27 [.int .i64 0] 1, .row b8 64 (srcC br) 1, rdO br Ab cb bs.length (q4 + 4 * g.1) 0, .sl Ab cb 5 1 (Bs bs), .sl g.2.2.1 g.2.2.2 3 1 (g.2.1.map nI)])
            (fun _ => MpAnd (RowAt Ad (Bs ds)) (RowAt As (Bs ss))) (fun g => g.1 ≤ m ∧ g.2.1 = versL g.1 (bs.drop q4) ∧ g.2.1.length = g.1 ∧ g.1 ≤ g.2.2.2) (0, [], none, 0) ⟨Nat.zero_le _, rfl, rfl, Nat.le_refl _⟩
            ⟨rfl, rfl, rfl, rfl, rfl, rfl, trivial⟩ ⟨_, .cons (by first | ((repeat (first | exact .here | apply Take.there)); done) | exact .none_) (.cons (by first | ((repeat (first | exact .here | apply Take.there)); done) | exact .none_) (.cons (by first | ((repeat (first | exact .here | apply Take.there)); done) | exact .none_) (.cons (by first | ((repeat (first | exact .here | apply Take.there)); done) | exact .none_) (.cons (by first | ((repeat (first | exact .here | apply Take.there)); done) | exact .none_) (.cons (by first | ((repeat (first | exact .here | apply Take.there)); done) | exact .none_) (.cons (by first | ((repeat (first | exact .here | apply Take.there)); done) | exact .none_) (.cons (by first | ((repeat (first | exact .here | apply Take.there)); done) | exact .none_) .nil)))))))⟩
            (fun w hw => ⟨(by repeat first | exact Ent.andR hrd | refine Ent.andL ?_ : Ent _ (RowAt Ad (Bs ds))) w hw, (by repeat first | exact Ent.andR hrs | refine Ent.andL ?_ : Ent _ (RowAt As (Bs ss))) w hw⟩) ?_
          rintro ⟨j, vl, Av, cv⟩ ⟨hj, hvl, hvn, hcv⟩
          simp only at hj hvl hvn hcv
          have hp : q4 + 4 * j ≤ bs.length := by omega
          refine vcLoad1_row (j := 0) (v := .pointer (some ⟨br, 0, none⟩)) ((by first | exact Ent.gnO (by repeat first | exact .here | apply Take.there) (fun w hw => Ob.sl_at hw) | exact Ent.gnO (by repeat first | exact .here | apply Take.there) (fun w hw => Ob.row_at hw)) : Ent _ (RowAt (some ⟨b8, 0, none⟩) (srcC br))) rfl ?_
          refine vcCall_of (.cons (by first | ((repeat (first | exact .here | apply Take.there)); done) | exact .none_) .nil) (left_spec br Ab cb bs (q4 + 4 * j) 0 _ (by omega) hp) (fun v own' N' hv => ?_)
          obtain ⟨rfl, rfl, rfl⟩ := hv
          rw [show rleft bs (q4 + 4 * j, 0) = ((bs.length - (q4 + 4 * j) : Nat) : Int) from (if_neg (fun h => h rfl)).trans (by omega)]
          refine vcIf_dec (fun hpos => ?_) (fun hpos => ?_)
          · have hj' : j < m := by omega
            refine vcDraw_mix [0,1,2,3,4,5,6,7] (fun w => RowAt (some ⟨a, 0, none⟩) (hdrC 5 0 (Ad, cd, ds) (As, cs, ss) (none, 0, []) (Av, cv, vl) 0) w ∧ RowAt (some ⟨b8, 0, none⟩) (srcC br) w) (by kernel_rfl) (fun w hw => ⟨((by first | exact Ent.gnO (by repeat first | exact .here | apply Take.there) (fun w hw => Ob.sl_at hw) | exact Ent.gnO (by repeat first | exact .here | apply Take.there) (fun w hw => Ob.row_at hw)) : Ent _ (RowAt (some ⟨a, 0, none⟩) (hdrC 5 0 (Ad, cd, ds) (As, cs, ss) (none, 0, []) (Av, cv, vl) 0))) w hw, ((by first | exact Ent.gnO (by repeat first | exact .here | apply Take.there) (fun w hw => Ob.sl_at hw) | exact Ent.gnO (by repeat first | exact .here | apply Take.there) (fun w hw => Ob.row_at hw)) : Ent _ (RowAt (some ⟨b8, 0, none⟩) (srcC br))) w hw⟩) ?_
            refine vcLoad1_row (j := 5) (v := .slice Av vl.length cv) (fun w hw => hw.1) rfl ?_
            refine vcLoadN_0 (xs := srcC br) (fun w hw => hw.2) rfl ?_
            refine vcCall_may (.cons (by first | ((repeat (first | exact .here | apply Take.there)); done) | exact .none_) .nil) (word_spec br Ab cb bs (q4 + 4 * j) _ (by first | exact Ent.gnO (by repeat first | exact .here | apply Take.there) (fun w hw => Ob.sl_at hw) | exact Ent.gnO (by repeat first | exact .here | apply Take.there) (fun w hw => Ob.row_at hw)) hcb (by omega) hp) (fun ch own' N' hx => ?_) (fun v own' N' hv => ?_)
            · obtain ⟨e, he, rfl, rfl, rfl⟩ := hx
              unfold wordP at he
              rw [show takeP bs 4 (q4 + 4 * j) = .ok ((bs.drop (q4 + 4 * j)).take 4, q4 + 4 * j + 4) from if_neg (by omega)] at he
              cases he
            obtain ⟨wv, q5, hw5, rfl, rfl, rfl⟩ := hv
            have hwv : wv = beval 0 ((bs.drop (q4 + 4 * j)).take 4) ∧ q5 = q4 + 4 * (j + 1) := by
              unfold wordP at hw5
              rw [show takeP bs 4 (q4 + 4 * j) = .ok ((bs.drop (q4 + 4 * j)).take 4, q4 + 4 * j + 4) from if_neg (by omega)] at hw5
              cases hw5
              exact ⟨rfl, by omega⟩
            obtain ⟨hwv, rfl⟩ := hwv
            have hvl' : vl ++ [wv] = versL (j + 1) (bs.drop q4) := by
              unfold versL
              rw [List.range_succ, List.map_append, hvl, hwv, List.map_singleton, List.drop_drop]
              rfl
            refine vcMix_same (fun w hw => ⟨((by first | exact Ent.gnO (by repeat first | exact .here | apply Take.there) (fun w hw => Ob.sl_at hw) | exact Ent.gnO (by repeat first | exact .here | apply Take.there) (fun w hw => Ob.row_at hw)) : Ent _ (RowAt (some ⟨a, 0, none⟩) (hdrC 5 0 (Ad, cd, ds) (As, cs, ss) (none, 0, []) (Av, cv, vl) 0))) w hw, ((by first | exact Ent.gnO (by repeat first | exact .here | apply Take.there) (fun w hw => Ob.sl_at hw) | exact Ent.gnO (by repeat first | exact .here | apply Take.there) (fun w hw => Ob.row_at hw)) : Ent _ (RowAt (some ⟨b8, 0, none⟩) (srcC br))) w hw⟩) ?_
            intro bn
            refine vcMix_same (fun w hw => ⟨((by first | exact Ent.gnO (by repeat first | exact .here | apply Take.there) (fun w hw => Ob.sl_at hw) | exact Ent.gnO (by repeat first | exact .here | apply Take.there) (fun w hw => Ob.row_at hw)) : Ent _ (RowAt (some ⟨a, 0, none⟩) (hdrC 5 0 (Ad, cd, ds) (As, cs, ss) (none, 0, []) (Av, cv, vl) 0))) w hw, ((by first | exact Ent.gnO (by repeat first | exact .here | apply Take.there) (fun w hw => Ob.sl_at hw) | exact Ent.gnO (by repeat first | exact .here | apply Take.there) (fun w hw => Ob.row_at hw)) : Ent _ (RowAt (some ⟨b8, 0, none⟩) (srcC br))) w hw⟩) ?_
            refine vcApp_of (vl.map nI) _ [nI wv] (by first | ((repeat (first | exact .here | apply Take.there)); done) | exact .none_) (by simp) rfl (by decide) (by simp [nI, oneCell]) (by first | exact Ent.gnO (by repeat first | exact .here | apply Take.there) (fun w hw => Ob.sl_at hw) | exact Ent.gnO (by repeat first | exact .here | apply Take.there) (fun w hw => Ob.row_at hw)) (by omega) (by omega) (fun A' cap' hcap => ?_)
            rw [show vl.length + 1 = (vl ++ [wv]).length from by simp, show vl.map nI ++ [nI wv] = (vl ++ [wv]).map nI from by simp]
            refine vcMix_same (fun w hw => ⟨((by first | exact Ent.gnO (by repeat first | exact .here | apply Take.there) (fun w hw => Ob.sl_at hw) | exact Ent.gnO (by repeat first | exact .here | apply Take.there) (fun w hw => Ob.row_at hw)) : Ent _ (RowAt (some ⟨a, 0, none⟩) (hdrC 5 0 (Ad, cd, ds) (As, cs, ss) (none, 0, []) (Av, cv, vl) 0))) w hw, ((by first | exact Ent.gnO (by repeat first | exact .here | apply Take.there) (fun w hw => Ob.sl_at hw) | exact Ent.gnO (by repeat first | exact .here | apply Take.there) (fun w hw => Ob.row_at hw)) : Ent _ (RowAt (some ⟨b8, 0, none⟩) (srcC br))) w hw⟩) ?_
            refine vcStore1_1 (.row a _ _ _) _ (by first | ((repeat (first | exact .here | apply Take.there)); done) | exact .none_) rfl (by show (5 : Nat) < 7; decide) rfl ?_
            refine vcMix_last (by kernel_rfl) ?_
            refine ⟨(j + 1, vl ++ [wv], A', cap'), ⟨hj', hvl', by simp [hvn], by simp only; omega⟩, by simp only; omega, ⟨rfl, rfl, rfl, rfl, rfl, rfl, trivial⟩, ⟨_, .cons (by first | ((repeat (first | exact .here | apply Take.there)); done) | exact .none_) (.cons (by first | ((repeat (first | exact .here | apply Take.there)); done) | exact .none_) (.cons (by first | ((repeat (first | exact .here | apply Take.there)); done) | exact .none_) (.cons (by first | ((repeat (first | exact .here | apply Take.there)); done) | exact .none_) (.cons (by first | ((repeat (first | exact .here | apply Take.there)); done) | exact .none_) (.cons (by first | ((repeat (first | exact .here | apply Take.there)); done) | exact .none_) (.cons (by first | ((repeat (first | exact .here | apply Take.there)); done) | exact .none_) (.cons (by first | ((repeat (first | exact .here | apply Take.there)); done) | exact .none_) .nil)))))))⟩, ?_⟩
            exact fun w hw => hw.1.1
          · have hjm : j = m := by omega
            subst hjm
            have hvl2 : vl = versL ((bs.length - q4) / 4) (bs.drop q4) := by rw [hvl, show (bs.length - q4) / 4 = j from by omega]
            have hq : q4 + 4 * j = bs.length := by omega
            refine ⟨((⟨5, 0, ds, ss, [], vl, 0⟩, q4 + 4 * j), (Ad, cd), (As, cs), (none, 0), (Av, cv)), ⟨hR _ _ (by rw [hvl2, hO, hq]), hp, hp, hcd, hcs, Nat.le_refl _, ?_⟩, ⟨rfl, rfl, rfl, rfl, rfl, rfl, trivial⟩, ⟨_, .cons (by first | ((repeat (first | exact .here | apply Take.there)); done) | exact .none_) (.cons (by first | ((repeat (first | exact .here | apply Take.there)); done) | exact .none_) (.cons (by first | ((repeat (first | exact .here | apply Take.there)); done) | exact .none_) (.cons (by first | ((repeat (first | exact .here | apply Take.there)); done) | exact .none_) (.cons (by first | ((repeat (first | exact .here | apply Take.there)); done) | exact .none_) (.cons (by first | ((repeat (first | exact .here | apply Take.there)); done) | exact .none_) (.cons (by first | ((repeat (first | exact .here | apply Take.there)); done) | exact .none_) .nil))))))⟩, ?_⟩
            · show vl.length ≤ cv
              omega
            · exact fun w hw => ⟨hw.1.1, hw.1.2, RowAt.nil⟩
        · repeat (refine vcIf_no (by rfl) ?_)
          refine vcCall_may (.cons (by first | ((repeat (first | exact .here | apply Take.there)); done) | exact .none_) .nil) (must_spec br Ab cb bs.length q4 0 _ 54 _) (fun ch own' N' hx => ?_) (fun v own' N' hv => ?_)
          · obtain ⟨hh, rfl, rfl, rfl⟩ := hx
            exact ⟨54, _, 0, 0, 0, _, hRe _ (hE (by omega)), rfl, .cons (by first | ((repeat (first | exact .here | apply Take.there)); done) | exact .none_) (.cons (by first | ((repeat (first | exact .here | apply Take.there)); done) | exact .none_) (.cons (by first | ((repeat (first | exact .here | apply Take.there)); done) | exact .none_) (.cons (by first | ((repeat (first | exact .here | apply Take.there)); done) | exact .none_) .nil))), rfl⟩
          · obtain ⟨⟨_, hh⟩, rfl, rfl, rfl⟩ := hv
            cases hh
      refine vcIf_dec (fun hv1 => ?_) (fun hv1 => ?_)
      · refine vcLoadN_0 (xs := srcC br) (by first | exact Ent.gnO (by repeat first | exact .here | apply Take.there) (fun w hw => Ob.sl_at hw) | exact Ent.gnO (by repeat first | exact .here | apply Take.there) (fun w hw => Ob.row_at hw)) rfl ?_
        refine vcBit_as _ (and64 _ hx) ?_
        refine vcCall_may (.cons (by first | ((repeat (first | exact .here | apply Take.there)); done) | exact .none_) .nil) (must_spec br Ab cb bs.length q4 0 _ 62 _) (fun ch own' N' hx => ?_) (fun v own' N' hv => ?_)
        · obtain ⟨hh, rfl, rfl, rfl⟩ := hx
          rcases hh with hh | hh
          · exact absurd rfl hh
          · have h6 : (x.toNat / 64 % 2 * 64 : Nat) = (0 : Int) := by simpa using hh
            exact ⟨62, _, 0, 0, 0, _, hRe _ (by unfold restP; rw [if_neg (by omega), if_pos (by omega), if_pos (by omega)]), rfl, .cons (by first | ((repeat (first | exact .here | apply Take.there)); done) | exact .none_) (.cons (by first | ((repeat (first | exact .here | apply Take.there)); done) | exact .none_) (.cons (by first | ((repeat (first | exact .here | apply Take.there)); done) | exact .none_) (.cons (by first | ((repeat (first | exact .here | apply Take.there)); done) | exact .none_) .nil))), rfl⟩
        obtain ⟨⟨_, hh⟩, rfl, rfl, rfl⟩ := hv
        have h6 : ¬ (x.toNat / 64 % 2 * 64 : Nat) = (0 : Int) := by simpa using hh
        have hk : restP bs x ver ds ss q4 = match kindP bs x q4 with
            | .error e => .error e
            | .ok (tok, l, q) => .ok (⟨kindN x, 1, ds, ss, tok, [], l⟩, q) := by unfold restP; rw [if_neg (by omega), if_pos (by omega), if_neg (by omega)]
        refine vcLoadN_0 (xs := srcC br) (by first | exact Ent.gnO (by repeat first | exact .here | apply Take.there) (fun w hw => Ob.sl_at hw) | exact Ent.gnO (by repeat first | exact .here | apply Take.there) (fun w hw => Ob.row_at hw)) rfl ?_
        refine vcCall_may (.cons (by first | ((repeat (first | exact .here | apply Take.there)); done) | exact .none_) (.cons (by first | ((repeat (first | exact .here | apply Take.there)); done) | exact .none_) .nil)) (kind_spec br a Ab cb bs q4 _ x 0 ver (Ad, cd, ds) (As, cs, ss) (none, 0, []) (by first | exact Ent.gnO (by repeat first | exact .here | apply Take.there) (fun w hw => Ob.sl_at hw) | exact Ent.gnO (by repeat first | exact .here | apply Take.there) (fun w hw => Ob.row_at hw)) hcb (by omega) hq4) (fun ch own' N' hx => ?_) (fun v own' N' hv => ?_)
        · obtain ⟨e, hc7, he, rfl, hl7, rfl, rfl⟩ := hx
          exact ⟨e, hc7, 0, 0, 0, _, hRe _ (by rw [hk, he]), rfl, .cons (by first | ((repeat (first | exact .here | apply Take.there)); done) | exact .none_) (.cons (by first | ((repeat (first | exact .here | apply Take.there)); done) | exact .none_) (.cons (by first | ((repeat (first | exact .here | apply Take.there)); done) | exact .none_) (.cons (by first | ((repeat (first | exact .here | apply Take.there)); done) | exact .none_) .nil))), hl7⟩
        obtain ⟨tok, l, q5, hkk, rfl, At, ct, rfl, hrt, hct⟩ := hv
        have hver : ver = 1 := by omega
        subst hver
        have hq5 : q5 + l ≤ bs.length := kindP_le hkk
        exact ⟨((⟨kindN x, 1, ds, ss, tok, [], l⟩, q5), (Ad, cd), (As, cs), (At, ct), (none, 0)), ⟨hR _ _ (by rw [hk, hkk]), Nat.le_trans (Nat.le_add_right _ _) hq5, hq5, hcd, hcs, hct, Nat.le_refl _⟩, ⟨rfl, rfl, rfl, rfl, rfl, rfl, trivial⟩, ⟨_, .cons (by first | ((repeat (first | exact .here | apply Take.there)); done) | exact .none_) (.cons (by first | ((repeat (first | exact .here | apply Take.there)); done) | exact .none_) (.cons (by first | ((repeat (first | exact .here | apply Take.there)); done) | exact .none_) (.cons (by first | ((repeat (first | exact .here | apply Take.there)); done) | exact .none_) (.cons (by first | ((repeat (first | exact .here | apply Take.there)); done) | exact .none_) (.cons (by first | ((repeat (first | exact .here | apply Take.there)); done) | exact .none_) (.cons (by first | ((repeat (first | exact .here | apply Take.there)); done) | exact .none_) .nil))))))⟩,
          (fun w hw => ⟨(by repeat first | exact Ent.andR hrd | refine Ent.andL ?_ : Ent _ (RowAt Ad (Bs ds))) w hw, (by repeat first | exact Ent.andR hrs | refine Ent.andL ?_ : Ent _ (RowAt As (Bs ss))) w hw, (by repeat first | exact hrt | exact Ent.andR hrt | refine Ent.andL ?_ : Ent _ (RowAt At (Bs tok))) w hw⟩)⟩
      · refine vcStore1_1 (.row a _ _ _) _ (by first | ((repeat (first | exact .here | apply Take.there)); done) | exact .none_) rfl (by show (0 : Nat) < 7; decide) rfl ?_
        exact ⟨((⟨7, ver, ds, ss, [], [], 0⟩, q4), (Ad, cd), (As, cs), (none, 0), (none, 0)), ⟨hR _ _ (by unfold restP; rw [if_neg (by omega), if_neg (by omega)]), hq4, hq4, hcd, hcs, Nat.le_refl _, Nat.le_refl _⟩, ⟨rfl, rfl, rfl, rfl, rfl, rfl, trivial⟩, ⟨_, .cons (by first | ((repeat (first | exact .here | apply Take.there)); done) | exact .none_) (.cons (by first | ((repeat (first | exact .here | apply Take.there)); done) | exact .none_) (.cons (by first | ((repeat (first | exact .here | apply Take.there)); done) | exact .none_) (.cons (by first | ((repeat (first | exact .here | apply Take.there)); done) | exact .none_) (.cons (by first | ((repeat (first | exact .here | apply Take.there)); done) | exact .none_) (.cons (by first | ((repeat (first | exact .here | apply Take.there)); done) | exact .none_) (.cons (by first | ((repeat (first | exact .here | apply Take.there)); done) | exact .none_) .nil))))))⟩,
          (fun w hw => ⟨(by repeat first | exact Ent.andR hrd | refine Ent.andL ?_ : Ent _ (RowAt Ad (Bs ds))) w hw, (by repeat first | exact Ent.andR hrs | refine Ent.andL ?_ : Ent _ (RowAt As (Bs ss))) w hw, RowAt.nil⟩)⟩
    · rintro ⟨⟨h, q5⟩, d, s, t, vs⟩ ⟨hP, hq5, hlen, hd, hs, ht, hvs⟩
      simp only at hP hq5 hlen hd hs ht hvs
      refine vcStore1_0 (.row b6 3 [.int .i64 0] 1) _ (by first | ((repeat (first | exact .here | apply Take.there)); done) | exact .none_) rfl Nat.zero_lt_one rfl ?_
      have hR6 : ∀ {K N'}, Ent (GN G (Ob.row b6 3 [.int .i64 bs.length] 1 :: K) N') (RowAt (some ⟨b6, 0, none⟩) [.int .i64 bs.length]) := (Ent.gnO .here (fun w hw => Ob.row_at hw))
      refine vcCut_of (fun _ : Unit => [(0, .slice A bs.length c), (4, .pointer (some ⟨a, 0, none⟩)), (5, .pointer (some ⟨b5, 0, none⟩)), (6, .pointer (some ⟨b6, 0, none⟩)), (7, .pointer (some ⟨b7, 0, none⟩)), (8, .pointer (some ⟨b8, 0, none⟩))])
        (fun _ => [hdrO a (hdrOf h d s t vs), .row b5 3 [.int .i64 0] 1, .row b6 3 [.int .i64 (endP bs (h, q5)).2.2] 1, .row b7 27 [.int .i64 0] 1, .row b8 64 (srcC br) 1, rdO br Ab cb bs.length q5 0, .sl vs.1 vs.2 3 1 (h.vers.map nI)])
        (fun _ => MpAnd (RowAt d.1 (Bs h.dst)) (MpAnd (RowAt s.1 (Bs h.src)) (RowAt t.1 (Bs h.tok)))) (fun _ => True) ?_ ?_
      · refine vcLoad1_row (j := 6) (v := .int .i64 h.len) ((by first | exact Ent.gnO (by repeat first | exact .here | apply Take.there) (fun w hw => Ob.sl_at hw) | exact Ent.gnO (by repeat first | exact .here | apply Take.there) (fun w hw => Ob.row_at hw)) : Ent _ (RowAt (some ⟨a, 0, none⟩) (hdrOf h d s t vs))) rfl ?_
        refine vcIf_dec (fun hpos => ?_) (fun hpos => ?_)
        · have he : (endP bs (h, q5)).2.2 = q5 + h.len := if_pos (show 0 < h.len by omega)
          refine vcDraw_mix [0,1,3,4,2,5,6] (fun w => RowAt (some ⟨a, 0, none⟩) (hdrOf h d s t vs) w ∧ RowAt (some ⟨b8, 0, none⟩) (srcC br) w) (by kernel_rfl) (fun w hw => ⟨((by first | exact Ent.gnO (by repeat first | exact .here | apply Take.there) (fun w hw => Ob.sl_at hw) | exact Ent.gnO (by repeat first | exact .here | apply Take.there) (fun w hw => Ob.row_at hw)) : Ent _ (RowAt (some ⟨a, 0, none⟩) (hdrOf h d s t vs))) w hw, ((by first | exact Ent.gnO (by repeat first | exact .here | apply Take.there) (fun w hw => Ob.sl_at hw) | exact Ent.gnO (by repeat first | exact .here | apply Take.there) (fun w hw => Ob.row_at hw)) : Ent _ (RowAt (some ⟨b8, 0, none⟩) (srcC br))) w hw⟩) ?_
          refine vcLoad1_row (j := 0) (v := .pointer (some ⟨br, 0, none⟩)) (fun w hw => hw.2) rfl ?_
          refine vcLoad1_row (j := 6) (v := .int .i64 h.len) (fun w hw => hw.1) rfl ?_
          refine vcCall_of (.cons (by first | ((repeat (first | exact .here | apply Take.there)); done) | exact .none_) .nil) (at_spec br Ab cb bs.length q5 0 _) (fun v own' N' hv => ?_)
          obtain ⟨rfl, rfl, rfl⟩ := hv
          refine vcMix_same (fun w hw => ⟨((by first | exact Ent.gnO (by repeat first | exact .here | apply Take.there) (fun w hw => Ob.sl_at hw) | exact Ent.gnO (by repeat first | exact .here | apply Take.there) (fun w hw => Ob.row_at hw)) : Ent _ (RowAt (some ⟨a, 0, none⟩) (hdrOf h d s t vs))) w hw, ((by first | exact Ent.gnO (by repeat first | exact .here | apply Take.there) (fun w hw => Ob.sl_at hw) | exact Ent.gnO (by repeat first | exact .here | apply Take.there) (fun w hw => Ob.row_at hw)) : Ent _ (RowAt (some ⟨b8, 0, none⟩) (srcC br))) w hw⟩) ?_
          refine vcFit_i64 (by omega) ?_
          refine vcStore1_0 (.row b6 3 [.int .i64 bs.length] 1) _ (by first | ((repeat (first | exact .here | apply Take.there)); done) | exact .none_) rfl Nat.zero_lt_one rfl ?_
          refine vcMix_last (by kernel_rfl) ?_
          rw [he]
          exact ⟨(), trivial, ⟨rfl, rfl, rfl, rfl, rfl, rfl, trivial⟩, ⟨_, .cons (by first | ((repeat (first | exact .here | apply Take.there)); done) | exact .none_) (.cons (by first | ((repeat (first | exact .here | apply Take.there)); done) | exact .none_) (.cons (by first | ((repeat (first | exact .here | apply Take.there)); done) | exact .none_) (.cons (by first | ((repeat (first | exact .here | apply Take.there)); done) | exact .none_) (.cons (by first | ((repeat (first | exact .here | apply Take.there)); done) | exact .none_) (.cons (by first | ((repeat (first | exact .here | apply Take.there)); done) | exact .none_) (.cons (by first | ((repeat (first | exact .here | apply Take.there)); done) | exact .none_) .nil))))))⟩, (by repeat first | exact Ent.refl | refine Ent.andL ?_)⟩
        · have he : (endP bs (h, q5)).2.2 = bs.length := if_neg (show ¬ 0 < h.len by omega)
          rw [he]
          exact ⟨(), trivial, ⟨rfl, rfl, rfl, rfl, rfl, rfl, trivial⟩, ⟨_, .cons (by first | ((repeat (first | exact .here | apply Take.there)); done) | exact .none_) (.cons (by first | ((repeat (first | exact .here | apply Take.there)); done) | exact .none_) (.cons (by first | ((repeat (first | exact .here | apply Take.there)); done) | exact .none_) (.cons (by first | ((repeat (first | exact .here | apply Take.there)); done) | exact .none_) (.cons (by first | ((repeat (first | exact .here | apply Take.there)); done) | exact .none_) (.cons (by first | ((repeat (first | exact .here | apply Take.there)); done) | exact .none_) (.cons (by first | ((repeat (first | exact .here | apply Take.there)); done) | exact .none_) .nil))))))⟩, (by repeat first | exact Ent.refl | refine Ent.andL ?_)⟩
      · intro _ _
        have eR : parseT bs (k : Int) = (h, q5, (endP bs (h, q5)).2.2, 0) := parseT_ok hP
        rw [eR]
        refine vcDraw_mix [0,1,2,4,3,5,6,7,8] (fun w => RowAt (some ⟨a, 0, none⟩) (hdrOf h d s t vs) w ∧ RowAt (some ⟨b8, 0, none⟩) (srcC br) w ∧ RowAt (some ⟨b6, 0, none⟩) [.int .i64 (endP bs (h, q5)).2.2] w) (by kernel_rfl) (fun w hw => ⟨((by first | exact Ent.gnO (by repeat first | exact .here | apply Take.there) (fun w hw => Ob.sl_at hw) | exact Ent.gnO (by repeat first | exact .here | apply Take.there) (fun w hw => Ob.row_at hw)) : Ent _ (RowAt (some ⟨a, 0, none⟩) (hdrOf h d s t vs))) w hw, ((by first | exact Ent.gnO (by repeat first | exact .here | apply Take.there) (fun w hw => Ob.sl_at hw) | exact Ent.gnO (by repeat first | exact .here | apply Take.there) (fun w hw => Ob.row_at hw)) : Ent _ (RowAt (some ⟨b8, 0, none⟩) (srcC br))) w hw, ((by first | exact Ent.gnO (by repeat first | exact .here | apply Take.there) (fun w hw => Ob.sl_at hw) | exact Ent.gnO (by repeat first | exact .here | apply Take.there) (fun w hw => Ob.row_at hw)) : Ent _ (RowAt (some ⟨b6, 0, none⟩) [.int .i64 (endP bs (h, q5)).2.2])) w hw⟩) ?_
        refine vcLoadN_0 (xs := hdrOf h d s t vs) (fun w hw => hw.1) rfl ?_
        refine vcLoad1_row (j := 0) (v := .pointer (some ⟨br, 0, none⟩)) (fun w hw => hw.2.1) rfl ?_
        refine vcLoad1_0 (xs := [.int .i64 (endP bs (h, q5)).2.2]) (fun w hw => hw.2.2) rfl ?_
        refine vcCall_of (.cons (by first | ((repeat (first | exact .here | apply Take.there)); done) | exact .none_) .nil) (at_spec br Ab cb bs.length q5 0 _) (fun v own' N' hv => ?_)
        obtain ⟨rfl, rfl, rfl⟩ := hv
        refine vcMix_same (fun w hw => ⟨((by first | exact Ent.gnO (by repeat first | exact .here | apply Take.there) (fun w hw => Ob.sl_at hw) | exact Ent.gnO (by repeat first | exact .here | apply Take.there) (fun w hw => Ob.row_at hw)) : Ent _ (RowAt (some ⟨a, 0, none⟩) (hdrOf h d s t vs))) w hw, ((by first | exact Ent.gnO (by repeat first | exact .here | apply Take.there) (fun w hw => Ob.sl_at hw) | exact Ent.gnO (by repeat first | exact .here | apply Take.there) (fun w hw => Ob.row_at hw)) : Ent _ (RowAt (some ⟨b8, 0, none⟩) (srcC br))) w hw, ((by first | exact Ent.gnO (by repeat first | exact .here | apply Take.there) (fun w hw => Ob.sl_at hw) | exact Ent.gnO (by repeat first | exact .here | apply Take.there) (fun w hw => Ob.row_at hw)) : Ent _ (RowAt (some ⟨b6, 0, none⟩) [.int .i64 (endP bs (h, q5)).2.2])) w hw⟩) ?_
        refine ⟨rfl, vcStoreN_row _ (by first | ((repeat (first | exact .here | apply Take.there)); done) | exact .none_) (by rfl) (by simp [oneCell, cellsL, hdrC, hdrOf]) ?_⟩
        refine vcMix_same (fun w hw => ⟨((by first | exact Ent.gnO (by repeat first | exact .here | apply Take.there) (fun w hw => Ob.sl_at hw) | exact Ent.gnO (by repeat first | exact .here | apply Take.there) (fun w hw => Ob.row_at hw)) : Ent _ (RowAt (some ⟨a, 0, none⟩) (hdrOf h d s t vs))) w hw, ((by first | exact Ent.gnO (by repeat first | exact .here | apply Take.there) (fun w hw => Ob.sl_at hw) | exact Ent.gnO (by repeat first | exact .here | apply Take.there) (fun w hw => Ob.row_at hw)) : Ent _ (RowAt (some ⟨b8, 0, none⟩) (srcC br))) w hw, ((by first | exact Ent.gnO (by repeat first | exact .here | apply Take.there) (fun w hw => Ob.sl_at hw) | exact Ent.gnO (by repeat first | exact .here | apply Take.there) (fun w hw => Ob.row_at hw)) : Ent _ (RowAt (some ⟨b6, 0, none⟩) [.int .i64 (endP bs (h, q5)).2.2])) w hw⟩) ?_
        refine vcStore1_0 (.row b5 3 [.int .i64 0] 1) _ (by first | ((repeat (first | exact .here | apply Take.there)); done) | exact .none_) rfl Nat.zero_lt_one rfl ?_
        refine vcMix_same (fun w hw => ⟨((by first | exact Ent.gnO (by repeat first | exact .here | apply Take.there) (fun w hw => Ob.sl_at hw) | exact Ent.gnO (by repeat first | exact .here | apply Take.there) (fun w hw => Ob.row_at hw)) : Ent _ (RowAt (some ⟨a, 0, none⟩) (hdrOf h d s t vs))) w hw, ((by first | exact Ent.gnO (by repeat first | exact .here | apply Take.there) (fun w hw => Ob.sl_at hw) | exact Ent.gnO (by repeat first | exact .here | apply Take.there) (fun w hw => Ob.row_at hw)) : Ent _ (RowAt (some ⟨b8, 0, none⟩) (srcC br))) w hw, ((by first | exact Ent.gnO (by repeat first | exact .here | apply Take.there) (fun w hw => Ob.sl_at hw) | exact Ent.gnO (by repeat first | exact .here | apply Take.there) (fun w hw => Ob.row_at hw)) : Ent _ (RowAt (some ⟨b6, 0, none⟩) [.int .i64 (endP bs (h, q5)).2.2])) w hw⟩) ?_
        refine vcStore1_0 (.row b6 3 [.int .i64 (endP bs (h, q5)).2.2] 1) _ (by first | ((repeat (first | exact .here | apply Take.there)); done) | exact .none_) rfl Nat.zero_lt_one rfl ?_
        refine vcMix_same (fun w hw => ⟨((by first | exact Ent.gnO (by repeat first | exact .here | apply Take.there) (fun w hw => Ob.sl_at hw) | exact Ent.gnO (by repeat first | exact .here | apply Take.there) (fun w hw => Ob.row_at hw)) : Ent _ (RowAt (some ⟨a, 0, none⟩) (hdrOf h d s t vs))) w hw, ((by first | exact Ent.gnO (by repeat first | exact .here | apply Take.there) (fun w hw => Ob.sl_at hw) | exact Ent.gnO (by repeat first | exact .here | apply Take.there) (fun w hw => Ob.row_at hw)) : Ent _ (RowAt (some ⟨b8, 0, none⟩) (srcC br))) w hw, ((by first | exact Ent.gnO (by repeat first | exact .here | apply Take.there) (fun w hw => Ob.sl_at hw) | exact Ent.gnO (by repeat first | exact .here | apply Take.there) (fun w hw => Ob.row_at hw)) : Ent _ (RowAt (some ⟨b6, 0, none⟩) [.int .i64 (endP bs (h, q5)).2.2])) w hw⟩) ?_
        refine vcStore1_0 (.row b7 27 [.int .i64 0] 1) _ (by first | ((repeat (first | exact .here | apply Take.there)); done) | exact .none_) rfl Nat.zero_lt_one rfl ?_
        refine vcMix_same (fun w hw => ⟨((by first | exact Ent.gnO (by repeat first | exact .here | apply Take.there) (fun w hw => Ob.sl_at hw) | exact Ent.gnO (by repeat first | exact .here | apply Take.there) (fun w hw => Ob.row_at hw)) : Ent _ (RowAt (some ⟨a, 0, none⟩) (hdrOf h d s t vs))) w hw, ((by first | exact Ent.gnO (by repeat first | exact .here | apply Take.there) (fun w hw => Ob.sl_at hw) | exact Ent.gnO (by repeat first | exact .here | apply Take.there) (fun w hw => Ob.row_at hw)) : Ent _ (RowAt (some ⟨b8, 0, none⟩) (srcC br))) w hw, ((by first | exact Ent.gnO (by repeat first | exact .here | apply Take.there) (fun w hw => Ob.sl_at hw) | exact Ent.gnO (by repeat first | exact .here | apply Take.there) (fun w hw => Ob.row_at hw)) : Ent _ (RowAt (some ⟨b6, 0, none⟩) [.int .i64 (endP bs (h, q5)).2.2])) w hw⟩) ?_
        refine vcLoadN_0 (xs := hdrOf h d s t vs) (by first | exact Ent.gnO (by repeat first | exact .here | apply Take.there) (fun w hw => Ob.sl_at hw) | exact Ent.gnO (by repeat first | exact .here | apply Take.there) (fun w hw => Ob.row_at hw)) rfl ?_
        refine vcLoad1_0 (xs := [.int .i64 q5]) (Ent.gnO (.there (.there .here)) (fun w hw => Ob.row_at hw)) rfl ?_
        refine vcLoad1_0 (xs := [.int .i64 (endP bs (h, q5)).2.2]) (Ent.gnO (.there .here) (fun w hw => Ob.row_at hw)) rfl ?_
        refine vcLoad1_0 (xs := [.int .i64 0]) (Ent.gnO .here (fun w hw => Ob.row_at hw)) rfl ?_
        exact ⟨[], _, MpAnd (MpAnd (RowAt d.1 (Bs h.dst)) (MpAnd (RowAt s.1 (Bs h.src)) (RowAt t.1 (Bs h.tok)))) (RowAt vs.1 (h.vers.map nI)), .nil, fun w hN ho => ⟨(by repeat first | exact Ent.refl | refine Ent.andL ?_ : Ent _ (MpAnd (RowAt d.1 (Bs h.dst)) (MpAnd (RowAt s.1 (Bs h.src)) (RowAt t.1 (Bs h.tok))))) w hN, Ob.sl_at (ho (.sl vs.1 vs.2 3 1 (h.vers.map nI)) (by simp))⟩, d, s, t, vs, rfl, rfl, fun w hw => hw.1.1, fun w hw => hw.1.2.1, fun w hw => hw.1.2.2, fun w hw => hw.2, hd, hs, ht, hvs⟩
end Go.Proofs.Ytlobimomeeppeaa
