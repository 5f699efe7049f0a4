/- Headers: the reference's Parse. -/
import Derived.Test.YtlobimomeeppeaaHdrH
namespace Go.Proofs.Ytlobimomeeppeaa
open Go.Proofs
set_option maxRecDepth 10000

theorem restP_ok {bs : List UInt8} {x : UInt8} {v : Nat} {d s : List UInt8} {p : Nat} {h : HdrL} {q : Nat} (hp : p ≤ bs.length) (hr : restP bs x v d s p = .ok (h, q)) :
    q ≤ bs.length ∧ h.dst = d ∧ h.src = s ∧ ((h.kind ≤ 3 ∧ 0 < h.len ∧ q + h.len ≤ bs.length) ∨ (3 < h.kind ∧ h.len = 0)) := by
  unfold restP at hr
  split at hr
  · split at hr
    · cases hr
    · cases hr
      exact ⟨Nat.le_refl _, rfl, rfl, .inr ⟨by show (3 : Int) < 5; decide, rfl⟩⟩
  · split at hr
    · split at hr
      · cases hr
      · cases hk : kindP bs x p with
        | error e => rw [hk] at hr; cases hr
        | ok r =>
          obtain ⟨tok, l, q'⟩ := r
          rw [hk] at hr
          cases hr
          have hle := kindP_le hk
          refine ⟨by omega, rfl, rfl, ?_⟩
          show ((kindN x : Nat) : Int) ≤ 3 ∧ 0 < l ∧ q + l ≤ bs.length ∨ 3 < ((kindN x : Nat) : Int) ∧ l = 0
          unfold kindP at hk
          split at hk
          · rename_i h4
            split at hk
            · cases hk
            · cases hk; exact .inr ⟨by omega, rfl⟩
          · rename_i h4
            have h3 : kindN x ≤ 3 := by unfold kindN at h4 ⊢; omega
            cases ht : tokP bs x p with
            | error e => rw [ht] at hk; cases hk
            | ok r =>
              rw [ht] at hk
              simp only [lenP] at hk
              split at hk
              · cases hk
              · split at hk
                · cases hk
                · rename_i hn
                  cases hk
                  exact .inl ⟨by omega, by omega, hle⟩
    · cases hr
      exact ⟨hp, rfl, rfl, .inr ⟨by show (3 : Int) < 7; decide, rfl⟩⟩

set_option maxHeartbeats 4000000 in
theorem rparse_spec (A : Option Addr) (c : Nat) (bs : List UInt8) (cid : Int) (G : Mp) (h1 : Ent G (RowAt A (Bs bs))) (hc : bs.length ≤ c) (hm : bs.length ≤ 70368744177664) :
    Spec Try.prog 12 #[.slice A bs.length c, .int .i64 cid] [] G (ParsePost (parseT bs cid)) := by
  refine Spec.intro (args := [_, _]) wide Try.func12 rfl Try.call12 (by rfl) (by rfl) (fun w0 hw0 => ?_)
  intro a
  have fin61 : cid < 0 ∨ 20 < cid → parseT bs cid = (hdr0, 0, 0, 61) := fun h => parseT_err (if_pos h)
  refine vcIf_dec (fun h => ?_) (fun h => ?_)
  · repeat (refine vcIf_yes (by rfl) ?_)
    rw [fin61 (.inl h)]
    refine ⟨rfl, vcStoreN_row _ (by first | ((repeat (first | exact .here | apply Take.there)); done) | exact .none_) (by rfl) (by simp [oneCell, cellsL]) ?_⟩
    refine vcLoadN_0 (xs := zeroC) (by first | exact Ent.gnO (by repeat first | exact .here | apply Take.there) (fun w hw => Ob.sl_at hw) | exact Ent.gnO (by repeat first | exact .here | apply Take.there) (fun w hw => Ob.row_at hw)) rfl ?_
    exact ⟨[], _, MT, .nil, fun _ _ _ => trivial, (none, 0), (none, 0), (none, 0), (none, 0), rfl, rfl, HdrM_0 _⟩
  refine vcIf_dec (fun h' => ?_) (fun h' => ?_)
  · repeat (refine vcIf_yes (by rfl) ?_)
    rw [fin61 (.inr h')]
    refine ⟨rfl, vcStoreN_row _ (by first | ((repeat (first | exact .here | apply Take.there)); done) | exact .none_) (by rfl) (by simp [oneCell, cellsL]) ?_⟩
    refine vcLoadN_0 (xs := zeroC) (by first | exact Ent.gnO (by repeat first | exact .here | apply Take.there) (fun w hw => Ob.sl_at hw) | exact Ent.gnO (by repeat first | exact .here | apply Take.there) (fun w hw => Ob.row_at hw)) rfl ?_
    exact ⟨[], _, MT, .nil, fun _ _ _ => trivial, (none, 0), (none, 0), (none, 0), (none, 0), rfl, rfl, HdrM_0 _⟩
  repeat (refine vcIf_no (by rfl) ?_)
  obtain ⟨k, rfl⟩ := Int.eq_ofNat_of_zero_le (Int.not_lt.mp h)
  have hL : parseL bs (k : Int) = parseP bs k := if_neg (by omega)
  clear fin61
  intro br
  refine vcCall_of (.cons (by first | ((repeat (first | exact .here | apply Take.there)); done) | exact .none_) .nil) (rrbyte_spec br A c bs 0 0 _ (Ent.gnG h1) hc (by omega) (Nat.zero_le _)) (fun v own' N' hv => ?_)
  obtain ⟨rfl, rfl, rfl⟩ := hv
  cases ht : takeP bs 1 0 with
  | error e =>
    obtain ⟨hb, rfl⟩ := rbyte_err' ht
    rw [hb]
    refine vcLoad1_row (j := 2) (v := .int .i64 12) ((by first | exact Ent.gnO (by repeat first | exact .here | apply Take.there) (fun w hw => Ob.sl_at hw) | exact Ent.gnO (by repeat first | exact .here | apply Take.there) (fun w hw => Ob.row_at hw)) : Ent _ (RowAt (some ⟨br, 0, none⟩) (rdV A c bs.length 0 12))) rfl ?_
    rw [parseT_err (by rw [hL]; unfold parseP; rw [ht])]
    refine ⟨rfl, vcStoreN_row _ (by first | ((repeat (first | exact .here | apply Take.there)); done) | exact .none_) (by rfl) (by simp [oneCell, cellsL]) ?_⟩
    refine vcLoadN_0 (xs := zeroC) (by first | exact Ent.gnO (by repeat first | exact .here | apply Take.there) (fun w hw => Ob.sl_at hw) | exact Ent.gnO (by repeat first | exact .here | apply Take.there) (fun w hw => Ob.row_at hw)) rfl ?_
    exact ⟨[], _, MT, .nil, fun _ _ _ => trivial, (none, 0), (none, 0), (none, 0), (none, 0), rfl, rfl, HdrM_0 _⟩
  | ok r =>
  obtain ⟨xs, q⟩ := r
  obtain ⟨x, rfl⟩ := take1 ht
  rw [rbyte_ok' ht]
  have hx := x.toNat_lt
  have hql : q ≤ bs.length := by obtain ⟨_, h2, h3, _⟩ := takeP_ok ht; omega
  have hP : parseP bs k = if x.toNat < 128 then shortP bs k x q else longP bs x q := by unfold parseP; rw [ht]; rfl
  rw [hP] at hL
  clear hP ht
  refine vcLoad1_row (j := 2) (v := .int .i64 0) ((by first | exact Ent.gnO (by repeat first | exact .here | apply Take.there) (fun w hw => Ob.sl_at hw) | exact Ent.gnO (by repeat first | exact .here | apply Take.there) (fun w hw => Ob.row_at hw)) : Ent _ (RowAt (some ⟨br, 0, none⟩) (rdV A c bs.length q 0))) rfl ?_
  refine vcIf_dec (fun h80 => ?_) (fun h80 => ?_)
  · have hL' : parseL bs (k : Int) = shortP bs k x q := by rw [hL, if_pos (by omega)]
    refine vcQuo_i64 (by omega) ?_
    refine vcRem_pos (by omega) ?_
    refine vcIf_dec (fun h6 => ?_) (fun h6 => ?_)
    · rw [parseT_err (by rw [hL']; unfold shortP; rw [if_pos (by omega)])]
      refine ⟨rfl, vcStoreN_row _ (by first | ((repeat (first | exact .here | apply Take.there)); done) | exact .none_) (by rfl) (by simp [oneCell, cellsL]) ?_⟩
      refine vcLoadN_0 (xs := zeroC) (by first | exact Ent.gnO (by repeat first | exact .here | apply Take.there) (fun w hw => Ob.sl_at hw) | exact Ent.gnO (by repeat first | exact .here | apply Take.there) (fun w hw => Ob.row_at hw)) rfl ?_
      exact ⟨[], _, MT, .nil, fun _ _ _ => trivial, (none, 0), (none, 0), (none, 0), (none, 0), rfl, rfl, HdrM_0 _⟩
    have hL2 : parseL bs (k : Int) = match takeP bs k q with
        | .error e => .error e
        | .ok (d, q) => .ok (⟨6, 0, d, [], [], [], bs.length - q⟩, q, bs.length) := by rw [hL']; unfold shortP; rw [if_neg (by omega)]; rfl
    refine vcCall_of (.cons (by first | ((repeat (first | exact .here | apply Take.there)); done) | exact .none_) .nil) (rrbytes_spec br A c bs k q 0 _ (Ent.gnG h1) hc (by omega) hql) (fun v own' N' hv => ?_)
    cases hds : takeP bs k q with
    | error e =>
      obtain ⟨hb, rfl⟩ := rbytes_err' hds
      rw [hb] at hv
      obtain ⟨Ad, cd, rfl, rfl, rfl, hcd⟩ := hv
      refine vcLoad1_row (j := 2) (v := .int .i64 12) ((by first | exact Ent.gnO (by repeat first | exact .here | apply Take.there) (fun w hw => Ob.sl_at hw) | exact Ent.gnO (by repeat first | exact .here | apply Take.there) (fun w hw => Ob.row_at hw)) : Ent _ (RowAt (some ⟨br, 0, none⟩) (rdV A c bs.length q 12))) rfl ?_
      rw [parseT_err (by rw [hL2, hds])]
      refine ⟨rfl, vcStoreN_row _ (by first | ((repeat (first | exact .here | apply Take.there)); done) | exact .none_) (by rfl) (by simp [oneCell, cellsL]) ?_⟩
      refine vcLoadN_0 (xs := zeroC) (by first | exact Ent.gnO (by repeat first | exact .here | apply Take.there) (fun w hw => Ob.sl_at hw) | exact Ent.gnO (by repeat first | exact .here | apply Take.there) (fun w hw => Ob.row_at hw)) rfl ?_
      exact ⟨[], _, MT, .nil, fun _ _ _ => trivial, (none, 0), (none, 0), (none, 0), (none, 0), rfl, rfl, HdrM_0 _⟩
    | ok r =>
    obtain ⟨ds, q2⟩ := r
    rw [rbytes_ok' hds] at hv
    obtain ⟨Ad, cd, rfl, rfl, rfl, hcd⟩ := hv
    obtain ⟨_, hq2, hpn2, _⟩ := takeP_ok hds
    rw [hds] at hL2
    refine vcLoad1_row (j := 2) (v := .int .i64 0) ((by first | exact Ent.gnO (by repeat first | exact .here | apply Take.there) (fun w hw => Ob.sl_at hw) | exact Ent.gnO (by repeat first | exact .here | apply Take.there) (fun w hw => Ob.row_at hw)) : Ent _ (RowAt (some ⟨br, 0, none⟩) (rdV A c bs.length q2 0))) rfl ?_
    have eR : parseT bs (k : Int) = (⟨6, 0, ds, [], [], [], bs.length - q2⟩, q2, bs.length, 0) := parseT_ok hL2
    rw [eR]
    refine vcDraw_mix [0,1,4,5,6,7,8,9,2,3,10,11,12,13] (RowAt (some ⟨br, 0, none⟩) (rdV A c bs.length q2 0)) (by kernel_rfl) (by first | exact Ent.gnO (by repeat first | exact .here | apply Take.there) (fun w hw => Ob.sl_at hw) | exact Ent.gnO (by repeat first | exact .here | apply Take.there) (fun w hw => Ob.row_at hw)) ?_
    refine vcLoad1_row (j := 1) (v := .int .i64 q2) Ent.refl rfl ?_
    refine vcCall_of (.cons (by first | ((repeat (first | exact .here | apply Take.there)); done) | exact .none_) .nil) (rleft_spec br A c bs q2 0 _ (by omega) (by omega)) (fun v own' N' hv => ?_)
    obtain ⟨rfl, rfl, rfl⟩ := hv
    rw [show rleft bs (q2, 0) = ((bs.length - q2 : Nat) : Int) from (if_neg (fun h => h rfl)).trans (by omega)]
    refine vcMix_same (by first | exact Ent.gnO (by repeat first | exact .here | apply Take.there) (fun w hw => Ob.sl_at hw) | exact Ent.gnO (by repeat first | exact .here | apply Take.there) (fun w hw => Ob.row_at hw)) ?_
    refine ⟨rfl, vcStoreN_row _ (by first | ((repeat (first | exact .here | apply Take.there)); done) | exact .none_) (by rfl) (by simp [oneCell, cellsL]) ?_⟩
    refine vcMix_same (by first | exact Ent.gnO (by repeat first | exact .here | apply Take.there) (fun w hw => Ob.sl_at hw) | exact Ent.gnO (by repeat first | exact .here | apply Take.there) (fun w hw => Ob.row_at hw)) ?_
    refine vcLoadN_0 (xs := (hdrC 6 0 (Ad, cd, ds) (none, 0, []) (none, 0, []) (none, 0, []) (bs.length - q2 : Nat))) (by first | exact Ent.gnO (by repeat first | exact .here | apply Take.there) (fun w hw => Ob.sl_at hw) | exact Ent.gnO (by repeat first | exact .here | apply Take.there) (fun w hw => Ob.row_at hw)) rfl ?_
    exact ⟨[], _, RowAt Ad (Bs ds), .nil, fun w _ ho => Ob.sl_at (ho (.sl Ad cd 5 1 (Bs ds)) (by simp)), (Ad, cd), (none, 0), (none, 0), (none, 0), rfl, rfl, Ent.refl, fun _ _ => RowAt.nil, fun _ _ => RowAt.nil, fun _ _ => RowAt.nil, hcd, Nat.le_refl _, Nat.le_refl _, Nat.le_refl _⟩
  have hL' : parseL bs (k : Int) = longP bs x q := by rw [hL, if_neg (by omega)]
  refine vcCall_of (.cons (by first | ((repeat (first | exact .here | apply Take.there)); done) | exact .none_) .nil) (rrbytes_spec br A c bs 4 q 0 _ (Ent.gnG h1) hc (by omega) hql) (fun v own' N' hv => ?_)
  cases h4 : takeP bs 4 q with
  | error e =>
    obtain ⟨hb, rfl⟩ := rbytes_err' h4
    rw [show rbytes bs 4 (q, 0) = ([], (q, 12)) from hb] at hv
    obtain ⟨A4, c4, rfl, rfl, rfl, hc4⟩ := hv
    refine vcCall_of .nil (rword_spec A4 c4 [] _ (by first | exact Ent.gnO (by repeat first | exact .here | apply Take.there) (fun w hw => Ob.sl_at hw) | exact Ent.gnO (by repeat first | exact .here | apply Take.there) (fun w hw => Ob.row_at hw)) (Nat.zero_le _)) (fun v own' N' hv => ?_)
    obtain ⟨rfl, rfl, rfl⟩ := hv
    intro bh
    refine ⟨rfl, vcStoreN_row _ (by first | ((repeat (first | exact .here | apply Take.there)); done) | exact .none_) (by rfl) (by simp [oneCell, cellsL]) ?_⟩
    refine vcLoad1_row (j := 2) (v := .int .i64 12) ((by first | exact Ent.gnO (by repeat first | exact .here | apply Take.there) (fun w hw => Ob.sl_at hw) | exact Ent.gnO (by repeat first | exact .here | apply Take.there) (fun w hw => Ob.row_at hw)) : Ent _ (RowAt (some ⟨br, 0, none⟩) (rdV A c bs.length q 12))) rfl ?_
    rw [parseT_err (by rw [hL']; unfold longP wordP; rw [h4])]
    refine ⟨rfl, vcStoreN_row _ (by first | ((repeat (first | exact .here | apply Take.there)); done) | exact .none_) (by rfl) (by simp [oneCell, cellsL]) ?_⟩
    refine vcLoadN_0 (xs := zeroC) (by first | exact Ent.gnO (by repeat first | exact .here | apply Take.there) (fun w hw => Ob.sl_at hw) | exact Ent.gnO (by repeat first | exact .here | apply Take.there) (fun w hw => Ob.row_at hw)) rfl ?_
    exact ⟨[], _, MT, .nil, fun _ _ _ => trivial, (none, 0), (none, 0), (none, 0), (none, 0), rfl, rfl, HdrM_0 _⟩
  | ok r =>
  obtain ⟨ws, q2⟩ := r
  have hw4 := (takeP_ok h4).2.2.2
  have hq2 : q2 ≤ bs.length := by obtain ⟨_, h2, h3, _⟩ := takeP_ok h4; omega
  rw [show rbytes bs 4 (q, 0) = (ws, (q2, 0)) from rbytes_ok' h4] at hv
  obtain ⟨A4, c4, rfl, rfl, rfl, hc4⟩ := hv
  refine vcCall_of .nil (rword_spec A4 c4 ws _ (by first | exact Ent.gnO (by repeat first | exact .here | apply Take.there) (fun w hw => Ob.sl_at hw) | exact Ent.gnO (by repeat first | exact .here | apply Take.there) (fun w hw => Ob.row_at hw)) (by omega)) (fun v own' N' hv => ?_)
  obtain ⟨rfl, rfl, rfl⟩ := hv
  have hW : wordP bs q = .ok (beval 0 ws, q2) := by unfold wordP; rw [h4]
  generalize beval 0 ws = ver at hW
  intro bh
  refine ⟨rfl, vcStoreN_row _ (by first | ((repeat (first | exact .here | apply Take.there)); done) | exact .none_) (by rfl) (by simp [oneCell, cellsL]) ?_⟩
  refine vcLoad1_row (j := 2) (v := .int .i64 0) ((by first | exact Ent.gnO (by repeat first | exact .here | apply Take.there) (fun w hw => Ob.sl_at hw) | exact Ent.gnO (by repeat first | exact .here | apply Take.there) (fun w hw => Ob.row_at hw)) : Ent _ (RowAt (some ⟨br, 0, none⟩) (rdV A c bs.length q2 0))) rfl ?_
  refine vcCall_of (.cons (by first | ((repeat (first | exact .here | apply Take.there)); done) | exact .none_) .nil) (rid_spec br A c bs q2 _ (Ent.gnG h1) hc (by omega) hq2) (fun v own' N' hv => ?_)
  rcases hv with ⟨ds, q3, hd, Ad, cd, rfl, rfl, hrd, hcd⟩ | ⟨e, hd, rfl, he, p', f', rfl, rfl⟩
  rotate_left
  · refine vcStore1_1 (.row bh _ _ _) _ (by first | ((repeat (first | exact .here | apply Take.there)); done) | exact .none_) rfl (by show (2 : Nat) < 7; decide) rfl ?_
    refine vcIf_no he ?_
    refine vcIf_no he ?_
    refine vcIf_nyes he ?_
    rw [parseT_err (e := e) (by rw [hL']; unfold longP; rw [hW]; simp only [hd])]
    refine ⟨rfl, vcStoreN_row _ (by first | ((repeat (first | exact .here | apply Take.there)); done) | exact .none_) (by rfl) (by simp [oneCell, cellsL]) ?_⟩
    refine vcLoadN_0 (xs := zeroC) (by first | exact Ent.gnO (by repeat first | exact .here | apply Take.there) (fun w hw => Ob.sl_at hw) | exact Ent.gnO (by repeat first | exact .here | apply Take.there) (fun w hw => Ob.row_at hw)) rfl ?_
    exact ⟨[], _, MT, .nil, fun _ _ _ => trivial, (none, 0), (none, 0), (none, 0), (none, 0), rfl, rfl, HdrM_0 _⟩
  have hq3 : q3 ≤ bs.length := by
    unfold cidP at hd
    cases ht : takeP bs 1 q2 with
    | error e => rw [ht] at hd; cases hd
    | ok r =>
      rw [ht] at hd
      simp only at hd
      split at hd
      · cases hd
      · obtain ⟨_, h2, h3, _⟩ := takeP_ok hd; omega
  refine vcStore1_1 (.row bh _ _ _) _ (by first | ((repeat (first | exact .here | apply Take.there)); done) | exact .none_) rfl (by show (2 : Nat) < 7; decide) rfl ?_
  refine vcCall_of (.cons (by first | ((repeat (first | exact .here | apply Take.there)); done) | exact .none_) .nil) (rid_spec br A c bs q3 _ (Ent.gnG h1) hc (by omega) hq3) (fun v own' N' hv => ?_)
  rcases hv with ⟨ss, q4, hs, As, cs, rfl, rfl, hrs, hcs⟩ | ⟨e, hs, rfl, he, p', f', rfl, rfl⟩
  rotate_left
  · refine vcStore1_1 (.row bh _ _ _) _ (by first | ((repeat (first | exact .here | apply Take.there)); done) | exact .none_) rfl (by show (3 : Nat) < 7; decide) rfl ?_
    refine vcIf_no he ?_
    refine vcIf_nyes he ?_
    rw [parseT_err (e := e) (by rw [hL']; unfold longP; rw [hW]; simp only [hd, hs])]
    refine ⟨rfl, vcStoreN_row _ (by first | ((repeat (first | exact .here | apply Take.there)); done) | exact .none_) (by rfl) (by simp [oneCell, cellsL]) ?_⟩
    refine vcLoadN_0 (xs := zeroC) (by first | exact Ent.gnO (by repeat first | exact .here | apply Take.there) (fun w hw => Ob.sl_at hw) | exact Ent.gnO (by repeat first | exact .here | apply Take.there) (fun w hw => Ob.row_at hw)) rfl ?_
    exact ⟨[], _, MT, .nil, fun _ _ _ => trivial, (none, 0), (none, 0), (none, 0), (none, 0), rfl, rfl, HdrM_0 _⟩
  have hq4 : q4 ≤ bs.length := by
    unfold cidP at hs
    cases ht : takeP bs 1 q3 with
    | error e => rw [ht] at hs; cases hs
    | ok r =>
      rw [ht] at hs
      simp only at hs
      split at hs
      · cases hs
      · obtain ⟨_, h2, h3, _⟩ := takeP_ok hs; omega
  refine vcStore1_1 (.row bh _ _ _) _ (by first | ((repeat (first | exact .here | apply Take.there)); done) | exact .none_) rfl (by show (3 : Nat) < 7; decide) rfl ?_
  refine vcCall_of (.cons (by first | ((repeat (first | exact .here | apply Take.there)); done) | exact .none_) (.cons (by first | ((repeat (first | exact .here | apply Take.there)); done) | exact .none_) .nil)) (rlong_spec br bh A c bs q4 x ver ds ss Ad As cd cs _ (Ent.gnG h1) hc hm hq4) (fun v own' N' hv => ?_)
  rcases hv with ⟨h, q5, hr, rfl, t, vs, rfl, hrt, hrv, hct, hcv⟩ | ⟨e, hr, rfl, he, hc7, p', f', rfl, hl7, rfl⟩
  rotate_left
  · refine vcIf_nyes he ?_
    rw [parseT_err (e := e) (by rw [hL']; unfold longP; rw [hW]; simp only [hd, hs, hr])]
    refine ⟨rfl, vcStoreN_row _ (by first | ((repeat (first | exact .here | apply Take.there)); done) | exact .none_) (by rfl) (by simp [oneCell, cellsL]) ?_⟩
    refine vcLoadN_0 (xs := zeroC) (by first | exact Ent.gnO (by repeat first | exact .here | apply Take.there) (fun w hw => Ob.sl_at hw) | exact Ent.gnO (by repeat first | exact .here | apply Take.there) (fun w hw => Ob.row_at hw)) rfl ?_
    exact ⟨[], _, MT, .nil, fun _ _ _ => trivial, (none, 0), (none, 0), (none, 0), (none, 0), rfl, rfl, HdrM_0 _⟩
  have hLo : parseL bs (k : Int) = .ok (endP bs (h, q5)) := by rw [hL']; unfold longP; rw [hW]; simp only [hd, hs, hr]
  obtain ⟨hq5, hed, hes, hcase⟩ := restP_ok hq4 hr
  have eR : parseT bs (k : Int) = (h, q5, (endP bs (h, q5)).2.2, 0) := parseT_ok hLo
  rw [eR]
  rw [← hed] at hrd hcd
  rw [← hes] at hrs hcs
  refine vcLoad1_row (j := 0) (v := .int .i64 h.kind) ((by first | exact Ent.gnO (by repeat first | exact .here | apply Take.there) (fun w hw => Ob.sl_at hw) | exact Ent.gnO (by repeat first | exact .here | apply Take.there) (fun w hw => Ob.row_at hw)) : Ent _ (RowAt (some ⟨bh, 0, none⟩) (hdrOf h (Ad, cd) (As, cs) t vs))) rfl ?_
  refine vcIf_dec (fun hk => ?_) (fun hk => ?_)
  · have hlen : 0 < h.len ∧ q5 + h.len ≤ bs.length := by rcases hcase with h | h <;> omega
    have he : (endP bs (h, q5)).2.2 = q5 + h.len := if_pos hlen.1
    rw [he]
    refine vcDraw_mix [0,1,2,3,4,5,6,7,8,9,10,11,12,13,14,15] (fun w => RowAt (some ⟨bh, 0, none⟩) (hdrOf h (Ad, cd) (As, cs) t vs) w ∧ RowAt (some ⟨br, 0, none⟩) (rdV A c bs.length q5 0) w) (by kernel_rfl) (fun w hw => ⟨((by first | exact Ent.gnO (by repeat first | exact .here | apply Take.there) (fun w hw => Ob.sl_at hw) | exact Ent.gnO (by repeat first | exact .here | apply Take.there) (fun w hw => Ob.row_at hw)) : Ent _ (RowAt (some ⟨bh, 0, none⟩) (hdrOf h (Ad, cd) (As, cs) t vs))) w hw, ((by first | exact Ent.gnO (by repeat first | exact .here | apply Take.there) (fun w hw => Ob.sl_at hw) | exact Ent.gnO (by repeat first | exact .here | apply Take.there) (fun w hw => Ob.row_at hw)) : Ent _ (RowAt (some ⟨br, 0, none⟩) (rdV A c bs.length q5 0))) w hw⟩) ?_
    refine vcLoadN_0 (xs := (hdrOf h (Ad, cd) (As, cs) t vs)) (fun w hw => hw.1) rfl ?_
    refine vcLoad1_row (j := 1) (v := .int .i64 q5) (fun w hw => hw.2) rfl ?_
    refine vcLoad1_row (j := 1) (v := .int .i64 q5) (fun w hw => hw.2) rfl ?_
    refine vcLoad1_row (j := 6) (v := .int .i64 h.len) (fun w hw => hw.1) rfl ?_
    refine vcFit_i64 (by omega) ?_
    refine ⟨rfl, vcStoreN_row _ (by first | ((repeat (first | exact .here | apply Take.there)); done) | exact .none_) (by rfl) (by simp [oneCell, cellsL, hdrC, hdrOf]) ?_⟩
    refine vcMix_same (fun w hw => ⟨((by first | exact Ent.gnO (by repeat first | exact .here | apply Take.there) (fun w hw => Ob.sl_at hw) | exact Ent.gnO (by repeat first | exact .here | apply Take.there) (fun w hw => Ob.row_at hw)) : Ent _ (RowAt (some ⟨bh, 0, none⟩) (hdrOf h (Ad, cd) (As, cs) t vs))) w hw, ((by first | exact Ent.gnO (by repeat first | exact .here | apply Take.there) (fun w hw => Ob.sl_at hw) | exact Ent.gnO (by repeat first | exact .here | apply Take.there) (fun w hw => Ob.row_at hw)) : Ent _ (RowAt (some ⟨br, 0, none⟩) (rdV A c bs.length q5 0))) w hw⟩) ?_
    refine vcLoadN_0 (xs := (hdrOf h (Ad, cd) (As, cs) t vs)) ((by first | exact Ent.gnO (by repeat first | exact .here | apply Take.there) (fun w hw => Ob.sl_at hw) | exact Ent.gnO (by repeat first | exact .here | apply Take.there) (fun w hw => Ob.row_at hw)) : Ent _ (RowAt (some ⟨a, 0, none⟩) (hdrOf h (Ad, cd) (As, cs) t vs))) rfl ?_
    exact ⟨[], _, MpAnd (MpAnd (RowAt Ad (Bs h.dst)) (RowAt As (Bs h.src))) (MpAnd (RowAt t.1 (Bs h.tok)) (RowAt vs.1 (h.vers.map nI))), .nil, fun w hN _ => ⟨⟨(by repeat first | exact Ent.andR hrd | refine Ent.andL ?_ : Ent _ (RowAt Ad (Bs h.dst))) w hN, (by repeat first | exact Ent.andR hrs | refine Ent.andL ?_ : Ent _ (RowAt As (Bs h.src))) w hN⟩, (by repeat first | exact Ent.andR hrt | refine Ent.andL ?_ : Ent _ (RowAt t.1 (Bs h.tok))) w hN, (by repeat first | exact Ent.andR hrv | refine Ent.andL ?_ : Ent _ (RowAt vs.1 (h.vers.map nI))) w hN⟩, (Ad, cd), (As, cs), t, vs, rfl, rfl, fun w hw => hw.1.1, fun w hw => hw.1.2, fun w hw => hw.2.1, fun w hw => hw.2.2, hcd, hcs, hct, hcv⟩
  · have hlen : h.len = 0 := by rcases hcase with h | h <;> omega
    have he : (endP bs (h, q5)).2.2 = bs.length := if_neg (show ¬ 0 < h.len by omega)
    rw [he]
    refine vcDraw_mix [0,1,2,3,4,5,6,7,8,9,10] (fun w => RowAt (some ⟨bh, 0, none⟩) (hdrOf h (Ad, cd) (As, cs) t vs) w ∧ RowAt (some ⟨br, 0, none⟩) (rdV A c bs.length q5 0) w) (by kernel_rfl) (fun w hw => ⟨((by first | exact Ent.gnO (by repeat first | exact .here | apply Take.there) (fun w hw => Ob.sl_at hw) | exact Ent.gnO (by repeat first | exact .here | apply Take.there) (fun w hw => Ob.row_at hw)) : Ent _ (RowAt (some ⟨bh, 0, none⟩) (hdrOf h (Ad, cd) (As, cs) t vs))) w hw, ((by first | exact Ent.gnO (by repeat first | exact .here | apply Take.there) (fun w hw => Ob.sl_at hw) | exact Ent.gnO (by repeat first | exact .here | apply Take.there) (fun w hw => Ob.row_at hw)) : Ent _ (RowAt (some ⟨br, 0, none⟩) (rdV A c bs.length q5 0))) w hw⟩) ?_
    refine vcLoadN_0 (xs := (hdrOf h (Ad, cd) (As, cs) t vs)) (fun w hw => hw.1) rfl ?_
    refine vcLoad1_row (j := 1) (v := .int .i64 q5) (fun w hw => hw.2) rfl ?_
    refine ⟨rfl, vcStoreN_row _ (by first | ((repeat (first | exact .here | apply Take.there)); done) | exact .none_) (by rfl) (by simp [oneCell, cellsL, hdrC, hdrOf]) ?_⟩
    refine vcMix_same (fun w hw => ⟨((by first | exact Ent.gnO (by repeat first | exact .here | apply Take.there) (fun w hw => Ob.sl_at hw) | exact Ent.gnO (by repeat first | exact .here | apply Take.there) (fun w hw => Ob.row_at hw)) : Ent _ (RowAt (some ⟨bh, 0, none⟩) (hdrOf h (Ad, cd) (As, cs) t vs))) w hw, ((by first | exact Ent.gnO (by repeat first | exact .here | apply Take.there) (fun w hw => Ob.sl_at hw) | exact Ent.gnO (by repeat first | exact .here | apply Take.there) (fun w hw => Ob.row_at hw)) : Ent _ (RowAt (some ⟨br, 0, none⟩) (rdV A c bs.length q5 0))) w hw⟩) ?_
    refine vcLoadN_0 (xs := (hdrOf h (Ad, cd) (As, cs) t vs)) ((by first | exact Ent.gnO (by repeat first | exact .here | apply Take.there) (fun w hw => Ob.sl_at hw) | exact Ent.gnO (by repeat first | exact .here | apply Take.there) (fun w hw => Ob.row_at hw)) : Ent _ (RowAt (some ⟨a, 0, none⟩) (hdrOf h (Ad, cd) (As, cs) t vs))) rfl ?_
    exact ⟨[], _, MpAnd (MpAnd (RowAt Ad (Bs h.dst)) (RowAt As (Bs h.src))) (MpAnd (RowAt t.1 (Bs h.tok)) (RowAt vs.1 (h.vers.map nI))), .nil, fun w hN _ => ⟨⟨(by repeat first | exact Ent.andR hrd | refine Ent.andL ?_ : Ent _ (RowAt Ad (Bs h.dst))) w hN, (by repeat first | exact Ent.andR hrs | refine Ent.andL ?_ : Ent _ (RowAt As (Bs h.src))) w hN⟩, (by repeat first | exact Ent.andR hrt | refine Ent.andL ?_ : Ent _ (RowAt t.1 (Bs h.tok))) w hN, (by repeat first | exact Ent.andR hrv | refine Ent.andL ?_ : Ent _ (RowAt vs.1 (h.vers.map nI))) w hN⟩, (Ad, cd), (As, cs), t, vs, rfl, rfl, fun w hw => hw.1.1, fun w hw => hw.1.2, fun w hw => hw.2.1, fun w hw => hw.2.2, hcd, hcs, hct, hcv⟩
end Go.Proofs.Ytlobimomeeppeaa
