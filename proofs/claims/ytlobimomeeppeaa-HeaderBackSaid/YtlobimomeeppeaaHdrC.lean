/- Headers: what stands behind the ids of a long header of our version. -/
import Derived.Test.YtlobimomeeppeaaHdrB
namespace Go.Proofs.Ytlobimomeeppeaa
open Go.Proofs
set_option maxRecDepth 10000

abbrev SlB := Option Addr × Nat × List UInt8
abbrev SlI := Option Addr × Nat × List Nat
/-- A header as it lies in memory. -/
def hdrC (k ver : Int) (d s t : SlB) (vs : SlI) (l : Int) : List Value := [.int .i64 k, .int .i64 ver, .slice d.1 d.2.2.length d.2.1, .slice s.1 s.2.2.length s.2.1, .slice t.1 t.2.2.length t.2.1, .slice vs.1 vs.2.2.length vs.2.1, .int .i64 l]
def hdrO (b : Nat) (cs : List Value) : Ob := .row b 26 cs 7
def kindN (first : UInt8) : Nat := first.toNat / 16 % 4 + 1
def tokP (bs : List UInt8) (first : UInt8) (p : Nat) : Except Int (List UInt8 × Nat) := if kindN first = 1 then (match numP bs p with
    | .error e => .error e
    | .ok (n, q) => takeP bs n q) else .ok ([], p)
def lenP (bs : List UInt8) (tok : List UInt8) (q : Nat) : Except Int (List UInt8 × Nat × Nat) := match numP bs q with
  | .error e => .error e
  | .ok (l, r) => if l = 0 ∨ bs.length < r + l then .error 54 else .ok (tok, l, r)
def kindP (bs : List UInt8) (first : UInt8) (p : Nat) : Except Int (List UInt8 × Nat × Nat) :=
  if kindN first = 4 then (if bs.length < p + 16 then .error 12 else .ok ((bs.drop p).take (bs.length - p - 16), 0, bs.length - 16))
  else match tokP bs first p with
    | .error e => .error e
    | .ok (tok, q) => lenP bs tok q
theorem tokP_le {bs : List UInt8} {first : UInt8} {p q : Nat} {xs : List UInt8} (hp : p ≤ bs.length) (h : tokP bs first p = .ok (xs, q)) : q ≤ bs.length := by
  unfold tokP at h
  split at h
  · split at h
    · cases h
    · exact (takeP_ok h).2.1 ▸ (takeP_ok h).2.2.1
  · cases h; exact hp
theorem first_kind (x : UInt8) : bitI .and .u8 ((x.toNat : Int) / 2 ^ 4) 3 = ((x.toNat / 16 % 4 : Nat) : Int) := by
  have := x.toNat_lt
  rw [show (x.toNat : Int) / 2 ^ 4 = ((x.toNat / 16 : Nat) : Int) from by omega, show (3 : Int) = ((3 : Nat) : Int) from rfl, bitI_and (by rw [max_u8]; omega) (by rw [max_u8]; omega)]
  rw [show (3 : Nat) = 2 ^ 2 - 1 from rfl, Nat.and_two_pow_sub_one_eq_mod]

def IsErrH {α : Type} (bh : Nat) (r : Except Int α) : XK := fun ch own N => ∃ e cs, r = .error e ∧ ch = [pE e] ∧ cs.length = 7 ∧ own = [hdrO bh cs] ∧ N = MT
def KindOk (b bh : Nat) (A : Option Addr) (c : Nat) (bs : List UInt8) (k : Int) (ver : Int) (d s : SlB) (vs : SlI) (r : Except Int (List UInt8 × Nat × Nat)) (v : Value) (own : List Ob) (N : Mp) : Prop :=
  ∃ tok l q, r = .ok (tok, l, q) ∧ v = .tuple #[] ∧ ∃ At ct, own = [rdO b A c bs.length q 0, hdrO bh (hdrC k ver d s (At, ct, tok) vs l)] ∧ Ent N (RowAt At (Bs tok)) ∧ tok.length ≤ ct

set_option maxHeartbeats 2000000 in
theorem kind_spec (b bh : Nat) (A : Option Addr) (c : Nat) (bs : List UInt8) (p : Nat) (G : Mp) (first : UInt8) (k0 ver : Int) (d s : SlB) (vs : SlI) (h1 : Ent G (RowAt A (Bs bs))) (hc : bs.length ≤ c) (hm : bs.length ≤ 211106232532992) (hp : p ≤ bs.length) :
    SpecE Try.prog 35 #[srcV b, .pointer (some ⟨bh, 0, none⟩), .int .u8 first.toNat] [rdO b A c bs.length p 0, hdrO bh (hdrC k0 ver d s (none, 0, []) vs 0)] G (KindOk b bh A c bs (kindN first) ver d s vs (kindP bs first p)) (IsErrH bh (kindP bs first p)) := by
  refine SpecE.introC (args := [_, _, _]) wide Try.func35 rfl Try.call35 (by rfl) (by rfl) [8] (fun w0 hw0 => ?_)
  intro bx
  have hx := first.toNat_lt
  have hkn : ((first.toNat / 16 % 4 : Nat) : Int) + 1 = ((kindN first : Nat) : Int) := by unfold kindN; omega
  refine vcCut_of (fun _ : List UInt8 × Nat × Option Addr × Nat => [(1, .pointer (some ⟨bh, 0, none⟩)), (3, .pointer (some ⟨bx, 0, none⟩))])
    (fun g => [.row bx 64 (srcC b) 1, rdO b A c bs.length g.2.1 0, hdrO bh (hdrC (kindN first) ver d s (g.2.2.1, g.2.2.2, g.1) vs 0)]) (fun g => RowAt g.2.2.1 (Bs g.1)) (fun g => kindN first ≠ 4 ∧ tokP bs first p = .ok (g.1, g.2.1) ∧ g.1.length ≤ g.2.2.2) ?_ ?_
  · refine vcShr_lit 4 rfl (by decide) ?_
    refine vcBit_as _ (first_kind first) ?_
    refine vcFit_i64 (by omega) ?_
    refine vcFit_i64 (by omega) ?_
    refine vcStore1_1 (.row bh _ _ _) _ (by first | ((repeat (first | exact .here | apply Take.there)); done) | exact .none_) rfl (by show (0 : Nat) < 7; decide) rfl ?_
    refine vcLoad1_row (j := 0) (v := .int .i64 (((first.toNat / 16 % 4 : Nat) : Int) + 1)) ((Ent.gnO .here (fun w hw => Ob.row_at hw)) : Ent _ (RowAt (some ⟨bh, 0, none⟩) _)) rfl ?_
    refine vcIf_dec (fun h4 => ?_) (fun h4 => ?_)
    · refine vcDraw_mix [0,1,2,3,4,5] (RowAt (some ⟨bx, 0, none⟩) (srcC b)) (by kernel_rfl) (by first | exact Ent.gnO (by repeat first | exact .here | apply Take.there) (fun w hw => Ob.sl_at hw) | exact Ent.gnO (by repeat first | exact .here | apply Take.there) (fun w hw => Ob.row_at hw)) ?_
      refine vcLoadN_0 (xs := srcC b) Ent.refl rfl ?_
      refine vcLoad1_row (j := 0) (v := .pointer (some ⟨b, 0, none⟩)) Ent.refl rfl ?_
      refine vcCall_of (.cons (by first | ((repeat (first | exact .here | apply Take.there)); done) | exact .none_) .nil) (left_spec b A c bs p 0 _ hm hp) (fun v own' N' hv => ?_)
      obtain ⟨rfl, rfl, rfl⟩ := hv
      refine vcMix_same (by first | exact Ent.gnO (by repeat first | exact .here | apply Take.there) (fun w hw => Ob.sl_at hw) | exact Ent.gnO (by repeat first | exact .here | apply Take.there) (fun w hw => Ob.row_at hw)) ?_
      rw [show rleft bs (p, 0) = (bs.length : Int) - p from if_neg (fun h => h rfl)]
      have hk4 : kindN first = 4 := by omega
      refine vcCall_may (.cons (by first | ((repeat (first | exact .here | apply Take.there)); done) | exact .none_) .nil) (must_spec b A c bs.length p 0 _ 12 _) (fun ch own' N' hx => ?_) (fun v own' N' hv => ?_)
      · obtain ⟨h, rfl, rfl, rfl⟩ := hx
        rcases h with h | h
        · exact absurd rfl h
        · have h16 := of_decide_eq_false h
          exact ⟨[_], _, MT, .cons (by first | ((repeat (first | exact .here | apply Take.there)); done) | exact .none_) .nil, fun _ _ _ => trivial, 12, _, by unfold kindP; rw [if_pos hk4, if_pos (by omega)], rfl, rfl, rfl, rfl⟩
      · obtain ⟨⟨_, h⟩, rfl, rfl, rfl⟩ := hv
        have h16 := of_decide_eq_true h
        refine vcMix_same (by first | exact Ent.gnO (by repeat first | exact .here | apply Take.there) (fun w hw => Ob.sl_at hw) | exact Ent.gnO (by repeat first | exact .here | apply Take.there) (fun w hw => Ob.row_at hw)) ?_
        refine vcDraw_mix [0,1,2,3,4,5,6,7,8,9] (RowAt (some ⟨bx, 0, none⟩) (srcC b)) (by kernel_rfl) (by first | exact Ent.gnO (by repeat first | exact .here | apply Take.there) (fun w hw => Ob.sl_at hw) | exact Ent.gnO (by repeat first | exact .here | apply Take.there) (fun w hw => Ob.row_at hw)) ?_
        refine vcLoadN_0 (xs := srcC b) Ent.refl rfl ?_
        refine vcLoad1_row (j := 0) (v := .pointer (some ⟨b, 0, none⟩)) Ent.refl rfl ?_
        refine vcCall_of (.cons (by first | ((repeat (first | exact .here | apply Take.there)); done) | exact .none_) .nil) (left_spec b A c bs p 0 _ hm hp) (fun v own' N' hv => ?_)
        obtain ⟨rfl, rfl, rfl⟩ := hv
        refine vcMix_same (by first | exact Ent.gnO (by repeat first | exact .here | apply Take.there) (fun w hw => Ob.sl_at hw) | exact Ent.gnO (by repeat first | exact .here | apply Take.there) (fun w hw => Ob.row_at hw)) ?_
        rw [show rleft bs (p, 0) = (bs.length : Int) - p from if_neg (fun h => h rfl)]
        refine vcFit_i64 (by omega) ?_
        have e16 : (bs.length : Int) - p - 16 = ((bs.length - p - 16 : Nat) : Int) := by omega
        rw [e16]
        refine vcCall_may (.cons (by first | ((repeat (first | exact .here | apply Take.there)); done) | exact .none_) .nil) (take_spec b A c bs p _ (bs.length - p - 16) (Ent.gnG h1) hc hm hp) (fun ch own' N' hx => ?_) (fun v own' N' hv => ?_)
        · obtain ⟨e, he, _⟩ := hx
          have := (takeP_err he).2
          omega
        · obtain ⟨xs, q, hxq, A', c', rfl, rfl, hr, hc'⟩ := hv
          obtain ⟨hxs, hq, _, _⟩ := takeP_ok hxq
          refine vcMix_same (by first | exact Ent.gnO (by repeat first | exact .here | apply Take.there) (fun w hw => Ob.sl_at hw) | exact Ent.gnO (by repeat first | exact .here | apply Take.there) (fun w hw => Ob.row_at hw)) ?_
          refine vcStore1_1 (.row bh _ _ _) _ (by first | ((repeat (first | exact .here | apply Take.there)); done) | exact .none_) rfl (by show (4 : Nat) < 7; decide) rfl ?_
          refine vcMix_last (by kernel_rfl) ?_
          refine ⟨_, _, RowAt A' (Bs xs), .cons (by first | ((repeat (first | exact .here | apply Take.there)); done) | exact .none_) (.cons (by first | ((repeat (first | exact .here | apply Take.there)); done) | exact .none_) .nil), fun w hN _ => (by repeat first | exact Ent.andR hr | refine Ent.andL ?_ : Ent _ (RowAt A' (Bs xs))) w hN, xs, 0, q, ?_, rfl, A', c', rfl, Ent.refl, hc'⟩
          unfold kindP
          rw [if_pos hk4, if_neg (by omega), ← hxs, show bs.length - 16 = q from by omega]
    · have hk4 : kindN first ≠ 4 := by omega
      refine vcIf_dec (fun h1k => ?_) (fun h1k => ?_)
      · have hk1 : kindN first = 1 := by omega
        refine vcDraw_mix [0,1,2,3,4,5,6,7] (RowAt (some ⟨bx, 0, none⟩) (srcC b)) (by kernel_rfl) (by first | exact Ent.gnO (by repeat first | exact .here | apply Take.there) (fun w hw => Ob.sl_at hw) | exact Ent.gnO (by repeat first | exact .here | apply Take.there) (fun w hw => Ob.row_at hw)) ?_
        refine vcLoadN_0 (xs := srcC b) Ent.refl rfl ?_
        refine vcLoadN_0 (xs := srcC b) Ent.refl rfl ?_
        refine vcCall_may (.cons (by first | ((repeat (first | exact .here | apply Take.there)); done) | exact .none_) .nil) (num_spec b A c bs p _ (Ent.gnG h1) hc hm hp) (fun ch own' N' hx => ?_) (fun v own' N' hv => ?_)
        · obtain ⟨e, he, rfl, rfl, rfl⟩ := hx
          exact ⟨[_], _, MT, .cons (by first | ((repeat (first | exact .here | apply Take.there)); done) | exact .none_) .nil, fun _ _ _ => trivial, e, _, by unfold kindP tokP; rw [if_neg hk4, if_pos hk1, he], rfl, rfl, rfl, rfl⟩
        · obtain ⟨n, q, hnq, rfl, rfl, rfl⟩ := hv
          have hql := (numP_ok hp hnq).2
          refine vcMix_same (by first | exact Ent.gnO (by repeat first | exact .here | apply Take.there) (fun w hw => Ob.sl_at hw) | exact Ent.gnO (by repeat first | exact .here | apply Take.there) (fun w hw => Ob.row_at hw)) ?_
          refine vcCall_may (.cons (by first | ((repeat (first | exact .here | apply Take.there)); done) | exact .none_) .nil) (take_spec b A c bs q _ n (Ent.gnG h1) hc hm hql) (fun ch own' N' hx => ?_) (fun v own' N' hv => ?_)
          · obtain ⟨e, he, rfl, rfl, rfl⟩ := hx
            exact ⟨[_], _, MT, .cons (by first | ((repeat (first | exact .here | apply Take.there)); done) | exact .none_) .nil, fun _ _ _ => trivial, e, _, by unfold kindP tokP; rw [if_neg hk4, if_pos hk1, hnq]; simp only [he], rfl, rfl, rfl, rfl⟩
          · obtain ⟨xs, r, hxr, A', c', rfl, rfl, hr, hc'⟩ := hv
            refine vcMix_same (by first | exact Ent.gnO (by repeat first | exact .here | apply Take.there) (fun w hw => Ob.sl_at hw) | exact Ent.gnO (by repeat first | exact .here | apply Take.there) (fun w hw => Ob.row_at hw)) ?_
            refine vcStore1_1 (.row bh _ _ _) _ (by first | ((repeat (first | exact .here | apply Take.there)); done) | exact .none_) rfl (by show (4 : Nat) < 7; decide) rfl ?_
            refine vcMix_last (by kernel_rfl) ?_
            exact ⟨(xs, r, A', c'), ⟨hk4, by unfold tokP; rw [if_pos hk1, hnq]; exact hxr, hc'⟩, ⟨rfl, rfl, trivial⟩, ⟨_, .cons (by first | ((repeat (first | exact .here | apply Take.there)); done) | exact .none_) (.cons (by first | ((repeat (first | exact .here | apply Take.there)); done) | exact .none_) (.cons (by first | ((repeat (first | exact .here | apply Take.there)); done) | exact .none_) .nil))⟩, (by repeat first | exact Ent.andR hr | refine Ent.andL ?_)⟩
      · exact ⟨([], p, none, 0), ⟨hk4, if_neg (by omega), Nat.le_refl _⟩, ⟨rfl, rfl, trivial⟩, ⟨_, .cons (by first | ((repeat (first | exact .here | apply Take.there)); done) | exact .none_) (.cons (by first | ((repeat (first | exact .here | apply Take.there)); done) | exact .none_) (.cons (by first | ((repeat (first | exact .here | apply Take.there)); done) | exact .none_) .nil))⟩, fun _ _ => RowAt.nil⟩
  · rintro ⟨tok, q, At, ct⟩ ⟨hk4, htq, hct⟩
    simp only at htq hct
    have hql := tokP_le hp htq
    have hkP : kindP bs first p = lenP bs tok q := by unfold kindP; rw [if_neg hk4, htq]
    rw [hkP]
    refine vcLoadN_0 (xs := srcC b) (by first | exact Ent.gnO (by repeat first | exact .here | apply Take.there) (fun w hw => Ob.sl_at hw) | exact Ent.gnO (by repeat first | exact .here | apply Take.there) (fun w hw => Ob.row_at hw)) rfl ?_
    refine vcCall_may (.cons (by first | ((repeat (first | exact .here | apply Take.there)); done) | exact .none_) .nil) (num_spec b A c bs q _ (Ent.gnG h1) hc hm hql) (fun ch own' N' hx => ?_) (fun v own' N' hv => ?_)
    · obtain ⟨e, he, rfl, rfl, rfl⟩ := hx
      exact ⟨[_], _, MT, .cons (by first | ((repeat (first | exact .here | apply Take.there)); done) | exact .none_) .nil, fun _ _ _ => trivial, e, _, by unfold lenP; rw [he], rfl, rfl, rfl, rfl⟩
    · obtain ⟨n, r, hnr, rfl, rfl, rfl⟩ := hv
      have hrl := (numP_ok hql hnr).2
      refine vcStore1_1 (.row bh _ _ _) _ (by first | ((repeat (first | exact .here | apply Take.there)); done) | exact .none_) rfl (by show (6 : Nat) < 7; decide) rfl ?_
      refine vcDraw_mix [0,1,2,3,4,5,6,7,8,9,10,11,12,13,14,15,16] (fun w => RowAt (some ⟨bx, 0, none⟩) (srcC b) w ∧ RowAt (some ⟨bh, 0, none⟩) (hdrC (kindN first) ver d s (At, ct, tok) vs n) w) (by kernel_rfl) (fun w hw => ⟨((by first | exact Ent.gnO (by repeat first | exact .here | apply Take.there) (fun w hw => Ob.sl_at hw) | exact Ent.gnO (by repeat first | exact .here | apply Take.there) (fun w hw => Ob.row_at hw)) : Ent _ (RowAt (some ⟨bx, 0, none⟩) (srcC b))) w hw, ((by first | exact Ent.gnO (by repeat first | exact .here | apply Take.there) (fun w hw => Ob.sl_at hw) | exact Ent.gnO (by repeat first | exact .here | apply Take.there) (fun w hw => Ob.row_at hw)) : Ent _ (RowAt (some ⟨bh, 0, none⟩) (hdrC (kindN first) ver d s (At, ct, tok) vs n))) w hw⟩) ?_
      refine vcLoadN_0 (xs := srcC b) (fun w hw => hw.1) rfl ?_
      refine vcLoad1_row (j := 6) (v := .int .i64 n) (fun w hw => hw.2) rfl ?_
      have hE : n = 0 ∨ bs.length < r + n → lenP bs tok q = .error 54 := fun h => by unfold lenP; rw [hnr]; simp only; rw [if_pos h]
      refine vcIf_dec (fun h0 => ?_) (fun h0 => ?_)
      · repeat (refine vcIf_yes (by rfl) ?_)
        refine vcLoad1_row (j := 6) (v := .int .i64 n) (fun w hw => hw.2) rfl ?_
        repeat (refine vcIf_yes (by rfl) ?_)
        refine vcLoad1_row (j := 0) (v := .pointer (some ⟨b, 0, none⟩)) (fun w hw => hw.1) rfl ?_
        repeat (refine vcIf_yes (by rfl) ?_)
        refine vcCall_of (.cons (by first | ((repeat (first | exact .here | apply Take.there)); done) | exact .none_) .nil) (left_spec b A c bs r 0 _ hm hrl) (fun v own' N' hv => ?_)
        obtain ⟨rfl, rfl, rfl⟩ := hv
        refine vcMix_same (fun w hw => ⟨((by first | exact Ent.gnO (by repeat first | exact .here | apply Take.there) (fun w hw => Ob.sl_at hw) | exact Ent.gnO (by repeat first | exact .here | apply Take.there) (fun w hw => Ob.row_at hw)) : Ent _ (RowAt (some ⟨bx, 0, none⟩) (srcC b))) w hw, ((by first | exact Ent.gnO (by repeat first | exact .here | apply Take.there) (fun w hw => Ob.sl_at hw) | exact Ent.gnO (by repeat first | exact .here | apply Take.there) (fun w hw => Ob.row_at hw)) : Ent _ (RowAt (some ⟨bh, 0, none⟩) (hdrC (kindN first) ver d s (At, ct, tok) vs n))) w hw⟩) ?_
        rw [show rleft bs (r, 0) = (bs.length : Int) - r from if_neg (fun h => h rfl)]
        repeat (refine vcIf_yes (by rfl) ?_)
        refine vcCall_may (.cons (by first | ((repeat (first | exact .here | apply Take.there)); done) | exact .none_) .nil) (must_spec b A c bs.length r 0 _ 54 _) (fun ch own' N' hx => ?_) (fun v own' N' hv => ?_)
        · obtain ⟨h, rfl, rfl, rfl⟩ := hx
          rcases h with h | h
          · exact absurd rfl h
          · have hlt := of_decide_eq_false h
            exact ⟨[_], _, MT, .cons (by first | ((repeat (first | exact .here | apply Take.there)); done) | exact .none_) .nil, fun _ _ _ => trivial, 54, _, hE (by omega), rfl, rfl, rfl, rfl⟩
        · obtain ⟨⟨_, h⟩, rfl, rfl, rfl⟩ := hv
          have hle := of_decide_eq_true h
          refine vcMix_last (by kernel_rfl) ?_
          exact ⟨_, _, RowAt At (Bs tok), .cons (by first | ((repeat (first | exact .here | apply Take.there)); done) | exact .none_) (.cons (by first | ((repeat (first | exact .here | apply Take.there)); done) | exact .none_) .nil), fun w hN _ => (by repeat first | exact Ent.refl | refine Ent.andL ?_ : Ent _ (RowAt At (Bs tok))) w hN, tok, n, r, by unfold lenP; rw [hnr]; simp only; rw [if_neg (by omega)], rfl, At, ct, rfl, Ent.refl, hct⟩
      · repeat (refine vcIf_no (by rfl) ?_)
        refine vcCall_may (.cons (by first | ((repeat (first | exact .here | apply Take.there)); done) | exact .none_) .nil) (must_spec b A c bs.length r 0 _ 54 _) (fun ch own' N' hx => ?_) (fun v own' N' hv => ?_)
        · obtain ⟨h, rfl, rfl, rfl⟩ := hx
          exact ⟨[_], _, MT, .cons (by first | ((repeat (first | exact .here | apply Take.there)); done) | exact .none_) .nil, fun _ _ _ => trivial, 54, _, hE (by omega), rfl, rfl, rfl, rfl⟩
        · obtain ⟨⟨_, h⟩, rfl, rfl, rfl⟩ := hv
          cases h
end Go.Proofs.Ytlobimomeeppeaa
