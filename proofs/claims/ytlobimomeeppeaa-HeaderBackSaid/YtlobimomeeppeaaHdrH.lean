/- Headers: what the reference reads behind the ids. -/
import Derived.Test.YtlobimomeeppeaaHdrG
namespace Go.Proofs.Ytlobimomeeppeaa
open Go.Proofs
set_option maxRecDepth 10000

def rhO (b : Nat) (cs : List Value) : Ob := .row b 30 cs 7
def RLong (b bh : Nat) (A : Option Addr) (c n : Nat) (d s : Pl) (r : Except Int (HdrL × Nat)) (v : Value) (own : List Ob) (N : Mp) : Prop :=
  (∃ h q, r = .ok (h, q) ∧ v = .int .i64 0 ∧ ∃ t vs : Pl, own = [rrO b A c n q 0, rhO bh (hdrOf h d s t vs)] ∧ Ent N (RowAt t.1 (Bs h.tok)) ∧ Ent N (RowAt vs.1 (h.vers.map nI)) ∧ h.tok.length ≤ t.2 ∧ h.vers.length ≤ vs.2) ∨
  (∃ e, r = .error e ∧ v = .int .i64 e ∧ e ≠ 0 ∧ ∃ hc p f, own = [rrO b A c n p f, rhO bh hc] ∧ hc.length = 7 ∧ N = MT)

set_option maxHeartbeats 2000000 in
theorem rlong_spec (b bh : Nat) (A : Option Addr) (c : Nat) (bs : List UInt8) (p : Nat) (x : UInt8) (ver : Nat) (ds ss : List UInt8) (Ad As : Option Addr) (cd cs : Nat) (G : Mp) (h1 : Ent G (RowAt A (Bs bs))) (hc : bs.length ≤ c) (hm : bs.length ≤ 70368744177664) (hp : p ≤ bs.length) :
    Spec Try.prog 41 #[.pointer (some ⟨b, 0, none⟩), .pointer (some ⟨bh, 0, none⟩), .int .i64 x.toNat] [rrO b A c bs.length p 0, rhO bh (hdrC 0 ver (Ad, cd, ds) (As, cs, ss) (none, 0, []) (none, 0, []) 0)] G (RLong b bh A c bs.length (Ad, cd) (As, cs) (restP bs x ver ds ss p)) := by
  refine Spec.introC (args := [_, _, _]) wide Try.func41 rfl Try.call41 (by rfl) (by rfl) [22] (fun w0 hw0 => ?_)
  have hx := x.toNat_lt
  have hl0 : ∀ q, q ≤ bs.length → rleft bs (q, 0) = ((bs.length - q : Nat) : Int) := fun q hq => (if_neg (fun h => h rfl)).trans (by omega)
  refine vcLoad1_row (j := 1) (v := .int .i64 ver) ((by first | exact Ent.gnO (by repeat first | exact .here | apply Take.there) (fun w hw => Ob.sl_at hw) | exact Ent.gnO (by repeat first | exact .here | apply Take.there) (fun w hw => Ob.row_at hw)) : Ent _ (RowAt (some ⟨bh, 0, none⟩) (hdrC 0 ver (Ad, cd, ds) (As, cs, ss) (none, 0, []) (none, 0, []) 0))) rfl ?_
  refine vcIf_ndec (fun hv0 => ?_) (fun hv0 => ?_)
  · repeat (refine vcIf_yes (by rfl) ?_)
    refine vcLoad1_row (j := 1) (v := .int .i64 ver) ((by first | exact Ent.gnO (by repeat first | exact .here | apply Take.there) (fun w hw => Ob.sl_at hw) | exact Ent.gnO (by repeat first | exact .here | apply Take.there) (fun w hw => Ob.row_at hw)) : Ent _ (RowAt (some ⟨bh, 0, none⟩) (hdrC 0 ver (Ad, cd, ds) (As, cs, ss) (none, 0, []) (none, 0, []) 0))) rfl ?_
    repeat (refine vcIf_yes (by rfl) ?_)
    refine vcIf_ndec (fun hv1 => ?_) (fun hv1 => ?_)
    · repeat (refine vcIf_yes (by rfl) ?_)
      refine vcStore1_1 (.row bh _ _ _) _ (by first | ((repeat (first | exact .here | apply Take.there)); done) | exact .none_) rfl (by show (0 : Nat) < 7; decide) rfl ?_
      exact ⟨[_, rhO bh _], _, MT, .cons (by first | ((repeat (first | exact .here | apply Take.there)); done) | exact .none_) (.cons (by first | ((repeat (first | exact .here | apply Take.there)); done) | exact .none_) .nil), fun _ _ _ => trivial, .inl ⟨⟨7, ver, ds, ss, [], [], 0⟩, p, by unfold restP; rw [if_neg (by omega), if_neg (by omega)], rfl, (none, 0), (none, 0), rfl, fun _ _ => RowAt.nil, fun _ _ => RowAt.nil, Nat.le_refl _, Nat.le_refl _⟩⟩
    · repeat (first | refine vcIf_no (by rfl) ?_ | refine vcIf_yes (by rfl) ?_)
      have hver : ver = 1 := by omega
      subst hver
      refine vcLoad1_row (j := 1) (v := .int .i64 ((1 : Nat) : Int)) ((by first | exact Ent.gnO (by repeat first | exact .here | apply Take.there) (fun w hw => Ob.sl_at hw) | exact Ent.gnO (by repeat first | exact .here | apply Take.there) (fun w hw => Ob.row_at hw)) : Ent _ (RowAt (some ⟨bh, 0, none⟩) (hdrC 0 ((1 : Nat) : Int) (Ad, cd, ds) (As, cs, ss) (none, 0, []) (none, 0, []) 0))) rfl ?_
      have hE : ∀ e, kindP bs x p = .error e → ¬ x.toNat / 64 % 2 = 0 → restP bs x 1 ds ss p = .error e := fun e h h6 => by unfold restP; rw [if_neg (by decide), if_pos rfl, if_neg h6, h]
      have hO : ∀ t l q, kindP bs x p = .ok (t, l, q) → ¬ x.toNat / 64 % 2 = 0 → restP bs x 1 ds ss p = .ok (⟨kindN x, 1, ds, ss, t, [], l⟩, q) := fun t l q h h6 => by unfold restP; rw [if_neg (by decide), if_pos rfl, if_neg h6, h]
      refine vcQuo_i64 (by omega) ?_
      refine vcRem_pos (by omega) ?_
      refine vcIf_dec (fun h6 => ?_) (fun h6 => ?_)
      · exact ⟨[_, rhO bh _], _, MT, .cons (by first | ((repeat (first | exact .here | apply Take.there)); done) | exact .none_) (.cons (by first | ((repeat (first | exact .here | apply Take.there)); done) | exact .none_) .nil), fun _ _ _ => trivial, .inr ⟨62, by unfold restP; rw [if_neg (by decide), if_pos rfl, if_pos (by omega)], rfl, by decide, _, _, _, rfl, rfl, rfl⟩⟩
      have h6 : ¬ x.toNat / 64 % 2 = 0 := by omega
      refine vcQuo_i64 (by omega) ?_
      refine vcRem_pos (by omega) ?_
      refine vcFit_i64 (by omega) ?_
      have hkn : 1 + (x.toNat : Int) / 16 % 4 = ((kindN x : Nat) : Int) := by unfold kindN; omega
      rw [hkn]
      refine vcStore1_1 (.row bh _ _ _) _ (by first | ((repeat (first | exact .here | apply Take.there)); done) | exact .none_) rfl (by show (0 : Nat) < 7; decide) rfl ?_
      refine vcLoad1_row (j := 0) (v := .int .i64 (kindN x : Nat)) ((by first | exact Ent.gnO (by repeat first | exact .here | apply Take.there) (fun w hw => Ob.sl_at hw) | exact Ent.gnO (by repeat first | exact .here | apply Take.there) (fun w hw => Ob.row_at hw)) : Ent _ (RowAt (some ⟨bh, 0, none⟩) (hdrC (kindN x : Nat) ((1 : Nat) : Int) (Ad, cd, ds) (As, cs, ss) (none, 0, []) (none, 0, []) 0))) rfl ?_
      refine vcIf_dec (fun h4 => ?_) (fun h4 => ?_)
      · have hk4 : kindN x = 4 := by omega
        have hK : kindP bs x p = if bs.length < p + 16 then .error 12 else .ok ((bs.drop p).take (bs.length - p - 16), 0, bs.length - 16) := if_pos hk4
        refine vcCall_of (.cons (by first | ((repeat (first | exact .here | apply Take.there)); done) | exact .none_) .nil) (rleft_spec b A c bs p 0 _ (by omega) hp) (fun v own' N' hv => ?_)
        obtain ⟨rfl, rfl, rfl⟩ := hv
        rw [hl0 p hp]
        refine vcIf_dec (fun hz => ?_) (fun hz => ?_)
        · exact ⟨[_, rhO bh _], _, MT, .cons (by first | ((repeat (first | exact .here | apply Take.there)); done) | exact .none_) (.cons (by first | ((repeat (first | exact .here | apply Take.there)); done) | exact .none_) .nil), fun _ _ _ => trivial, .inr ⟨12, hE _ (by rw [hK, if_pos (by omega)]) h6, rfl, by decide, _, _, _, rfl, rfl, rfl⟩⟩
        refine vcCall_of (.cons (by first | ((repeat (first | exact .here | apply Take.there)); done) | exact .none_) .nil) (rleft_spec b A c bs p 0 _ (by omega) hp) (fun v own' N' hv => ?_)
        obtain ⟨rfl, rfl, rfl⟩ := hv
        rw [hl0 p hp]
        refine vcFit_i64 (by omega) ?_
        have ht : takeP bs (bs.length - p - 16) p = .ok ((bs.drop p).take (bs.length - p - 16), p + (bs.length - p - 16)) := if_neg (by omega)
        rw [show ((bs.length - p : Nat) : Int) - 16 = ((bs.length - p - 16 : Nat) : Int) from by omega]
        refine vcCall_of (.cons (by first | ((repeat (first | exact .here | apply Take.there)); done) | exact .none_) .nil) (rrbytes_spec b A c bs (bs.length - p - 16 : Nat) p 0 _ (Ent.gnG h1) hc (by omega) hp) (fun v own' N' hv => ?_)
        rw [rbytes_ok' ht] at hv
        obtain ⟨At, ct, rfl, rfl, rfl, hct⟩ := hv
        refine vcStore1_1 (.row bh _ _ _) _ (by first | ((repeat (first | exact .here | apply Take.there)); done) | exact .none_) rfl (by show (4 : Nat) < 7; decide) rfl ?_
        exact ⟨[rrO b A c bs.length (p + (bs.length - p - 16)) 0, rhO bh _], _, RowAt At (Bs ((bs.drop p).take (bs.length - p - 16))), .cons (by first | ((repeat (first | exact .here | apply Take.there)); done) | exact .none_) (.cons (by first | ((repeat (first | exact .here | apply Take.there)); done) | exact .none_) .nil), fun w _ ho => Ob.sl_at (ho (.sl At ct 5 1 (Bs ((bs.drop p).take (bs.length - p - 16)))) (by simp)), .inl ⟨⟨kindN x, 1, ds, ss, (bs.drop p).take (bs.length - p - 16), [], 0⟩, p + (bs.length - p - 16), hO _ _ _ (by rw [hK, if_neg (by omega), show bs.length - 16 = p + (bs.length - p - 16) from by omega]) h6, rfl, (At, ct), (none, 0), rfl, Ent.refl, fun _ _ => RowAt.nil, hct, Nat.le_refl _⟩⟩
      have hk4 : kindN x ≠ 4 := by omega
      have hK : kindP bs x p = match tokP bs x p with
          | .error e => .error e
          | .ok (tok, q) => lenP bs tok q := if_neg hk4
      refine vcCut_of (fun _ : List UInt8 × Nat × Int × Pl => [(0, .pointer (some ⟨b, 0, none⟩)), (1, .pointer (some ⟨bh, 0, none⟩))])
        (fun g => [rrO b A c bs.length g.2.1 g.2.2.1, rhO bh (hdrC (kindN x : Nat) ((1 : Nat) : Int) (Ad, cd, ds) (As, cs, ss) (g.2.2.2.1, g.2.2.2.2, g.1) (none, 0, []) 0), .sl g.2.2.2.1 g.2.2.2.2 5 1 (Bs g.1)]) (fun _ => MT)
        (fun g => g.1.length ≤ g.2.2.2.2 ∧ g.2.1 ≤ bs.length ∧ ((g.2.2.1 = 0 ∧ tokP bs x p = .ok (g.1, g.2.1)) ∨ (g.2.2.1 ≠ 0 ∧ tokP bs x p = .error 12))) ?_ ?_
      · refine vcLoad1_row (j := 0) (v := .int .i64 (kindN x : Nat)) ((by first | exact Ent.gnO (by repeat first | exact .here | apply Take.there) (fun w hw => Ob.sl_at hw) | exact Ent.gnO (by repeat first | exact .here | apply Take.there) (fun w hw => Ob.row_at hw)) : Ent _ (RowAt (some ⟨bh, 0, none⟩) (hdrC (kindN x : Nat) ((1 : Nat) : Int) (Ad, cd, ds) (As, cs, ss) (none, 0, []) (none, 0, []) 0))) rfl ?_
        refine vcIf_dec (fun hk => ?_) (fun hk => ?_)
        · have hk1 : kindN x = 1 := by omega
          have hT : tokP bs x p = match numP bs p with
              | .error e => .error e
              | .ok (n, q) => takeP bs n q := if_pos hk1
          refine vcCall_of (.cons (by first | ((repeat (first | exact .here | apply Take.there)); done) | exact .none_) .nil) (rnumber_spec b A c bs p 0 _ (Ent.gnG h1) hc (by omega) hp) (fun v own' N' hv => ?_)
          rcases vget_cases bs p hp with ⟨e, hv0, he⟩ | ⟨n, q, hv0, hen⟩
          · rw [rnum_no hv0 he] at hv
            obtain ⟨rfl, rfl, rfl⟩ := hv
            refine vcCall_of (.cons (by first | ((repeat (first | exact .here | apply Take.there)); done) | exact .none_) .nil) (rrbytes_spec b A c bs 0 p e _ (Ent.gnG h1) hc (by omega) hp) (fun v own' N' hv => ?_)
            rw [rbytes_fault he] at hv
            obtain ⟨A', c', rfl, rfl, rfl, hc'⟩ := hv
            refine vcStore1_1 (.row bh _ _ _) _ (by first | ((repeat (first | exact .here | apply Take.there)); done) | exact .none_) rfl (by show (4 : Nat) < 7; decide) rfl ?_
            exact ⟨([], p, e, A', c'), ⟨Nat.zero_le _, hp, .inr ⟨he, by rw [hT]; unfold numP; rw [hv0, if_pos he]⟩⟩, ⟨rfl, rfl, trivial⟩, ⟨_, .cons (by first | ((repeat (first | exact .here | apply Take.there)); done) | exact .none_) (.cons (by first | ((repeat (first | exact .here | apply Take.there)); done) | exact .none_) (.cons (by first | ((repeat (first | exact .here | apply Take.there)); done) | exact .none_) .nil))⟩, fun _ _ => trivial⟩
          · rw [rnum_ok hv0] at hv
            obtain ⟨rfl, rfl, rfl⟩ := hv
            have hN : numP bs p = .ok (n, q) := by unfold numP; rw [hv0, if_neg (fun h => h rfl)]; simp
            refine vcCall_of (.cons (by first | ((repeat (first | exact .here | apply Take.there)); done) | exact .none_) .nil) (rrbytes_spec b A c bs n q 0 _ (Ent.gnG h1) hc (by omega) hen) (fun v own' N' hv => ?_)
            cases ht : takeP bs n q with
            | error e =>
              obtain ⟨hb, rfl⟩ := rbytes_err' ht
              rw [hb] at hv
              obtain ⟨A', c', rfl, rfl, rfl, hc'⟩ := hv
              refine vcStore1_1 (.row bh _ _ _) _ (by first | ((repeat (first | exact .here | apply Take.there)); done) | exact .none_) rfl (by show (4 : Nat) < 7; decide) rfl ?_
              exact ⟨([], q, 12, A', c'), ⟨Nat.zero_le _, hen, .inr ⟨by show (12 : Int) ≠ 0; decide, by rw [hT, hN]; exact ht⟩⟩, ⟨rfl, rfl, trivial⟩, ⟨_, .cons (by first | ((repeat (first | exact .here | apply Take.there)); done) | exact .none_) (.cons (by first | ((repeat (first | exact .here | apply Take.there)); done) | exact .none_) (.cons (by first | ((repeat (first | exact .here | apply Take.there)); done) | exact .none_) .nil))⟩, fun _ _ => trivial⟩
            | ok r =>
              obtain ⟨ys, q2⟩ := r
              rw [rbytes_ok' ht] at hv
              obtain ⟨A', c', rfl, rfl, rfl, hc'⟩ := hv
              have hq2 : q2 ≤ bs.length := by obtain ⟨_, h2, h3, _⟩ := takeP_ok ht; omega
              refine vcStore1_1 (.row bh _ _ _) _ (by first | ((repeat (first | exact .here | apply Take.there)); done) | exact .none_) rfl (by show (4 : Nat) < 7; decide) rfl ?_
              exact ⟨(ys, q2, 0, A', c'), ⟨hc', hq2, .inl ⟨rfl, by rw [hT, hN]; exact ht⟩⟩, ⟨rfl, rfl, trivial⟩, ⟨_, .cons (by first | ((repeat (first | exact .here | apply Take.there)); done) | exact .none_) (.cons (by first | ((repeat (first | exact .here | apply Take.there)); done) | exact .none_) (.cons (by first | ((repeat (first | exact .here | apply Take.there)); done) | exact .none_) .nil))⟩, fun _ _ => trivial⟩
        · exact ⟨([], p, 0, none, 0), ⟨Nat.le_refl _, hp, .inl ⟨rfl, if_neg (by omega)⟩⟩, ⟨rfl, rfl, trivial⟩, ⟨_, .cons (by first | ((repeat (first | exact .here | apply Take.there)); done) | exact .none_) (.cons (by first | ((repeat (first | exact .here | apply Take.there)); done) | exact .none_) (.cons (by first | ((repeat (first | exact .here | apply Take.there)); done) | exact .none_) .nil))⟩, fun _ _ => trivial⟩
      · rintro ⟨tok, q, f, At, ct⟩ ⟨hct, hq, hT⟩
        simp only at hct hq hT
        have hTN : Ent (GN G [rrO b A c bs.length q f, rhO bh (hdrC (kindN x : Nat) ((1 : Nat) : Int) (Ad, cd, ds) (As, cs, ss) (At, ct, tok) (none, 0, []) 0), .sl At ct 5 1 (Bs tok)] MT) (RowAt At (Bs tok)) := Ent.gnO (.there (.there .here)) (fun w hw => Ob.sl_at hw)
        refine vcCall_of (.cons (by first | ((repeat (first | exact .here | apply Take.there)); done) | exact .none_) .nil) (rnumber_spec b A c bs q f _ (Ent.gnG h1) hc (by omega) hq) (fun v own' N' hv => ?_)
        rcases hT with ⟨rfl, hT⟩ | ⟨hf, hT⟩
        · rw [hT] at hK
          rcases vget_cases bs q hq with ⟨e, hv0, he⟩ | ⟨n, q2, hv0, hen⟩
          · rw [rnum_no hv0 he] at hv
            obtain ⟨rfl, rfl, rfl⟩ := hv
            refine vcStore1_1 (.row bh _ _ _) _ (by first | ((repeat (first | exact .here | apply Take.there)); done) | exact .none_) rfl (by show (6 : Nat) < 7; decide) rfl ?_
            refine vcLoad1_row (j := 2) (v := .int .i64 e) ((by first | exact Ent.gnO (by repeat first | exact .here | apply Take.there) (fun w hw => Ob.sl_at hw) | exact Ent.gnO (by repeat first | exact .here | apply Take.there) (fun w hw => Ob.row_at hw)) : Ent _ (RowAt (some ⟨b, 0, none⟩) (rdV A c bs.length q e))) rfl ?_
            refine vcIf_nyes he ?_
            exact ⟨[_, rhO bh _], _, MT, .cons (by first | ((repeat (first | exact .here | apply Take.there)); done) | exact .none_) (.cons (by first | ((repeat (first | exact .here | apply Take.there)); done) | exact .none_) .nil), fun _ _ _ => trivial, .inr ⟨12, hE _ (by rw [hK]; simp only [lenP, numP]; rw [hv0, if_pos he]) h6, rfl, by decide, _, _, _, rfl, rfl, rfl⟩⟩
          · rw [rnum_ok hv0] at hv
            obtain ⟨rfl, rfl, rfl⟩ := hv
            have hN : numP bs q = .ok (n, q2) := by unfold numP; rw [hv0, if_neg (fun h => h rfl)]; simp
            have hKn : kindP bs x p = if n = 0 ∨ bs.length < q2 + n then .error 54 else .ok (tok, n, q2) := by rw [hK]; simp only [lenP]; rw [hN]
            refine vcStore1_1 (.row bh _ _ _) _ (by first | ((repeat (first | exact .here | apply Take.there)); done) | exact .none_) rfl (by show (6 : Nat) < 7; decide) rfl ?_
            refine vcLoad1_row (j := 2) (v := .int .i64 0) ((by first | exact Ent.gnO (by repeat first | exact .here | apply Take.there) (fun w hw => Ob.sl_at hw) | exact Ent.gnO (by repeat first | exact .here | apply Take.there) (fun w hw => Ob.row_at hw)) : Ent _ (RowAt (some ⟨b, 0, none⟩) (rdV A c bs.length q2 0))) rfl ?_
            refine vcDraw_mix [0,1,2,3,4,5,6,7,8,9,10,11,12,13] (RowAt (some ⟨bh, 0, none⟩) (hdrC (kindN x : Nat) ((1 : Nat) : Int) (Ad, cd, ds) (As, cs, ss) (At, ct, tok) (none, 0, []) n)) (by kernel_rfl) (by first | exact Ent.gnO (by repeat first | exact .here | apply Take.there) (fun w hw => Ob.sl_at hw) | exact Ent.gnO (by repeat first | exact .here | apply Take.there) (fun w hw => Ob.row_at hw)) ?_
            refine vcLoad1_row (j := 6) (v := .int .i64 n) Ent.refl rfl ?_
            refine vcIf_dec (fun hn => ?_) (fun hn => ?_)
            · repeat (refine vcIf_yes (by rfl) ?_)
              exact ⟨[_, rhO bh _], _, MT, .cons (by first | ((repeat (first | exact .here | apply Take.there)); done) | exact .none_) (.cons (by first | ((repeat (first | exact .here | apply Take.there)); done) | exact .none_) .nil), fun _ _ _ => trivial, .inr ⟨54, hE _ (by rw [hKn, if_pos (by omega)]) h6, rfl, by decide, _, _, _, rfl, rfl, rfl⟩⟩
            · repeat (refine vcIf_no (by rfl) ?_)
              refine vcLoad1_row (j := 6) (v := .int .i64 n) Ent.refl rfl ?_
              repeat (refine vcIf_no (by rfl) ?_)
              refine vcCall_of (.cons (by first | ((repeat (first | exact .here | apply Take.there)); done) | exact .none_) .nil) (rleft_spec b A c bs q2 0 _ (by omega) hen) (fun v own' N' hv => ?_)
              obtain ⟨rfl, rfl, rfl⟩ := hv
              rw [hl0 q2 hen]
              refine vcMix_same (by first | exact Ent.gnO (by repeat first | exact .here | apply Take.there) (fun w hw => Ob.sl_at hw) | exact Ent.gnO (by repeat first | exact .here | apply Take.there) (fun w hw => Ob.row_at hw)) ?_
              repeat (refine vcIf_no (by rfl) ?_)
              refine vcIf_dec (fun hgt => ?_) (fun hgt => ?_)
              · repeat (refine vcIf_yes (by rfl) ?_)
                exact ⟨[_, rhO bh _], _, MT, .cons (by first | ((repeat (first | exact .here | apply Take.there)); done) | exact .none_) (.cons (by first | ((repeat (first | exact .here | apply Take.there)); done) | exact .none_) .nil), fun _ _ _ => trivial, .inr ⟨54, hE _ (by rw [hKn, if_pos (by omega)]) h6, rfl, by decide, _, _, _, rfl, rfl, rfl⟩⟩
              · repeat (refine vcIf_no (by rfl) ?_)
                exact ⟨[_, rhO bh _], _, RowAt At (Bs tok), .cons (by first | ((repeat (first | exact .here | apply Take.there)); done) | exact .none_) (.cons (by first | ((repeat (first | exact .here | apply Take.there)); done) | exact .none_) .nil), fun w _ ho => Ob.sl_at (ho (.sl At ct 5 1 (Bs tok)) (by simp)), .inl ⟨⟨kindN x, 1, ds, ss, tok, [], n⟩, q2, hO _ _ _ (by rw [hKn, if_neg (by omega)]) h6, rfl, (At, ct), (none, 0), rfl, Ent.refl, fun _ _ => RowAt.nil, hct, Nat.le_refl _⟩⟩
        · rw [hT] at hK
          rw [show rnum bs (q, f) = (0, (q, f)) from if_pos hf] at hv
          obtain ⟨rfl, rfl, rfl⟩ := hv
          refine vcStore1_1 (.row bh _ _ _) _ (by first | ((repeat (first | exact .here | apply Take.there)); done) | exact .none_) rfl (by show (6 : Nat) < 7; decide) rfl ?_
          refine vcLoad1_row (j := 2) (v := .int .i64 f) ((by first | exact Ent.gnO (by repeat first | exact .here | apply Take.there) (fun w hw => Ob.sl_at hw) | exact Ent.gnO (by repeat first | exact .here | apply Take.there) (fun w hw => Ob.row_at hw)) : Ent _ (RowAt (some ⟨b, 0, none⟩) (rdV A c bs.length q f))) rfl ?_
          refine vcIf_nyes hf ?_
          exact ⟨[_, rhO bh _], _, MT, .cons (by first | ((repeat (first | exact .here | apply Take.there)); done) | exact .none_) (.cons (by first | ((repeat (first | exact .here | apply Take.there)); done) | exact .none_) .nil), fun _ _ _ => trivial, .inr ⟨12, hE _ hK h6, rfl, by decide, _, _, _, rfl, rfl, rfl⟩⟩
  · repeat (refine vcIf_no (by rfl) ?_)
    have hver : ver = 0 := by omega
    subst hver
    have hE : bs.length = p ∨ (bs.length - p) % 4 ≠ 0 → restP bs x 0 ds ss p = .error 54 := fun hh => by unfold restP; rw [if_pos rfl, if_pos hh]
    have hO : ¬ (bs.length = p ∨ (bs.length - p) % 4 ≠ 0) → restP bs x 0 ds ss p = .ok (⟨5, 0, ds, ss, [], versL ((bs.length - p) / 4) (bs.drop p), 0⟩, bs.length) := fun hh => by unfold restP; rw [if_pos rfl, if_neg hh]
    refine vcLoad1_row (j := 1) (v := .int .i64 ((0 : Nat) : Int)) ((by first | exact Ent.gnO (by repeat first | exact .here | apply Take.there) (fun w hw => Ob.sl_at hw) | exact Ent.gnO (by repeat first | exact .here | apply Take.there) (fun w hw => Ob.row_at hw)) : Ent _ (RowAt (some ⟨bh, 0, none⟩) (hdrC 0 ((0 : Nat) : Int) (Ad, cd, ds) (As, cs, ss) (none, 0, []) (none, 0, []) 0))) rfl ?_
    refine vcStore1_1 (.row bh _ _ _) _ (by first | ((repeat (first | exact .here | apply Take.there)); done) | exact .none_) rfl (by show (0 : Nat) < 7; decide) rfl ?_
    refine vcCall_of (.cons (by first | ((repeat (first | exact .here | apply Take.there)); done) | exact .none_) .nil) (rleft_spec b A c bs p 0 _ (by omega) hp) (fun v own' N' hv => ?_)
    obtain ⟨rfl, rfl, rfl⟩ := hv
    rw [hl0 p hp]
    refine vcIf_dec (fun hz => ?_) (fun hz => ?_)
    · repeat (refine vcIf_yes (by rfl) ?_)
      exact ⟨[_, rhO bh _], _, MT, .cons (by first | ((repeat (first | exact .here | apply Take.there)); done) | exact .none_) (.cons (by first | ((repeat (first | exact .here | apply Take.there)); done) | exact .none_) .nil), fun _ _ _ => trivial, .inr ⟨54, hE (by omega), rfl, by decide, _, _, _, rfl, rfl, rfl⟩⟩
    repeat (refine vcIf_no (by rfl) ?_)
    refine vcCall_of (.cons (by first | ((repeat (first | exact .here | apply Take.there)); done) | exact .none_) .nil) (rleft_spec b A c bs p 0 _ (by omega) hp) (fun v own' N' hv => ?_)
    obtain ⟨rfl, rfl, rfl⟩ := hv
    rw [hl0 p hp]
    repeat (refine vcIf_no (by rfl) ?_)
    refine vcRem_pos (by omega) ?_
    repeat (refine vcIf_no (by rfl) ?_)
    refine vcIf_ndec (fun h4 => ?_) (fun h4 => ?_)
    · repeat (refine vcIf_yes (by rfl) ?_)
      exact ⟨[_, rhO bh _], _, MT, .cons (by first | ((repeat (first | exact .here | apply Take.there)); done) | exact .none_) (.cons (by first | ((repeat (first | exact .here | apply Take.there)); done) | exact .none_) .nil), fun _ _ _ => trivial, .inr ⟨54, hE (by omega), rfl, by decide, _, _, _, rfl, rfl, rfl⟩⟩
    repeat (refine vcIf_no (by rfl) ?_)
    have hO := hO (by omega)
    obtain ⟨m, hm4⟩ : ∃ m, bs.length = p + 4 * m := ⟨(bs.length - p) / 4, by omega⟩
    refine vcLoop_of (fun g : Nat × List Nat × Pl => m - g.1) (fun _ => [(0, .pointer (some ⟨b, 0, none⟩)), (1, .pointer (some ⟨bh, 0, none⟩))])
      (fun g => [rhO bh (hdrC 5 0 (Ad, cd, ds) (As, cs, ss) (none, 0, []) (g.2.2.1, g.2.2.2, g.2.1) 0), rrO b A c bs.length (p + 4 * g.1) 0, .sl g.2.2.1 g.2.2.2 3 1 (g.2.1.map nI)])
      (fun _ => MT) (fun g => g.1 ≤ m ∧ g.2.1 = versL g.1 (bs.drop p) ∧ g.2.1.length = g.1 ∧ g.1 ≤ g.2.2.2) (0, [], none, 0) ⟨Nat.zero_le _, rfl, rfl, Nat.le_refl _⟩
      ⟨rfl, rfl, trivial⟩ ⟨_, .cons (by first | ((repeat (first | exact .here | apply Take.there)); done) | exact .none_) (.cons (by first | ((repeat (first | exact .here | apply Take.there)); done) | exact .none_) (.cons (by first | ((repeat (first | exact .here | apply Take.there)); done) | exact .none_) .nil))⟩ (fun _ _ => trivial) ?_
    rintro ⟨j, vl, Av, cv⟩ ⟨hj, hvl, hvn, hcv⟩
    simp only at hj hvl hvn hcv
    have hpj : p + 4 * j ≤ bs.length := by omega
    refine vcCall_of (.cons (by first | ((repeat (first | exact .here | apply Take.there)); done) | exact .none_) .nil) (rleft_spec b A c bs (p + 4 * j) 0 _ (by omega) hpj) (fun v own' N' hv => ?_)
    obtain ⟨rfl, rfl, rfl⟩ := hv
    rw [hl0 _ hpj]
    refine vcIf_dec (fun hpos => ?_) (fun hpos => ?_)
    · have hj' : j < m := by omega
      have ht : takeP bs 4 (p + 4 * j) = .ok ((bs.drop (p + 4 * j)).take 4, p + 4 * j + 4) := if_neg (by omega)
      have ht4 := (takeP_ok ht).2.2.2
      refine vcDraw_mix [0,1,2,3,4,5,6,7,8,9,10,11,12] (RowAt (some ⟨bh, 0, none⟩) (hdrC 5 0 (Ad, cd, ds) (As, cs, ss) (none, 0, []) (Av, cv, vl) 0)) (by kernel_rfl) (by first | exact Ent.gnO (by repeat first | exact .here | apply Take.there) (fun w hw => Ob.sl_at hw) | exact Ent.gnO (by repeat first | exact .here | apply Take.there) (fun w hw => Ob.row_at hw)) ?_
      refine vcLoad1_row (j := 5) (v := .slice Av vl.length cv) Ent.refl rfl ?_
      refine vcCall_of (.cons (by first | ((repeat (first | exact .here | apply Take.there)); done) | exact .none_) .nil) (rrbytes_spec b A c bs 4 (p + 4 * j) 0 _ (Ent.gnG h1) hc (by omega) hpj) (fun v own' N' hv => ?_)
      rw [show rbytes bs 4 (p + 4 * j, 0) = ((bs.drop (p + 4 * j)).take 4, (p + 4 * j + 4, 0)) from rbytes_ok' ht] at hv
      obtain ⟨A4, c4, rfl, rfl, rfl, hc4⟩ := hv
      refine vcMix_same (by first | exact Ent.gnO (by repeat first | exact .here | apply Take.there) (fun w hw => Ob.sl_at hw) | exact Ent.gnO (by repeat first | exact .here | apply Take.there) (fun w hw => Ob.row_at hw)) ?_
      refine vcCall_of .nil (rword_spec A4 c4 ((bs.drop (p + 4 * j)).take 4) _ (by first | exact Ent.gnO (by repeat first | exact .here | apply Take.there) (fun w hw => Ob.sl_at hw) | exact Ent.gnO (by repeat first | exact .here | apply Take.there) (fun w hw => Ob.row_at hw)) (by omega)) (fun v own' N' hv => ?_)
      obtain ⟨rfl, rfl, rfl⟩ := hv
      refine vcMix_same (by first | exact Ent.gnO (by repeat first | exact .here | apply Take.there) (fun w hw => Ob.sl_at hw) | exact Ent.gnO (by repeat first | exact .here | apply Take.there) (fun w hw => Ob.row_at hw)) ?_
      have hvl' : vl ++ [beval 0 ((bs.drop (p + 4 * j)).take 4)] = versL (j + 1) (bs.drop p) := by
        unfold versL
        rw [List.range_succ, List.map_append, hvl, List.map_singleton, List.drop_drop]
        rfl
      generalize beval 0 ((bs.drop (p + 4 * j)).take 4) = wv at hvl'
      intro bn
      refine vcMix_same (by first | exact Ent.gnO (by repeat first | exact .here | apply Take.there) (fun w hw => Ob.sl_at hw) | exact Ent.gnO (by repeat first | exact .here | apply Take.there) (fun w hw => Ob.row_at hw)) ?_
      refine vcApp_of (vl.map nI) _ [nI wv] (by first | ((repeat (first | exact .here | apply Take.there)); done) | exact .none_) (by simp) rfl (by decide) (by simp [nI, oneCell]) (by first | exact Ent.gnO (by repeat first | exact .here | apply Take.there) (fun w hw => Ob.sl_at hw) | exact Ent.gnO (by repeat first | exact .here | apply Take.there) (fun w hw => Ob.row_at hw)) (by omega) (by omega) (fun A' cap' hcap => ?_)
      rw [show vl.length + 1 = (vl ++ [wv]).length from by simp, show vl.map nI ++ [nI wv] = (vl ++ [wv]).map nI from by simp]
      refine vcMix_same (by first | exact Ent.gnO (by repeat first | exact .here | apply Take.there) (fun w hw => Ob.sl_at hw) | exact Ent.gnO (by repeat first | exact .here | apply Take.there) (fun w hw => Ob.row_at hw)) ?_
      refine vcStore1_1 (.row bh _ _ _) _ (by first | ((repeat (first | exact .here | apply Take.there)); done) | exact .none_) rfl (by show (5 : Nat) < 7; decide) rfl ?_
      refine vcMix_last (by kernel_rfl) ?_
      exact ⟨(j + 1, vl ++ [wv], A', cap'), ⟨hj', hvl', by simp [hvn], by simp only; omega⟩, by simp only; omega, ⟨rfl, rfl, trivial⟩, ⟨_, .cons (by first | ((repeat (first | exact .here | apply Take.there)); done) | exact .none_) (.cons (by first | ((repeat (first | exact .here | apply Take.there)); done) | exact .none_) (.cons (by first | ((repeat (first | exact .here | apply Take.there)); done) | exact .none_) .nil))⟩, fun _ _ => trivial⟩
    · have hjm : j = m := by omega
      subst hjm
      have hvl2 : vl = versL ((bs.length - p) / 4) (bs.drop p) := by rw [hvl, show (bs.length - p) / 4 = j from by omega]
      have hq : p + 4 * j = bs.length := by omega
      rw [← hvl2, ← hq] at hO
      exact ⟨[_, rhO bh _], _, RowAt Av (vl.map nI), .cons (by first | ((repeat (first | exact .here | apply Take.there)); done) | exact .none_) (.cons (by first | ((repeat (first | exact .here | apply Take.there)); done) | exact .none_) .nil), fun w _ ho => Ob.sl_at (ho (.sl Av cv 3 1 (vl.map nI)) (by simp)), .inl ⟨_, _, hO, rfl, (none, 0), (Av, cv), rfl, fun _ _ => RowAt.nil, Ent.refl, Nat.le_refl _, by show vl.length ≤ cv; omega⟩⟩
end Go.Proofs.Ytlobimomeeppeaa
