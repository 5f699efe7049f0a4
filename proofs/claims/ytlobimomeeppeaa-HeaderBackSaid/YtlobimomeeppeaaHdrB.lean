/- Headers: the items that a source reads. -/
import Derived.Test.YtlobimomeeppeaaHdrA
import Derived.Test.YtlobimomeeppeaaGrdB
namespace Go.Proofs.Ytlobimomeeppeaa
open Go.Proofs
set_option maxRecDepth 10000

section
variable (b : Nat) (A : Option Addr) (c : Nat) (bs : List UInt8) (p : Nat) (G : Mp)
def TakeOk (r : Except Int (List UInt8 × Nat)) (v : Value) (own : List Ob) (N : Mp) : Prop :=
  ∃ xs q, r = .ok (xs, q) ∧ ∃ A' c', v = .slice A' xs.length c' ∧ own = [rdO b A c bs.length q 0] ∧ Ent N (RowAt A' (Bs xs)) ∧ xs.length ≤ c'
def IsErr {α : Type} (r : Except Int α) : XK := fun ch own N => ∃ e, r = .error e ∧ brk e ch own N

theorem take_spec (n : Nat) (h1 : Ent G (RowAt A (Bs bs))) (hc : bs.length ≤ c) (hm : bs.length ≤ 211106232532992) (hp : p ≤ bs.length) :
    SpecE Try.prog 29 #[srcV b, .int .i64 n] [rdO b A c bs.length p 0] G (TakeOk b A c bs (takeP bs n p)) (IsErr (takeP bs n p)) := by
  refine SpecE.intro (args := [_, _]) wide Try.func29 rfl Try.call29 (by rfl) (by rfl) (fun w0 hw0 => ?_)
  intro bx
  refine vcLoad1_row (j := 0) (v := .pointer (some ⟨b, 0, none⟩)) ((Ent.gnO .here (fun w hw => Ob.row_at hw)) : Ent _ (RowAt (some ⟨bx, 0, none⟩) (srcC b))) rfl ?_
  refine vcCall_of (.cons (by first | ((repeat (first | exact .here | apply Take.there)); done) | exact .none_) .nil) (bytes_spec b A c bs n p 0 _ (Ent.gnG h1) hc hm hp) (fun v own' N' hv => ?_)
  by_cases hlt : (bs.length : Int) - p < n
  · rw [rbytes_short (by omega) hlt] at hv
    obtain ⟨A', c', rfl, rfl, rfl, _⟩ := hv
    refine vcLoadN_0 (xs := srcC b) (by first | exact Ent.gnO (by repeat first | exact .here | apply Take.there) (fun w hw => Ob.sl_at hw) | exact Ent.gnO (by repeat first | exact .here | apply Take.there) (fun w hw => Ob.row_at hw)) rfl ?_
    refine vcCall_may (.cons (by first | ((repeat (first | exact .here | apply Take.there)); done) | exact .none_) .nil) (must_spec b A c bs.length p 12 true 0 _) (fun ch own' N' hx => ?_) (fun v own' N' hv => ?_)
    · obtain ⟨_, rfl, rfl, rfl⟩ := hx
      exact ⟨[], _, MT, .nil, fun _ _ _ => trivial, 12, if_pos (by omega), rfl, rfl, rfl⟩
    · exact absurd hv.1.1 (by decide)
  · rw [rbytes_ok hlt] at hv
    have hok : takeP bs n p = .ok ((bs.drop p).take n, p + n) := if_neg (by omega)
    obtain ⟨A', c', rfl, rfl, rfl, hc'⟩ := hv
    refine vcLoadN_0 (xs := srcC b) (by first | exact Ent.gnO (by repeat first | exact .here | apply Take.there) (fun w hw => Ob.sl_at hw) | exact Ent.gnO (by repeat first | exact .here | apply Take.there) (fun w hw => Ob.row_at hw)) rfl ?_
    refine vcCall_may (.cons (by first | ((repeat (first | exact .here | apply Take.there)); done) | exact .none_) .nil) (must_spec b A c bs.length (p + n) 0 true 0 _) (fun ch own' N' hx => ?_) (fun v own' N' hv => ?_)
    · rcases hx.1 with h | h
      · exact absurd rfl h
      · cases h
    · obtain ⟨_, rfl, rfl, rfl⟩ := hv
      exact ⟨_, _, RowAt A' (Bs ((bs.drop p).take n)), .cons (by first | ((repeat (first | exact .here | apply Take.there)); done) | exact .none_) .nil, fun w _ ho => Ob.sl_at (ho (.sl A' c' 5 1 (Bs ((bs.drop p).take n))) (by simp)), _, _, hok, A', c', rfl, rfl, Ent.refl, hc'⟩

def NumOk (r : Except Int (Nat × Nat)) (v : Value) (own : List Ob) (N : Mp) : Prop := ∃ n q, r = .ok (n, q) ∧ v = .int .i64 n ∧ own = [rdO b A c bs.length q 0] ∧ N = MT
theorem num_spec (h1 : Ent G (RowAt A (Bs bs))) (hc : bs.length ≤ c) (hm : bs.length ≤ 211106232532992) (hp : p ≤ bs.length) :
    SpecE Try.prog 50 #[srcV b] [rdO b A c bs.length p 0] G (NumOk b A c bs (numP bs p)) (IsErr (numP bs p)) := by
  refine SpecE.intro (args := [_]) wide Try.func50 rfl Try.call50 (by rfl) (by rfl) (fun w0 hw0 => ?_)
  intro bx
  refine vcLoad1_row (j := 0) (v := .pointer (some ⟨b, 0, none⟩)) ((Ent.gnO .here (fun w hw => Ob.row_at hw)) : Ent _ (RowAt (some ⟨bx, 0, none⟩) (srcC b))) rfl ?_
  refine vcCall_of (.cons (by first | ((repeat (first | exact .here | apply Take.there)); done) | exact .none_) .nil) (number_spec b A c bs p 0 _ (Ent.gnG h1) hc hm hp) (fun v own' N' hv => ?_)
  rcases vget_cases bs p hp with ⟨e, hv0, he⟩ | ⟨n, en, hv0, hen⟩
  · rw [rnum_no hv0 he] at hv
    obtain ⟨rfl, rfl, rfl⟩ := hv
    refine vcLoadN_0 (xs := srcC b) (by first | exact Ent.gnO (by repeat first | exact .here | apply Take.there) (fun w hw => Ob.sl_at hw) | exact Ent.gnO (by repeat first | exact .here | apply Take.there) (fun w hw => Ob.row_at hw)) rfl ?_
    refine vcCall_may (.cons (by first | ((repeat (first | exact .here | apply Take.there)); done) | exact .none_) .nil) (must_spec b A c bs.length p e true 0 _) (fun ch own' N' hx => ?_) (fun v own' N' hv => ?_)
    · obtain ⟨_, hx, rfl, rfl⟩ := hx
      rw [if_pos he] at hx
      subst hx
      exact ⟨[], _, MT, .nil, fun _ _ _ => trivial, 12, by unfold numP; rw [hv0, if_pos he], rfl, rfl, rfl⟩
    · exact absurd hv.1.1 he
  · rw [rnum_ok hv0] at hv
    obtain ⟨rfl, rfl, rfl⟩ := hv
    have hok : numP bs p = .ok (n, en) := by unfold numP; rw [hv0, if_neg (fun h => h rfl)]; simp
    refine vcLoadN_0 (xs := srcC b) (by first | exact Ent.gnO (by repeat first | exact .here | apply Take.there) (fun w hw => Ob.sl_at hw) | exact Ent.gnO (by repeat first | exact .here | apply Take.there) (fun w hw => Ob.row_at hw)) rfl ?_
    refine vcCall_may (.cons (by first | ((repeat (first | exact .here | apply Take.there)); done) | exact .none_) .nil) (must_spec b A c bs.length en 0 true 0 _) (fun ch own' N' hx => ?_) (fun v own' N' hv => ?_)
    · rcases hx.1 with h | h
      · exact absurd rfl h
      · cases h
    · obtain ⟨_, rfl, rfl, rfl⟩ := hv
      exact ⟨_, _, MT, .cons (by first | ((repeat (first | exact .here | apply Take.there)); done) | exact .none_) .nil, fun _ _ _ => trivial, n, en, hok, rfl, rfl, rfl⟩

def wordP : Except Int (Nat × Nat) := match takeP bs 4 p with
  | .error e => .error e
  | .ok (x, q) => .ok (beval 0 x, q)
theorem beval_append : ∀ (a b : List UInt8) (n : Nat), beval n (a ++ b) = beval (beval n a) b
  | [], _, _ => rfl
  | _ :: r, b, _ => beval_append r b _
theorem beval_ge : ∀ (l : List UInt8) (n : Nat), n ≤ beval n l
  | [], n => Nat.le_refl n
  | x :: r, n => Nat.le_trans (by omega) (beval_ge r (n * 256 + x.toNat))
theorem beval_pre (bs : List UInt8) (k : Nat) : beval 0 (bs.take k) ≤ beval 0 bs := by
  have e : bs = bs.take k ++ bs.drop k := (List.take_append_drop _ _).symm
  generalize bs.take k = x at e ⊢
  generalize bs.drop k = y at e
  subst e
  rw [beval_append]
  exact beval_ge y _
theorem beval_4 (l : List UInt8) (h : l.length ≤ 4) : beval 0 l < 4294967296 := by
  have := beval_lt l 0 1 (by omega)
  have h2 : 256 ^ l.length ≤ 256 ^ 4 := Nat.pow_le_pow_right (by omega) h
  have h3 : (256 : Nat) ^ 4 = 4294967296 := by decide
  omega
theorem word_spec (h1 : Ent G (RowAt A (Bs bs))) (hc : bs.length ≤ c) (hm : bs.length ≤ 211106232532992) (hp : p ≤ bs.length) :
    SpecE Try.prog 33 #[srcV b] [rdO b A c bs.length p 0] G (NumOk b A c bs (wordP bs p)) (IsErr (wordP bs p)) := by
  refine SpecE.intro (args := [_]) wide Try.func33 rfl Try.call33 (by rfl) (by rfl) (fun w0 hw0 => ?_)
  intro bx
  refine vcLoadN_0 (xs := srcC b) (Ent.gnO .here (fun w hw => Ob.row_at hw)) rfl ?_
  refine vcCall_may (.cons (by first | ((repeat (first | exact .here | apply Take.there)); done) | exact .none_) .nil) (take_spec b A c bs p _ 4 (Ent.gnG h1) hc hm hp) (fun ch own' N' hx => ?_) (fun v own' N' hv => ?_)
  · obtain ⟨e, he, rfl, rfl, rfl⟩ := hx
    exact ⟨[], _, MT, .nil, fun _ _ _ => trivial, e, by unfold wordP; rw [he], rfl, rfl, rfl⟩
  · obtain ⟨xs, q, hxq, A', c', rfl, rfl, hr, hc'⟩ := hv
    obtain ⟨_, _, _, h4⟩ := takeP_ok hxq
    have hwq : wordP bs p = .ok (beval 0 xs, q) := by unfold wordP; rw [hxq]
    have hb4 := beval_4 xs (by omega)
    refine vcLoop_of (fun k : Nat => xs.length - k) (fun k => [(3, .int .i64 (beval 0 (xs.take k) : Nat)), (7, .slice A' xs.length c'), (8, .int .i64 xs.length), (9, .int .i64 k)]) (fun _ => [rdO b A c bs.length q 0]) (fun _ => RowAt A' (Bs xs)) (fun k => k ≤ xs.length) 0 (Nat.zero_le _)
      ⟨rfl, rfl, rfl, rfl, trivial⟩ ⟨_, .cons (by first | ((repeat (first | exact .here | apply Take.there)); done) | exact .none_) .nil⟩ (by repeat first | exact Ent.andR hr | refine Ent.andL ?_) ?_
    intro k hk
    refine vcIf_dec (fun hlt => ?_) (fun hge => ?_)
    · have hk' : k < xs.length := by omega
      have hle := beval_pre xs (k + 1)
      have hs : beval 0 (xs.take (k + 1)) = beval 0 (xs.take k) * 256 + xs[k].toNat := by rw [take_snoc_get hk', beval_snoc]
      have hx := xs[k].toNat_lt
      refine vcIdx_nat k rfl (Ent.gnN Ent.refl) hk' (by rw [Bs_length]; omega) (fun a ha => ?_)
      subst ha
      refine vcLoad1_row (v := .int .u8 xs[k].toNat) (Ent.gnN Ent.refl) (Bs_get hk') ?_
      refine vcShl_lit 8 rfl (by decide) ?_
      refine vcFit_i64 (by omega) ?_
      refine vcFit_i64 (by omega) ?_
      have hor : bitI .or .i64 ((beval 0 (xs.take k) : Nat) * 2 ^ 8 : Int) (xs[k].toNat : Int) = ((beval 0 (xs.take (k + 1)) : Nat) : Int) := by
        rw [hs, show ((beval 0 (xs.take k) : Nat) * 2 ^ 8 : Int) = ((beval 0 (xs.take k) * 2 ^ 8 : Nat) : Int) from by omega, bitI_or (by rw [max_i64]; omega) (by rw [max_i64]; omega), or_low _ _ _ (by omega)]
      refine vcBit_as _ hor ?_
      refine vcFit_i64 (by omega) ?_
      exact ⟨k + 1, by omega, by omega, ⟨rfl, rfl, rfl, rfl, trivial⟩, ⟨_, .cons (by first | ((repeat (first | exact .here | apply Take.there)); done) | exact .none_) .nil⟩, Ent.refl⟩
    · have hk' : k = xs.length := by omega
      subst hk'
      rw [List.take_length]
      exact ⟨_, _, MT, .cons (by first | ((repeat (first | exact .here | apply Take.there)); done) | exact .none_) .nil, fun _ _ _ => trivial, _, q, hwq, rfl, rfl, rfl⟩
theorem cid_spec (h1 : Ent G (RowAt A (Bs bs))) (hc : bs.length ≤ c) (hm : bs.length ≤ 211106232532992) (hp : p ≤ bs.length) :
    SpecE Try.prog 34 #[srcV b] [rdO b A c bs.length p 0] G (TakeOk b A c bs (cidP bs p)) (IsErr (cidP bs p)) := by
  refine SpecE.intro (args := [_]) wide Try.func34 rfl Try.call34 (by rfl) (by rfl) (fun w0 hw0 => ?_)
  intro bx
  refine vcLoadN_0 (xs := srcC b) (Ent.gnO .here (fun w hw => Ob.row_at hw)) rfl ?_
  refine vcCall_may (.cons (by first | ((repeat (first | exact .here | apply Take.there)); done) | exact .none_) .nil) (take_spec b A c bs p _ 1 (Ent.gnG h1) hc hm hp) (fun ch own' N' hx => ?_) (fun v own' N' hv => ?_)
  · obtain ⟨e, he, rfl, rfl, rfl⟩ := hx
    exact ⟨[], _, MT, .nil, fun _ _ _ => trivial, e, by unfold cidP; rw [he], rfl, rfl, rfl⟩
  · obtain ⟨xs, q, hxq, A', c', rfl, rfl, hr, hc'⟩ := hv
    obtain ⟨_, hq, hpn, hl1⟩ := takeP_ok hxq
    obtain ⟨x, rfl⟩ : ∃ x, xs = [x] := by
      cases xs with
      | nil => cases hl1
      | cons x r => cases r with
        | nil => exact ⟨x, rfl⟩
        | cons _ _ => simp at hl1
    have hx := x.toNat_lt
    have hb : beval 0 [x] = x.toNat := by simp [beval]
    refine vcIdx_nat (xs := Bs [x]) 0 rfl (Ent.gnN (by repeat first | exact Ent.andR hr | refine Ent.andL ?_)) Nat.zero_lt_one (Nat.le_refl 1) (fun a ha => ?_)
    subst ha
    refine vcLoad1_row (v := .int .u8 x.toNat) (Ent.gnN (by repeat first | exact Ent.andR hr | refine Ent.andL ?_)) rfl ?_
    refine vcFit_i64 (by omega) ?_
    refine vcLoadN_0 (xs := srcC b) (by first | exact Ent.gnO (by repeat first | exact .here | apply Take.there) (fun w hw => Ob.sl_at hw) | exact Ent.gnO (by repeat first | exact .here | apply Take.there) (fun w hw => Ob.row_at hw)) rfl ?_
    refine vcCall_may (.cons (by first | ((repeat (first | exact .here | apply Take.there)); done) | exact .none_) .nil) (must_spec b A c bs.length q 0 _ 61 _) (fun ch own' N' hx => ?_) (fun v own' N' hv => ?_)
    · obtain ⟨h, rfl, rfl, rfl⟩ := hx
      rcases h with h | h
      · exact absurd rfl h
      · have h20 := of_decide_eq_false h
        exact ⟨[], _, MT, .nil, fun _ _ _ => trivial, 61, by unfold cidP; rw [hxq]; simp only [hb]; rw [if_pos (by omega)], rfl, rfl, rfl⟩
    · obtain ⟨⟨_, h⟩, rfl, rfl, rfl⟩ := hv
      have h20 := of_decide_eq_true h
      have hcq : cidP bs p = takeP bs x.toNat q := by unfold cidP; rw [hxq]; simp only [hb]; rw [if_neg (by omega)]
      refine vcLoadN_0 (xs := srcC b) (by first | exact Ent.gnO (by repeat first | exact .here | apply Take.there) (fun w hw => Ob.sl_at hw) | exact Ent.gnO (by repeat first | exact .here | apply Take.there) (fun w hw => Ob.row_at hw)) rfl ?_
      refine vcCall_may (.cons (by first | ((repeat (first | exact .here | apply Take.there)); done) | exact .none_) .nil) (take_spec b A c bs q _ x.toNat (Ent.gnG h1) hc hm (by omega)) (fun ch own' N' hx => ?_) (fun v own' N' hv => ?_)
      · obtain ⟨e, he, rfl, rfl, rfl⟩ := hx
        exact ⟨[], _, MT, .nil, fun _ _ _ => trivial, e, by rw [hcq, he], rfl, rfl, rfl⟩
      · obtain ⟨ys, r, hyr, A2, c2, rfl, rfl, hr2, hc2⟩ := hv
        exact ⟨_, _, _, .cons (by first | ((repeat (first | exact .here | apply Take.there)); done) | exact .none_) .nil, fun _ h _ => h, ys, r, by rw [hcq, hyr], A2, c2, rfl, rfl, (by repeat first | exact Ent.andR hr2 | refine Ent.andL ?_), hc2⟩
end
end Go.Proofs.Ytlobimomeeppeaa
