/- Headers: the reference's word and id. -/
import Derived.Test.YtlobimomeeppeaaHdrF
namespace Go.Proofs.Ytlobimomeeppeaa
open Go.Proofs
set_option maxRecDepth 10000

theorem rbytes_ok' {bs xs : List UInt8} {n p q : Nat} (h : takeP bs n p = .ok (xs, q)) : rbytes bs n (p, 0) = (xs, (q, 0)) := by
  obtain ⟨h1, h2, h3, _⟩ := takeP_ok h
  rw [rbytes_ok (by omega), ← h1, ← h2]
theorem rbytes_err' {bs : List UInt8} {n p : Nat} {e : Int} (h : takeP bs n p = .error e) : rbytes bs n (p, 0) = ([], (p, 12)) ∧ e = 12 := by
  obtain ⟨h1, h2⟩ := takeP_err h
  exact ⟨rbytes_short (by omega) (by omega), h1⟩
theorem rbyte_ok' {bs : List UInt8} {x : UInt8} {p q : Nat} (h : takeP bs 1 p = .ok ([x], q)) : rbyte bs (p, 0) = ((x.toNat : Int), (q, 0)) := by
  unfold rbyte
  rw [show rbytes bs 1 (p, 0) = ([x], (q, 0)) from rbytes_ok' h]
theorem rbyte_err' {bs : List UInt8} {p : Nat} {e : Int} (h : takeP bs 1 p = .error e) : rbyte bs (p, 0) = (0, (p, 12)) ∧ e = 12 := by
  unfold rbyte
  rw [show rbytes bs 1 (p, 0) = ([], (p, 12)) from (rbytes_err' h).1]
  exact ⟨rfl, (rbytes_err' h).2⟩
theorem take1 {bs xs : List UInt8} {p q : Nat} (h : takeP bs 1 p = .ok (xs, q)) : ∃ x, xs = [x] := by
  obtain ⟨_, _, _, h4⟩ := takeP_ok h
  cases xs with
  | nil => cases h4
  | cons x r => cases r with
    | nil => exact ⟨x, rfl⟩
    | cons _ _ => simp at h4

theorem rword_spec (A : Option Addr) (c : Nat) (xs : List UInt8) (G : Mp) (h1 : Ent G (RowAt A (Bs xs))) (h4 : xs.length ≤ 4) :
    Spec Try.prog 39 #[.slice A xs.length c] [] G (fun v own N => v = .int .i64 (beval 0 xs : Nat) ∧ own = [] ∧ N = MT) := by
  refine Spec.intro (args := [_]) wide Try.func39 rfl Try.call39 (by rfl) (by rfl) (fun w0 hw0 => ?_)
  have hb4 := beval_4 xs h4
  refine vcLoop_of (fun k : Nat => xs.length - k) (fun k => [(0, .slice A xs.length c), (3, .int .i64 (beval 0 (xs.take k) : Nat)), (4, .int .i64 k)]) (fun _ => []) (fun _ => MT) (fun k => k ≤ xs.length) 0 (Nat.zero_le _)
    ⟨rfl, rfl, rfl, trivial⟩ ⟨_, .nil⟩ (fun _ _ => trivial) ?_
  intro k hk
  refine vcIf_dec (fun hlt => ?_) (fun hge => ?_)
  · have hk' : k < xs.length := by omega
    have hle := beval_pre xs (k + 1)
    have hs : beval 0 (xs.take (k + 1)) = beval 0 (xs.take k) * 256 + xs[k].toNat := by rw [take_snoc_get hk', beval_snoc]
    have hx := xs[k].toNat_lt
    refine vcFit_i64 (by omega) ?_
    refine vcIdx_nat k rfl (Ent.gnG h1) hk' (by rw [Bs_length]; omega) (fun a ha => ?_)
    subst ha
    refine vcLoad1_row (v := .int .u8 xs[k].toNat) (Ent.gnG h1) (Bs_get hk') ?_
    refine vcFit_i64 (by omega) ?_
    refine vcFit_i64 (by omega) ?_
    rw [show ((beval 0 (xs.take k) : Nat) * 256 + (xs[k].toNat : Int) : Int) = ((beval 0 (xs.take (k + 1)) : Nat) : Int) from by omega]
    refine vcFit_i64 (by omega) ?_
    exact ⟨k + 1, by omega, by omega, ⟨rfl, rfl, rfl, trivial⟩, ⟨_, .nil⟩, fun _ _ => trivial⟩
  · have hk' : k = xs.length := by omega
    subst hk'
    rw [List.take_length]
    exact ⟨_, _, MT, .nil, fun _ _ _ => trivial, rfl, rfl, rfl⟩

def rrO (b : Nat) (A : Option Addr) (c n p : Nat) (f : Int) : Ob := .row b 73 (rdV A c n p f) 3
def RIdPost (b : Nat) (A : Option Addr) (c n : Nat) (r : Except Int (List UInt8 × Nat)) (v : Value) (own : List Ob) (N : Mp) : Prop :=
  (∃ xs q, r = .ok (xs, q) ∧ ∃ A' c', v = .tuple #[.slice A' xs.length c', .int .i64 0] ∧ own = [rrO b A c n q 0] ∧ Ent N (RowAt A' (Bs xs)) ∧ xs.length ≤ c') ∨
  (∃ e, r = .error e ∧ v = .tuple #[.slice none 0 0, .int .i64 e] ∧ e ≠ 0 ∧ ∃ p f, own = [rrO b A c n p f] ∧ N = MT)
theorem rid_spec (b : Nat) (A : Option Addr) (c : Nat) (bs : List UInt8) (p : Nat) (G : Mp) (h1 : Ent G (RowAt A (Bs bs))) (hc : bs.length ≤ c) (hm : bs.length ≤ 211106232532992) (hp : p ≤ bs.length) :
    Spec Try.prog 40 #[.pointer (some ⟨b, 0, none⟩)] [rrO b A c bs.length p 0] G (RIdPost b A c bs.length (cidP bs p)) := by
  refine Spec.intro (args := [_]) wide Try.func40 rfl Try.call40 (by rfl) (by rfl) (fun w0 hw0 => ?_)
  refine vcCall_of (.cons (by first | ((repeat (first | exact .here | apply Take.there)); done) | exact .none_) .nil) (rrbyte_spec b A c bs p 0 _ (Ent.gnG h1) hc hm hp) (fun v own' N' hv => ?_)
  obtain ⟨rfl, rfl, rfl⟩ := hv
  cases ht : takeP bs 1 p with
  | error e =>
    obtain ⟨hb, rfl⟩ := rbyte_err' ht
    rw [hb]
    refine vcLoad1_row (j := 2) (v := .int .i64 12) (Ent.gnO .here (fun w hw => Ob.row_at hw)) rfl ?_
    exact ⟨_, _, MT, .cons (by first | ((repeat (first | exact .here | apply Take.there)); done) | exact .none_) .nil, fun _ _ _ => trivial, .inr ⟨12, by unfold cidP; rw [ht], rfl, by decide, _, _, rfl, rfl⟩⟩
  | ok r =>
    obtain ⟨xs, q⟩ := r
    obtain ⟨x, rfl⟩ := take1 ht
    have hx := x.toNat_lt
    have hql : q ≤ bs.length := by obtain ⟨_, h2, h3, _⟩ := takeP_ok ht; omega
    have hcq : cidP bs p = if 20 < x.toNat then .error 61 else takeP bs x.toNat q := by unfold cidP; rw [ht]; simp [beval]
    rw [rbyte_ok' ht]
    refine vcLoad1_row (j := 2) (v := .int .i64 0) (Ent.gnO .here (fun w hw => Ob.row_at hw)) rfl ?_
    refine vcIf_dec (fun h20 => ?_) (fun h20 => ?_)
    · exact ⟨_, _, MT, .cons (by first | ((repeat (first | exact .here | apply Take.there)); done) | exact .none_) .nil, fun _ _ _ => trivial, .inr ⟨61, by rw [hcq, if_pos (by omega)], rfl, by decide, _, _, rfl, rfl⟩⟩
    · rw [if_neg (by omega)] at hcq
      refine vcCall_of (.cons (by first | ((repeat (first | exact .here | apply Take.there)); done) | exact .none_) .nil) (rrbytes_spec b A c bs x.toNat q 0 _ (Ent.gnG h1) hc hm hql) (fun v own' N' hv => ?_)
      cases ht2 : takeP bs x.toNat q with
      | error e =>
        obtain ⟨hb, rfl⟩ := rbytes_err' ht2
        rw [hb] at hv
        obtain ⟨A', c', rfl, rfl, rfl, _⟩ := hv
        refine vcLoad1_row (j := 2) (v := .int .i64 12) (Ent.gnO (.there .here) (fun w hw => Ob.row_at hw)) rfl ?_
        exact ⟨[rrO b A c bs.length q 12], _, MT, .cons (by first | ((repeat (first | exact .here | apply Take.there)); done) | exact .none_) .nil, fun _ _ _ => trivial, .inr ⟨12, by rw [hcq, ht2], rfl, by decide, _, _, rfl, rfl⟩⟩
      | ok r =>
        obtain ⟨ys, q2⟩ := r
        rw [rbytes_ok' ht2] at hv
        obtain ⟨A', c', rfl, rfl, rfl, hc'⟩ := hv
        refine vcLoad1_row (j := 2) (v := .int .i64 0) (Ent.gnO (.there .here) (fun w hw => Ob.row_at hw)) rfl ?_
        exact ⟨[rrO b A c bs.length q2 0], _, RowAt A' (Bs ys), .cons (by first | ((repeat (first | exact .here | apply Take.there)); done) | exact .none_) .nil, fun w _ ho => Ob.sl_at (ho (.sl A' c' 5 1 (Bs ys)) (by simp)), .inl ⟨ys, q2, by rw [hcq, ht2], A', c', rfl, rfl, Ent.refl, hc'⟩⟩
end Go.Proofs.Ytlobimomeeppeaa
