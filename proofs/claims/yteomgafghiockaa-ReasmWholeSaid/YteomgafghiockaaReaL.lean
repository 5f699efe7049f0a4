/- ReasmPlays: the law's helper. -/
import Derived.Test.YteomgafghiockaaReaK
namespace Go.Proofs.Yteomgafghiockaa
open Go.Proofs
set_option maxRecDepth 10000

theorem not_u8 (x : UInt8) : bitI .xor .u8 255 (x.toNat : Int) = (((255 : UInt8) ^^^ x).toNat : Int) := by
  have h := bitI_xor (kd := .u8) (a := 255) (b := x.toNat) (by decide) (by have := x.toNat_lt; have e : IntKind.u8.max = 255 := by decide
                                                                           rw [e]; omega)
  rw [UInt8.toNat_xor]
  exact h
abbrev ROp := Int × Int × (Option Addr × Nat × List UInt8) × Bool
def ropV (o : ROp) : List Value := [.int .i64 o.1, .int .i64 o.2.1, .slice o.2.2.1.1 o.2.2.1.2.2.length o.2.2.1.2.1, .bool o.2.2.2]
theorem ropV_len (o : ROp) : (ropV o).length = 4 := rfl
theorem ropV_one (o : ROp) : ∀ v ∈ ropV o, oneCell v = true := by
  intro v hv
  simp only [ropV, List.mem_cons, List.not_mem_nil, or_false] at hv
  rcases hv with rfl | rfl | rfl | rfl <;> rfl
def LPutTo (b : Nat) (m : RbM) (r : Rb) (at_ : Int) (d : List UInt8) (fin : Bool) (v : Value) (own : List Ob) (N : Mp) : Prop :=
  ∃ m', v = .tuple #[.int .i64 (putP r at_ d fin).1, .int .i64 (putP r at_ d fin).2.1, .bool true] ∧ own = rbO b m' (putP r at_ d fin).2.2 ∧ RbAt m' (putP r at_ d fin).2.2 ∧ Ent (MpAnd (PcsAt m.l) N) (PcsAt m'.l)
theorem lput_spec (b : Nat) (m : RbM) (r : Rb) (kd at_ : Int) (Ad : Option Addr) (cd : Nat) (d : List UInt8) (fin : Bool) (G : Mp) (hr : RbOk r) (hm : RbAt m r) (hd : Ent G (RowAt Ad (Bs d))) (hdl : d.length ≤ 281474976710656) :
    Spec Try.prog 15 #[.pointer (some ⟨b, 0, none⟩), .agg #[.int .i64 kd, .int .i64 at_, .slice Ad d.length cd, .bool fin]] (rbO b m r) G (LPutTo b m r at_ d fin) := by
  refine Spec.intro (args := [_, _]) wide Try.func15 rfl Try.call15 (by rfl) (by rfl) (fun w0 hw0 => ?_)
  intro b3
  refine vcLoad1_row (j := 2) (Ent.gnO .here (fun w hw => Ob.row_at hw)) rfl ?_
  refine vcCall_of .nil (copy_spec Ad cd d _ (Ent.gnG hd) hdl) (fun v own' N' hv => ?_)
  obtain ⟨A, c, rfl, rfl, rfl, hc⟩ := hv
  refine vcLoad1_row (j := 1) (Ent.gnO (.there .here) (fun w hw => Ob.row_at hw)) rfl ?_
  refine vcLoad1_row (j := 3) (Ent.gnO (.there .here) (fun w hw => Ob.row_at hw)) rfl ?_
  refine vcCall_of (.cons (.there (.there .here)) (.cons (.there (.there .here)) .nil)) (put_spec b m r at_ A c d fin _ hr hm (Ent.gnO .here (fun w hw => Ob.sl_at hw)) hc (by omega)) (fun v own' N' hv => ?_)
  obtain ⟨m', rfl, rfl, hm', hE⟩ := hv
  refine vcLoad1_row (j := 2) (Ent.gnO (.there (.there (.there .here))) (fun w hw => Ob.row_at hw)) rfl ?_
  refine vcCall_of .nil (same_spec A Ad c cd d d _ (Ent.gnO (.there (.there .here)) (fun w hw => Ob.sl_at hw)) (Ent.gnG hd) (by omega)) (fun v own' N2 hv => ?_)
  obtain ⟨rfl, rfl, rfl⟩ := hv
  refine vcLoop_of (fun g : Nat × List UInt8 => d.length - g.1) (fun g => [(7, .slice A d.length c), (8, .int .i64 (putP r at_ d fin).1), (9, .int .i64 (putP r at_ d fin).2.1), (10, .bool (decide (d = d))), (30, .int .i64 d.length), (31, .int .i64 g.1)])
    (fun g => .sl A c 5 1 (Bs g.2) :: rbO b m' (putP r at_ d fin).2.2) (fun _ => N') (fun g => g.1 ≤ d.length ∧ g.2.length = d.length) (0, d) ⟨Nat.zero_le _, rfl⟩ ⟨rfl, rfl, rfl, rfl, rfl, rfl, trivial⟩
    ⟨_, .cons (.there (.there .here)) (.cons .here (.cons .here .nil))⟩ (Ent.andL (Ent.andR Ent.refl)) ?_
  rintro ⟨k, xs⟩ ⟨hk, hl⟩
  simp only at hk hl
  refine vcIf_dec (fun hlt => ?_) (fun hge => ?_)
  · have hk' : k < d.length := by have h9 : (k : Int) < (d.length : Int) := hlt; omega
    have hkx : k < xs.length := by omega
    refine vcIdx_nat k rfl (Ent.gnO .here (fun w hw => Ob.sl_at hw)) hk' (by rw [Bs_length]; show d.length ≤ xs.length; omega) (fun a ha => ?_)
    subst ha
    refine vcLoad1_row (v := .int .u8 xs[k].toNat) (Ent.gnO .here (fun w hw => Ob.sl_at hw)) (Bs_get hkx) ?_
    refine vcBit_as _ (not_u8 xs[k]) ?_
    refine vcIdx_some k rfl hk' ?_
    refine vcStore1_1 (.sl (some a) c 5 1 (Bs xs)) _ .here rfl (by show k + 0 < (Bs xs).length; rw [Bs_length]; exact hkx) rfl ?_
    refine vcFit_i64 (by first | omega | (simp only; omega)) ?_
    exact ⟨(k + 1, xs.set k (255 ^^^ xs[k])), ⟨by simp only; omega, by simp only [List.length_set]; exact hl⟩, by simp only; omega, ⟨rfl, rfl, rfl, rfl, rfl, rfl, trivial⟩, ⟨_, .cons (Take.eq (by show Ob.sl _ _ _ _ (Bs (xs.set k (255 ^^^ xs[k]))) = _; rw [Bs_set_at]; rfl)) (.cons .here (.cons .here .nil))⟩, Ent.refl⟩
  · rw [decide_eq_true (rfl : d = d)]
    exact ⟨rbO b m' (putP r at_ d fin).2.2, _, N', .cons (.there .here) (.cons (.there .here) .nil), fun w hw _ => hw, m', rfl, rfl, hm', hE⟩
end Go.Proofs.Yteomgafghiockaa
