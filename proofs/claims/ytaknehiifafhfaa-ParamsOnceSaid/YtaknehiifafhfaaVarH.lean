/- The reference's Put and Get. -/
import Derived.Test.YtaknehiifafhfaaVarG
namespace Go.Proofs.Ytaknehiifafhfaa
open Go.Proofs
set_option maxRecDepth 10000

theorem rget_spec (A : Option Addr) (c : Nat) (bs : List UInt8) (at_ : Int) (G : Mp) (h1 : Ent G (RowAt A (Bs bs))) (hm : bs.length ≤ 9223372036854775799) :
    Spec Try.prog 46 #[.slice A bs.length c, .int .i64 at_] [] G (Ret (tup3 (vget bs at_))) := by
  refine Spec.intro (args := [_, _]) wide Try.func46 rfl Try.call46 (by rfl) (by rfl) (fun w0 hw0 => ?_)
  refine vcIf_dec (fun h0 => ?_) (fun h0 => ?_)
  · exact ⟨[], [], MT, .nil, fun _ _ _ => trivial, by rw [vget_place (.inl h0)]; rfl, rfl, rfl⟩
  refine vcIf_dec (fun h2 => ?_) (fun h2 => ?_)
  · exact ⟨[], [], MT, .nil, fun _ _ _ => trivial, by rw [vget_place (.inr h2)]; rfl, rfl, rfl⟩
  obtain ⟨p, rfl⟩ := Int.eq_ofNat_of_zero_le (show 0 ≤ at_ by omega)
  refine vcIf_dec (fun h3 => ?_) (fun h3 => ?_)
  · exact ⟨[], [], MT, .nil, fun _ _ _ => trivial, by rw [vget_end (by omega) (List.drop_eq_nil_of_le (by omega))]; rfl, rfl, rfl⟩
  have hp : p < bs.length := by omega
  obtain ⟨b, r, hbr⟩ : ∃ b r, bs.drop p = b :: r := by
    cases h : bs.drop p with
    | nil => have := congrArg List.length h; simp at this; omega
    | cons b r => exact ⟨b, r, rfl⟩
  have hlen : (bs.drop p).length = bs.length - p := List.length_drop
  rw [hbr, List.length_cons] at hlen
  have hget : ∀ i, i < r.length + 1 → bs[p + i]? = (b :: r)[i]? := fun i _ => by rw [← hbr, List.getElem?_drop]
  have hbp : (Bs bs)[p]? = some (.int .u8 b.toNat) := by
    have := hget 0 (by omega)
    simp only [Nat.add_zero, List.getElem?_cons_zero] at this
    simp [Bs, this, B]
  have hb := b.toNat_lt
  have hv1 := vget_short (p := p) (b := b) (r := r) (by omega) hbr
  have hv2 := vget_ok (p := p) (b := b) (r := r) (by omega) hbr
  refine vcLoop_of (fun k : Nat => b.toNat / 64 - k) (fun k => [(0, .slice A bs.length c), (1, .int .i64 p), (7, .int .i64 (2 ^ k : Nat)), (8, .int .u8 k)]) (fun _ => []) (fun _ => MT) (fun k => k ≤ b.toNat / 64) 0 (by omega) ⟨rfl, rfl, rfl, rfl, trivial⟩ ⟨_, .nil⟩ Ent.refl ?_
  intro k hk
  have hpk : 2 ^ k ≤ 2 ^ 3 := Nat.pow_le_pow_right (by omega) (by omega)
  rw [show (2 : Nat) ^ 3 = 8 from rfl] at hpk
  have hpow := pow_cases b
  have hpe : 2 ^ (k + 1) = 2 ^ k * 2 := Nat.pow_succ ..
  refine vcIdx_row (Ent.gnG h1) ⟨by omega, by omega⟩ (by rw [Bs_length]; omega) (fun a ha => ?_)
  subst ha
  refine vcLoad1_row (Ent.gnG h1) hbp ?_
  refine vcQuo_u8 (by omega) ?_
  refine vcIf_dec (fun h4 => ?_) (fun h4 => ?_)
  · generalize 2 ^ k = P at hpk hpe
    refine vcFit_i64 (by omega) ?_
    refine vcFit_u8_in (by omega) ?_
    refine ⟨k + 1, by omega, by omega, ⟨rfl, rfl, ?_, ?_, trivial⟩, ⟨_, .nil⟩, Ent.refl⟩
    · exact congrArg (fun z => some (Value.int .i64 z)) (by rw [hpe]; omega)
    · exact congrArg (fun z => some (Value.int .u8 z)) (by omega)
  have hke : k = b.toNat / 64 := by omega
  subst hke
  clear hpe
  generalize hs : 2 ^ (b.toNat / 64) = s at hpk hpow hv1 hv2
  refine vcFit_i64 (by omega) ?_
  refine vcIf_dec (fun h5 => ?_) (fun h5 => ?_)
  · exact ⟨[], [], MT, .nil, fun _ _ _ => trivial, by rw [hv1 (by omega)]; rfl, rfl, rfl⟩
  have hv := hv2 (by omega)
  clear hv1 hv2 hs
  refine vcIdx_row (Ent.gnG h1) ⟨by omega, by omega⟩ (by rw [Bs_length]; omega) (fun a ha => ?_)
  cases ha
  refine vcLoad1_row (Ent.gnG h1) hbp ?_
  refine vcRem_pos (by omega) ?_
  refine vcFit_i64 (by omega) ?_
  refine vcLoop_of (fun k : Nat => s - 1 - k) (fun k => [(0, .slice (some a) bs.length c), (1, .int .i64 p), (7, .int .i64 s), (9, .int .i64 (beval (b.toNat % 64) (r.take k) : Nat)), (10, .int .i64 (k + 1 : Nat))])
    (fun _ => []) (fun _ => MT) (fun k => k ≤ s - 1) 0 (by omega) ⟨rfl, rfl, rfl, rfl, rfl, trivial⟩ ⟨_, .nil⟩ Ent.refl ?_
  intro k hk
  refine vcIf_dec (fun hlt => ?_) (fun hge => ?_)
  · have hk' : k < r.length := by omega
    have hbound := beval_bound b r k (by omega)
    have hx := r[k].toNat_lt
    refine vcFit_i64 (by omega) ?_
    refine vcFit_i64 (by omega) ?_
    refine vcIdx_row (Ent.gnG h1) ⟨by omega, by omega⟩ (by rw [Bs_length]; omega) (fun a' ha => ?_)
    cases ha
    refine vcLoad1_row (Ent.gnG h1) (v := .int .u8 (r[k].toNat)) (by
      rw [show ((p : Int) + ((k + 1 : Nat) : Int)).toNat = p + (k + 1) from by omega]
      have := hget (k + 1) (by omega)
      rw [List.getElem?_cons_succ, List.getElem?_eq_getElem hk'] at this
      simp [Bs, this, B]) ?_
    refine vcFit_i64 (by omega) ?_
    refine vcFit_i64 (by omega) ?_
    refine vcFit_i64 (by omega) ?_
    refine ⟨k + 1, by omega, by omega, ⟨rfl, rfl, rfl, ?_, ?_, trivial⟩, ⟨_, .nil⟩, Ent.refl⟩
    · refine congrArg (fun z => some (Value.int .i64 z)) ?_
      rw [take_snoc_get hk', beval_snoc]
      omega
    · exact congrArg (fun z => some (Value.int .i64 z)) (by omega)
  · have hk' : k = s - 1 := by omega
    subst hk'
    refine vcFit_i64 (by omega) ?_
    exact ⟨[], [], MT, .nil, fun _ _ _ => trivial, by rw [hv]; rfl, rfl, rfl⟩

theorem rput_spec (n : Int) (G : Mp) : Spec Try.prog 22 #[.int .i64 n] [] G (OwnB (vput n)) := by
  refine Spec.intro (args := [_]) wide Try.func22 rfl Try.call22 (by rfl) (by rfl) (fun w0 hw0 => ?_)
  refine vcCall_of .nil (rsize_spec n _) (fun v own' N' hv => ?_)
  obtain ⟨rfl, rfl, rfl⟩ := hv
  have hs8 := vsize_le n
  refine vcMk_nat (vsize n) rfl rfl (by omega) (by omega) (fun b => ?_)
  rw [Bs_zeros]
  refine vcFit_i64 (by omega) ?_
  by_cases hf : hasForm n
  · obtain ⟨m, rfl⟩ := Int.eq_ofNat_of_zero_le hf.1
    have hm : m < 4611686018427387904 := by have := hf.2; omega
    have hs : vsize (m : Int) = 2 ^ cls m := by unfold vsize; rw [if_pos hf, Int.toNat_natCast]
    have hput : vput (m : Int) = vputN m := by unfold vput; rw [if_pos hf, Int.toNat_natCast]
    have hc := cls_le m
    have hvl := vputN_length m
    rw [hput, hs]
    rw [hs] at hs8
    obtain ⟨q, hq, hlt, he⟩ := vputN_cons hm
    generalize hg : 2 ^ cls m = s at hs8 hvl hq
    refine vcLoop_of (fun g : Nat × Nat × List UInt8 => g.1) (fun g => [(0, .int .i64 g.2.1), (3, .int .i64 s), (4, .slice (some ⟨b, 0, none⟩) s s), (5, .int .i64 ((g.1 : Int) - 1))])
      (fun g => [.sl (some ⟨b, 0, none⟩) s 5 1 (Bs (List.replicate g.1 0 ++ g.2.2))]) (fun _ => MT)
      (fun g => g.1 ≤ s ∧ g.2.1 ≤ 4611686018427387903 ∧ g.2.2.length + g.1 = s ∧ be s m = be g.1 g.2.1 ++ g.2.2) (s, m, []) ⟨Nat.le_refl _, by simp only; omega, by simp, by simp⟩
      ⟨rfl, rfl, rfl, rfl, trivial⟩ ⟨_, .cons (by rw [List.append_nil]; exact .here) .nil⟩ (fun _ _ => trivial) ?_
    rintro ⟨k, x, T⟩ ⟨hk1, hk2, hk3, hk4⟩
    simp only at hk1 hk2 hk3 hk4
    refine vcIf_dec (fun h4 => ?_) (fun h4 => ?_)
    · obtain ⟨j, rfl⟩ : ∃ j, k = j + 1 := ⟨k - 1, by omega⟩
      refine vcRem_pos (by omega) ?_
      refine vcFit_u8_in (by omega) ?_
      have hjj : ((j + 1 : Nat) : Int) - 1 = j := by omega
      simp only [hjj]
      refine vcIdx_row (Ent.gnO .here fun w hw => Ob.sl_at hw) ⟨by omega, by omega⟩ (by rw [Bs_length, List.length_append, List.length_replicate]; omega) (fun a ha => ?_)
      cases ha
      refine vcStore1_of _ _ ⟨b, 0, none⟩ j .here rfl rfl (by simp only [Ob.cells]; rw [Bs_length, List.length_append]; simp; omega) rfl ?_
      refine vcQuo_i64 (by omega) ?_
      refine vcFit_i64 (by omega) ?_
      refine ⟨(j, x / 256, UInt8.ofNat (x % 256) :: T), ⟨by simp only; omega, by simp only; omega, by simp; omega, ?_⟩, by simp only; omega, ⟨?_, rfl, rfl, rfl, trivial⟩, ⟨[], .cons ?_ .nil⟩, fun _ _ => trivial⟩
      · rw [hk4, be]; simp
      · rfl
      · have e : (Value.int .u8 ((x : Int) % 256)) = B (UInt8.ofNat (x % 256)) := by
          unfold B; rw [ofNat_toNat _ (by omega)]; rfl
        simp only [Ob.set, e, set_rep]
        exact .here
    · have hk0 : k = 0 := by omega
      subst hk0
      have hT : T = be s m := by rw [hk4]; rfl
      have hb0 : Bs (List.replicate 0 0 ++ T) = .int .u8 (m / 256 ^ q : Nat) :: Bs (be q m) := by
        rw [List.replicate_zero, List.nil_append, hT, hq, be_cons, Nat.mod_eq_of_lt (by omega)]
        show B _ :: _ = _
        unfold B
        rw [ofNat_toNat _ (by omega)]
        rfl
      have hfin : Bs (vputN m) = .int .u8 (m / 256 ^ q + 64 * cls m : Nat) :: Bs (be q m) := by
        rw [he]
        show B _ :: _ = _
        unfold B
        rw [ofNat_toNat _ (by omega)]
        rfl
      have hbl : (Bs (be q m)).length = q := by rw [Bs_length, be_length]
      simp only [hb0]
      unfold OwnB
      rw [hvl]
      generalize m / 256 ^ q = h at hlt hfin
      generalize Bs (be q m) = r at hbl hfin
      have hcs : (cls m = 0 ∧ s = 1) ∨ (cls m = 1 ∧ s = 2) ∨ (cls m = 2 ∧ s = 4) ∨ (cls m = 3 ∧ s = 8) := by
        match hcc : cls m, hc with
        | 0, _ => rw [hcc] at hg; exact .inl ⟨rfl, hg.symm⟩
        | 1, _ => rw [hcc] at hg; exact .inr (.inl ⟨rfl, hg.symm⟩)
        | 2, _ => rw [hcc] at hg; exact .inr (.inr (.inl ⟨rfl, hg.symm⟩))
        | 3, _ => rw [hcc] at hg; exact .inr (.inr (.inr ⟨rfl, hg.symm⟩))
      clear he hg
      rcases hcs with ⟨hcl, rfl⟩ | ⟨hcl, rfl⟩ | ⟨hcl, rfl⟩ | ⟨hcl, rfl⟩
      · refine ⟨_, [], MT, .cons .here .nil, fun _ _ _ => trivial, _, _, rfl, ?_, rfl, Nat.le_refl _⟩
        rw [hfin, hcl]
        rfl
      · refine vcIdx_row (Ent.gnO .here fun w hw => Ob.sl_at hw) ⟨by omega, by omega⟩ (by simp only [List.length_cons]; omega) (fun a ha => ?_)
        cases ha
        refine vcLoad1_row (Ent.gnO .here fun w hw => Ob.sl_at hw) rfl ?_
        refine vcFit_u8_in (by omega) ?_
        refine vcIdx_row (Ent.gnO .here fun w hw => Ob.sl_at hw) ⟨by omega, by omega⟩ (by simp only [List.length_cons]; omega) (fun a ha => ?_)
        cases ha
        refine vcStore1_of _ _ ⟨b, 0, none⟩ 0 .here rfl rfl (by simp [Ob.cells]) rfl ?_
        refine ⟨_, [], MT, .cons .here .nil, fun _ _ _ => trivial, _, _, rfl, ?_, rfl, Nat.le_refl _⟩
        rw [hfin, hcl]
        exact congrArg (fun z => [Ob.sl _ _ _ _ (Value.int .u8 z :: _)]) (by omega)
      · refine vcIdx_row (Ent.gnO .here fun w hw => Ob.sl_at hw) ⟨by omega, by omega⟩ (by simp only [List.length_cons]; omega) (fun a ha => ?_)
        cases ha
        refine vcLoad1_row (Ent.gnO .here fun w hw => Ob.sl_at hw) rfl ?_
        refine vcFit_u8_in (by omega) ?_
        refine vcIdx_row (Ent.gnO .here fun w hw => Ob.sl_at hw) ⟨by omega, by omega⟩ (by simp only [List.length_cons]; omega) (fun a ha => ?_)
        cases ha
        refine vcStore1_of _ _ ⟨b, 0, none⟩ 0 .here rfl rfl (by simp [Ob.cells]) rfl ?_
        refine ⟨_, [], MT, .cons .here .nil, fun _ _ _ => trivial, _, _, rfl, ?_, rfl, Nat.le_refl _⟩
        rw [hfin, hcl]
        exact congrArg (fun z => [Ob.sl _ _ _ _ (Value.int .u8 z :: _)]) (by omega)
      · refine vcIdx_row (Ent.gnO .here fun w hw => Ob.sl_at hw) ⟨by omega, by omega⟩ (by simp only [List.length_cons]; omega) (fun a ha => ?_)
        cases ha
        refine vcLoad1_row (Ent.gnO .here fun w hw => Ob.sl_at hw) rfl ?_
        refine vcFit_u8_in (by omega) ?_
        refine vcIdx_row (Ent.gnO .here fun w hw => Ob.sl_at hw) ⟨by omega, by omega⟩ (by simp only [List.length_cons]; omega) (fun a ha => ?_)
        cases ha
        refine vcStore1_of _ _ ⟨b, 0, none⟩ 0 .here rfl rfl (by simp [Ob.cells]) rfl ?_
        refine ⟨_, [], MT, .cons .here .nil, fun _ _ _ => trivial, _, _, rfl, ?_, rfl, Nat.le_refl _⟩
        rw [hfin, hcl]
        exact congrArg (fun z => [Ob.sl _ _ _ _ (Value.int .u8 z :: _)]) (by omega)
  · have hs : vsize n = 0 := by unfold vsize; rw [if_neg hf]
    have hput : vput n = [] := by unfold vput; rw [if_neg hf]
    rw [hput, hs]
    refine vcLoop_of (fun _ : Unit => 0) (fun _ => [(3, .int .i64 0), (4, .slice (some ⟨b, 0, none⟩) 0 0), (5, .int .i64 (-1))]) (fun _ => [.sl (some ⟨b, 0, none⟩) 0 5 1 []]) (fun _ => MT)
      (fun _ => True) () trivial ⟨rfl, rfl, rfl, trivial⟩ ⟨_, .cons (by rw [List.append_nil]; exact .here) .nil⟩ (fun _ _ => trivial) ?_
    intro _ _
    exact ⟨_, [], MT, .cons .here .nil, fun _ _ _ => trivial, _, _, rfl, rfl, rfl, Nat.le_refl _⟩
end Go.Proofs.Ytaknehiifafhfaa
