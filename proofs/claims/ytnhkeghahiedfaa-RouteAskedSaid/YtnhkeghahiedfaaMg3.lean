/- The digest: turning words, taking in bytes. [VarE VarG VarH VarP Drp Byt HdrA GrdA GrdB HdrB HdrC HdrD HdrE HdrF VarI Bkw RteA Join Cnc PrmA PrmB] -/
import Derived.Test.YtnhkeghahiedfaaMg2
import Derived.Tactics
import Derived.Tactics2
import Derived.Defers
import Derived.Recover
import Derived.RangeFuncWrites
import Derived.RangeFuncBox
import Derived.RangeFuncLeaves
import Derived.Shelf.Abstract
import Derived.Shelf.RegionOpen
import Derived.WalkKit
import Derived.OwnWalkIn
import Derived.TacticsInMore
import Derived.LoopNIn
import Derived.LoopIn
import Derived.Test.YtnhkeghahiedfaaProg
section
/- The short form of a number, without a program. -/
namespace Go.Proofs.Ytnhkeghahiedfaa

/-- The class of a number that has one. -/
def cls (n : Nat) : Nat := if n < 64 then 0 else if n < 16384 then 1 else if n < 1073741824 then 2 else 3
theorem cls_le (n : Nat) : cls n ≤ 3 := by unfold cls; split <;> (try split) <;> (try split) <;> omega
theorem cls_iff {n : Nat} (hn : n < 4611686018427387904) : ∀ c, c ≤ 3 → (n < 2 ^ (8 * 2 ^ c - 2) ↔ cls n ≤ c) := by
  intro c hc
  have h3 := cls_le n
  match c, hc with
  | 0, _ => show n < 64 ↔ _; unfold cls; split <;> (try split) <;> (try split) <;> omega
  | 1, _ => show n < 16384 ↔ _; unfold cls; split <;> (try split) <;> (try split) <;> omega
  | 2, _ => show n < 1073741824 ↔ _; unfold cls; split <;> (try split) <;> (try split) <;> omega
  | 3, _ => show n < 4611686018427387904 ↔ _; omega

def hasForm (n : Int) : Prop := 0 ≤ n ∧ n ≤ 4611686018427387903
instance (n : Int) : Decidable (hasForm n) := inferInstanceAs (Decidable (_ ∧ _))
def vclass (n : Int) : Int := if hasForm n then (cls n.toNat : Nat) else -1
def vsize (n : Int) : Nat := if hasForm n then 2 ^ cls n.toNat else 0

/-- The bytes of a number, so many of them. -/
def be : Nat → Nat → List UInt8
  | 0, _ => []
  | s + 1, n => be s (n / 256) ++ [UInt8.ofNat (n % 256)]
theorem be_length : ∀ s n, (be s n).length = s
  | 0, _ => rfl
  | s + 1, n => by simp [be, be_length s]
theorem be_cons : ∀ s n, be (s + 1) n = UInt8.ofNat (n / 256 ^ s % 256) :: be s n
  | 0, n => by simp [be]
  | s + 1, n => by
    rw [be, be_cons s (n / 256), be, List.cons_append, Nat.div_div_eq_div_mul, Nat.pow_succ, Nat.mul_comm 256]
theorem ofNat_toNat (n : Nat) (h : n < 256) : (UInt8.ofNat n).toNat = n := by rw [UInt8.toNat_ofNat']; omega
theorem beval_be : ∀ s n m, beval m (be s n) = m * 256 ^ s + n % 256 ^ s
  | 0, n, m => by simp [be, beval, Nat.mod_one]
  | s + 1, n, m => by
    rw [be, beval_snoc, beval_be s, ofNat_toNat _ (by omega)]
    have h : n % 256 ^ (s + 1) = n / 256 % 256 ^ s * 256 + n % 256 := by
      rw [Nat.pow_succ, Nat.mul_comm (256 ^ s) 256, Nat.mod_mul]; omega
    rw [h, Nat.pow_succ, Nat.add_mul, Nat.mul_assoc]; omega

/-- The shortest form of a number; nothing, if it has none. -/
def vputN (n : Nat) : List UInt8 := match be (2 ^ cls n) n with
  | [] => []
  | b :: r => UInt8.ofNat (b.toNat + 64 * cls n) :: r
def vput (n : Int) : List UInt8 := if hasForm n then vputN n.toNat else []
theorem vputN_length (n : Nat) : (vputN n).length = 2 ^ cls n := by
  have h := be_length (2 ^ cls n) n
  unfold vputN
  split <;> simp_all
theorem vput_length (n : Int) : (vput n).length = vsize n := by
  unfold vput vsize; split
  · exact vputN_length _
  · rfl
theorem vsize_le (n : Int) : vsize n ≤ 8 := by
  unfold vsize; split
  · exact Nat.le_trans (Nat.pow_le_pow_right (by omega) (cls_le n.toNat)) (by decide)
  · omega

/-- The first byte's place is free for the class. -/
theorem form_head {n : Nat} (hn : n < 4611686018427387904) : ∃ s, 2 ^ cls n = s + 1 ∧ n / 256 ^ s < 64 := by
  unfold cls
  split
  · exact ⟨0, rfl, by omega⟩
  · split
    · exact ⟨1, rfl, by omega⟩
    · split
      · exact ⟨3, rfl, by omega⟩
      · exact ⟨7, rfl, by omega⟩
theorem vputN_cons {n : Nat} (hn : n < 4611686018427387904) : ∃ s, 2 ^ cls n = s + 1 ∧ n / 256 ^ s < 64 ∧ vputN n = UInt8.ofNat (n / 256 ^ s + 64 * cls n) :: be s n := by
  obtain ⟨s, hs, hlt⟩ := form_head hn
  refine ⟨s, hs, hlt, ?_⟩
  unfold vputN
  rw [hs, be_cons]
  have := cls_le n
  rw [Nat.mod_eq_of_lt (by omega)]
  show UInt8.ofNat ((UInt8.ofNat (n / 256 ^ s)).toNat + 64 * cls n) :: be s n = _
  rw [ofNat_toNat _ (by omega)]

/-- What a form tells. -/
theorem vget_form {n : Nat} (hn : n < 4611686018427387904) (pre post : List UInt8) :
    vget (pre ++ (vputN n ++ post)) pre.length = ((n : Int), ((pre.length + 2 ^ cls n : Nat) : Int), 0) := by
  obtain ⟨s, hs, hlt, he⟩ := vputN_cons hn
  have hc := cls_le n
  unfold vget
  rw [if_neg (by simp only [List.length_append]; omega), Int.toNat_natCast, List.drop_left, he]
  simp only [List.cons_append]
  have h12 : ∀ q, q < 64 → (q + 64 * cls n) / 64 = cls n ∧ (q + 64 * cls n) % 64 = q := fun q hq => by omega
  rw [ofNat_toNat _ (by omega), (h12 _ hlt).1, (h12 _ hlt).2, hs, Nat.add_sub_cancel]
  rw [if_neg (by simp [be_length])]
  have ht : (be s n ++ post).take s = be s n := by
    have := List.take_left (l₁ := be s n) (l₂ := post)
    rwa [be_length] at this
  rw [ht, beval_be]
  have hd : n / 256 ^ s * 256 ^ s + n % 256 ^ s = n := by rw [Nat.mul_comm]; exact Nat.div_add_mod n (256 ^ s)
  rw [hd]
  simp
end Go.Proofs.Ytnhkeghahiedfaa
end

section
/- The class and the size of a number; the reference's Put and Get. -/
namespace Go.Proofs.Ytnhkeghahiedfaa
open Go.Proofs
set_option maxRecDepth 10000

theorem rsize_spec (n : Int) (G : Mp) : Spec Try.prog 61 #[.int .i64 n] [] G (Ret (.int .i64 (vsize n : Nat))) := by
  refine Spec.intro (args := [_]) wide Try.func61 rfl Try.call61 (by rfl) (by rfl) (fun w0 hw0 => ?_)
  have hno : ¬ hasForm n → vsize n = 0 := fun h => by unfold vsize; rw [if_neg h]
  have hyes : hasForm n → vsize n = 2 ^ cls n.toNat := fun h => by unfold vsize; rw [if_pos h]
  refine vcIf_dec (fun h0 => ?_) (fun h0 => ?_)
  · exact ⟨[], [], MT, .nil, fun _ _ _ => trivial, by rw [hno (fun h => by unfold hasForm at h; omega)]; rfl, rfl, rfl⟩
  refine vcIf_dec (fun h1 => ?_) (fun h1 => ?_)
  · exact ⟨[], [], MT, .nil, fun _ _ _ => trivial, by rw [hno (fun h => by unfold hasForm at h; omega)]; rfl, rfl, rfl⟩
  rw [hyes ⟨by omega, by omega⟩]
  unfold cls
  refine vcIf_dec (fun h2 => ?_) (fun h2 => ?_)
  · exact ⟨[], [], MT, .nil, fun _ _ _ => trivial, by rw [if_pos (by omega)]; rfl, rfl, rfl⟩
  rw [if_neg (by omega)]
  refine vcIf_dec (fun h3 => ?_) (fun h3 => ?_)
  · exact ⟨[], [], MT, .nil, fun _ _ _ => trivial, by rw [if_pos (by omega)]; rfl, rfl, rfl⟩
  rw [if_neg (by omega)]
  refine vcIf_dec (fun h4 => ?_) (fun h4 => ?_)
  · exact ⟨[], [], MT, .nil, fun _ _ _ => trivial, by rw [if_pos (by omega)]; rfl, rfl, rfl⟩
  exact ⟨[], [], MT, .nil, fun _ _ _ => trivial, by rw [if_neg (by omega)]; rfl, rfl, rfl⟩
end Go.Proofs.Ytnhkeghahiedfaa
end

section
/- The reference's Put and Get. -/
namespace Go.Proofs.Ytnhkeghahiedfaa
open Go.Proofs
set_option maxRecDepth 10000

theorem rput_spec (n : Int) (G : Mp) : Spec Try.prog 42 #[.int .i64 n] [] G (OwnB (vput n)) := by
  refine Spec.intro (args := [_]) wide Try.func42 rfl Try.call42 (by rfl) (by rfl) (fun w0 hw0 => ?_)
  refine vcCall_of .nil (rsize_spec n _) (fun v own' N' hv => ?_)
  obtain ⟨rfl, rfl, rfl⟩ := hv
  have hs8 := vsize_le n
  refine vcMk_nat (vsize n) rfl rfl (by omega) (by omega) (fun b => ?_)
  rw [Bs_zeros]
  refine vcFit_i64 (by omega) ?_
  by_cases hf : hasForm n
  · obtain ⟨m, rfl⟩ := Int.eq_ofNat_of_zero_le hf.1
    have hm : m < 4611686018427387904 := by have := hf.2; omega
    have hs : vsize (m : Int) = 2 ^ cls m := by unfold vsize; rw [if_pos hf, Int.toNat_natCast]
    have hput : vput (m : Int) = vputN m := by unfold vput; rw [if_pos hf, Int.toNat_natCast]
    have hc := cls_le m
    have hvl := vputN_length m
    rw [hput, hs]
    rw [hs] at hs8
    obtain ⟨q, hq, hlt, he⟩ := vputN_cons hm
    generalize hg : 2 ^ cls m = s at hs8 hvl hq
    refine vcLoop_of (fun g : Nat × Nat × List UInt8 => g.1) (fun g => [(0, .int .i64 g.2.1), (3, .int .i64 s), (4, .slice (some ⟨b, 0, none⟩) s s), (5, .int .i64 ((g.1 : Int) - 1))])
      (fun g => [.sl (some ⟨b, 0, none⟩) s 5 1 (Bs (List.replicate g.1 0 ++ g.2.2))]) (fun _ => MT)
      (fun g => g.1 ≤ s ∧ g.2.1 ≤ 4611686018427387903 ∧ g.2.2.length + g.1 = s ∧ be s m = be g.1 g.2.1 ++ g.2.2) (s, m, []) ⟨Nat.le_refl _, by simp only; omega, by simp, by simp⟩
      ⟨rfl, rfl, rfl, rfl, trivial⟩ ⟨_, .cons (by rw [List.append_nil]; exact .here) .nil⟩ (fun _ _ => trivial) ?_
    rintro ⟨k, x, T⟩ ⟨hk1, hk2, hk3, hk4⟩
    simp only at hk1 hk2 hk3 hk4
    refine vcIf_dec (fun h4 => ?_) (fun h4 => ?_)
    · obtain ⟨j, rfl⟩ : ∃ j, k = j + 1 := ⟨k - 1, by omega⟩
      refine vcRem_pos (by omega) ?_
      refine vcFit_u8_in (by omega) ?_
      have hjj : ((j + 1 : Nat) : Int) - 1 = j := by omega
      simp only [hjj]
      refine vcIdx_row (Ent.gnO .here fun w hw => Ob.sl_at hw) ⟨by omega, by omega⟩ (by rw [Bs_length, List.length_append, List.length_replicate]; omega) (fun a ha => ?_)
      cases ha
      refine vcStore1_of _ _ ⟨b, 0, none⟩ j .here rfl rfl (by simp only [Ob.cells]; rw [Bs_length, List.length_append]; simp; omega) rfl ?_
      refine vcQuo_i64 (by omega) ?_
      refine vcFit_i64 (by omega) ?_
      refine ⟨(j, x / 256, UInt8.ofNat (x % 256) :: T), ⟨by simp only; omega, by simp only; omega, by simp; omega, ?_⟩, by simp only; omega, ⟨?_, rfl, rfl, rfl, trivial⟩, ⟨[], .cons ?_ .nil⟩, fun _ _ => trivial⟩
      · rw [hk4, be]; simp
      · rfl
      · have e : (Value.int .u8 ((x : Int) % 256)) = B (UInt8.ofNat (x % 256)) := by
          unfold B; rw [ofNat_toNat _ (by omega)]; rfl
        simp only [Ob.set, e, set_rep]
        exact .here
    · have hk0 : k = 0 := by omega
      subst hk0
      have hT : T = be s m := by rw [hk4]; rfl
      have hb0 : Bs (List.replicate 0 0 ++ T) = .int .u8 (m / 256 ^ q : Nat) :: Bs (be q m) := by
        rw [List.replicate_zero, List.nil_append, hT, hq, be_cons, Nat.mod_eq_of_lt (by omega)]
        show B _ :: _ = _
        unfold B
        rw [ofNat_toNat _ (by omega)]
        rfl
      have hfin : Bs (vputN m) = .int .u8 (m / 256 ^ q + 64 * cls m : Nat) :: Bs (be q m) := by
        rw [he]
        show B _ :: _ = _
        unfold B
        rw [ofNat_toNat _ (by omega)]
        rfl
      have hbl : (Bs (be q m)).length = q := by rw [Bs_length, be_length]
      simp only [hb0]
      unfold OwnB
      rw [hvl]
      generalize m / 256 ^ q = h at hlt hfin
      generalize Bs (be q m) = r at hbl hfin
      have hcs : (cls m = 0 ∧ s = 1) ∨ (cls m = 1 ∧ s = 2) ∨ (cls m = 2 ∧ s = 4) ∨ (cls m = 3 ∧ s = 8) := by
        match hcc : cls m, hc with
        | 0, _ => rw [hcc] at hg; exact .inl ⟨rfl, hg.symm⟩
        | 1, _ => rw [hcc] at hg; exact .inr (.inl ⟨rfl, hg.symm⟩)
        | 2, _ => rw [hcc] at hg; exact .inr (.inr (.inl ⟨rfl, hg.symm⟩))
        | 3, _ => rw [hcc] at hg; exact .inr (.inr (.inr ⟨rfl, hg.symm⟩))
      clear he hg
      rcases hcs with ⟨hcl, rfl⟩ | ⟨hcl, rfl⟩ | ⟨hcl, rfl⟩ | ⟨hcl, rfl⟩
      · refine ⟨_, [], MT, .cons .here .nil, fun _ _ _ => trivial, _, _, rfl, ?_, rfl, Nat.le_refl _⟩
        rw [hfin, hcl]
        rfl
      · refine vcIdx_row (Ent.gnO .here fun w hw => Ob.sl_at hw) ⟨by omega, by omega⟩ (by simp only [List.length_cons]; omega) (fun a ha => ?_)
        cases ha
        refine vcLoad1_row (Ent.gnO .here fun w hw => Ob.sl_at hw) rfl ?_
        refine vcFit_u8_in (by omega) ?_
        refine vcIdx_row (Ent.gnO .here fun w hw => Ob.sl_at hw) ⟨by omega, by omega⟩ (by simp only [List.length_cons]; omega) (fun a ha => ?_)
        cases ha
        refine vcStore1_of _ _ ⟨b, 0, none⟩ 0 .here rfl rfl (by simp [Ob.cells]) rfl ?_
        refine ⟨_, [], MT, .cons .here .nil, fun _ _ _ => trivial, _, _, rfl, ?_, rfl, Nat.le_refl _⟩
        rw [hfin, hcl]
        exact congrArg (fun z => [Ob.sl _ _ _ _ (Value.int .u8 z :: _)]) (by omega)
      · refine vcIdx_row (Ent.gnO .here fun w hw => Ob.sl_at hw) ⟨by omega, by omega⟩ (by simp only [List.length_cons]; omega) (fun a ha => ?_)
        cases ha
        refine vcLoad1_row (Ent.gnO .here fun w hw => Ob.sl_at hw) rfl ?_
        refine vcFit_u8_in (by omega) ?_
        refine vcIdx_row (Ent.gnO .here fun w hw => Ob.sl_at hw) ⟨by omega, by omega⟩ (by simp only [List.length_cons]; omega) (fun a ha => ?_)
        cases ha
        refine vcStore1_of _ _ ⟨b, 0, none⟩ 0 .here rfl rfl (by simp [Ob.cells]) rfl ?_
        refine ⟨_, [], MT, .cons .here .nil, fun _ _ _ => trivial, _, _, rfl, ?_, rfl, Nat.le_refl _⟩
        rw [hfin, hcl]
        exact congrArg (fun z => [Ob.sl _ _ _ _ (Value.int .u8 z :: _)]) (by omega)
      · refine vcIdx_row (Ent.gnO .here fun w hw => Ob.sl_at hw) ⟨by omega, by omega⟩ (by simp only [List.length_cons]; omega) (fun a ha => ?_)
        cases ha
        refine vcLoad1_row (Ent.gnO .here fun w hw => Ob.sl_at hw) rfl ?_
        refine vcFit_u8_in (by omega) ?_
        refine vcIdx_row (Ent.gnO .here fun w hw => Ob.sl_at hw) ⟨by omega, by omega⟩ (by simp only [List.length_cons]; omega) (fun a ha => ?_)
        cases ha
        refine vcStore1_of _ _ ⟨b, 0, none⟩ 0 .here rfl rfl (by simp [Ob.cells]) rfl ?_
        refine ⟨_, [], MT, .cons .here .nil, fun _ _ _ => trivial, _, _, rfl, ?_, rfl, Nat.le_refl _⟩
        rw [hfin, hcl]
        exact congrArg (fun z => [Ob.sl _ _ _ _ (Value.int .u8 z :: _)]) (by omega)
  · have hs : vsize n = 0 := by unfold vsize; rw [if_neg hf]
    have hput : vput n = [] := by unfold vput; rw [if_neg hf]
    rw [hput, hs]
    refine vcLoop_of (fun _ : Unit => 0) (fun _ => [(3, .int .i64 0), (4, .slice (some ⟨b, 0, none⟩) 0 0), (5, .int .i64 (-1))]) (fun _ => [.sl (some ⟨b, 0, none⟩) 0 5 1 []]) (fun _ => MT)
      (fun _ => True) () trivial ⟨rfl, rfl, rfl, trivial⟩ ⟨_, .cons (by rw [List.append_nil]; exact .here) .nil⟩ (fun _ _ => trivial) ?_
    intro _ _
    exact ⟨_, [], MT, .cons .here .nil, fun _ _ _ => trivial, _, _, rfl, rfl, rfl, Nat.le_refl _⟩
end Go.Proofs.Ytnhkeghahiedfaa
end

section
/- Readers: what their calls do, the program's and the reference's. -/
namespace Go.Proofs.Ytnhkeghahiedfaa
open Go.Proofs
set_option maxRecDepth 10000

def rdV (A : Option Addr) (c n : Nat) (at_ : Nat) (f : Int) : List Value := [.slice A n c, .int .i64 at_, .int .i64 f]
/-- A number's call: what it answers, the place and the fault behind it. -/
def rnum (bs : List UInt8) (s : Nat × Int) : Int × (Nat × Int) := if s.2 ≠ 0 then (0, s) else if (vget bs s.1).2.2 ≠ 0 then (0, (s.1, (vget bs s.1).2.2)) else ((vget bs s.1).1, ((vget bs s.1).2.1.toNat, 0))
def rbytes (bs : List UInt8) (n : Int) (s : Nat × Int) : List UInt8 × (Nat × Int) :=
  if s.2 ≠ 0 then ([], s) else if n < 0 then ([], (s.1, 10)) else if (bs.length : Int) - s.1 < n then ([], (s.1, 12)) else ((bs.drop s.1).take n.toNat, (s.1 + n.toNat, 0))
def rleft (bs : List UInt8) (s : Nat × Int) : Int := if s.2 ≠ 0 then 0 else (bs.length : Int) - s.1
def rbyte (bs : List UInt8) (s : Nat × Int) : Int × (Nat × Int) := ((match (rbytes bs 1 s).1 with | [] => 0 | b :: _ => (b.toNat : Int)), (rbytes bs 1 s).2)
theorem vget_cases (bs : List UInt8) (p : Nat) (hp : p ≤ bs.length) : (∃ e : Int, vget bs p = (0, 0, e) ∧ e ≠ 0) ∨ ∃ n en : Nat, vget bs p = ((n : Int), (en : Int), 0) ∧ en ≤ bs.length := by
  cases h : bs.drop p with
  | nil => exact .inl ⟨12, vget_end hp h, by decide⟩
  | cons b r =>
    by_cases hs : r.length + 1 < 2 ^ (b.toNat / 64)
    · exact .inl ⟨12, vget_short hp h hs, by decide⟩
    · have hl := congrArg List.length h
      rw [List.length_drop, List.length_cons] at hl
      exact .inr ⟨_, p + 2 ^ (b.toNat / 64), vget_ok hp h hs, by omega⟩
theorem rnum_le (bs : List UInt8) (s : Nat × Int) (hs : s.1 ≤ bs.length) : (rnum bs s).2.1 ≤ bs.length := by
  unfold rnum
  split
  · exact hs
  · split
    · exact hs
    · rcases vget_cases bs s.1 hs with ⟨e, h, hne⟩ | ⟨n, en, h, hle⟩
      · rename_i hh; rw [h] at hh; exact absurd hne hh
      · rw [h]; simpa using hle
theorem rbytes_le (bs : List UInt8) (n : Int) (s : Nat × Int) (hs : s.1 ≤ bs.length) : (rbytes bs n s).2.1 ≤ bs.length := by
  unfold rbytes
  split
  · exact hs
  · split
    · exact hs
    · split
      · exact hs
      · simp only; omega
theorem rnum_fault {bs : List UInt8} {p : Nat} {f : Int} (h : f ≠ 0) : rnum bs (p, f) = (0, (p, f)) := if_pos h
theorem rnum_no {bs : List UInt8} {p : Nat} {e : Int} (h : vget bs p = (0, 0, e)) (he : e ≠ 0) : rnum bs (p, 0) = (0, (p, e)) := by unfold rnum; simp [h, he]
theorem rnum_ok {bs : List UInt8} {p n en : Nat} (h : vget bs p = ((n : Int), (en : Int), 0)) : rnum bs (p, 0) = ((n : Int), (en, 0)) := by unfold rnum; simp [h]
/-- What a reader's call leaves. -/
def RdPost (T : TypeId) (b : Nat) (A : Option Addr) (c n : Nat) (u : Value) (s : Nat × Int) (v : Value) (own : List Ob) (N : Mp) : Prop := v = u ∧ own = [.row b T (rdV A c n s.1 s.2) 3] ∧ N = MT
def RdPostB (T : TypeId) (b : Nat) (A : Option Addr) (c n : Nat) (bs : List UInt8) (s : Nat × Int) (v : Value) (own : List Ob) (N : Mp) : Prop := ∃ A' c', v = .slice A' bs.length c' ∧ own = [.sl A' c' 5 1 (Bs bs), .row b T (rdV A c n s.1 s.2) 3] ∧ N = MT ∧ bs.length ≤ c'

theorem number_spec (b : Nat) (A : Option Addr) (c : Nat) (bs : List UInt8) (p : Nat) (f : Int) (G : Mp) (h1 : Ent G (RowAt A (Bs bs))) (hc : bs.length ≤ c) (hm : bs.length ≤ 211106232532992) (hp : p ≤ bs.length) :
    Spec Try.prog 72 #[.pointer (some ⟨b, 0, none⟩)] [.row b 104 (rdV A c bs.length p f) 3] G (RdPost 104 b A c bs.length (.int .i64 (rnum bs (p, f)).1) (rnum bs (p, f)).2) := by
  refine Spec.intro (args := [_]) wide Try.func72 rfl Try.call72 (by rfl) (by rfl) (fun w0 hw0 => ?_)
  refine vcLoad1_row (j := 2) (v := .int .i64 f) (Ent.gnO .here (fun w hw => Ob.row_at hw)) rfl ?_
  refine vcIf_ndec (fun hf => ?_) (fun hf => ?_)
  · rw [rnum_fault hf]
    exact ⟨_, [], MT, .cons .here .nil, fun _ _ _ => trivial, rfl, rfl, rfl⟩
  subst hf
  refine vcDraw_mix [0,1,2,3,4,5,6,7,8,9,10,11,12,13,14,15] (RowAt (some ⟨b, 0, none⟩) (rdV A c bs.length p 0)) (by kernel_rfl) (Ent.gnO .here (fun w hw => Ob.row_at hw)) ?_
  refine vcLoad1_row (j := 0) (v := .slice A bs.length c) Ent.refl rfl ?_
  refine vcLoad1_row (j := 1) (v := .int .i64 p) Ent.refl rfl ?_
  refine vcCall_of .nil (get_spec A c bs p _ (Ent.gnG h1) hc (by omega)) (fun v own' N' hv => ?_); obtain ⟨rfl, rfl, rfl⟩ := hv
  refine vcMix_same (Ent.gnO .here (fun w hw => Ob.row_at hw)) ?_
  rcases vget_cases bs p hp with ⟨e, h, hne⟩ | ⟨n, en, h, hle⟩
  · rw [h, rnum_no h hne]
    refine vcIf_nyes hne ?_
    refine vcStore1_1 _ _ .here rfl (show (2 : Nat) < 3 by decide) rfl ?_
    exact ⟨_, [], MT, .cons .here .nil, fun _ _ _ => trivial, rfl, rfl, rfl⟩
  · rw [h, rnum_ok h]
    refine vcStore1_1 _ _ .here rfl (show (1 : Nat) < 3 by decide) rfl ?_
    exact ⟨_, [], MT, .cons .here .nil, fun _ _ _ => trivial, rfl, rfl, rfl⟩
theorem left_spec (b : Nat) (A : Option Addr) (c : Nat) (bs : List UInt8) (p : Nat) (f : Int) (G : Mp) (hm : bs.length ≤ 211106232532992) (hp : p ≤ bs.length) :
    Spec Try.prog 53 #[.pointer (some ⟨b, 0, none⟩)] [.row b 104 (rdV A c bs.length p f) 3] G (RdPost 104 b A c bs.length (.int .i64 (rleft bs (p, f))) (p, f)) := by
  refine Spec.intro (args := [_]) wide Try.func53 rfl Try.call53 (by rfl) (by rfl) (fun w0 hw0 => ?_)
  refine vcLoad1_row (j := 2) (v := .int .i64 f) (Ent.gnO .here (fun w hw => Ob.row_at hw)) rfl ?_
  refine vcIf_ndec (fun hf => ?_) (fun hf => ?_)
  · rw [show rleft bs (p, f) = 0 from if_pos hf]
    exact ⟨_, [], MT, .cons .here .nil, fun _ _ _ => trivial, rfl, rfl, rfl⟩
  rw [show rleft bs (p, f) = (bs.length : Int) - p from if_neg (by simpa using hf)]
  refine vcDraw_quiet (by kernel_rfl) ?_
  refine vcLoad1_row (j := 0) (v := .slice A bs.length c) (Ent.gnO .here (fun w hw => Ob.row_at hw)) rfl ?_
  refine vcLoad1_row (j := 1) (v := .int .i64 p) (Ent.gnO .here (fun w hw => Ob.row_at hw)) rfl ?_
  refine vcFit_i64 (by omega) ?_
  exact ⟨_, [], MT, .cons .here .nil, fun _ _ _ => trivial, rfl, rfl, rfl⟩

theorem at_spec (b : Nat) (A : Option Addr) (c n : Nat) (p : Nat) (f : Int) (G : Mp) :
    Spec Try.prog 54 #[.pointer (some ⟨b, 0, none⟩)] [.row b 104 (rdV A c n p f) 3] G (RdPost 104 b A c n (.int .i64 p) (p, f)) := by
  refine Spec.intro (args := [_]) wide Try.func54 rfl Try.call54 (by rfl) (by rfl) (fun w0 hw0 => ?_)
  refine vcLoad1_row (j := 1) (v := .int .i64 p) (Ent.gnO .here (fun w hw => Ob.row_at hw)) rfl ?_
  exact ⟨_, [], MT, .cons .here .nil, fun _ _ _ => trivial, rfl, rfl, rfl⟩
theorem fault_spec (b : Nat) (A : Option Addr) (c n : Nat) (p : Nat) (f : Int) (G : Mp) :
    Spec Try.prog 68 #[.pointer (some ⟨b, 0, none⟩)] [.row b 104 (rdV A c n p f) 3] G (RdPost 104 b A c n (.int .i64 f) (p, f)) := by
  refine Spec.intro (args := [_]) wide Try.func68 rfl Try.call68 (by rfl) (by rfl) (fun w0 hw0 => ?_)
  refine vcLoad1_row (j := 2) (v := .int .i64 f) (Ent.gnO .here (fun w hw => Ob.row_at hw)) rfl ?_
  exact ⟨_, [], MT, .cons .here .nil, fun _ _ _ => trivial, rfl, rfl, rfl⟩
theorem vopen_spec (A : Option Addr) (c : Nat) (bs : List UInt8) (G : Mp) (h1 : Ent G (RowAt A (Bs bs))) (hx : bs.length ≤ 211106232532992) :
    Spec Try.prog 50 #[.slice A bs.length c] [] G (fun v own N => ∃ b A' c', v = .pointer (some ⟨b, 0, none⟩) ∧ own = [.row b 104 (rdV A' c' bs.length 0 0) 3, .sl A' c' 5 1 (Bs bs)] ∧ N = MT ∧ bs.length ≤ c') := by
  refine Spec.intro (args := [_]) wide Try.func50 rfl Try.call50 (by rfl) (by rfl) (fun w0 hw0 => ?_)
  refine vcCall_of .nil (clone_spec A c bs _ (Ent.gnG h1) hx) (fun v own' N' hv => ?_); obtain ⟨A1, c1, rfl, rfl, rfl, hc1⟩ := hv
  intro b
  exact ⟨_, [], MT, .cons .here (.cons .here .nil), fun _ _ _ => trivial, b, A1, c1, rfl, rfl, rfl, hc1⟩

theorem rbytes_fault {bs : List UInt8} {n : Int} {p : Nat} {f : Int} (h : f ≠ 0) : rbytes bs n (p, f) = ([], (p, f)) := if_pos h
theorem rbytes_neg {bs : List UInt8} {n : Int} {p : Nat} (h : n < 0) : rbytes bs n (p, 0) = ([], (p, 10)) := by unfold rbytes; simp [h]
theorem rbytes_short {bs : List UInt8} {n : Int} {p : Nat} (h : ¬ n < 0) (h' : (bs.length : Int) - p < n) : rbytes bs n (p, 0) = ([], (p, 12)) := by unfold rbytes; simp [h, h']
theorem rbytes_ok {bs : List UInt8} {n p : Nat} (h' : ¬ (bs.length : Int) - p < n) : rbytes bs n (p, 0) = ((bs.drop p).take n, (p + n, 0)) := by
  unfold rbytes
  rw [if_neg (by simp), if_neg (by omega), if_neg h']
  simp
theorem bytes_spec (b : Nat) (A : Option Addr) (c : Nat) (bs : List UInt8) (n : Int) (p : Nat) (f : Int) (G : Mp) (h1 : Ent G (RowAt A (Bs bs))) (hc : bs.length ≤ c) (hm : bs.length ≤ 211106232532992) (hp : p ≤ bs.length) :
    Spec Try.prog 67 #[.pointer (some ⟨b, 0, none⟩), .int .i64 n] [.row b 104 (rdV A c bs.length p f) 3] G (RdPostB 104 b A c bs.length (rbytes bs n (p, f)).1 (rbytes bs n (p, f)).2) := by
  refine Spec.intro (args := [_, _]) wide Try.func67 rfl Try.call67 (by rfl) (by rfl) (fun w0 hw0 => ?_)
  refine vcLoad1_row (j := 2) (v := .int .i64 f) (Ent.gnO .here (fun w hw => Ob.row_at hw)) rfl ?_
  refine vcIf_ndec (fun hf => ?_) (fun hf => ?_)
  · rw [rbytes_fault hf]
    exact ⟨_, [], MT, .cons .none_ (.cons .here .nil), fun _ _ _ => trivial, none, 0, rfl, rfl, rfl, Nat.le_refl _⟩
  subst hf
  refine vcIf_dec (fun hn => ?_) (fun hn => ?_)
  · rw [rbytes_neg hn]
    refine vcStore1_1 _ _ .here rfl (show (2 : Nat) < 3 by decide) rfl ?_
    exact ⟨_, [], MT, .cons .none_ (.cons .here .nil), fun _ _ _ => trivial, none, 0, rfl, rfl, rfl, Nat.le_refl _⟩
  obtain ⟨n, rfl⟩ := Int.eq_ofNat_of_zero_le (show 0 ≤ n by omega)
  refine vcCall_of (.cons .here .nil) (left_spec b A c bs p 0 _ (by omega) hp) (fun v own' N' hv => ?_)
  obtain ⟨rfl, rfl, rfl⟩ := hv
  rw [show rleft bs (p, 0) = (bs.length : Int) - p from if_neg (by simp)]
  refine vcIf_dec (fun hs => ?_) (fun hs => ?_)
  · rw [rbytes_short hn hs]
    refine vcStore1_1 _ _ .here rfl (show (2 : Nat) < 3 by decide) rfl ?_
    exact ⟨_, [], MT, .cons .none_ (.cons .here .nil), fun _ _ _ => trivial, none, 0, rfl, rfl, rfl, Nat.le_refl _⟩
  rw [rbytes_ok hs]
  refine vcLoad1_row (j := 1) (v := .int .i64 p) (Ent.gnO .here (fun w hw => Ob.row_at hw)) rfl ?_
  refine vcFit_i64 (by omega) ?_
  rw [show (p : Int) + n = ((p + n : Nat) : Int) from by omega]
  refine vcStore1_1 _ _ .here rfl (show (1 : Nat) < 3 by decide) rfl ?_
  refine vcDraw_mix [0,1,2,3,4,5,6,7,8,9,10,11,12,13,14,15,16] (RowAt (some ⟨b, 0, none⟩) (rdV A c bs.length (p + n) 0)) (by kernel_rfl) (Ent.gnO .here (fun w hw => Ob.row_at hw)) ?_
  refine vcLoad1_row (j := 0) (v := .slice A bs.length c) Ent.refl rfl ?_
  refine vcLoad1_row (j := 1) (v := .int .i64 (p + n : Nat)) Ent.refl rfl ?_
  refine vcFit_i64 (by omega) ?_
  refine vcLoad1_row (j := 1) (v := .int .i64 (p + n : Nat)) Ent.refl rfl ?_
  have hl : ((bs.drop p).take n).length = n := by rw [List.length_take, List.length_drop]; omega
  refine vcSlice3_as p n (c - p) (by omega) (by omega) (by omega) (by omega) (by omega) (fun A' hA' => ?_)
  have hrow : Ent G (RowAt A' (Bs ((bs.drop p).take n))) := h1.mono fun w hw => hw.bytes hA' (by omega) (by rw [hl])
  generalize (bs.drop p).take n = q at hl hrow ⊢
  subst hl
  refine vcCall_of .nil (clone_spec A' (c - p) q _ (Ent.gnG hrow) (by omega)) (fun v own' N' hv => ?_); obtain ⟨A1, c1, rfl, rfl, rfl, hc1⟩ := hv
  refine vcMix_same (Ent.gnO (.there .here) (fun w hw => Ob.row_at hw)) ?_
  exact ⟨_, [], MT, .cons .here (.cons .here .nil), fun _ _ _ => trivial, A1, c1, rfl, rfl, rfl, hc1⟩
end Go.Proofs.Ytnhkeghahiedfaa
end

section
/- Contracts that keep what they drop as facts. -/
namespace Go.Proofs.Ytnhkeghahiedfaa
open Go.Proofs

/-- A contract that keeps what it drops as facts. -/
theorem Spec.drop {P : Program} {f : FuncId} {args : Array Value} {A : List Ob} {G : Mp} {Post Post' : Value → List Ob → Mp → Prop} (h : Spec P f args A G Post)
    (hp : ∀ v own N, Post v own N → ∃ own' rest N', own = own' ++ rest ∧ (∀ w, N w → Objs rest w → N' w) ∧ Post' v own' N') : Spec P f args A G Post' :=
  ⟨h.1, fun w hw => (h.2 w hw).mono fun _ _ ⟨v, own, N, he, hP, hi⟩ => by
    obtain ⟨own', rest, N', rfl, hN, hP'⟩ := hp _ _ _ hP
    exact ⟨v, own', N', he, hP', Inv.drop hi hN⟩⟩
/-- Bytes that stay as they are. -/
def GetB (bs : List UInt8) (v : Value) (own : List Ob) (N : Mp) : Prop := ∃ A c, v = .slice A bs.length c ∧ own = [] ∧ Ent N (RowAt A (Bs bs)) ∧ bs.length ≤ c
theorem Spec.getB {P : Program} {f : FuncId} {args : Array Value} {A : List Ob} {G : Mp} {bs : List UInt8} (h : Spec P f args A G (OwnB bs)) : Spec P f args A G (GetB bs) :=
  h.drop fun v own N hv => by
    obtain ⟨A', c', rfl, rfl, rfl, hc⟩ := hv
    exact ⟨[], _, RowAt A' (Bs bs), rfl, fun w _ ho => Ob.sl_at (ho _ (List.mem_singleton.2 rfl)), A', c', rfl, rfl, Ent.refl, hc⟩
theorem copyG_spec (A : Option Addr) (c : Nat) (xs : List UInt8) (G : Mp) (h1 : Ent G (RowAt A (Bs xs))) (hx : xs.length ≤ 281474976710656) :
    Spec Try.prog 9 #[.slice A xs.length c] [] G (GetB xs) := (copy_spec A c xs G h1 hx).getB
theorem cutA_0 (A : Option Addr) (cap size : Nat) : cutA A cap 0 size = A := by
  unfold cutA
  split
  · rfl
  · cases A with
    | none => rfl
    | some a => simp [Addr.add]
end Go.Proofs.Ytnhkeghahiedfaa
end

section
/- Bytes of numbers; pairs of bytes and an error. -/
namespace Go.Proofs.Ytnhkeghahiedfaa
open Go.Proofs

/-- A number's last byte. -/
def byteI (e : Int) : UInt8 := UInt8.ofNat (e % 256).toNat
theorem byteI_nat (n : Nat) : byteI (n : Int) = UInt8.ofNat (n % 256) := by unfold byteI; rw [show ((n : Int) % 256).toNat = n % 256 from by omega]
theorem vcFit_byte {e : Int} {X : Int → Prop} (k : X ((byteI e).toNat : Int)) : vcFit .u8 e X := by
  refine vcFit_u8 ?_
  have h : (((byteI e).toNat : Nat) : Int) = e % 256 := by unfold byteI; rw [UInt8.toNat_ofNat']; omega
  rw [← h]; exact k
theorem byteI_div (n m : Nat) : byteI ((n : Int) / (m : Int)) = UInt8.ofNat (n / m % 256) := by rw [← byteI_nat]; congr 1
theorem byteI_shr (n k : Nat) : byteI ((n : Int) / 2 ^ k) = UInt8.ofNat (n / 2 ^ k % 256) := by rw [← byteI_nat]; congr 1
theorem OwnB_lit {bs cs : List UInt8} {b c : Nat} {N : Mp} (h : cs = bs) (hc : cs.length ≤ c) (hN : N = MT) : OwnB bs (.slice (some ⟨b, 0, none⟩) cs.length c) [.sl (some ⟨b, 0, none⟩) c 5 1 (Bs cs)] N := by
  subst h; exact ⟨_, c, rfl, rfl, hN, hc⟩

def OwnBE (bs : List UInt8) (e : Int) (v : Value) (own : List Ob) (N : Mp) : Prop := ∃ A cap, v = .tuple #[.slice A bs.length cap, .int .i64 e] ∧ own = [.sl A cap 5 1 (Bs bs)] ∧ N = MT ∧ bs.length ≤ cap
theorem OwnBE_nil (e : Int) : OwnBE [] e (.tuple #[.slice none 0 0, .int .i64 e]) [.sl none 0 5 1 []] MT := ⟨none, 0, rfl, rfl, rfl, Nat.le_refl _⟩
theorem retE {s : List UInt8 × Int} {bs : List UInt8} {e : Int} (h : s = (bs, e)) {v : Value} {own : List Ob} {N : Mp} (k : OwnBE bs e v own N) : OwnBE s.1 s.2 v own N := by subst h; exact k
def GetBE (bs : List UInt8) (e : Int) (v : Value) (own : List Ob) (N : Mp) : Prop := ∃ A cap, v = .tuple #[.slice A bs.length cap, .int .i64 e] ∧ own = [] ∧ Ent N (RowAt A (Bs bs)) ∧ bs.length ≤ cap
end Go.Proofs.Ytnhkeghahiedfaa
end

section
/- Headers: what reading them gives; items of a source. -/
namespace Go.Proofs.Ytnhkeghahiedfaa
open Go.Proofs
set_option maxRecDepth 10000

/-- So many bytes from a place on. -/
def takeP (bs : List UInt8) (n p : Nat) : Except Int (List UInt8 × Nat) := if bs.length < p + n then .error 12 else .ok ((bs.drop p).take n, p + n)
/-- A number from a place on. -/
def numP (bs : List UInt8) (p : Nat) : Except Int (Nat × Nat) := if (vget bs p).2.2 ≠ 0 then .error 12 else .ok ((vget bs p).1.toNat, (vget bs p).2.1.toNat)
/-- A connection id with its length ahead. -/
def cidP (bs : List UInt8) (p : Nat) : Except Int (List UInt8 × Nat) :=
  match takeP bs 1 p with
  | .error e => .error e
  | .ok (x, q) => if 20 < beval 0 x then .error 61 else takeP bs (beval 0 x) q
theorem takeP_ok {bs : List UInt8} {n p q : Nat} {xs : List UInt8} (h : takeP bs n p = .ok (xs, q)) : xs = (bs.drop p).take n ∧ q = p + n ∧ p + n ≤ bs.length ∧ xs.length = n := by
  unfold takeP at h
  split at h
  · cases h
  · cases h
    refine ⟨rfl, rfl, by omega, ?_⟩
    rw [List.length_take, List.length_drop]; omega
theorem takeP_err {bs : List UInt8} {n p : Nat} {e : Int} (h : takeP bs n p = .error e) : e = 12 ∧ bs.length < p + n := by
  unfold takeP at h
  split at h
  · cases h; exact ⟨rfl, by omega⟩
  · cases h
theorem numP_ok {bs : List UInt8} {n p q : Nat} (hp : p ≤ bs.length) (h : numP bs p = .ok (n, q)) : vget bs p = ((n : Int), (q : Int), 0) ∧ q ≤ bs.length := by
  unfold numP at h
  rcases vget_cases bs p hp with ⟨e, hv, he⟩ | ⟨m, en, hv, hen⟩
  · rw [hv, if_pos he] at h; cases h
  · rw [hv, if_neg (fun h => h rfl)] at h
    cases h
    exact ⟨by rw [hv]; simp, by simpa using hen⟩
theorem numP_err {bs : List UInt8} {p : Nat} {e : Int} (hp : p ≤ bs.length) (h : numP bs p = .error e) : e = 12 ∧ ∃ e', vget bs p = (0, 0, e') ∧ e' ≠ 0 := by
  unfold numP at h
  rcases vget_cases bs p hp with ⟨e', hv, he⟩ | ⟨m, en, hv, hen⟩
  · rw [hv, if_pos he] at h; cases h; exact ⟨rfl, e', hv, he⟩
  · rw [hv, if_neg (fun h => h rfl)] at h; cases h

def srcV (b : Nat) : Value := .agg #[.pointer (some ⟨b, 0, none⟩)]
def srcC (b : Nat) : List Value := [.pointer (some ⟨b, 0, none⟩)]
/-- What ends the reading. -/
def pE (e : Int) : PanicEntry := { v := .iface 87 (.agg #[.int .i64 e]), recovered := false }
def brk (e : Int) : XK := fun ch own N => ch = [pE e] ∧ own = [] ∧ N = MT
def rdO (b : Nat) (A : Option Addr) (c n p : Nat) (f : Int) : Ob := .row b 104 (rdV A c n p f) 3

theorem must_spec (b : Nat) (A : Option Addr) (c n p : Nat) (f : Int) (ok : Bool) (e : Int) (G : Mp) :
    SpecE Try.prog 52 #[srcV b, .bool ok, .int .i64 e] [rdO b A c n p f] G (fun v own N => (f = 0 ∧ ok = true) ∧ v = .tuple #[] ∧ own = [rdO b A c n p f] ∧ N = MT)
      (fun ch own N => (f ≠ 0 ∨ ok = false) ∧ brk (if f ≠ 0 then 12 else e) ch own N) := by
  refine SpecE.intro (args := [_, _, _]) wide Try.func52 rfl Try.call52 (by rfl) (by rfl) (fun w0 hw0 => ?_)
  intro bx
  refine vcLoad1_row (j := 0) (v := .pointer (some ⟨b, 0, none⟩)) ((Ent.gnO .here (fun w hw => Ob.row_at hw)) : Ent _ (RowAt (some ⟨bx, 0, none⟩) (srcC b))) rfl ?_
  refine vcCall_of (.cons (by first | ((repeat (first | exact .here | apply Take.there)); done) | exact .none_) .nil) (fault_spec b A c n p f _) (fun v own' N' hv => ?_)
  obtain ⟨rfl, rfl, rfl⟩ := hv
  refine vcIf_ndec (fun hf => ?_) (fun hf => ?_)
  · exact ⟨[], _, MT, .nil, fun _ _ _ => trivial, .inl hf, by rw [if_pos hf]; rfl, rfl, rfl⟩
  · cases ok with
    | true => exact ⟨_, _, MT, .cons (by first | ((repeat (first | exact .here | apply Take.there)); done) | exact .none_) .nil, fun _ _ _ => trivial, ⟨hf, rfl⟩, rfl, rfl, rfl⟩
    | false => exact ⟨[], _, MT, .nil, fun _ _ _ => trivial, .inr rfl, by rw [if_neg (by omega)]; rfl, rfl, rfl⟩
end Go.Proofs.Ytnhkeghahiedfaa
end

section
/- Layer 8's plain part: numbers from their last bytes; nonces; packets. -/
namespace Go.Proofs.Ytnhkeghahiedfaa
open Go.Proofs
set_option maxRecDepth 10000

/-- The number that its last bytes tell. -/
def expandI (high part width : Int) : Int :=
  if width < 1 ∨ 4 < width ∨ high < -1 ∨ 4611686018427387903 < high ∨ part < 0 ∨ (256 : Int) ^ width.toNat ≤ part then 0 else
    let size : Int := 256 ^ width.toNat
    let n := (high + 1) / size * size + part
    if n + size ≤ 4611686018427387903 ∧ size / 2 ≤ high + 1 - n then n + size else if size ≤ n ∧ (size / 2 < n - (high + 1) ∨ 4611686018427387903 < n) then n - size else n
theorem expandI_no {high part width : Int} (h : width < 1 ∨ 4 < width ∨ high < -1 ∨ 4611686018427387903 < high ∨ part < 0 ∨ (256 : Int) ^ width.toNat ≤ part) : expandI high part width = 0 := if_pos h

theorem andNot_low (a k n : Nat) (ha : a < 2 ^ n) (hk : k ≤ n) : (BitVec.ofNat n a &&& ~~~ BitVec.ofNat n (2 ^ k - 1)).toNat = a / 2 ^ k * 2 ^ k := by
  have hlt : 2 ^ k - 1 < 2 ^ n := by have := Nat.pow_le_pow_right (n := 2) (by omega) hk; have := Nat.two_pow_pos k; omega
  apply Nat.eq_of_testBit_eq
  intro i
  rw [BitVec.toNat_and, Nat.testBit_and, BitVec.toNat_ofNat, Nat.mod_eq_of_lt ha, BitVec.testBit_toNat, BitVec.getLsbD_not, BitVec.getLsbD_ofNat, Nat.testBit_two_pow_sub_one, Nat.testBit_mul_two_pow]
  rw [Nat.testBit_div_two_pow]
  by_cases hik : k ≤ i
  · have e : i - k + k = i := by omega
    have e2 : (i < k) = False := by simp; omega
    by_cases hin : i < n
    · simp [hik, hin, e, e2]
    · have hf : a.testBit i = false := Nat.testBit_lt_two_pow (Nat.lt_of_lt_of_le ha (Nat.pow_le_pow_right (by omega) (by omega)))
      simp [hik, e, hf]
  · have : i < k := by omega
    have hin : i < n := by omega
    simp [hik, this, hin]
theorem bitI_andNot (a k : Nat) (ha : a ≤ 4611686018427387904) (hk : k ≤ 32) : bitI .andNot .i64 (a : Int) ((2 ^ k - 1 : Nat) : Int) = ((a / 2 ^ k * 2 ^ k : Nat) : Int) := by
  have hp : (2 : Nat) ^ k ≤ 2 ^ 32 := Nat.pow_le_pow_right (by omega) hk
  have hle : a / 2 ^ k * 2 ^ k ≤ a := Nat.div_mul_le_self a (2 ^ k)
  have e : (BitVec.ofInt 64 (a : Int) &&& ~~~ BitVec.ofInt 64 ((2 ^ k - 1 : Nat) : Int)).toNat = a / 2 ^ k * 2 ^ k := by
    rw [BitVec.ofInt_natCast, BitVec.ofInt_natCast]
    exact andNot_low a k 64 (by omega) (by omega)
  show IntKind.i64.wrap ((BitVec.ofInt 64 (a : Int) &&& ~~~ BitVec.ofInt 64 ((2 ^ k - 1 : Nat) : Int)).toNat : Int) = _
  rw [e]
  exact wrap_in .i64 _ (by have := min_le .i64; omega) (by rw [max_i64]; omega)
end Go.Proofs.Ytnhkeghahiedfaa
end

section
/- header.Expand and the reference's. -/
namespace Go.Proofs.Ytnhkeghahiedfaa
open Go.Proofs
set_option maxRecDepth 10000

theorem pow256 (w : Nat) (h1 : 1 ≤ w) (h4 : w ≤ 4) : 256 ≤ 256 ^ w ∧ 256 ^ w ≤ 4294967296 := by
  match w, h1, h4 with
  | 1, _, _ | 2, _, _ | 3, _, _ | 4, _, _ => decide
theorem pow256_2 (w : Nat) : (2 : Nat) ^ (8 * w) = 256 ^ w := by rw [Nat.pow_mul]
/-- The number, in the terms of the program. -/
theorem expandI_ok {h p w : Nat} {high : Int} (hh : high + 1 = h) (h1 : 1 ≤ w) (h4 : w ≤ 4) (hm : h ≤ 4611686018427387904) (hp : p < 256 ^ w) :
    expandI high p w = (if (h / 256 ^ w * 256 ^ w + p : Nat) + (256 ^ w : Nat) ≤ (4611686018427387903 : Int) ∧ ((256 ^ w : Nat) : Int) / 2 ≤ h - (h / 256 ^ w * 256 ^ w + p : Nat) then ((h / 256 ^ w * 256 ^ w + p : Nat) : Int) + (256 ^ w : Nat)
      else if ((256 ^ w : Nat) : Int) ≤ (h / 256 ^ w * 256 ^ w + p : Nat) ∧ (((256 ^ w : Nat) : Int) / 2 < (h / 256 ^ w * 256 ^ w + p : Nat) - h ∨ (4611686018427387903 : Int) < (h / 256 ^ w * 256 ^ w + p : Nat)) then ((h / 256 ^ w * 256 ^ w + p : Nat) : Int) - (256 ^ w : Nat) else (h / 256 ^ w * 256 ^ w + p : Nat)) := by
  have e : (256 : Int) ^ (w : Int).toNat = ((256 ^ w : Nat) : Int) := by simp
  have e2 : (h : Int) / ((256 ^ w : Nat) : Int) * ((256 ^ w : Nat) : Int) + (p : Int) = ((h / 256 ^ w * 256 ^ w + p : Nat) : Int) := by rw [Int.natCast_add, Int.natCast_mul, Int.natCast_ediv]
  unfold expandI
  rw [e, if_neg (by omega), hh]
  simp only [e2]

end Go.Proofs.Ytnhkeghahiedfaa
end

section
/- Headers: the items that a source reads. -/
namespace Go.Proofs.Ytnhkeghahiedfaa
open Go.Proofs
set_option maxRecDepth 10000

section
variable (b : Nat) (A : Option Addr) (c : Nat) (bs : List UInt8) (p : Nat) (G : Mp)
def TakeOk (r : Except Int (List UInt8 × Nat)) (v : Value) (own : List Ob) (N : Mp) : Prop :=
  ∃ xs q, r = .ok (xs, q) ∧ ∃ A' c', v = .slice A' xs.length c' ∧ own = [rdO b A c bs.length q 0] ∧ Ent N (RowAt A' (Bs xs)) ∧ xs.length ≤ c'
def IsErr {α : Type} (r : Except Int α) : XK := fun ch own N => ∃ e, r = .error e ∧ brk e ch own N

theorem take_spec (n : Nat) (h1 : Ent G (RowAt A (Bs bs))) (hc : bs.length ≤ c) (hm : bs.length ≤ 211106232532992) (hp : p ≤ bs.length) :
    SpecE Try.prog 51 #[srcV b, .int .i64 n] [rdO b A c bs.length p 0] G (TakeOk b A c bs (takeP bs n p)) (IsErr (takeP bs n p)) := by
  refine SpecE.intro (args := [_, _]) wide Try.func51 rfl Try.call51 (by rfl) (by rfl) (fun w0 hw0 => ?_)
  intro bx
  refine vcLoad1_row (j := 0) (v := .pointer (some ⟨b, 0, none⟩)) ((Ent.gnO .here (fun w hw => Ob.row_at hw)) : Ent _ (RowAt (some ⟨bx, 0, none⟩) (srcC b))) rfl ?_
  refine vcCall_of (.cons (by first | ((repeat (first | exact .here | apply Take.there)); done) | exact .none_) .nil) (bytes_spec b A c bs n p 0 _ (Ent.gnG h1) hc hm hp) (fun v own' N' hv => ?_)
  by_cases hlt : (bs.length : Int) - p < n
  · rw [rbytes_short (by omega) hlt] at hv
    obtain ⟨A', c', rfl, rfl, rfl, _⟩ := hv
    refine vcLoadN_0 (xs := srcC b) (by first | exact Ent.gnO (by repeat first | exact .here | apply Take.there) (fun w hw => Ob.sl_at hw) | exact Ent.gnO (by repeat first | exact .here | apply Take.there) (fun w hw => Ob.row_at hw)) rfl ?_
    refine vcCall_may (.cons (by first | ((repeat (first | exact .here | apply Take.there)); done) | exact .none_) .nil) (must_spec b A c bs.length p 12 true 0 _) (fun ch own' N' hx => ?_) (fun v own' N' hv => ?_)
    · obtain ⟨_, rfl, rfl, rfl⟩ := hx
      exact ⟨[], _, MT, .nil, fun _ _ _ => trivial, 12, if_pos (by omega), rfl, rfl, rfl⟩
    · exact absurd hv.1.1 (by decide)
  · rw [rbytes_ok hlt] at hv
    have hok : takeP bs n p = .ok ((bs.drop p).take n, p + n) := if_neg (by omega)
    obtain ⟨A', c', rfl, rfl, rfl, hc'⟩ := hv
    refine vcLoadN_0 (xs := srcC b) (by first | exact Ent.gnO (by repeat first | exact .here | apply Take.there) (fun w hw => Ob.sl_at hw) | exact Ent.gnO (by repeat first | exact .here | apply Take.there) (fun w hw => Ob.row_at hw)) rfl ?_
    refine vcCall_may (.cons (by first | ((repeat (first | exact .here | apply Take.there)); done) | exact .none_) .nil) (must_spec b A c bs.length (p + n) 0 true 0 _) (fun ch own' N' hx => ?_) (fun v own' N' hv => ?_)
    · rcases hx.1 with h | h
      · exact absurd rfl h
      · cases h
    · obtain ⟨_, rfl, rfl, rfl⟩ := hv
      exact ⟨_, _, RowAt A' (Bs ((bs.drop p).take n)), .cons (by first | ((repeat (first | exact .here | apply Take.there)); done) | exact .none_) .nil, fun w _ ho => Ob.sl_at (ho (.sl A' c' 5 1 (Bs ((bs.drop p).take n))) (by simp)), _, _, hok, A', c', rfl, rfl, Ent.refl, hc'⟩

def NumOk (r : Except Int (Nat × Nat)) (v : Value) (own : List Ob) (N : Mp) : Prop := ∃ n q, r = .ok (n, q) ∧ v = .int .i64 n ∧ own = [rdO b A c bs.length q 0] ∧ N = MT
theorem num_spec (h1 : Ent G (RowAt A (Bs bs))) (hc : bs.length ≤ c) (hm : bs.length ≤ 211106232532992) (hp : p ≤ bs.length) :
    SpecE Try.prog 69 #[srcV b] [rdO b A c bs.length p 0] G (NumOk b A c bs (numP bs p)) (IsErr (numP bs p)) := by
  refine SpecE.intro (args := [_]) wide Try.func69 rfl Try.call69 (by rfl) (by rfl) (fun w0 hw0 => ?_)
  intro bx
  refine vcLoad1_row (j := 0) (v := .pointer (some ⟨b, 0, none⟩)) ((Ent.gnO .here (fun w hw => Ob.row_at hw)) : Ent _ (RowAt (some ⟨bx, 0, none⟩) (srcC b))) rfl ?_
  refine vcCall_of (.cons (by first | ((repeat (first | exact .here | apply Take.there)); done) | exact .none_) .nil) (number_spec b A c bs p 0 _ (Ent.gnG h1) hc hm hp) (fun v own' N' hv => ?_)
  rcases vget_cases bs p hp with ⟨e, hv0, he⟩ | ⟨n, en, hv0, hen⟩
  · rw [rnum_no hv0 he] at hv
    obtain ⟨rfl, rfl, rfl⟩ := hv
    refine vcLoadN_0 (xs := srcC b) (by first | exact Ent.gnO (by repeat first | exact .here | apply Take.there) (fun w hw => Ob.sl_at hw) | exact Ent.gnO (by repeat first | exact .here | apply Take.there) (fun w hw => Ob.row_at hw)) rfl ?_
    refine vcCall_may (.cons (by first | ((repeat (first | exact .here | apply Take.there)); done) | exact .none_) .nil) (must_spec b A c bs.length p e true 0 _) (fun ch own' N' hx => ?_) (fun v own' N' hv => ?_)
    · obtain ⟨_, hx, rfl, rfl⟩ := hx
      rw [if_pos he] at hx
      subst hx
      exact ⟨[], _, MT, .nil, fun _ _ _ => trivial, 12, by unfold numP; rw [hv0, if_pos he], rfl, rfl, rfl⟩
    · exact absurd hv.1.1 he
  · rw [rnum_ok hv0] at hv
    obtain ⟨rfl, rfl, rfl⟩ := hv
    have hok : numP bs p = .ok (n, en) := by unfold numP; rw [hv0, if_neg (fun h => h rfl)]; simp
    refine vcLoadN_0 (xs := srcC b) (by first | exact Ent.gnO (by repeat first | exact .here | apply Take.there) (fun w hw => Ob.sl_at hw) | exact Ent.gnO (by repeat first | exact .here | apply Take.there) (fun w hw => Ob.row_at hw)) rfl ?_
    refine vcCall_may (.cons (by first | ((repeat (first | exact .here | apply Take.there)); done) | exact .none_) .nil) (must_spec b A c bs.length en 0 true 0 _) (fun ch own' N' hx => ?_) (fun v own' N' hv => ?_)
    · rcases hx.1 with h | h
      · exact absurd rfl h
      · cases h
    · obtain ⟨_, rfl, rfl, rfl⟩ := hv
      exact ⟨_, _, MT, .cons (by first | ((repeat (first | exact .here | apply Take.there)); done) | exact .none_) .nil, fun _ _ _ => trivial, n, en, hok, rfl, rfl, rfl⟩

def wordP : Except Int (Nat × Nat) := match takeP bs 4 p with
  | .error e => .error e
  | .ok (x, q) => .ok (beval 0 x, q)
theorem beval_append : ∀ (a b : List UInt8) (n : Nat), beval n (a ++ b) = beval (beval n a) b
  | [], _, _ => rfl
  | _ :: r, b, _ => beval_append r b _
theorem beval_ge : ∀ (l : List UInt8) (n : Nat), n ≤ beval n l
  | [], n => Nat.le_refl n
  | x :: r, n => Nat.le_trans (by omega) (beval_ge r (n * 256 + x.toNat))
theorem beval_pre (bs : List UInt8) (k : Nat) : beval 0 (bs.take k) ≤ beval 0 bs := by
  have e : bs = bs.take k ++ bs.drop k := (List.take_append_drop _ _).symm
  generalize bs.take k = x at e ⊢
  generalize bs.drop k = y at e
  subst e
  rw [beval_append]
  exact beval_ge y _
theorem beval_4 (l : List UInt8) (h : l.length ≤ 4) : beval 0 l < 4294967296 := by
  have := beval_lt l 0 1 (by omega)
  have h2 : 256 ^ l.length ≤ 256 ^ 4 := Nat.pow_le_pow_right (by omega) h
  have h3 : (256 : Nat) ^ 4 = 4294967296 := by decide
  omega
theorem hword_spec (h1 : Ent G (RowAt A (Bs bs))) (hc : bs.length ≤ c) (hm : bs.length ≤ 211106232532992) (hp : p ≤ bs.length) :
    SpecE Try.prog 55 #[srcV b] [rdO b A c bs.length p 0] G (NumOk b A c bs (wordP bs p)) (IsErr (wordP bs p)) := by
  refine SpecE.intro (args := [_]) wide Try.func55 rfl Try.call55 (by rfl) (by rfl) (fun w0 hw0 => ?_)
  intro bx
  refine vcLoadN_0 (xs := srcC b) (Ent.gnO .here (fun w hw => Ob.row_at hw)) rfl ?_
  refine vcCall_may (.cons (by first | ((repeat (first | exact .here | apply Take.there)); done) | exact .none_) .nil) (take_spec b A c bs p _ 4 (Ent.gnG h1) hc hm hp) (fun ch own' N' hx => ?_) (fun v own' N' hv => ?_)
  · obtain ⟨e, he, rfl, rfl, rfl⟩ := hx
    exact ⟨[], _, MT, .nil, fun _ _ _ => trivial, e, by unfold wordP; rw [he], rfl, rfl, rfl⟩
  · obtain ⟨xs, q, hxq, A', c', rfl, rfl, hr, hc'⟩ := hv
    obtain ⟨_, _, _, h4⟩ := takeP_ok hxq
    have hwq : wordP bs p = .ok (beval 0 xs, q) := by unfold wordP; rw [hxq]
    have hb4 := beval_4 xs (by omega)
    refine vcLoop_of (fun k : Nat => xs.length - k) (fun k => [(3, .int .i64 (beval 0 (xs.take k) : Nat)), (7, .slice A' xs.length c'), (8, .int .i64 xs.length), (9, .int .i64 k)]) (fun _ => [rdO b A c bs.length q 0]) (fun _ => RowAt A' (Bs xs)) (fun k => k ≤ xs.length) 0 (Nat.zero_le _)
      ⟨rfl, rfl, rfl, rfl, trivial⟩ ⟨_, .cons (by first | ((repeat (first | exact .here | apply Take.there)); done) | exact .none_) .nil⟩ (by repeat first | exact Ent.andR hr | refine Ent.andL ?_) ?_
    intro k hk
    refine vcIf_dec (fun hlt => ?_) (fun hge => ?_)
    · have hk' : k < xs.length := by omega
      have hle := beval_pre xs (k + 1)
      have hs : beval 0 (xs.take (k + 1)) = beval 0 (xs.take k) * 256 + xs[k].toNat := by rw [take_snoc_get hk', beval_snoc]
      have hx := xs[k].toNat_lt
      refine vcIdx_nat k rfl (Ent.gnN Ent.refl) hk' (by rw [Bs_length]; omega) (fun a ha => ?_)
      subst ha
      refine vcLoad1_row (v := .int .u8 xs[k].toNat) (Ent.gnN Ent.refl) (Bs_get hk') ?_
      refine vcShl_lit 8 rfl (by decide) ?_
      refine vcFit_i64 (by omega) ?_
      refine vcFit_i64 (by omega) ?_
      have hor : bitI .or .i64 ((beval 0 (xs.take k) : Nat) * 2 ^ 8 : Int) (xs[k].toNat : Int) = ((beval 0 (xs.take (k + 1)) : Nat) : Int) := by
        rw [hs, show ((beval 0 (xs.take k) : Nat) * 2 ^ 8 : Int) = ((beval 0 (xs.take k) * 2 ^ 8 : Nat) : Int) from by omega, bitI_or (by rw [max_i64]; omega) (by rw [max_i64]; omega), or_low _ _ _ (by omega)]
      refine vcBit_as _ hor ?_
      refine vcFit_i64 (by omega) ?_
      exact ⟨k + 1, by omega, by omega, ⟨rfl, rfl, rfl, rfl, trivial⟩, ⟨_, .cons (by first | ((repeat (first | exact .here | apply Take.there)); done) | exact .none_) .nil⟩, Ent.refl⟩
    · have hk' : k = xs.length := by omega
      subst hk'
      rw [List.take_length]
      exact ⟨_, _, MT, .cons (by first | ((repeat (first | exact .here | apply Take.there)); done) | exact .none_) .nil, fun _ _ _ => trivial, _, q, hwq, rfl, rfl, rfl⟩
theorem cid_spec (h1 : Ent G (RowAt A (Bs bs))) (hc : bs.length ≤ c) (hm : bs.length ≤ 211106232532992) (hp : p ≤ bs.length) :
    SpecE Try.prog 56 #[srcV b] [rdO b A c bs.length p 0] G (TakeOk b A c bs (cidP bs p)) (IsErr (cidP bs p)) := by
  refine SpecE.intro (args := [_]) wide Try.func56 rfl Try.call56 (by rfl) (by rfl) (fun w0 hw0 => ?_)
  intro bx
  refine vcLoadN_0 (xs := srcC b) (Ent.gnO .here (fun w hw => Ob.row_at hw)) rfl ?_
  refine vcCall_may (.cons (by first | ((repeat (first | exact .here | apply Take.there)); done) | exact .none_) .nil) (take_spec b A c bs p _ 1 (Ent.gnG h1) hc hm hp) (fun ch own' N' hx => ?_) (fun v own' N' hv => ?_)
  · obtain ⟨e, he, rfl, rfl, rfl⟩ := hx
    exact ⟨[], _, MT, .nil, fun _ _ _ => trivial, e, by unfold cidP; rw [he], rfl, rfl, rfl⟩
  · obtain ⟨xs, q, hxq, A', c', rfl, rfl, hr, hc'⟩ := hv
    obtain ⟨_, hq, hpn, hl1⟩ := takeP_ok hxq
    obtain ⟨x, rfl⟩ : ∃ x, xs = [x] := by
      cases xs with
      | nil => cases hl1
      | cons x r => cases r with
        | nil => exact ⟨x, rfl⟩
        | cons _ _ => simp at hl1
    have hx := x.toNat_lt
    have hb : beval 0 [x] = x.toNat := by simp [beval]
    refine vcIdx_nat (xs := Bs [x]) 0 rfl (Ent.gnN (by repeat first | exact Ent.andR hr | refine Ent.andL ?_)) Nat.zero_lt_one (Nat.le_refl 1) (fun a ha => ?_)
    subst ha
    refine vcLoad1_row (v := .int .u8 x.toNat) (Ent.gnN (by repeat first | exact Ent.andR hr | refine Ent.andL ?_)) rfl ?_
    refine vcFit_i64 (by omega) ?_
    refine vcLoadN_0 (xs := srcC b) (by first | exact Ent.gnO (by repeat first | exact .here | apply Take.there) (fun w hw => Ob.sl_at hw) | exact Ent.gnO (by repeat first | exact .here | apply Take.there) (fun w hw => Ob.row_at hw)) rfl ?_
    refine vcCall_may (.cons (by first | ((repeat (first | exact .here | apply Take.there)); done) | exact .none_) .nil) (must_spec b A c bs.length q 0 _ 61 _) (fun ch own' N' hx => ?_) (fun v own' N' hv => ?_)
    · obtain ⟨h, rfl, rfl, rfl⟩ := hx
      rcases h with h | h
      · exact absurd rfl h
      · have h20 := of_decide_eq_false h
        exact ⟨[], _, MT, .nil, fun _ _ _ => trivial, 61, by unfold cidP; rw [hxq]; simp only [hb]; rw [if_pos (by omega)], rfl, rfl, rfl⟩
    · obtain ⟨⟨_, h⟩, rfl, rfl, rfl⟩ := hv
      have h20 := of_decide_eq_true h
      have hcq : cidP bs p = takeP bs x.toNat q := by unfold cidP; rw [hxq]; simp only [hb]; rw [if_neg (by omega)]
      refine vcLoadN_0 (xs := srcC b) (by first | exact Ent.gnO (by repeat first | exact .here | apply Take.there) (fun w hw => Ob.sl_at hw) | exact Ent.gnO (by repeat first | exact .here | apply Take.there) (fun w hw => Ob.row_at hw)) rfl ?_
      refine vcCall_may (.cons (by first | ((repeat (first | exact .here | apply Take.there)); done) | exact .none_) .nil) (take_spec b A c bs q _ x.toNat (Ent.gnG h1) hc hm (by omega)) (fun ch own' N' hx => ?_) (fun v own' N' hv => ?_)
      · obtain ⟨e, he, rfl, rfl, rfl⟩ := hx
        exact ⟨[], _, MT, .nil, fun _ _ _ => trivial, e, by rw [hcq, he], rfl, rfl, rfl⟩
      · obtain ⟨ys, r, hyr, A2, c2, rfl, rfl, hr2, hc2⟩ := hv
        exact ⟨_, _, _, .cons (by first | ((repeat (first | exact .here | apply Take.there)); done) | exact .none_) .nil, fun _ h _ => h, ys, r, by rw [hcq, hyr], A2, c2, rfl, rfl, (by repeat first | exact Ent.andR hr2 | refine Ent.andL ?_), hc2⟩
end
end Go.Proofs.Ytnhkeghahiedfaa
end

section
/- Headers: what stands behind the ids of a long header of our version. -/
namespace Go.Proofs.Ytnhkeghahiedfaa
open Go.Proofs
set_option maxRecDepth 10000

abbrev SlB := Option Addr × Nat × List UInt8
abbrev SlI := Option Addr × Nat × List Nat
/-- A header as it lies in memory. -/
def hdrC (k ver : Int) (d s t : SlB) (vs : SlI) (l : Int) : List Value := [.int .i64 k, .int .i64 ver, .slice d.1 d.2.2.length d.2.1, .slice s.1 s.2.2.length s.2.1, .slice t.1 t.2.2.length t.2.1, .slice vs.1 vs.2.2.length vs.2.1, .int .i64 l]
def hdrO (b : Nat) (cs : List Value) : Ob := .row b 70 cs 7
def kindN (first : UInt8) : Nat := first.toNat / 16 % 4 + 1
def tokP (bs : List UInt8) (first : UInt8) (p : Nat) : Except Int (List UInt8 × Nat) := if kindN first = 1 then (match numP bs p with
    | .error e => .error e
    | .ok (n, q) => takeP bs n q) else .ok ([], p)
def lenP (bs : List UInt8) (tok : List UInt8) (q : Nat) : Except Int (List UInt8 × Nat × Nat) := match numP bs q with
  | .error e => .error e
  | .ok (l, r) => if l = 0 ∨ bs.length < r + l then .error 54 else .ok (tok, l, r)
def kindP (bs : List UInt8) (first : UInt8) (p : Nat) : Except Int (List UInt8 × Nat × Nat) :=
  if kindN first = 4 then (if bs.length < p + 16 then .error 12 else .ok ((bs.drop p).take (bs.length - p - 16), 0, bs.length - 16))
  else match tokP bs first p with
    | .error e => .error e
    | .ok (tok, q) => lenP bs tok q
theorem tokP_le {bs : List UInt8} {first : UInt8} {p q : Nat} {xs : List UInt8} (hp : p ≤ bs.length) (h : tokP bs first p = .ok (xs, q)) : q ≤ bs.length := by
  unfold tokP at h
  split at h
  · split at h
    · cases h
    · exact (takeP_ok h).2.1 ▸ (takeP_ok h).2.2.1
  · cases h; exact hp
theorem first_kind (x : UInt8) : bitI .and .u8 ((x.toNat : Int) / 2 ^ 4) 3 = ((x.toNat / 16 % 4 : Nat) : Int) := by
  have := x.toNat_lt
  rw [show (x.toNat : Int) / 2 ^ 4 = ((x.toNat / 16 : Nat) : Int) from by omega, show (3 : Int) = ((3 : Nat) : Int) from rfl, bitI_and (by rw [max_u8]; omega) (by rw [max_u8]; omega)]
  rw [show (3 : Nat) = 2 ^ 2 - 1 from rfl, Nat.and_two_pow_sub_one_eq_mod]

def IsErrH {α : Type} (bh : Nat) (r : Except Int α) : XK := fun ch own N => ∃ e cs, r = .error e ∧ ch = [pE e] ∧ cs.length = 7 ∧ own = [hdrO bh cs] ∧ N = MT
def KindOk (b bh : Nat) (A : Option Addr) (c : Nat) (bs : List UInt8) (k : Int) (ver : Int) (d s : SlB) (vs : SlI) (r : Except Int (List UInt8 × Nat × Nat)) (v : Value) (own : List Ob) (N : Mp) : Prop :=
  ∃ tok l q, r = .ok (tok, l, q) ∧ v = .tuple #[] ∧ ∃ At ct, own = [rdO b A c bs.length q 0, hdrO bh (hdrC k ver d s (At, ct, tok) vs l)] ∧ Ent N (RowAt At (Bs tok)) ∧ tok.length ≤ ct

set_option maxHeartbeats 2000000 in
theorem kind_spec (b bh : Nat) (A : Option Addr) (c : Nat) (bs : List UInt8) (p : Nat) (G : Mp) (first : UInt8) (k0 ver : Int) (d s : SlB) (vs : SlI) (h1 : Ent G (RowAt A (Bs bs))) (hc : bs.length ≤ c) (hm : bs.length ≤ 211106232532992) (hp : p ≤ bs.length) :
    SpecE Try.prog 57 #[srcV b, .pointer (some ⟨bh, 0, none⟩), .int .u8 first.toNat] [rdO b A c bs.length p 0, hdrO bh (hdrC k0 ver d s (none, 0, []) vs 0)] G (KindOk b bh A c bs (kindN first) ver d s vs (kindP bs first p)) (IsErrH bh (kindP bs first p)) := by
  refine SpecE.introC (args := [_, _, _]) wide Try.func57 rfl Try.call57 (by rfl) (by rfl) [8] (fun w0 hw0 => ?_)
  intro bx
  have hx := first.toNat_lt
  have hkn : ((first.toNat / 16 % 4 : Nat) : Int) + 1 = ((kindN first : Nat) : Int) := by unfold kindN; omega
  refine vcCut_of (fun _ : List UInt8 × Nat × Option Addr × Nat => [(1, .pointer (some ⟨bh, 0, none⟩)), (3, .pointer (some ⟨bx, 0, none⟩))])
    (fun g => [.row bx 91 (srcC b) 1, rdO b A c bs.length g.2.1 0, hdrO bh (hdrC (kindN first) ver d s (g.2.2.1, g.2.2.2, g.1) vs 0)]) (fun g => RowAt g.2.2.1 (Bs g.1)) (fun g => kindN first ≠ 4 ∧ tokP bs first p = .ok (g.1, g.2.1) ∧ g.1.length ≤ g.2.2.2) ?_ ?_
  · refine vcShr_lit 4 rfl (by decide) ?_
    refine vcBit_as _ (first_kind first) ?_
    refine vcFit_i64 (by omega) ?_
    refine vcFit_i64 (by omega) ?_
    refine vcStore1_1 (.row bh _ _ _) _ (by first | ((repeat (first | exact .here | apply Take.there)); done) | exact .none_) rfl (by show (0 : Nat) < 7; decide) rfl ?_
    refine vcLoad1_row (j := 0) (v := .int .i64 (((first.toNat / 16 % 4 : Nat) : Int) + 1)) ((Ent.gnO .here (fun w hw => Ob.row_at hw)) : Ent _ (RowAt (some ⟨bh, 0, none⟩) _)) rfl ?_
    refine vcIf_dec (fun h4 => ?_) (fun h4 => ?_)
    · refine vcDraw_mix [0,1,2,3,4,5] (RowAt (some ⟨bx, 0, none⟩) (srcC b)) (by kernel_rfl) (by first | exact Ent.gnO (by repeat first | exact .here | apply Take.there) (fun w hw => Ob.sl_at hw) | exact Ent.gnO (by repeat first | exact .here | apply Take.there) (fun w hw => Ob.row_at hw)) ?_
      refine vcLoadN_0 (xs := srcC b) Ent.refl rfl ?_
      refine vcLoad1_row (j := 0) (v := .pointer (some ⟨b, 0, none⟩)) Ent.refl rfl ?_
      refine vcCall_of (.cons (by first | ((repeat (first | exact .here | apply Take.there)); done) | exact .none_) .nil) (left_spec b A c bs p 0 _ hm hp) (fun v own' N' hv => ?_)
      obtain ⟨rfl, rfl, rfl⟩ := hv
      refine vcMix_same (by first | exact Ent.gnO (by repeat first | exact .here | apply Take.there) (fun w hw => Ob.sl_at hw) | exact Ent.gnO (by repeat first | exact .here | apply Take.there) (fun w hw => Ob.row_at hw)) ?_
      rw [show rleft bs (p, 0) = (bs.length : Int) - p from if_neg (fun h => h rfl)]
      have hk4 : kindN first = 4 := by omega
      refine vcCall_may (.cons (by first | ((repeat (first | exact .here | apply Take.there)); done) | exact .none_) .nil) (must_spec b A c bs.length p 0 _ 12 _) (fun ch own' N' hx => ?_) (fun v own' N' hv => ?_)
      · obtain ⟨h, rfl, rfl, rfl⟩ := hx
        rcases h with h | h
        · exact absurd rfl h
        · have h16 := of_decide_eq_false h
          exact ⟨[_], _, MT, .cons (by first | ((repeat (first | exact .here | apply Take.there)); done) | exact .none_) .nil, fun _ _ _ => trivial, 12, _, by unfold kindP; rw [if_pos hk4, if_pos (by omega)], rfl, rfl, rfl, rfl⟩
      · obtain ⟨⟨_, h⟩, rfl, rfl, rfl⟩ := hv
        have h16 := of_decide_eq_true h
        refine vcMix_same (by first | exact Ent.gnO (by repeat first | exact .here | apply Take.there) (fun w hw => Ob.sl_at hw) | exact Ent.gnO (by repeat first | exact .here | apply Take.there) (fun w hw => Ob.row_at hw)) ?_
        refine vcDraw_mix [0,1,2,3,4,5,6,7,8,9] (RowAt (some ⟨bx, 0, none⟩) (srcC b)) (by kernel_rfl) (by first | exact Ent.gnO (by repeat first | exact .here | apply Take.there) (fun w hw => Ob.sl_at hw) | exact Ent.gnO (by repeat first | exact .here | apply Take.there) (fun w hw => Ob.row_at hw)) ?_
        refine vcLoadN_0 (xs := srcC b) Ent.refl rfl ?_
        refine vcLoad1_row (j := 0) (v := .pointer (some ⟨b, 0, none⟩)) Ent.refl rfl ?_
        refine vcCall_of (.cons (by first | ((repeat (first | exact .here | apply Take.there)); done) | exact .none_) .nil) (left_spec b A c bs p 0 _ hm hp) (fun v own' N' hv => ?_)
        obtain ⟨rfl, rfl, rfl⟩ := hv
        refine vcMix_same (by first | exact Ent.gnO (by repeat first | exact .here | apply Take.there) (fun w hw => Ob.sl_at hw) | exact Ent.gnO (by repeat first | exact .here | apply Take.there) (fun w hw => Ob.row_at hw)) ?_
        rw [show rleft bs (p, 0) = (bs.length : Int) - p from if_neg (fun h => h rfl)]
        refine vcFit_i64 (by omega) ?_
        have e16 : (bs.length : Int) - p - 16 = ((bs.length - p - 16 : Nat) : Int) := by omega
        rw [e16]
        refine vcCall_may (.cons (by first | ((repeat (first | exact .here | apply Take.there)); done) | exact .none_) .nil) (take_spec b A c bs p _ (bs.length - p - 16) (Ent.gnG h1) hc hm hp) (fun ch own' N' hx => ?_) (fun v own' N' hv => ?_)
        · obtain ⟨e, he, _⟩ := hx
          have := (takeP_err he).2
          omega
        · obtain ⟨xs, q, hxq, A', c', rfl, rfl, hr, hc'⟩ := hv
          obtain ⟨hxs, hq, _, _⟩ := takeP_ok hxq
          refine vcMix_same (by first | exact Ent.gnO (by repeat first | exact .here | apply Take.there) (fun w hw => Ob.sl_at hw) | exact Ent.gnO (by repeat first | exact .here | apply Take.there) (fun w hw => Ob.row_at hw)) ?_
          refine vcStore1_1 (.row bh _ _ _) _ (by first | ((repeat (first | exact .here | apply Take.there)); done) | exact .none_) rfl (by show (4 : Nat) < 7; decide) rfl ?_
          refine vcMix_last (by kernel_rfl) ?_
          refine ⟨_, _, RowAt A' (Bs xs), .cons (by first | ((repeat (first | exact .here | apply Take.there)); done) | exact .none_) (.cons (by first | ((repeat (first | exact .here | apply Take.there)); done) | exact .none_) .nil), fun w hN _ => (by repeat first | exact Ent.andR hr | refine Ent.andL ?_ : Ent _ (RowAt A' (Bs xs))) w hN, xs, 0, q, ?_, rfl, A', c', rfl, Ent.refl, hc'⟩
          unfold kindP
          rw [if_pos hk4, if_neg (by omega), ← hxs, show bs.length - 16 = q from by omega]
    · have hk4 : kindN first ≠ 4 := by omega
      refine vcIf_dec (fun h1k => ?_) (fun h1k => ?_)
      · have hk1 : kindN first = 1 := by omega
        refine vcDraw_mix [0,1,2,3,4,5,6,7] (RowAt (some ⟨bx, 0, none⟩) (srcC b)) (by kernel_rfl) (by first | exact Ent.gnO (by repeat first | exact .here | apply Take.there) (fun w hw => Ob.sl_at hw) | exact Ent.gnO (by repeat first | exact .here | apply Take.there) (fun w hw => Ob.row_at hw)) ?_
        refine vcLoadN_0 (xs := srcC b) Ent.refl rfl ?_
        refine vcLoadN_0 (xs := srcC b) Ent.refl rfl ?_
        refine vcCall_may (.cons (by first | ((repeat (first | exact .here | apply Take.there)); done) | exact .none_) .nil) (num_spec b A c bs p _ (Ent.gnG h1) hc hm hp) (fun ch own' N' hx => ?_) (fun v own' N' hv => ?_)
        · obtain ⟨e, he, rfl, rfl, rfl⟩ := hx
          exact ⟨[_], _, MT, .cons (by first | ((repeat (first | exact .here | apply Take.there)); done) | exact .none_) .nil, fun _ _ _ => trivial, e, _, by unfold kindP tokP; rw [if_neg hk4, if_pos hk1, he], rfl, rfl, rfl, rfl⟩
        · obtain ⟨n, q, hnq, rfl, rfl, rfl⟩ := hv
          have hql := (numP_ok hp hnq).2
          refine vcMix_same (by first | exact Ent.gnO (by repeat first | exact .here | apply Take.there) (fun w hw => Ob.sl_at hw) | exact Ent.gnO (by repeat first | exact .here | apply Take.there) (fun w hw => Ob.row_at hw)) ?_
          refine vcCall_may (.cons (by first | ((repeat (first | exact .here | apply Take.there)); done) | exact .none_) .nil) (take_spec b A c bs q _ n (Ent.gnG h1) hc hm hql) (fun ch own' N' hx => ?_) (fun v own' N' hv => ?_)
          · obtain ⟨e, he, rfl, rfl, rfl⟩ := hx
            exact ⟨[_], _, MT, .cons (by first | ((repeat (first | exact .here | apply Take.there)); done) | exact .none_) .nil, fun _ _ _ => trivial, e, _, by unfold kindP tokP; rw [if_neg hk4, if_pos hk1, hnq]; simp only [he], rfl, rfl, rfl, rfl⟩
          · obtain ⟨xs, r, hxr, A', c', rfl, rfl, hr, hc'⟩ := hv
            refine vcMix_same (by first | exact Ent.gnO (by repeat first | exact .here | apply Take.there) (fun w hw => Ob.sl_at hw) | exact Ent.gnO (by repeat first | exact .here | apply Take.there) (fun w hw => Ob.row_at hw)) ?_
            refine vcStore1_1 (.row bh _ _ _) _ (by first | ((repeat (first | exact .here | apply Take.there)); done) | exact .none_) rfl (by show (4 : Nat) < 7; decide) rfl ?_
            refine vcMix_last (by kernel_rfl) ?_
            exact ⟨(xs, r, A', c'), ⟨hk4, by unfold tokP; rw [if_pos hk1, hnq]; exact hxr, hc'⟩, ⟨rfl, rfl, trivial⟩, ⟨_, .cons (by first | ((repeat (first | exact .here | apply Take.there)); done) | exact .none_) (.cons (by first | ((repeat (first | exact .here | apply Take.there)); done) | exact .none_) (.cons (by first | ((repeat (first | exact .here | apply Take.there)); done) | exact .none_) .nil))⟩, (by repeat first | exact Ent.andR hr | refine Ent.andL ?_)⟩
      · exact ⟨([], p, none, 0), ⟨hk4, if_neg (by omega), Nat.le_refl _⟩, ⟨rfl, rfl, trivial⟩, ⟨_, .cons (by first | ((repeat (first | exact .here | apply Take.there)); done) | exact .none_) (.cons (by first | ((repeat (first | exact .here | apply Take.there)); done) | exact .none_) (.cons (by first | ((repeat (first | exact .here | apply Take.there)); done) | exact .none_) .nil))⟩, fun _ _ => RowAt.nil⟩
  · rintro ⟨tok, q, At, ct⟩ ⟨hk4, htq, hct⟩
    simp only at htq hct
    have hql := tokP_le hp htq
    have hkP : kindP bs first p = lenP bs tok q := by unfold kindP; rw [if_neg hk4, htq]
    rw [hkP]
    refine vcLoadN_0 (xs := srcC b) (by first | exact Ent.gnO (by repeat first | exact .here | apply Take.there) (fun w hw => Ob.sl_at hw) | exact Ent.gnO (by repeat first | exact .here | apply Take.there) (fun w hw => Ob.row_at hw)) rfl ?_
    refine vcCall_may (.cons (by first | ((repeat (first | exact .here | apply Take.there)); done) | exact .none_) .nil) (num_spec b A c bs q _ (Ent.gnG h1) hc hm hql) (fun ch own' N' hx => ?_) (fun v own' N' hv => ?_)
    · obtain ⟨e, he, rfl, rfl, rfl⟩ := hx
      exact ⟨[_], _, MT, .cons (by first | ((repeat (first | exact .here | apply Take.there)); done) | exact .none_) .nil, fun _ _ _ => trivial, e, _, by unfold lenP; rw [he], rfl, rfl, rfl, rfl⟩
    · obtain ⟨n, r, hnr, rfl, rfl, rfl⟩ := hv
      have hrl := (numP_ok hql hnr).2
      refine vcStore1_1 (.row bh _ _ _) _ (by first | ((repeat (first | exact .here | apply Take.there)); done) | exact .none_) rfl (by show (6 : Nat) < 7; decide) rfl ?_
      refine vcDraw_mix [0,1,2,3,4,5,6,7,8,9,10,11,12,13,14,15,16] (fun w => RowAt (some ⟨bx, 0, none⟩) (srcC b) w ∧ RowAt (some ⟨bh, 0, none⟩) (hdrC (kindN first) ver d s (At, ct, tok) vs n) w) (by kernel_rfl) (fun w hw => ⟨((by first | exact Ent.gnO (by repeat first | exact .here | apply Take.there) (fun w hw => Ob.sl_at hw) | exact Ent.gnO (by repeat first | exact .here | apply Take.there) (fun w hw => Ob.row_at hw)) : Ent _ (RowAt (some ⟨bx, 0, none⟩) (srcC b))) w hw, ((by first | exact Ent.gnO (by repeat first | exact .here | apply Take.there) (fun w hw => Ob.sl_at hw) | exact Ent.gnO (by repeat first | exact .here | apply Take.there) (fun w hw => Ob.row_at hw)) : Ent _ (RowAt (some ⟨bh, 0, none⟩) (hdrC (kindN first) ver d s (At, ct, tok) vs n))) w hw⟩) ?_
      refine vcLoadN_0 (xs := srcC b) (fun w hw => hw.1) rfl ?_
      refine vcLoad1_row (j := 6) (v := .int .i64 n) (fun w hw => hw.2) rfl ?_
      have hE : n = 0 ∨ bs.length < r + n → lenP bs tok q = .error 54 := fun h => by unfold lenP; rw [hnr]; simp only; rw [if_pos h]
      refine vcIf_dec (fun h0 => ?_) (fun h0 => ?_)
      · repeat (refine vcIf_yes (by rfl) ?_)
        refine vcLoad1_row (j := 6) (v := .int .i64 n) (fun w hw => hw.2) rfl ?_
        repeat (refine vcIf_yes (by rfl) ?_)
        refine vcLoad1_row (j := 0) (v := .pointer (some ⟨b, 0, none⟩)) (fun w hw => hw.1) rfl ?_
        repeat (refine vcIf_yes (by rfl) ?_)
        refine vcCall_of (.cons (by first | ((repeat (first | exact .here | apply Take.there)); done) | exact .none_) .nil) (left_spec b A c bs r 0 _ hm hrl) (fun v own' N' hv => ?_)
        obtain ⟨rfl, rfl, rfl⟩ := hv
        refine vcMix_same (fun w hw => ⟨((by first | exact Ent.gnO (by repeat first | exact .here | apply Take.there) (fun w hw => Ob.sl_at hw) | exact Ent.gnO (by repeat first | exact .here | apply Take.there) (fun w hw => Ob.row_at hw)) : Ent _ (RowAt (some ⟨bx, 0, none⟩) (srcC b))) w hw, ((by first | exact Ent.gnO (by repeat first | exact .here | apply Take.there) (fun w hw => Ob.sl_at hw) | exact Ent.gnO (by repeat first | exact .here | apply Take.there) (fun w hw => Ob.row_at hw)) : Ent _ (RowAt (some ⟨bh, 0, none⟩) (hdrC (kindN first) ver d s (At, ct, tok) vs n))) w hw⟩) ?_
        rw [show rleft bs (r, 0) = (bs.length : Int) - r from if_neg (fun h => h rfl)]
        repeat (refine vcIf_yes (by rfl) ?_)
        refine vcCall_may (.cons (by first | ((repeat (first | exact .here | apply Take.there)); done) | exact .none_) .nil) (must_spec b A c bs.length r 0 _ 54 _) (fun ch own' N' hx => ?_) (fun v own' N' hv => ?_)
        · obtain ⟨h, rfl, rfl, rfl⟩ := hx
          rcases h with h | h
          · exact absurd rfl h
          · have hlt := of_decide_eq_false h
            exact ⟨[_], _, MT, .cons (by first | ((repeat (first | exact .here | apply Take.there)); done) | exact .none_) .nil, fun _ _ _ => trivial, 54, _, hE (by omega), rfl, rfl, rfl, rfl⟩
        · obtain ⟨⟨_, h⟩, rfl, rfl, rfl⟩ := hv
          have hle := of_decide_eq_true h
          refine vcMix_last (by kernel_rfl) ?_
          exact ⟨_, _, RowAt At (Bs tok), .cons (by first | ((repeat (first | exact .here | apply Take.there)); done) | exact .none_) (.cons (by first | ((repeat (first | exact .here | apply Take.there)); done) | exact .none_) .nil), fun w hN _ => (by repeat first | exact Ent.refl | refine Ent.andL ?_ : Ent _ (RowAt At (Bs tok))) w hN, tok, n, r, by unfold lenP; rw [hnr]; simp only; rw [if_neg (by omega)], rfl, At, ct, rfl, Ent.refl, hct⟩
      · repeat (refine vcIf_no (by rfl) ?_)
        refine vcCall_may (.cons (by first | ((repeat (first | exact .here | apply Take.there)); done) | exact .none_) .nil) (must_spec b A c bs.length r 0 _ 54 _) (fun ch own' N' hx => ?_) (fun v own' N' hv => ?_)
        · obtain ⟨h, rfl, rfl, rfl⟩ := hx
          exact ⟨[_], _, MT, .cons (by first | ((repeat (first | exact .here | apply Take.there)); done) | exact .none_) .nil, fun _ _ _ => trivial, 54, _, hE (by omega), rfl, rfl, rfl, rfl⟩
        · obtain ⟨⟨_, h⟩, rfl, rfl, rfl⟩ := hv
          cases h
end Go.Proofs.Ytnhkeghahiedfaa
end

section
/- Headers: what the deferred closure of Parse does. -/
namespace Go.Proofs.Ytnhkeghahiedfaa
open Go Go.Proofs
set_option maxRecDepth 10000

noncomputable def catchBody : Code := match Try.f49.body with
  | some (.seq _ (.seq _ (.cond _ b _))) => b
  | _ => .skip

theorem catch_idle (a b c d : Nat) (w : World) :
    CallsD Try.prog 49 #[.pointer (some ⟨a, 0, none⟩), .pointer (some ⟨b, 0, none⟩), .pointer (some ⟨c, 0, none⟩), .pointer (some ⟨d, 0, none⟩)] .returning w fun e u' w' => e = .returned (.tuple #[]) ∧ u' = .returning ∧ w' = w := by
  refine callsD_of_wpS Try.func49 rfl fun c₀ cs hu => ?_
  apply wpS_seq
  apply wpS_region
  simp [wpOpsS, go_sem, recoverD, hu, Try.ntmps49, Exit.thenS]
  apply wpS_seq
  apply wpS_region
  simp [wpOpsS, go_sem, Exit.thenS]
  refine wpS_cond (t := false) (by simp [Act.eval]) ?_
  simp only [Bool.false_eq_true, if_false]
  refine wpS_of_wp (wp_skip ?_)
  cases c₀
  simp_all [bodyPostS, results, Try.results49]

/-- The four results, as the closure leaves them. -/
def zeroC : List Value := hdrC 0 0 (none, 0, []) (none, 0, []) (none, 0, []) (none, 0, []) 0
theorem catch_vc {C : Ctx} (a b c d : Nat) (e : Int) (hc : List Value) (i j k : Int) (rest : List Ob) (N : Mp) (hl : hc.length = 7) (Q : Exit → SK)
    (hQ : ∀ fm, Q .normal fm (.row d 26 [.int .i64 e] 1 :: .row c 3 [.int .i64 0] 1 :: .row b 3 [.int .i64 0] 1 :: hdrO a zeroC :: rest) N) :
    vc noX Try.prog C.G [] catchBody Q [(0, .pointer (some ⟨a, 0, none⟩)), (1, .pointer (some ⟨b, 0, none⟩)), (2, .pointer (some ⟨c, 0, none⟩)), (3, .pointer (some ⟨d, 0, none⟩)), (4, .iface 87 (.agg #[.int .i64 e]))]
      (hdrO a hc :: .row b 3 [.int .i64 i] 1 :: .row c 3 [.int .i64 j] 1 :: .row d 26 [.int .i64 k] 1 :: rest) N := by
  refine vcDraw_mix [0,1,2,3,4,5,6,7] MT (by kernel_rfl) (fun _ _ => trivial) ?_
  refine ⟨rfl, vcStoreN_row _ .here hl.symm (by simp [oneCell, cellsL]) ?_⟩
  refine vcMix_same (fun _ _ => trivial) ?_
  refine vcStore1_0 (.row b 3 [.int .i64 i] 1) _ (by first | ((repeat (first | exact .here | apply Take.there)); done) | exact .none_) rfl Nat.zero_lt_one rfl ?_
  refine vcMix_same (fun _ _ => trivial) ?_
  refine vcStore1_0 (.row c 3 [.int .i64 j] 1) _ (by first | ((repeat (first | exact .here | apply Take.there)); done) | exact .none_) rfl Nat.zero_lt_one rfl ?_
  refine vcMix_same (fun _ _ => trivial) ?_
  refine vcStore1_0 (.row d 26 [.int .i64 k] 1) _ (by first | ((repeat (first | exact .here | apply Take.there)); done) | exact .none_) rfl Nat.zero_lt_one rfl ?_
  refine vcMix_same (fun _ _ => trivial) ?_
  exact hQ _
theorem catch_pan {C : Ctx} (hC : C.ok) (a b c d : Nat) (e : Int) (hc : List Value) (i j k : Int) (rest : List Ob) (N : Mp) (hl : hc.length = 7) (w : World)
    (hw : C.inv w (hdrO a hc :: .row b 3 [.int .i64 i] 1 :: .row c 3 [.int .i64 j] 1 :: .row d 26 [.int .i64 k] 1 :: rest) N) :
    CallsD Try.prog 49 #[.pointer (some ⟨a, 0, none⟩), .pointer (some ⟨b, 0, none⟩), .pointer (some ⟨c, 0, none⟩), .pointer (some ⟨d, 0, none⟩)] (.panicking [pE e]) w fun en u' w' =>
      en = .returned (.tuple #[]) ∧ u' = .panicking [{ pE e with recovered := true }] ∧ C.inv w' (.row d 26 [.int .i64 e] 1 :: .row c 3 [.int .i64 0] 1 :: .row b 3 [.int .i64 0] 1 :: hdrO a zeroC :: rest) N := by
  refine callsD_of_wpS Try.func49 rfl fun c₀ cs hu => ?_
  apply wpS_seq
  apply wpS_region
  simp [wpOpsS, go_sem, recoverD, hu, Try.ntmps49, Exit.thenS, pE]
  apply wpS_seq
  apply wpS_region
  simp [wpOpsS, go_sem, Exit.thenS]
  refine wpS_cond (t := true) (by simp [Act.eval]) ?_
  simp only [if_true]
  refine wpS_of_wp ?_
  refine vc_does (X := noX) (D := noD) hC (n := 12) wide catchBody (by rfl) (Q := fun ex _ own N' => match ex with
    | .normal => own = (.row d 26 [.int .i64 e] 1 :: .row c 3 [.int .i64 0] 1 :: .row b 3 [.int .i64 0] 1 :: hdrO a zeroC :: rest) ∧ N' = N
    | _ => False) ?_ (fun _ _ _ _ _ hx => hx.elim) ?_ hw (catch_vc a b c d e hc i j k rest N hl _ (fun _ => ⟨rfl, rfl⟩))
  · rintro ex fm own N' a' w' hq hfm hi
    cases ex with
    | normal =>
      obtain ⟨rfl, rfl⟩ := hq
      simp only [bodyPostS]
      exact ⟨hfm.defers.ds, _, rfl, .tuple #[], by simp [results, Try.results49], rfl, rfl, hi⟩
    | _ => exact hq.elim
  · refine ⟨by simp, ⟨rfl, fun t ht => absurd ht (Nat.not_lt_zero t)⟩, ?_⟩
    intro t v ht
    rcases t with _ | _ | _ | _ | _ | t <;> cases ht <;> rfl
end Go.Proofs.Ytnhkeghahiedfaa
end

section
/- Headers: what Parse answers. -/
namespace Go.Proofs.Ytnhkeghahiedfaa
open Go Go.Proofs
set_option maxRecDepth 10000

structure HdrL where
  kind : Int
  ver : Int
  dst : List UInt8
  src : List UInt8
  tok : List UInt8
  vers : List Nat
  len : Nat
def hdr0 : HdrL := ⟨0, 0, [], [], [], [], 0⟩
def versL (m : Nat) (l : List UInt8) : List Nat := (List.range m).map fun i => beval 0 ((l.drop (4 * i)).take 4)
def restP (bs : List UInt8) (first : UInt8) (v : Nat) (d s : List UInt8) (p : Nat) : Except Int (HdrL × Nat) :=
  if v = 0 then (if bs.length = p ∨ (bs.length - p) % 4 ≠ 0 then .error 54 else .ok (⟨5, 0, d, s, [], versL ((bs.length - p) / 4) (bs.drop p), 0⟩, bs.length))
  else if v = 1 then (if first.toNat / 64 % 2 = 0 then .error 62 else match kindP bs first p with
    | .error e => .error e
    | .ok (tok, l, q) => .ok (⟨kindN first, 1, d, s, tok, [], l⟩, q))
  else .ok (⟨7, v, d, s, [], [], 0⟩, p)
def endP (bs : List UInt8) (r : HdrL × Nat) : HdrL × Nat × Nat := (r.1, r.2, if 0 < r.1.len then r.2 + r.1.len else bs.length)
def longP (bs : List UInt8) (first : UInt8) (p : Nat) : Except Int (HdrL × Nat × Nat) := match wordP bs p with
  | .error e => .error e
  | .ok (v, p2) => match cidP bs p2 with
    | .error e => .error e
    | .ok (d, p3) => match cidP bs p3 with
      | .error e => .error e
      | .ok (s, p4) => match restP bs first v d s p4 with
        | .error e => .error e
        | .ok r => .ok (endP bs r)
def shortP (bs : List UInt8) (cid : Nat) (first : UInt8) (p : Nat) : Except Int (HdrL × Nat × Nat) := if first.toNat / 64 % 2 = 0 then .error 62 else match takeP bs cid p with
  | .error e => .error e
  | .ok (d, q) => .ok (⟨6, 0, d, [], [], [], bs.length - q⟩, q, bs.length)
def parseP (bs : List UInt8) (cid : Nat) : Except Int (HdrL × Nat × Nat) := match takeP bs 1 0 with
  | .error e => .error e
  | .ok (f, p) => if (f.headD 0).toNat < 128 then shortP bs cid (f.headD 0) p else longP bs (f.headD 0) p
def parseL (bs : List UInt8) (cid : Int) : Except Int (HdrL × Nat × Nat) := if cid < 0 ∨ 20 < cid then .error 61 else parseP bs cid.toNat
def parseT (bs : List UInt8) (cid : Int) : HdrL × Nat × Nat × Int := match parseL bs cid with
  | .error e => (hdr0, 0, 0, e)
  | .ok (h, a, en) => (h, a, en, 0)
theorem parseT_err {bs : List UInt8} {cid e : Int} (h : parseL bs cid = .error e) : parseT bs cid = (hdr0, 0, 0, e) := by unfold parseT; rw [h]
theorem parseT_ok {bs : List UInt8} {cid : Int} {h : HdrL} {a en : Nat} (he : parseL bs cid = .ok (h, a, en)) : parseT bs cid = (h, a, en, 0) := by unfold parseT; rw [he]

abbrev Pl := Option Addr × Nat
def nI (n : Nat) : Value := .int .i64 n
/-- A header's value, its parts lying where they lie. -/
def hdrOf (h : HdrL) (d s t v : Pl) : List Value := hdrC h.kind h.ver (d.1, d.2, h.dst) (s.1, s.2, h.src) (t.1, t.2, h.tok) (v.1, v.2, h.vers) h.len
structure HdrM (h : HdrL) (d s t v : Pl) (N : Mp) : Prop where
  dst : Ent N (RowAt d.1 (Bs h.dst))
  src : Ent N (RowAt s.1 (Bs h.src))
  tok : Ent N (RowAt t.1 (Bs h.tok))
  vers : Ent N (RowAt v.1 (h.vers.map nI))
  cd : h.dst.length ≤ d.2
  cs : h.src.length ≤ s.2
  ct : h.tok.length ≤ t.2
  cv : h.vers.length ≤ v.2
def ParsePost (r : HdrL × Nat × Nat × Int) (v : Value) (own : List Ob) (N : Mp) : Prop :=
  ∃ d s t vs : Pl, v = .tuple #[.agg (hdrOf r.1 d s t vs).toArray, .int .i64 r.2.1, .int .i64 r.2.2.1, .int .i64 r.2.2.2] ∧ own = [] ∧ HdrM r.1 d s t vs N
def XP {α : Type} (r : Except Int α) (a b5 b6 b7 : Nat) : XK := fun ch own _ => ∃ e hc i j k rest, r = .error e ∧ ch = [pE e] ∧
  Pick [hdrO a hc, .row b5 3 [.int .i64 i] 1, .row b6 3 [.int .i64 j] 1, .row b7 26 [.int .i64 k] 1] own rest ∧ hc.length = 7
theorem and128 : ∀ x, x < 256 → bitI .and .u8 ((x : Nat) : Int) 128 = ((x / 128 * 128 : Nat) : Int) := by decide +kernel
theorem and64 : ∀ x, x < 256 → bitI .and .u8 ((x : Nat) : Int) 64 = ((x / 64 % 2 * 64 : Nat) : Int) := by decide +kernel
theorem HdrM_0 (N : Mp) : HdrM hdr0 (none, 0) (none, 0) (none, 0) (none, 0) N := ⟨fun _ _ => RowAt.nil, fun _ _ => RowAt.nil, fun _ _ => RowAt.nil, fun _ _ => RowAt.nil, Nat.le_refl _, Nat.le_refl _, Nat.le_refl _, Nat.le_refl _⟩

theorem kindP_le {bs : List UInt8} {first : UInt8} {p l q : Nat} {tok : List UInt8} (h : kindP bs first p = .ok (tok, l, q)) : q + l ≤ bs.length := by
  unfold kindP at h
  split at h
  · split at h
    · cases h
    · cases h; omega
  · cases ht : tokP bs first p with
    | error e => rw [ht] at h; cases h
    | ok r =>
      rw [ht] at h
      simp only [lenP] at h
      split at h
      · cases h
      · split at h
        · cases h
        · cases h; omega

noncomputable def parseTail : Code := match Try.f37.body with
  | some (.seq _ (.seq _ t)) => t
  | _ => .skip

set_option maxHeartbeats 4000000 in
theorem parse_tail (a b5 b6 b7 : Nat) (A : Option Addr) (c : Nat) (bs : List UInt8) (cid : Int) (G : Mp) (h1 : Ent G (RowAt A (Bs bs))) (hm : bs.length ≤ 211106232530000) (hm2 : bs.length ≤ 70368744177664 ∨ ∀ x r, bs = x :: r → 128 ≤ x.toNat → ∀ p, wordP bs 1 ≠ .ok (0, p)) :
    vc (XP (parseL bs cid) a b5 b6 b7) Try.prog G [22, 25] parseTail (vcFin Try.prog G Try.f37.results.toList (ParsePost (parseT bs cid)))
      [(0, .slice A bs.length c), (1, .int .i64 cid), (4, .pointer (some ⟨a, 0, none⟩)), (5, .pointer (some ⟨b5, 0, none⟩)), (6, .pointer (some ⟨b6, 0, none⟩)), (7, .pointer (some ⟨b7, 0, none⟩))]
      [.row b7 26 [.int .i64 0] 1, .row b6 3 [.int .i64 0] 1, .row b5 3 [.int .i64 0] 1, hdrO a zeroC] MT := by
  have fin61 : cid < 0 ∨ 20 < cid → parseT bs cid = (hdr0, 0, 0, 61) := fun h => parseT_err (if_pos h)
  refine vcIf_dec (fun h => ?_) (fun h => ?_)
  · repeat (refine vcIf_yes (by rfl) ?_)
    rw [fin61 (.inl h)]
    refine ⟨rfl, vcStoreN_row _ (by first | ((repeat (first | exact .here | apply Take.there)); done) | exact .none_) (by rfl) (by simp [oneCell, cellsL]) ?_⟩
    refine vcStore1_0 (.row b5 3 [.int .i64 0] 1) _ (by first | ((repeat (first | exact .here | apply Take.there)); done) | exact .none_) rfl Nat.zero_lt_one rfl ?_
    refine vcStore1_0 (.row b6 3 [.int .i64 0] 1) _ (by first | ((repeat (first | exact .here | apply Take.there)); done) | exact .none_) rfl Nat.zero_lt_one rfl ?_
    refine vcStore1_0 (.row b7 26 [.int .i64 0] 1) _ (by first | ((repeat (first | exact .here | apply Take.there)); done) | exact .none_) rfl Nat.zero_lt_one rfl ?_
    refine vcLoadN_0 (xs := zeroC) (by first | exact Ent.gnO (by repeat first | exact .here | apply Take.there) (fun w hw => Ob.sl_at hw) | exact Ent.gnO (by repeat first | exact .here | apply Take.there) (fun w hw => Ob.row_at hw)) rfl ?_
    refine vcLoad1_0 (xs := [.int .i64 0]) (Ent.gnO (.there (.there .here)) (fun w hw => Ob.row_at hw)) rfl ?_
    refine vcLoad1_0 (xs := [.int .i64 0]) (Ent.gnO (.there .here) (fun w hw => Ob.row_at hw)) rfl ?_
    refine vcLoad1_0 (xs := [.int .i64 61]) (Ent.gnO .here (fun w hw => Ob.row_at hw)) rfl ?_
    exact ⟨[], _, MT, .nil, fun _ _ _ => trivial, (none, 0), (none, 0), (none, 0), (none, 0), rfl, rfl, HdrM_0 _⟩
  refine vcIf_dec (fun h' => ?_) (fun h' => ?_)
  · repeat (refine vcIf_yes (by rfl) ?_)
    rw [fin61 (.inr h')]
    refine ⟨rfl, vcStoreN_row _ (by first | ((repeat (first | exact .here | apply Take.there)); done) | exact .none_) (by rfl) (by simp [oneCell, cellsL]) ?_⟩
    refine vcStore1_0 (.row b5 3 [.int .i64 0] 1) _ (by first | ((repeat (first | exact .here | apply Take.there)); done) | exact .none_) rfl Nat.zero_lt_one rfl ?_
    refine vcStore1_0 (.row b6 3 [.int .i64 0] 1) _ (by first | ((repeat (first | exact .here | apply Take.there)); done) | exact .none_) rfl Nat.zero_lt_one rfl ?_
    refine vcStore1_0 (.row b7 26 [.int .i64 0] 1) _ (by first | ((repeat (first | exact .here | apply Take.there)); done) | exact .none_) rfl Nat.zero_lt_one rfl ?_
    refine vcLoadN_0 (xs := zeroC) (by first | exact Ent.gnO (by repeat first | exact .here | apply Take.there) (fun w hw => Ob.sl_at hw) | exact Ent.gnO (by repeat first | exact .here | apply Take.there) (fun w hw => Ob.row_at hw)) rfl ?_
    refine vcLoad1_0 (xs := [.int .i64 0]) (Ent.gnO (.there (.there .here)) (fun w hw => Ob.row_at hw)) rfl ?_
    refine vcLoad1_0 (xs := [.int .i64 0]) (Ent.gnO (.there .here) (fun w hw => Ob.row_at hw)) rfl ?_
    refine vcLoad1_0 (xs := [.int .i64 61]) (Ent.gnO .here (fun w hw => Ob.row_at hw)) rfl ?_
    exact ⟨[], _, MT, .nil, fun _ _ _ => trivial, (none, 0), (none, 0), (none, 0), (none, 0), rfl, rfl, HdrM_0 _⟩
  repeat (refine vcIf_no (by rfl) ?_)
  obtain ⟨k, rfl⟩ := Int.eq_ofNat_of_zero_le (Int.not_lt.mp h)
  have hL : parseL bs (k : Int) = parseP bs k := if_neg (by omega)
  clear fin61
  refine vcCall_of .nil (vopen_spec A c bs _ (Ent.gnG h1) (by omega)) (fun v own' N' hv => ?_)
  obtain ⟨br, Ab, cb, rfl, rfl, rfl, hcb⟩ := hv
  intro b8
  refine vcStore1_0 (.row b8 91 [.pointer none] 1) _ (by first | ((repeat (first | exact .here | apply Take.there)); done) | exact .none_) rfl Nat.zero_lt_one rfl ?_
  refine vcLoadN_0 (xs := srcC br) (by first | exact Ent.gnO (by repeat first | exact .here | apply Take.there) (fun w hw => Ob.sl_at hw) | exact Ent.gnO (by repeat first | exact .here | apply Take.there) (fun w hw => Ob.row_at hw)) rfl ?_
  refine vcCall_may (.cons (by first | ((repeat (first | exact .here | apply Take.there)); done) | exact .none_) .nil) (take_spec br Ab cb bs 0 _ 1 (by first | exact Ent.gnO (by repeat first | exact .here | apply Take.there) (fun w hw => Ob.sl_at hw) | exact Ent.gnO (by repeat first | exact .here | apply Take.there) (fun w hw => Ob.row_at hw)) hcb (by omega) (Nat.zero_le _)) (fun ch own' N' hx => ?_) (fun v own' N' hv => ?_)
  · obtain ⟨e, he, rfl, rfl, rfl⟩ := hx
    exact ⟨e, zeroC, 0, 0, 0, _, by rw [hL]; unfold parseP; rw [he], rfl, .cons (by first | ((repeat (first | exact .here | apply Take.there)); done) | exact .none_) (.cons (by first | ((repeat (first | exact .here | apply Take.there)); done) | exact .none_) (.cons (by first | ((repeat (first | exact .here | apply Take.there)); done) | exact .none_) (.cons (by first | ((repeat (first | exact .here | apply Take.there)); done) | exact .none_) .nil))), rfl⟩
  obtain ⟨xs, q, hxq, A', c', rfl, rfl, hr, hc'⟩ := hv
  obtain ⟨hx0, hq, hpn, hl1⟩ := takeP_ok hxq
  obtain ⟨x, rfl⟩ : ∃ x, xs = [x] := by
    cases xs with
    | nil => cases hl1
    | cons x r => cases r with
      | nil => exact ⟨x, rfl⟩
      | cons _ _ => simp at hl1
  have hx := x.toNat_lt
  have hql : q ≤ bs.length := by omega
  have hP : parseP bs k = if x.toNat < 128 then shortP bs k x q else longP bs x q := by unfold parseP; rw [hxq]; rfl
  rw [hP] at hL
  clear hP hxq hl1
  refine vcIdx_nat (xs := Bs [x]) 0 rfl (Ent.gnN (by repeat first | exact hr | exact Ent.andR hr | refine Ent.andL ?_)) Nat.zero_lt_one (Nat.le_refl 1) (fun ax hax => ?_)
  subst hax
  refine vcLoad1_row (v := .int .u8 x.toNat) (Ent.gnN (by repeat first | exact hr | exact Ent.andR hr | refine Ent.andL ?_)) rfl ?_
  refine vcBit_as _ (and128 _ hx) ?_
  refine vcIf_dec (fun h80 => ?_) (fun h80 => ?_)
  · have hL' : parseL bs (k : Int) = shortP bs k x q := by rw [hL, if_pos (by omega)]
    refine vcLoadN_0 (xs := srcC br) (by first | exact Ent.gnO (by repeat first | exact .here | apply Take.there) (fun w hw => Ob.sl_at hw) | exact Ent.gnO (by repeat first | exact .here | apply Take.there) (fun w hw => Ob.row_at hw)) rfl ?_
    refine vcBit_as _ (and64 _ hx) ?_
    refine vcCall_may (.cons (by first | ((repeat (first | exact .here | apply Take.there)); done) | exact .none_) .nil) (must_spec br Ab cb bs.length q 0 _ 62 _) (fun ch own' N' hx => ?_) (fun v own' N' hv => ?_)
    · obtain ⟨hh, rfl, rfl, rfl⟩ := hx
      rcases hh with hh | hh
      · exact absurd rfl hh
      · have h6 : (x.toNat / 64 % 2 * 64 : Nat) = (0 : Int) := by simpa using hh
        exact ⟨62, zeroC, 0, 0, 0, _, by rw [hL']; unfold shortP; rw [if_pos (by omega)], rfl, .cons (by first | ((repeat (first | exact .here | apply Take.there)); done) | exact .none_) (.cons (by first | ((repeat (first | exact .here | apply Take.there)); done) | exact .none_) (.cons (by first | ((repeat (first | exact .here | apply Take.there)); done) | exact .none_) (.cons (by first | ((repeat (first | exact .here | apply Take.there)); done) | exact .none_) .nil))), rfl⟩
    obtain ⟨⟨_, hh⟩, rfl, rfl, rfl⟩ := hv
    have h6 : ¬ (x.toNat / 64 % 2 * 64 : Nat) = (0 : Int) := by simpa using hh
    have hL2 : parseL bs (k : Int) = match takeP bs k q with
        | .error e => .error e
        | .ok (d, q) => .ok (⟨6, 0, d, [], [], [], bs.length - q⟩, q, bs.length) := by rw [hL']; unfold shortP; rw [if_neg (by omega)]
    refine vcDraw_mix [0,1,3,4,2,5,6,7] (RowAt (some ⟨b8, 0, none⟩) (srcC br)) (by kernel_rfl) (by first | exact Ent.gnO (by repeat first | exact .here | apply Take.there) (fun w hw => Ob.sl_at hw) | exact Ent.gnO (by repeat first | exact .here | apply Take.there) (fun w hw => Ob.row_at hw)) ?_
    refine vcLoadN_0 (xs := srcC br) Ent.refl rfl ?_
    refine vcLoad1_row (j := 0) (v := .pointer (some ⟨br, 0, none⟩)) Ent.refl rfl ?_
    refine vcCall_may (.cons (by first | ((repeat (first | exact .here | apply Take.there)); done) | exact .none_) .nil) (take_spec br Ab cb bs q _ k (by first | exact Ent.gnO (by repeat first | exact .here | apply Take.there) (fun w hw => Ob.sl_at hw) | exact Ent.gnO (by repeat first | exact .here | apply Take.there) (fun w hw => Ob.row_at hw)) hcb (by omega) hql) (fun ch own' N' hx => ?_) (fun v own' N' hv => ?_)
    · obtain ⟨e, he, rfl, rfl, rfl⟩ := hx
      exact ⟨e, zeroC, 0, 0, 0, _, by rw [hL2, he], rfl, .cons (by first | ((repeat (first | exact .here | apply Take.there)); done) | exact .none_) (.cons (by first | ((repeat (first | exact .here | apply Take.there)); done) | exact .none_) (.cons (by first | ((repeat (first | exact .here | apply Take.there)); done) | exact .none_) (.cons (by first | ((repeat (first | exact .here | apply Take.there)); done) | exact .none_) .nil))), rfl⟩
    obtain ⟨ds, q2, hds, Ad, cd, rfl, rfl, hrd, hcd⟩ := hv
    obtain ⟨_, hq2, hpn2, _⟩ := takeP_ok hds
    rw [hds] at hL2
    refine vcMix_same (by first | exact Ent.gnO (by repeat first | exact .here | apply Take.there) (fun w hw => Ob.sl_at hw) | exact Ent.gnO (by repeat first | exact .here | apply Take.there) (fun w hw => Ob.row_at hw)) ?_
    refine vcCall_of (.cons (by first | ((repeat (first | exact .here | apply Take.there)); done) | exact .none_) .nil) (left_spec br Ab cb bs q2 0 _ (by omega) (by omega)) (fun v own' N' hv => ?_)
    obtain ⟨rfl, rfl, rfl⟩ := hv
    rw [show rleft bs (q2, 0) = ((bs.length - q2 : Nat) : Int) from (if_neg (fun h => h rfl)).trans (by omega)]
    refine vcMix_same (by first | exact Ent.gnO (by repeat first | exact .here | apply Take.there) (fun w hw => Ob.sl_at hw) | exact Ent.gnO (by repeat first | exact .here | apply Take.there) (fun w hw => Ob.row_at hw)) ?_
    refine ⟨rfl, vcStoreN_row _ (by first | ((repeat (first | exact .here | apply Take.there)); done) | exact .none_) (by rfl) (by simp [oneCell, cellsL]) ?_⟩
    refine vcMix_last (by kernel_rfl) ?_
    have eR : parseT bs (k : Int) = (⟨6, 0, ds, [], [], [], bs.length - q2⟩, q2, bs.length, 0) := parseT_ok hL2
    rw [eR]
    refine vcDraw_mix [0,1,2,4,5,3,6,7,8,9] (fun w => RowAt (some ⟨a, 0, none⟩) (hdrC 6 0 (Ad, cd, ds) (none, 0, []) (none, 0, []) (none, 0, []) (bs.length - q2 : Nat)) w ∧ RowAt (some ⟨b8, 0, none⟩) (srcC br) w) (by kernel_rfl) (fun w hw => ⟨((by first | exact Ent.gnO (by repeat first | exact .here | apply Take.there) (fun w hw => Ob.sl_at hw) | exact Ent.gnO (by repeat first | exact .here | apply Take.there) (fun w hw => Ob.row_at hw)) : Ent _ (RowAt (some ⟨a, 0, none⟩) (hdrC 6 0 (Ad, cd, ds) (none, 0, []) (none, 0, []) (none, 0, []) (bs.length - q2 : Nat)))) w hw, ((by first | exact Ent.gnO (by repeat first | exact .here | apply Take.there) (fun w hw => Ob.sl_at hw) | exact Ent.gnO (by repeat first | exact .here | apply Take.there) (fun w hw => Ob.row_at hw)) : Ent _ (RowAt (some ⟨b8, 0, none⟩) (srcC br))) w hw⟩) ?_
    refine vcLoadN_0 (xs := hdrC 6 0 (Ad, cd, ds) (none, 0, []) (none, 0, []) (none, 0, []) (bs.length - q2 : Nat)) (fun w hw => hw.1) rfl ?_
    refine vcLoad1_row (j := 0) (v := .pointer (some ⟨br, 0, none⟩)) (fun w hw => hw.2) rfl ?_
    refine vcCall_of (.cons (by first | ((repeat (first | exact .here | apply Take.there)); done) | exact .none_) .nil) (at_spec br Ab cb bs.length q2 0 _) (fun v own' N' hv => ?_)
    obtain ⟨rfl, rfl, rfl⟩ := hv
    refine vcMix_same (fun w hw => ⟨((by first | exact Ent.gnO (by repeat first | exact .here | apply Take.there) (fun w hw => Ob.sl_at hw) | exact Ent.gnO (by repeat first | exact .here | apply Take.there) (fun w hw => Ob.row_at hw)) : Ent _ (RowAt (some ⟨a, 0, none⟩) (hdrC 6 0 (Ad, cd, ds) (none, 0, []) (none, 0, []) (none, 0, []) (bs.length - q2 : Nat)))) w hw, ((by first | exact Ent.gnO (by repeat first | exact .here | apply Take.there) (fun w hw => Ob.sl_at hw) | exact Ent.gnO (by repeat first | exact .here | apply Take.there) (fun w hw => Ob.row_at hw)) : Ent _ (RowAt (some ⟨b8, 0, none⟩) (srcC br))) w hw⟩) ?_
    refine ⟨rfl, vcStoreN_row _ (by first | ((repeat (first | exact .here | apply Take.there)); done) | exact .none_) (by rfl) (by simp [oneCell, cellsL, hdrC]) ?_⟩
    refine vcMix_same (fun w hw => ⟨((by first | exact Ent.gnO (by repeat first | exact .here | apply Take.there) (fun w hw => Ob.sl_at hw) | exact Ent.gnO (by repeat first | exact .here | apply Take.there) (fun w hw => Ob.row_at hw)) : Ent _ (RowAt (some ⟨a, 0, none⟩) (hdrC 6 0 (Ad, cd, ds) (none, 0, []) (none, 0, []) (none, 0, []) (bs.length - q2 : Nat)))) w hw, ((by first | exact Ent.gnO (by repeat first | exact .here | apply Take.there) (fun w hw => Ob.sl_at hw) | exact Ent.gnO (by repeat first | exact .here | apply Take.there) (fun w hw => Ob.row_at hw)) : Ent _ (RowAt (some ⟨b8, 0, none⟩) (srcC br))) w hw⟩) ?_
    refine vcStore1_0 (.row b5 3 [.int .i64 0] 1) _ (by first | ((repeat (first | exact .here | apply Take.there)); done) | exact .none_) rfl Nat.zero_lt_one rfl ?_
    refine vcMix_same (fun w hw => ⟨((by first | exact Ent.gnO (by repeat first | exact .here | apply Take.there) (fun w hw => Ob.sl_at hw) | exact Ent.gnO (by repeat first | exact .here | apply Take.there) (fun w hw => Ob.row_at hw)) : Ent _ (RowAt (some ⟨a, 0, none⟩) (hdrC 6 0 (Ad, cd, ds) (none, 0, []) (none, 0, []) (none, 0, []) (bs.length - q2 : Nat)))) w hw, ((by first | exact Ent.gnO (by repeat first | exact .here | apply Take.there) (fun w hw => Ob.sl_at hw) | exact Ent.gnO (by repeat first | exact .here | apply Take.there) (fun w hw => Ob.row_at hw)) : Ent _ (RowAt (some ⟨b8, 0, none⟩) (srcC br))) w hw⟩) ?_
    refine vcStore1_0 (.row b6 3 [.int .i64 0] 1) _ (by first | ((repeat (first | exact .here | apply Take.there)); done) | exact .none_) rfl Nat.zero_lt_one rfl ?_
    refine vcMix_same (fun w hw => ⟨((by first | exact Ent.gnO (by repeat first | exact .here | apply Take.there) (fun w hw => Ob.sl_at hw) | exact Ent.gnO (by repeat first | exact .here | apply Take.there) (fun w hw => Ob.row_at hw)) : Ent _ (RowAt (some ⟨a, 0, none⟩) (hdrC 6 0 (Ad, cd, ds) (none, 0, []) (none, 0, []) (none, 0, []) (bs.length - q2 : Nat)))) w hw, ((by first | exact Ent.gnO (by repeat first | exact .here | apply Take.there) (fun w hw => Ob.sl_at hw) | exact Ent.gnO (by repeat first | exact .here | apply Take.there) (fun w hw => Ob.row_at hw)) : Ent _ (RowAt (some ⟨b8, 0, none⟩) (srcC br))) w hw⟩) ?_
    refine vcStore1_0 (.row b7 26 [.int .i64 0] 1) _ (by first | ((repeat (first | exact .here | apply Take.there)); done) | exact .none_) rfl Nat.zero_lt_one rfl ?_
    refine vcMix_same (fun w hw => ⟨((by first | exact Ent.gnO (by repeat first | exact .here | apply Take.there) (fun w hw => Ob.sl_at hw) | exact Ent.gnO (by repeat first | exact .here | apply Take.there) (fun w hw => Ob.row_at hw)) : Ent _ (RowAt (some ⟨a, 0, none⟩) (hdrC 6 0 (Ad, cd, ds) (none, 0, []) (none, 0, []) (none, 0, []) (bs.length - q2 : Nat)))) w hw, ((by first | exact Ent.gnO (by repeat first | exact .here | apply Take.there) (fun w hw => Ob.sl_at hw) | exact Ent.gnO (by repeat first | exact .here | apply Take.there) (fun w hw => Ob.row_at hw)) : Ent _ (RowAt (some ⟨b8, 0, none⟩) (srcC br))) w hw⟩) ?_
    refine vcLoadN_0 (xs := hdrC 6 0 (Ad, cd, ds) (none, 0, []) (none, 0, []) (none, 0, []) (bs.length - q2 : Nat)) (by first | exact Ent.gnO (by repeat first | exact .here | apply Take.there) (fun w hw => Ob.sl_at hw) | exact Ent.gnO (by repeat first | exact .here | apply Take.there) (fun w hw => Ob.row_at hw)) rfl ?_
    refine vcLoad1_0 (xs := [.int .i64 q2]) (Ent.gnO (.there (.there .here)) (fun w hw => Ob.row_at hw)) rfl ?_
    refine vcLoad1_0 (xs := [.int .i64 bs.length]) (Ent.gnO (.there .here) (fun w hw => Ob.row_at hw)) rfl ?_
    refine vcLoad1_0 (xs := [.int .i64 0]) (Ent.gnO .here (fun w hw => Ob.row_at hw)) rfl ?_
    exact ⟨[], _, RowAt Ad (Bs ds), .nil, fun w hN _ => (by repeat first | exact Ent.andR hrd | refine Ent.andL ?_ : Ent _ (RowAt Ad (Bs ds))) w hN, (Ad, cd), (none, 0), (none, 0), (none, 0), rfl, rfl, Ent.refl, fun _ _ => RowAt.nil, fun _ _ => RowAt.nil, fun _ _ => RowAt.nil, hcd, Nat.le_refl _, Nat.le_refl _, Nat.le_refl _⟩
  · have hL' : parseL bs (k : Int) = longP bs x q := by rw [hL, if_neg (by omega)]
    refine vcLoadN_0 (xs := srcC br) (by first | exact Ent.gnO (by repeat first | exact .here | apply Take.there) (fun w hw => Ob.sl_at hw) | exact Ent.gnO (by repeat first | exact .here | apply Take.there) (fun w hw => Ob.row_at hw)) rfl ?_
    refine vcCall_may (.cons (by first | ((repeat (first | exact .here | apply Take.there)); done) | exact .none_) .nil) (hword_spec br Ab cb bs q _ (by first | exact Ent.gnO (by repeat first | exact .here | apply Take.there) (fun w hw => Ob.sl_at hw) | exact Ent.gnO (by repeat first | exact .here | apply Take.there) (fun w hw => Ob.row_at hw)) hcb (by omega) hql) (fun ch own' N' hx => ?_) (fun v own' N' hv => ?_)
    · obtain ⟨e, he, rfl, rfl, rfl⟩ := hx
      exact ⟨e, zeroC, 0, 0, 0, _, by rw [hL']; unfold longP; rw [he], rfl, .cons (by first | ((repeat (first | exact .here | apply Take.there)); done) | exact .none_) (.cons (by first | ((repeat (first | exact .here | apply Take.there)); done) | exact .none_) (.cons (by first | ((repeat (first | exact .here | apply Take.there)); done) | exact .none_) (.cons (by first | ((repeat (first | exact .here | apply Take.there)); done) | exact .none_) .nil))), rfl⟩
    obtain ⟨ver, q2, hv2, rfl, rfl, rfl⟩ := hv
    have hq2 : q2 ≤ bs.length := by
      unfold wordP at hv2
      cases ht : takeP bs 4 q with
      | error e => rw [ht] at hv2; cases hv2
      | ok r => rw [ht] at hv2; cases hv2; obtain ⟨_, h2, h3, _⟩ := takeP_ok (xs := r.1) (q := r.2) ht; omega
    refine vcStore1_1 (.row a _ _ _) _ (by first | ((repeat (first | exact .here | apply Take.there)); done) | exact .none_) rfl (by show (1 : Nat) < 7; decide) rfl ?_
    refine vcDraw_mix [0,2,1,3,4,5,6,7] (RowAt (some ⟨b8, 0, none⟩) (srcC br)) (by kernel_rfl) (by first | exact Ent.gnO (by repeat first | exact .here | apply Take.there) (fun w hw => Ob.sl_at hw) | exact Ent.gnO (by repeat first | exact .here | apply Take.there) (fun w hw => Ob.row_at hw)) ?_
    refine vcLoadN_0 (xs := srcC br) Ent.refl rfl ?_
    refine vcLoadN_0 (xs := srcC br) Ent.refl rfl ?_
    refine vcCall_may (.cons (by first | ((repeat (first | exact .here | apply Take.there)); done) | exact .none_) .nil) (cid_spec br Ab cb bs q2 _ (by first | exact Ent.gnO (by repeat first | exact .here | apply Take.there) (fun w hw => Ob.sl_at hw) | exact Ent.gnO (by repeat first | exact .here | apply Take.there) (fun w hw => Ob.row_at hw)) hcb (by omega) hq2) (fun ch own' N' hx => ?_) (fun v own' N' hv => ?_)
    · obtain ⟨e, he, rfl, rfl, rfl⟩ := hx
      exact ⟨e, _, 0, 0, 0, _, by rw [hL']; unfold longP; rw [hv2]; simp only [he], rfl, .cons (by first | ((repeat (first | exact .here | apply Take.there)); done) | exact .none_) (.cons (by first | ((repeat (first | exact .here | apply Take.there)); done) | exact .none_) (.cons (by first | ((repeat (first | exact .here | apply Take.there)); done) | exact .none_) (.cons (by first | ((repeat (first | exact .here | apply Take.there)); done) | exact .none_) .nil))), rfl⟩
    obtain ⟨ds, q3, hd, Ad, cd, rfl, rfl, hrd, hcd⟩ := hv
    have hq3 : q3 ≤ bs.length := by
      unfold cidP at hd
      cases ht : takeP bs 1 q2 with
      | error e => rw [ht] at hd; cases hd
      | ok r =>
        rw [ht] at hd
        simp only at hd
        split at hd
        · cases hd
        · obtain ⟨_, h2, h3, _⟩ := takeP_ok hd; omega
    refine vcMix_same (by first | exact Ent.gnO (by repeat first | exact .here | apply Take.there) (fun w hw => Ob.sl_at hw) | exact Ent.gnO (by repeat first | exact .here | apply Take.there) (fun w hw => Ob.row_at hw)) ?_
    refine vcCall_may (.cons (by first | ((repeat (first | exact .here | apply Take.there)); done) | exact .none_) .nil) (cid_spec br Ab cb bs q3 _ (by first | exact Ent.gnO (by repeat first | exact .here | apply Take.there) (fun w hw => Ob.sl_at hw) | exact Ent.gnO (by repeat first | exact .here | apply Take.there) (fun w hw => Ob.row_at hw)) hcb (by omega) hq3) (fun ch own' N' hx => ?_) (fun v own' N' hv => ?_)
    · obtain ⟨e, he, rfl, rfl, rfl⟩ := hx
      exact ⟨e, _, 0, 0, 0, _, by rw [hL']; unfold longP; rw [hv2]; simp only [hd, he], rfl, .cons (by first | ((repeat (first | exact .here | apply Take.there)); done) | exact .none_) (.cons (by first | ((repeat (first | exact .here | apply Take.there)); done) | exact .none_) (.cons (by first | ((repeat (first | exact .here | apply Take.there)); done) | exact .none_) (.cons (by first | ((repeat (first | exact .here | apply Take.there)); done) | exact .none_) .nil))), rfl⟩
    obtain ⟨ss, q4, hs, As, cs, rfl, rfl, hrs, hcs⟩ := hv
    have hq4 : q4 ≤ bs.length := by
      unfold cidP at hs
      cases ht : takeP bs 1 q3 with
      | error e => rw [ht] at hs; cases hs
      | ok r =>
        rw [ht] at hs
        simp only at hs
        split at hs
        · cases hs
        · obtain ⟨_, h2, h3, _⟩ := takeP_ok hs; omega
    refine vcMix_same (by first | exact Ent.gnO (by repeat first | exact .here | apply Take.there) (fun w hw => Ob.sl_at hw) | exact Ent.gnO (by repeat first | exact .here | apply Take.there) (fun w hw => Ob.row_at hw)) ?_
    refine vcStore1_1 (.row a _ _ _) _ (by first | ((repeat (first | exact .here | apply Take.there)); done) | exact .none_) rfl (by show (2 : Nat) < 7; decide) rfl ?_
    refine vcMix_same (by first | exact Ent.gnO (by repeat first | exact .here | apply Take.there) (fun w hw => Ob.sl_at hw) | exact Ent.gnO (by repeat first | exact .here | apply Take.there) (fun w hw => Ob.row_at hw)) ?_
    refine vcStore1_1 (.row a _ _ _) _ (by first | ((repeat (first | exact .here | apply Take.there)); done) | exact .none_) rfl (by show (3 : Nat) < 7; decide) rfl ?_
    refine vcMix_same (by first | exact Ent.gnO (by repeat first | exact .here | apply Take.there) (fun w hw => Ob.sl_at hw) | exact Ent.gnO (by repeat first | exact .here | apply Take.there) (fun w hw => Ob.row_at hw)) ?_
    have hR : ∀ h q5, restP bs x ver ds ss q4 = .ok (h, q5) → parseL bs (k : Int) = .ok (endP bs (h, q5)) := fun h q5 hh => by
      rw [hL']; unfold longP; rw [hv2]; simp only [hd, hs, hh]
    have hRe : ∀ e, restP bs x ver ds ss q4 = .error e → parseL bs (k : Int) = .error e := fun e hh => by
      rw [hL']; unfold longP; rw [hv2]; simp only [hd, hs, hh]
    have hsm : ver = 0 → bs.length ≤ 70368744177664 := fun hv => by
      rcases hm2 with h | h
      · exact h
      · rw [hq, hv] at hv2
        refine absurd hv2 (h x (bs.drop 1) ?_ (by omega) _)
        cases bs with
        | nil => cases hx0
        | cons y r => cases hx0; rfl
    clear hL hL' hv2 hd hs hpn hq h80
    refine vcCut_of (fun _ : (HdrL × Nat) × Pl × Pl × Pl × Pl => [(0, .slice A bs.length c), (4, .pointer (some ⟨a, 0, none⟩)), (5, .pointer (some ⟨b5, 0, none⟩)), (6, .pointer (some ⟨b6, 0, none⟩)), (7, .pointer (some ⟨b7, 0, none⟩)), (8, .pointer (some ⟨b8, 0, none⟩))])
      (fun g => [hdrO a (hdrOf g.1.1 g.2.1 g.2.2.1 g.2.2.2.1 g.2.2.2.2), .row b5 3 [.int .i64 0] 1, .row b6 3 [.int .i64 0] 1, .row b7 26 [.int .i64 0] 1, .row b8 91 (srcC br) 1, rdO br Ab cb bs.length g.1.2 0, .sl g.2.2.2.2.1 g.2.2.2.2.2 3 1 (g.1.1.vers.map nI)])
      (fun g => MpAnd (RowAt g.2.1.1 (Bs g.1.1.dst)) (MpAnd (RowAt g.2.2.1.1 (Bs g.1.1.src)) (RowAt g.2.2.2.1.1 (Bs g.1.1.tok))))
      (fun g => parseL bs (k : Int) = .ok (endP bs g.1) ∧ g.1.2 ≤ bs.length ∧ g.1.2 + g.1.1.len ≤ bs.length ∧ g.1.1.dst.length ≤ g.2.1.2 ∧ g.1.1.src.length ≤ g.2.2.1.2 ∧ g.1.1.tok.length ≤ g.2.2.2.1.2 ∧ g.1.1.vers.length ≤ g.2.2.2.2.2) ?_ ?_
    · refine vcLoad1_row (j := 1) (v := .int .i64 ver) ((by first | exact Ent.gnO (by repeat first | exact .here | apply Take.there) (fun w hw => Ob.sl_at hw) | exact Ent.gnO (by repeat first | exact .here | apply Take.there) (fun w hw => Ob.row_at hw)) : Ent _ (RowAt (some ⟨a, 0, none⟩) (hdrC 0 ver (Ad, cd, ds) (As, cs, ss) (none, 0, []) (none, 0, []) 0))) rfl ?_
      refine vcIf_dec (fun hv0 => ?_) (fun hv0 => ?_)
      · have hver : ver = 0 := by omega
        subst hver
        have hsm := hsm rfl
        have hE : bs.length = q4 ∨ (bs.length - q4) % 4 ≠ 0 → restP bs x 0 ds ss q4 = .error 54 := fun hh => by unfold restP; rw [if_pos rfl, if_pos hh]
        have hO : ¬ (bs.length = q4 ∨ (bs.length - q4) % 4 ≠ 0) → restP bs x 0 ds ss q4 = .ok (⟨5, 0, ds, ss, [], versL ((bs.length - q4) / 4) (bs.drop q4), 0⟩, bs.length) := fun hh => by unfold restP; rw [if_pos rfl, if_neg hh]
        have hl0 : rleft bs (q4, 0) = ((bs.length - q4 : Nat) : Int) := (if_neg (fun h => h rfl)).trans (by omega)
        refine vcStore1_1 (.row a _ _ _) _ (by first | ((repeat (first | exact .here | apply Take.there)); done) | exact .none_) rfl (by show (0 : Nat) < 7; decide) rfl ?_
        refine vcDraw_mix [0,1,2,3,4,5,6,7,8,9,10,11,12] (RowAt (some ⟨b8, 0, none⟩) (srcC br)) (by kernel_rfl) (by first | exact Ent.gnO (by repeat first | exact .here | apply Take.there) (fun w hw => Ob.sl_at hw) | exact Ent.gnO (by repeat first | exact .here | apply Take.there) (fun w hw => Ob.row_at hw)) ?_
        refine vcLoadN_0 (xs := srcC br) Ent.refl rfl ?_
        refine vcLoad1_row (j := 0) (v := .pointer (some ⟨br, 0, none⟩)) Ent.refl rfl ?_
        refine vcCall_of (.cons (by first | ((repeat (first | exact .here | apply Take.there)); done) | exact .none_) .nil) (left_spec br Ab cb bs q4 0 _ (by omega) hq4) (fun v own' N' hv => ?_)
        obtain ⟨rfl, rfl, rfl⟩ := hv
        refine vcMix_same (by first | exact Ent.gnO (by repeat first | exact .here | apply Take.there) (fun w hw => Ob.sl_at hw) | exact Ent.gnO (by repeat first | exact .here | apply Take.there) (fun w hw => Ob.row_at hw)) ?_
        rw [hl0]
        refine vcIf_dec (fun hpos => ?_) (fun hpos => ?_)
        · repeat (refine vcIf_yes (by rfl) ?_)
          refine vcLoad1_row (j := 0) (v := .pointer (some ⟨br, 0, none⟩)) Ent.refl rfl ?_
          repeat (refine vcIf_yes (by rfl) ?_)
          refine vcCall_of (.cons (by first | ((repeat (first | exact .here | apply Take.there)); done) | exact .none_) .nil) (left_spec br Ab cb bs q4 0 _ (by omega) hq4) (fun v own' N' hv => ?_)
          obtain ⟨rfl, rfl, rfl⟩ := hv
          refine vcMix_same (by first | exact Ent.gnO (by repeat first | exact .here | apply Take.there) (fun w hw => Ob.sl_at hw) | exact Ent.gnO (by repeat first | exact .here | apply Take.there) (fun w hw => Ob.row_at hw)) ?_
          rw [hl0]
          repeat (refine vcIf_yes (by rfl) ?_)
          refine vcRem_pos (by omega) ?_
          repeat (refine vcIf_yes (by rfl) ?_)
          refine vcCall_may (.cons (by first | ((repeat (first | exact .here | apply Take.there)); done) | exact .none_) .nil) (must_spec br Ab cb bs.length q4 0 _ 54 _) (fun ch own' N' hx => ?_) (fun v own' N' hv => ?_)
          · obtain ⟨hh, rfl, rfl, rfl⟩ := hx
            rcases hh with hh | hh
            · exact absurd rfl hh
            · have h4 := of_decide_eq_false hh
              exact ⟨54, _, 0, 0, 0, _, hRe _ (hE (by omega)), rfl, .cons (by first | ((repeat (first | exact .here | apply Take.there)); done) | exact .none_) (.cons (by first | ((repeat (first | exact .here | apply Take.there)); done) | exact .none_) (.cons (by first | ((repeat (first | exact .here | apply Take.there)); done) | exact .none_) (.cons (by first | ((repeat (first | exact .here | apply Take.there)); done) | exact .none_) .nil))), rfl⟩
          obtain ⟨⟨_, hh⟩, rfl, rfl, rfl⟩ := hv
          have h4 := of_decide_eq_true hh
          have hO := hO (by omega)
          refine vcMix_last (by kernel_rfl) ?_
          obtain ⟨m, hm4⟩ : ∃ m, bs.length = q4 + 4 * m := ⟨(bs.length - q4) / 4, by omega⟩
          refine vcLoop_of (fun g : Nat × List Nat × Pl => m - g.1) (fun _ => [(0, .slice A bs.length c), (4, .pointer (some ⟨a, 0, none⟩)), (5, .pointer (some ⟨b5, 0, none⟩)), (6, .pointer (some ⟨b6, 0, none⟩)), (7, .pointer (some ⟨b7, 0, none⟩)), (8, .pointer (some ⟨b8, 0, none⟩))])
            (fun g => [hdrO a (hdrC 5 0 (Ad, cd, ds) (As, cs, ss) (none, 0, []) (g.2.2.1, g.2.2.2, g.2.1) 0), .row b5 3 [.int .i64 0] 1, .row b6 3 [.int .i64 0] 1, .row b7 26 [.int .i64 0] 1, .row b8 91 (srcC br) 1, rdO br Ab cb bs.length (q4 + 4 * g.1) 0, .sl Ab cb 5 1 (Bs bs), .sl g.2.2.1 g.2.2.2 3 1 (g.2.1.map nI)])
            (fun _ => MpAnd (RowAt Ad (Bs ds)) (RowAt As (Bs ss))) (fun g => g.1 ≤ m ∧ g.2.1 = versL g.1 (bs.drop q4) ∧ g.2.1.length = g.1 ∧ g.1 ≤ g.2.2.2) (0, [], none, 0) ⟨Nat.zero_le _, rfl, rfl, Nat.le_refl _⟩
            ⟨rfl, rfl, rfl, rfl, rfl, rfl, trivial⟩ ⟨_, .cons (by first | ((repeat (first | exact .here | apply Take.there)); done) | exact .none_) (.cons (by first | ((repeat (first | exact .here | apply Take.there)); done) | exact .none_) (.cons (by first | ((repeat (first | exact .here | apply Take.there)); done) | exact .none_) (.cons (by first | ((repeat (first | exact .here | apply Take.there)); done) | exact .none_) (.cons (by first | ((repeat (first | exact .here | apply Take.there)); done) | exact .none_) (.cons (by first | ((repeat (first | exact .here | apply Take.there)); done) | exact .none_) (.cons (by first | ((repeat (first | exact .here | apply Take.there)); done) | exact .none_) (.cons (by first | ((repeat (first | exact .here | apply Take.there)); done) | exact .none_) .nil)))))))⟩
            (fun w hw => ⟨(by repeat first | exact Ent.andR hrd | refine Ent.andL ?_ : Ent _ (RowAt Ad (Bs ds))) w hw, (by repeat first | exact Ent.andR hrs | refine Ent.andL ?_ : Ent _ (RowAt As (Bs ss))) w hw⟩) ?_
          rintro ⟨j, vl, Av, cv⟩ ⟨hj, hvl, hvn, hcv⟩
          simp only at hj hvl hvn hcv
          have hp : q4 + 4 * j ≤ bs.length := by omega
          refine vcLoad1_row (j := 0) (v := .pointer (some ⟨br, 0, none⟩)) ((by first | exact Ent.gnO (by repeat first | exact .here | apply Take.there) (fun w hw => Ob.sl_at hw) | exact Ent.gnO (by repeat first | exact .here | apply Take.there) (fun w hw => Ob.row_at hw)) : Ent _ (RowAt (some ⟨b8, 0, none⟩) (srcC br))) rfl ?_
          refine vcCall_of (.cons (by first | ((repeat (first | exact .here | apply Take.there)); done) | exact .none_) .nil) (left_spec br Ab cb bs (q4 + 4 * j) 0 _ (by omega) hp) (fun v own' N' hv => ?_)
          obtain ⟨rfl, rfl, rfl⟩ := hv
          rw [show rleft bs (q4 + 4 * j, 0) = ((bs.length - (q4 + 4 * j) : Nat) : Int) from (if_neg (fun h => h rfl)).trans (by omega)]
          refine vcIf_dec (fun hpos => ?_) (fun hpos => ?_)
          · have hj' : j < m := by omega
            refine vcDraw_mix [0,1,2,3,4,5,6,7] (fun w => RowAt (some ⟨a, 0, none⟩) (hdrC 5 0 (Ad, cd, ds) (As, cs, ss) (none, 0, []) (Av, cv, vl) 0) w ∧ RowAt (some ⟨b8, 0, none⟩) (srcC br) w) (by kernel_rfl) (fun w hw => ⟨((by first | exact Ent.gnO (by repeat first | exact .here | apply Take.there) (fun w hw => Ob.sl_at hw) | exact Ent.gnO (by repeat first | exact .here | apply Take.there) (fun w hw => Ob.row_at hw)) : Ent _ (RowAt (some ⟨a, 0, none⟩) (hdrC 5 0 (Ad, cd, ds) (As, cs, ss) (none, 0, []) (Av, cv, vl) 0))) w hw, ((by first | exact Ent.gnO (by repeat first | exact .here | apply Take.there) (fun w hw => Ob.sl_at hw) | exact Ent.gnO (by repeat first | exact .here | apply Take.there) (fun w hw => Ob.row_at hw)) : Ent _ (RowAt (some ⟨b8, 0, none⟩) (srcC br))) w hw⟩) ?_
            refine vcLoad1_row (j := 5) (v := .slice Av vl.length cv) (fun w hw => hw.1) rfl ?_
            refine vcLoadN_0 (xs := srcC br) (fun w hw => hw.2) rfl ?_
            refine vcCall_may (.cons (by first | ((repeat (first | exact .here | apply Take.there)); done) | exact .none_) .nil) (hword_spec br Ab cb bs (q4 + 4 * j) _ (by first | exact Ent.gnO (by repeat first | exact .here | apply Take.there) (fun w hw => Ob.sl_at hw) | exact Ent.gnO (by repeat first | exact .here | apply Take.there) (fun w hw => Ob.row_at hw)) hcb (by omega) hp) (fun ch own' N' hx => ?_) (fun v own' N' hv => ?_)
            · obtain ⟨e, he, rfl, rfl, rfl⟩ := hx
              unfold wordP at he
              rw [show takeP bs 4 (q4 + 4 * j) = .ok ((bs.drop (q4 + 4 * j)).take 4, q4 + 4 * j + 4) from if_neg (by omega)] at he
              cases he
            obtain ⟨wv, q5, hw5, rfl, rfl, rfl⟩ := hv
            have hwv : wv = beval 0 ((bs.drop (q4 + 4 * j)).take 4) ∧ q5 = q4 + 4 * (j + 1) := by
              unfold wordP at hw5
              rw [show takeP bs 4 (q4 + 4 * j) = .ok ((bs.drop (q4 + 4 * j)).take 4, q4 + 4 * j + 4) from if_neg (by omega)] at hw5
              cases hw5
              exact ⟨rfl, by omega⟩
            obtain ⟨hwv, rfl⟩ := hwv
            have hvl' : vl ++ [wv] = versL (j + 1) (bs.drop q4) := by
              unfold versL
              rw [List.range_succ, List.map_append, hvl, hwv, List.map_singleton, List.drop_drop]
              rfl
            refine vcMix_same (fun w hw => ⟨((by first | exact Ent.gnO (by repeat first | exact .here | apply Take.there) (fun w hw => Ob.sl_at hw) | exact Ent.gnO (by repeat first | exact .here | apply Take.there) (fun w hw => Ob.row_at hw)) : Ent _ (RowAt (some ⟨a, 0, none⟩) (hdrC 5 0 (Ad, cd, ds) (As, cs, ss) (none, 0, []) (Av, cv, vl) 0))) w hw, ((by first | exact Ent.gnO (by repeat first | exact .here | apply Take.there) (fun w hw => Ob.sl_at hw) | exact Ent.gnO (by repeat first | exact .here | apply Take.there) (fun w hw => Ob.row_at hw)) : Ent _ (RowAt (some ⟨b8, 0, none⟩) (srcC br))) w hw⟩) ?_
            intro bn
            refine vcMix_same (fun w hw => ⟨((by first | exact Ent.gnO (by repeat first | exact .here | apply Take.there) (fun w hw => Ob.sl_at hw) | exact Ent.gnO (by repeat first | exact .here | apply Take.there) (fun w hw => Ob.row_at hw)) : Ent _ (RowAt (some ⟨a, 0, none⟩) (hdrC 5 0 (Ad, cd, ds) (As, cs, ss) (none, 0, []) (Av, cv, vl) 0))) w hw, ((by first | exact Ent.gnO (by repeat first | exact .here | apply Take.there) (fun w hw => Ob.sl_at hw) | exact Ent.gnO (by repeat first | exact .here | apply Take.there) (fun w hw => Ob.row_at hw)) : Ent _ (RowAt (some ⟨b8, 0, none⟩) (srcC br))) w hw⟩) ?_
            refine vcApp_of (vl.map nI) _ [nI wv] (by first | ((repeat (first | exact .here | apply Take.there)); done) | exact .none_) (by simp) rfl (by decide) (by simp [nI, oneCell]) (by first | exact Ent.gnO (by repeat first | exact .here | apply Take.there) (fun w hw => Ob.sl_at hw) | exact Ent.gnO (by repeat first | exact .here | apply Take.there) (fun w hw => Ob.row_at hw)) (by omega) (by omega) (fun A' cap' hcap => ?_)
            rw [show vl.length + 1 = (vl ++ [wv]).length from by simp, show vl.map nI ++ [nI wv] = (vl ++ [wv]).map nI from by simp]
            refine vcMix_same (fun w hw => ⟨((by first | exact Ent.gnO (by repeat first | exact .here | apply Take.there) (fun w hw => Ob.sl_at hw) | exact Ent.gnO (by repeat first | exact .here | apply Take.there) (fun w hw => Ob.row_at hw)) : Ent _ (RowAt (some ⟨a, 0, none⟩) (hdrC 5 0 (Ad, cd, ds) (As, cs, ss) (none, 0, []) (Av, cv, vl) 0))) w hw, ((by first | exact Ent.gnO (by repeat first | exact .here | apply Take.there) (fun w hw => Ob.sl_at hw) | exact Ent.gnO (by repeat first | exact .here | apply Take.there) (fun w hw => Ob.row_at hw)) : Ent _ (RowAt (some ⟨b8, 0, none⟩) (srcC br))) w hw⟩) ?_
            refine vcStore1_1 (.row a _ _ _) _ (by first | ((repeat (first | exact .here | apply Take.there)); done) | exact .none_) rfl (by show (5 : Nat) < 7; decide) rfl ?_
            refine vcMix_last (by kernel_rfl) ?_
            refine ⟨(j + 1, vl ++ [wv], A', cap'), ⟨hj', hvl', by simp [hvn], by simp only; omega⟩, by simp only; omega, ⟨rfl, rfl, rfl, rfl, rfl, rfl, trivial⟩, ⟨_, .cons (by first | ((repeat (first | exact .here | apply Take.there)); done) | exact .none_) (.cons (by first | ((repeat (first | exact .here | apply Take.there)); done) | exact .none_) (.cons (by first | ((repeat (first | exact .here | apply Take.there)); done) | exact .none_) (.cons (by first | ((repeat (first | exact .here | apply Take.there)); done) | exact .none_) (.cons (by first | ((repeat (first | exact .here | apply Take.there)); done) | exact .none_) (.cons (by first | ((repeat (first | exact .here | apply Take.there)); done) | exact .none_) (.cons (by first | ((repeat (first | exact .here | apply Take.there)); done) | exact .none_) (.cons (by first | ((repeat (first | exact .here | apply Take.there)); done) | exact .none_) .nil)))))))⟩, ?_⟩
            exact fun w hw => hw.1.1
          · have hjm : j = m := by omega
            subst hjm
            have hvl2 : vl = versL ((bs.length - q4) / 4) (bs.drop q4) := by rw [hvl, show (bs.length - q4) / 4 = j from by omega]
            have hq : q4 + 4 * j = bs.length := by omega
            refine ⟨((⟨5, 0, ds, ss, [], vl, 0⟩, q4 + 4 * j), (Ad, cd), (As, cs), (none, 0), (Av, cv)), ⟨hR _ _ (by rw [hvl2, hO, hq]), hp, hp, hcd, hcs, Nat.le_refl _, ?_⟩, ⟨rfl, rfl, rfl, rfl, rfl, rfl, trivial⟩, ⟨_, .cons (by first | ((repeat (first | exact .here | apply Take.there)); done) | exact .none_) (.cons (by first | ((repeat (first | exact .here | apply Take.there)); done) | exact .none_) (.cons (by first | ((repeat (first | exact .here | apply Take.there)); done) | exact .none_) (.cons (by first | ((repeat (first | exact .here | apply Take.there)); done) | exact .none_) (.cons (by first | ((repeat (first | exact .here | apply Take.there)); done) | exact .none_) (.cons (by first | ((repeat (first | exact .here | apply Take.there)); done) | exact .none_) (.cons (by first | ((repeat (first | exact .here | apply Take.there)); done) | exact .none_) .nil))))))⟩, ?_⟩
            · show vl.length ≤ cv
              omega
            · exact fun w hw => ⟨hw.1.1, hw.1.2, RowAt.nil⟩
        · repeat (refine vcIf_no (by rfl) ?_)
          refine vcCall_may (.cons (by first | ((repeat (first | exact .here | apply Take.there)); done) | exact .none_) .nil) (must_spec br Ab cb bs.length q4 0 _ 54 _) (fun ch own' N' hx => ?_) (fun v own' N' hv => ?_)
          · obtain ⟨hh, rfl, rfl, rfl⟩ := hx
            exact ⟨54, _, 0, 0, 0, _, hRe _ (hE (by omega)), rfl, .cons (by first | ((repeat (first | exact .here | apply Take.there)); done) | exact .none_) (.cons (by first | ((repeat (first | exact .here | apply Take.there)); done) | exact .none_) (.cons (by first | ((repeat (first | exact .here | apply Take.there)); done) | exact .none_) (.cons (by first | ((repeat (first | exact .here | apply Take.there)); done) | exact .none_) .nil))), rfl⟩
          · obtain ⟨⟨_, hh⟩, rfl, rfl, rfl⟩ := hv
            cases hh
      refine vcIf_dec (fun hv1 => ?_) (fun hv1 => ?_)
      · refine vcLoadN_0 (xs := srcC br) (by first | exact Ent.gnO (by repeat first | exact .here | apply Take.there) (fun w hw => Ob.sl_at hw) | exact Ent.gnO (by repeat first | exact .here | apply Take.there) (fun w hw => Ob.row_at hw)) rfl ?_
        refine vcBit_as _ (and64 _ hx) ?_
        refine vcCall_may (.cons (by first | ((repeat (first | exact .here | apply Take.there)); done) | exact .none_) .nil) (must_spec br Ab cb bs.length q4 0 _ 62 _) (fun ch own' N' hx => ?_) (fun v own' N' hv => ?_)
        · obtain ⟨hh, rfl, rfl, rfl⟩ := hx
          rcases hh with hh | hh
          · exact absurd rfl hh
          · have h6 : (x.toNat / 64 % 2 * 64 : Nat) = (0 : Int) := by simpa using hh
            exact ⟨62, _, 0, 0, 0, _, hRe _ (by unfold restP; rw [if_neg (by omega), if_pos (by omega), if_pos (by omega)]), rfl, .cons (by first | ((repeat (first | exact .here | apply Take.there)); done) | exact .none_) (.cons (by first | ((repeat (first | exact .here | apply Take.there)); done) | exact .none_) (.cons (by first | ((repeat (first | exact .here | apply Take.there)); done) | exact .none_) (.cons (by first | ((repeat (first | exact .here | apply Take.there)); done) | exact .none_) .nil))), rfl⟩
        obtain ⟨⟨_, hh⟩, rfl, rfl, rfl⟩ := hv
        have h6 : ¬ (x.toNat / 64 % 2 * 64 : Nat) = (0 : Int) := by simpa using hh
        have hk : restP bs x ver ds ss q4 = match kindP bs x q4 with
            | .error e => .error e
            | .ok (tok, l, q) => .ok (⟨kindN x, 1, ds, ss, tok, [], l⟩, q) := by unfold restP; rw [if_neg (by omega), if_pos (by omega), if_neg (by omega)]
        refine vcLoadN_0 (xs := srcC br) (by first | exact Ent.gnO (by repeat first | exact .here | apply Take.there) (fun w hw => Ob.sl_at hw) | exact Ent.gnO (by repeat first | exact .here | apply Take.there) (fun w hw => Ob.row_at hw)) rfl ?_
        refine vcCall_may (.cons (by first | ((repeat (first | exact .here | apply Take.there)); done) | exact .none_) (.cons (by first | ((repeat (first | exact .here | apply Take.there)); done) | exact .none_) .nil)) (kind_spec br a Ab cb bs q4 _ x 0 ver (Ad, cd, ds) (As, cs, ss) (none, 0, []) (by first | exact Ent.gnO (by repeat first | exact .here | apply Take.there) (fun w hw => Ob.sl_at hw) | exact Ent.gnO (by repeat first | exact .here | apply Take.there) (fun w hw => Ob.row_at hw)) hcb (by omega) hq4) (fun ch own' N' hx => ?_) (fun v own' N' hv => ?_)
        · obtain ⟨e, hc7, he, rfl, hl7, rfl, rfl⟩ := hx
          exact ⟨e, hc7, 0, 0, 0, _, hRe _ (by rw [hk, he]), rfl, .cons (by first | ((repeat (first | exact .here | apply Take.there)); done) | exact .none_) (.cons (by first | ((repeat (first | exact .here | apply Take.there)); done) | exact .none_) (.cons (by first | ((repeat (first | exact .here | apply Take.there)); done) | exact .none_) (.cons (by first | ((repeat (first | exact .here | apply Take.there)); done) | exact .none_) .nil))), hl7⟩
        obtain ⟨tok, l, q5, hkk, rfl, At, ct, rfl, hrt, hct⟩ := hv
        have hver : ver = 1 := by omega
        subst hver
        have hq5 : q5 + l ≤ bs.length := kindP_le hkk
        exact ⟨((⟨kindN x, 1, ds, ss, tok, [], l⟩, q5), (Ad, cd), (As, cs), (At, ct), (none, 0)), ⟨hR _ _ (by rw [hk, hkk]), Nat.le_trans (Nat.le_add_right _ _) hq5, hq5, hcd, hcs, hct, Nat.le_refl _⟩, ⟨rfl, rfl, rfl, rfl, rfl, rfl, trivial⟩, ⟨_, .cons (by first | ((repeat (first | exact .here | apply Take.there)); done) | exact .none_) (.cons (by first | ((repeat (first | exact .here | apply Take.there)); done) | exact .none_) (.cons (by first | ((repeat (first | exact .here | apply Take.there)); done) | exact .none_) (.cons (by first | ((repeat (first | exact .here | apply Take.there)); done) | exact .none_) (.cons (by first | ((repeat (first | exact .here | apply Take.there)); done) | exact .none_) (.cons (by first | ((repeat (first | exact .here | apply Take.there)); done) | exact .none_) (.cons (by first | ((repeat (first | exact .here | apply Take.there)); done) | exact .none_) .nil))))))⟩,
          (fun w hw => ⟨(by repeat first | exact Ent.andR hrd | refine Ent.andL ?_ : Ent _ (RowAt Ad (Bs ds))) w hw, (by repeat first | exact Ent.andR hrs | refine Ent.andL ?_ : Ent _ (RowAt As (Bs ss))) w hw, (by repeat first | exact hrt | exact Ent.andR hrt | refine Ent.andL ?_ : Ent _ (RowAt At (Bs tok))) w hw⟩)⟩
      · refine vcStore1_1 (.row a _ _ _) _ (by first | ((repeat (first | exact .here | apply Take.there)); done) | exact .none_) rfl (by show (0 : Nat) < 7; decide) rfl ?_
        exact ⟨((⟨7, ver, ds, ss, [], [], 0⟩, q4), (Ad, cd), (As, cs), (none, 0), (none, 0)), ⟨hR _ _ (by unfold restP; rw [if_neg (by omega), if_neg (by omega)]), hq4, hq4, hcd, hcs, Nat.le_refl _, Nat.le_refl _⟩, ⟨rfl, rfl, rfl, rfl, rfl, rfl, trivial⟩, ⟨_, .cons (by first | ((repeat (first | exact .here | apply Take.there)); done) | exact .none_) (.cons (by first | ((repeat (first | exact .here | apply Take.there)); done) | exact .none_) (.cons (by first | ((repeat (first | exact .here | apply Take.there)); done) | exact .none_) (.cons (by first | ((repeat (first | exact .here | apply Take.there)); done) | exact .none_) (.cons (by first | ((repeat (first | exact .here | apply Take.there)); done) | exact .none_) (.cons (by first | ((repeat (first | exact .here | apply Take.there)); done) | exact .none_) (.cons (by first | ((repeat (first | exact .here | apply Take.there)); done) | exact .none_) .nil))))))⟩,
          (fun w hw => ⟨(by repeat first | exact Ent.andR hrd | refine Ent.andL ?_ : Ent _ (RowAt Ad (Bs ds))) w hw, (by repeat first | exact Ent.andR hrs | refine Ent.andL ?_ : Ent _ (RowAt As (Bs ss))) w hw, RowAt.nil⟩)⟩
    · rintro ⟨⟨h, q5⟩, d, s, t, vs⟩ ⟨hP, hq5, hlen, hd, hs, ht, hvs⟩
      simp only at hP hq5 hlen hd hs ht hvs
      refine vcStore1_0 (.row b6 3 [.int .i64 0] 1) _ (by first | ((repeat (first | exact .here | apply Take.there)); done) | exact .none_) rfl Nat.zero_lt_one rfl ?_
      have hR6 : ∀ {K N'}, Ent (GN G (Ob.row b6 3 [.int .i64 bs.length] 1 :: K) N') (RowAt (some ⟨b6, 0, none⟩) [.int .i64 bs.length]) := (Ent.gnO .here (fun w hw => Ob.row_at hw))
      refine vcCut_of (fun _ : Unit => [(0, .slice A bs.length c), (4, .pointer (some ⟨a, 0, none⟩)), (5, .pointer (some ⟨b5, 0, none⟩)), (6, .pointer (some ⟨b6, 0, none⟩)), (7, .pointer (some ⟨b7, 0, none⟩)), (8, .pointer (some ⟨b8, 0, none⟩))])
        (fun _ => [hdrO a (hdrOf h d s t vs), .row b5 3 [.int .i64 0] 1, .row b6 3 [.int .i64 (endP bs (h, q5)).2.2] 1, .row b7 26 [.int .i64 0] 1, .row b8 91 (srcC br) 1, rdO br Ab cb bs.length q5 0, .sl vs.1 vs.2 3 1 (h.vers.map nI)])
        (fun _ => MpAnd (RowAt d.1 (Bs h.dst)) (MpAnd (RowAt s.1 (Bs h.src)) (RowAt t.1 (Bs h.tok)))) (fun _ => True) ?_ ?_
      · refine vcLoad1_row (j := 6) (v := .int .i64 h.len) ((by first | exact Ent.gnO (by repeat first | exact .here | apply Take.there) (fun w hw => Ob.sl_at hw) | exact Ent.gnO (by repeat first | exact .here | apply Take.there) (fun w hw => Ob.row_at hw)) : Ent _ (RowAt (some ⟨a, 0, none⟩) (hdrOf h d s t vs))) rfl ?_
        refine vcIf_dec (fun hpos => ?_) (fun hpos => ?_)
        · have he : (endP bs (h, q5)).2.2 = q5 + h.len := if_pos (show 0 < h.len by omega)
          refine vcDraw_mix [0,1,3,4,2,5,6] (fun w => RowAt (some ⟨a, 0, none⟩) (hdrOf h d s t vs) w ∧ RowAt (some ⟨b8, 0, none⟩) (srcC br) w) (by kernel_rfl) (fun w hw => ⟨((by first | exact Ent.gnO (by repeat first | exact .here | apply Take.there) (fun w hw => Ob.sl_at hw) | exact Ent.gnO (by repeat first | exact .here | apply Take.there) (fun w hw => Ob.row_at hw)) : Ent _ (RowAt (some ⟨a, 0, none⟩) (hdrOf h d s t vs))) w hw, ((by first | exact Ent.gnO (by repeat first | exact .here | apply Take.there) (fun w hw => Ob.sl_at hw) | exact Ent.gnO (by repeat first | exact .here | apply Take.there) (fun w hw => Ob.row_at hw)) : Ent _ (RowAt (some ⟨b8, 0, none⟩) (srcC br))) w hw⟩) ?_
          refine vcLoad1_row (j := 0) (v := .pointer (some ⟨br, 0, none⟩)) (fun w hw => hw.2) rfl ?_
          refine vcLoad1_row (j := 6) (v := .int .i64 h.len) (fun w hw => hw.1) rfl ?_
          refine vcCall_of (.cons (by first | ((repeat (first | exact .here | apply Take.there)); done) | exact .none_) .nil) (at_spec br Ab cb bs.length q5 0 _) (fun v own' N' hv => ?_)
          obtain ⟨rfl, rfl, rfl⟩ := hv
          refine vcMix_same (fun w hw => ⟨((by first | exact Ent.gnO (by repeat first | exact .here | apply Take.there) (fun w hw => Ob.sl_at hw) | exact Ent.gnO (by repeat first | exact .here | apply Take.there) (fun w hw => Ob.row_at hw)) : Ent _ (RowAt (some ⟨a, 0, none⟩) (hdrOf h d s t vs))) w hw, ((by first | exact Ent.gnO (by repeat first | exact .here | apply Take.there) (fun w hw => Ob.sl_at hw) | exact Ent.gnO (by repeat first | exact .here | apply Take.there) (fun w hw => Ob.row_at hw)) : Ent _ (RowAt (some ⟨b8, 0, none⟩) (srcC br))) w hw⟩) ?_
          refine vcFit_i64 (by omega) ?_
          refine vcStore1_0 (.row b6 3 [.int .i64 bs.length] 1) _ (by first | ((repeat (first | exact .here | apply Take.there)); done) | exact .none_) rfl Nat.zero_lt_one rfl ?_
          refine vcMix_last (by kernel_rfl) ?_
          rw [he]
          exact ⟨(), trivial, ⟨rfl, rfl, rfl, rfl, rfl, rfl, trivial⟩, ⟨_, .cons (by first | ((repeat (first | exact .here | apply Take.there)); done) | exact .none_) (.cons (by first | ((repeat (first | exact .here | apply Take.there)); done) | exact .none_) (.cons (by first | ((repeat (first | exact .here | apply Take.there)); done) | exact .none_) (.cons (by first | ((repeat (first | exact .here | apply Take.there)); done) | exact .none_) (.cons (by first | ((repeat (first | exact .here | apply Take.there)); done) | exact .none_) (.cons (by first | ((repeat (first | exact .here | apply Take.there)); done) | exact .none_) (.cons (by first | ((repeat (first | exact .here | apply Take.there)); done) | exact .none_) .nil))))))⟩, (by repeat first | exact Ent.refl | refine Ent.andL ?_)⟩
        · have he : (endP bs (h, q5)).2.2 = bs.length := if_neg (show ¬ 0 < h.len by omega)
          rw [he]
          exact ⟨(), trivial, ⟨rfl, rfl, rfl, rfl, rfl, rfl, trivial⟩, ⟨_, .cons (by first | ((repeat (first | exact .here | apply Take.there)); done) | exact .none_) (.cons (by first | ((repeat (first | exact .here | apply Take.there)); done) | exact .none_) (.cons (by first | ((repeat (first | exact .here | apply Take.there)); done) | exact .none_) (.cons (by first | ((repeat (first | exact .here | apply Take.there)); done) | exact .none_) (.cons (by first | ((repeat (first | exact .here | apply Take.there)); done) | exact .none_) (.cons (by first | ((repeat (first | exact .here | apply Take.there)); done) | exact .none_) (.cons (by first | ((repeat (first | exact .here | apply Take.there)); done) | exact .none_) .nil))))))⟩, (by repeat first | exact Ent.refl | refine Ent.andL ?_)⟩
      · intro _ _
        have eR : parseT bs (k : Int) = (h, q5, (endP bs (h, q5)).2.2, 0) := parseT_ok hP
        rw [eR]
        refine vcDraw_mix [0,1,2,4,3,5,6,7,8] (fun w => RowAt (some ⟨a, 0, none⟩) (hdrOf h d s t vs) w ∧ RowAt (some ⟨b8, 0, none⟩) (srcC br) w ∧ RowAt (some ⟨b6, 0, none⟩) [.int .i64 (endP bs (h, q5)).2.2] w) (by kernel_rfl) (fun w hw => ⟨((by first | exact Ent.gnO (by repeat first | exact .here | apply Take.there) (fun w hw => Ob.sl_at hw) | exact Ent.gnO (by repeat first | exact .here | apply Take.there) (fun w hw => Ob.row_at hw)) : Ent _ (RowAt (some ⟨a, 0, none⟩) (hdrOf h d s t vs))) w hw, ((by first | exact Ent.gnO (by repeat first | exact .here | apply Take.there) (fun w hw => Ob.sl_at hw) | exact Ent.gnO (by repeat first | exact .here | apply Take.there) (fun w hw => Ob.row_at hw)) : Ent _ (RowAt (some ⟨b8, 0, none⟩) (srcC br))) w hw, ((by first | exact Ent.gnO (by repeat first | exact .here | apply Take.there) (fun w hw => Ob.sl_at hw) | exact Ent.gnO (by repeat first | exact .here | apply Take.there) (fun w hw => Ob.row_at hw)) : Ent _ (RowAt (some ⟨b6, 0, none⟩) [.int .i64 (endP bs (h, q5)).2.2])) w hw⟩) ?_
        refine vcLoadN_0 (xs := hdrOf h d s t vs) (fun w hw => hw.1) rfl ?_
        refine vcLoad1_row (j := 0) (v := .pointer (some ⟨br, 0, none⟩)) (fun w hw => hw.2.1) rfl ?_
        refine vcLoad1_0 (xs := [.int .i64 (endP bs (h, q5)).2.2]) (fun w hw => hw.2.2) rfl ?_
        refine vcCall_of (.cons (by first | ((repeat (first | exact .here | apply Take.there)); done) | exact .none_) .nil) (at_spec br Ab cb bs.length q5 0 _) (fun v own' N' hv => ?_)
        obtain ⟨rfl, rfl, rfl⟩ := hv
        refine vcMix_same (fun w hw => ⟨((by first | exact Ent.gnO (by repeat first | exact .here | apply Take.there) (fun w hw => Ob.sl_at hw) | exact Ent.gnO (by repeat first | exact .here | apply Take.there) (fun w hw => Ob.row_at hw)) : Ent _ (RowAt (some ⟨a, 0, none⟩) (hdrOf h d s t vs))) w hw, ((by first | exact Ent.gnO (by repeat first | exact .here | apply Take.there) (fun w hw => Ob.sl_at hw) | exact Ent.gnO (by repeat first | exact .here | apply Take.there) (fun w hw => Ob.row_at hw)) : Ent _ (RowAt (some ⟨b8, 0, none⟩) (srcC br))) w hw, ((by first | exact Ent.gnO (by repeat first | exact .here | apply Take.there) (fun w hw => Ob.sl_at hw) | exact Ent.gnO (by repeat first | exact .here | apply Take.there) (fun w hw => Ob.row_at hw)) : Ent _ (RowAt (some ⟨b6, 0, none⟩) [.int .i64 (endP bs (h, q5)).2.2])) w hw⟩) ?_
        refine ⟨rfl, vcStoreN_row _ (by first | ((repeat (first | exact .here | apply Take.there)); done) | exact .none_) (by rfl) (by simp [oneCell, cellsL, hdrC, hdrOf]) ?_⟩
        refine vcMix_same (fun w hw => ⟨((by first | exact Ent.gnO (by repeat first | exact .here | apply Take.there) (fun w hw => Ob.sl_at hw) | exact Ent.gnO (by repeat first | exact .here | apply Take.there) (fun w hw => Ob.row_at hw)) : Ent _ (RowAt (some ⟨a, 0, none⟩) (hdrOf h d s t vs))) w hw, ((by first | exact Ent.gnO (by repeat first | exact .here | apply Take.there) (fun w hw => Ob.sl_at hw) | exact Ent.gnO (by repeat first | exact .here | apply Take.there) (fun w hw => Ob.row_at hw)) : Ent _ (RowAt (some ⟨b8, 0, none⟩) (srcC br))) w hw, ((by first | exact Ent.gnO (by repeat first | exact .here | apply Take.there) (fun w hw => Ob.sl_at hw) | exact Ent.gnO (by repeat first | exact .here | apply Take.there) (fun w hw => Ob.row_at hw)) : Ent _ (RowAt (some ⟨b6, 0, none⟩) [.int .i64 (endP bs (h, q5)).2.2])) w hw⟩) ?_
        refine vcStore1_0 (.row b5 3 [.int .i64 0] 1) _ (by first | ((repeat (first | exact .here | apply Take.there)); done) | exact .none_) rfl Nat.zero_lt_one rfl ?_
        refine vcMix_same (fun w hw => ⟨((by first | exact Ent.gnO (by repeat first | exact .here | apply Take.there) (fun w hw => Ob.sl_at hw) | exact Ent.gnO (by repeat first | exact .here | apply Take.there) (fun w hw => Ob.row_at hw)) : Ent _ (RowAt (some ⟨a, 0, none⟩) (hdrOf h d s t vs))) w hw, ((by first | exact Ent.gnO (by repeat first | exact .here | apply Take.there) (fun w hw => Ob.sl_at hw) | exact Ent.gnO (by repeat first | exact .here | apply Take.there) (fun w hw => Ob.row_at hw)) : Ent _ (RowAt (some ⟨b8, 0, none⟩) (srcC br))) w hw, ((by first | exact Ent.gnO (by repeat first | exact .here | apply Take.there) (fun w hw => Ob.sl_at hw) | exact Ent.gnO (by repeat first | exact .here | apply Take.there) (fun w hw => Ob.row_at hw)) : Ent _ (RowAt (some ⟨b6, 0, none⟩) [.int .i64 (endP bs (h, q5)).2.2])) w hw⟩) ?_
        refine vcStore1_0 (.row b6 3 [.int .i64 (endP bs (h, q5)).2.2] 1) _ (by first | ((repeat (first | exact .here | apply Take.there)); done) | exact .none_) rfl Nat.zero_lt_one rfl ?_
        refine vcMix_same (fun w hw => ⟨((by first | exact Ent.gnO (by repeat first | exact .here | apply Take.there) (fun w hw => Ob.sl_at hw) | exact Ent.gnO (by repeat first | exact .here | apply Take.there) (fun w hw => Ob.row_at hw)) : Ent _ (RowAt (some ⟨a, 0, none⟩) (hdrOf h d s t vs))) w hw, ((by first | exact Ent.gnO (by repeat first | exact .here | apply Take.there) (fun w hw => Ob.sl_at hw) | exact Ent.gnO (by repeat first | exact .here | apply Take.there) (fun w hw => Ob.row_at hw)) : Ent _ (RowAt (some ⟨b8, 0, none⟩) (srcC br))) w hw, ((by first | exact Ent.gnO (by repeat first | exact .here | apply Take.there) (fun w hw => Ob.sl_at hw) | exact Ent.gnO (by repeat first | exact .here | apply Take.there) (fun w hw => Ob.row_at hw)) : Ent _ (RowAt (some ⟨b6, 0, none⟩) [.int .i64 (endP bs (h, q5)).2.2])) w hw⟩) ?_
        refine vcStore1_0 (.row b7 26 [.int .i64 0] 1) _ (by first | ((repeat (first | exact .here | apply Take.there)); done) | exact .none_) rfl Nat.zero_lt_one rfl ?_
        refine vcMix_same (fun w hw => ⟨((by first | exact Ent.gnO (by repeat first | exact .here | apply Take.there) (fun w hw => Ob.sl_at hw) | exact Ent.gnO (by repeat first | exact .here | apply Take.there) (fun w hw => Ob.row_at hw)) : Ent _ (RowAt (some ⟨a, 0, none⟩) (hdrOf h d s t vs))) w hw, ((by first | exact Ent.gnO (by repeat first | exact .here | apply Take.there) (fun w hw => Ob.sl_at hw) | exact Ent.gnO (by repeat first | exact .here | apply Take.there) (fun w hw => Ob.row_at hw)) : Ent _ (RowAt (some ⟨b8, 0, none⟩) (srcC br))) w hw, ((by first | exact Ent.gnO (by repeat first | exact .here | apply Take.there) (fun w hw => Ob.sl_at hw) | exact Ent.gnO (by repeat first | exact .here | apply Take.there) (fun w hw => Ob.row_at hw)) : Ent _ (RowAt (some ⟨b6, 0, none⟩) [.int .i64 (endP bs (h, q5)).2.2])) w hw⟩) ?_
        refine vcLoadN_0 (xs := hdrOf h d s t vs) (by first | exact Ent.gnO (by repeat first | exact .here | apply Take.there) (fun w hw => Ob.sl_at hw) | exact Ent.gnO (by repeat first | exact .here | apply Take.there) (fun w hw => Ob.row_at hw)) rfl ?_
        refine vcLoad1_0 (xs := [.int .i64 q5]) (Ent.gnO (.there (.there .here)) (fun w hw => Ob.row_at hw)) rfl ?_
        refine vcLoad1_0 (xs := [.int .i64 (endP bs (h, q5)).2.2]) (Ent.gnO (.there .here) (fun w hw => Ob.row_at hw)) rfl ?_
        refine vcLoad1_0 (xs := [.int .i64 0]) (Ent.gnO .here (fun w hw => Ob.row_at hw)) rfl ?_
        exact ⟨[], _, MpAnd (MpAnd (RowAt d.1 (Bs h.dst)) (MpAnd (RowAt s.1 (Bs h.src)) (RowAt t.1 (Bs h.tok)))) (RowAt vs.1 (h.vers.map nI)), .nil, fun w hN ho => ⟨(by repeat first | exact Ent.refl | refine Ent.andL ?_ : Ent _ (MpAnd (RowAt d.1 (Bs h.dst)) (MpAnd (RowAt s.1 (Bs h.src)) (RowAt t.1 (Bs h.tok))))) w hN, Ob.sl_at (ho (.sl vs.1 vs.2 3 1 (h.vers.map nI)) (by simp))⟩, d, s, t, vs, rfl, rfl, fun w hw => hw.1.1, fun w hw => hw.1.2.1, fun w hw => hw.1.2.2, fun w hw => hw.2, hd, hs, ht, hvs⟩
end Go.Proofs.Ytnhkeghahiedfaa
end

section
/- Headers: Parse, its deferred closure included. -/
namespace Go.Proofs.Ytnhkeghahiedfaa
open Go Go.Proofs
set_option maxRecDepth 10000

noncomputable def parseA : Code := match Try.f37.body with
  | some (.seq a _) => a
  | _ => .skip
noncomputable def parseB : Code := match Try.f37.body with
  | some (.seq _ (.seq b _)) => b
  | _ => .skip

theorem parse_spec (A : Option Addr) (c : Nat) (bs : List UInt8) (cid : Int) (G : Mp) (h1 : Ent G (RowAt A (Bs bs))) (hm : bs.length ≤ 211106232530000) (hm2 : bs.length ≤ 70368744177664 ∨ ∀ x r, bs = x :: r → 128 ≤ x.toNat → ∀ p, wordP bs 1 ≠ .ok (0, p)) :
    Spec Try.prog 37 #[.slice A bs.length c, .int .i64 cid] [] G (ParsePost (parseT bs cid)) := by
  refine ⟨Try.call37, fun w hw => ?_⟩
  have hC : (Ctx.mk w [] G).ok := hw
  refine calls_of_wp_defers (c := parseA.seq (parseB.seq parseTail)) Try.func37 rfl ?_
  refine wp_seq ?_
  refine vc_does (X := noX) (D := noD) (C := ⟨w, [], G⟩) hC (n := Try.f37.ntmps) (cuts := []) wide parseA (by rfl)
    (Q := fun ex fm own N => ex = .normal ∧ ∃ a b5 b6 b7, N = MT ∧ own = [.row b7 26 [.int .i64 0] 1, .row b6 3 [.int .i64 0] 1, .row b5 3 [.int .i64 0] 1, hdrO a zeroC] ∧
      fmLe [(0, .slice A bs.length c), (1, .int .i64 cid), (4, .pointer (some ⟨a, 0, none⟩)), (5, .pointer (some ⟨b5, 0, none⟩)), (6, .pointer (some ⟨b6, 0, none⟩)), (7, .pointer (some ⟨b7, 0, none⟩))] fm) ?_ (fun _ _ _ _ _ hx => hx.elim) (initFm_ok (args := [.slice A bs.length c, .int .i64 cid]) (Nat.le_of_ble_eq_true rfl)) (Ctx.start hC) ?_
  rotate_left
  · intro a b5 b6 b7
    exact ⟨rfl, a, b5, b6, b7, rfl, rfl, ⟨rfl, rfl, rfl, rfl, rfl, rfl, trivial⟩⟩
  rintro ex fm own N ⟨tm, df⟩ w1 ⟨rfl, a, b5, b6, b7, rfl, rfl, hle⟩ hfm hinv
  have hfm := hfm.le hle
  obtain ⟨hsz, hdf, hget⟩ := hfm
  obtain ⟨hdf, _⟩ := hdf
  simp only [noD] at hdf hget hsz
  subst hdf
  have g4 : tm[4]? = some (.pointer (some ⟨a, 0, none⟩)) := hget 4 _ rfl
  have g5 : tm[5]? = some (.pointer (some ⟨b5, 0, none⟩)) := hget 5 _ rfl
  have g6 : tm[6]? = some (.pointer (some ⟨b6, 0, none⟩)) := hget 6 _ rfl
  have g7 : tm[7]? = some (.pointer (some ⟨b7, 0, none⟩)) := hget 7 _ rfl
  have h10 : 10 < tm.size := by rw [hsz]; exact Nat.le_of_ble_eq_true rfl
  refine wp_seq ?_
  refine wp_region_list ?_
  simp [wpList, go_sem, Exit.then, g4, g5, g6, g7, h10]
  refine .inl (.inl ?_)
  have hi : ∀ t, t < 8 → (tm.setIfInBounds 10 (Value.func (Fn.func 49) #[] #[Value.pointer (some ⟨a, 0, none⟩), Value.pointer (some ⟨b5, 0, none⟩), Value.pointer (some ⟨b6, 0, none⟩), Value.pointer (some ⟨b7, 0, none⟩)]))[t]? = tm[t]? := fun t ht => Array.getElem?_setIfInBounds_ne (by omega)
  refine vc_does (X := XP (parseL bs cid) a b5 b6 b7) (C := ⟨w, [], G⟩) hC (n := Try.f37.ntmps) (cuts := [22, 25]) (D := ⟨[⟨.fn (.func 49) #[Value.pointer (some ⟨a, 0, none⟩), Value.pointer (some ⟨b5, 0, none⟩), Value.pointer (some ⟨b6, 0, none⟩), Value.pointer (some ⟨b7, 0, none⟩)], #[]⟩], 8, tm⟩) wide parseTail (by rfl) ?_ ?_ ?_ hinv (parse_tail a b5 b6 b7 A c bs cid G h1 hm hm2)
  · intro ex fm own N a' w' hq hfm hinv
    have fin : vcRet Try.prog G Try.f37.results.toList (ParsePost (parseT bs cid)) fm own N → Leaves Try.prog Try.f37 a'.tmps (fun e w' => ∃ v, e = Ending.returned v ∧ ∃ own N, ParsePost (parseT bs cid) v own N ∧ Inv w (blksOf []) w' own N) a'.defers .returning w' := by
      intro hq
      obtain ⟨v, hr, own, N, hP, hI⟩ := results_run (C := ⟨w, [], G⟩) hC hfm hinv hq
      rw [hfm.defers.ds]
      refine leaves_cons (f := 49) (args := #[.pointer (some ⟨a, 0, none⟩), .pointer (some ⟨b5, 0, none⟩), .pointer (some ⟨b6, 0, none⟩), .pointer (some ⟨b7, 0, none⟩)]) (by simp) (by simp [go_sem]) ?_
      refine (catch_idle a b5 b6 b7 w').mono ?_
      rintro e u' w'' ⟨rfl, rfl, rfl⟩
      simp only [settle]
      exact ⟨v, hr, v, rfl, own, N, hP, hI⟩
    cases ex with
    | normal => exact fin hq
    | ret => exact fin hq
    | _ => exact hq.elim
  · intro ch own N a' w' hx hk hinv
    obtain ⟨e, hc, i, j, k, rest, hr, rfl, hp, hl⟩ := hx
    show Leaves _ _ a'.tmps _ a'.defers (.panicking [pE e]) w'
    rw [hk.ds]
    refine leaves_cons (f := 49) (args := #[.pointer (some ⟨a, 0, none⟩), .pointer (some ⟨b5, 0, none⟩), .pointer (some ⟨b6, 0, none⟩), .pointer (some ⟨b7, 0, none⟩)]) (by simp) (by simp [go_sem]) ?_
    refine (catch_pan hC a b5 b6 b7 e hc i j k rest N hl w' (hinv.picked hp)).mono ?_
    rintro en u' w'' ⟨rfl, rfl, hinv'⟩
    have g : ∀ t v, t < 8 → tm[t]? = some v → a'.tmps[t]? = some v := fun t v h8 h => (hk.base t h8).trans h
    have hfm' : FmOk noD a'.tmps.size [(4, .pointer (some ⟨a, 0, none⟩)), (5, .pointer (some ⟨b5, 0, none⟩)), (6, .pointer (some ⟨b6, 0, none⟩)), (7, .pointer (some ⟨b7, 0, none⟩))] { tmps := a'.tmps, defers := [] } := by
      refine ⟨rfl, ⟨rfl, fun t ht => absurd ht (Nat.not_lt_zero t)⟩, ?_⟩
      intro t v ht
      rcases t with _ | _ | _ | _ | _ | _ | _ | _ | t
      case succ.succ.succ.succ.zero => cases ht; exact g 4 _ (by omega) g4
      case succ.succ.succ.succ.succ.zero => cases ht; exact g 5 _ (by omega) g5
      case succ.succ.succ.succ.succ.succ.zero => cases ht; exact g 6 _ (by omega) g6
      case succ.succ.succ.succ.succ.succ.succ.zero => cases ht; exact g 7 _ (by omega) g7
      all_goals cases ht
    have hq : vcRet Try.prog G Try.f37.results.toList (ParsePost (parseT bs cid)) [(4, .pointer (some ⟨a, 0, none⟩)), (5, .pointer (some ⟨b5, 0, none⟩)), (6, .pointer (some ⟨b6, 0, none⟩)), (7, .pointer (some ⟨b7, 0, none⟩))]
        (.row b7 26 [.int .i64 e] 1 :: .row b6 3 [.int .i64 0] 1 :: .row b5 3 [.int .i64 0] 1 :: hdrO a zeroC :: rest) N := by
      rw [parseT_err hr]
      refine vcLoadN_0 (xs := zeroC) (by first | exact Ent.gnO (by repeat first | exact .here | apply Take.there) (fun w hw => Ob.sl_at hw) | exact Ent.gnO (by repeat first | exact .here | apply Take.there) (fun w hw => Ob.row_at hw)) rfl ?_
      refine vcLoad1_0 (xs := [.int .i64 0]) (Ent.gnO (.there (.there .here)) (fun w hw => Ob.row_at hw)) rfl ?_
      refine vcLoad1_0 (xs := [.int .i64 0]) (Ent.gnO (.there .here) (fun w hw => Ob.row_at hw)) rfl ?_
      refine vcLoad1_0 (xs := [.int .i64 e]) (Ent.gnO .here (fun w hw => Ob.row_at hw)) rfl ?_
      exact ⟨[], _, MT, .nil, fun _ _ _ => trivial, (none, 0), (none, 0), (none, 0), (none, 0), rfl, rfl, HdrM_0 _⟩
    obtain ⟨v, hrr, own, N, hP, hI⟩ := results_run (C := ⟨w, [], G⟩) hC hfm' hinv' hq
    exact ⟨v, hrr, v, rfl, own, N, hP, hI⟩
  · refine ⟨by simp [hsz], ⟨rfl, hi⟩, ?_⟩
    intro t v ht
    have h8 : t < 8 := by
      rcases Nat.lt_or_ge t 8 with h | h
      · exact h
      · exfalso
        rcases t with _ | _ | _ | _ | _ | _ | _ | _ | t
        all_goals first | omega | cases ht
    show (tm.setIfInBounds 10 _)[t]? = some v
    rw [hi t h8]
    exact hget t v ht
end Go.Proofs.Ytnhkeghahiedfaa
end

section
/- slices.Backward over bytes: what its closure does. -/
namespace Go.Proofs.Ytnhkeghahiedfaa
open Go Go.Proofs Go.RowKit Go.Shelf
attribute [local go_sem] Oper.semAt_some

/-- The places that have come when k rounds are over. -/
def down (len k : Nat) : List Nat := (List.range k).map fun j => len - 1 - j
theorem down_succ (len k : Nat) : down len (k + 1) = down len k ++ [len - 1 - k] := by simp [down, List.range_succ]

/-- What the closure reads: the slice in its box, a byte at each of its places. -/
def BackQ (B R len cap : Nat) (W : World) : Prop := W.cell? ⟨B, 0, none⟩ = some (.slice (some ⟨R, 0, none⟩) len cap) ∧ ∀ j, j < len → ∃ x : UInt8, W.cell? ⟨R, j, none⟩ = some (.int .u8 x.toNat)

set_option maxRecDepth 100000 in
set_option maxHeartbeats 2000000 in
theorem back1_in (n : Nat) (hn : 1 ≤ n) (l B R len cap : Nat) (hlen : len ≤ 281474976710656) (J Jx : List ({i : Nat // i < len} × UInt8) → World → Prop)
    (hY : ∀ pre x W, J pre W → pre.length < len → YieldAt Fence.wide (n - 1) Try.prog l #[.int .i64 (x.1.val : Int), .int .u8 x.2.toNat] W fun e W' =>
      (e = .returned (.bool true) ∧ J (pre ++ [x]) W' ∧ (BackQ B R len cap W → BackQ B R len cap W')) ∨ (e = .returned (.bool false) ∧ Jx (pre ++ [x]) W'))
    (W : World) (hQ : BackQ B R len cap W) (h0 : J [] W) :
    CallsIn Fence.wide n Try.prog 62 #[.func (.yield l) #[] #[], .pointer (some ⟨B, 0, none⟩)] W fun e W' => (∃ v, e = .returned v) ∧
      ((∃ ys, ys.map (fun x => x.1.val) = down len len ∧ J ys W') ∨ (∃ pre, True ∧ Jx pre W')) := by
  refine callsIn_of_wp Try.func62 rfl trivial ?_ rfl
  simp only [Try.ntmps62, List.size_toArray, List.length_cons, List.length_nil, Nat.reduceAdd, Nat.reduceSub, Array.replicate_succ, Array.replicate_zero, List.push_toArray, List.append_toArray, List.nil_append, List.cons_append]
  have hb := hQ.1
  gi_wp2
  gi_loopw [3] (fun i wr => ∃ pre : List ({i : Nat // i < len} × UInt8), pre.length ≤ len ∧ i = .int .i64 ((len : Int) - 1 - pre.length) ∧ pre.map (fun x => x.1.val) = down len pre.length ∧ J pre wr ∧ BackQ B R len cap wr)
    (fun i _ => (intOf i + 1).toNat)
  case atStart => exact ⟨[], Nat.zero_le _, by simp, rfl, h0, hQ⟩
  case round =>
    obtain ⟨pre, hk, rfl, hd, hJs, hqs⟩ := hrel
    have hb' := hqs.1
    by_cases hlt : pre.length < len
    · obtain ⟨i, hi⟩ : ∃ i : Nat, i = len - 1 - pre.length := ⟨_, rfl⟩
      have hii : (len : Int) - 1 - pre.length = i := by omega
      have hil : i < len := by omega
      obtain ⟨x, hx⟩ := hqs.2 i hil
      rw [hii]
      have hsum : i + (pre.length + 1) = len := by omega
      clear hii hi
      obtain ⟨fn, tmps, assign, body, hy, hR⟩ := hY pre (⟨i, hil⟩, x) wr hJs hlt
      dsimp only at hy
      gi_wp2
      refine hR.mono ?_
      rintro e W3 (⟨rfl, hJ3, hk3⟩ | ⟨rfl, hJx3⟩)
      · have hq3 := hk3 hqs
        gi_wp2
        go_roundw
        case rel => exact ⟨pre ++ [(⟨i, hil⟩, x)], by simp; omega, by simp; omega, by rw [List.map_append, hd, List.length_append]; simp [down_succ]; omega, hJ3, hq3⟩
        case measure => simp [intOf]
      · gi_wp2
        refine bodyPost_ret (results_none rfl _ _ _) rfl ?_
        exact ⟨⟨_, rfl⟩, .inr ⟨_, trivial, hJx3⟩⟩
    · obtain hpe : pre.length = len := by omega
      have hii : (len : Int) - 1 - pre.length = -1 := by omega
      rw [hii]
      clear hii
      gi_wp2
      go_end0
      exact ⟨⟨_, rfl⟩, .inl ⟨pre, by rw [hd, hpe], hJs⟩⟩
end Go.Proofs.Ytnhkeghahiedfaa
end

section
/- slices.Backward over new bytes: what a loop that fills them does. -/
namespace Go.Proofs.Ytnhkeghahiedfaa
open Go Go.Proofs Go.RowKit Go.Shelf
attribute [local go_sem] Oper.semAt_some

set_option maxRecDepth 100000 in
theorem back_in (n : Nat) (a : Option Addr) (len cap : Nat) (w : World) :
    CallsIn Fence.wide n Try.prog 43 #[.slice a len cap] w fun e w' => e = .returned (.func (.func 62) #[] #[.pointer (some ⟨w.heap.size, 0, none⟩)]) ∧ w' = w.alloc (.cells #[.slice a len cap] 22) := by
  refine callsIn_of_wp Try.func43 rfl trivial ?_ rfl
  simp only [Try.ntmps43, List.size_toArray, List.length_cons, List.length_nil, Nat.reduceAdd, Nat.reduceSub, Array.replicate_succ, Array.replicate_zero, List.push_toArray, List.append_toArray, List.nil_append, List.cons_append]
  gi_wp2
  go_ret
  exact ⟨rfl, rfl⟩

theorem row_fact {w : World} {b : Nat} {ty : TypeId} {xs : List Value} {m i : Nat} {v : Value} (h : (Ob.row b ty xs m).is w) (hi : xs[i]? = some v) : w.cell? ⟨b, i, none⟩ = some v ∧ w.frozen? ⟨b, i, none⟩ = false := by
  obtain ⟨o, ho, pre, sp, post, fz, hp, hl, rfl, hf⟩ := h
  obtain rfl : pre = [] := List.eq_nil_of_length_eq_zero hp
  have hlt : i < xs.length := (List.getElem?_eq_some_iff.1 hi).1
  refine ⟨?_, ?_⟩
  · simp only [World.cell?, ho, Option.isSome_none, Bool.false_eq_true, if_false, List.getElem?_toArray, List.nil_append]
    rw [List.getElem?_append_left hlt]
    exact hi
  · have : ¬ (fz.1 ≤ i ∧ i < fz.2) := by rcases hf with h | h <;> omega
    simp only [World.frozen?, ho]
    simp only [decide_eq_false_iff_not, Bool.and_eq_false_iff]
    simp
    omega
theorem sl_row {w : World} {b cap : Nat} {ty : TypeId} {size : Nat} {xs : List Value} (h : (Ob.sl (some ⟨b, 0, none⟩) cap ty size xs).is w) : (Ob.row b ty xs (cap * size)).is w := h.2

theorem mk_bytes (s : Nat) (h : s ≤ 8) (h' : 1 ≤ s) (w : World) : (Instr.makeSlice 22 (.int .i64 s) (.int .i64 s)).run Try.prog w = .ok (.slice (some ⟨w.heap.size, 0, none⟩) s s) (w.alloc (.cells (Bs (List.replicate s 0)).toArray 5)) := by
  have hu : Try.prog.underlying 22 = some (.slice 5) := by kernel_rfl
  have hinfo : (Try.prog.info? 5).map (fun i => (i.zero, i.size, i.bytes)) = some (some (.int .u8 0), 1, 1) := by kernel_rfl
  obtain ⟨i, hi, hz, h1, h2⟩ := info_parts hinfo
  have wl : IntKind.i64.wrap (s : Int) = s := wrap_in .i64 s (by simp [IntKind.min, IntKind.signed, IntKind.bits]) (by simp [IntKind.max, IntKind.signed, IntKind.bits]; omega)
  simp only [Instr.makeSlice, Sem.run_bind, run_under hu, Result.andThen_ok, asInt, asIntOf, Sem.run_pure, run_info hi, wl]
  rw [if_neg (by simp [h2]; omega)]
  simp only [Sem.run_bind, run_askRoom, Result.andThen_ok, run_size hi, h1, Int.toNat_natCast, Nat.mul_one]
  rw [if_neg (by omega)]
  simp only [Sem.run_bind, run_zero hi hz, Result.andThen_ok, Sem.run_pure]
  have e : (Array.range s).map (fun j => ((Value.int .u8 0).cells)[j % ((Value.int .u8 0).cells).size]!) = (Bs (List.replicate s 0)).toArray := by
    apply Array.ext'
    have := zerosL_eq s 1 (Value.int .u8 0).cells rfl
    rw [Nat.mul_one] at this
    rw [this]
    exact Bs_zeros s
  rw [← e]
  rfl

/-- A step of the loop: a byte at its place, the rest of the number. -/
def putStep (p : List UInt8 × Nat) (i : Nat) : List UInt8 × Nat := (p.1.set i (UInt8.ofNat (p.2 % 256)), p.2 / 256)
def putFold (s m : Nat) (l : List Nat) : List UInt8 × Nat := l.foldl putStep (List.replicate s 0, m)
theorem putFold_snoc (s m : Nat) (l : List Nat) (i : Nat) : putFold s m (l ++ [i]) = putStep (putFold s m l) i := by simp [putFold]
theorem putFold_length (s m : Nat) : ∀ l : List Nat, (putFold s m l).1.length = s := by
  have key : ∀ (l : List Nat) (p : List UInt8 × Nat), (l.foldl putStep p).1.length = p.1.length := by
    intro l
    induction l with
    | nil => exact fun _ => rfl
    | cons i r ih => intro p; rw [List.foldl_cons, ih]; simp [putStep]
  intro l
  rw [putFold, key]; simp
theorem putFold_le (s m : Nat) : ∀ l : List Nat, (putFold s m l).2 ≤ m := by
  have key : ∀ (l : List Nat) (p : List UInt8 × Nat), (l.foldl putStep p).2 ≤ p.2 := by
    intro l
    induction l with
    | nil => exact fun _ => Nat.le_refl _
    | cons i r ih => intro p; rw [List.foldl_cons]; exact Nat.le_trans (ih _) (Nat.div_le_self _ _)
  intro l
  exact key l _
theorem putFold_down (s m : Nat) : ∀ k, k ≤ s → ∃ T x, putFold s m (down s k) = (List.replicate (s - k) 0 ++ T, x) ∧ T.length = k ∧ be s m = be (s - k) x ++ T
  | 0, _ => ⟨[], m, by simp [putFold, down], rfl, by simp⟩
  | k + 1, h => by
    obtain ⟨T, x, h1, h2, h3⟩ := putFold_down s m k (by omega)
    obtain ⟨j, hj⟩ : ∃ j, s - k = j + 1 := ⟨s - k - 1, by omega⟩
    refine ⟨UInt8.ofNat (x % 256) :: T, x / 256, ?_, by simp [h2], ?_⟩
    · rw [down_succ, putFold_snoc, h1, hj, show s - 1 - k = j from by omega, show s - (k + 1) = j from by omega]
      unfold putStep
      simp only
      congr 1
      rw [List.set_append_left _ _ (by simp), List.replicate_succ', List.set_append_right _ _ (by simp)]
      simp
    · rw [h3, hj, show s - (k + 1) = j from by omega, be]; simp
theorem putFold_all (s m : Nat) : (putFold s m (down s s)).1 = be s m := by
  obtain ⟨T, x, h1, h2, h3⟩ := putFold_down s m s (Nat.le_refl _)
  rw [h1, h3, Nat.sub_self]; rfl

def Ob.plain : Ob → Bool
  | .row _ _ _ _ => true
  | .sl _ _ _ _ _ => true
  | _ => false
theorem Inv.grown {w0 w w' : World} {row : Option Nat} {own : List Ob} (h : Inv w0 [] w own MT) (hg : w.grownBy w' row) (hm : ∀ o ∈ own, o.plain = true)
    (hr : ∀ r, row = some r → w0.heap.size ≤ r ∧ ∃ o : Obj, w.heap[r]? = some o ∧ o.isCells = false) : Inv w0 [] w' own MT := by
  have hcells : ∀ b ∈ blksOf own, ∃ o : Obj, w.heap[b]? = some o ∧ o.isCells = true := by
    intro b hb
    obtain ⟨o, ho, hb⟩ := mem_blksOf.1 hb
    have := h.objs o ho
    cases o with
    | row b' ty xs m =>
      simp only [Ob.blks, List.mem_singleton] at hb; subst hb
      obtain ⟨x, hx, pre, sp, post, fz, _, _, rfl, _⟩ := this; exact ⟨_, hx, rfl⟩
    | sl A cap ty size xs =>
      cases A with
      | none => simp [Ob.blks] at hb
      | some a =>
        simp only [Ob.blks, List.mem_singleton] at hb; subst hb
        obtain ⟨_, x, hx, pre, sp, post, fz, _, _, rfl, _⟩ := this; exact ⟨_, hx, rfl⟩
    | map b' l c => cases hm _ ho
    | iter b' m s e c => cases hm _ ho
  have hsame : ∀ b ∈ blksOf own, w'.heap[b]? = w.heap[b]? := by
    intro b hb
    refine hg.block b (h.objs.lt b hb) (fun e => ?_)
    obtain ⟨_, o, ho, hoc⟩ := hr b e.symm
    obtain ⟨o', ho', hoc'⟩ := hcells b hb
    rw [ho] at ho'; cases ho'; rw [hoc] at hoc'; cases hoc'
  refine ⟨h.objs.keep hsame, h.nodup, ?_, h.from_, fun _ _ _ => trivial⟩
  refine ⟨hg.os.trans h.fr.os, hg.tape.trans h.fr.tape, hg.output.trans h.fr.output, Nat.le_trans h.fr.size hg.size, fun i hi hn => ?_⟩
  exact (hg.block i (Nat.lt_of_lt_of_le hi h.fr.size) (fun e => by have := (hr i e.symm).1; omega)).trans (h.fr.same i hi hn)

/-- Where the loop stands. -/
def PutI (w : World) (b1 R s m : Nat) (l : List Nat) (W : World) : Prop :=
  Inv w [] W [.row (R + 2) 22 [.slice (some ⟨R, 0, none⟩) s s] 1, .row (R + 1) 22 [.slice (some ⟨R, 0, none⟩) s s] 1, .sl (some ⟨R, 0, none⟩) s 5 1 (Bs (putFold s m l).1), .row b1 3 [.int .i64 ((putFold s m l).2 : Nat)] 1] MT
theorem putI_own (w : World) (b1 R s m B : Nat) {α : Type} (f : α → List Nat) (hB : w.heap.size ≤ B) : OwnFrom B (fun (pre : α) W => PutI w b1 R s m (f pre) W) := by
  intro pre W W' row h hg hr
  exact Inv.grown h hg (by simp [Ob.plain]) (fun r e => ⟨Nat.le_trans hB (hr r e).1, (hr r e).2⟩)
theorem backQ_of {w W : World} {b1 R s m : Nat} {l : List Nat} (h : PutI w b1 R s m l W) : BackQ (R + 2) R s s W := by
  refine ⟨(row_fact (h.objs _ (List.mem_cons_self ..)) (i := 0) rfl).1, fun j hj => ?_⟩
  have h3 := sl_row (h.objs _ (List.mem_cons_of_mem _ (List.mem_cons_of_mem _ (List.mem_cons_self ..))))
  have hl := putFold_length s m l
  exact ⟨(putFold s m l).1[j]'(by omega), (row_fact h3 (Bs_get (by omega))).1⟩
theorem backK_t {B R len cap : Nat} {X Y Z : World} (h : BackQ B R len cap X → BackQ B R len cap Y) (k : BackQ B R len cap Y → BackQ B R len cap Z) : BackQ B R len cap X → BackQ B R len cap Z := fun q => k (h q)
theorem backK_b {B R len cap : Nat} {w : World} (W : World) (l : Nat) (o o' : Obj) (_ : w.heap.size ≤ l) (h : W.heap[l]? = some o) (hc : o.isCells = false) (_ : o.isWalk = false) (q : BackQ B R len cap W) : BackQ B R len cap (W.putObj l o') := by
  have hg := grownBy_putObj' W l o'
  have hr : ∀ r, some l = some r → ∃ o : Obj, W.heap[r]? = some o ∧ o.isCells = false := fun r e => by cases e; exact ⟨o, h, hc⟩
  exact ⟨cell_kept q.1 hg hr, fun j hj => by obtain ⟨x, hx⟩ := q.2 j hj; exact ⟨x, cell_kept hx hg hr⟩⟩
theorem back_stops (n : Nat) (hn : 1 ≤ n) (B R len cap : Nat) (hlen : len ≤ 281474976710656) (w : World) (hB : B < w.heap.size) (hR : R < w.heap.size) (hq : BackQ B R len cap w) :
    SeqStopsK Fence.wide n Try.prog 62 #[.pointer (some ⟨B, 0, none⟩)] (fun x : {i : Nat // i < len} × UInt8 => #[Value.int .i64 (x.1.val : Int), .int .u8 x.2.toNat]) (fun W W' => BackQ B R len cap W → BackQ B R len cap W')
      (fun ys => ys.map (fun x => x.1.val) = down len len) (fun _ => True) len w := fun l J Jx W hW _ _ hY h0 =>
  back1_in n hn l B R len cap hlen J Jx hY W ⟨(hW.cell (p := ⟨B, 0, none⟩) hB).trans hq.1, fun j hj => by obtain ⟨x, hx⟩ := hq.2 j hj; exact ⟨x, (hW.cell (p := ⟨R, j, none⟩) hR).trans hx⟩⟩ h0

end Go.Proofs.Ytnhkeghahiedfaa
end

section
/- Numbers in so many bytes: route.number. -/
namespace Go.Proofs.Ytnhkeghahiedfaa
open Go Go.Proofs Go.RowKit Go.Shelf
attribute [local go_sem] Oper.semAt_some

/-- The loop's body. -/
noncomputable def numBody : Code := match Try.f23.body with
  | some (.seq _ (.seq _ (.seq (.seq _ (.block _ (.rangeFunc _ _ _ b))) _))) => b
  | _ => .skip

set_option maxRecDepth 100000 in
set_option maxHeartbeats 2000000 in
theorem numBody_wp (m : Nat) (hm : m < 4611686018427387904) (w : World) (b1 R s : Nat) (L : List Nat) (W : World) (hI : PutI w b1 R s m L W) (j : Nat) (hj : j < s) (l : Nat) (a : Act)
    (ha : ∃ v0 v1 v3 v4 v7 v8 v9 v10 v11 v12 v13 v14 v15 v16 v17 v18 v19 v20, a = { tmps := (v0 :: v1 :: .pointer (some ⟨b1, 0, none⟩) :: v3 :: v4 :: .pointer (some ⟨R + 1, 0, none⟩) :: .int .i64 (j : Int) :: v7 :: v8 :: v9 :: v10 :: v11 :: v12 :: v13 :: v14 :: v15 :: v16 :: v17 :: v18 :: v19 :: v20 :: []).toArray, defers := [] }) :
    numBody.wpIn (Fence.wide.inRound l) 3 Try.prog (fun e _ W' => match e with
      | .normal => KeepsOthers W W' ∧ PutI w b1 R s m (L ++ [j]) W'
      | _ => False) a W := by
  obtain ⟨v0, v1, v3, v4, v7, v8, v9, v10, v11, v12, v13, v14, v15, v16, v17, v18, v19, v20, rfl⟩ := ha
  have hlen := putFold_length s m L
  have hle := putFold_le s m L
  have hsn := putFold_snoc s m L j
  have hI' := hI
  unfold PutI at hI hI' ⊢
  rw [hsn]
  generalize putFold s m L = p at hI hI' hlen hle hsn
  obtain ⟨row, x⟩ := p
  simp only at hI hI' hlen hle
  obtain ⟨hc1, hf1⟩ := row_fact (hI.objs _ (List.mem_cons_of_mem _ (List.mem_cons_of_mem _ (List.mem_cons_of_mem _ (List.mem_cons_self ..))))) (i := 0) rfl
  obtain ⟨hc2, hf2⟩ := row_fact (hI.objs _ (List.mem_cons_of_mem _ (List.mem_cons_self ..))) (i := 0) rfl
  obtain ⟨hc3, hf3⟩ := row_fact (sl_row (hI.objs _ (List.mem_cons_of_mem _ (List.mem_cons_of_mem _ (List.mem_cons_self ..))))) (Bs_get (i := j) (by omega))
  have hne : R ≠ b1 := by
    have := hI'.nodup
    simp [blksOf, Ob.blks] at this
    omega
  have hx8 : x ≤ 4611686018427387903 := by omega
  clear hI hsn hle
  dsimp only [numBody, Try.f23]
  gi_wp2
  have hadd : ∀ (b i : Nat), (⟨b, i, none⟩ : Addr) = (⟨b, 0, none⟩ : Addr).add i := fun b i => by unfold Addr.add; split <;> simp_all
  have hy : (UInt8.ofNat (x % 256)).toNat = x % 256 := ofNat_toNat _ (by omega)
  have hA : Inv w [] (W.setCell ⟨R, j, none⟩ (.int .u8 ((x : Int) % 256))) [.sl (some ⟨R, 0, none⟩) s 5 1 (Bs (putStep (row, x) j).1), .row (R + 2) 22 [.slice (some ⟨R, 0, none⟩) s s] 1,
      .row (R + 1) 22 [.slice (some ⟨R, 0, none⟩) s s] 1, .row b1 3 [.int .i64 x] 1] MT := by
    obtain ⟨own', e, _, h⟩ := vcStore1_does (P := Try.prog) (C := ⟨w, [], MT⟩) (ad := ⟨R, j, none⟩) (v := .int .u8 ((x : Int) % 256)) (k := fun o => o = _) hI' (.intro (.sl (some ⟨R, 0, none⟩) s 5 1 (Bs row)) _ j (.there (.there .here)) (fun _ _ => ⟨_, rfl, hadd R j⟩) (by simp only [Ob.cells]; rw [Bs_length]; omega) rfl rfl)
    subst e
    have e : (Bs row).set j (.int .u8 ((x : Int) % 256)) = Bs (putStep (row, x) j).1 := by
      unfold putStep Bs
      rw [List.map_set]
      congr 1
      unfold B
      rw [hy]; rfl
    simp only [Ob.set, e] at h
    exact h
  have hB : Inv w [] ((W.setCell ⟨R, j, none⟩ (.int .u8 ((x : Int) % 256))).setCell ⟨b1, 0, none⟩ (.int .i64 ((x : Int) / 256))) [.row b1 3 [.int .i64 ((x : Int) / 256)] 1, .sl (some ⟨R, 0, none⟩) s 5 1 (Bs (putStep (row, x) j).1), .row (R + 2) 22 [.slice (some ⟨R, 0, none⟩) s s] 1,
      .row (R + 1) 22 [.slice (some ⟨R, 0, none⟩) s s] 1] MT := by
    obtain ⟨own', e, _, h⟩ := vcStore1_does (P := Try.prog) (C := ⟨w, [], MT⟩) (ad := ⟨b1, 0, none⟩) (v := .int .i64 ((x : Int) / 256)) (k := fun o => o = _) hA (.intro (.row b1 3 [.int .i64 x] 1) _ 0 (.there (.there (.there .here))) (fun _ _ => ⟨_, rfl, hadd b1 0⟩) (by simp [Ob.cells]) rfl rfl)
    subst e
    exact h
  refine ⟨(KeepsOthers.setCell _ _ _).trans (KeepsOthers.setCell _ _ _), ?_⟩
  rw [show (x : Int) / 256 = ((x / 256 : Nat) : Int) from by omega] at hB ⊢
  have h := hB.picked (.cons (.there (.there .here)) (.cons (.there (.there .here)) (.cons (.there .here) (.cons .here .nil))))
  exact h

set_option maxRecDepth 100000 in
set_option maxHeartbeats 2000000 in
theorem number_in (m s : Nat) (hm : m < 4611686018427387904) (h1 : 1 ≤ s) (h8 : s ≤ 8) (w : World) :
    CallsIn Fence.wide 5 Try.prog 23 #[.int .i64 m, .int .i64 s] w fun e w' => ∃ b, e = .returned (.slice (some ⟨b, 0, none⟩) s s) ∧ Inv w [] w' [.sl (some ⟨b, 0, none⟩) s 5 1 (Bs (be s m))] MT := by
  have hI0 : Inv w [] w [] MT := Ctx.start (C := ⟨w, [], MT⟩) ⟨fun _ ho => (by cases ho), List.nodup_nil, fun _ _ => trivial⟩
  have hI1 : Inv w [] (w.alloc (.cells #[.int .i64 m] 3)) [.row w.heap.size 3 [.int .i64 m] 1] MT :=
    hI0.alloc _ (.row w.heap.size 3 [.int .i64 m] 1) rfl ⟨_, World.alloc_heap_new _ _, [], [], [], (0, 0), rfl, rfl, rfl, by simp⟩
  obtain ⟨w1, hw1⟩ : ∃ w1, w.alloc (.cells #[.int .i64 m] 3) = w1 := ⟨_, rfl⟩
  have hsz : w1.heap.size = w.heap.size + 1 := by rw [← hw1, World.size_alloc]
  refine callsIn_of_wp_marks Try.func23 rfl trivial ?_ rfl
  simp only [Try.ntmps23, List.size_toArray, List.length_cons, List.length_nil, Nat.reduceAdd, Nat.reduceSub, Array.replicate_succ, Array.replicate_zero, List.push_toArray, List.append_toArray, List.nil_append, List.cons_append]
  have hmk : ∀ w, (Instr.makeSlice 22 (.int .i64 s) (.int .i64 s)).run Try.prog w = .ok (.slice (some ⟨w.heap.size, 0, none⟩) s s) (w.alloc (.cells (Bs (List.replicate s 0)).toArray 5)) := mk_bytes s h8 h1
  gi_wp2_with (refine ⟨trivial, ?_⟩; gi_at_call 43; refine (back_in 4 _ _ _ _).mono ?_; rintro e w2 ⟨rfl, rfl⟩)
  have hI2 : Inv w [] w1 [.row w.heap.size 3 [.int .i64 m] 1] MT := hw1 ▸ hI1
  have hI3 := hI2.alloc (.cells (Bs (List.replicate s 0)).toArray 5) (.sl (some ⟨w1.heap.size, 0, none⟩) s 5 1 (Bs (List.replicate s 0))) rfl ⟨rfl, _, World.alloc_heap_new _ _, [], [], [], (0, 0), rfl, by simp [Bs_length], by simp, by simp⟩
  have hI4 := hI3.alloc (.cells #[.slice (some ⟨w1.heap.size, 0, none⟩) s s] 22) (.row (w1.heap.size + 1) 22 [.slice (some ⟨w1.heap.size, 0, none⟩) s s] 1) (by simp [Ob.blks]) ⟨_, (by rw [← World.size_alloc]; exact World.alloc_heap_new _ _), [], [], [], (0, 0), rfl, rfl, rfl, by simp⟩
  have hI5 := hI4.alloc (.cells #[.slice (some ⟨w1.heap.size, 0, none⟩) s s] 22) (.row (w1.heap.size + 2) 22 [.slice (some ⟨w1.heap.size, 0, none⟩) s s] 1) (by simp [Ob.blks]) ⟨_, (by rw [show w1.heap.size + 2 = ((w1.alloc (.cells (Bs (List.replicate s 0)).toArray 5)).alloc (.cells #[.slice (some ⟨w1.heap.size, 0, none⟩) s s] 22)).heap.size from by simp]; exact World.alloc_heap_new _ _), [], [], [], (0, 0), rfl, rfl, rfl, by simp⟩
  have hq := backQ_of (b1 := w.heap.size) (l := []) (m := m) hI5
  rw [← hsz]
  have hsl : w.heap.size < w1.heap.size := by omega
  clear hsz hw1 hmk
  refine wpIn_rangeFunc_ownG rfl (by omega) (gf := 62) (lb := #[.pointer (some ⟨w1.heap.size + 2, 0, none⟩)]) rfl trivial (enters_of Try.func62 (by kernel_rfl) rfl)
    (back_stops 4 (by omega) (w1.heap.size + 2) w1.heap.size s s (by omega) _ (by simp only [World.size_alloc]; omega) (by simp only [World.size_alloc]; omega) hq) backK_t backK_b (Below.refl _ _) (fun _ => rfl)
    (fun pre W => PutI w w.heap.size w1.heap.size s m (pre.map fun x => x.1.val) W) (fun _ _ _ => False)
    (putI_own _ _ _ _ _ _ _ (by have := hI2.fr.size; simp at this ⊢; omega)) (fun _ _ _ _ _ hs _ _ => hs) hI5
    (fun x => { tmps := (.int .i64 m :: .int .i64 s :: .pointer (some ⟨w.heap.size, 0, none⟩) :: undef :: .slice none 0 0 :: .pointer (some ⟨w1.heap.size + 1, 0, none⟩) :: .int .i64 (x.1.val : Int) :: .int .i64 s :: .slice (some ⟨w1.heap.size, 0, none⟩) s s :: .slice (some ⟨w1.heap.size, 0, none⟩) s s :: .func (.func 62) #[] #[.pointer (some ⟨w1.heap.size + 2, 0, none⟩)] :: .int .i64 (x.1.val : Int) :: .int .u8 x.2.toNat :: undef :: undef :: undef :: undef :: undef :: undef :: undef :: undef :: []).toArray, defers := [] }) ?assign ?body ?done ?stop
  case assign =>
    intro l x W K hK
    gi_wp2
    exact hK
  case body =>
    rintro l pre ⟨⟨j, hj⟩, y⟩ W hI _
    refine wpIn_mono (numBody_wp m hm w w.heap.size w1.heap.size s _ W hI j hj l _ ?ha) ?_
    case ha => exact ⟨_, _, _, _, _, _, _, _, _, _, _, _, _, _, _, _, _, _, rfl⟩
    rintro e a' W' hq
    cases e with
    | normal => exact ⟨hq.1.from _, fun _ => backQ_of hq.2, by dsimp only; rw [List.map_append]; exact hq.2⟩
    | _ => exact hq.elim
  case done =>
    rintro D ys W hD hS hI hK
    replace hS : ys.map (fun x => x.1.val) = down s s := hS
    replace hI : PutI w w.heap.size w1.heap.size s m (ys.map fun x => x.1.val) W := hI
    rw [hS] at hI
    unfold PutI at hI
    rw [putFold_all] at hI
    obtain ⟨hc2, hf2⟩ := row_fact (hI.objs _ (List.mem_cons_of_mem _ (List.mem_cons_self ..))) (i := 0) rfl
    have hsz1 := hI2.fr.size
    clear hI0 hI1 hI2 hI3 hI4 hI5 hq hS
    gi_wp2
    have hA : Inv w [] W [.sl (some ⟨w1.heap.size, 0, none⟩) s 5 1 (Bs (be s m))] MT := by
      have h := hI.picked (.cons (.there (.there .here)) .nil)
      exact Inv.drop (own := [_]) h (fun _ _ _ => trivial)
    refine ⟨by simp, .inl ⟨_, _, rfl, run_takeDeferred hK, ?_⟩⟩
    refine ⟨_, results_tmp rfl _ _ _, w1.heap.size, rfl, ?_⟩
    exact Inv.grown hA (grownBy_putObj' _ _ _) (by simp [Ob.plain]) (fun r e => by cases e; exact ⟨by simp at hD; omega, _, hK, rfl⟩)
  case stop =>
    rintro D c pre W _ _ h _
    exact h.elim

theorem numberR_spec (m s : Nat) (hm : m < 4611686018427387904) (h1 : 1 ≤ s) (h8 : s ≤ 8) (G : Mp) : Spec Try.prog 23 #[.int .i64 m, .int .i64 s] [] G (OwnB (be s m)) := by
  refine ⟨Try.call23, fun w hw => ?_⟩
  refine (callsIn_wide.1 (number_in m s hm h1 h8 w)).mono ?_
  rintro e w' ⟨b, rfl, hi⟩
  exact ⟨_, _, MT, rfl, ⟨some ⟨b, 0, none⟩, s, by rw [be_length], rfl, rfl, by rw [be_length]; exact Nat.le_refl _⟩, hi⟩
end Go.Proofs.Ytnhkeghahiedfaa
end

section
/- The reference's Join. -/
namespace Go.Proofs.Ytnhkeghahiedfaa
open Go.Proofs
set_option maxRecDepth 10000

/-- A piece: where it lies, its room, its bytes. -/
abbrev Piece := Option Addr × Nat × List UInt8
def pieceV (p : Piece) : Value := .slice p.1 p.2.2.length p.2.1
def pieces (ps : List Piece) : List UInt8 := ps.flatMap fun p => p.2.2
theorem pieces_le (ps : List Piece) (k : Nat) : (pieces (ps.take k)).length ≤ (pieces ps).length := by
  have : pieces ps = pieces (ps.take k) ++ pieces (ps.drop k) := by
    unfold pieces; rw [← List.flatMap_append, List.take_append_drop]
  rw [this]; simp

theorem join_spec (A : Option Addr) (c : Nat) (ps : List Piece) (G : Mp) (h1 : Ent G (RowAt A (ps.map pieceV))) (h2 : ∀ p ∈ ps, Ent G (RowAt p.1 (Bs p.2.2))) (hb : (pieces ps).length ≤ 211106232532992) (hl : ps.length ≤ 4611686018427387904) :
    Spec Try.prog 26 #[.slice A ps.length c] [] G (OwnB (pieces ps)) := by
  refine Spec.intro (args := [_]) wide Try.func26 rfl Try.call26 (by rfl) (by rfl) (fun w0 hw0 => ?_)
  intro b
  refine vcLoop_of (fun g : Nat × Option Addr × Nat => ps.length - g.1) (fun g => [(0, .slice A ps.length c), (3, .slice g.2.1 (pieces (ps.take g.1)).length g.2.2), (4, .int .i64 g.1)])
    (fun g => [.sl g.2.1 g.2.2 5 1 (Bs (pieces (ps.take g.1)))]) (fun _ => MT) (fun g => g.1 ≤ ps.length ∧ (pieces (ps.take g.1)).length ≤ g.2.2) (0, some ⟨b, 0, none⟩, 0)
    ⟨Nat.zero_le _, Nat.le_refl _⟩ ⟨rfl, rfl, rfl, trivial⟩ ⟨[], .cons .here .nil⟩ (fun _ _ => trivial) ?_
  rintro ⟨k, A', cap'⟩ ⟨hk, hcap⟩
  simp only at hk hcap
  refine vcIf_dec (fun hlt => ?_) (fun hge => ?_)
  · have hk' : k < ps.length := by simp only at hlt; omega
    have hle := pieces_le ps (k + 1)
    have hsn : pieces (ps.take (k + 1)) = pieces (ps.take k) ++ ps[k].2.2 := by rw [take_snoc_get hk']; simp only [pieces, List.flatMap_append, List.flatMap_cons, List.flatMap_nil, List.append_nil]
    rw [hsn, List.length_append] at hle
    refine vcIdx_row (Ent.gnG h1) ⟨by omega, by simp only; omega⟩ (by simp) (fun a ha => ?_)
    subst ha
    refine vcLoad1_row (v := pieceV ps[k]) (Ent.gnG h1) (by simp [hk']) ?_
    refine vcApp_big (Bs (pieces (ps.take k))) _ (Bs ps[k].2.2) .here (by rw [Bs_length, Nat.mul_one]) (by rw [Bs_length, Nat.mul_one]) (by omega) (Bs_one _) (Ent.gnG (h2 _ (List.getElem_mem _))) (by simp only; omega) (fun A2 cap2 hc2 => ?_)
    refine vcFit_i64 (by omega) ?_
    refine ⟨(k + 1, A2, cap2), ⟨by simp only; omega, by simp only; rw [hsn, List.length_append]; exact hc2⟩, by simp only; omega, ⟨rfl, ?_, rfl, trivial⟩, ⟨[], .cons ?_ .nil⟩, fun _ _ => trivial⟩
    · rw [hsn, List.length_append]; rfl
    · simp only [hsn, Bs_append]; exact .here
  · have hk' : k = ps.length := by simp only at hge; omega
    subst hk'
    rw [List.take_length] at hcap
    refine ⟨_, [], MT, .cons .here .nil, fun _ _ _ => trivial, A', cap', ?_, ?_, rfl, hcap⟩
    · rw [List.take_length]; rfl
    · rw [List.take_length]
end Go.Proofs.Ytnhkeghahiedfaa
end

section
/- slices.Concat over bytes. -/
namespace Go.Proofs.Ytnhkeghahiedfaa
open Go.Proofs
set_option maxRecDepth 10000

theorem grow_spec (n : Nat) (hn : n ≤ 140737488355328) (G : Mp) : Spec Try.prog 59 #[.slice none 0 0, .int .i64 n] [] G (fun v own N => ∃ A cap, v = .slice A 0 cap ∧ own = [.sl A cap 5 1 []] ∧ N = MT) := by
  refine Spec.intro (args := [_, _]) wide Try.func59 rfl Try.call59 (by rfl) (by rfl) (fun w0 hw0 => ?_)
  refine vcFit_i64 (by omega) ?_
  refine vcFit_i64 (by omega) ?_
  refine vcIf_dec (fun h => ?_) (fun h => ?_)
  · refine vcSlice3_as 0 0 0 rfl rfl rfl (by omega) (by omega) (fun A' hA' => ?_)
    rw [cutA_0] at hA'
    subst hA'
    refine vcAppZ_of [] _ n (by omega) .none_ rfl (by decide) (by simp [oneCell]) (by omega) (by omega) (fun A' cap' hc => ?_)
    refine vcSlice3_as 0 0 cap' rfl (by omega) (by omega) (by omega) (by omega) (fun A2 hA2 => ?_)
    rw [cutA_0] at hA2
    subst hA2
    exact ⟨_, _, MT, .cons (.cut 0) .nil, fun _ _ _ => trivial, _, _, rfl, rfl, rfl⟩
  · exact ⟨_, _, MT, .cons .none_ .nil, fun _ _ _ => trivial, _, _, rfl, rfl, rfl⟩

theorem concat_spec (A : Option Addr) (c : Nat) (ps : List Piece) (G : Mp) (h1 : Ent G (RowAt A (ps.map pieceV))) (h2 : ∀ p ∈ ps, Ent G (RowAt p.1 (Bs p.2.2))) (hb : (pieces ps).length ≤ 140737488355328) (hl : ps.length ≤ 4611686018427387904) :
    Spec Try.prog 39 #[.slice A ps.length c] [] G (OwnB (pieces ps)) := by
  refine Spec.intro (args := [_]) wide Try.func39 rfl Try.call39 (by rfl) (by rfl) (fun w0 hw0 => ?_)
  refine vcLoop_of (fun k : Nat => ps.length - k) (fun k => [(0, .slice A ps.length c), (3, .int .i64 (pieces (ps.take k)).length), (9, .slice A ps.length c), (10, .int .i64 ps.length), (11, .int .i64 k)])
    (fun _ => []) (fun _ => MT) (fun k => k ≤ ps.length) 0 (Nat.zero_le _) ⟨rfl, rfl, rfl, rfl, rfl, trivial⟩ ⟨_, .nil⟩ (fun _ _ => trivial) ?_
  intro k hk
  refine vcIf_dec (fun hlt => ?_) (fun hge => ?_)
  · have hk' : k < ps.length := by omega
    have hle := pieces_le ps (k + 1)
    have hsn : pieces (ps.take (k + 1)) = pieces (ps.take k) ++ ps[k].2.2 := by rw [take_snoc_get hk']; simp only [pieces, List.flatMap_append, List.flatMap_cons, List.flatMap_nil, List.append_nil]
    rw [hsn, List.length_append] at hle
    refine vcIdx_row (Ent.gnG h1) ⟨by omega, by omega⟩ (by simp) (fun a ha => ?_)
    have h1' : Ent G (RowAt (some a) (ps.map pieceV)) := ha ▸ h1
    refine vcLoad1_row (v := pieceV ps[k]) (Ent.gnG h1') (by simp [hk']) ?_
    refine vcFit_i64 (by omega) ?_
    refine vcFit_i64 (by omega) ?_
    refine ⟨k + 1, by omega, by omega, ⟨rfl, ?_, rfl, rfl, rfl, trivial⟩, ⟨_, .nil⟩, fun _ _ => trivial⟩
    rw [hsn, List.length_append, Int.natCast_add]; rfl
  · have hk' : k = ps.length := by omega
    subst hk'
    rw [List.take_length]
    refine vcCall_of .nil (grow_spec (pieces ps).length hb _) (fun v own' N' hv => ?_)
    obtain ⟨A0, cap0, rfl, rfl, rfl⟩ := hv
    refine vcLoop_of (fun g : Nat × Option Addr × Nat => ps.length - g.1) (fun g => [(25, .slice A ps.length c), (26, .int .i64 ps.length), (27, .int .i64 g.1), (6, .slice g.2.1 (pieces (ps.take g.1)).length g.2.2)])
      (fun g => [.sl g.2.1 g.2.2 5 1 (Bs (pieces (ps.take g.1)))]) (fun _ => MT) (fun g => g.1 ≤ ps.length ∧ (pieces (ps.take g.1)).length ≤ g.2.2) (0, A0, cap0)
      ⟨Nat.zero_le _, Nat.zero_le _⟩ ⟨rfl, rfl, rfl, rfl, trivial⟩ ⟨[], .cons .here .nil⟩ (fun _ _ => trivial) ?_
    rintro ⟨k, A', cap'⟩ ⟨hk, hcap⟩
    simp only at hk hcap
    refine vcIf_dec (fun hlt => ?_) (fun hge => ?_)
    · have hk' : k < ps.length := by simp only at hlt; omega
      have hle := pieces_le ps (k + 1)
      have hsn : pieces (ps.take (k + 1)) = pieces (ps.take k) ++ ps[k].2.2 := by rw [take_snoc_get hk']; simp only [pieces, List.flatMap_append, List.flatMap_cons, List.flatMap_nil, List.append_nil]
      rw [hsn, List.length_append] at hle
      refine vcIdx_row (Ent.gnG h1) ⟨by omega, by simp only; omega⟩ (by simp) (fun a ha => ?_)
      have h1' : Ent G (RowAt (some a) (ps.map pieceV)) := ha ▸ h1
      refine vcLoad1_row (v := pieceV ps[k]) (Ent.gnG h1') (by simp [hk']) ?_
      refine vcApp_of (Bs (pieces (ps.take k))) _ (Bs ps[k].2.2) .here (by rw [Bs_length, Nat.mul_one]) (by rw [Bs_length, Nat.mul_one]) (by omega) (Bs_one _) (Ent.gnG (h2 _ (List.getElem_mem _))) (by simp only; omega) (by simp only; omega) (fun A2 cap2 hc2 => ?_)
      refine vcFit_i64 (by omega) ?_
      refine ⟨(k + 1, A2, cap2), ⟨by simp only; omega, by simp only; rw [hsn, List.length_append]; exact hc2⟩, by simp only; omega, ⟨rfl, rfl, rfl, ?_, trivial⟩, ⟨[], .cons ?_ .nil⟩, fun _ _ => trivial⟩
      · rw [hsn, List.length_append]; rfl
      · simp only [hsn, Bs_append]; exact .here
    · have hk' : k = ps.length := by simp only at hge; omega
      subst hk'
      rw [List.take_length] at hcap
      refine ⟨_, [], MT, .cons .here .nil, fun _ _ _ => trivial, A', cap', ?_, ?_, rfl, hcap⟩
      · rw [List.take_length]; rfl
      · rw [List.take_length]
end Go.Proofs.Ytnhkeghahiedfaa
end

section
/- The digest, the power: what layer 7 says, without a program. -/
namespace Go.Proofs.Ytnhkeghahiedfaa

def rotN (w k : Nat) : Nat := (w * 2 ^ k % 18446744073709551616) ||| (w / 2 ^ (64 - k))
def mixA (a b x : Nat) : Nat := (rotN ((a ^^^ x) * 1099511628211 % 18446744073709551616) 23 + b) % 18446744073709551616
def mixB (a' b x : Nat) : Nat := (rotN (b ^^^ a') 41 * 2654435761 % 18446744073709551616 + x) % 18446744073709551616
/-- One byte more. -/
def mixN (s : Nat × Nat) (x : UInt8) : Nat × Nat := (mixA s.1 s.2 x.toNat, mixB (mixA s.1 s.2 x.toNat) s.2 x.toNat)
def mixL (s : Nat × Nat) (l : List UInt8) : Nat × Nat := l.foldl mixN s
def seed0 : Nat × Nat := (11400714819323198485, 14029467366897019727)
def le4 (n : Nat) : List UInt8 := [UInt8.ofNat (n % 256), UInt8.ofNat (n / 256 % 256), UInt8.ofNat (n / 65536 % 256), UInt8.ofNat (n / 16777216 % 256)]
/-- The digest of bytes. -/
def dig (l : List UInt8) : List UInt8 :=
  let s := mixL seed0 (l ++ le4 l.length)
  be 8 s.1 ++ be 8 s.2
theorem dig_length (l : List UInt8) : (dig l).length = 16 := by simp [dig, be_length]
theorem mixL_append (s : Nat × Nat) (l m : List UInt8) : mixL s (l ++ m) = mixL (mixL s l) m := List.foldl_append
theorem mixL_snoc (s : Nat × Nat) (l : List UInt8) (x : UInt8) : mixL s (l ++ [x]) = mixN (mixL s l) x := by rw [mixL_append]; rfl

theorem rotN_lt {w k : Nat} (hw : w < 18446744073709551616) : rotN w k < 18446744073709551616 := by
  unfold rotN
  have h1 : w * 2 ^ k % 18446744073709551616 < 2 ^ 64 := Nat.mod_lt _ (by decide)
  have h2 : w / 2 ^ (64 - k) < 2 ^ 64 := Nat.lt_of_le_of_lt (Nat.div_le_self _ _) hw
  exact Nat.or_lt_two_pow h1 h2
theorem mixN_lt {s : Nat × Nat} (x : UInt8) : (mixN s x).1 < 18446744073709551616 ∧ (mixN s x).2 < 18446744073709551616 :=
  ⟨Nat.mod_lt _ (by decide), Nat.mod_lt _ (by decide)⟩
theorem mixL_lt (s : Nat × Nat) (hs : s.1 < 18446744073709551616 ∧ s.2 < 18446744073709551616) (l : List UInt8) : (mixL s l).1 < 18446744073709551616 ∧ (mixL s l).2 < 18446744073709551616 := by
  induction l generalizing s with
  | nil => exact hs
  | cons x r ih => exact ih _ (mixN_lt x)
theorem seed0_lt : seed0.1 < 18446744073709551616 ∧ seed0.2 < 18446744073709551616 := by decide

/-! ### The power -/
def prm : Nat := 2305843009213693951
def powN (base exponent : Int) : Nat := if base < 0 ∨ (prm : Int) ≤ base ∨ exponent < 0 then 0 else base.toNat ^ exponent.toNat % prm

/-- The pieces of a text with its length ahead. -/
def txt (b : List UInt8) : List UInt8 := UInt8.ofNat (b.length % 256) :: b
def word4 (n : Nat) : List UInt8 := [UInt8.ofNat (n / 16777216 % 256), UInt8.ofNat (n / 65536 % 256), UInt8.ofNat (n / 256 % 256), UInt8.ofNat (n % 256)]
/-- The stream's block. -/
def block (key nonce : List UInt8) (j : Nat) : List UInt8 := dig ([1] ++ txt key ++ txt nonce ++ word4 j)
/-- The bytes xor the stream. -/
def turnL (key nonce data : List UInt8) : List UInt8 := data.zipIdx.map fun p => p.1 ^^^ ((block key nonce (p.2 / 16))[p.2 % 16]?).getD 0
theorem turnL_length (key nonce data : List UInt8) : (turnL key nonce data).length = data.length := by simp [turnL]
def tagL (key nonce ad cipher : List UInt8) : List UInt8 := dig ([2] ++ txt key ++ txt nonce ++ word4 ad.length ++ ad ++ cipher)
/-- The sealed bytes, the error's number. -/
def sealL (key nonce ad plain : List UInt8) : List UInt8 × Int :=
  if 255 < key.length ∨ 255 < nonce.length then ([], 70)
  else if 16384 < ad.length ∨ 16384 < plain.length then ([], 52)
  else (turnL key nonce plain ++ tagL key nonce ad (turnL key nonce plain), 0)
/-- The plain bytes, the error's number. -/
def openL (key nonce ad sealed_ : List UInt8) : List UInt8 × Int :=
  if 255 < key.length ∨ 255 < nonce.length then ([], 70)
  else if 16384 < ad.length ∨ 16400 < sealed_.length then ([], 52)
  else if sealed_.length < 16 then ([], 12)
  else if tagL key nonce ad (sealed_.take (sealed_.length - 16)) = sealed_.drop (sealed_.length - 16) then (turnL key nonce (sealed_.take (sealed_.length - 16)), 0)
  else ([], 71)
end Go.Proofs.Ytnhkeghahiedfaa
end

section
/- The digest: turning words, taking in bytes. -/
namespace Go.Proofs.Ytnhkeghahiedfaa
open Go.Proofs
set_option maxRecDepth 10000

theorem rot64_spec (w k : Nat) (hw : w < 18446744073709551616) (hk : k < 64) (G : Mp) : Spec Try.prog 73 #[.int .u64 w, .int .i64 k] [] G (Ret (.int .u64 (rotN w k : Nat))) := by
  refine Spec.intro (args := [_, _]) wide Try.func73 rfl Try.call73 (by rfl) (by rfl) (fun w0 hw0 => ?_)
  have hand : bitI .and .u64 (k : Int) 63 = (k : Nat) := by
    rw [show (63 : Int) = ((63 : Nat) : Int) from rfl, bitI_and (by rw [max_u64]; omega) (by rw [max_u64]; omega)]
    rw [show k &&& 63 = k % 64 from Nat.and_two_pow_sub_one_eq_mod k 6, Nat.mod_eq_of_lt hk]
  refine vcFit_u64_in (by omega) ?_
  refine vcBit_as _ hand ?_
  refine vcShl_nat (n := k) (show k ≤ 64 by omega) ?_
  refine vcFit_u64 ?_
  refine vcFit_u64_in (by omega) ?_
  rw [show (64 : Int) - k = ((64 - k : Nat) : Int) from by omega]
  refine vcShr_nat (n := 64 - k) (show 64 - k ≤ 64 by omega) ?_
  have e1 : ((w : Int) * 2 ^ k) % 18446744073709551616 = ((w * 2 ^ k % 18446744073709551616 : Nat) : Int) := by simp
  have e2 : (w : Int) / 2 ^ (64 - k) = ((w / 2 ^ (64 - k) : Nat) : Int) := by simp
  refine vcBit_as (rotN w k : Nat) ?_ ⟨[], [], MT, .nil, fun _ _ _ => trivial, rfl, rfl, rfl⟩
  rw [e1, e2, bitI_or (by rw [max_u64]; omega) (by have := Nat.div_le_self w (2 ^ (64 - k)); rw [max_u64]; omega)]
  rfl

/-- A state's cells. -/
def stV (s : Nat × Nat) : List Value := [.int .u64 s.1, .int .u64 s.2]

theorem xor64 (a b : Nat) (ha : a < 18446744073709551616) (hb : b < 18446744073709551616) : bitI .xor .u64 (a : Int) (b : Int) = ((a ^^^ b : Nat) : Int) := bitI_xor (by rw [max_u64]; omega) (by rw [max_u64]; omega)
theorem xor_lt {a b : Nat} (ha : a < 18446744073709551616) (hb : b < 18446744073709551616) : a ^^^ b < 18446744073709551616 := Nat.xor_lt_two_pow (n := 64) ha hb
theorem mul64 (a b : Nat) : ((a : Int) * (b : Int)) % 18446744073709551616 = ((a * b % 18446744073709551616 : Nat) : Int) := by simp
theorem add64 (a b : Nat) : ((a : Int) + (b : Int)) % 18446744073709551616 = (((a + b) % 18446744073709551616 : Nat) : Int) := by simp

theorem add_spec (b : Nat) (s : Nat × Nat) (hs : s.1 < 18446744073709551616 ∧ s.2 < 18446744073709551616) (A : Option Addr) (c : Nat) (xs : List UInt8) (G : Mp) (h1 : Ent G (RowAt A (Bs xs))) (hx : xs.length ≤ 9223372036854775799) :
    Spec Try.prog 71 #[.pointer (some ⟨b, 0, none⟩), .slice A xs.length c] [.row b 107 (stV s) 2] G (fun v own N => v = .tuple #[] ∧ own = [.row b 107 (stV (mixL s xs)) 2] ∧ N = MT) := by
  refine Spec.intro (args := [_, _]) wide Try.func71 rfl Try.call71 (by rfl) (by rfl) (fun w0 hw0 => ?_)
  refine vcLoop_of (fun k : Nat => xs.length - k) (fun k => [(0, .pointer (some ⟨b, 0, none⟩)), (6, .slice A xs.length c), (7, .int .i64 xs.length), (8, .int .i64 k)])
    (fun k => [.row b 107 (stV (mixL s (xs.take k))) 2]) (fun _ => MT) (fun k => k ≤ xs.length) 0 (Nat.zero_le _) ⟨rfl, rfl, rfl, rfl, trivial⟩ ⟨[], .cons .here .nil⟩ Ent.refl ?_
  intro k hk
  refine vcIf_dec (fun hlt => ?_) (fun hge => ?_)
  · have hk' : k < xs.length := by omega
    have hb := xs[k].toNat_lt
    have hl := mixL_lt s hs (xs.take k)
    have hsn : mixL s (xs.take (k + 1)) = mixN (mixL s (xs.take k)) xs[k] := by rw [take_snoc_get hk', mixL_snoc]
    generalize mixL s (xs.take k) = t at hl hsn
    have hxk : (Bs xs)[k]? = some (.int .u8 xs[k].toNat) := Bs_get hk'
    generalize xs[k] = x at hb hsn hxk
    refine vcIdx_row (Ent.gnG h1) ⟨by omega, hlt⟩ (by rw [Bs_length]; exact Nat.le_refl _) (fun a ha => ?_)
    subst ha
    refine vcLoad1_row (Ent.gnG h1) hxk ?_
    -- s.a
    refine vcDraw_mix [0, 1, 2, 3, 4, 5, 6, 7, 8, 10, 11, 12, 13, 9, 14, 15, 16, 17] (RowAt (some ⟨b, 0, none⟩) (stV t)) (by kernel_rfl) (Ent.gnO .here fun w hw => Ob.row_at hw) ?_
    refine vcLoad1_row (j := 0) (v := .int .u64 t.1) Ent.refl rfl ?_
    refine vcFit_u64_in (by omega) ?_
    refine vcBit_as _ (xor64 _ _ hl.1 (by omega)) ?_
    refine vcFit_u64 ?_
    rw [show (1099511628211 : Int) = ((1099511628211 : Nat) : Int) from rfl, mul64]
    refine vcLoad1_row (j := 1) (v := .int .u64 t.2) Ent.refl rfl ?_
    refine vcCall_of .nil (rot64_spec _ 23 (Nat.mod_lt _ (by decide)) (by omega) _) (fun v own' N' hv => ?_)
    obtain ⟨rfl, rfl, rfl⟩ := hv
    refine vcMix_same (Ent.gnO .here fun w hw => Ob.row_at hw) ?_
    refine vcFit_u64 ?_
    rw [add64]
    refine vcStore1_of _ _ ⟨b, 0, none⟩ 0 .here rfl rfl (by simp [Ob.cells, stV]) rfl ?_
    refine vcMix_last (by kernel_rfl) ?_
    -- s.b
    have hA : mixA t.1 t.2 x.toNat < 18446744073709551616 := Nat.mod_lt _ (by decide)
    refine vcDraw_mix [0, 1, 2, 3, 4, 5, 6, 7, 8, 9, 12, 13, 10, 11, 14, 15, 16, 17] (RowAt (some ⟨b, 0, none⟩) [.int .u64 (mixA t.1 t.2 x.toNat : Nat), .int .u64 t.2]) (by kernel_rfl) (Ent.gnO .here fun w hw => Ob.row_at hw) ?_
    refine vcLoad1_row (j := 1) (v := .int .u64 t.2) Ent.refl rfl ?_
    refine vcLoad1_row (j := 0) (v := .int .u64 (mixA t.1 t.2 x.toNat : Nat)) Ent.refl rfl ?_
    refine vcBit_as _ (xor64 _ _ hl.2 hA) ?_
    refine vcFit_u64_in (by omega) ?_
    refine vcCall_of .nil (rot64_spec _ 41 (xor_lt hl.2 hA) (by omega) _) (fun v own' N' hv => ?_)
    obtain ⟨rfl, rfl, rfl⟩ := hv
    refine vcMix_same (Ent.gnO .here fun w hw => Ob.row_at hw) ?_
    refine vcFit_u64 ?_
    rw [show (2654435761 : Int) = ((2654435761 : Nat) : Int) from rfl, mul64]
    refine vcFit_u64 ?_
    rw [add64]
    refine vcStore1_of _ _ ⟨b, 0, none⟩ 1 .here rfl rfl (by simp [Ob.cells, Ob.set, stV]) rfl ?_
    refine vcMix_last (by kernel_rfl) ?_
    refine vcFit_i64 (by omega) ?_
    refine ⟨k + 1, by omega, by omega, ⟨rfl, rfl, rfl, rfl, trivial⟩, ⟨[], .cons ?_ .nil⟩, fun _ _ => trivial⟩
    rw [hsn]
    exact .here
  · have hk' : k = xs.length := by omega
    subst hk'
    rw [List.take_length]
    exact ⟨_, [], MT, .cons .here .nil, fun _ _ _ => trivial, rfl, rfl, rfl⟩
end Go.Proofs.Ytnhkeghahiedfaa
end
