/- Ids: the program's mask, numbers of bytes. -/
import Derived.Test.YtnhkeghahiedfaaRteB
namespace Go.Proofs.Ytnhkeghahiedfaa
open Go.Proofs
set_option maxRecDepth 10000

theorem vcShl_lit {kd : IntKind} {a b : Int} (n : Nat) {X : Int → Prop} (hb : b = n) (h : n ≤ kd.bits) (k : vcFit kd (a * 2 ^ n) X) : vcShl kd a b X := by subst hb; exact vcShl_nat h k
theorem rturn_8 (As Ai : Option Addr) (cs ci : Nat) (s id : List UInt8) (G : Mp) (hs : Ent G (RowAt As (Bs s))) (hi : Ent G (RowAt Ai (Bs id))) (hl : s.length ≤ 1000000000) (h8 : id.length = 8) :
    Spec Try.prog 22 #[.slice As s.length cs, .slice Ai id.length ci] [] G (OwnB (turnI s id)) := by
  refine Spec.intro (args := [_, _]) wide Try.func22 rfl Try.call22 (by rfl) (by rfl) (fun w0 hw0 => ?_)
  intro b3
  refine vcMark_of .here ?_
  intro bp
  have e := cid_pieces b3 As cs s
  refine vcCall_of .nil (e ▸ digest_spec (some ⟨bp, 0, none⟩) 2 [(some ⟨b3, 0, none⟩, 3, [99, 105, 100]), (As, cs, s)] _ (Ent.gnO .here (fun w hw => Ob.sl_at hw)) (fun p hp => by
    simp only [List.mem_cons, List.not_mem_nil, or_false] at hp
    rcases hp with rfl | rfl
    · exact (Ent.gnO (.there .here) (fun w hw => Ob.sl_at hw))
    · exact Ent.gnG hs) (by rw [e]; simp; omega) (by simp)) (fun v own' N1 hv => ?_)
  obtain ⟨Am, cm, rfl, rfl, hrm, hcm⟩ := hv
  have hm16 : (dig ([99, 105, 100] ++ s)).length = 16 := dig_length _
  rw [show turnI s id = xorD (dig ([99, 105, 100] ++ s)) id from rfl]
  generalize dig ([99, 105, 100] ++ s) = m at *
  have hx8 := xorD_length m id
  refine vcMk_nat 8 rfl rfl (by omega) (by omega) (fun bo => ?_)
  rw [Bs_zeros]
  have hz : ∀ l : List UInt8, (List.replicate 8 l).length = 8 := by simp
  refine vcLoop_of (fun k : Nat => 8 - k) (fun k => [(1, .slice Ai id.length ci), (5, .slice Am m.length cm), (6, .slice (some ⟨bo, 0, none⟩) 8 8), (15, .int .i64 8), (16, .int .i64 k)])
    (fun k => [.sl (some ⟨bo, 0, none⟩) 8 5 1 (Bs ((xorD m id).take k ++ (List.replicate 8 (0 : UInt8)).drop k))]) (fun _ => RowAt Am (Bs m)) (fun k => k ≤ 8) 0 (Nat.zero_le _)
    ⟨rfl, rfl, rfl, rfl, rfl, trivial⟩ ⟨_, .cons (by rw [List.take_zero, List.nil_append, List.drop_zero]; exact .here) .nil⟩ (by repeat first | exact Ent.andR hrm | refine Ent.andL ?_) ?_
  intro k hk
  refine vcIf_dec (fun hlt => ?_) (fun hge => ?_)
  · have hk8 : k < 8 := by omega
    have hcur : ((xorD m id).take k ++ (List.replicate 8 (0 : UInt8)).drop k).length = 8 := by rw [List.length_append, List.length_take, List.length_drop, hx8, List.length_replicate]; omega
    refine vcDraw_mix [0,1,2,3,4,5,6,7,8,9,10,11,12] (fun w => RowAt Ai (Bs id) w ∧ RowAt Am (Bs m) w) (by kernel_rfl) (fun w hw => ⟨hi w hw.1.1, hw.1.2⟩) ?_
    refine vcIdx_nat k rfl (fun w hw => hw.1) (by omega) (by rw [Bs_length]; omega) (fun ai ha => ?_)
    refine vcLoad1_row (v := .int .u8 (id[k]'(by omega)).toNat) (fun w hw => ha ▸ hw.1) (Bs_get (by omega)) ?_
    refine vcIdx_nat k rfl (fun w hw => hw.2) (by omega) (by rw [Bs_length]; omega) (fun am ha2 => ?_)
    refine vcLoad1_row (v := .int .u8 (m[k]'(by omega)).toNat) (fun w hw => ha2 ▸ hw.2) (Bs_get (by omega)) ?_
    refine vcBit_as _ (xor_u8 _ _) ?_
    refine vcIdx_some k rfl (by omega) ?_
    refine vcStore1_1 _ _ .here rfl (by simp only [Ob.cells, Bs_length]; omega) rfl ?_
    have hst : ((xorD m id).take k ++ (List.replicate 8 (0 : UInt8)).drop k).set k (id[k]'(by omega) ^^^ m[k]'(by omega)) = (xorD m id).take (k + 1) ++ (List.replicate 8 (0 : UInt8)).drop (k + 1) := by
      rw [← xorD_get hk8 (by omega) (by omega)]
      exact fill_set (by omega) (by rw [List.length_replicate]; omega)
    have hrow : Ob.set (.sl (some ⟨bo, 0, none⟩) 8 5 1 (Bs ((xorD m id).take k ++ (List.replicate 8 (0 : UInt8)).drop k))) (k + 0) (.int .u8 ((id[k]'(by omega) ^^^ m[k]'(by omega)).toNat)) = .sl (some ⟨bo, 0, none⟩) 8 5 1 (Bs ((xorD m id).take (k + 1) ++ (List.replicate 8 (0 : UInt8)).drop (k + 1))) := by
      rw [← hst, ← Bs_set]; rfl
    rw [hrow]
    refine vcMix_last (by kernel_rfl) ?_
    refine vcFit_i64 (by omega) ?_
    refine ⟨k + 1, by omega, by omega, ⟨rfl, rfl, rfl, rfl, rfl, trivial⟩, ⟨_, .cons .here .nil⟩, Ent.refl⟩
  · have : k = 8 := by omega
    subst this
    rw [List.take_of_length_le (by omega), List.drop_eq_nil_of_le (by simp), List.append_nil]
    exact ⟨_, _, MT, .cons .here .nil, fun _ _ _ => trivial, _, 8, by rw [hx8]; rfl, rfl, rfl, by omega⟩

/-- The number of bytes, the highest first. -/
theorem beval_le (l : List UInt8) (h : l.length ≤ 7) : beval 0 l < 72057594037927936 := by
  have := beval_lt l 0 1 (by omega)
  have h2 : 256 ^ l.length ≤ 256 ^ 7 := Nat.pow_le_pow_right (by omega) h
  have h3 : (256 : Nat) ^ 7 = 72057594037927936 := by decide
  omega
theorem beval_append : ∀ (a b : List UInt8) (n : Nat), beval n (a ++ b) = beval (beval n a) b
  | [], _, _ => rfl
  | _ :: r, b, _ => beval_append r b _
theorem beval_ge : ∀ (l : List UInt8) (n : Nat), n ≤ beval n l
  | [], n => Nat.le_refl n
  | x :: r, n => Nat.le_trans (by omega) (beval_ge r (n * 256 + x.toNat))
theorem value_spec (A : Option Addr) (c : Nat) (bs : List UInt8) (G : Mp) (h1 : Ent G (RowAt A (Bs bs))) (h7 : beval 0 bs < 4611686018427387904) (hl : bs.length ≤ 100) :
    Spec Try.prog 24 #[.slice A bs.length c] [] G (Ret (.int .i64 (beval 0 bs : Nat))) := by
  refine Spec.intro (args := [_]) wide Try.func24 rfl Try.call24 (by rfl) (by rfl) (fun w0 hw0 => ?_)
  refine vcLoop_of (fun k : Nat => bs.length - k) (fun k => [(3, .int .i64 (beval 0 (bs.take k) : Nat)), (6, .slice A bs.length c), (7, .int .i64 bs.length), (8, .int .i64 k)]) (fun _ => []) (fun _ => MT) (fun k => k ≤ bs.length) 0 (Nat.zero_le _)
    ⟨rfl, rfl, rfl, rfl, trivial⟩ ⟨_, .nil⟩ (fun _ _ => trivial) ?_
  intro k hk
  refine vcIf_dec (fun hlt => ?_) (fun hge => ?_)
  · have hk' : k < bs.length := by omega
    have hle : beval 0 (bs.take (k + 1)) ≤ beval 0 bs := by
      have e : bs = bs.take (k + 1) ++ bs.drop (k + 1) := (List.take_append_drop _ _).symm
      generalize bs.take (k + 1) = x at e ⊢
      generalize bs.drop (k + 1) = y at e
      subst e
      rw [beval_append]
      exact beval_ge y _
    have hs : beval 0 (bs.take (k + 1)) = beval 0 (bs.take k) * 256 + bs[k].toNat := by rw [take_snoc_get hk', beval_snoc]
    have hx := bs[k].toNat_lt
    refine vcIdx_nat k rfl (Ent.gnG h1) hk' (by rw [Bs_length]; omega) (fun a ha => ?_)
    have h1' : Ent G (RowAt (some a) (Bs bs)) := ha ▸ h1
    refine vcLoad1_row (v := .int .u8 bs[k].toNat) (Ent.gnG h1') (Bs_get hk') ?_
    refine vcShl_lit 8 rfl (by decide) ?_
    refine vcFit_i64 (by omega) ?_
    refine vcFit_i64 (by omega) ?_
    have hor : bitI .or .i64 ((beval 0 (bs.take k) : Nat) * 2 ^ 8 : Int) (bs[k].toNat : Int) = ((beval 0 (bs.take (k + 1)) : Nat) : Int) := by
      rw [hs, show ((beval 0 (bs.take k) : Nat) * 2 ^ 8 : Int) = ((beval 0 (bs.take k) * 2 ^ 8 : Nat) : Int) from by omega, bitI_or (by rw [max_i64]; omega) (by rw [max_i64]; omega), or_low _ _ _ (by omega)]
    refine vcBit_as _ hor ?_
    refine vcFit_i64 (by omega) ?_
    exact ⟨k + 1, by omega, by omega, ⟨rfl, rfl, rfl, rfl, trivial⟩, ⟨_, .nil⟩, fun _ _ => trivial⟩
  · have hk' : k = bs.length := by omega
    subst hk'
    rw [List.take_length]
    exact ⟨[], _, MT, .nil, fun _ _ _ => trivial, rfl, rfl, rfl⟩
theorem rvalue_spec (A : Option Addr) (c : Nat) (bs : List UInt8) (G : Mp) (h1 : Ent G (RowAt A (Bs bs))) (h7 : beval 0 bs < 4611686018427387904) (hl : bs.length ≤ 100) :
    Spec Try.prog 28 #[.slice A bs.length c] [] G (Ret (.int .i64 (beval 0 bs : Nat))) := by
  refine Spec.intro (args := [_]) wide Try.func28 rfl Try.call28 (by rfl) (by rfl) (fun w0 hw0 => ?_)
  refine vcLoop_of (fun k : Nat => bs.length - k) (fun k => [(0, .slice A bs.length c), (3, .int .i64 (beval 0 (bs.take k) : Nat)), (4, .int .i64 k)]) (fun _ => []) (fun _ => MT) (fun k => k ≤ bs.length) 0 (Nat.zero_le _)
    ⟨rfl, rfl, rfl, trivial⟩ ⟨_, .nil⟩ (fun _ _ => trivial) ?_
  intro k hk
  refine vcIf_dec (fun hlt => ?_) (fun hge => ?_)
  · have hk' : k < bs.length := by omega
    have hle : beval 0 (bs.take (k + 1)) ≤ beval 0 bs := by
      have e : bs = bs.take (k + 1) ++ bs.drop (k + 1) := (List.take_append_drop _ _).symm
      generalize bs.take (k + 1) = x at e ⊢
      generalize bs.drop (k + 1) = y at e
      subst e
      rw [beval_append]
      exact beval_ge y _
    have hs : beval 0 (bs.take (k + 1)) = beval 0 (bs.take k) * 256 + bs[k].toNat := by rw [take_snoc_get hk', beval_snoc]
    have hx := bs[k].toNat_lt
    refine vcFit_i64 (by omega) ?_
    refine vcIdx_nat k rfl (Ent.gnG h1) hk' (by rw [Bs_length]; omega) (fun a ha => ?_)
    have h1' : Ent G (RowAt (some a) (Bs bs)) := ha ▸ h1
    refine vcLoad1_row (v := .int .u8 bs[k].toNat) (Ent.gnG h1') (Bs_get hk') ?_
    refine vcFit_i64 (by omega) ?_
    refine vcFit_i64 (by omega) ?_
    refine vcFit_i64 (by omega) ?_
    refine ⟨k + 1, by omega, by omega, ⟨rfl, ?_, rfl, trivial⟩, ⟨_, .nil⟩, fun _ _ => trivial⟩
    rw [hs, Int.natCast_add, Int.natCast_mul]; rfl
  · have hk' : k = bs.length := by omega
    subst hk'
    rw [List.take_length]
    exact ⟨[], _, MT, .nil, fun _ _ _ => trivial, rfl, rfl, rfl⟩
theorem rnumber_spec (m s : Nat) (hm : m < 4611686018427387904) (h8 : s ≤ 8) (G : Mp) : Spec Try.prog 27 #[.int .i64 m, .int .i64 s] [] G (OwnB (be s m)) := by
  refine Spec.intro (args := [_, _]) wide Try.func27 rfl Try.call27 (by rfl) (by rfl) (fun w0 hw0 => ?_)
  refine vcMk_nat s rfl rfl (by omega) (by omega) (fun b => ?_)
  rw [Bs_zeros]
  refine vcFit_i64 (by omega) ?_
  refine vcLoop_of (fun g : Nat × Nat × List UInt8 => g.1) (fun g => [(0, .int .i64 g.2.1), (5, .slice (some ⟨b, 0, none⟩) s s), (6, .int .i64 ((g.1 : Int) - 1))])
    (fun g => [.sl (some ⟨b, 0, none⟩) s 5 1 (Bs (List.replicate g.1 0 ++ g.2.2))]) (fun _ => MT)
    (fun g => g.1 ≤ s ∧ g.2.1 ≤ 4611686018427387903 ∧ g.2.2.length + g.1 = s ∧ be s m = be g.1 g.2.1 ++ g.2.2) (s, m, []) ⟨Nat.le_refl _, by simp only; omega, by simp, by simp⟩
    ⟨rfl, rfl, rfl, trivial⟩ ⟨_, .cons (by rw [List.append_nil]; exact .here) .nil⟩ (fun _ _ => trivial) ?_
  rintro ⟨k, x, T⟩ ⟨hk1, hk2, hk3, hk4⟩
  simp only at hk1 hk2 hk3 hk4
  refine vcIf_dec (fun h4 => ?_) (fun h4 => ?_)
  · obtain ⟨j, rfl⟩ : ∃ j, k = j + 1 := ⟨k - 1, by omega⟩
    refine vcRem_pos (by omega) ?_
    refine vcFit_u8_in (by omega) ?_
    have hjj : ((j + 1 : Nat) : Int) - 1 = j := by omega
    simp only [hjj]
    refine vcIdx_row (Ent.gnO .here fun w hw => Ob.sl_at hw) ⟨by omega, by omega⟩ (by rw [Bs_length, List.length_append, List.length_replicate]; omega) (fun a ha => ?_)
    cases ha
    refine vcStore1_of _ _ ⟨b, 0, none⟩ j .here rfl rfl (by simp only [Ob.cells]; rw [Bs_length, List.length_append]; simp; omega) rfl ?_
    refine vcQuo_i64 (by omega) ?_
    refine vcFit_i64 (by omega) ?_
    refine ⟨(j, x / 256, UInt8.ofNat (x % 256) :: T), ⟨by simp only; omega, by simp only; omega, by simp; omega, ?_⟩, by simp only; omega, ⟨?_, rfl, rfl, trivial⟩, ⟨[], .cons ?_ .nil⟩, fun _ _ => trivial⟩
    · rw [hk4, be]; simp
    · rfl
    · have e : (Value.int .u8 ((x : Int) % 256)) = B (UInt8.ofNat (x % 256)) := by
        unfold B; rw [ofNat_toNat _ (by omega)]; rfl
      simp only [Ob.set, e, set_rep]
      exact .here
  · have hk0 : k = 0 := by omega
    subst hk0
    have hT : T = be s m := by rw [hk4]; rfl
    subst hT
    exact ⟨_, _, MT, .cons .here .nil, fun _ _ _ => trivial, _, s, by rw [be_length]; rfl, rfl, rfl, by rw [be_length]; exact Nat.le_refl _⟩
end Go.Proofs.Ytnhkeghahiedfaa
