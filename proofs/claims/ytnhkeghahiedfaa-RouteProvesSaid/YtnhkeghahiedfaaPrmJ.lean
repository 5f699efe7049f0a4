/- The reference's masks; Expand, both. -/
import Derived.Test.YtnhkeghahiedfaaPrmI
namespace Go.Proofs.Ytnhkeghahiedfaa
open Go.Proofs
set_option maxRecDepth 10000

/-- Bytes that can be read, and an error's number. -/
def GetBE (bs : List UInt8) (e : Int) (v : Value) (own : List Ob) (N : Mp) : Prop := ∃ A cap, v = .tuple #[.slice A bs.length cap, .int .i64 e] ∧ own = [] ∧ Ent N (RowAt A (Bs bs)) ∧ bs.length ≤ cap

theorem cutA_zero (A : Option Addr) (m s : Nat) : cutA A m 0 s = A := by
  unfold cutA
  split
  · rfl
  · cases A with
    | none => rfl
    | some a => simp [add_zero]

/-- The bytes out of a secret. -/
def xblk (secret label : List UInt8) (i : Nat) : List UInt8 := dig (txt secret ++ txt label ++ [UInt8.ofNat (i % 256)])
def xall (secret label : List UInt8) (k : Nat) : List UInt8 := (List.range k).flatMap (xblk secret label)
def expandL (secret label : List UInt8) (n : Int) : List UInt8 × Int :=
  if 255 < secret.length ∨ 255 < label.length then ([], 70) else if n < 0 ∨ 1024 < n then ([], 52) else ((xall secret label ((n.toNat + 15) / 16)).take n.toNat, 0)
theorem xall_length (secret label : List UInt8) : ∀ k, (xall secret label k).length = 16 * k
  | 0 => rfl
  | k + 1 => by
    have := xall_length secret label k
    unfold xall at *
    rw [List.range_succ, List.flatMap_append, List.length_append, this]
    simp [xblk, dig_length]; omega
theorem xall_succ (secret label : List UInt8) (k : Nat) : xall secret label (k + 1) = xall secret label k ++ xblk secret label k := by
  unfold xall; rw [List.range_succ, List.flatMap_append]; simp
theorem expandL_big {secret label : List UInt8} {n : Int} (h : 255 < secret.length ∨ 255 < label.length) : expandL secret label n = ([], 70) := if_pos h
theorem expandL_huge {secret label : List UInt8} {n : Int} (h : ¬ (255 < secret.length ∨ 255 < label.length)) (h' : n < 0 ∨ 1024 < n) : expandL secret label n = ([], 52) := by unfold expandL; rw [if_neg h, if_pos h']
theorem expandL_ok {secret label : List UInt8} {n : Nat} (h : ¬ (255 < secret.length ∨ 255 < label.length)) (h' : ¬ (1024 < n)) : expandL secret label n = ((xall secret label ((n + 15) / 16)).take n, 0) := by unfold expandL; rw [if_neg h, if_neg (by omega), Int.toNat_natCast]
theorem expandL_length {secret label : List UInt8} {n : Nat} : ((xall secret label ((n + 15) / 16)).take n).length = n := by rw [List.length_take, xall_length]; omega

theorem expand_spec (As : Option Addr) (cs : Nat) (secret : List UInt8) (lab : ByteArray) (n : Int) (G : Mp) (hs : Ent G (RowAt As (Bs secret))) :
    Spec Try.prog 58 #[.slice As secret.length cs, .string lab, .int .i64 n] [] G (GetBE (expandL secret lab.data.toList n).1 (expandL secret lab.data.toList n).2) := by
  refine Spec.intro (args := [_, _, _]) wide Try.func58 rfl Try.call58 (by rfl) (by rfl) (fun w0 hw0 => ?_)
  have hll : lab.size = lab.data.toList.length := rfl
  generalize hlb : lab.data.toList = label at hll ⊢
  refine vcCall_of .nil (long_spec As cs secret.length _) (fun v own' N' hv => ?_); obtain ⟨rfl, rfl, rfl⟩ := hv
  refine vcIf_dec (fun h1 => ?_) (fun h1 => ?_)
  · rw [expandL_big (.inl h1)]
    exact ⟨[], _, MT, .nil, fun _ _ _ => trivial, none, 0, rfl, rfl, fun _ _ => RowAt.nil, Nat.le_refl _⟩
  refine vcIf_dec (fun h2 => ?_) (fun h2 => ?_)
  · rw [expandL_big (.inr (by omega))]
    exact ⟨[], _, MT, .nil, fun _ _ _ => trivial, none, 0, rfl, rfl, fun _ _ => RowAt.nil, Nat.le_refl _⟩
  have hl255 : label.length ≤ 255 := by omega
  refine vcIf_dec (fun h3 => ?_) (fun h3 => ?_)
  · rw [expandL_huge (by omega) (by omega)]
    exact ⟨[], _, MT, .nil, fun _ _ _ => trivial, none, 0, rfl, rfl, fun _ _ => RowAt.nil, Nat.le_refl _⟩
  refine vcIf_dec (fun h4 => ?_) (fun h4 => ?_)
  · rw [expandL_huge (by omega) (by omega)]
    exact ⟨[], _, MT, .nil, fun _ _ _ => trivial, none, 0, rfl, rfl, fun _ _ => RowAt.nil, Nat.le_refl _⟩
  obtain ⟨n, rfl⟩ := Int.eq_ofNat_of_zero_le (show 0 ≤ n by omega)
  rw [expandL_ok (by omega) (by omega)]
  have hfl := expandL_length (secret := secret) (label := label) (n := n)
  refine vcLoop_of (fun g : Nat × Option Addr × Nat => n + 16 - 16 * g.1) (fun g => [(0, .slice As secret.length cs), (1, .string lab), (2, .int .i64 n), (8, .slice g.2.1 (xall secret label g.1).length g.2.2), (9, .int .i64 g.1)])
    (fun g => [.sl g.2.1 g.2.2 5 1 (Bs (xall secret label g.1))]) (fun _ => MT) (fun g => 16 * g.1 < n + 16 ∧ (xall secret label g.1).length ≤ g.2.2) (0, none, 0) ⟨by omega, Nat.le_refl _⟩
    ⟨rfl, rfl, rfl, rfl, rfl, trivial⟩ ⟨_, .cons .none_ .nil⟩ (fun _ _ => trivial) ?_
  rintro ⟨k, A, c⟩ ⟨hk, hc⟩
  simp only at hk hc
  have hxl := xall_length secret label k
  refine vcIf_dec (fun hlt => ?_) (fun hge => ?_)
  · simp only at hlt
    refine vcCall_of .nil (short_spec As cs secret _ (Ent.gnG hs) (by omega)) (fun v own' N' hv => ?_); obtain ⟨A1, c1, rfl, rfl, rfl, hc1⟩ := hv
    intro bl cl hcl
    rw [hlb, hll]
    refine vcCall_of .nil (short_spec (some ⟨bl, 0, none⟩) cl label _ (Ent.gnO .here (fun w hw => Ob.sl_at hw)) (by omega)) (fun v own' N' hv => ?_); obtain ⟨A2, c2, rfl, rfl, rfl, hc2⟩ := hv
    refine vcFit_byte ?_
    intro b3 bp
    have e : pieces [(A1, c1, txt secret), (A2, c2, txt label), (some ⟨b3, 0, none⟩, 1, [byteI (k : Int)])] = txt secret ++ txt label ++ [UInt8.ofNat (k % 256)] := by simp [pieces, byteI_nat]
    have hel : (txt secret ++ txt label ++ [UInt8.ofNat (k % 256)]).length ≤ 1000 := by simp [txt]; omega
    refine vcCall_of .nil (e ▸ of_spec (some ⟨bp, 0, none⟩) 3 [(A1, c1, txt secret), (A2, c2, txt label), (some ⟨b3, 0, none⟩, 1, [byteI (k : Int)])] _ (Ent.gnO .here (fun w hw => Ob.sl_at hw)) (fun p hp => by
      simp only [List.mem_cons, List.not_mem_nil, or_false] at hp
      rcases hp with rfl | rfl | rfl
      · exact (Ent.gnO (.there (.there (.there (.there .here)))) (fun w hw => Ob.sl_at hw))
      · exact (Ent.gnO (.there (.there .here)) (fun w hw => Ob.sl_at hw))
      · exact (Ent.gnO (.there .here) (fun w hw => Ob.sl_at hw))) (by rw [e]; omega) (by simp)) (fun v own' N' hv => ?_); obtain ⟨rfl, rfl, rfl⟩ := hv
    intro bd
    have hbl : (xblk secret label k).length = 16 := dig_length _
    have hbl' : (Bs (xblk secret label k)).length = 16 := by rw [Bs_length, hbl]
    have hsn := xall_succ secret label k
    have hsl : (xall secret label (k + 1)).length = (xall secret label k).length + 16 := by rw [hsn, List.length_append, hbl]
    refine ⟨hbl', vcStoreN_row _ .here hbl' (Bs_one _) ?_⟩
    refine vcRange_of (by omega) ?_
    refine vcApp_of (Bs (xall secret label k)) _ (Bs (xblk secret label k)) (by first | exact .here | exact (.there .here) | exact (.there (.there .here)) | exact (.there (.there (.there .here))) | exact (.there (.there (.there (.there .here)))) | exact (.there (.there (.there (.there (.there .here))))) | exact (.there (.there (.there (.there (.there (.there .here)))))) | exact (.there (.there (.there (.there (.there (.there (.there .here))))))) | exact (.there (.there (.there (.there (.there (.there (.there (.there .here)))))))) | exact (.there (.there (.there (.there (.there (.there (.there (.there (.there .here))))))))) | exact (.there (.there (.there (.there (.there (.there (.there (.there (.there (.there .here)))))))))) | exact (.there (.there (.there (.there (.there (.there (.there (.there (.there (.there (.there .here))))))))))) | exact (.there (.there (.there (.there (.there (.there (.there (.there (.there (.there (.there (.there .here)))))))))))) | exact (.there (.there (.there (.there (.there (.there (.there (.there (.there (.there (.there (.there (.there .here))))))))))))) | exact (.there (.there (.there (.there (.there (.there (.there (.there (.there (.there (.there (.there (.there (.there .here)))))))))))))) | exact (.there (.there (.there (.there (.there (.there (.there (.there (.there (.there (.there (.there (.there (.there (.there .here))))))))))))))) | exact (.there (.there (.there (.there (.there (.there (.there (.there (.there (.there (.there (.there (.there (.there (.there (.there .here)))))))))))))))) | exact (.there (.there (.there (.there (.there (.there (.there (.there (.there (.there (.there (.there (.there (.there (.there (.there (.there .here))))))))))))))))) | exact .none_) (by rw [Bs_length, Nat.mul_one]) hbl' (by omega) (Bs_one _) (Ent.gnO .here (fun w hw => Ob.row_at hw)) (by simp only; show (_ + 16) * 1 ≤ _; omega) (by simp only; show _ + 16 ≤ _; omega) (fun A' c' hc' => ?_)
    refine vcFit_i64 (by omega) ?_
    refine ⟨(k + 1, A', c'), ⟨by simp only; omega, by simp only; rw [hsl]; exact hc'⟩, by simp only; omega, ⟨rfl, rfl, rfl, ?_, rfl, trivial⟩, ⟨_, .cons (by simp only [hsn, Bs_append]; exact .here) .nil⟩, fun _ _ => trivial⟩
    simp only [hsl]; rfl
  · simp only at hge
    have hk' : k = (n + 15) / 16 := by omega
    subst hk'
    refine vcSlice3_as 0 n n rfl (by omega) (by omega) (by simp only; omega) (by omega) (fun A' hA' => ?_)
    refine ⟨[], _, RowAt A' (Bs ((xall secret label ((n + 15) / 16)).take n)), .nil, fun w _ ho => ?_, A', n, by rw [hfl]; rfl, rfl, Ent.refl, by simp only [hfl]; omega⟩
    have hA : A' = A := hA'.trans (cutA_zero A _ _)
    subst hA
    rw [Bs_take]
    exact (Ob.sl_at (ho _ (List.mem_cons_self ..))).take n

end Go.Proofs.Ytnhkeghahiedfaa
