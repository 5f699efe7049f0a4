/- Readers: what their calls do, the program's and the reference's. -/
import Derived.Test.YtaknehiifafhfaaVarM
namespace Go.Proofs.Ytaknehiifafhfaa
open Go.Proofs
set_option maxRecDepth 10000

def rdV (A : Option Addr) (c n : Nat) (at_ : Nat) (f : Int) : List Value := [.slice A n c, .int .i64 at_, .int .i64 f]
/-- A number's call: what it answers, the place and the fault behind it. -/
def rnum (bs : List UInt8) (s : Nat × Int) : Int × (Nat × Int) := if s.2 ≠ 0 then (0, s) else if (vget bs s.1).2.2 ≠ 0 then (0, (s.1, (vget bs s.1).2.2)) else ((vget bs s.1).1, ((vget bs s.1).2.1.toNat, 0))
def rbytes (bs : List UInt8) (n : Int) (s : Nat × Int) : List UInt8 × (Nat × Int) :=
  if s.2 ≠ 0 then ([], s) else if n < 0 then ([], (s.1, 10)) else if (bs.length : Int) - s.1 < n then ([], (s.1, 12)) else ((bs.drop s.1).take n.toNat, (s.1 + n.toNat, 0))
def rleft (bs : List UInt8) (s : Nat × Int) : Int := if s.2 ≠ 0 then 0 else (bs.length : Int) - s.1
def rbyte (bs : List UInt8) (s : Nat × Int) : Int × (Nat × Int) := ((match (rbytes bs 1 s).1 with | [] => 0 | b :: _ => (b.toNat : Int)), (rbytes bs 1 s).2)
theorem vget_cases (bs : List UInt8) (p : Nat) (hp : p ≤ bs.length) : (∃ e : Int, vget bs p = (0, 0, e) ∧ e ≠ 0) ∨ ∃ n en : Nat, vget bs p = ((n : Int), (en : Int), 0) ∧ en ≤ bs.length := by
  cases h : bs.drop p with
  | nil => exact .inl ⟨12, vget_end hp h, by decide⟩
  | cons b r =>
    by_cases hs : r.length + 1 < 2 ^ (b.toNat / 64)
    · exact .inl ⟨12, vget_short hp h hs, by decide⟩
    · have hl := congrArg List.length h
      rw [List.length_drop, List.length_cons] at hl
      exact .inr ⟨_, p + 2 ^ (b.toNat / 64), vget_ok hp h hs, by omega⟩
theorem rnum_le (bs : List UInt8) (s : Nat × Int) (hs : s.1 ≤ bs.length) : (rnum bs s).2.1 ≤ bs.length := by
  unfold rnum
  split
  · exact hs
  · split
    · exact hs
    · rcases vget_cases bs s.1 hs with ⟨e, h, hne⟩ | ⟨n, en, h, hle⟩
      · rename_i hh; rw [h] at hh; exact absurd hne hh
      · rw [h]; simpa using hle
theorem rbytes_le (bs : List UInt8) (n : Int) (s : Nat × Int) (hs : s.1 ≤ bs.length) : (rbytes bs n s).2.1 ≤ bs.length := by
  unfold rbytes
  split
  · exact hs
  · split
    · exact hs
    · split
      · exact hs
      · simp only; omega
theorem rnum_fault {bs : List UInt8} {p : Nat} {f : Int} (h : f ≠ 0) : rnum bs (p, f) = (0, (p, f)) := if_pos h
theorem rnum_no {bs : List UInt8} {p : Nat} {e : Int} (h : vget bs p = (0, 0, e)) (he : e ≠ 0) : rnum bs (p, 0) = (0, (p, e)) := by unfold rnum; simp [h, he]
theorem rnum_ok {bs : List UInt8} {p n en : Nat} (h : vget bs p = ((n : Int), (en : Int), 0)) : rnum bs (p, 0) = ((n : Int), (en, 0)) := by unfold rnum; simp [h]
/-- What a reader's call leaves. -/
def RdPost (T : TypeId) (b : Nat) (A : Option Addr) (c n : Nat) (u : Value) (s : Nat × Int) (v : Value) (own : List Ob) (N : Mp) : Prop := v = u ∧ own = [.row b T (rdV A c n s.1 s.2) 3] ∧ N = MT
def RdPostB (T : TypeId) (b : Nat) (A : Option Addr) (c n : Nat) (bs : List UInt8) (s : Nat × Int) (v : Value) (own : List Ob) (N : Mp) : Prop := ∃ A' c', v = .slice A' bs.length c' ∧ own = [.sl A' c' 5 1 (Bs bs), .row b T (rdV A c n s.1 s.2) 3] ∧ N = MT ∧ bs.length ≤ c'

theorem number_spec (b : Nat) (A : Option Addr) (c : Nat) (bs : List UInt8) (p : Nat) (f : Int) (G : Mp) (h1 : Ent G (RowAt A (Bs bs))) (hc : bs.length ≤ c) (hm : bs.length ≤ 211106232532992) (hp : p ≤ bs.length) :
    Spec Try.prog 26 #[.pointer (some ⟨b, 0, none⟩)] [.row b 87 (rdV A c bs.length p f) 3] G (RdPost 87 b A c bs.length (.int .i64 (rnum bs (p, f)).1) (rnum bs (p, f)).2) := by
  refine Spec.intro (args := [_]) wide Try.func26 rfl Try.call26 (by rfl) (by rfl) (fun w0 hw0 => ?_)
  refine vcLoad1_row (j := 2) (v := .int .i64 f) (Ent.gnO .here (fun w hw => Ob.row_at hw)) rfl ?_
  refine vcIf_ndec (fun hf => ?_) (fun hf => ?_)
  · rw [rnum_fault hf]
    exact ⟨_, [], MT, .cons .here .nil, fun _ _ _ => trivial, rfl, rfl, rfl⟩
  subst hf
  refine vcDraw_mix [0,1,2,3,4,5,6,7,8,9,10,11,12,13,14,15] (RowAt (some ⟨b, 0, none⟩) (rdV A c bs.length p 0)) (by kernel_rfl) (Ent.gnO .here (fun w hw => Ob.row_at hw)) ?_
  refine vcLoad1_row (j := 0) (v := .slice A bs.length c) Ent.refl rfl ?_
  refine vcLoad1_row (j := 1) (v := .int .i64 p) Ent.refl rfl ?_
  refine vcCall_of .nil (get_spec A c bs p _ (Ent.gnG h1) hc (by omega)) (fun v own' N' hv => ?_); obtain ⟨rfl, rfl, rfl⟩ := hv
  refine vcMix_same (Ent.gnO .here (fun w hw => Ob.row_at hw)) ?_
  rcases vget_cases bs p hp with ⟨e, h, hne⟩ | ⟨n, en, h, hle⟩
  · rw [h, rnum_no h hne]
    refine vcIf_nyes hne ?_
    refine vcStore1_1 _ _ .here rfl (show (2 : Nat) < 3 by decide) rfl ?_
    exact ⟨_, [], MT, .cons .here .nil, fun _ _ _ => trivial, rfl, rfl, rfl⟩
  · rw [h, rnum_ok h]
    refine vcStore1_1 _ _ .here rfl (show (1 : Nat) < 3 by decide) rfl ?_
    exact ⟨_, [], MT, .cons .here .nil, fun _ _ _ => trivial, rfl, rfl, rfl⟩
theorem left_spec (b : Nat) (A : Option Addr) (c : Nat) (bs : List UInt8) (p : Nat) (f : Int) (G : Mp) (hm : bs.length ≤ 211106232532992) (hp : p ≤ bs.length) :
    Spec Try.prog 24 #[.pointer (some ⟨b, 0, none⟩)] [.row b 87 (rdV A c bs.length p f) 3] G (RdPost 87 b A c bs.length (.int .i64 (rleft bs (p, f))) (p, f)) := by
  refine Spec.intro (args := [_]) wide Try.func24 rfl Try.call24 (by rfl) (by rfl) (fun w0 hw0 => ?_)
  refine vcLoad1_row (j := 2) (v := .int .i64 f) (Ent.gnO .here (fun w hw => Ob.row_at hw)) rfl ?_
  refine vcIf_ndec (fun hf => ?_) (fun hf => ?_)
  · rw [show rleft bs (p, f) = 0 from if_pos hf]
    exact ⟨_, [], MT, .cons .here .nil, fun _ _ _ => trivial, rfl, rfl, rfl⟩
  rw [show rleft bs (p, f) = (bs.length : Int) - p from if_neg (by simpa using hf)]
  refine vcDraw_quiet (by kernel_rfl) ?_
  refine vcLoad1_row (j := 0) (v := .slice A bs.length c) (Ent.gnO .here (fun w hw => Ob.row_at hw)) rfl ?_
  refine vcLoad1_row (j := 1) (v := .int .i64 p) (Ent.gnO .here (fun w hw => Ob.row_at hw)) rfl ?_
  refine vcFit_i64 (by omega) ?_
  exact ⟨_, [], MT, .cons .here .nil, fun _ _ _ => trivial, rfl, rfl, rfl⟩

theorem rnumber_spec (b : Nat) (A : Option Addr) (c : Nat) (bs : List UInt8) (p : Nat) (f : Int) (G : Mp) (h1 : Ent G (RowAt A (Bs bs))) (_hc : bs.length ≤ c) (hm : bs.length ≤ 211106232532992) (hp : p ≤ bs.length) :
    Spec Try.prog 31 #[.pointer (some ⟨b, 0, none⟩)] [.row b 63 (rdV A c bs.length p f) 3] G (RdPost 63 b A c bs.length (.int .i64 (rnum bs (p, f)).1) (rnum bs (p, f)).2) := by
  refine Spec.intro (args := [_]) wide Try.func31 rfl Try.call31 (by rfl) (by rfl) (fun w0 hw0 => ?_)
  refine vcLoad1_row (j := 2) (v := .int .i64 f) (Ent.gnO .here (fun w hw => Ob.row_at hw)) rfl ?_
  refine vcIf_ndec (fun hf => ?_) (fun hf => ?_)
  · rw [rnum_fault hf]
    exact ⟨_, [], MT, .cons .here .nil, fun _ _ _ => trivial, rfl, rfl, rfl⟩
  subst hf
  refine vcDraw_mix [0,1,2,3,4,5,6,7,8,9,10,11,12,13,14,15] (RowAt (some ⟨b, 0, none⟩) (rdV A c bs.length p 0)) (by kernel_rfl) (Ent.gnO .here (fun w hw => Ob.row_at hw)) ?_
  refine vcLoad1_row (j := 0) (v := .slice A bs.length c) Ent.refl rfl ?_
  refine vcLoad1_row (j := 1) (v := .int .i64 p) Ent.refl rfl ?_
  refine vcCall_of .nil (rget_spec A c bs p _ (Ent.gnG h1) (by omega)) (fun v own' N' hv => ?_); obtain ⟨rfl, rfl, rfl⟩ := hv
  refine vcMix_same (Ent.gnO .here (fun w hw => Ob.row_at hw)) ?_
  rcases vget_cases bs p hp with ⟨e, h, hne⟩ | ⟨n, en, h, hle⟩
  · rw [h, rnum_no h hne]
    refine vcIf_nyes hne ?_
    refine vcStore1_1 _ _ .here rfl (show (2 : Nat) < 3 by decide) rfl ?_
    exact ⟨_, [], MT, .cons .here .nil, fun _ _ _ => trivial, rfl, rfl, rfl⟩
  · rw [h, rnum_ok h]
    refine vcStore1_1 _ _ .here rfl (show (1 : Nat) < 3 by decide) rfl ?_
    exact ⟨_, [], MT, .cons .here .nil, fun _ _ _ => trivial, rfl, rfl, rfl⟩
theorem rleft_spec (b : Nat) (A : Option Addr) (c : Nat) (bs : List UInt8) (p : Nat) (f : Int) (G : Mp) (hm : bs.length ≤ 211106232532992) (hp : p ≤ bs.length) :
    Spec Try.prog 30 #[.pointer (some ⟨b, 0, none⟩)] [.row b 63 (rdV A c bs.length p f) 3] G (RdPost 63 b A c bs.length (.int .i64 (rleft bs (p, f))) (p, f)) := by
  refine Spec.intro (args := [_]) wide Try.func30 rfl Try.call30 (by rfl) (by rfl) (fun w0 hw0 => ?_)
  refine vcLoad1_row (j := 2) (v := .int .i64 f) (Ent.gnO .here (fun w hw => Ob.row_at hw)) rfl ?_
  refine vcIf_ndec (fun hf => ?_) (fun hf => ?_)
  · rw [show rleft bs (p, f) = 0 from if_pos hf]
    exact ⟨_, [], MT, .cons .here .nil, fun _ _ _ => trivial, rfl, rfl, rfl⟩
  rw [show rleft bs (p, f) = (bs.length : Int) - p from if_neg (by simpa using hf)]
  refine vcDraw_quiet (by kernel_rfl) ?_
  refine vcLoad1_row (j := 0) (v := .slice A bs.length c) (Ent.gnO .here (fun w hw => Ob.row_at hw)) rfl ?_
  refine vcLoad1_row (j := 1) (v := .int .i64 p) (Ent.gnO .here (fun w hw => Ob.row_at hw)) rfl ?_
  refine vcFit_i64 (by omega) ?_
  exact ⟨_, [], MT, .cons .here .nil, fun _ _ _ => trivial, rfl, rfl, rfl⟩

theorem at_spec (b : Nat) (A : Option Addr) (c n : Nat) (p : Nat) (f : Int) (G : Mp) :
    Spec Try.prog 25 #[.pointer (some ⟨b, 0, none⟩)] [.row b 87 (rdV A c n p f) 3] G (RdPost 87 b A c n (.int .i64 p) (p, f)) := by
  refine Spec.intro (args := [_]) wide Try.func25 rfl Try.call25 (by rfl) (by rfl) (fun w0 hw0 => ?_)
  refine vcLoad1_row (j := 1) (v := .int .i64 p) (Ent.gnO .here (fun w hw => Ob.row_at hw)) rfl ?_
  exact ⟨_, [], MT, .cons .here .nil, fun _ _ _ => trivial, rfl, rfl, rfl⟩
theorem fault_spec (b : Nat) (A : Option Addr) (c n : Nat) (p : Nat) (f : Int) (G : Mp) :
    Spec Try.prog 28 #[.pointer (some ⟨b, 0, none⟩)] [.row b 87 (rdV A c n p f) 3] G (RdPost 87 b A c n (.int .i64 f) (p, f)) := by
  refine Spec.intro (args := [_]) wide Try.func28 rfl Try.call28 (by rfl) (by rfl) (fun w0 hw0 => ?_)
  refine vcLoad1_row (j := 2) (v := .int .i64 f) (Ent.gnO .here (fun w hw => Ob.row_at hw)) rfl ?_
  exact ⟨_, [], MT, .cons .here .nil, fun _ _ _ => trivial, rfl, rfl, rfl⟩
theorem vopen_spec (A : Option Addr) (c : Nat) (bs : List UInt8) (G : Mp) (h1 : Ent G (RowAt A (Bs bs))) (hx : bs.length ≤ 211106232532992) :
    Spec Try.prog 23 #[.slice A bs.length c] [] G (fun v own N => ∃ b A' c', v = .pointer (some ⟨b, 0, none⟩) ∧ own = [.row b 87 (rdV A' c' bs.length 0 0) 3, .sl A' c' 5 1 (Bs bs)] ∧ N = MT ∧ bs.length ≤ c') := by
  refine Spec.intro (args := [_]) wide Try.func23 rfl Try.call23 (by rfl) (by rfl) (fun w0 hw0 => ?_)
  refine vcCall_of .nil (clone_spec A c bs _ (Ent.gnG h1) hx) (fun v own' N' hv => ?_); obtain ⟨A1, c1, rfl, rfl, rfl, hc1⟩ := hv
  intro b
  exact ⟨_, [], MT, .cons .here (.cons .here .nil), fun _ _ _ => trivial, b, A1, c1, rfl, rfl, rfl, hc1⟩

theorem rbytes_fault {bs : List UInt8} {n : Int} {p : Nat} {f : Int} (h : f ≠ 0) : rbytes bs n (p, f) = ([], (p, f)) := if_pos h
theorem rbytes_neg {bs : List UInt8} {n : Int} {p : Nat} (h : n < 0) : rbytes bs n (p, 0) = ([], (p, 10)) := by unfold rbytes; simp [h]
theorem rbytes_short {bs : List UInt8} {n : Int} {p : Nat} (h : ¬ n < 0) (h' : (bs.length : Int) - p < n) : rbytes bs n (p, 0) = ([], (p, 12)) := by unfold rbytes; simp [h, h']
theorem rbytes_ok {bs : List UInt8} {n p : Nat} (h' : ¬ (bs.length : Int) - p < n) : rbytes bs n (p, 0) = ((bs.drop p).take n, (p + n, 0)) := by
  unfold rbytes
  rw [if_neg (by simp), if_neg (by omega), if_neg h']
  simp
theorem bytes_spec (b : Nat) (A : Option Addr) (c : Nat) (bs : List UInt8) (n : Int) (p : Nat) (f : Int) (G : Mp) (h1 : Ent G (RowAt A (Bs bs))) (hc : bs.length ≤ c) (hm : bs.length ≤ 211106232532992) (hp : p ≤ bs.length) :
    Spec Try.prog 27 #[.pointer (some ⟨b, 0, none⟩), .int .i64 n] [.row b 87 (rdV A c bs.length p f) 3] G (RdPostB 87 b A c bs.length (rbytes bs n (p, f)).1 (rbytes bs n (p, f)).2) := by
  refine Spec.intro (args := [_, _]) wide Try.func27 rfl Try.call27 (by rfl) (by rfl) (fun w0 hw0 => ?_)
  refine vcLoad1_row (j := 2) (v := .int .i64 f) (Ent.gnO .here (fun w hw => Ob.row_at hw)) rfl ?_
  refine vcIf_ndec (fun hf => ?_) (fun hf => ?_)
  · rw [rbytes_fault hf]
    exact ⟨_, [], MT, .cons .none_ (.cons .here .nil), fun _ _ _ => trivial, none, 0, rfl, rfl, rfl, Nat.le_refl _⟩
  subst hf
  refine vcIf_dec (fun hn => ?_) (fun hn => ?_)
  · rw [rbytes_neg hn]
    refine vcStore1_1 _ _ .here rfl (show (2 : Nat) < 3 by decide) rfl ?_
    exact ⟨_, [], MT, .cons .none_ (.cons .here .nil), fun _ _ _ => trivial, none, 0, rfl, rfl, rfl, Nat.le_refl _⟩
  obtain ⟨n, rfl⟩ := Int.eq_ofNat_of_zero_le (show 0 ≤ n by omega)
  refine vcCall_of (.cons .here .nil) (left_spec b A c bs p 0 _ (by omega) hp) (fun v own' N' hv => ?_)
  obtain ⟨rfl, rfl, rfl⟩ := hv
  rw [show rleft bs (p, 0) = (bs.length : Int) - p from if_neg (by simp)]
  refine vcIf_dec (fun hs => ?_) (fun hs => ?_)
  · rw [rbytes_short hn hs]
    refine vcStore1_1 _ _ .here rfl (show (2 : Nat) < 3 by decide) rfl ?_
    exact ⟨_, [], MT, .cons .none_ (.cons .here .nil), fun _ _ _ => trivial, none, 0, rfl, rfl, rfl, Nat.le_refl _⟩
  rw [rbytes_ok hs]
  refine vcLoad1_row (j := 1) (v := .int .i64 p) (Ent.gnO .here (fun w hw => Ob.row_at hw)) rfl ?_
  refine vcFit_i64 (by omega) ?_
  rw [show (p : Int) + n = ((p + n : Nat) : Int) from by omega]
  refine vcStore1_1 _ _ .here rfl (show (1 : Nat) < 3 by decide) rfl ?_
  refine vcDraw_mix [0,1,2,3,4,5,6,7,8,9,10,11,12,13,14,15,16] (RowAt (some ⟨b, 0, none⟩) (rdV A c bs.length (p + n) 0)) (by kernel_rfl) (Ent.gnO .here (fun w hw => Ob.row_at hw)) ?_
  refine vcLoad1_row (j := 0) (v := .slice A bs.length c) Ent.refl rfl ?_
  refine vcLoad1_row (j := 1) (v := .int .i64 (p + n : Nat)) Ent.refl rfl ?_
  refine vcFit_i64 (by omega) ?_
  refine vcLoad1_row (j := 1) (v := .int .i64 (p + n : Nat)) Ent.refl rfl ?_
  have hl : ((bs.drop p).take n).length = n := by rw [List.length_take, List.length_drop]; omega
  refine vcSlice3_as p n (c - p) (by omega) (by omega) (by omega) (by omega) (by omega) (fun A' hA' => ?_)
  have hrow : Ent G (RowAt A' (Bs ((bs.drop p).take n))) := h1.mono fun w hw => hw.bytes hA' (by omega) (by rw [hl])
  generalize (bs.drop p).take n = q at hl hrow ⊢
  subst hl
  refine vcCall_of .nil (clone_spec A' (c - p) q _ (Ent.gnG hrow) (by omega)) (fun v own' N' hv => ?_); obtain ⟨A1, c1, rfl, rfl, rfl, hc1⟩ := hv
  refine vcMix_same (Ent.gnO (.there .here) (fun w hw => Ob.row_at hw)) ?_
  exact ⟨_, [], MT, .cons .here (.cons .here .nil), fun _ _ _ => trivial, A1, c1, rfl, rfl, rfl, hc1⟩
theorem rrbytes_spec (b : Nat) (A : Option Addr) (c : Nat) (bs : List UInt8) (n : Int) (p : Nat) (f : Int) (G : Mp) (h1 : Ent G (RowAt A (Bs bs))) (hc : bs.length ≤ c) (hm : bs.length ≤ 211106232532992) (hp : p ≤ bs.length) :
    Spec Try.prog 32 #[.pointer (some ⟨b, 0, none⟩), .int .i64 n] [.row b 63 (rdV A c bs.length p f) 3] G (RdPostB 63 b A c bs.length (rbytes bs n (p, f)).1 (rbytes bs n (p, f)).2) := by
  refine Spec.intro (args := [_, _]) wide Try.func32 rfl Try.call32 (by rfl) (by rfl) (fun w0 hw0 => ?_)
  refine vcLoad1_row (j := 2) (v := .int .i64 f) (Ent.gnO .here (fun w hw => Ob.row_at hw)) rfl ?_
  refine vcIf_ndec (fun hf => ?_) (fun hf => ?_)
  · rw [rbytes_fault hf]
    exact ⟨_, [], MT, .cons .none_ (.cons .here .nil), fun _ _ _ => trivial, none, 0, rfl, rfl, rfl, Nat.le_refl _⟩
  subst hf
  refine vcIf_dec (fun hn => ?_) (fun hn => ?_)
  · rw [rbytes_neg hn]
    refine vcStore1_1 _ _ .here rfl (show (2 : Nat) < 3 by decide) rfl ?_
    exact ⟨_, [], MT, .cons .none_ (.cons .here .nil), fun _ _ _ => trivial, none, 0, rfl, rfl, rfl, Nat.le_refl _⟩
  obtain ⟨n, rfl⟩ := Int.eq_ofNat_of_zero_le (show 0 ≤ n by omega)
  refine vcDraw_quiet (by kernel_rfl) ?_
  refine vcLoad1_row (j := 0) (v := .slice A bs.length c) (Ent.gnO .here (fun w hw => Ob.row_at hw)) rfl ?_
  refine vcLoad1_row (j := 1) (v := .int .i64 p) (Ent.gnO .here (fun w hw => Ob.row_at hw)) rfl ?_
  refine vcFit_i64 (by omega) ?_
  refine vcIf_dec (fun hs => ?_) (fun hs => ?_)
  · rw [rbytes_short hn hs]
    refine vcStore1_1 _ _ .here rfl (show (2 : Nat) < 3 by decide) rfl ?_
    exact ⟨_, [], MT, .cons .none_ (.cons .here .nil), fun _ _ _ => trivial, none, 0, rfl, rfl, rfl, Nat.le_refl _⟩
  rw [rbytes_ok hs]
  refine vcDraw_mix [0,1,2,3,4,5,6,7,8,9,10,11,12,13,14,15,16] (RowAt (some ⟨b, 0, none⟩) (rdV A c bs.length p 0)) (by kernel_rfl) (Ent.gnO .here (fun w hw => Ob.row_at hw)) ?_
  refine vcLoad1_row (j := 0) (v := .slice A bs.length c) Ent.refl rfl ?_
  refine vcLoad1_row (j := 1) (v := .int .i64 p) Ent.refl rfl ?_
  refine vcLoad1_row (j := 1) (v := .int .i64 p) Ent.refl rfl ?_
  refine vcFit_i64 (by omega) ?_
  have hl : ((bs.drop p).take n).length = n := by rw [List.length_take, List.length_drop]; omega
  refine vcSlice3_as p n (c - p) (by omega) (by omega) (by omega) (by omega) (by omega) (fun A' hA' => ?_)
  have hrow : Ent G (RowAt A' (Bs ((bs.drop p).take n))) := h1.mono fun w hw => hw.bytes hA' (by omega) (by rw [hl])
  generalize (bs.drop p).take n = q at hl hrow ⊢
  subst hl
  refine vcCall_of .nil (copy_spec A' (c - p) q _ (Ent.gnG hrow) (by omega)) (fun v own' N' hv => ?_); obtain ⟨A1, c1, rfl, rfl, rfl, hc1⟩ := hv
  refine vcMix_same (Ent.gnO (.there .here) (fun w hw => Ob.row_at hw)) ?_
  refine vcLoad1_row (j := 1) (v := .int .i64 p) (Ent.gnO (.there .here) (fun w hw => Ob.row_at hw)) rfl ?_
  refine vcFit_i64 (by omega) ?_
  rw [show (p : Int) + q.length = ((p + q.length : Nat) : Int) from by omega]
  refine vcStore1_1 _ _ (.there .here) rfl (show (1 : Nat) < 3 by decide) rfl ?_
  exact ⟨_, [], MT, .cons (.there .here) (.cons .here .nil), fun _ _ _ => trivial, A1, c1, rfl, rfl, rfl, hc1⟩
end Go.Proofs.Ytaknehiifafhfaa
