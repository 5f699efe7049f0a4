/- The reference's buffer. -/
import Derived.Test.YteomgafghiockaaReaH
namespace Go.Proofs.Yteomgafghiockaa
open Go.Proofs
set_option maxRecDepth 10000

structure Rf where
  room : Int
  off : Int
  high : Int
  known : Bool
  final : Int
  B : List UInt8
  H : List Bool
structure RfM where
  AB : Option Addr
  cB : Nat
  AH : Option Addr
  cH : Nat
abbrev boolL (l : List Bool) : List Value := l.map .bool
theorem boolL_one (l : List Bool) : ∀ v ∈ boolL l, oneCell v = true := by
  intro v hv
  rw [List.mem_map] at hv
  obtain ⟨n, _, rfl⟩ := hv
  rfl
def rfC (m : RfM) (f : Rf) : List Value := [.int .i64 f.room, .int .i64 f.off, .int .i64 f.high, .bool f.known, .int .i64 f.final, .slice m.AB f.B.length m.cB, .slice m.AH f.H.length m.cH]
def rfR (d : Nat) (m : RfM) (f : Rf) : Ob := .row d 54 (rfC m f) 7
def rfB (m : RfM) (f : Rf) : Ob := .sl m.AB m.cB 5 1 (Bs f.B)
def rfH (m : RfM) (f : Rf) : Ob := .sl m.AH m.cH 4 1 (boolL f.H)
def rfO (d : Nat) (m : RfM) (f : Rf) : List Ob := [rfR d m f, rfB m f, rfH m f]

def ltr (H : List Bool) : Nat := (H.takeWhile id).length
theorem ltr_le (H : List Bool) : ltr H ≤ H.length := List.takeWhile_sublist _ |>.length_le
theorem ltr_at {H : List Bool} {k : Nat} (h : ∀ i, i < k → H[i]? = some true) (h2 : H[k]? ≠ some true) : ltr H = k := by
  induction H generalizing k with
  | nil =>
    cases k with
    | zero => rfl
    | succ k => have := h 0 (by omega); simp at this
  | cons x r ih =>
    cases k with
    | zero =>
      have : x = false := by simpa using h2
      subst this; rfl
    | succ k =>
      have hx : x = true := by simpa using h 0 (by omega)
      subst hx
      have := ih (k := k) (fun i hi => by simpa using h (i + 1) (by omega)) (by simpa using h2)
      simp only [ltr, List.takeWhile_cons, id] at this ⊢
      simp [this]
theorem ltr_get {H : List Bool} : (∀ i, i < ltr H → H[i]? = some true) ∧ H[ltr H]? ≠ some true := by
  induction H with
  | nil => exact ⟨fun i h => by simp [ltr] at h, by simp⟩
  | cons x r ih =>
    cases x with
    | false => exact ⟨fun i h => by simp [ltr] at h, by simp [ltr]⟩
    | true =>
      have e : ltr (true :: r) = ltr r + 1 := by simp [ltr]
      rw [e]
      refine ⟨fun i h => ?_, by simpa using ih.2⟩
      cases i with
      | zero => rfl
      | succ i => simpa using ih.1 i (by omega)
def RLook (d : Nat) (m : RfM) (f : Rf) (u : Value) (v : Value) (own : List Ob) (N : Mp) : Prop := v = u ∧ own = rfO d m f ∧ N = MT
theorem pickO {a b c : Ob} : Pick [a, b, c] [a, b, c] [] := .cons .here (.cons .here (.cons .here .nil))
theorem rready_spec (d : Nat) (m : RfM) (f : Rf) (G : Mp) (hl : f.H.length ≤ 1000000000000000000) : Spec Try.prog 23 #[.pointer (some ⟨d, 0, none⟩)] (rfO d m f) G (RLook d m f (.int .i64 (ltr f.H))) := by
  refine Spec.intro (args := [_]) wide Try.func23 rfl Try.call23 (by rfl) (by rfl) (fun w0 hw0 => ?_)
  refine vcLoop_of (fun k : Nat => f.H.length - k) (fun k => [(0, .pointer (some ⟨d, 0, none⟩)), (3, .int .i64 k)]) (fun _ => rfO d m f) (fun _ => MT) (fun k => k ≤ f.H.length ∧ ∀ i, i < k → f.H[i]? = some true)
    0 ⟨Nat.zero_le _, fun i h => by omega⟩ ⟨rfl, rfl, trivial⟩ ⟨_, pickO⟩ (fun _ _ => trivial) ?_
  rintro k ⟨hk, ht⟩
  refine vcLoad1_row (j := 6) (Ent.gnO .here (fun w hw => Ob.row_at hw)) rfl ?_
  refine vcIf_dec (fun hlt => ?_) (fun hge => ?_)
  · have hk' : k < f.H.length := by omega
    refine vcLoad1_row (j := 6) (Ent.gnO .here (fun w hw => Ob.row_at hw)) rfl ?_
    refine vcIdx_nat k rfl (Ent.gnO (.there (.there .here)) (fun w hw => Ob.sl_at hw)) hk' (by simp) (fun a ha => ?_)
    refine vcLoad1_row (v := .bool f.H[k]) (Ent.gnO (.there (.there .here)) (fun w hw => ha ▸ Ob.sl_at hw)) (by simp [hk']) ?_
    refine vcIf_split (fun hp => ?_) (fun hp => ?_)
    · refine vcFit_i64 (by first | omega | (simp only; omega)) ?_
      refine ⟨k + 1, ⟨by omega, fun i hi => ?_⟩, by omega, ⟨rfl, rfl, trivial⟩, ⟨_, pickO⟩, fun _ _ => trivial⟩
      rcases Nat.lt_or_ge i k with h | h
      · exact ht i h
      · obtain rfl : i = k := by omega
        rw [List.getElem?_eq_getElem hk', hp]
    · have hk2 := ltr_at ht (by rw [List.getElem?_eq_getElem hk', hp]; simp)
      exact ⟨rfO d m f, _, MT, pickO, fun _ _ _ => trivial, congrArg (fun z : Nat => Value.int .i64 z) hk2.symm, rfl, rfl⟩
  · have hk2 := ltr_at ht (by rw [List.getElem?_eq_none (by omega)]; simp)
    exact ⟨rfO d m f, _, MT, pickO, fun _ _ _ => trivial, congrArg (fun z : Nat => Value.int .i64 z) hk2.symm, rfl, rfl⟩
theorem rheld_spec (d : Nat) (m : RfM) (f : Rf) (G : Mp) (hl : f.H.length ≤ 1000000000000000000) : Spec Try.prog 24 #[.pointer (some ⟨d, 0, none⟩)] (rfO d m f) G (RLook d m f (.int .i64 (f.H.countP id))) := by
  refine Spec.intro (args := [_]) wide Try.func24 rfl Try.call24 (by rfl) (by rfl) (fun w0 hw0 => ?_)
  refine vcLoop_of (fun k : Nat => f.H.length - k) (fun k => [(0, .pointer (some ⟨d, 0, none⟩)), (3, .int .i64 ((f.H.take k).countP id)), (4, .int .i64 k)]) (fun _ => rfO d m f) (fun _ => MT) (fun k => k ≤ f.H.length)
    0 (Nat.zero_le _) ⟨rfl, rfl, rfl, trivial⟩ ⟨_, pickO⟩ (fun _ _ => trivial) ?_
  intro k hk
  refine vcLoad1_row (j := 6) (Ent.gnO .here (fun w hw => Ob.row_at hw)) rfl ?_
  refine vcIf_dec (fun hlt => ?_) (fun hge => ?_)
  · have hk' : k < f.H.length := by omega
    have hle : (f.H.take k).countP id ≤ k := by
      have := List.countP_le_length (p := id) (l := f.H.take k)
      rw [List.length_take] at this; omega
    refine vcLoad1_row (j := 6) (Ent.gnO .here (fun w hw => Ob.row_at hw)) rfl ?_
    refine vcIdx_nat k rfl (Ent.gnO (.there (.there .here)) (fun w hw => Ob.sl_at hw)) hk' (by simp) (fun a ha => ?_)
    refine vcLoad1_row (v := .bool f.H[k]) (Ent.gnO (.there (.there .here)) (fun w hw => ha ▸ Ob.sl_at hw)) (by simp [hk']) ?_
    have hs : (f.H.take (k + 1)).countP id = (f.H.take k).countP id + (if f.H[k] then 1 else 0) := by
      rw [take_snoc_get hk', List.countP_append, List.countP_cons, List.countP_nil]; simp
    refine vcIf_split (fun hp => ?_) (fun hp => ?_)
    · rw [hp, if_pos rfl] at hs
      refine vcFit_i64 (by first | omega | (simp only; omega)) ?_
      refine vcFit_i64 (by first | omega | (simp only; omega)) ?_
      exact ⟨k + 1, by omega, by omega, ⟨rfl, by rw [hs]; rfl, rfl, trivial⟩, ⟨_, pickO⟩, fun _ _ => trivial⟩
    · rw [hp, if_neg (by decide)] at hs
      refine vcFit_i64 (by first | omega | (simp only; omega)) ?_
      exact ⟨k + 1, by omega, by omega, ⟨rfl, by rw [hs]; rfl, rfl, trivial⟩, ⟨_, pickO⟩, fun _ _ => trivial⟩
  · obtain rfl : k = f.H.length := by omega
    rw [List.take_length]
    exact ⟨rfO d m f, _, MT, pickO, fun _ _ _ => trivial, rfl, rfl, rfl⟩

/-! ### Read -/
theorem Take.cutT {A : Option Addr} {cap n : Nat} {ty : TypeId} {xs : List Value} {l : List Ob} (h1 : n ≤ xs.length) (h2 : xs.length ≤ cap) : Take (.sl (cutA A cap n 1) (cap - n) ty 1 (xs.drop n)) (.sl A cap ty 1 xs :: l) l := by
  unfold cutA
  by_cases h : n = cap
  · subst h
    rw [if_pos rfl, List.drop_eq_nil_of_le (by omega), Nat.sub_self]
    exact Take.end_
  · rw [if_neg (fun e => h e.symm)]
    have := Take.drop (A := A) (cap := cap) (ty := ty) (size := 1) (xs := xs) (l := l) n (by omega) (by omega)
    rwa [Nat.mul_one] at this ⊢
def rfRead (f : Rf) (n : Int) : List UInt8 × Bool × Rf :=
  let k := (min n (ltr f.H)).toNat
  (f.B.take k, f.known && decide (f.off + k = f.final), { f with off := f.off + k, B := f.B.drop k, H := f.H.drop k })
def RReadTo (d : Nat) (f : Rf) (n : Int) (v : Value) (own : List Ob) (N : Mp) : Prop :=
  ∃ A c m', v = .tuple #[.slice A (rfRead f n).1.length c, .bool (rfRead f n).2.1] ∧ own = .sl A c 5 1 (Bs (rfRead f n).1) :: rfO d m' (rfRead f n).2.2 ∧ N = MT
theorem rread_spec (d : Nat) (m : RfM) (f : Rf) (n : Int) (G : Mp) (hl : f.H.length ≤ 1000000000) (hB : f.B.length = f.H.length) (h0 : 0 ≤ f.off ∧ f.off ≤ 4611686018427387904) : Spec Try.prog 22 #[.pointer (some ⟨d, 0, none⟩), .int .i64 n] (rfO d m f) G (RReadTo d f n) := by
  refine Spec.introC (args := [_, _]) wide Try.func22 rfl Try.call22 (by rfl) (by rfl) [3, 8] (fun w0 hw0 => ?_)
  have hlt := ltr_le f.H
  have hcB : f.B.length ≤ m.cB := by
    have := Ob.sl_len (hw0.objs (rfB m f) (.tail _ (.head _)))
    rw [Bs_length] at this; omega
  have hcH : f.H.length ≤ m.cH := by
    have := Ob.sl_len (hw0.objs (rfH m f) (.tail _ (.tail _ (.head _))))
    rw [List.length_map] at this; omega
  refine vcCut_of (fun _ : Unit => [(0, .pointer (some ⟨d, 0, none⟩)), (1, .int .i64 (min n (ltr f.H)))]) (fun _ => rfO d m f) (fun _ => MT) (fun _ => True) ?_ ?_
  · refine vcCall_of pickO (rready_spec d m f _ (by omega)) (fun v own' N' hv => ?_)
    obtain ⟨rfl, rfl, rfl⟩ := hv
    refine vcIf_dec (fun hgt => ?_) (fun hle => ?_)
    · refine vcCall_of pickO (rready_spec d m f _ (by omega)) (fun v own' N' hv => ?_)
      obtain ⟨rfl, rfl, rfl⟩ := hv
      exact ⟨(), trivial, ⟨rfl, congrArg (fun z => some (Value.int .i64 z)) (by omega), trivial⟩, ⟨_, pickO⟩, fun _ _ => trivial⟩
    · exact ⟨(), trivial, ⟨rfl, congrArg (fun z => some (Value.int .i64 z)) (by omega), trivial⟩, ⟨_, pickO⟩, fun _ _ => trivial⟩
  intro _ _
  obtain ⟨k, hk⟩ : ∃ k : Nat, k = (min n (ltr f.H)).toNat := ⟨_, rfl⟩
  have hr : rfRead f n = (f.B.take k, f.known && decide (f.off + k = f.final), { f with off := f.off + k, B := f.B.drop k, H := f.H.drop k }) := by rw [hk]; rfl
  refine vcCut_of (fun g : (Option Addr × Nat) × RfM => [(0, .pointer (some ⟨d, 0, none⟩)), (6, .slice g.1.1 (f.B.take k).length g.1.2)]) (fun g => .sl g.1.1 g.1.2 5 1 (Bs (f.B.take k)) :: rfO d g.2 { f with off := f.off + k, B := f.B.drop k, H := f.H.drop k }) (fun _ => MT) (fun _ => True) ?_ ?_
  · refine vcIf_dec (fun hpos => ?_) (fun hneg => ?_)
    · have hkk : min n (ltr f.H : Int) = (k : Int) := by omega
      refine vcLoad1_row (j := 5) (Ent.gnO .here (fun w hw => Ob.row_at hw)) rfl ?_
      refine vcSlP0 k m.cB hkk rfl (by omega) (by omega) ?_
      refine vcApp_of [] _ (Bs (f.B.take k)) .none_ rfl (by rw [Bs_length, List.length_take]; omega) (by omega) (Bs_one _) (Ent.gnO (.there .here) fun w hw => ?_) (by omega) (by omega) (fun A2 c2 hc2 => ?_)
      · exact (Ob.sl_at hw).bytes (cap := m.cB) (l := 0) (cutA_0 ..).symm hcB (by rw [List.drop_zero, List.length_take, Nat.min_eq_left (by omega)])
      rw [List.nil_append]
      refine vcDraw_mixD [0,1,2,3,4,5,6,7,8,9,10,11,12,13,14,15,16,17,18,19] [5] (GN _ _ _) (fun w => ∃ u, RowAt (some ⟨d, 0, none⟩) [.int .i64 f.room, .int .i64 f.off, .int .i64 f.high, .bool f.known, .int .i64 f.final, u, .slice m.AH f.H.length m.cH] w) (by kernel_rfl) Ent.refl (fun w hw => ⟨_, Ob.row_at (hw.2 _ (.tail _ (.head _)))⟩) ?_
      refine vcLoad1_row (j := 5) (Ent.gnO (.there .here) (fun w hw => Ob.row_at hw)) rfl ?_
      refine vcSlPE k (f.B.length - k) (m.cB - k) hkk (by omega) (by omega) (by omega) (by omega) ?_
      rw [show k + (m.cB - k) = m.cB from by omega]
      refine vcLoad1_of (v := .slice m.AH f.H.length m.cH) (fun w hw => by
        obtain ⟨u, hu⟩ := hw
        obtain ⟨a2, ha2, hc⟩ := hu 6 _ rfl
        cases ha2
        exact hc) ?_
      refine vcSlPE k (f.H.length - k) (m.cH - k) hkk (by omega) (by omega) (by omega) (by omega) ?_
      rw [show k + (m.cH - k) = m.cH from by omega]
      refine vcStore1_1 (rfR d m f) _ (.there .here) rfl (by show (5 : Nat) < 7; decide) rfl ?_
      refine vcMix_drop (by kernel_rfl) (fun w hw => ⟨_, Ob.row_at (hw.2 _ (.head _))⟩) ?_
      refine vcStore1_1 ((rfR d m f).set (5 + 0) _) _ .here rfl (by show (6 : Nat) < 7; decide) rfl ?_
      refine vcMix_last (by kernel_rfl) ?_
      refine vcLoad1_row (j := 1) (Ent.gnO .here (fun w hw => Ob.row_at hw)) rfl ?_
      refine vcFit_i64 (by show -9223372036854775808 ≤ f.off + min n (ltr f.H : Int) ∧ f.off + min n (ltr f.H : Int) ≤ 9223372036854775807; omega) ?_
      refine vcStore1_1 (((rfR d m f).set (5 + 0) _).set (6 + 0) _) _ .here rfl (by show (1 : Nat) < 7; decide) rfl ?_
      have e1 : Bs (f.B.drop k) = (Bs f.B).drop k := by simp [Bs]
      have e2 : boolL (f.H.drop k) = (boolL f.H).drop k := by simp
      have hlen : (f.B.take k).length = 0 + k := by rw [List.length_take]; omega
      have hR : rfR d ⟨cutA m.AB m.cB k 1, m.cB - k, cutA m.AH m.cH k 1, m.cH - k⟩ { f with off := f.off + k, B := f.B.drop k, H := f.H.drop k } = .row d 54 [.int .i64 f.room, .int .i64 (f.off + min n (ltr f.H : Int)), .int .i64 f.high, .bool f.known, .int .i64 f.final, .slice (cutA m.AB m.cB k 1) (f.B.length - k) (m.cB - k), .slice (cutA m.AH m.cH k 1) (f.H.length - k) (m.cH - k)] 7 := by
        unfold rfR rfC
        rw [hkk]
        simp only [List.length_drop]
      have tB : ∀ l, Take (rfB ⟨cutA m.AB m.cB k 1, m.cB - k, cutA m.AH m.cH k 1, m.cH - k⟩ { f with off := f.off + k, B := f.B.drop k, H := f.H.drop k }) (rfB m f :: l) l := fun l => by
        unfold rfB
        simp only [e1]
        exact Take.cutT (by rw [Bs_length]; omega) (by rw [Bs_length]; omega)
      have tH : ∀ l, Take (rfH ⟨cutA m.AB m.cB k 1, m.cB - k, cutA m.AH m.cH k 1, m.cH - k⟩ { f with off := f.off + k, B := f.B.drop k, H := f.H.drop k }) (rfH m f :: l) l := fun l => by
        unfold rfH
        simp only [e2]
        exact Take.cutT (by rw [List.length_map]; omega) (by rw [List.length_map]; omega)
      exact ⟨((A2, c2), ⟨cutA m.AB m.cB k 1, m.cB - k, cutA m.AH m.cH k 1, m.cH - k⟩), trivial, ⟨rfl, by rw [hlen]; rfl, trivial⟩, ⟨[], .cons (.there .here) (.cons (Take.eq hR) (.cons (tB _) (.cons (tH _) .nil)))⟩, fun _ _ => trivial⟩
    · have hk0 : k = 0 := by omega
      clear hr hk
      subst hk0
      exact ⟨((none, 0), m), trivial, ⟨rfl, rfl, trivial⟩, ⟨_, .cons .none_ (.cons (Take.eq (by unfold rfR rfC; simp)) (.cons .here (.cons .here .nil)))⟩, fun _ _ => trivial⟩
  · rintro ⟨⟨A2, c2⟩, m2⟩ _
    have fin : ∀ (u : Bool) (own : List Ob) (N : Mp), u = (f.known && decide (f.off + k = f.final)) → (∃ rest, Pick (.sl A2 c2 5 1 (Bs (f.B.take k)) :: rfO d m2 { f with off := f.off + k, B := f.B.drop k, H := f.H.drop k }) own rest) →
        ∃ (own' rest : List Ob) (N' : Mp), Pick own' own rest ∧ (∀ w, N w → Objs rest w → N' w) ∧ RReadTo d f n (.tuple #[.slice A2 (f.B.take k).length c2, .bool u]) own' N' :=
      fun u own N hu ⟨rest, hp⟩ => ⟨_, rest, MT, hp, fun _ _ _ => trivial, A2, c2, m2, by rw [hr, hu], by rw [hr], rfl⟩
    refine vcDraw_quiet (by kernel_rfl) ?_
    refine vcLoad1_row (j := 3) (Ent.gnO (.there .here) (fun w hw => Ob.row_at hw)) rfl ?_
    refine vcIf_split (fun hkn => ?_) (fun hkn => ?_)
    · refine vcLoad1_row (j := 1) (Ent.gnO (.there .here) (fun w hw => Ob.row_at hw)) rfl ?_
      refine vcLoad1_row (j := 4) (Ent.gnO (.there .here) (fun w hw => Ob.row_at hw)) rfl ?_
      exact fin _ _ _ (by show _ = (f.known && _); have hkn' : f.known = true := hkn; rw [hkn']; simp) ⟨_, Pick.whole⟩
    · exact fin _ _ _ (by have hkn' : f.known = false := hkn; rw [hkn']; rfl) ⟨_, Pick.whole⟩
end Go.Proofs.Yteomgafghiockaa
