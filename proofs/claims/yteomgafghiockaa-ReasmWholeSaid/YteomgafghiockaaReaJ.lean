/- The reference's buffer: Put. -/
import Derived.Test.YteomgafghiockaaReaI
namespace Go.Proofs.Yteomgafghiockaa
open Go.Proofs
set_option maxRecDepth 10000

def padL {α : Type} (l : List α) (k : Nat) (z : α) : List α := l ++ List.replicate (k + 1 - l.length) z
theorem padL_len {α : Type} (l : List α) (k : Nat) (z : α) : (padL l k z).length = max l.length (k + 1) := by
  unfold padL; rw [List.length_append, List.length_replicate]; omega
theorem padL_done {α : Type} {l : List α} {k : Nat} {z : α} (h : k < l.length) : padL l k z = l := by
  unfold padL; rw [show k + 1 - l.length = 0 from by omega]; simp
theorem padL_step {α : Type} {l : List α} {k : Nat} {z : α} (h : l.length ≤ k) : padL (l ++ [z]) k z = padL l k z := by
  unfold padL
  rw [List.length_append, List.length_singleton, List.append_assoc]
  congr 1
  rw [show k + 1 - l.length = (k + 1 - (l.length + 1)) + 1 from by omega, List.replicate_succ]
  rfl
theorem Bs_set_at (l : List UInt8) (k : Nat) (y : UInt8) : Bs (l.set k y) = (Bs l).set k (.int .u8 y.toNat) := by unfold Bs; rw [List.map_set]; rfl
structure RS where
  B : List UInt8
  H : List Bool
  fresh : Nat
def stepR (s : RS) (k : Int) (v : UInt8) : RS :=
  if k < 0 then s
  else if (padL s.H k.toNat false).getD k.toNat false then ⟨padL s.B k.toNat 0, padL s.H k.toNat false, s.fresh⟩
  else ⟨(padL s.B k.toNat 0).set k.toNat v, (padL s.H k.toNat false).set k.toNat true, s.fresh + 1⟩
def runR : RS → Int → List UInt8 → RS
  | s, _, [] => s
  | s, k, v :: r => runR (stepR s k v) (k + 1) r
def rfCheck (f : Rf) (e : Int) (fin : Bool) : Int :=
  if (f.known = true ∧ (f.final < e ∨ (fin = true ∧ e ≠ f.final))) ∨ (f.known = false ∧ fin = true ∧ e < f.high) then 31
  else if f.off + f.room < e then 32 else 0
def rfPutOk (f : Rf) (at_ : Int) (d : List UInt8) (fin : Bool) : Rf :=
  { f with known := f.known || fin, final := if fin then at_ + d.length else f.final, high := max f.high (at_ + d.length), B := (runR ⟨f.B, f.H, 0⟩ (at_ - f.off) d).B, H := (runR ⟨f.B, f.H, 0⟩ (at_ - f.off) d).H }
def rfPut (f : Rf) (at_ : Int) (d : List UInt8) (fin : Bool) : Int × Int × Rf :=
  if at_ < 0 ∨ 4611686018427387903 - (d.length : Int) < at_ then (0, 30, f)
  else if rfCheck f (at_ + d.length) fin ≠ 0 then (0, rfCheck f (at_ + d.length) fin, f)
  else ((runR ⟨f.B, f.H, 0⟩ (at_ - f.off) d).fresh, 0, rfPutOk f at_ d fin)
def RPutTo (dd : Nat) (f : Rf) (at_ : Int) (d : List UInt8) (fin : Bool) (v : Value) (own : List Ob) (N : Mp) : Prop :=
  ∃ m', v = .tuple #[.int .i64 (rfPut f at_ d fin).1, .int .i64 (rfPut f at_ d fin).2.1] ∧ own = rfO dd m' (rfPut f at_ d fin).2.2 ∧ N = MT
structure RpS where
  i : Nat
  m : RfM
  s : RS
theorem stepR_len {s : RS} {k : Int} {v : UInt8} (h : s.B.length = s.H.length) : (stepR s k v).B.length = (stepR s k v).H.length ∧ ((stepR s k v).H.length : Int) ≤ max (s.H.length : Int) (k + 1) ∧ (stepR s k v).fresh ≤ s.fresh + 1 := by
  unfold stepR
  split
  · exact ⟨h, by omega, by omega⟩
  · split
    · simp only [padL_len]; omega
    · simp only [List.length_set, padL_len]; omega
theorem rput_spec (dd : Nat) (m : RfM) (f : Rf) (at_ : Int) (Ad : Option Addr) (cd : Nat) (d : List UInt8) (fin : Bool) (G : Mp) (hd : Ent G (RowAt Ad (Bs d))) (hdl : d.length ≤ 4611686018427387903) (hB : f.B.length = f.H.length) (hH : f.H.length ≤ 65536)
    (h0 : 0 ≤ f.off ∧ f.off ≤ 4611686018427387904) (h1 : 0 ≤ f.room ∧ f.room ≤ 65536) :
    Spec Try.prog 21 #[.pointer (some ⟨dd, 0, none⟩), .int .i64 at_, .slice Ad d.length cd, .bool fin] (rfO dd m f) G (RPutTo dd f at_ d fin) := by
  refine Spec.introC (args := [_, _, _, _]) wide Try.func21 rfl Try.call21 (by rfl) (by rfl) [6, 10, 12] (fun w0 hw0 => ?_)
  have bad : ∀ (e : Int) (own : List Ob) (N : Mp), rfPut f at_ d fin = (0, e, f) → (∃ rest, Pick (rfO dd m f) own rest) → ∃ (own' rest : List Ob) (N' : Mp), Pick own' own rest ∧ (∀ w, N w → Objs rest w → N' w) ∧ RPutTo dd f at_ d fin (.tuple #[.int .i64 0, .int .i64 e]) own' N' :=
    fun e own N he ⟨rest, hp⟩ => ⟨rfO dd m f, rest, MT, hp, fun _ _ _ => trivial, m, by rw [he], by rw [he], rfl⟩
  refine vcIf_dec (fun ha => ?_) (fun ha => ?_)
  · exact bad 30 _ _ (if_pos (.inl ha)) ⟨_, pickO⟩
  refine vcFit_i64 (by first | omega | (simp only; omega)) ?_
  refine vcIf_dec (fun ha2 => ?_) (fun ha2 => ?_)
  · exact bad 30 _ _ (if_pos (.inr ha2)) ⟨_, pickO⟩
  refine vcFit_i64 (by first | omega | (simp only; omega)) ?_
  have hput1 : rfCheck f (at_ + d.length) fin ≠ 0 → rfPut f at_ d fin = (0, rfCheck f (at_ + d.length) fin, f) := fun h => by
    unfold rfPut
    rw [if_neg (by omega), if_pos h]
  have c31 : ((f.known = true ∧ (f.final < at_ + d.length ∨ (fin = true ∧ at_ + (d.length : Int) ≠ f.final))) ∨ (f.known = false ∧ fin = true ∧ at_ + (d.length : Int) < f.high)) → rfPut f at_ d fin = (0, 31, f) := fun h => by
    have : rfCheck f (at_ + d.length) fin = 31 := if_pos h
    rw [hput1 (by rw [this]; decide), this]
  obtain ⟨room, off, high, known, final, B, H⟩ := f
  simp only at hB hH h0 h1 c31 hput1
  refine vcCut_of (fun _ : Unit => [(0, .pointer (some ⟨dd, 0, none⟩)), (1, .int .i64 at_), (2, .slice Ad d.length cd), (3, .bool fin), (10, .int .i64 (at_ + d.length))]) (fun _ => rfO dd m ⟨room, off, high, known, final, B, H⟩) (fun _ => MT)
    (fun _ => ¬ ((known = true ∧ (final < at_ + d.length ∨ (fin = true ∧ at_ + (d.length : Int) ≠ final))) ∨ (known = false ∧ fin = true ∧ at_ + (d.length : Int) < high))) ?_ ?_
  · refine vcLoad1_row (j := 3) (Ent.gnO .here (fun w hw => Ob.row_at hw)) rfl ?_
    have ok : ∀ (fm : Fm) (own : List Ob) (N : Mp), True := fun _ _ _ => trivial
    refine vcIf_split (fun hk => ?_) (fun hk => ?_)
    · have hk' : known = true := hk
      subst hk'
      refine vcLoad1_row (j := 4) (Ent.gnO .here (fun w hw => Ob.row_at hw)) rfl ?_
      refine vcIf_dec (fun hf => ?_) (fun hf => ?_)
      · exact bad 31 _ _ (c31 (.inl ⟨rfl, .inl hf⟩)) ⟨_, pickO⟩
      refine vcIf_split (fun hfin => ?_) (fun hfin => ?_)
      · subst hfin
        refine vcLoad1_row (j := 4) (Ent.gnO .here (fun w hw => Ob.row_at hw)) rfl ?_
        refine vcIf_ndec (fun hne => ?_) (fun hne => ?_)
        · exact bad 31 _ _ (c31 (.inl ⟨rfl, .inr ⟨rfl, hne⟩⟩)) ⟨_, pickO⟩
        refine vcLoad1_row (j := 3) (Ent.gnO .here (fun w hw => Ob.row_at hw)) rfl ?_
        exact ⟨(), (by rintro (⟨_, h | ⟨_, h⟩⟩ | ⟨h, _⟩); · exact hf h
                       · exact h hne
                       · cases h), ⟨rfl, rfl, rfl, rfl, rfl, trivial⟩, ⟨_, pickO⟩, fun _ _ => trivial⟩
      · subst hfin
        refine vcLoad1_row (j := 3) (Ent.gnO .here (fun w hw => Ob.row_at hw)) rfl ?_
        exact ⟨(), (by rintro (⟨_, h | ⟨h, _⟩⟩ | ⟨h, _⟩); · exact hf h
                       · cases h
                       · cases h), ⟨rfl, rfl, rfl, rfl, rfl, trivial⟩, ⟨_, pickO⟩, fun _ _ => trivial⟩
    · have hk' : known = false := hk
      subst hk'
      refine vcLoad1_row (j := 3) (Ent.gnO .here (fun w hw => Ob.row_at hw)) rfl ?_
      refine vcIf_split (fun hfin => ?_) (fun hfin => ?_)
      · subst hfin
        refine vcLoad1_row (j := 2) (Ent.gnO .here (fun w hw => Ob.row_at hw)) rfl ?_
        refine vcIf_dec (fun hh => ?_) (fun hh => ?_)
        · exact bad 31 _ _ (c31 (.inr ⟨rfl, rfl, hh⟩)) ⟨_, pickO⟩
        exact ⟨(), (by rintro (⟨h, _⟩ | ⟨_, _, h⟩); · cases h
                       · exact hh h), ⟨rfl, rfl, rfl, rfl, rfl, trivial⟩, ⟨_, pickO⟩, fun _ _ => trivial⟩
      · subst hfin
        exact ⟨(), (by rintro (⟨h, _⟩ | ⟨_, h, _⟩) <;> cases h), ⟨rfl, rfl, rfl, rfl, rfl, trivial⟩, ⟨_, pickO⟩, fun _ _ => trivial⟩
  intro _ hn31
  refine vcDraw_quiet (by kernel_rfl) ?_
  refine vcLoad1_row (j := 1) (Ent.gnO .here (fun w hw => Ob.row_at hw)) rfl ?_
  refine vcLoad1_row (j := 0) (Ent.gnO .here (fun w hw => Ob.row_at hw)) rfl ?_
  refine vcFit_i64 (by first | omega | (simp only; omega)) ?_
  have hchk : rfCheck ⟨room, off, high, known, final, B, H⟩ (at_ + d.length) fin = if off + room < at_ + d.length then 32 else 0 := if_neg hn31
  refine vcIf_dec (fun hro => ?_) (fun hro => ?_)
  · refine bad 32 _ _ ?_ ⟨_, pickO⟩
    rw [if_pos hro] at hchk
    rw [hput1 (by rw [hchk]; decide), hchk]
  rw [if_neg hro] at hchk
  have hro' : at_ + (d.length : Int) ≤ off + room := by have h9 : ¬ (off + room < at_ + (d.length : Int)) := hro; omega
  have hdq : (d.length : Int) ≤ 4611686018427387903 - at_ := by omega
  have hput : rfPut ⟨room, off, high, known, final, B, H⟩ at_ d fin = (((runR ⟨B, H, 0⟩ (at_ - off) d).fresh : Int), 0, rfPutOk ⟨room, off, high, known, final, B, H⟩ at_ d fin) := by
    unfold rfPut
    rw [if_neg (by omega), if_neg (by rw [hchk]; decide)]
  refine vcCut_of (fun _ : Unit => [(0, .pointer (some ⟨dd, 0, none⟩)), (1, .int .i64 at_), (2, .slice Ad d.length cd), (10, .int .i64 (at_ + d.length))]) (fun _ => rfO dd m ⟨room, off, high, known || fin, if fin then at_ + d.length else final, B, H⟩) (fun _ => MT) (fun _ => True) ?_ ?_
  · refine vcIf_split (fun hf => ?_) (fun hf => ?_)
    · subst hf
      refine vcStore1_1 (rfR dd m ⟨room, off, high, known, final, B, H⟩) _ .here rfl (by show (3 : Nat) < 7; decide) rfl ?_
      refine vcStore1_1 ((rfR dd m ⟨room, off, high, known, final, B, H⟩).set (3 + 0) _) _ .here rfl (by show (4 : Nat) < 7; decide) rfl ?_
      exact ⟨(), trivial, ⟨rfl, rfl, rfl, rfl, trivial⟩, ⟨_, .cons (Take.eq (by rw [Bool.or_true]; rfl)) (.cons .here (.cons .here .nil))⟩, fun _ _ => trivial⟩
    · subst hf
      exact ⟨(), trivial, ⟨rfl, rfl, rfl, rfl, trivial⟩, ⟨_, .cons (Take.eq (by rw [Bool.or_false]; rfl)) (.cons .here (.cons .here .nil))⟩, fun _ _ => trivial⟩
  intro _ _
  have hfo : rfPutOk ⟨room, off, high, known, final, B, H⟩ at_ d fin = ⟨room, off, max high (at_ + d.length), known || fin, if fin then at_ + d.length else final, (runR ⟨B, H, 0⟩ (at_ - off) d).B, (runR ⟨B, H, 0⟩ (at_ - off) d).H⟩ := rfl
  rw [hfo] at hput
  generalize (known || fin) = kn2 at hput ⊢
  generalize (if fin = true then at_ + (d.length : Int) else final) = fi2 at hput ⊢
  refine vcCut_of (fun _ : Unit => [(0, .pointer (some ⟨dd, 0, none⟩)), (1, .int .i64 at_), (2, .slice Ad d.length cd)]) (fun _ => rfO dd m ⟨room, off, max high (at_ + d.length), kn2, fi2, B, H⟩) (fun _ => MT) (fun _ => True) ?_ ?_
  · refine vcLoad1_row (j := 2) (Ent.gnO .here (fun w hw => Ob.row_at hw)) rfl ?_
    refine vcIf_dec (fun hh => ?_) (fun hh => ?_)
    · refine vcStore1_1 (rfR dd m ⟨room, off, high, kn2, fi2, B, H⟩) _ .here rfl (by show (2 : Nat) < 7; decide) rfl ?_
      have hh' : high < at_ + (d.length : Int) := hh
      exact ⟨(), trivial, ⟨rfl, rfl, rfl, trivial⟩, ⟨_, .cons (Take.eq (by rw [show max high (at_ + (d.length : Int)) = at_ + d.length from by omega]; rfl)) (.cons .here (.cons .here .nil))⟩, fun _ _ => trivial⟩
    · have hh' : ¬ high < at_ + (d.length : Int) := hh
      exact ⟨(), trivial, ⟨rfl, rfl, rfl, trivial⟩, ⟨_, .cons (Take.eq (by rw [show max high (at_ + (d.length : Int)) = high from by omega])) (.cons .here (.cons .here .nil))⟩, fun _ _ => trivial⟩
  intro _ _
  generalize max high (at_ + (d.length : Int)) = hi2 at hput ⊢
  refine vcLoop_of (fun g : RpS => d.length - g.i) (fun g => [(0, .pointer (some ⟨dd, 0, none⟩)), (1, .int .i64 at_), (2, .slice Ad d.length cd), (11, .int .i64 g.s.fresh), (12, .int .i64 g.i)]) (fun g => rfO dd g.m ⟨room, off, hi2, kn2, fi2, g.s.B, g.s.H⟩) (fun _ => MT)
    (fun g => g.i ≤ d.length ∧ runR g.s (at_ - off + g.i) (d.drop g.i) = runR ⟨B, H, 0⟩ (at_ - off) d ∧ g.s.B.length = g.s.H.length ∧ g.s.H.length ≤ 65536 ∧ g.s.fresh ≤ g.i)
    ⟨0, m, ⟨B, H, 0⟩⟩ ⟨Nat.zero_le _, by simp, hB, hH, Nat.le_refl _⟩ ⟨rfl, rfl, rfl, rfl, rfl, trivial⟩ ⟨_, pickO⟩ (fun _ _ => trivial) ?_
  rintro ⟨i, m1, ⟨B1, H1, fr⟩⟩ ⟨hi, hrun, hB1, hH1, hfr⟩
  simp only at hi hrun hB1 hH1 hfr
  refine vcIf_dec (fun hlt => ?_) (fun hge => ?_)
  · have hi' : i < d.length := by have h9 : (i : Int) < (d.length : Int) := hlt; omega
    have hdr : d.drop i = d[i] :: d.drop (i + 1) := List.drop_eq_getElem_cons hi'
    rw [hdr] at hrun
    simp only [runR] at hrun
    rw [show at_ - off + (i : Int) + 1 = at_ - off + ((i + 1 : Nat) : Int) from by omega] at hrun
    have hsl := stepR_len (s := ⟨B1, H1, fr⟩) (k := at_ - off + i) (v := d[i]) hB1
    refine vcFit_i64 (by show _ ≤ at_ + (i : Int) ∧ at_ + (i : Int) ≤ _; omega) ?_
    refine vcLoad1_row (j := 1) (Ent.gnO .here (fun w hw => Ob.row_at hw)) rfl ?_
    refine vcFit_i64 (by show _ ≤ at_ + (i : Int) - off ∧ at_ + (i : Int) - off ≤ _; omega) ?_
    have next : ∀ (m2 : RfM) (s : RS), s = stepR ⟨B1, H1, fr⟩ (at_ - off + i) d[i] → (i + 1 ≤ d.length ∧ runR s (at_ - off + ((i + 1 : Nat) : Int)) (d.drop (i + 1)) = runR ⟨B, H, 0⟩ (at_ - off) d ∧ s.B.length = s.H.length ∧ s.H.length ≤ 65536 ∧ s.fresh ≤ i + 1) := by
      intro m2 s hs
      subst hs
      simp only at hsl
      exact ⟨by omega, hrun, hsl.1, by omega, by omega⟩
    refine vcIf_dec (fun hneg => ?_) (fun hpos => ?_)
    · have hneg' : at_ + (i : Int) - off < 0 := hneg
      refine vcFit_i64 (by first | omega | (simp only; omega)) ?_
      have hst : (⟨B1, H1, fr⟩ : RS) = stepR ⟨B1, H1, fr⟩ (at_ - off + i) d[i] := by unfold stepR; rw [if_pos (by omega)]
      exact ⟨⟨i + 1, m1, ⟨B1, H1, fr⟩⟩, next m1 _ hst, by simp only; omega, ⟨rfl, rfl, rfl, rfl, rfl, trivial⟩, ⟨_, pickO⟩, fun _ _ => trivial⟩
    have hpos' : ¬ at_ + (i : Int) - off < 0 := hpos
    obtain ⟨k, hk⟩ : ∃ k : Nat, at_ + (i : Int) - off = k := ⟨(at_ + (i : Int) - off).toNat, by omega⟩
    have hst : stepR ⟨B1, H1, fr⟩ (at_ - off + i) d[i] = if (padL H1 k false).getD k false then ⟨padL B1 k 0, padL H1 k false, fr⟩ else ⟨(padL B1 k 0).set k d[i], (padL H1 k false).set k true, fr + 1⟩ := by
      unfold stepR
      rw [if_neg (by omega), show (at_ - off + (i : Int)).toNat = k from by omega]
    refine vcLoop_of (fun g : RfM × List UInt8 × List Bool => k + 1 - g.2.2.length) (fun g => [(0, .pointer (some ⟨dd, 0, none⟩)), (1, .int .i64 at_), (2, .slice Ad d.length cd), (11, .int .i64 fr), (12, .int .i64 i), (13, .int .i64 (at_ + i - off))]) (fun g => rfO dd g.1 ⟨room, off, hi2, kn2, fi2, g.2.1, g.2.2⟩) (fun _ => MT)
      (fun g => g.2.1.length = g.2.2.length ∧ padL g.2.1 k 0 = padL B1 k 0 ∧ padL g.2.2 k false = padL H1 k false) (m1, B1, H1) ⟨hB1, rfl, rfl⟩ ⟨rfl, rfl, rfl, rfl, rfl, rfl, trivial⟩ ⟨_, pickO⟩ (fun _ _ => trivial) ?_
    rintro ⟨⟨AB2, cB2, AH2, cH2⟩, B2, H2⟩ ⟨hB2, hpB, hpH⟩
    simp only at hB2 hpB hpH
    refine vcLoad1_row (j := 6) (Ent.gnO .here (fun w hw => Ob.row_at hw)) rfl ?_
    refine vcIf_dec (fun hle => ?_) (fun hgt => ?_)
    · have hle' : (H2.length : Int) ≤ at_ + (i : Int) - off := hle
      refine vcLoad1_row (j := 6) (Ent.gnO .here (fun w hw => Ob.row_at hw)) rfl ?_
      intro bn
      refine vcApp_of (boolL H2) _ (boolL [false]) (.there (.there (.there .here))) (by simp) rfl (by omega) (boolL_one _) (Ent.gnO .here (fun w hw => Ob.sl_at hw)) (by simp only; omega) (by simp only; omega) (fun A2 c2 hc2 => ?_)
      rw [← List.map_append]
      refine vcStore1_1 (rfR dd ⟨AB2, cB2, AH2, cH2⟩ ⟨room, off, hi2, kn2, fi2, B2, H2⟩) _ (.there (.there .here)) rfl (by show (6 : Nat) < 7; decide) rfl ?_
      refine vcLoad1_row (j := 5) (Ent.gnO .here (fun w hw => Ob.row_at hw)) rfl ?_
      intro bm
      refine vcApp_of (Bs B2) _ (Bs [0]) (.there (.there (.there (.there .here)))) (by rw [Bs_length, Nat.mul_one]) rfl (by omega) (Bs_one _) (Ent.gnO .here (fun w hw => Ob.sl_at hw)) (by simp only; omega) (by simp only; omega) (fun A3 c3 hc3 => ?_)
      rw [← Bs_append]
      refine vcStore1_1 ((rfR dd ⟨AB2, cB2, AH2, cH2⟩ ⟨room, off, hi2, kn2, fi2, B2, H2⟩).set (6 + 0) _) _ (.there (.there .here)) rfl (by show (5 : Nat) < 7; decide) rfl ?_
      have hR : rfR dd ⟨A3, c3, A2, c2⟩ ⟨room, off, hi2, kn2, fi2, B2 ++ [0], H2 ++ [false]⟩ = ((rfR dd ⟨AB2, cB2, AH2, cH2⟩ ⟨room, off, hi2, kn2, fi2, B2, H2⟩).set (6 + 0) (.slice A2 (H2.length + 1) c2)).set (5 + 0) (.slice A3 (B2.length + 1) c3) := by
        unfold rfR rfC
        simp only [List.length_append, List.length_singleton]
        rfl
      exact ⟨(⟨A3, c3, A2, c2⟩, B2 ++ [0], H2 ++ [false]), ⟨by simp only [List.length_append, List.length_singleton]; omega, by simp only; rw [padL_step (by omega)]; exact hpB, by simp only; rw [padL_step (by omega)]; exact hpH⟩, by simp only [List.length_append, List.length_singleton]; omega, ⟨rfl, rfl, rfl, rfl, rfl, rfl, trivial⟩,
        ⟨_, .cons (Take.eq hR) (.cons .here (.cons (.there .here) .nil))⟩, fun _ _ => trivial⟩
    · have hgt' : ¬ (H2.length : Int) ≤ at_ + (i : Int) - off := hgt
      have hkH : k < H2.length := by omega
      rw [padL_done hkH] at hpH
      rw [padL_done (by omega)] at hpB
      subst hpH hpB
      generalize hBp : padL B1 k 0 = B2 at *
      generalize hHp : padL H1 k false = H2 at *
      have hgd : H2.getD k false = H2[k] := by rw [List.getD_eq_getElem?_getD, List.getElem?_eq_getElem hkH]; rfl
      rw [hgd] at hst
      have hkB : k < B2.length := by omega
      refine vcLoad1_row (j := 6) (Ent.gnO .here (fun w hw => Ob.row_at hw)) rfl ?_
      refine vcIdx_nat k hk (Ent.gnO (.there (.there .here)) (fun w hw => Ob.sl_at hw)) hkH (by simp) (fun ah hah => ?_)
      simp only at hah
      subst hah
      refine vcLoad1_row (v := .bool H2[k]) (Ent.gnO (.there (.there .here)) (fun w hw => Ob.sl_at hw)) (by simp [hkH]) ?_
      refine vcIf_split (fun hp => ?_) (fun hp => ?_)
      · have hp' : H2[k] = false := by simpa using hp
        rw [hp', if_neg (by decide)] at hst
        refine vcDraw_mix [0,1,2,3,4,5,6,7,8,9,10,11,12,13,14,15,16,17] (fun w => G w ∧ RowAt (some ⟨dd, 0, none⟩) (rfC ⟨AB2, cB2, some ah, cH2⟩ ⟨room, off, hi2, kn2, fi2, B2, H2⟩) w ∧ RowAt AB2 (Bs B2) w) (by kernel_rfl) (fun w hw => ⟨hw.1.1, Ob.row_at (hw.2 _ (.head _)), Ob.sl_at (hw.2 _ (.tail _ (.head _)))⟩) ?_
        refine vcLoad1_row (j := 6) (fun w hw => hw.2.1) rfl ?_
        refine vcLoad1_row (j := 5) (fun w hw => hw.2.1) rfl ?_
        refine vcIdx_nat i rfl (fun w hw => hd w hw.1) hi' (by rw [Bs_length]; exact Nat.le_refl _) (fun a hA => ?_)
        subst hA
        refine vcLoad1_row (v := .int .u8 d[i].toNat) (fun w hw => hd w hw.1) (Bs_get hi') ?_
        refine vcIdx_some k hk hkH ?_
        refine vcStore1_1 (rfH ⟨AB2, cB2, some ah, cH2⟩ ⟨room, off, hi2, kn2, fi2, B2, H2⟩) _ (.there (.there .here)) rfl (by show k + 0 < (boolL H2).length; simpa using hkH) rfl ?_
        refine vcMix_same (fun w hw => ⟨hw.1.1, Ob.row_at (hw.2 _ (.tail _ (.head _))), Ob.sl_at (hw.2 _ (.tail _ (.tail _ (.head _))))⟩) ?_
        refine vcIdx_nat k hk (fun w hw => hw.2.2) hkB (by rw [Bs_length]; exact Nat.le_refl _) (fun ab hab => ?_)
        simp only at hab
        subst hab
        refine vcStore1_1 (rfB ⟨some ab, cB2, some ah, cH2⟩ ⟨room, off, hi2, kn2, fi2, B2, H2⟩) _ (.there (.there .here)) rfl (by show k + 0 < (Bs B2).length; rw [Bs_length]; exact hkB) rfl ?_
        refine vcMix_last (by kernel_rfl) ?_
        refine vcFit_i64 (by first | omega | (simp only; omega)) ?_
        refine vcFit_i64 (by first | omega | (simp only; omega)) ?_
        have eR : rfR dd ⟨some ab, cB2, some ah, cH2⟩ ⟨room, off, hi2, kn2, fi2, B2.set k d[i], H2.set k true⟩ = rfR dd ⟨some ab, cB2, some ah, cH2⟩ ⟨room, off, hi2, kn2, fi2, B2, H2⟩ := by
          unfold rfR rfC; simp only [List.length_set]
        have eB : rfB ⟨some ab, cB2, some ah, cH2⟩ ⟨room, off, hi2, kn2, fi2, B2.set k d[i], H2.set k true⟩ = (rfB ⟨some ab, cB2, some ah, cH2⟩ ⟨room, off, hi2, kn2, fi2, B2, H2⟩).set (k + 0) (.int .u8 d[i].toNat) := by
          unfold rfB Ob.set
          simp only [Bs_set_at]; rfl
        have eH : rfH ⟨some ab, cB2, some ah, cH2⟩ ⟨room, off, hi2, kn2, fi2, B2.set k d[i], H2.set k true⟩ = (rfH ⟨some ab, cB2, some ah, cH2⟩ ⟨room, off, hi2, kn2, fi2, B2, H2⟩).set (k + 0) (.bool true) := by
          unfold rfH Ob.set
          simp [List.map_set]
        exact ⟨⟨i + 1, ⟨some ab, cB2, some ah, cH2⟩, ⟨B2.set k d[i], H2.set k true, fr + 1⟩⟩, next ⟨some ab, cB2, some ah, cH2⟩ _ hst.symm, by simp only; omega, ⟨rfl, rfl, rfl, rfl, rfl, trivial⟩, ⟨_, .cons (.there (.there (Take.eq eR))) (.cons (Take.eq eB) (.cons (Take.eq eH) .nil))⟩, fun _ _ => trivial⟩
      · have hp' : H2[k] = true := by simpa using hp
        rw [hp', if_pos rfl] at hst
        refine vcFit_i64 (by first | omega | (simp only; omega)) ?_
        exact ⟨⟨i + 1, ⟨AB2, cB2, some ah, cH2⟩, ⟨B2, H2, fr⟩⟩, next ⟨AB2, cB2, some ah, cH2⟩ _ hst.symm, by simp only; omega, ⟨rfl, rfl, rfl, rfl, rfl, trivial⟩, ⟨_, pickO⟩, fun _ _ => trivial⟩
  · have hie : i = d.length := by have h9 : ¬ (i : Int) < (d.length : Int) := hge; omega
    subst hie
    rw [List.drop_length] at hrun
    simp only [runR] at hrun
    refine ⟨rfO dd m1 ⟨room, off, hi2, kn2, fi2, B1, H1⟩, _, MT, pickO, fun _ _ _ => trivial, m1, ?_, ?_, rfl⟩
    · rw [hput, ← hrun]; rfl
    · rw [hput, ← hrun]
end Go.Proofs.Yteomgafghiockaa
