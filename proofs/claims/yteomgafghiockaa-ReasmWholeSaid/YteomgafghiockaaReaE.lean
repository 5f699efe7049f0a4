/- A reassembly buffer: the closure of Put. -/
import Derived.Test.YteomgafghiockaaReaC
namespace Go.Proofs.Yteomgafghiockaa
open Go.Proofs
set_option maxRecDepth 10000

theorem cloneP_spec (A : Option Addr) (c : Nat) (l : List PcM) (G : Mp) (h1 : Ent G (RowAt A (pcL l))) (hl : l.length ≤ 1000000) :
    Spec Try.prog 29 #[.slice A l.length c] [] G (fun v own N => ∃ A' c', v = .slice A' l.length c' ∧ own = [] ∧ N = RowAt A' (pcL l)) := by
  refine Spec.intro (args := [_]) wide Try.func29 rfl Try.call29 (by rfl) (by rfl) (fun w0 hw0 => ?_)
  cases A with
  | none =>
    obtain rfl : l = [] := by
      cases l with
      | nil => rfl
      | cons x r =>
        obtain ⟨a, ha, _⟩ := h1 _ (hw0.pers w0 (Fr.refl _ _)) 0 (.int .i64 x.at_) rfl
        cases ha
    exact ⟨[], _, RowAt none (pcL []), .nil, (fun _ _ _ i u h => by simp [pcL] at h), none, 0, rfl, rfl, rfl⟩
  | some a =>
    intro b
    refine vcApp_of [] _ (pcL l) .here rfl (by rw [pcL_len]) (by omega) (pcL_one l) (Ent.gnG h1) (by omega) (by omega) (fun A' cap' hc => ?_)
    rw [Nat.zero_add, List.nil_append]
    refine ⟨[], _, RowAt A' (pcL l), .nil, fun w _ ho => Ob.sl_at (ho _ (.head _)), A', cap', rfl, rfl, rfl⟩

def rbC (A : Option Addr) (len c : Nat) (room off high final : Int) : List Value := [.int .i64 room, .int .i64 off, .int .i64 high, .int .i64 final, .slice A len c]
def fillO (b ff : Nat) (m : RbM) (room off high final fresh : Int) : List Ob := [.row ff 3 [.int .i64 fresh] 1, rbR b m.A m.l.length m.c room off high final, rbS m.A m.c m.l]
def FillTo (b ff : Nat) (m : RbM) (room off high final fresh at_ : Int) (d : List UInt8) (place hi : Int) (v : Value) (own : List Ob) (N : Mp) : Prop :=
  ∃ (m' : RbM) (new : List PcM), v = .tuple #[] ∧ m'.l = m.l ++ new ∧ new.map pu = gap1 at_ d place hi ∧ own = fillO b ff m' room off high final (fresh + (total (gap1 at_ d place hi) : Int)) ∧ Ent N (PcsAt new)
structure FillG (G : Mp) (b b10 b12 b4 b6 b5 : Nat) (e place at_ : Int) (Ad : Option Addr) (cd : Nat) (d : List UInt8) : Prop where
  e : Ent G (RowAt (some ⟨b10, 0, none⟩) [.int .i64 e])
  place : Ent G (RowAt (some ⟨b12, 0, none⟩) [.int .i64 place])
  bp : Ent G (RowAt (some ⟨b4, 0, none⟩) [.pointer (some ⟨b, 0, none⟩)])
  dp : Ent G (RowAt (some ⟨b6, 0, none⟩) [.slice Ad d.length cd])
  ap : Ent G (RowAt (some ⟨b5, 0, none⟩) [.int .i64 at_])
  d : Ent G (RowAt Ad (Bs d))
theorem cutD_len {at_ : Int} {d : List UInt8} {lo hi : Int} (h1 : at_ ≤ lo) (h2 : lo ≤ hi) (h3 : hi ≤ at_ + d.length) : ((cutD at_ d lo hi).2.length : Int) = hi - lo := by
  unfold cutD
  simp only [List.length_take, List.length_drop]
  omega
theorem fill_spec (b ff b10 b12 b4 b6 b5 : Nat) (m : RbM) (room off high final fresh e place at_ upto : Int) (Ad : Option Addr) (cd : Nat) (d : List UInt8) (G : Mp) (hg : FillG G b b10 b12 b4 b6 b5 e place at_ Ad cd d)
    (h0 : 0 ≤ at_ ∧ at_ ≤ place) (h1 : e = at_ + d.length) (h2 : e ≤ 4611686018427387904) (h3 : m.l.length ≤ 500000) (h4 : 0 ≤ fresh ∧ fresh ≤ 100000000) (hcd : d.length ≤ cd) (h6 : min upto e - place ≤ 100000000) :
    Spec Try.prog 27 #[.int .i64 upto, .pointer (some ⟨b10, 0, none⟩), .pointer (some ⟨b12, 0, none⟩), .pointer (some ⟨b4, 0, none⟩), .pointer (some ⟨b6, 0, none⟩), .pointer (some ⟨b5, 0, none⟩), .pointer (some ⟨ff, 0, none⟩)] (fillO b ff m room off high final fresh) G
      (FillTo b ff m room off high final fresh at_ d place (min upto e)) := by
  refine Spec.intro (args := [_, _, _, _, _, _, _]) wide Try.func27 rfl Try.call27 (by rfl) (by rfl) (fun w0 hw0 => ?_)
  refine vcLoad1_0 (Ent.gnG hg.e) rfl ?_
  refine vcLoad1_0 (Ent.gnG hg.place) rfl ?_
  have hmin : (if e < upto then e else upto) = min upto e := by omega
  refine vcIf_dec (fun hlt => ?_) (fun hge => ?_)
  · have hlt' : place < min upto e := by rw [← hmin]; exact hlt
    have hcl := cutD_len (at_ := at_) (d := d) (lo := place) (hi := min upto e) h0.2 (by omega) (by omega)
    refine vcDraw_mix [0,1,2,3,4,5,6,7,8,9,10,11,12,13,14,15,16,17,18,19,20] (MpAnd G (RowAt (some ⟨b, 0, none⟩) (rbC m.A m.l.length m.c room off high final))) (by kernel_rfl) (fun w hw => ⟨hw.1.1, Ob.row_at (hw.2 _ (.tail _ (.head _)))⟩) ?_
    refine vcLoad1_0 (Ent.andL hg.bp) rfl ?_
    refine vcLoad1_0 (Ent.andL hg.bp) rfl ?_
    refine vcLoad1_row (j := 4) (Ent.andR Ent.refl) rfl ?_
    refine vcLoad1_0 (Ent.andL hg.place) rfl ?_
    refine vcLoad1_0 (Ent.andL hg.dp) rfl ?_
    refine vcLoad1_0 (Ent.andL hg.place) rfl ?_
    refine vcLoad1_0 (Ent.andL hg.ap) rfl ?_
    refine vcFit_i64 (by first | omega | (simp only; omega)) ?_
    refine vcLoad1_0 (Ent.andL hg.ap) rfl ?_
    refine vcFit_i64 (by show -9223372036854775808 ≤ (if e < upto then e else upto) - at_ ∧ (if e < upto then e else upto) - at_ ≤ 9223372036854775807; rw [hmin]; omega) ?_
    obtain ⟨ln, hln⟩ : ∃ ln : Nat, ln = (place - at_).toNat := ⟨_, rfl⟩
    have hxs : (cutD at_ d place (min upto e)).2 = (d.drop ln).take (cutD at_ d place (min upto e)).2.length := by
      have : (cutD at_ d place (min upto e)).2.length = (min upto e - place).toNat := by omega
      rw [this, hln]; rfl
    generalize hX : (cutD at_ d place (min upto e)).2 = X at hcl hxs
    refine vcSlPE ln X.length (cd - ln) (by omega) (by show (if e < upto then e else upto) - at_ = _; rw [hmin]; omega) (by omega) (by omega) (by omega) ?_
    rw [show ln + (cd - ln) = cd from by omega]
    refine vcCall_of .nil ((clone_spec (cutA Ad cd ln 1) (cd - ln) X _ (fun w hw => (hg.d w hw.1.1).bytes rfl hcd hxs) (by omega)).getB) (fun v own' N' hv => ?_)
    obtain ⟨A2, c2, rfl, rfl, hN2, hc2⟩ := hv
    refine vcMix_same (fun w hw => ⟨hw.1.1, Ob.row_at (hw.2 _ (.tail _ (.head _)))⟩) ?_
    intro bn
    refine vcMix_same (fun w hw => ⟨hw.1.1, Ob.row_at (hw.2 _ (.tail _ (.tail _ (.head _))))⟩) ?_
    refine vcApp_of (pcL m.l) _ (pcL [⟨place, A2, c2, X⟩]) (.there (.there (.there .here))) (by rw [pcL_len]) (by rw [pcL_len]; rfl) (by omega) (pcL_one _) (Ent.gnO .here (fun w hw => Ob.sl_at hw)) (by omega) (by omega) (fun A3 c3 hc3 => ?_)
    rw [← pcL_app]
    refine vcMix_same (fun w hw => ⟨hw.1.1, Ob.row_at (hw.2 _ (.tail _ (.tail _ (.tail _ (.head _)))))⟩) ?_
    refine vcStore1_1 (rbR b m.A m.l.length m.c room off high final) _ (.there (.there (.there .here))) rfl (by show (4 : Nat) < 5; decide) rfl ?_
    refine vcMix_last (by kernel_rfl) ?_
    refine vcLoad1_0 (Ent.gnO (.there (.there (.there .here))) (fun w hw => Ob.row_at hw)) rfl ?_
    refine vcLoad1_0 (Ent.gnG hg.place) rfl ?_
    refine vcFit_i64 (by show -9223372036854775808 ≤ (if e < upto then e else upto) - place ∧ (if e < upto then e else upto) - place ≤ 9223372036854775807; rw [hmin]; omega) ?_
    refine vcFit_i64 (by show -9223372036854775808 ≤ fresh + ((if e < upto then e else upto) - place) ∧ fresh + ((if e < upto then e else upto) - place) ≤ 9223372036854775807; rw [hmin]; omega) ?_
    refine vcStore1_0 (.row ff _ _ _) _ (.there (.there (.there .here))) rfl (by show (0 : Nat) < 1; decide) rfl ?_
    have hgap : gap1 at_ d place (min upto e) = [(place, X)] := by unfold gap1; rw [if_pos hlt', ← hX]; rfl
    have htot : total (gap1 at_ d place (min upto e)) = X.length := by rw [hgap]; simp [total]
    have e1 : Ob.row ff 3 [.int .i64 (fresh + (total (gap1 at_ d place (min upto e)) : Int))] 1 = .row ff 3 [.int .i64 (fresh + ((if e < upto then e else upto) - place))] 1 := by
      rw [htot, hmin, hcl]
    have e2 : rbR b A3 (m.l ++ [(⟨place, A2, c2, X⟩ : PcM)]).length c3 room off high final = rbR b A3 (m.l.length + 1) c3 room off high final := by
      rw [List.length_append]; rfl
    refine ⟨fillO b ff ⟨A3, c3, m.l ++ [(⟨place, A2, c2, X⟩ : PcM)]⟩ room off high final _, _, PcsAt [(⟨place, A2, c2, X⟩ : PcM)], Pick.cons (Take.eq e1) (.cons (Take.eq e2) (.cons .here .nil)), ?_, ⟨A3, c3, m.l ++ [(⟨place, A2, c2, X⟩ : PcM)]⟩, [(⟨place, A2, c2, X⟩ : PcM)], rfl, rfl, hgap.symm, rfl, Ent.refl⟩
    intro w hw _ p hp
    rw [List.mem_singleton] at hp; subst hp
    exact ⟨hN2 w hw.2, hc2⟩
  · refine ⟨fillO b ff m room off high final fresh, [], MT, Pick.cons .here (.cons .here (.cons .here .nil)), fun _ _ _ => trivial, m, [], rfl, by simp, ?_, ?_, fun _ _ p hp => by cases hp⟩
    · unfold gap1; rw [if_neg (by rw [← hmin]; exact hge)]; rfl
    · unfold gap1; rw [if_neg (by rw [← hmin]; exact hge)]; simp [total]
end Go.Proofs.Yteomgafghiockaa
