/- A reassembly buffer: Put. -/
import Derived.Test.YteomgafghiockaaReaP
namespace Go.Proofs.Yteomgafghiockaa
open Go.Proofs
set_option maxRecDepth 10000

def putEnd (r : Rb) (at_ : Int) (d : List UInt8) (fin : Bool) : Rb :=
  { r with final := if fin then at_ + d.length else r.final, high := max r.high (at_ + d.length), ps := insP at_ d (at_ + d.length) (max at_ r.off) r.ps }
theorem putEnd_ok {r : Rb} {at_ : Int} {d : List UInt8} {fin : Bool} (h : RbOk r) (h1 : 0 ≤ at_ ∧ at_ ≤ 4611686018427387903 - d.length) (hc : checkP r (at_ + d.length) fin = 0) : RbOk (putEnd r at_ d fin) := by
  have h2 := h.hi
  have h3 := h.fin
  have h8 := h.chain.le
  have h9 := h.off
  unfold checkP at hc
  split at hc
  · cases hc
  rename_i n1
  split at hc
  · cases hc
  rename_i n2
  split at hc
  · cases hc
  rename_i n3
  refine ⟨h.room, h.off, ⟨by show max r.high (at_ + d.length) ≤ r.off + r.room; omega, by show max r.high (at_ + d.length) ≤ _; omega⟩, ?_, insP_chain rfl h.chain (by omega) (by show r.off ≤ max at_ r.off; omega)⟩
  show (if fin = true then at_ + (d.length : Int) else r.final) = -1 ∨ (max r.high (at_ + d.length) ≤ (if fin = true then at_ + (d.length : Int) else r.final) ∧ (if fin = true then at_ + (d.length : Int) else r.final) ≤ 4611686018427387903)
  cases fin with
  | true =>
    rw [if_pos rfl]
    refine .inr ⟨?_, by omega⟩
    rcases h3 with h3 | h3
    · have : ¬ (at_ + (d.length : Int) < r.high) := fun hh => n2 ⟨by omega, rfl, hh⟩
      omega
    · have : ¬ (at_ + (d.length : Int) ≠ r.final) := fun hh => n1 ⟨by omega, .inr ⟨rfl, hh⟩⟩
      omega
  | false =>
    rw [if_neg (by decide)]
    rcases h3 with h3 | h3
    · exact .inl h3
    · refine .inr ⟨?_, h3.2⟩
      have : ¬ (r.final < at_ + (d.length : Int)) := fun hh => n1 ⟨by omega, .inl hh⟩
      omega
theorem putP_ok {r : Rb} (at_ : Int) (d : List UInt8) (fin : Bool) (h : RbOk r) : RbOk (putP r at_ d fin).2.2 := by
  unfold putP
  split
  · exact h
  · split
    · exact h
    · rename_i h1 h2
      exact putEnd_ok h (by omega) (Decidable.not_not.1 h2)
def PutTo (b : Nat) (m : RbM) (r : Rb) (at_ : Int) (d : List UInt8) (fin : Bool) (v : Value) (own : List Ob) (N : Mp) : Prop :=
  ∃ m', v = .tuple #[.int .i64 (putP r at_ d fin).1, .int .i64 (putP r at_ d fin).2.1] ∧ own = rbO b m' (putP r at_ d fin).2.2 ∧ RbAt m' (putP r at_ d fin).2.2 ∧ Ent (MpAnd (PcsAt m.l) N) (PcsAt m'.l)
theorem total_perm {a b : List Pc} (h : a.Perm b) : total a = total b := (h.map _).sum_nat
def putO (b b10 b12 b6 b5 b4 b8 : Nat) (e at_ : Int) (Ad : Option Addr) (n cd : Nat) (m : RbM) (room off high final place fresh : Int) : List Ob :=
  .row b10 3 [.int .i64 e] 1 :: .row b12 3 [.int .i64 place] 1 :: .row b6 22 [.slice Ad n cd] 1 :: .row b5 3 [.int .i64 at_] 1 :: .row b4 25 [.pointer (some ⟨b, 0, none⟩)] 1 :: fillO b b8 m room off high final fresh
structure PtS where
  k : Nat
  place : Int
  m : RbM
  new : List PcM
theorem put_spec (b : Nat) (m : RbM) (r : Rb) (at_ : Int) (Ad : Option Addr) (cd : Nat) (d : List UInt8) (fin : Bool) (G : Mp) (hr : RbOk r) (hm : RbAt m r) (hd : Ent G (RowAt Ad (Bs d))) (hcd : d.length ≤ cd) (hdl : d.length ≤ 4611686018427387903) :
    Spec Try.prog 10 #[.pointer (some ⟨b, 0, none⟩), .int .i64 at_, .slice Ad d.length cd, .bool fin] (rbO b m r) G (PutTo b m r at_ d fin) := by
  refine Spec.introC (args := [_, _, _, _]) wide Try.func10 rfl Try.call10 (by rfl) (by rfl) [9, 19] (fun w0 hw0 => ?_)
  have hfew := hm.few hr
  have h0 := hr.off
  have h1 := hr.hi
  have hroom := hr.room
  have hchn := hr.chain
  intro b4 b5 b6 b8
  have bad : ∀ (e : Int) (own : List Ob) (N : Mp), putP r at_ d fin = (0, e, r) → (∃ rest, Pick (rbO b m r) own rest) → ∃ (own' rest : List Ob) (N' : Mp), Pick own' own rest ∧ (∀ w, N w → Objs rest w → N' w) ∧ PutTo b m r at_ d fin (.tuple #[.int .i64 0, .int .i64 e]) own' N' :=
    fun e own N he ⟨rest, hp⟩ => ⟨rbO b m r, rest, MT, hp, fun _ _ _ => trivial, m, by rw [he], by rw [he], by rw [he]; exact hm, Ent.andL Ent.refl⟩
  refine vcLoad1_0 (Ent.gnO (.there (.there .here)) (fun w hw => Ob.row_at hw)) rfl ?_
  refine vcIf_dec (fun ha => ?_) (fun ha => ?_)
  · refine vcStore1_0 (.row b8 _ _ _) _ .here rfl (by show (0 : Nat) < 1; decide) rfl ?_
    refine vcLoad1_0 (Ent.gnO .here (fun w hw => Ob.row_at hw)) rfl ?_
    exact bad 30 _ _ (if_pos (.inl ha)) ⟨_, .cons (.there (.there (.there (.there .here)))) (.cons (.there (.there (.there (.there .here)))) .nil)⟩
  refine vcLoad1_0 (Ent.gnO (.there (.there .here)) (fun w hw => Ob.row_at hw)) rfl ?_
  refine vcLoad1_0 (Ent.gnO (.there .here) (fun w hw => Ob.row_at hw)) rfl ?_
  refine vcFit_i64 (by first | omega | (simp only; omega)) ?_
  refine vcIf_dec (fun ha2 => ?_) (fun ha2 => ?_)
  · refine vcStore1_0 (.row b8 _ _ _) _ .here rfl (by show (0 : Nat) < 1; decide) rfl ?_
    refine vcLoad1_0 (Ent.gnO .here (fun w hw => Ob.row_at hw)) rfl ?_
    exact bad 30 _ _ (if_pos (.inr ha2)) ⟨_, .cons (.there (.there (.there (.there .here)))) (.cons (.there (.there (.there (.there .here)))) .nil)⟩
  have hat : 0 ≤ at_ ∧ at_ ≤ 4611686018427387903 - (d.length : Int) := by omega
  refine vcLoad1_0 (Ent.gnO (.there (.there .here)) (fun w hw => Ob.row_at hw)) rfl ?_
  refine vcLoad1_0 (Ent.gnO (.there .here) (fun w hw => Ob.row_at hw)) rfl ?_
  refine vcFit_i64 (by first | omega | (simp only; omega)) ?_
  intro b10
  refine vcStore1_0 (.row b10 _ _ _) _ .here rfl (by show (0 : Nat) < 1; decide) rfl ?_
  refine vcLoad1_0 (Ent.gnO (.there (.there (.there (.there .here)))) (fun w hw => Ob.row_at hw)) rfl ?_
  refine vcLoad1_0 (Ent.gnO .here (fun w hw => Ob.row_at hw)) rfl ?_
  refine vcCall_of .nil (check_spec b m.A m.l.length m.c r (at_ + d.length) fin _ hr (Ent.gnO (.there (.there (.there (.there (.there .here))))) (fun w hw => Ob.row_at hw))) (fun v own' N' hv => ?_)
  obtain ⟨rfl, rfl, rfl⟩ := hv
  refine vcIf_ndec (fun hc => ?_) (fun hc => ?_)
  · refine vcStore1_0 (.row b8 _ _ _) _ (.there .here) rfl (by show (0 : Nat) < 1; decide) rfl ?_
    refine vcLoad1_0 (Ent.gnO .here (fun w hw => Ob.row_at hw)) rfl ?_
    refine bad _ _ _ ?_ ⟨_, .cons (.there (.there (.there (.there (.there .here))))) (.cons (.there (.there (.there (.there (.there .here))))) .nil)⟩
    unfold putP
    rw [if_neg (by omega), if_pos hc]
  have hput : putP r at_ d fin = ((total (gapsP at_ d (at_ + d.length) (max at_ r.off) r.ps) : Int), 0, putEnd r at_ d fin) := by
    unfold putP
    rw [if_neg (by omega), if_neg (by rw [hc]; decide)]
    rfl
  have hok := putEnd_ok hr hat hc
  have hin := hok.chain
  have hhi := hok.hi
  refine vcCut_of (fun _ : Unit => [(4, .pointer (some ⟨b4, 0, none⟩)), (5, .pointer (some ⟨b5, 0, none⟩)), (6, .pointer (some ⟨b6, 0, none⟩)), (8, .pointer (some ⟨b8, 0, none⟩)), (10, .pointer (some ⟨b10, 0, none⟩))])
    (fun _ => .row b10 3 [.int .i64 (at_ + d.length)] 1 :: .row b8 3 [.int .i64 0] 1 :: .row b6 22 [.slice Ad d.length cd] 1 :: .row b5 3 [.int .i64 at_] 1 :: .row b4 25 [.pointer (some ⟨b, 0, none⟩)] 1 :: [rbR b m.A m.l.length m.c r.room r.off r.high (putEnd r at_ d fin).final, rbS m.A m.c m.l]) (fun _ => MT) (fun _ => True) ?_ ?_
  · refine vcIf_split (fun hf => ?_) (fun hf => ?_)
    · subst hf
      refine vcLoad1_0 (Ent.gnO (.there (.there (.there (.there .here)))) (fun w hw => Ob.row_at hw)) rfl ?_
      refine vcLoad1_0 (Ent.gnO .here (fun w hw => Ob.row_at hw)) rfl ?_
      refine vcStore1_1 (rbR b m.A m.l.length m.c r.room r.off r.high r.final) _ (.there (.there (.there (.there (.there .here))))) rfl (by show (3 : Nat) < 5; decide) rfl ?_
      exact ⟨(), trivial, ⟨rfl, rfl, rfl, rfl, rfl, trivial⟩, ⟨_, .cons (.there .here) (.cons (.there .here) (.cons (.there .here) (.cons (.there .here) (.cons (.there .here) (.cons .here (.cons .here .nil))))))⟩, fun _ _ => trivial⟩
    · subst hf
      exact ⟨(), trivial, ⟨rfl, rfl, rfl, rfl, rfl, trivial⟩, ⟨_, .cons .here (.cons .here (.cons .here (.cons .here (.cons .here (.cons .here (.cons .here .nil))))))⟩, fun _ _ => trivial⟩
  intro _ _
  generalize hfin : (putEnd r at_ d fin).final = final'
  refine vcDraw_mix [0,1,2,3,4,5,6,7,8,9] (GN _ _ _) (by kernel_rfl) Ent.refl ?_
  refine vcLoad1_0 (Ent.gnO (.there (.there (.there (.there .here)))) (fun w hw => Ob.row_at hw)) rfl ?_
  refine vcLoad1_0 (Ent.gnO (.there (.there (.there (.there .here)))) (fun w hw => Ob.row_at hw)) rfl ?_
  refine vcLoad1_row (j := 2) (Ent.gnO (.there (.there (.there (.there (.there .here))))) (fun w hw => Ob.row_at hw)) rfl ?_
  refine vcLoad1_0 (Ent.gnO .here (fun w hw => Ob.row_at hw)) rfl ?_
  refine vcStore1_1 (rbR b m.A m.l.length m.c r.room r.off r.high final') _ (.there (.there (.there (.there (.there .here))))) rfl (by show (2 : Nat) < 5; decide) rfl ?_
  refine vcMix_last (by kernel_rfl) ?_
  refine vcDraw_mix [0,1,2,3,4,5,6,7] (fun w => RowAt (some ⟨b5, 0, none⟩) [.int .i64 at_] w ∧ RowAt (some ⟨b4, 0, none⟩) [.pointer (some ⟨b, 0, none⟩)] w ∧ (RowAt (some ⟨b, 0, none⟩) (rbC m.A m.l.length m.c r.room r.off (if r.high < at_ + (d.length : Int) then at_ + (d.length : Int) else r.high) final')) w) (by kernel_rfl) (fun w hw => ⟨Ob.row_at (hw.2 _ (.tail _ (.tail _ (.tail _ (.tail _ (.head _)))))), Ob.row_at (hw.2 _ (.tail _ (.tail _ (.tail _ (.tail _ (.tail _ (.head _))))))), Ob.row_at (hw.2 _ (.head _))⟩) ?_
  refine vcLoad1_0 (fun w hw => hw.1) rfl ?_
  refine vcLoad1_0 (fun w hw => hw.2.1) rfl ?_
  refine vcLoad1_row (j := 1) (fun w hw => hw.2.2) rfl ?_
  intro b12
  refine vcMix_same (fun w hw => ⟨Ob.row_at (hw.2 _ (.tail _ (.tail _ (.tail _ (.tail _ (.tail _ (.head _))))))), Ob.row_at (hw.2 _ (.tail _ (.tail _ (.tail _ (.tail _ (.tail _ (.tail _ (.head _)))))))), Ob.row_at (hw.2 _ (.tail _ (.head _)))⟩) ?_
  refine vcStore1_0 (.row b12 _ _ _) _ .here rfl (by show (0 : Nat) < 1; decide) rfl ?_
  refine vcMix_last (by kernel_rfl) ?_
  have hmx : (if r.high < at_ + (d.length : Int) then at_ + (d.length : Int) else r.high) = max r.high (at_ + d.length) := by omega
  have hpl : (if at_ < r.off then r.off else at_) = max at_ r.off := by omega
  rw [hpl, hmx]
  have hgt : total (gapsP at_ d (at_ + d.length) (max at_ r.off) r.ps) ≤ 65536 := by
    have h5 := total_perm (insP_perm (at_ := at_) (d := d) (e := at_ + d.length) (ps := r.ps) (place := max at_ r.off))
    rw [total_app] at h5
    have h6 : total (insP at_ d (at_ + d.length) (max at_ r.off) r.ps) ≤ 65536 := hok.few.2
    omega
  have hE : max r.high (at_ + (d.length : Int)) ≤ r.off + r.room := hhi.1
  generalize hEe : at_ + (d.length : Int) = E at *
  refine vcCut_of (fun g : PtS => [(4, .pointer (some ⟨b4, 0, none⟩)), (8, .pointer (some ⟨b8, 0, none⟩)), (10, .pointer (some ⟨b10, 0, none⟩)), (13, .func (.func 27) #[] #[.pointer (some ⟨b10, 0, none⟩), .pointer (some ⟨b12, 0, none⟩), .pointer (some ⟨b4, 0, none⟩), .pointer (some ⟨b6, 0, none⟩), .pointer (some ⟨b5, 0, none⟩), .pointer (some ⟨b8, 0, none⟩)])])
    (fun g => putO b b10 b12 b6 b5 b4 b8 E at_ Ad d.length cd g.m r.room r.off (max r.high E) final' g.place (total (g.new.map pu))) (fun g => PcsAt g.new)
    (fun g => (at_ ≤ g.place ∧ r.off ≤ g.place) ∧ g.m.l = m.l ++ g.new ∧ g.new.map pu ++ gap1 at_ d g.place E = gapsP at_ d E (max at_ r.off) r.ps ∧ g.new.length ≤ m.l.length) ?_ ?_
  · refine vcLoad1_0 (Ent.gnO (.there (.there (.there (.there (.there (.there .here)))))) (fun w hw => Ob.row_at hw)) rfl ?_
    refine vcLoad1_row (j := 4) (Ent.gnO (.there .here) (fun w hw => Ob.row_at hw)) rfl ?_
    refine vcCall_of .nil (cloneP_spec m.A m.c m.l _ (Ent.gnO (.there (.there (.there (.there (.there (.there (.there .here))))))) (fun w hw => Ob.sl_at hw)) (by omega)) (fun v own' N' hv => ?_)
    obtain ⟨Ac, cc, rfl, rfl, rfl⟩ := hv
    refine vcLoop_of (fun g : PtS => m.l.length - g.k) (fun g => [(4, .pointer (some ⟨b4, 0, none⟩)), (8, .pointer (some ⟨b8, 0, none⟩)), (10, .pointer (some ⟨b10, 0, none⟩)), (12, .pointer (some ⟨b12, 0, none⟩)), (13, .func (.func 27) #[] #[.pointer (some ⟨b10, 0, none⟩), .pointer (some ⟨b12, 0, none⟩), .pointer (some ⟨b4, 0, none⟩), .pointer (some ⟨b6, 0, none⟩), .pointer (some ⟨b5, 0, none⟩), .pointer (some ⟨b8, 0, none⟩)]), (61, .slice Ac m.l.length cc), (62, .int .i64 m.l.length), (63, .int .i64 g.k)])
      (fun g => putO b b10 b12 b6 b5 b4 b8 E at_ Ad d.length cd g.m r.room r.off (max r.high E) final' g.place (total (g.new.map pu))) (fun g => MpAnd (PcsAt g.new) (RowAt Ac (pcL m.l)))
      (fun g => g.k ≤ m.l.length ∧ (at_ ≤ g.place ∧ r.off ≤ g.place) ∧ g.m.l = m.l ++ g.new ∧ g.new.map pu ++ gapsP at_ d E g.place (r.ps.drop g.k) = gapsP at_ d E (max at_ r.off) r.ps ∧ g.new.length ≤ g.k)
      ⟨0, max at_ r.off, m, []⟩ ⟨Nat.zero_le _, by simp only; omega, by simp, rfl, Nat.le_refl _⟩ ⟨rfl, rfl, rfl, rfl, rfl, rfl, rfl, rfl, trivial⟩
      ⟨_, .cons (.there (.there .here)) (.cons .here (.cons (.there (.there .here)) (.cons (.there (.there .here)) (.cons (.there (.there .here)) (.cons (.there .here) (.cons .here (.cons .here .nil)))))))⟩ (fun w hw => ⟨(fun p hp => by cases hp), hw.2⟩) ?_
    rintro ⟨k, place, m', new⟩ ⟨hk, hp, hml, hgp, hnl⟩
    simp only at hk hp hml hgp hnl
    have hn1 : total (new.map pu) ≤ 65536 := by rw [← hgp, total_app] at hgt; omega
    refine vcIf_dec (fun hlt => ?_) (fun hge => ?_)
    · have hk' : k < m.l.length := by have h9 : (k : Int) < (m.l.length : Int) := hlt; omega
      have hps : r.ps.drop k = pu m.l[k] :: r.ps.drop (k + 1) := by rw [← hm]; exact map_drop_get hk'
      rw [hps] at hgp
      have hmem : r.off ≤ m.l[k].at_ ∧ 0 < m.l[k].d.length ∧ m.l[k].at_ + m.l[k].d.length ≤ r.high := hr.chain.mem (hm.mem hk')
      refine vcIdx_nats (s := 2) k rfl (Ent.gnN (Ent.andR Ent.refl)) hk' (by rw [pcL_len]; exact Nat.le_refl _) (by omega) (fun ac hac => ?_)
      subst hac
      refine vcLoadN_1 (pcV m.l[k]) (Ent.gnN (Ent.andR Ent.refl)) rfl (pcL_chunk hk') ?_
      intro b15
      refine ⟨rfl, vcStoreN_row _ .here rfl (pcV_one m.l[k]) ?_⟩
      refine vcLoad1_row (j := 0) (Ent.gnO .here (fun w hw => Ob.row_at hw)) rfl ?_
      refine vcLoad1_0 (Ent.gnO (.there .here) (fun w hw => Ob.row_at hw)) rfl ?_
      refine vcIf_dec (fun hgeq => ?_) (fun hgeq => ?_)
      · have hgeq' : E ≤ m.l[k].at_ := hgeq
        exact ⟨⟨k, place, m', new⟩, ⟨hp, hml, by rw [← hgp]; simp only [gapsP]; rw [if_pos (show E ≤ (pu m.l[k]).1 from hgeq')], by simp only; omega⟩, ⟨rfl, rfl, rfl, rfl, trivial⟩, ⟨_, Pick.whole.under⟩, Ent.andL Ent.refl⟩
      · have hlt' : m.l[k].at_ < E := by have h9 : ¬ E ≤ m.l[k].at_ := hgeq; omega
        refine vcLoad1_row (j := 0) (Ent.gnO .here (fun w hw => Ob.row_at hw)) rfl ?_
        refine vcCall_of (rest := [.row b15 64 (pcV m.l[k]) 2, .row b10 3 [.int .i64 E] 1, .row b12 3 [.int .i64 place] 1, .row b6 22 [.slice Ad d.length cd] 1, .row b5 3 [.int .i64 at_] 1, .row b4 25 [.pointer (some ⟨b, 0, none⟩)] 1])
          (.cons (.there (.there (.there (.there (.there (.there .here)))))) (.cons (.there (.there (.there (.there (.there (.there .here)))))) (.cons (.there (.there (.there (.there (.there (.there .here)))))) .nil)))
          (fill_spec b b8 b10 b12 b4 b6 b5 m' r.room r.off (max r.high E) final' (total (new.map pu)) E place at_ m.l[k].at_ Ad cd d _
            ⟨Ent.gnO (.there .here) (fun w hw => Ob.row_at hw), Ent.gnO (.there (.there .here)) (fun w hw => Ob.row_at hw), Ent.gnO (.there (.there (.there (.there (.there .here))))) (fun w hw => Ob.row_at hw), Ent.gnO (.there (.there (.there .here))) (fun w hw => Ob.row_at hw), Ent.gnO (.there (.there (.there (.there .here)))) (fun w hw => Ob.row_at hw), Ent.gnG hd⟩ ⟨hat.1, hp.1⟩ hEe.symm (by omega) (by rw [hml, List.length_append]; omega) (by omega) hcd (by omega)) (fun v own' N' hv => ?_)
        obtain ⟨m2, n1, rfl, hm2, hn1g, rfl, hN2⟩ := hv
        have hmn : min m.l[k].at_ E = m.l[k].at_ := by omega
        rw [hmn] at hn1g
        have hpe : pEnd (pu m.l[k]) = m.l[k].at_ + m.l[k].d.length := rfl
        have hnn : total ((new ++ n1).map pu) = total (new.map pu) + total (gap1 at_ d place (min m.l[k].at_ E)) := by rw [List.map_append, total_app, hn1g, hmn]
        refine vcDraw_mix [0,1,2,3,4] (fun w => RowAt (some ⟨b12, 0, none⟩) [.int .i64 place] w ∧ RowAt (some ⟨b15, 0, none⟩) (pcV m.l[k]) w) (by kernel_rfl) (fun w hw => ⟨Ob.row_at (hw.2 _ (.tail _ (.tail _ (.tail _ (.tail _ (.tail _ (.head _))))))), Ob.row_at (hw.2 _ (.tail _ (.tail _ (.tail _ (.head _)))))⟩) ?_
        refine vcLoad1_0 (fun w hw => hw.1) rfl ?_
        refine vcLoadN_0 (xs := pcV m.l[k]) (fun w hw => hw.2) rfl ?_
        refine vcCall_of .nil (pend_spec m.l[k] _ (by omega)) (fun v own' N' hv => ?_)
        obtain ⟨rfl, rfl, rfl⟩ := hv
        refine vcMix_same (fun w hw => ⟨Ob.row_at (hw.2 _ (.tail _ (.tail _ (.tail _ (.tail _ (.tail _ (.head _))))))), Ob.row_at (hw.2 _ (.tail _ (.tail _ (.tail _ (.head _)))))⟩) ?_
        refine vcStore1_0 (.row b12 _ _ _) _ (.there (.there (.there (.there (.there .here))))) rfl (by show (0 : Nat) < 1; decide) rfl ?_
        refine vcMix_last (by kernel_rfl) ?_
        refine vcFit_i64 (by first | omega | (simp only; omega)) ?_
        have hx : (if place < pEnd (pu m.l[k]) then pEnd (pu m.l[k]) else place) = max place (pEnd (pu m.l[k])) := by omega
        refine ⟨⟨k + 1, max place (pEnd (pu m.l[k])), m2, new ++ n1⟩, ⟨by simp only; omega, by simp only; omega, by simp only; rw [hm2, hml, List.append_assoc], ?_, ?_⟩, by simp only; omega, ⟨rfl, rfl, rfl, rfl, rfl, rfl, rfl, rfl, trivial⟩,
          ⟨_, .cons (.there (.there (.there (.there (.there .here))))) (.cons (Take.eq (by rw [← hx]; rfl)) (.cons (.there (.there (.there (.there .here)))) (.cons (.there (.there (.there (.there .here)))) (.cons (.there (.there (.there (.there .here)))) (.cons (Take.eq (by simp only [hnn]; rfl)) (.cons .here (.cons .here .nil)))))))⟩, fun w hw => ⟨fun q hq => ?_, hw.1.1.2⟩⟩
        · rw [← hgp]
          simp only [gapsP]
          rw [if_neg (show ¬ E ≤ (pu m.l[k]).1 from hgeq), List.map_append, List.append_assoc, hn1g]
          rfl
        · simp only [List.length_append]
          have : n1.length ≤ 1 := by
            have h9 := congrArg List.length hn1g
            rw [List.length_map] at h9
            rw [h9]; unfold gap1; split <;> simp
          omega
        · rcases List.mem_append.1 hq with hq | hq
          · exact hw.1.1.1 q hq
          · exact hN2 w hw.1.2 q hq
    · have hke : k = m.l.length := by have h9 : ¬ (k : Int) < (m.l.length : Int) := hge; omega
      have hnil : r.ps.drop k = [] := by rw [← hm]; exact List.drop_eq_nil_of_le (by simp; omega)
      rw [hnil] at hgp
      exact ⟨⟨k, place, m', new⟩, ⟨hp, hml, hgp, by simp only; omega⟩, ⟨rfl, rfl, rfl, rfl, trivial⟩, ⟨_, Pick.whole⟩, Ent.andL Ent.refl⟩
  · rintro ⟨_, place, m', new⟩ ⟨hp, hml, hgp, hnl⟩
    simp only at hp hml hgp hnl
    have hn1 : total (new.map pu) ≤ 65536 := by rw [← hgp, total_app] at hgt; omega
    refine vcLoad1_0 (Ent.gnO .here (fun w hw => Ob.row_at hw)) rfl ?_
    refine vcCall_of (rest := [.row b10 3 [.int .i64 E] 1, .row b12 3 [.int .i64 place] 1, .row b6 22 [.slice Ad d.length cd] 1, .row b5 3 [.int .i64 at_] 1, .row b4 25 [.pointer (some ⟨b, 0, none⟩)] 1])
      (.cons (.there (.there (.there (.there (.there .here))))) (.cons (.there (.there (.there (.there (.there .here))))) (.cons (.there (.there (.there (.there (.there .here))))) .nil)))
      (fill_spec b b8 b10 b12 b4 b6 b5 m' r.room r.off (max r.high E) final' (total (new.map pu)) E place at_ E Ad cd d _
        ⟨Ent.gnO .here (fun w hw => Ob.row_at hw), Ent.gnO (.there .here) (fun w hw => Ob.row_at hw), Ent.gnO (.there (.there (.there (.there .here)))) (fun w hw => Ob.row_at hw), Ent.gnO (.there (.there .here)) (fun w hw => Ob.row_at hw), Ent.gnO (.there (.there (.there .here))) (fun w hw => Ob.row_at hw), Ent.gnG hd⟩ ⟨hat.1, hp.1⟩ hEe.symm (by omega) (by rw [hml, List.length_append]; omega) (by omega) hcd (by omega)) (fun v own' N' hv => ?_)
    obtain ⟨m2, n1, rfl, hm2, hn1g, rfl, hN2⟩ := hv
    rw [Int.min_self] at hn1g ⊢
    have hml2 : m2.l.map pu = r.ps ++ gapsP at_ d E (max at_ r.off) r.ps := by
      rw [hm2, hml, List.map_append, List.map_append, hm, List.append_assoc, hn1g, hgp]
    have hprm : (m2.l.map pu).Perm (putEnd r at_ d fin).ps := by
      rw [hml2]
      show List.Perm _ (insP at_ d (at_ + d.length) (max at_ r.off) r.ps)
      rw [hEe]
      exact insP_perm.symm
    have hmem2 : ∀ q ∈ m2.l, 0 ≤ q.at_ ∧ q.at_ ≤ 4611686018427387904 := by
      intro q hq
      have h9 := hok.chain.mem (hprm.subset (List.mem_map_of_mem hq))
      have h10 : (putEnd r at_ d fin).high = max r.high (at_ + d.length) := rfl
      have h11 : pEnd (pu q) = q.at_ + q.d.length := rfl
      have h12 : (pu q).1 = q.at_ := rfl
      have h13 : (putEnd r at_ d fin).off = r.off := rfl
      rw [h10, h11, h12, h13, hEe] at h9
      omega
    have hlen2 : m2.l.length < 4611686018427387904 := by
      have h9 := congrArg List.length hn1g
      rw [List.length_map] at h9
      have h10 : (gap1 at_ d place E).length ≤ 1 := by unfold gap1; split <;> simp
      rw [hm2, hml, List.length_append, List.length_append]
      omega
    have htt : total (gapsP at_ d E (max at_ r.off) r.ps) = total (new.map pu) + total (gap1 at_ d place E) := by rw [← hgp, total_app]
    refine vcLoad1_0 (Ent.gnO (.there (.there (.there (.there (.there (.there (.there .here))))))) (fun w hw => Ob.row_at hw)) rfl ?_
    refine vcLoad1_row (j := 4) (Ent.gnO (.there .here) (fun w hw => Ob.row_at hw)) rfl ?_
    refine vcCall_of (.cons (.there (.there .here)) .nil) (sortP_spec m2.A m2.c m2.l _ hmem2 hlen2) (fun v own' N' hv => ?_)
    obtain ⟨rfl, ⟨l', hl1, hl2, rfl⟩, rfl⟩ := hv
    refine vcLoad1_0 (Ent.gnO (.there .here) (fun w hw => Ob.row_at hw)) rfl ?_
    refine vcStore1_0 (.row b8 _ _ _) _ (.there .here) rfl (by show (0 : Nat) < 1; decide) rfl ?_
    refine vcLoad1_0 (Ent.gnO .here (fun w hw => Ob.row_at hw)) rfl ?_
    have hlen : l'.length = m2.l.length := hl1.length_eq
    have hps : l'.map pu = (putEnd r at_ d fin).ps := sorted_eq ((hl1.map pu).trans hprm) (by rw [List.pairwise_map]; exact hl2) hin.strict
    have hR : rbR b m2.A l'.length m2.c (putEnd r at_ d fin).room (putEnd r at_ d fin).off (putEnd r at_ d fin).high (putEnd r at_ d fin).final = rbR b m2.A m2.l.length m2.c r.room r.off (max r.high E) final' := by
      rw [hlen, hfin, ← hEe]; rfl
    refine ⟨rbO b ⟨m2.A, m2.c, l'⟩ (putEnd r at_ d fin), _, PcsAt (new ++ n1), .cons (.there (.there (Take.eq hR))) (.cons (.there .here) .nil), fun w hw _ q hq => ?_, ⟨m2.A, m2.c, l'⟩, ?_, by rw [hput], by rw [hput]; exact hps, fun w hw q hq => ?_⟩
    · rcases List.mem_append.1 hq with hq | hq
      · exact hw.1.1 q hq
      · exact hN2 w hw.1.2 q hq
    · rw [hput, htt]; rfl
    · have hq2 := hl1.subset hq
      rw [hm2, hml, List.append_assoc] at hq2
      rcases List.mem_append.1 hq2 with hq2 | hq2
      · exact hw.1 q hq2
      · exact hw.2 q hq2
end Go.Proofs.Yteomgafghiockaa
