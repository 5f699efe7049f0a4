/- A reassembly buffer, plain: a new piece's place among the others. -/
import Derived.Test.YteomgafghiockaaReaE
import Derived.Test.YteomgafghiockaaReaS
namespace Go.Proofs.Yteomgafghiockaa
open Go.Proofs
set_option maxRecDepth 10000

theorem gap1_chain {at_ : Int} {d : List UInt8} {lo hi lo' hi' : Int} {r : List Pc} (h1 : at_ ≤ lo) (h3 : hi ≤ at_ + d.length) (h4 : lo' ≤ lo) (h5 : lo < hi → Chain hi' hi r) (h7 : ¬ lo < hi → Chain hi' lo' r) : Chain hi' lo' (gap1 at_ d lo hi ++ r) := by
  unfold gap1
  split
  · rename_i h
    have hl := cutD_len (at_ := at_) (d := d) h1 (by omega) h3
    refine ⟨h4, by omega, ?_⟩
    have : pEnd (cutD at_ d lo hi) = hi := by
      unfold pEnd
      rw [hl]
      show lo + (hi - lo) = _
      omega
    show Chain hi' (pEnd (cutD at_ d lo hi)) r
    rw [this]; exact h5 h
  · rename_i h
    exact h7 h
theorem insP_chain {at_ : Int} {d : List UInt8} {e hi : Int} (he : e = at_ + d.length) : ∀ {ps : List Pc} {lo place : Int}, Chain hi lo ps → at_ ≤ place → lo ≤ place → Chain (max hi e) lo (insP at_ d e place ps)
  | [], lo, place, h, h1, h2 => by
    have hlo : lo ≤ hi := h
    show Chain (max hi e) lo (gap1 at_ d place e)
    unfold gap1
    split
    · rename_i hlt
      have hl := cutD_len (at_ := at_) (d := d) h1 (by omega) (by omega : e ≤ at_ + d.length)
      refine ⟨h2, by omega, ?_⟩
      show pEnd (cutD at_ d place e) ≤ max hi e
      unfold pEnd
      rw [hl]
      show place + (e - place) ≤ _
      omega
    · show lo ≤ max hi e
      omega
  | p :: r, lo, place, ⟨h3, h4, h5⟩, h1, h2 => by
    have hp := h5.le
    unfold insP
    split
    · rename_i hle
      exact gap1_chain h1 (by omega) h2 (fun _ => ⟨hle, h4, h5.up (by omega)⟩) (fun _ => ⟨h3, h4, h5.up (by omega)⟩)
    · rename_i hle
      have ih := insP_chain he (place := max place (pEnd p)) h5 (by omega) (by omega)
      exact gap1_chain h1 (by omega) h2 (fun _ => ⟨Int.le_refl _, h4, ih⟩) (fun _ => ⟨h3, h4, ih⟩)
theorem insP_perm {at_ : Int} {d : List UInt8} {e : Int} : ∀ {ps : List Pc} {place : Int}, (insP at_ d e place ps).Perm (ps ++ gapsP at_ d e place ps)
  | [], place => .refl _
  | p :: r, place => by
    unfold insP gapsP
    split
    · exact List.perm_append_comm
    · have ih := insP_perm (at_ := at_) (d := d) (e := e) (ps := r) (place := max place (pEnd p))
      refine List.Perm.trans List.perm_append_comm ?_
      rw [List.cons_append, List.cons_append]
      refine List.Perm.cons p ?_
      refine (ih.append_right _).trans ?_
      rw [List.append_assoc]
      exact List.perm_append_comm.append_left _
theorem Chain.strict {hi : Int} : ∀ {lo : Int} {ps : List Pc}, Chain hi lo ps → ps.Pairwise (fun x y => x.1 < y.1)
  | _, [], _ => .nil
  | _, p :: r, ⟨h1, h2, h3⟩ => by
    refine List.Pairwise.cons (fun y hy => ?_) h3.strict
    have := h3.mem hy
    unfold pEnd at this
    omega
theorem sorted_eq : ∀ {a b : List Pc}, a.Perm b → a.Pairwise (fun x y => x.1 ≤ y.1) → b.Pairwise (fun x y => x.1 < y.1) → a = b
  | [], b, hp, _, _ => by rw [List.nil_perm] at hp; exact hp.symm
  | x :: a, [], hp, _, _ => by rw [List.perm_nil] at hp; cases hp
  | x :: a, y :: b, hp, ha, hb => by
    rw [List.pairwise_cons] at ha hb
    have hx : x ∈ y :: b := hp.subset (List.mem_cons_self ..)
    have hy : y ∈ x :: a := hp.symm.subset (List.mem_cons_self ..)
    obtain rfl : x = y := by
      rcases List.mem_cons.1 hx with h | h
      · exact h
      · rcases List.mem_cons.1 hy with h' | h'
        · exact h'.symm
        · have h1 := hb.1 _ h
          have h2 := ha.1 _ h'
          omega
    rw [sorted_eq ((List.perm_cons x).1 hp) ha.2 hb.2]
end Go.Proofs.Yteomgafghiockaa
