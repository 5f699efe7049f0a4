/- ParamsDecodes. -/
import Derived.Test.YtaknehiifafhfaaParJ
namespace Go.Proofs.Ytaknehiifafhfaa
open Go.Proofs
set_option maxRecDepth 20000

theorem takeP_bys {p : Pm} {id : Int} {val : List UInt8} {server : Bool} {M : Nat} (h : ∀ y ∈ p.bys, y.length ≤ M) (hv : val.length ≤ M) : ∀ y ∈ (takeP p id val server).1.bys, y.length ≤ M := by
  intro y hy
  unfold takeP at hy
  split at hy
  · exact h y hy
  · rcases List.mem_or_eq_of_mem_set hy with hy | rfl
    · exact h y hy
    · exact hv
  · split at hy
    · exact h y hy
    · exact h y hy
theorem ParD.small {bs : List UInt8} {server : Bool} {M : Nat} (hM : bs.length ≤ M) {s : DS} {r : Pm × Int × Int} (h : ParD bs server s r) : (∀ y ∈ s.p.bys, y.length ≤ M) → ∀ y ∈ r.1.bys, y.length ≤ M := by
  induction h with
  | done h => exact id
  | err h he =>
    intro _ y hy
    simp only [zeroP, List.mem_cons, List.not_mem_nil, or_false, or_self] at hy
    subst hy; exact Nat.zero_le _
  | @step s s' h he r k ih =>
    intro hs
    refine ih ?_
    unfold decStep at he
    split at he
    · cases he
    split at he
    · cases he
    split at he
    · cases he
    simp only [Sum.inr.injEq] at he
    subst he
    exact takeP_bys hs (Nat.le_trans (rbytes_len _ _ _) hM)
theorem DecR.small {bs : List UInt8} {server : Bool} {r : Pm × Int × Int} (h : DecR bs server r) : Small r.1 := by
  rcases h with ⟨_, rfl⟩ | ⟨hl, h⟩
  · intro y hy
    simp only [zeroP, List.mem_cons, List.not_mem_nil, or_false, or_self] at hy
    subst hy; exact Nat.zero_le _
  · refine h.small (M := 140737488355328) (by omega) fun y hy => ?_
    simp only [s0, usualP, List.mem_cons, List.not_mem_nil, or_false, or_self] at hy
    subst hy; exact Nat.zero_le _

theorem decodes_spec (A : Option Addr) (c : Nat) (bs : List UInt8) (server : Bool) (G : Mp) (h1 : Ent G (RowAt A (Bs bs))) (hc : bs.length ≤ c) (hx : bs.length ≤ 140737488355328) :
    Spec Try.prog 3 #[.slice A bs.length c, .bool server] [] G (Ret (.bool true)) := by
  refine Spec.intro (args := [_, _]) wide Try.func3 rfl Try.call3 (by rfl) (by rfl) (fun w0 hw0 => ?_)
  refine vcCall_of .nil (copyG_spec A c bs _ (Ent.gnG h1) (by omega)) (fun v own' N0 hv => ?_)
  obtain ⟨A0, c0, rfl, rfl, k0, _⟩ := hv
  refine vcCall_of .nil (decode_spec A0 c0 bs server _ (Ent.gnN (Ent.andR k0)) hx) (fun v own' N1 hv => ?_)
  obtain ⟨As, r, rfl, rfl, hm, hA, hok, hd⟩ := hv
  intro b6
  refine ⟨(pC_len hok hA).trans (by rfl), vcStoreN_row (xs := pC nilAs zeroP) (m := 20) _ .here (by exact pC_len hok hA) (pC_one _ _) ?_⟩
  refine vcCall_of .nil (rdecode_spec A c bs server _ (Ent.gnG h1) hc) (fun v own' N2 hv => ?_)
  obtain ⟨Bs', r', rfl, rfl, hm', hB, hok', hd'⟩ := hv
  obtain rfl := hd.unique hd'
  intro b9
  refine ⟨(refC_len _ _).trans (by rfl), vcStoreN_row (xs := refC nilAs zeroP) (m := 52) _ .here (by exact refC_len _ _) (refC_one _ _) ?_⟩
  refine vcDraw_mix [0,1,2,4,3,5,6,7,8,9,10,11,12,13,14,15,16,17,18,19,20,21,22] (MpAnd (RowAt (some ⟨b6, 0, none⟩) (pC As r.1)) (RowAt (some ⟨b9, 0, none⟩) (refC Bs' r.1))) (by kernel_rfl) (Ent.both (Ent.gnO (by first | ((repeat (first | exact .here | apply Take.there)); done) | exact .none_) (fun w hw => Ob.row_at hw)) (Ent.gnO (by first | ((repeat (first | exact .here | apply Take.there)); done) | exact .none_) (fun w hw => Ob.row_at hw))) ?_
  refine vcCall_of .nil (awake9_spec _) (fun v own' N' hv => ?_); obtain ⟨rfl, rfl, rfl⟩ := hv
  refine vcMix_same (Ent.both (Ent.gnO (by first | ((repeat (first | exact .here | apply Take.there)); done) | exact .none_) (fun w hw => Ob.row_at hw)) (Ent.gnO (by first | ((repeat (first | exact .here | apply Take.there)); done) | exact .none_) (fun w hw => Ob.row_at hw))) ?_
  refine vcLoadN_0 (xs := pC As r.1) (fun _ h => h.1) (pC_len hok hA) ?_
  refine vcLoadN_0 (xs := refC Bs' r.1) (fun _ h => h.2) (refC_len _ _) ?_
  refine vcCall_of .nil (of_spec As r.1 _ hok hA) (fun v own' N' hv => ?_); obtain ⟨rfl, rfl, rfl⟩ := hv
  refine vcMix_same (Ent.both (Ent.gnO (by first | ((repeat (first | exact .here | apply Take.there)); done) | exact .none_) (fun w hw => Ob.row_at hw)) (Ent.gnO (by first | ((repeat (first | exact .here | apply Take.there)); done) | exact .none_) (fun w hw => Ob.row_at hw))) ?_
  refine vcCall_of .nil (samep_spec As Bs' r.1 r.1 _ hok hok hA hB (Ent.gnN (by repeat first | exact hm | exact Ent.andR hm | refine Ent.andL ?_)) (Ent.gnN (by repeat first | exact hm' | exact Ent.andR hm' | refine Ent.andL ?_)) hd.small) (fun v own' N' hv => ?_)
  obtain ⟨rfl, rfl, rfl⟩ := hv
  rw [sameP_refl]
  refine vcMix_same (Ent.both (Ent.gnO (by first | ((repeat (first | exact .here | apply Take.there)); done) | exact .none_) (fun w hw => Ob.row_at hw)) (Ent.gnO (by first | ((repeat (first | exact .here | apply Take.there)); done) | exact .none_) (fun w hw => Ob.row_at hw))) ?_
  refine vcIf_yes rfl ?_
  refine vcIf_yes rfl ?_
  refine vcCall_of .nil (same_spec A0 A c0 c bs bs _ (Ent.gnN (by repeat first | exact k0 | exact Ent.andR k0 | refine Ent.andL ?_)) (Ent.gnG h1) (by omega)) (fun v own' N' hv => ?_)
  obtain ⟨rfl, rfl, rfl⟩ := hv
  refine vcMix_same (Ent.both (Ent.gnO (by first | ((repeat (first | exact .here | apply Take.there)); done) | exact .none_) (fun w hw => Ob.row_at hw)) (Ent.gnO (by first | ((repeat (first | exact .here | apply Take.there)); done) | exact .none_) (fun w hw => Ob.row_at hw))) ?_
  exact ⟨[], _, MT, .nil, fun _ _ _ => trivial, congrArg Value.bool (decide_eq_true rfl), rfl, rfl⟩
end Go.Proofs.Ytaknehiifafhfaa
