/- Parameters: Same, copied, awake. -/
import Derived.Test.YtaknehiifafhfaaParH
namespace Go.Proofs.Ytaknehiifafhfaa
open Go.Proofs
set_option maxRecDepth 20000

def sameI (p q : Pm) (i : Int) : Bool := decide (rN p i = rN q i) && (rH p i == rH q i) && (!rH p i || decide (rB p i = rB q i))
def sameN (p q : Pm) (k : Nat) : Bool := (List.range k).all fun i => sameI p q i
theorem sameN_succ (p q : Pm) (k : Nat) : sameN p q (k + 1) = (sameN p q k && sameI p q k) := by
  unfold sameN
  rw [List.range_succ, List.all_append]; simp
theorem sameN_mono {p q : Pm} {k m : Nat} (h : sameN p q m = true) (hk : k < m) : sameI p q k = true := by
  unfold sameN at h
  rw [List.all_eq_true] at h
  exact h k (List.mem_range.2 hk)
def sameP (p q : Pm) : Bool := sameN p q 17 && (p.nm == q.nm)
theorem sameP_refl (p : Pm) : sameP p p = true := by
  unfold sameP sameN sameI
  simp
def Small (p : Pm) : Prop := ∀ y ∈ p.bys, y.length ≤ 140737488355328
theorem Small.rB {p : Pm} (h : Small p) (id : Int) : (rB p id).length ≤ 140737488355328 := by
  unfold Proofs.Ytaknehiifafhfaa.rB
  split
  · rename_i j _ _ _ _
    unfold Pm.by_
    by_cases hj : j < p.bys.length
    · rw [List.getElem?_eq_getElem hj]; exact h _ (List.getElem_mem hj)
    · rw [List.getElem?_eq_none (by omega)]; exact Nat.zero_le _
  · exact Nat.zero_le _
theorem samep_spec (As Bs' : List SlA) (p q : Pm) (G : Mp) (hp : p.Ok) (hq : q.Ok) (hA : As.length = 4) (hB : Bs'.length = 4) (h1 : Ent G (PmAt As p)) (h2 : Ent G (PmAt Bs' q)) (hs : Small p) :
    Spec Try.prog 12 #[.agg (refC As p).toArray, .agg (refC Bs' q).toArray] [] G (Ret (.bool (sameP p q))) := by
  refine Spec.intro (args := [_, _]) wide Try.func12 rfl Try.call12 (by rfl) (by rfl) (fun w0 hw0 => ?_)
  intro b2 b3
  refine vcLoop_of (fun k : Nat => 17 - k) (fun k => [(2, .pointer (some ⟨b2, 0, none⟩)), (3, .pointer (some ⟨b3, 0, none⟩)), (5, .int .i64 k)]) (fun _ => [.row b2 33 (refC As p) (refC As p).length, .row b3 33 (refC Bs' q) (refC Bs' q).length]) (fun _ => MT) (fun k => k ≤ 17 ∧ sameN p q k = true)
    0 ⟨by omega, rfl⟩ ⟨rfl, rfl, rfl, trivial⟩ ⟨_, .cons (by first | ((repeat (first | exact .here | apply Take.there)); done) | exact .none_) (.cons (by first | ((repeat (first | exact .here | apply Take.there)); done) | exact .none_) .nil)⟩ (fun _ _ => trivial) ?_
  rintro k ⟨hk, hch⟩
  have fin : ∀ (u : Bool) (own : List Ob) (N : Mp), u = sameP p q → ∃ (own' rest : List Ob) (N' : Mp), Pick own' own rest ∧ (∀ w, N w → Objs rest w → N' w) ∧ Ret (.bool (sameP p q)) (.bool u) own' N' := fun u own N h => ⟨[], own, MT, .nil, fun _ _ _ => trivial, by rw [h], rfl, rfl⟩
  refine vcIf_dec (fun hlt => ?_) (fun hge => ?_)
  · have hk' : k < 17 := by omega
    have bad : sameI p q k = false → false = sameP p q := fun h => by
      cases hs : sameP p q with
      | false => rfl
      | true =>
        unfold sameP at hs
        rw [Bool.and_eq_true] at hs
        rw [sameN_mono hs.1 hk'] at h; cases h
    have good : sameI p q k = true → k + 1 ≤ 17 ∧ sameN p q (k + 1) = true := fun h => ⟨by omega, by rw [sameN_succ, hch, h]; rfl⟩
    have m1 : Ent (MpAnd (RowAt (some ⟨b2, 0, none⟩) (refC As p)) (RowAt (some ⟨b3, 0, none⟩) (refC Bs' q))) (RowAt (some ⟨b2, 0, none⟩) (refC As p)) := fun _ h => h.1
    have m2 : Ent (MpAnd (RowAt (some ⟨b2, 0, none⟩) (refC As p)) (RowAt (some ⟨b3, 0, none⟩) (refC Bs' q))) (RowAt (some ⟨b3, 0, none⟩) (refC Bs' q)) := fun _ h => h.2
    have g1 : (refC As p)[0 + k]? = some (.int .i64 (rN p k)) := by rw [Nat.zero_add]; exact refC_num As p hk'
    have g2 : (refC Bs' q)[0 + k]? = some (.int .i64 (rN q k)) := by rw [Nat.zero_add]; exact refC_num Bs' q hk'
    have loop : sameI p q k = true → ∃ g' : Nat, g' = k + 1 ∧ g' ≤ 17 ∧ sameN p q g' = true := fun h => ⟨k + 1, rfl, good h⟩
    refine vcDraw_mix [0,1,2,3,4,5,6,7,8,9,10,11,12,13,14,15,16,17,18,19,20,21,22,23,24,25,26,27,28,29,30,31,32,33,34,35,36,37] (MpAnd (RowAt (some ⟨b2, 0, none⟩) (refC As p)) (RowAt (some ⟨b3, 0, none⟩) (refC Bs' q))) (by kernel_rfl) (Ent.both (Ent.gnO (by first | ((repeat (first | exact .here | apply Take.there)); done) | exact .none_) (fun w hw => Ob.row_at hw)) (Ent.gnO (by first | ((repeat (first | exact .here | apply Take.there)); done) | exact .none_) (fun w hw => Ob.row_at hw))) ?_
    refine vcAt_nat k rfl hk' ?_
    refine vcLoad1_2 m1 g1 ?_
    refine vcAt_nat k rfl hk' ?_
    refine vcLoad1_2 m2 g2 ?_
    refine vcIf_ndec (fun hne => ?_) (fun heq => ?_)
    · refine fin _ _ _ (bad ?_)
      unfold sameI; rw [decide_eq_false hne, Bool.false_and, Bool.false_and]
    refine vcAt_nat k rfl hk' ?_
    refine vcLoad1_2 m1 (refC_has As p hk') ?_
    refine vcAt_nat k rfl hk' ?_
    refine vcLoad1_2 m2 (refC_has Bs' q hk') ?_
    have hsi : sameI p q k = ((rH p k == rH q k) && (!rH p k || decide (rB p k = rB q k))) := by unfold sameI; rw [decide_eq_true heq, Bool.true_and]
    cases hpk : rH p k with
    | false =>
      cases hqk : rH q k with
      | true =>
        refine fin _ _ _ (bad ?_)
        rw [hsi, hpk, hqk]; rfl
      | false =>
        refine vcAt_nat k rfl hk' ?_
        refine vcLoad1_2 m1 ((refC_has As p hk').trans (by rw [hpk])) ?_
        refine vcFit_i64 (by omega) ?_
        exact ⟨k + 1, good (by rw [hsi, hpk, hqk]; rfl), by omega, ⟨rfl, rfl, rfl, trivial⟩, ⟨_, .cons (by first | ((repeat (first | exact .here | apply Take.there)); done) | exact .none_) (.cons (by first | ((repeat (first | exact .here | apply Take.there)); done) | exact .none_) .nil)⟩, fun _ _ => trivial⟩
    | true =>
      cases hqk : rH q k with
      | false =>
        refine fin _ _ _ (bad ?_)
        rw [hsi, hpk, hqk]; rfl
      | true =>
        refine vcAt_nat k rfl hk' ?_
        refine vcLoad1_2 m1 ((refC_has As p hk').trans (by rw [hpk])) ?_
        refine vcAt_nat k rfl hk' ?_
        refine vcLoad1_2 m1 (refC_by As p hk') ?_
        refine vcAt_nat k rfl hk' ?_
        refine vcLoad1_2 m2 (refC_by Bs' q hk') ?_
        have hb := hs.rB k
        refine vcCall_of .nil (same_spec (rA As k).1 (rA Bs' k).1 (rA As k).2 (rA Bs' k).2 (rB p k) (rB q k) _ (Ent.gnG (h1.mono fun w h => h.byId hp hA k)) (Ent.gnG (h2.mono fun w h => h.byId hq hB k)) (by omega)) (fun v own' N' hv => ?_)
        obtain ⟨rfl, rfl, rfl⟩ := hv
        refine vcMix_same (Ent.both (Ent.gnO (by first | ((repeat (first | exact .here | apply Take.there)); done) | exact .none_) (fun w hw => Ob.row_at hw)) (Ent.gnO (by first | ((repeat (first | exact .here | apply Take.there)); done) | exact .none_) (fun w hw => Ob.row_at hw))) ?_
        refine vcIf_ndec (fun hne => ?_) (fun heq2 => ?_)
        · refine fin _ _ _ (bad ?_)
          rw [hsi, hpk, hqk, decide_eq_false hne]; rfl
        · refine vcFit_i64 (by omega) ?_
          exact ⟨k + 1, good (by rw [hsi, hpk, hqk, decide_eq_true heq2]; rfl), by omega, ⟨rfl, rfl, rfl, trivial⟩, ⟨_, .cons (by first | ((repeat (first | exact .here | apply Take.there)); done) | exact .none_) (.cons (by first | ((repeat (first | exact .here | apply Take.there)); done) | exact .none_) .nil)⟩, fun _ _ => trivial⟩
  · obtain rfl : k = 17 := by omega
    refine vcLoad1_row (Ent.gnO (by first | ((repeat (first | exact .here | apply Take.there)); done) | exact .none_) (fun w hw => Ob.row_at hw)) (refC_nm As p) ?_
    refine vcLoad1_row (Ent.gnO (by first | ((repeat (first | exact .here | apply Take.there)); done) | exact .none_) (fun w hw => Ob.row_at hw)) (refC_nm Bs' q) ?_
    refine fin _ _ _ ?_
    unfold sameP
    rw [hch, Bool.true_and]
end Go.Proofs.Ytaknehiifafhfaa
