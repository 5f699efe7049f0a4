/- Parameters: the reference's take and Decode. -/
import Derived.Test.YtaknehiifafhfaaParE
namespace Go.Proofs.Ytaknehiifafhfaa
open Go.Proofs
set_option maxRecDepth 10000

def rtakeOk (id : Int) (val : List UInt8) : Bool := match itemT id with
  | .num _ _ _ => decide ((vget val 0).2.2 = 0 ∧ (vget val 0).2.1 = val.length)
  | .txt _ _ _ _ => true
  | .none => if id = 12 then decide (val.length = 0) else true
theorem takeP_split {p : Pm} (hp : p.Ok) (id : Int) (val : List UInt8) (server : Bool) : (takeP p id val server).2 = (rtakeOk id val && okIt (takeP p id val server).1 server (itemT id)) := by
  cases hit : itemT id with
  | num j lo hi =>
    have hj := itemT_num hit
    unfold takeP rtakeOk
    rw [hit]
    simp only [okIt]
    congr 1
    simp [Pm.num, hp.n, hj.1]
  | txt j lo hi s =>
    have hj := itemT_txt hit
    unfold takeP rtakeOk
    rw [hit]
    simp only [okIt]
    simp [Pm.has, Pm.by_, hp.h, hp.b, hj.1]
  | none =>
    unfold takeP rtakeOk
    rw [hit]
    simp only [okIt]
    split <;> simp
theorem rtake_spec (b : Nat) (As : List SlA) (p : Pm) (id : Int) (Av : Option Addr) (cv : Nat) (val : List UInt8) (server : Bool) (G : Mp) (hp : p.Ok) (hA : As.length = 4) (h1 : Ent G (RowAt Av (Bs val))) (hm : val.length ≤ 9223372036854775799) :
    Spec Try.prog 33 #[.pointer (some ⟨b, 0, none⟩), .int .i64 id, .slice Av val.length cv] [.row b 33 (refC As p) 52] G
      (fun v own N => v = .bool (rtakeOk id val) ∧ own = [.row b 33 (refC (takeA As id (Av, cv)) (takeP p id val server).1) 52] ∧ N = MT) := by
  refine Spec.intro (args := [_, _, _]) wide Try.func33 rfl Try.call33 (by rfl) (by rfl) (fun w0 hw0 => ?_)
  have hl := refC_len As p
  refine vcCall_of .nil (kind_spec id _) (fun v own' N' hv => ?_); obtain ⟨rfl, rfl, rfl⟩ := hv
  cases hit : itemT id with
  | num j lo hi =>
    have hr := itemT_range id
    rw [hit] at hr
    obtain ⟨h0, h16, _, _⟩ := hr.resolve_left (by simp)
    obtain ⟨k, rfl⟩ := Int.eq_ofNat_of_zero_le h0
    have hk : k < 17 := by omega
    have hkb : kindB k = 110 := by unfold kindB; rw [hit]
    have e1 : takeA As k (Av, cv) = As := by unfold takeA; rw [hit]
    have e2 : (takeP p k val server).1 = { p with nums := p.nums.set j (vget val 0).1 } := by unfold takeP; rw [hit]
    have e3 : rtakeOk k val = decide ((vget val 0).2.2 = 0 ∧ (vget val 0).2.1 = val.length) := by unfold rtakeOk; rw [hit]
    rw [e1, e2, e3, hkb]
    refine vcCall_of .nil (rget_spec Av cv val 0 _ (Ent.gnG h1) hm) (fun v own' N' hv => ?_)
    obtain ⟨rfl, rfl, rfl⟩ := hv
    generalize vget val 0 = g
    obtain ⟨n, en, e⟩ := g
    have hset := refC_setNum (As := As) hp hk hit n
    refine vcAt_nat k rfl hk ?_
    refine vcStore1_2 (.row b _ (refC As p) 52) _ .here rfl (by show 0 + k + 0 < (refC As p).length; omega) rfl ?_
    have fin : ∀ (u : Bool) (N : Mp), u = decide (e = 0 ∧ en = (val.length : Int)) → ∃ (own' rest : List Ob) (N' : Mp), Pick own' [(Ob.row b 33 (refC As p) 52).set (0 + k + 0) (.int .i64 n)] rest ∧ (∀ w, N w → Objs rest w → N' w) ∧
        (Value.bool u = .bool (decide (e = 0 ∧ en = (val.length : Int))) ∧ own' = [.row b 33 (refC As { p with nums := p.nums.set j n }) 52] ∧ N' = MT) := fun u N hu => by
      refine ⟨_, _, MT, .cons .here .nil, fun _ _ _ => trivial, by rw [hu], ?_, rfl⟩
      show [Ob.row b _ ((refC As p).set (0 + k + 0) (.int .i64 n)) 52] = _
      rw [show 0 + k + 0 = k from by omega, hset]
    refine vcIf_dec (fun he => ?_) (fun he => ?_)
    · refine fin _ _ ?_
      exact decide_eq_decide.2 ⟨fun h => ⟨he, h⟩, fun h => h.2⟩
    · refine fin _ _ ?_
      exact (decide_eq_false fun h => he h.1).symm
  | txt j lo hi s =>
    have hr := itemT_range id
    rw [hit] at hr
    obtain ⟨h0, h16, _, _⟩ := hr.resolve_left (by simp)
    obtain ⟨k, rfl⟩ := Int.eq_ofNat_of_zero_le h0
    have hk : k < 17 := by omega
    have hkb : kindB k = 98 := by unfold kindB; rw [hit]
    have e1 : takeA As k (Av, cv) = As.set j (Av, cv) := by unfold takeA; rw [hit]
    have e2 : (takeP p k val server).1 = { p with hs := p.hs.set j true, bys := p.bys.set j val } := by unfold takeP; rw [hit]
    have e3 : rtakeOk k val = true := by unfold rtakeOk; rw [hit]
    rw [e1, e2, e3, hkb]
    have hp1 : Pm.Ok { p with hs := p.hs.set j true } := ⟨by simpa using hp.h, hp.b, hp.n⟩
    have hset : ((refC As p).set (17 + k) (.bool true)).set (34 + k) (.slice Av val.length cv) = refC (As.set j (Av, cv)) { p with hs := p.hs.set j true, bys := p.bys.set j val } := by
      rw [refC_setHas hp hk hit]
      exact refC_setBy hp1 hA hk hit (Av, cv) val
    refine vcDraw_mix [0,1,2,3,4,5,6,7,9,10,8,11,12] MT (by kernel_rfl) (fun _ _ => trivial) ?_
    refine vcAt_nat k rfl hk ?_
    refine vcStore1_2 (.row b _ (refC As p) 52) _ .here rfl (by show 17 + k + 0 < (refC As p).length; omega) rfl ?_
    refine vcMix_same (fun _ _ => trivial) ?_
    refine vcAt_nat k rfl hk ?_
    refine vcStore1_2 (.row b _ ((refC As p).set (17 + k + 0) (.bool true)) 52) _ .here rfl (by show 34 + k + 0 < ((refC As p).set _ _).length; rw [List.length_set]; omega) rfl ?_
    refine vcMix_same (fun _ _ => trivial) ?_
    refine ⟨_, _, MT, .cons .here .nil, fun _ _ _ => trivial, rfl, ?_, rfl⟩
    show [Ob.row b _ (((refC As p).set (17 + k) (.bool true)).set (34 + k) (.slice Av val.length cv)) 52] = _
    rw [hset]
  | none =>
    have e1 : takeA As id (Av, cv) = As := by unfold takeA; rw [hit]
    have e2 : (takeP p id val server).1 = if id = 12 then { p with nm := true } else p := by unfold takeP; rw [hit]; simp only; split <;> rfl
    have e3 : rtakeOk id val = if id = 12 then decide (val.length = 0) else true := by unfold rtakeOk; rw [hit]
    have hkb : kindB id = if id = 12 then 48 else 32 := by unfold kindB; rw [hit]
    rw [e1, e2, e3, hkb]
    by_cases h12 : id = 12
    · rw [if_pos h12, if_pos h12, if_pos h12]
      refine vcStore1_1 (.row b _ (refC As p) 52) _ .here rfl (by show 51 + 0 < (refC As p).length; omega) rfl ?_
      refine ⟨_, _, MT, .cons .here .nil, fun _ _ _ => trivial, ?_, ?_, rfl⟩
      · exact congrArg Value.bool (decide_eq_decide.2 (by omega))
      · show [Ob.row b _ ((refC As p).set 51 (.bool true)) 52] = _
        rw [refC_setNm]
    · rw [if_neg h12, if_neg h12, if_neg h12]
      exact ⟨_, _, MT, .cons .here .nil, fun _ _ _ => trivial, rfl, rfl, rfl⟩
theorem rightID_spec (As : List SlA) (p : Pm) (id : Int) (server : Bool) (G : Mp) :
    Spec Try.prog 34 #[.agg (refC As p).toArray, .int .i64 id, .bool server] [] G (Ret (.bool (okIt p server (itemT id)))) := by
  refine Spec.intro (args := [_, _, _]) wide Try.func34 rfl Try.call34 (by rfl) (by rfl) (fun w0 hw0 => ?_)
  intro b
  refine vcCall_of .nil (kind_spec id _) (fun v own' N' hv => ?_); obtain ⟨rfl, rfl, rfl⟩ := hv
  have fin : ∀ (u v : Bool) (own : List Ob) (N : Mp), u = v → ∃ (own' rest : List Ob) (N' : Mp), Pick own' own rest ∧ (∀ w, N w → Objs rest w → N' w) ∧ Ret (.bool u) (.bool v) own' N' := fun u v own N h => ⟨[], own, MT, .nil, fun _ _ _ => trivial, by rw [h], rfl, rfl⟩
  by_cases hr : 0 ≤ id ∧ id ≤ 16
  · obtain ⟨k, rfl⟩ := Int.eq_ofNat_of_zero_le hr.1
    have hk : k < 17 := by omega
    refine vcIf_dec (fun h => ?_) (fun h => ?_)
    · refine fin _ _ _ _ ?_
      unfold kindB at h
      cases hit : itemT k with
      | num j lo hi => rw [hit] at h; simp at h
      | txt j lo hi s => rw [hit] at h; simp at h
      | none => rfl
    · refine vcLoadN_0 (Ent.gnO .here (fun w hw => Ob.row_at hw)) (refC_len As p) ?_
      refine vcCall_of .nil (rright_spec As p k server _ hk) (fun v own' N' hv => ?_); obtain ⟨rfl, rfl, rfl⟩ := hv
      exact fin _ _ _ _ rfl
  · have hit : itemT id = .none := (itemT_range id).resolve_right (fun h => hr ⟨h.1, h.2.1⟩)
    refine vcIf_yes (by unfold kindB; rw [hit]; simp only; rw [if_neg (by rintro rfl; exact hr (by decide))]) ?_
    refine fin _ _ _ _ ?_
    rw [hit]; rfl
end Go.Proofs.Ytaknehiifafhfaa
