/- The laws of layer 1: what their functions answer. -/
import Derived.Test.YtklcogbbpimccaaVarJ
namespace Go.Proofs.Ytklcogbbpimccaa
open Go.Proofs
set_option maxRecDepth 10000

theorem vput_awake : vput 15293 = [123, 189] := by decide +kernel
theorem vget_awake : vget [64, 37] 0 = (37, 2, 0) := by decide +kernel

theorem awake_spec (G : Mp) : Spec Try.prog 12 #[] [] G (Ret (.bool true)) := by
  refine Spec.intro (args := []) wide Try.func12 rfl Try.call12 (by rfl) (by rfl) (fun w0 hw0 => ?_)
  refine vcCall_of .nil (put_spec 15293 (by omega) _) (fun v own' N' hv => ?_)
  obtain ⟨A, cap, rfl, rfl, rfl, hcap⟩ := hv
  rw [vput_awake, if_pos (show hasForm 15293 from ⟨by omega, by omega⟩)]
  rw [vput_awake] at hcap
  intro b
  refine vcCall_of .nil (get_spec (some ⟨b, 0, none⟩) 2 [64, 37] 0 _ (Ent.gnO .here fun w hw => Ob.sl_at hw) (by decide) (by decide)) (fun v own' N' hv => ?_)
  obtain ⟨rfl, rfl, rfl⟩ := hv
  rw [vget_awake]
  refine vcIdx_row (Ent.gnO (.there .here) fun w hw => Ob.sl_at hw) ⟨by omega, by decide⟩ (by decide) (fun a ha => ?_)
  subst ha
  refine vcLoad1_row (v := .int .u8 123) (Ent.gnO (.there .here) fun w hw => Ob.sl_at hw) rfl ?_
  exact ⟨[], _, MT, .nil, fun _ _ _ => trivial, rfl, rfl, rfl⟩

theorem gets_spec (A : Option Addr) (c : Nat) (bs : List UInt8) (at_ : Int) (G : Mp) (h1 : Ent G (RowAt A (Bs bs))) (hc : bs.length ≤ c) (hm : c ≤ 140737488355328) :
    Spec Try.prog 3 #[.slice A bs.length c, .int .i64 at_] [] G (Ret (.bool true)) := by
  refine Spec.intro (args := [_, _]) wide Try.func3 rfl Try.call3 (by rfl) (by rfl) (fun w0 hw0 => ?_)
  refine vcCall_of .nil (copy_spec A c bs _ (Ent.gnG h1) (by omega)) (fun v own' N' hv => ?_)
  obtain ⟨A', c', rfl, rfl, rfl, hc'⟩ := hv
  refine vcCall_of .nil (get_spec A' c' bs at_ _ (Ent.gnO .here fun w hw => Ob.sl_at hw) hc' (by omega)) (fun v own' N' hv => ?_)
  obtain ⟨rfl, rfl, rfl⟩ := hv
  refine vcCall_of .nil (rget_spec A c bs at_ _ (Ent.gnG h1) (by omega)) (fun v own' N' hv => ?_)
  obtain ⟨rfl, rfl, rfl⟩ := hv
  refine vcCall_of .nil (awake_spec _) (fun v own' N' hv => ?_)
  obtain ⟨rfl, rfl, rfl⟩ := hv
  refine vcIf_yes rfl ?_
  refine vcIf_yes rfl ?_
  refine vcIf_yes rfl ?_
  refine vcCall_of .nil (same_spec A' A c' c bs bs _ (Ent.gnO .here fun w hw => Ob.sl_at hw) (Ent.gnG h1) (by omega)) (fun v own' N' hv => ?_)
  obtain ⟨rfl, rfl, rfl⟩ := hv
  refine ⟨[], _, MT, .nil, fun _ _ _ => trivial, ?_, rfl, rfl⟩
  simp [tupleOf]
end Go.Proofs.Ytklcogbbpimccaa
