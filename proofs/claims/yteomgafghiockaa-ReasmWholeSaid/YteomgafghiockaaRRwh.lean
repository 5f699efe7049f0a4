/- ReasmWhole is true of every input; no condition. -/
import Derived.Test.YteomgafghiockaaRead
import Derived.Test.YteomgafghiockaaReaR
namespace Go.Proofs.Yteomgafghiockaa
open Go.ChangeShapes Go.WideShapes Go.ChangeAt Go.RowKit

set_option maxRecDepth 100000 in
set_option maxHeartbeats 2000000 in
theorem reasmWholeLifted (os : Os) (started : os.Started) (H : Type) (enc : TypeId × Value → H) :
    ReturnsInHanded {} Try.checked os 5 .any (Rows.reasmWholeSpec.pre6 enc Try.prog Try.f5 Rows.reasmWholeRow.domain false) (Rows.reasmWholeSpec.post enc Try.prog Try.f5 false true false false) := by
  refine returnsInHanded_of_change_sized (C := Try.checked) ownK started (by kernel_rfl) Try.func5
    (ChangeSpec.witness6 (enc := enc) (C := Try.checked) false ⟨#[], #[.slice none 0 0, .slice none 0 0], []⟩ 8 (by kernel_rfl) (by kernel_rfl) (by kernel_rfl) (by kernel_rfl)) ?_
  intro W base args ds gs before hval0 hW hcnd hsz0 _
  have hsz : (DataW.weightsEach Try.prog (Try.f5.params.toList ++ Rows.reasmWholeSpec.plain.varTypes Try.prog) (ds ++ gs)).all (· ≤ reachBytes) = true := hsz0
  have hval : ∀ (j : Nat) t v, Try.f5.params[j]? = some t → args[j]? = some v → Value.okWide Try.prog W .any base t v := hval0
  have hW' := hW
  obtain ⟨p, q, hA0, hV, rfl, hfz, hnd⟩ := hW
  have hA : DataW.TrodAll enc Try.prog W 0 (fun _ => true) true Try.f5.params.toList args.toList ds p := hA0
  rw [Try.params5] at hA hval hsz
  obtain ⟨v0, vs0, d0, ds0, p0, q0, hargs, rfl, rfl, h0, r0⟩ := trodAll_cons hA
  obtain ⟨v1, vs1, d1, ds1, p1, q1, rfl, rfl, rfl, h1, r1⟩ := trodAll_cons r0
  obtain ⟨rfl, rfl, rfl⟩ := trodAll_nil r1
  obtain rfl : args = #[v0, v1] := by cases args; simp_all
  obtain ⟨rfl, rfl⟩ := trodVars_none hV
  clear hA0 hval0 hsz0
  have lt0 : ∀ x ∈ p0, x.block < W.heap.size := by obtain ⟨m, hm⟩ := h0; exact DataW.trod_lt m _ _ _ hm
  have D0 := Dec.bytes Try.underlying5 (by kernel_rfl) (by kernel_rfl) Try.underlying22 (by kernel_rfl)
  obtain ⟨⟨A0, c0, b0⟩, e0, ok0, m0⟩ := D0.arg h0 hsz (j := 0) rfl rfl
  have fr0 := fun w' hf => D0.fr (A0, c0, b0) W w' m0 hf
  obtain rfl := val_one e0 (okWide_one (hval 0 _ _ rfl rfl) (by kernel_rfl))
  try simp only at ok0 m0
  have lt1 : ∀ x ∈ p1, x.block < W.heap.size := by obtain ⟨m, hm⟩ := h1; exact DataW.trod_lt m _ _ _ hm
  have D1 := Dec.sliceB (k := 16) (Dec.struct Try.underlying30 rfl (DecF.cons (k := 1) (m := 1) (Dec.i64 Try.underlying3 (by kernel_rfl)) rfl (by kernel_rfl) (DecF.one (n := 1) (Dec.i64 Try.underlying3 (by kernel_rfl)) rfl (by kernel_rfl)) rfl)) Try.underlying23 (by kernel_rfl) (by kernel_rfl)
  obtain ⟨⟨A1, c1, b1⟩, e1, ok1, m1⟩ := D1.arg h1 hsz (j := 1) rfl rfl
  have fr1 := fun w' hf => D1.fr (A1, c1, b1) W w' m1 hf
  obtain rfl := val_one e1 (okWide_one (hval 1 _ _ rfl rfl) (by kernel_rfl))
  try simp only at ok1 m1
  clear hval hsz
  refine ((rwhole_spec A0 c0 b0 A1 c1 b1 (fun w => RowAt A0 (Bs b0) w ∧ RowAt A1 (b1.flatMap cutV) w ∧ ∀ x ∈ b1, MT w ∧ MT w) (fun _ h => h.1) ok0.1 (fun _ h => h.2.1) (fun o ho => ok1.2.2 o ho) (by omega)).law W (fun w' hf => ⟨fr0 w' hf, fr1 w' hf⟩)).mono fun e W' ⟨he, bel⟩ => ?_
  subst he
  exact ⟨_, rfl, _, _, _, [], _, [], hW', trodAll_mk1 (shut_bool Try.underlying4 _), (trodAll_cons_mk (Below.trod laidOutK (by kernel_rfl) (of_decide_eq_true (by kernel_rfl)) h0 bel lt0) (trodAll_cons_mk (Below.trod laidOutK (by kernel_rfl) (of_decide_eq_true (by kernel_rfl)) h1 bel lt1) trodAll_mk0)), rfl, bel.frame _, fun h => by cases h⟩

theorem reasmWholeOver : Rows.reasmWholeRow.holds Try.pinned (OpenSpec.ofChange Rows.reasmWholeSpec) :=
  OpenClaim.holds_of_wide 5 Try.f5 rfl rfl rfl rfl rfl rfl rfl ⟨rfl, rfl, rfl, rfl, rfl⟩ rfl rfl rfl rfl rfl (by kernel_rfl) Try.func5 (by kernel_rfl)
    (of_decide_eq_true (by kernel_rfl)) (by unfold Func.isWrapper; first | (rw [if_pos (by decide +kernel)]; kernel_rfl) | (rw [if_neg (by decide +kernel)]; exact ⟨rfl, rfl⟩))
    (fun os started H enc _ => reasmWholeLifted os started H enc)

/-- The statement. -/
theorem reasmWholeProved : Rows.ReasmWholeSaid := reasmWholeOver
#print axioms reasmWholeProved
end Go.Proofs.Yteomgafghiockaa
