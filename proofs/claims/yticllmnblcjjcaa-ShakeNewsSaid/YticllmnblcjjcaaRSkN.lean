/- ShakeNews is true of every input; no condition. -/
import Derived.Test.YticllmnblcjjcaaRead
import Derived.Test.YticllmnblcjjcaaShkL
namespace Go.Proofs.Yticllmnblcjjcaa
open Go.ChangeShapes Go.WideShapes Go.ChangeAt Go.RowKit

set_option maxRecDepth 100000 in
set_option maxHeartbeats 2000000 in
theorem shakeNewsLifted (os : Os) (started : os.Started) (H : Type) (enc : TypeId × Value → H) :
    ReturnsInHanded {} Try.checked os 3 .any (Rows.shakeNewsSpec.pre6 enc Try.prog Try.f3 Rows.shakeNewsRow.domain false) (Rows.shakeNewsSpec.post enc Try.prog Try.f3 false true false false) := by
  refine returnsInHanded_of_change_sized (C := Try.checked) ownK started (by kernel_rfl) Try.func3
    (ChangeSpec.witness6 (enc := enc) (C := Try.checked) false ⟨#[], #[.agg #[.bool false, .int .u8 0, .int .u8 0, .int .u8 0, .int .u8 0, .int .u8 0, .int .u8 0, .int .u8 0, .int .u8 0, .int .u8 0, .int .u8 0, .int .u8 0, .int .u8 0, .int .u8 0, .int .u8 0, .int .u8 0, .int .u8 0, .int .u8 0, .int .u8 0, .int .u8 0, .int .u8 0, .int .u8 0, .int .u8 0, .int .u8 0, .int .u8 0, .int .u8 0, .int .u8 0, .int .u8 0, .int .u8 0, .int .u8 0, .int .u8 0, .int .u8 0, .int .u8 0, .int .i64 0, .slice none 0 0, .slice none 0 0]], []⟩ 8 (by kernel_rfl) (by kernel_rfl) (by kernel_rfl) (by kernel_rfl)) ?_
  intro W base args ds gs before hval0 hW hcnd hsz0 _
  have hsz : (DataW.weightsEach Try.prog (Try.f3.params.toList ++ Rows.shakeNewsSpec.plain.varTypes Try.prog) (ds ++ gs)).all (· ≤ reachBytes) = true := hsz0
  have hval : ∀ (j : Nat) t v, Try.f3.params[j]? = some t → args[j]? = some v → Value.okWide Try.prog W .any base t v := hval0
  have hW' := hW
  obtain ⟨p, q, hA0, hV, rfl, hfz, hnd⟩ := hW
  have hA : DataW.TrodAll enc Try.prog W 0 (fun _ => true) true Try.f3.params.toList args.toList ds p := hA0
  rw [Try.params3] at hA hval hsz
  obtain ⟨v0, vs0, d0, ds0, p0, q0, hargs, rfl, rfl, h0, r0⟩ := trodAll_cons hA
  obtain ⟨rfl, rfl, rfl⟩ := trodAll_nil r0
  obtain rfl : args = #[v0] := by cases args; simp_all
  obtain ⟨rfl, rfl⟩ := trodVars_none hV
  clear hA0 hval0 hsz0
  have lt0 : ∀ x ∈ p0, x.block < W.heap.size := by obtain ⟨m, hm⟩ := h0; exact DataW.trod_lt m _ _ _ hm
  have D0 := Dec.struct Try.underlying26 rfl (DecF.cons (k := 1) (m := 35) (Dec.bool Try.underlying4 (by kernel_rfl)) rfl (by kernel_rfl) (DecF.cons (k := 32) (m := 3) (Dec.arr32 Try.underlying5 (by kernel_rfl) Try.underlying22 (by kernel_rfl)) rfl (by kernel_rfl) (DecF.cons (k := 1) (m := 2) (Dec.i64 Try.underlying3 (by kernel_rfl)) rfl (by kernel_rfl) (DecF.cons (k := 1) (m := 1) (Dec.sliceB (k := 16) (Dec.str Try.underlying9 (by kernel_rfl)) Try.underlying23 (by kernel_rfl) (by kernel_rfl)) rfl (by kernel_rfl) (DecF.one (n := 1) (Dec.bytes Try.underlying5 (by kernel_rfl) (by kernel_rfl) Try.underlying24 (by kernel_rfl)) rfl (by kernel_rfl)) rfl) rfl) rfl) rfl)
  obtain ⟨⟨x0, r0, x1, ⟨A3, c3, b3⟩, ⟨A4, c4, b4⟩⟩, e0, ok0, m0⟩ := D0.arg h0 hsz (j := 0) rfl rfl
  have fr0 := fun w' hf => D0.fr (x0, r0, x1, (A3, c3, b3), (A4, c4, b4)) W w' m0 hf
  obtain rfl := val_agg e0 (okWide_agg (hval 0 _ _ rfl rfl) (by kernel_rfl))
  try simp only at ok0 m0
  clear hval hsz
  refine ((news_spec x0 r0 x1 A3 c3 b3 (A4, c4, b4) (fun w => MT w ∧ MT w ∧ MT w ∧ (RowAt A3 (b3.flatMap fun s => [.string s]) w ∧ ∀ x ∈ b3, MT w) ∧ RowAt A4 (Bs b4) w) (fun _ h => flat_st b3 ▸ h.2.2.2.1.1) (fun _ h => h.2.2.2.2) (by have := ok0.2.2.2.1; omega) (by have := ok0.2.2.2.2; simp only; omega)).law W (fun w' hf => fr0 w' hf)).mono fun e W' ⟨he, bel⟩ => ?_
  subst he
  exact ⟨_, rfl, _, _, _, [], _, [], hW', trodAll_mk1 (shut_bool Try.underlying4 _), (trodAll_cons_mk (Below.trod laidOutK (by kernel_rfl) (of_decide_eq_true (by kernel_rfl)) h0 bel lt0) trodAll_mk0), rfl, bel.frame _, fun h => by cases h⟩

theorem shakeNewsOver : Rows.shakeNewsRow.holds Try.pinned (OpenSpec.ofChange Rows.shakeNewsSpec) :=
  OpenClaim.holds_of_wide 3 Try.f3 rfl rfl rfl rfl rfl rfl rfl ⟨rfl, rfl, rfl, rfl, rfl⟩ rfl rfl rfl rfl rfl (by kernel_rfl) Try.func3 (by kernel_rfl)
    (of_decide_eq_true (by kernel_rfl)) (by unfold Func.isWrapper; first | (rw [if_pos (by decide +kernel)]; kernel_rfl) | (rw [if_neg (by decide +kernel)]; exact ⟨rfl, rfl⟩))
    (fun os started H enc _ => shakeNewsLifted os started H enc)

/-- The statement. -/
theorem shakeNewsProved : Rows.ShakeNewsSaid := shakeNewsOver
#print axioms shakeNewsProved
end Go.Proofs.Yticllmnblcjjcaa
