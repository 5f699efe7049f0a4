/- PoolAlone is true of every input; no condition. -/
import Derived.Test.YtekbimbohppfoaaRead
import Derived.Test.YtekbimbohppfoaaPolQ
namespace Go.Proofs.Ytekbimbohppfoaa
open Go.ChangeShapes Go.WideShapes Go.ChangeAt Go.RowKit

set_option maxRecDepth 100000 in
set_option maxHeartbeats 2000000 in
theorem poolAloneLifted (os : Os) (started : os.Started) (H : Type) (enc : TypeId × Value → H) :
    ReturnsInHanded {} Try.checked os 6 .any (Rows.poolAloneSpec.pre6 enc Try.prog Try.f6 Rows.poolAloneRow.domain false) (Rows.poolAloneSpec.post enc Try.prog Try.f6 false true false false) := by
  refine returnsInHanded_of_change_sized (C := Try.checked) ownK started (by kernel_rfl) Try.func6
    (ChangeSpec.witness6 (enc := enc) (C := Try.checked) false ⟨#[], #[.agg #[.int .i64 0, .int .i64 0, .int .i64 0, .int .i64 0, .int .i64 0, .int .i64 0], .slice none 0 0], []⟩ 8 (by kernel_rfl) (by kernel_rfl) (by kernel_rfl) (by kernel_rfl)) ?_
  intro W base args ds gs before hval0 hW hcnd hsz0 _
  have hsz : (DataW.weightsEach Try.prog (Try.f6.params.toList ++ Rows.poolAloneSpec.plain.varTypes Try.prog) (ds ++ gs)).all (· ≤ reachBytes) = true := hsz0
  have hval : ∀ (j : Nat) t v, Try.f6.params[j]? = some t → args[j]? = some v → Value.okWide Try.prog W .any base t v := hval0
  have hW' := hW
  obtain ⟨p, q, hA0, hV, rfl, hfz, hnd⟩ := hW
  have hA : DataW.TrodAll enc Try.prog W 0 (fun _ => true) true Try.f6.params.toList args.toList ds p := hA0
  rw [Try.params6] at hA hval hsz
  obtain ⟨v0, vs0, d0, ds0, p0, q0, hargs, rfl, rfl, h0, r0⟩ := trodAll_cons hA
  obtain ⟨v1, vs1, d1, ds1, p1, q1, rfl, rfl, rfl, h1, r1⟩ := trodAll_cons r0
  obtain ⟨rfl, rfl, rfl⟩ := trodAll_nil r1
  obtain rfl : args = #[v0, v1] := by cases args; simp_all
  obtain ⟨rfl, rfl⟩ := trodVars_none hV
  clear hA0 hval0 hsz0
  have lt0 : ∀ x ∈ p0, x.block < W.heap.size := by obtain ⟨m, hm⟩ := h0; exact DataW.trod_lt m _ _ _ hm
  have D0 := Dec.struct Try.underlying23 rfl (DecF.cons (k := 1) (m := 5) (Dec.i64 Try.underlying3 (by kernel_rfl)) rfl (by kernel_rfl) (DecF.cons (k := 1) (m := 4) (Dec.i64 Try.underlying3 (by kernel_rfl)) rfl (by kernel_rfl) (DecF.cons (k := 1) (m := 3) (Dec.i64 Try.underlying3 (by kernel_rfl)) rfl (by kernel_rfl) (DecF.cons (k := 1) (m := 2) (Dec.i64 Try.underlying3 (by kernel_rfl)) rfl (by kernel_rfl) (DecF.cons (k := 1) (m := 1) (Dec.i64 Try.underlying3 (by kernel_rfl)) rfl (by kernel_rfl) (DecF.one (n := 1) (Dec.i64 Try.underlying3 (by kernel_rfl)) rfl (by kernel_rfl)) rfl) rfl) rfl) rfl) rfl)
  obtain ⟨⟨y0, y1, y2, y3, y4, y5⟩, e0, ok0, m0⟩ := D0.arg h0 hsz (j := 0) rfl rfl
  have fr0 := fun w' hf => D0.fr (y0, y1, y2, y3, y4, y5) W w' m0 hf
  obtain rfl := val_agg e0 (okWide_agg (hval 0 _ _ rfl rfl) (by kernel_rfl))
  try simp only at ok0 m0
  have lt1 : ∀ x ∈ p1, x.block < W.heap.size := by obtain ⟨m, hm⟩ := h1; exact DataW.trod_lt m _ _ _ hm
  have D1 := Dec.sliceB (k := 32) (Dec.struct Try.underlying47 rfl (DecF.cons (k := 1) (m := 3) (Dec.i64 Try.underlying3 (by kernel_rfl)) rfl (by kernel_rfl) (DecF.cons (k := 1) (m := 2) (Dec.i64 Try.underlying3 (by kernel_rfl)) rfl (by kernel_rfl) (DecF.cons (k := 1) (m := 1) (Dec.i64 Try.underlying3 (by kernel_rfl)) rfl (by kernel_rfl) (DecF.one (n := 1) (Dec.bool Try.underlying4 (by kernel_rfl)) rfl (by kernel_rfl)) rfl) rfl) rfl)) Try.underlying41 (by kernel_rfl) (by kernel_rfl)
  obtain ⟨⟨A1, c1, b1⟩, e1, ok1, m1⟩ := D1.arg h1 hsz (j := 1) rfl rfl
  have fr1 := fun w' hf => D1.fr (A1, c1, b1) W w' m1 hf
  obtain rfl := val_one e1 (okWide_one (hval 1 _ _ rfl rfl) (by kernel_rfl))
  try simp only at ok1 m1
  clear hval hsz
  refine ((alone_spec ⟨y0, y1, y2, y3, y4, y5⟩ A1 c1 b1 (fun w => (MT w ∧ MT w ∧ MT w ∧ MT w ∧ MT w ∧ MT w) ∧ RowAt A1 (b1.flatMap popV) w ∧ ∀ x ∈ b1, MT w ∧ MT w ∧ MT w ∧ MT w) (fun _ h => h.2.1) (by omega)).law W (fun w' hf => ⟨fr0 w' hf, fr1 w' hf⟩)).mono fun e W' ⟨he, bel⟩ => ?_
  subst he
  exact ⟨_, rfl, _, _, _, [], _, [], hW', trodAll_mk1 (shut_bool Try.underlying4 _), (trodAll_cons_mk (Below.trod laidOutK (by kernel_rfl) (of_decide_eq_true (by kernel_rfl)) h0 bel lt0) (trodAll_cons_mk (Below.trod laidOutK (by kernel_rfl) (of_decide_eq_true (by kernel_rfl)) h1 bel lt1) trodAll_mk0)), rfl, bel.frame _, fun h => by cases h⟩

theorem poolAloneOver : Rows.poolAloneRow.holds Try.pinned (OpenSpec.ofChange Rows.poolAloneSpec) :=
  OpenClaim.holds_of_wide 6 Try.f6 rfl rfl rfl rfl rfl rfl rfl ⟨rfl, rfl, rfl, rfl, rfl⟩ rfl rfl rfl rfl rfl (by kernel_rfl) Try.func6 (by kernel_rfl)
    (of_decide_eq_true (by kernel_rfl)) (by unfold Func.isWrapper; first | (rw [if_pos (by decide +kernel)]; kernel_rfl) | (rw [if_neg (by decide +kernel)]; exact ⟨rfl, rfl⟩))
    (fun os started H enc _ => poolAloneLifted os started H enc)

/-- The statement. -/
theorem poolAloneProved : Rows.PoolAloneSaid := poolAloneOver
#print axioms poolAloneProved
end Go.Proofs.Ytekbimbohppfoaa
