/- ParamsBack is true of every input; no condition. -/
import Derived.Test.YtaknehiifafhfaaRead
import Derived.Test.YtaknehiifafhfaaParQ
namespace Go.Proofs.Ytaknehiifafhfaa
open Go.ChangeShapes Go.WideShapes Go.ChangeAt Go.RowKit

set_option maxRecDepth 100000 in
set_option maxHeartbeats 2000000 in
theorem paramsBackLifted (os : Os) (started : os.Started) (H : Type) (enc : TypeId × Value → H) :
    ReturnsInHanded {} Try.checked os 6 .any (Rows.paramsBackSpec.pre6 enc Try.prog Try.f6 Rows.paramsBackRow.domain false) (Rows.paramsBackSpec.post enc Try.prog Try.f6 false true false false) := by
  refine returnsInHanded_of_change_sized (C := Try.checked) ownK started (by kernel_rfl) Try.func6
    (ChangeSpec.witness6 (enc := enc) (C := Try.checked) false ⟨#[], #[.agg #[.bool false, .bool false, .bool false, .bool false, .slice none 0 0, .slice none 0 0, .slice none 0 0, .slice none 0 0, .int .i64 0, .int .i64 0, .int .i64 0, .int .i64 0, .int .i64 0, .int .i64 0, .int .i64 0, .int .i64 0, .int .i64 0, .int .i64 0, .int .i64 0, .bool false, .bool false, .int .i64 0, .slice none 0 0]], []⟩ 8 (by kernel_rfl) (by kernel_rfl) (by kernel_rfl) (by kernel_rfl)) ?_
  intro W base args ds gs before hval0 hW hcnd hsz0 _
  have hsz : (DataW.weightsEach Try.prog (Try.f6.params.toList ++ Rows.paramsBackSpec.plain.varTypes Try.prog) (ds ++ gs)).all (· ≤ reachBytes) = true := hsz0
  have hval : ∀ (j : Nat) t v, Try.f6.params[j]? = some t → args[j]? = some v → Value.okWide Try.prog W .any base t v := hval0
  have hW' := hW
  obtain ⟨p, q, hA0, hV, rfl, hfz, hnd⟩ := hW
  have hA : DataW.TrodAll enc Try.prog W 0 (fun _ => true) true Try.f6.params.toList args.toList ds p := hA0
  rw [Try.params6] at hA hval hsz
  obtain ⟨v0, vs0, d0, ds0, p0, q0, hargs, rfl, rfl, h0, r0⟩ := trodAll_cons hA
  obtain ⟨rfl, rfl, rfl⟩ := trodAll_nil r0
  obtain rfl : args = #[v0] := by cases args; simp_all
  obtain ⟨rfl, rfl⟩ := trodVars_none hV
  clear hA0 hval0 hsz0
  have lt0 : ∀ x ∈ p0, x.block < W.heap.size := by obtain ⟨m, hm⟩ := h0; exact DataW.trod_lt m _ _ _ hm
  have D0 := Dec.struct Try.underlying52 rfl (DecF.cons (k := 20) (m := 3) (Dec.struct Try.underlying25 rfl (DecF.cons (k := 1) (m := 19) (Dec.bool Try.underlying4 (by kernel_rfl)) rfl (by kernel_rfl) (DecF.cons (k := 1) (m := 18) (Dec.bool Try.underlying4 (by kernel_rfl)) rfl (by kernel_rfl) (DecF.cons (k := 1) (m := 17) (Dec.bool Try.underlying4 (by kernel_rfl)) rfl (by kernel_rfl) (DecF.cons (k := 1) (m := 16) (Dec.bool Try.underlying4 (by kernel_rfl)) rfl (by kernel_rfl) (DecF.cons (k := 1) (m := 15) (Dec.bytes Try.underlying5 (by kernel_rfl) (by kernel_rfl) Try.underlying22 (by kernel_rfl)) rfl (by kernel_rfl) (DecF.cons (k := 1) (m := 14) (Dec.bytes Try.underlying5 (by kernel_rfl) (by kernel_rfl) Try.underlying22 (by kernel_rfl)) rfl (by kernel_rfl) (DecF.cons (k := 1) (m := 13) (Dec.bytes Try.underlying5 (by kernel_rfl) (by kernel_rfl) Try.underlying22 (by kernel_rfl)) rfl (by kernel_rfl) (DecF.cons (k := 1) (m := 12) (Dec.bytes Try.underlying5 (by kernel_rfl) (by kernel_rfl) Try.underlying22 (by kernel_rfl)) rfl (by kernel_rfl) (DecF.cons (k := 1) (m := 11) (Dec.i64 Try.underlying3 (by kernel_rfl)) rfl (by kernel_rfl) (DecF.cons (k := 1) (m := 10) (Dec.i64 Try.underlying3 (by kernel_rfl)) rfl (by kernel_rfl) (DecF.cons (k := 1) (m := 9) (Dec.i64 Try.underlying3 (by kernel_rfl)) rfl (by kernel_rfl) (DecF.cons (k := 1) (m := 8) (Dec.i64 Try.underlying3 (by kernel_rfl)) rfl (by kernel_rfl) (DecF.cons (k := 1) (m := 7) (Dec.i64 Try.underlying3 (by kernel_rfl)) rfl (by kernel_rfl) (DecF.cons (k := 1) (m := 6) (Dec.i64 Try.underlying3 (by kernel_rfl)) rfl (by kernel_rfl) (DecF.cons (k := 1) (m := 5) (Dec.i64 Try.underlying3 (by kernel_rfl)) rfl (by kernel_rfl) (DecF.cons (k := 1) (m := 4) (Dec.i64 Try.underlying3 (by kernel_rfl)) rfl (by kernel_rfl) (DecF.cons (k := 1) (m := 3) (Dec.i64 Try.underlying3 (by kernel_rfl)) rfl (by kernel_rfl) (DecF.cons (k := 1) (m := 2) (Dec.i64 Try.underlying3 (by kernel_rfl)) rfl (by kernel_rfl) (DecF.cons (k := 1) (m := 1) (Dec.i64 Try.underlying3 (by kernel_rfl)) rfl (by kernel_rfl) (DecF.one (n := 1) (Dec.bool Try.underlying4 (by kernel_rfl)) rfl (by kernel_rfl)) rfl) rfl) rfl) rfl) rfl) rfl) rfl) rfl) rfl) rfl) rfl) rfl) rfl) rfl) rfl) rfl) rfl) rfl) rfl)) rfl (by kernel_rfl) (DecF.cons (k := 1) (m := 2) (Dec.bool Try.underlying4 (by kernel_rfl)) rfl (by kernel_rfl) (DecF.cons (k := 1) (m := 1) (Dec.i64 Try.underlying3 (by kernel_rfl)) rfl (by kernel_rfl) (DecF.one (n := 1) (Dec.bytes Try.underlying5 (by kernel_rfl) (by kernel_rfl) Try.underlying22 (by kernel_rfl)) rfl (by kernel_rfl)) rfl) rfl) rfl)
  obtain ⟨⟨⟨x0, x1, x2, x3, ⟨A4, c4, b4⟩, ⟨A5, c5, b5⟩, ⟨A6, c6, b6⟩, ⟨A7, c7, b7⟩, x8, x9, x10, x11, x12, x13, x14, x15, x16, x17, x18, x19⟩, x20, x21, ⟨A22, c22, b22⟩⟩, e0, ok0, m0⟩ := D0.arg h0 hsz (j := 0) rfl rfl
  have fr0 := fun w' hf => D0.fr ((x0, x1, x2, x3, (A4, c4, b4), (A5, c5, b5), (A6, c6, b6), (A7, c7, b7), x8, x9, x10, x11, x12, x13, x14, x15, x16, x17, x18, x19), x20, x21, (A22, c22, b22)) W w' m0 hf
  obtain rfl := val_agg e0 (okWide_agg (hval 0 _ _ rfl rfl) (by kernel_rfl))
  try simp only at ok0 m0
  clear hval hsz
  refine ((backs_spec [(A4, c4), (A5, c5), (A6, c6), (A7, c7)] ⟨[x0, x1, x2, x3], [b4, b5, b6, b7], [x8, x9, x10, x11, x12, x13, x14, x15, x16, x17, x18], x19⟩ x20 x21 A22 c22 b22 (fun w => (MT w ∧ MT w ∧ MT w ∧ MT w ∧ RowAt A4 (Bs b4) w ∧ RowAt A5 (Bs b5) w ∧ RowAt A6 (Bs b6) w ∧ RowAt A7 (Bs b7) w ∧ MT w ∧ MT w ∧ MT w ∧ MT w ∧ MT w ∧ MT w ∧ MT w ∧ MT w ∧ MT w ∧ MT w ∧ MT w ∧ MT w) ∧ MT w ∧ MT w ∧ RowAt A22 (Bs b22) w) ⟨rfl, rfl, rfl⟩ rfl (pmAt4 fun w h => ⟨h.1.2.2.2.2.1, h.1.2.2.2.2.2.1, h.1.2.2.2.2.2.2.1, h.1.2.2.2.2.2.2.2.1⟩) (small4 (by omega) (by omega) (by omega) (by omega)) (fun _ h => h.2.2.2)).law W (fun w' hf => fr0 w' hf)).mono fun e W' ⟨he, bel⟩ => ?_
  subst he
  exact ⟨_, rfl, _, _, _, [], _, [], hW', trodAll_mk1 (shut_bool Try.underlying4 _), (trodAll_cons_mk (Below.trod laidOutK (by kernel_rfl) (of_decide_eq_true (by kernel_rfl)) h0 bel lt0) trodAll_mk0), rfl, bel.frame _, fun h => by cases h⟩

theorem paramsBackOver : Rows.paramsBackRow.holds Try.pinned (OpenSpec.ofChange Rows.paramsBackSpec) :=
  OpenClaim.holds_of_wide 6 Try.f6 rfl rfl rfl rfl rfl rfl rfl ⟨rfl, rfl, rfl, rfl, rfl⟩ rfl rfl rfl rfl rfl (by kernel_rfl) Try.func6 (by kernel_rfl)
    (of_decide_eq_true (by kernel_rfl)) (by unfold Func.isWrapper; first | (rw [if_pos (by decide +kernel)]; kernel_rfl) | (rw [if_neg (by decide +kernel)]; exact ⟨rfl, rfl⟩))
    (fun os started H enc _ => paramsBackLifted os started H enc)

/-- The statement. -/
theorem paramsBackProved : Rows.ParamsBackSaid := paramsBackOver
#print axioms paramsBackProved
end Go.Proofs.Ytaknehiifafhfaa
