/- Headers: what the deferred closure of Parse does. -/
import Derived.Test.YtlobimomeeppeaaHdrC
import Derived.Tactics
import Derived.Tactics2
import Derived.Defers
import Derived.Recover
namespace Go.Proofs.Ytlobimomeeppeaa
open Go Go.Proofs
set_option maxRecDepth 10000

noncomputable def catchBody : Code := match Try.f27.body with
  | some (.seq _ (.seq _ (.cond _ b _))) => b
  | _ => .skip

theorem catch_idle (a b c d : Nat) (w : World) :
    CallsD Try.prog 27 #[.pointer (some ⟨a, 0, none⟩), .pointer (some ⟨b, 0, none⟩), .pointer (some ⟨c, 0, none⟩), .pointer (some ⟨d, 0, none⟩)] .returning w fun e u' w' => e = .returned (.tuple #[]) ∧ u' = .returning ∧ w' = w := by
  refine callsD_of_wpS Try.func27 rfl fun c₀ cs hu => ?_
  apply wpS_seq
  apply wpS_region
  simp [wpOpsS, go_sem, recoverD, hu, Try.ntmps27, Exit.thenS]
  apply wpS_seq
  apply wpS_region
  simp [wpOpsS, go_sem, Exit.thenS]
  refine wpS_cond (t := false) (by simp [Act.eval]) ?_
  simp only [Bool.false_eq_true, if_false]
  refine wpS_of_wp (wp_skip ?_)
  cases c₀
  simp_all [bodyPostS, results, Try.results27]

/-- The four results, as the closure leaves them. -/
def zeroC : List Value := hdrC 0 0 (none, 0, []) (none, 0, []) (none, 0, []) (none, 0, []) 0
theorem catch_vc {C : Ctx} (a b c d : Nat) (e : Int) (hc : List Value) (i j k : Int) (rest : List Ob) (N : Mp) (hl : hc.length = 7) (Q : Exit → SK)
    (hQ : ∀ fm, Q .normal fm (.row d 27 [.int .i64 e] 1 :: .row c 3 [.int .i64 0] 1 :: .row b 3 [.int .i64 0] 1 :: hdrO a zeroC :: rest) N) :
    vc noX Try.prog C.G [] catchBody Q [(0, .pointer (some ⟨a, 0, none⟩)), (1, .pointer (some ⟨b, 0, none⟩)), (2, .pointer (some ⟨c, 0, none⟩)), (3, .pointer (some ⟨d, 0, none⟩)), (4, .iface 60 (.agg #[.int .i64 e]))]
      (hdrO a hc :: .row b 3 [.int .i64 i] 1 :: .row c 3 [.int .i64 j] 1 :: .row d 27 [.int .i64 k] 1 :: rest) N := by
  refine vcDraw_mix [0,1,2,3,4,5,6,7] MT (by kernel_rfl) (fun _ _ => trivial) ?_
  refine ⟨rfl, vcStoreN_row _ .here hl.symm (by simp [oneCell, cellsL]) ?_⟩
  refine vcMix_same (fun _ _ => trivial) ?_
  refine vcStore1_0 (.row b 3 [.int .i64 i] 1) _ (by first | ((repeat (first | exact .here | apply Take.there)); done) | exact .none_) rfl Nat.zero_lt_one rfl ?_
  refine vcMix_same (fun _ _ => trivial) ?_
  refine vcStore1_0 (.row c 3 [.int .i64 j] 1) _ (by first | ((repeat (first | exact .here | apply Take.there)); done) | exact .none_) rfl Nat.zero_lt_one rfl ?_
  refine vcMix_same (fun _ _ => trivial) ?_
  refine vcStore1_0 (.row d 27 [.int .i64 k] 1) _ (by first | ((repeat (first | exact .here | apply Take.there)); done) | exact .none_) rfl Nat.zero_lt_one rfl ?_
  refine vcMix_same (fun _ _ => trivial) ?_
  exact hQ _
theorem catch_pan {C : Ctx} (hC : C.ok) (a b c d : Nat) (e : Int) (hc : List Value) (i j k : Int) (rest : List Ob) (N : Mp) (hl : hc.length = 7) (w : World)
    (hw : C.inv w (hdrO a hc :: .row b 3 [.int .i64 i] 1 :: .row c 3 [.int .i64 j] 1 :: .row d 27 [.int .i64 k] 1 :: rest) N) :
    CallsD Try.prog 27 #[.pointer (some ⟨a, 0, none⟩), .pointer (some ⟨b, 0, none⟩), .pointer (some ⟨c, 0, none⟩), .pointer (some ⟨d, 0, none⟩)] (.panicking [pE e]) w fun en u' w' =>
      en = .returned (.tuple #[]) ∧ u' = .panicking [{ pE e with recovered := true }] ∧ C.inv w' (.row d 27 [.int .i64 e] 1 :: .row c 3 [.int .i64 0] 1 :: .row b 3 [.int .i64 0] 1 :: hdrO a zeroC :: rest) N := by
  refine callsD_of_wpS Try.func27 rfl fun c₀ cs hu => ?_
  apply wpS_seq
  apply wpS_region
  simp [wpOpsS, go_sem, recoverD, hu, Try.ntmps27, Exit.thenS, pE]
  apply wpS_seq
  apply wpS_region
  simp [wpOpsS, go_sem, Exit.thenS]
  refine wpS_cond (t := true) (by simp [Act.eval]) ?_
  simp only [if_true]
  refine wpS_of_wp ?_
  refine vc_does (X := noX) (D := noD) hC (n := 12) wide catchBody (by rfl) (Q := fun ex _ own N' => match ex with
    | .normal => own = (.row d 27 [.int .i64 e] 1 :: .row c 3 [.int .i64 0] 1 :: .row b 3 [.int .i64 0] 1 :: hdrO a zeroC :: rest) ∧ N' = N
    | _ => False) ?_ (fun _ _ _ _ _ hx => hx.elim) ?_ hw (catch_vc a b c d e hc i j k rest N hl _ (fun _ => ⟨rfl, rfl⟩))
  · rintro ex fm own N' a' w' hq hfm hi
    cases ex with
    | normal =>
      obtain ⟨rfl, rfl⟩ := hq
      simp only [bodyPostS]
      exact ⟨hfm.defers.ds, _, rfl, .tuple #[], by simp [results, Try.results27], rfl, rfl, hi⟩
    | _ => exact hq.elim
  · refine ⟨by simp, ⟨rfl, fun t ht => absurd ht (Nat.not_lt_zero t)⟩, ?_⟩
    intro t v ht
    rcases t with _ | _ | _ | _ | _ | t <;> cases ht <;> rfl
end Go.Proofs.Ytlobimomeeppeaa
