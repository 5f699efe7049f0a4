/- Numbers in so many bytes: route.number. -/
import Derived.Test.YtnhkeghahiedfaaBkw
namespace Go.Proofs.Ytnhkeghahiedfaa
open Go Go.Proofs Go.RowKit Go.Shelf
attribute [local go_sem] Oper.semAt_some

/-- The loop's body. -/
noncomputable def numBody : Code := match Try.f23.body with
  | some (.seq _ (.seq _ (.seq (.seq _ (.block _ (.rangeFunc _ _ _ b))) _))) => b
  | _ => .skip

set_option maxRecDepth 100000 in
set_option maxHeartbeats 2000000 in
theorem numBody_wp (m : Nat) (hm : m < 4611686018427387904) (w : World) (b1 R s : Nat) (L : List Nat) (W : World) (hI : PutI w b1 R s m L W) (j : Nat) (hj : j < s) (l : Nat) (a : Act)
    (ha : ∃ v0 v1 v3 v4 v7 v8 v9 v10 v11 v12 v13 v14 v15 v16 v17 v18 v19 v20, a = { tmps := (v0 :: v1 :: .pointer (some ⟨b1, 0, none⟩) :: v3 :: v4 :: .pointer (some ⟨R + 1, 0, none⟩) :: .int .i64 (j : Int) :: v7 :: v8 :: v9 :: v10 :: v11 :: v12 :: v13 :: v14 :: v15 :: v16 :: v17 :: v18 :: v19 :: v20 :: []).toArray, defers := [] }) :
    numBody.wpIn (Fence.wide.inRound l) 3 Try.prog (fun e _ W' => match e with
      | .normal => KeepsOthers W W' ∧ PutI w b1 R s m (L ++ [j]) W'
      | _ => False) a W := by
  obtain ⟨v0, v1, v3, v4, v7, v8, v9, v10, v11, v12, v13, v14, v15, v16, v17, v18, v19, v20, rfl⟩ := ha
  have hlen := putFold_length s m L
  have hle := putFold_le s m L
  have hsn := putFold_snoc s m L j
  have hI' := hI
  unfold PutI at hI hI' ⊢
  rw [hsn]
  generalize putFold s m L = p at hI hI' hlen hle hsn
  obtain ⟨row, x⟩ := p
  simp only at hI hI' hlen hle
  obtain ⟨hc1, hf1⟩ := row_fact (hI.objs _ (List.mem_cons_of_mem _ (List.mem_cons_of_mem _ (List.mem_cons_of_mem _ (List.mem_cons_self ..))))) (i := 0) rfl
  obtain ⟨hc2, hf2⟩ := row_fact (hI.objs _ (List.mem_cons_of_mem _ (List.mem_cons_self ..))) (i := 0) rfl
  obtain ⟨hc3, hf3⟩ := row_fact (sl_row (hI.objs _ (List.mem_cons_of_mem _ (List.mem_cons_of_mem _ (List.mem_cons_self ..))))) (Bs_get (i := j) (by omega))
  have hne : R ≠ b1 := by
    have := hI'.nodup
    simp [blksOf, Ob.blks] at this
    omega
  have hx8 : x ≤ 4611686018427387903 := by omega
  clear hI hsn hle
  dsimp only [numBody, Try.f23]
  gi_wp2
  have hadd : ∀ (b i : Nat), (⟨b, i, none⟩ : Addr) = (⟨b, 0, none⟩ : Addr).add i := fun b i => by unfold Addr.add; split <;> simp_all
  have hy : (UInt8.ofNat (x % 256)).toNat = x % 256 := ofNat_toNat _ (by omega)
  have hA : Inv w [] (W.setCell ⟨R, j, none⟩ (.int .u8 ((x : Int) % 256))) [.sl (some ⟨R, 0, none⟩) s 5 1 (Bs (putStep (row, x) j).1), .row (R + 2) 22 [.slice (some ⟨R, 0, none⟩) s s] 1,
      .row (R + 1) 22 [.slice (some ⟨R, 0, none⟩) s s] 1, .row b1 3 [.int .i64 x] 1] MT := by
    obtain ⟨own', e, _, h⟩ := vcStore1_does (P := Try.prog) (C := ⟨w, [], MT⟩) (ad := ⟨R, j, none⟩) (v := .int .u8 ((x : Int) % 256)) (k := fun o => o = _) hI' (.intro (.sl (some ⟨R, 0, none⟩) s 5 1 (Bs row)) _ j (.there (.there .here)) (fun _ _ => ⟨_, rfl, hadd R j⟩) (by simp only [Ob.cells]; rw [Bs_length]; omega) rfl rfl)
    subst e
    have e : (Bs row).set j (.int .u8 ((x : Int) % 256)) = Bs (putStep (row, x) j).1 := by
      unfold putStep Bs
      rw [List.map_set]
      congr 1
      unfold B
      rw [hy]; rfl
    simp only [Ob.set, e] at h
    exact h
  have hB : Inv w [] ((W.setCell ⟨R, j, none⟩ (.int .u8 ((x : Int) % 256))).setCell ⟨b1, 0, none⟩ (.int .i64 ((x : Int) / 256))) [.row b1 3 [.int .i64 ((x : Int) / 256)] 1, .sl (some ⟨R, 0, none⟩) s 5 1 (Bs (putStep (row, x) j).1), .row (R + 2) 22 [.slice (some ⟨R, 0, none⟩) s s] 1,
      .row (R + 1) 22 [.slice (some ⟨R, 0, none⟩) s s] 1] MT := by
    obtain ⟨own', e, _, h⟩ := vcStore1_does (P := Try.prog) (C := ⟨w, [], MT⟩) (ad := ⟨b1, 0, none⟩) (v := .int .i64 ((x : Int) / 256)) (k := fun o => o = _) hA (.intro (.row b1 3 [.int .i64 x] 1) _ 0 (.there (.there (.there .here))) (fun _ _ => ⟨_, rfl, hadd b1 0⟩) (by simp [Ob.cells]) rfl rfl)
    subst e
    exact h
  refine ⟨(KeepsOthers.setCell _ _ _).trans (KeepsOthers.setCell _ _ _), ?_⟩
  rw [show (x : Int) / 256 = ((x / 256 : Nat) : Int) from by omega] at hB ⊢
  have h := hB.picked (.cons (.there (.there .here)) (.cons (.there (.there .here)) (.cons (.there .here) (.cons .here .nil))))
  exact h

set_option maxRecDepth 100000 in
set_option maxHeartbeats 2000000 in
theorem number_in (m s : Nat) (hm : m < 4611686018427387904) (h1 : 1 ≤ s) (h8 : s ≤ 8) (w : World) :
    CallsIn Fence.wide 5 Try.prog 23 #[.int .i64 m, .int .i64 s] w fun e w' => ∃ b, e = .returned (.slice (some ⟨b, 0, none⟩) s s) ∧ Inv w [] w' [.sl (some ⟨b, 0, none⟩) s 5 1 (Bs (be s m))] MT := by
  have hI0 : Inv w [] w [] MT := Ctx.start (C := ⟨w, [], MT⟩) ⟨fun _ ho => (by cases ho), List.nodup_nil, fun _ _ => trivial⟩
  have hI1 : Inv w [] (w.alloc (.cells #[.int .i64 m] 3)) [.row w.heap.size 3 [.int .i64 m] 1] MT :=
    hI0.alloc _ (.row w.heap.size 3 [.int .i64 m] 1) rfl ⟨_, World.alloc_heap_new _ _, [], (0, 0), rfl, rfl, by simp⟩
  obtain ⟨w1, hw1⟩ : ∃ w1, w.alloc (.cells #[.int .i64 m] 3) = w1 := ⟨_, rfl⟩
  have hsz : w1.heap.size = w.heap.size + 1 := by rw [← hw1, World.size_alloc]
  refine callsIn_of_wp_marks Try.func23 rfl trivial ?_ rfl
  simp only [Try.ntmps23, List.size_toArray, List.length_cons, List.length_nil, Nat.reduceAdd, Nat.reduceSub, Array.replicate_succ, Array.replicate_zero, List.push_toArray, List.append_toArray, List.nil_append, List.cons_append]
  have hmk : ∀ w, (Instr.makeSlice 22 (.int .i64 s) (.int .i64 s)).run Try.prog w = .ok (.slice (some ⟨w.heap.size, 0, none⟩) s s) (w.alloc (.cells (Bs (List.replicate s 0)).toArray 5)) := mk_bytes s h8 h1
  gi_wp2_with (refine ⟨trivial, ?_⟩; gi_at_call 43; refine (back_in 4 _ _ _ _).mono ?_; rintro e w2 ⟨rfl, rfl⟩)
  have hI2 : Inv w [] w1 [.row w.heap.size 3 [.int .i64 m] 1] MT := hw1 ▸ hI1
  have hI3 := hI2.alloc (.cells (Bs (List.replicate s 0)).toArray 5) (.sl (some ⟨w1.heap.size, 0, none⟩) s 5 1 (Bs (List.replicate s 0))) rfl ⟨rfl, rfl, _, World.alloc_heap_new _ _, [], (0, 0), by simp [Bs_length], by rw [List.append_nil], by simp⟩
  have hI4 := hI3.alloc (.cells #[.slice (some ⟨w1.heap.size, 0, none⟩) s s] 22) (.row (w1.heap.size + 1) 22 [.slice (some ⟨w1.heap.size, 0, none⟩) s s] 1) (by simp [Ob.blks]) ⟨_, (by rw [← World.size_alloc]; exact World.alloc_heap_new _ _), [], (0, 0), rfl, rfl, by simp⟩
  have hI5 := hI4.alloc (.cells #[.slice (some ⟨w1.heap.size, 0, none⟩) s s] 22) (.row (w1.heap.size + 2) 22 [.slice (some ⟨w1.heap.size, 0, none⟩) s s] 1) (by simp [Ob.blks]) ⟨_, (by rw [show w1.heap.size + 2 = ((w1.alloc (.cells (Bs (List.replicate s 0)).toArray 5)).alloc (.cells #[.slice (some ⟨w1.heap.size, 0, none⟩) s s] 22)).heap.size from by simp]; exact World.alloc_heap_new _ _), [], (0, 0), rfl, rfl, by simp⟩
  have hq := backQ_of (b1 := w.heap.size) (l := []) (m := m) hI5
  rw [← hsz]
  have hsl : w.heap.size < w1.heap.size := by omega
  clear hsz hw1 hmk
  refine wpIn_rangeFunc_ownG rfl (by omega) (gf := 62) (lb := #[.pointer (some ⟨w1.heap.size + 2, 0, none⟩)]) rfl trivial (enters_of Try.func62 (by kernel_rfl) rfl)
    (back_stops 4 (by omega) (w1.heap.size + 2) w1.heap.size s s (by omega) _ (by simp only [World.size_alloc]; omega) (by simp only [World.size_alloc]; omega) hq) backK_t backK_b (Below.refl _ _) (fun _ => rfl)
    (fun pre W => PutI w w.heap.size w1.heap.size s m (pre.map fun x => x.1.val) W) (fun _ _ _ => False)
    (putI_own _ _ _ _ _ _ _ (by have := hI2.fr.size; simp at this ⊢; omega)) (fun _ _ _ _ _ hs _ _ => hs) hI5
    (fun x => { tmps := (.int .i64 m :: .int .i64 s :: .pointer (some ⟨w.heap.size, 0, none⟩) :: undef :: .slice none 0 0 :: .pointer (some ⟨w1.heap.size + 1, 0, none⟩) :: .int .i64 (x.1.val : Int) :: .int .i64 s :: .slice (some ⟨w1.heap.size, 0, none⟩) s s :: .slice (some ⟨w1.heap.size, 0, none⟩) s s :: .func (.func 62) #[] #[.pointer (some ⟨w1.heap.size + 2, 0, none⟩)] :: .int .i64 (x.1.val : Int) :: .int .u8 x.2.toNat :: undef :: undef :: undef :: undef :: undef :: undef :: undef :: undef :: []).toArray, defers := [] }) ?assign ?body ?done ?stop
  case assign =>
    intro l x W K hK
    gi_wp2
    exact hK
  case body =>
    rintro l pre ⟨⟨j, hj⟩, y⟩ W hI _
    refine wpIn_mono (numBody_wp m hm w w.heap.size w1.heap.size s _ W hI j hj l _ ?ha) ?_
    case ha => exact ⟨_, _, _, _, _, _, _, _, _, _, _, _, _, _, _, _, _, _, rfl⟩
    rintro e a' W' hq
    cases e with
    | normal => exact ⟨hq.1.from _, fun _ => backQ_of hq.2, by dsimp only; rw [List.map_append]; exact hq.2⟩
    | _ => exact hq.elim
  case done =>
    rintro D ys W hD hS hI hK
    replace hS : ys.map (fun x => x.1.val) = down s s := hS
    replace hI : PutI w w.heap.size w1.heap.size s m (ys.map fun x => x.1.val) W := hI
    rw [hS] at hI
    unfold PutI at hI
    rw [putFold_all] at hI
    obtain ⟨hc2, hf2⟩ := row_fact (hI.objs _ (List.mem_cons_of_mem _ (List.mem_cons_self ..))) (i := 0) rfl
    have hsz1 := hI2.fr.size
    clear hI0 hI1 hI2 hI3 hI4 hI5 hq hS
    gi_wp2
    have hA : Inv w [] W [.sl (some ⟨w1.heap.size, 0, none⟩) s 5 1 (Bs (be s m))] MT := by
      have h := hI.picked (.cons (.there (.there .here)) .nil)
      exact Inv.drop (own := [_]) h (fun _ _ _ => trivial)
    refine ⟨by simp, .inl ⟨_, _, rfl, run_takeDeferred hK, ?_⟩⟩
    refine ⟨_, results_tmp rfl _ _ _, w1.heap.size, rfl, ?_⟩
    exact Inv.grown hA (grownBy_putObj' _ _ _) (by simp) (fun r e => by cases e; exact ⟨by simp at hD; omega, _, hK, rfl⟩)
  case stop =>
    rintro D c pre W _ _ h _
    exact h.elim

theorem number_spec (m s : Nat) (hm : m < 4611686018427387904) (h1 : 1 ≤ s) (h8 : s ≤ 8) (G : Mp) : Spec Try.prog 23 #[.int .i64 m, .int .i64 s] [] G (OwnB (be s m)) := by
  refine ⟨Try.call23, fun w hw => ?_⟩
  refine (callsIn_wide.1 (number_in m s hm h1 h8 w)).mono ?_
  rintro e w' ⟨b, rfl, hi⟩
  exact ⟨_, _, MT, rfl, ⟨some ⟨b, 0, none⟩, s, by rw [be_length], rfl, rfl, by rw [be_length]; exact Nat.le_refl _⟩, hi⟩
end Go.Proofs.Ytnhkeghahiedfaa
