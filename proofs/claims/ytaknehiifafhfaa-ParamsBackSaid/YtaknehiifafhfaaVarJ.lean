/- varint.Put. -/
import Derived.Test.YtaknehiifafhfaaVarI
import Derived.Test.YtaknehiifafhfaaVarH
namespace Go.Proofs.Ytaknehiifafhfaa
open Go Go.Proofs Go.RowKit Go.Shelf
attribute [local go_sem] Oper.semAt_some

set_option maxRecDepth 100000 in
theorem back_in (n : Nat) (a : Option Addr) (len cap : Nat) (w : World) :
    CallsIn Fence.wide n Try.prog 50 #[.slice a len cap] w fun e w' => e = .returned (.func (.func 53) #[] #[.pointer (some ⟨w.heap.size, 0, none⟩)]) ∧ w' = w.alloc (.cells #[.slice a len cap] 22) := by
  refine callsIn_of_wp Try.func50 rfl trivial ?_ rfl
  simp only [Try.ntmps50, List.size_toArray, List.length_cons, List.length_nil, Nat.reduceAdd, Nat.reduceSub, Array.replicate_succ, Array.replicate_zero, List.push_toArray, List.append_toArray, List.nil_append, List.cons_append]
  gi_wp2
  go_ret
  exact ⟨rfl, rfl⟩

theorem class_in (n : Nat) (m : Int) (hm : -9223372036854775808 ≤ m ∧ m ≤ 9223372036854775807) (w0 w : World) (own : List Ob) (hw : Inv w0 [] w own MT) (c : Int) (hc : vclass m = c) :
    CallsIn Fence.wide n Try.prog 49 #[.int .i64 m] w fun e w' => e = .returned (.int .i64 c) ∧ Inv w0 [] w' own MT := by
  refine callsIn_wide.2 ?_
  have hC : (Ctx.mk w [] MT).ok := ⟨fun _ ho => (by cases ho), List.nodup_nil, fun _ _ => trivial⟩
  refine ((class_spec m hm MT).nil w hC).mono ?_
  rintro e w' ⟨v, own', N, rfl, ⟨rfl, rfl, rfl⟩, hi⟩
  rw [hc]
  exact ⟨rfl, (Inv.call (A := []) (rest := own) hw hi).weaken fun _ _ => trivial⟩

theorem row_fact {w : World} {b : Nat} {ty : TypeId} {xs : List Value} {m i : Nat} {v : Value} (h : (Ob.row b ty xs m).is w) (hi : xs[i]? = some v) : w.cell? ⟨b, i, none⟩ = some v ∧ w.frozen? ⟨b, i, none⟩ = false := by
  obtain ⟨o, ho, pre, sp, post, fz, hp, hl, rfl, hf⟩ := h
  obtain rfl : pre = [] := List.eq_nil_of_length_eq_zero hp
  have hlt : i < xs.length := (List.getElem?_eq_some_iff.1 hi).1
  refine ⟨?_, ?_⟩
  · simp only [World.cell?, ho, Option.isSome_none, Bool.false_eq_true, if_false, List.getElem?_toArray, List.nil_append]
    rw [List.getElem?_append_left hlt]
    exact hi
  · have : ¬ (fz.1 ≤ i ∧ i < fz.2) := by rcases hf with h | h <;> omega
    simp only [World.frozen?, ho]
    simp only [decide_eq_false_iff_not, Bool.and_eq_false_iff]
    simp
    omega
theorem sl_row {w : World} {b cap : Nat} {ty : TypeId} {size : Nat} {xs : List Value} (h : (Ob.sl (some ⟨b, 0, none⟩) cap ty size xs).is w) : (Ob.row b ty xs (cap * size)).is w := h.2

theorem mk_bytes (s : Nat) (h : s ≤ 8) (h' : 1 ≤ s) (w : World) : (Instr.makeSlice 22 (.int .i64 s) (.int .i64 s)).run Try.prog w = .ok (.slice (some ⟨w.heap.size, 0, none⟩) s s) (w.alloc (.cells (Bs (List.replicate s 0)).toArray 5)) := by
  have hu : Try.prog.underlying 22 = some (.slice 5) := by kernel_rfl
  have hinfo : (Try.prog.info? 5).map (fun i => (i.zero, i.size, i.bytes)) = some (some (.int .u8 0), 1, 1) := by kernel_rfl
  obtain ⟨i, hi, hz, h1, h2⟩ := info_parts hinfo
  have wl : IntKind.i64.wrap (s : Int) = s := wrap_in .i64 s (by simp [IntKind.min, IntKind.signed, IntKind.bits]) (by simp [IntKind.max, IntKind.signed, IntKind.bits]; omega)
  simp only [Instr.makeSlice, Sem.run_bind, run_under hu, Result.andThen_ok, asInt, asIntOf, Sem.run_pure, run_info hi, wl]
  rw [if_neg (by simp [h2]; omega)]
  simp only [Sem.run_bind, run_askRoom, Result.andThen_ok, run_size hi, h1, Int.toNat_natCast, Nat.mul_one]
  rw [if_neg (by omega)]
  simp only [Sem.run_bind, run_zero hi hz, Result.andThen_ok, Sem.run_pure]
  have e : (Array.range s).map (fun j => ((Value.int .u8 0).cells)[j % ((Value.int .u8 0).cells).size]!) = (Bs (List.replicate s 0)).toArray := by
    apply Array.ext'
    have := zerosL_eq s 1 (Value.int .u8 0).cells rfl
    rw [Nat.mul_one] at this
    rw [this]
    exact Bs_zeros s
  rw [← e]
  rfl

/-- A step of the loop: a byte at its place, the rest of the number. -/
def putStep (p : List UInt8 × Nat) (i : Nat) : List UInt8 × Nat := (p.1.set i (UInt8.ofNat (p.2 % 256)), p.2 / 256)
def putFold (s m : Nat) (l : List Nat) : List UInt8 × Nat := l.foldl putStep (List.replicate s 0, m)
theorem putFold_snoc (s m : Nat) (l : List Nat) (i : Nat) : putFold s m (l ++ [i]) = putStep (putFold s m l) i := by simp [putFold]
theorem putFold_length (s m : Nat) : ∀ l : List Nat, (putFold s m l).1.length = s := by
  have key : ∀ (l : List Nat) (p : List UInt8 × Nat), (l.foldl putStep p).1.length = p.1.length := by
    intro l
    induction l with
    | nil => exact fun _ => rfl
    | cons i r ih => intro p; rw [List.foldl_cons, ih]; simp [putStep]
  intro l
  rw [putFold, key]; simp
theorem putFold_le (s m : Nat) : ∀ l : List Nat, (putFold s m l).2 ≤ m := by
  have key : ∀ (l : List Nat) (p : List UInt8 × Nat), (l.foldl putStep p).2 ≤ p.2 := by
    intro l
    induction l with
    | nil => exact fun _ => Nat.le_refl _
    | cons i r ih => intro p; rw [List.foldl_cons]; exact Nat.le_trans (ih _) (Nat.div_le_self _ _)
  intro l
  exact key l _
theorem putFold_down (s m : Nat) : ∀ k, k ≤ s → ∃ T x, putFold s m (down s k) = (List.replicate (s - k) 0 ++ T, x) ∧ T.length = k ∧ be s m = be (s - k) x ++ T
  | 0, _ => ⟨[], m, by simp [putFold, down], rfl, by simp⟩
  | k + 1, h => by
    obtain ⟨T, x, h1, h2, h3⟩ := putFold_down s m k (by omega)
    obtain ⟨j, hj⟩ : ∃ j, s - k = j + 1 := ⟨s - k - 1, by omega⟩
    refine ⟨UInt8.ofNat (x % 256) :: T, x / 256, ?_, by simp [h2], ?_⟩
    · rw [down_succ, putFold_snoc, h1, hj, show s - 1 - k = j from by omega, show s - (k + 1) = j from by omega]
      unfold putStep
      simp only
      congr 1
      rw [List.set_append_left _ _ (by simp), List.replicate_succ', List.set_append_right _ _ (by simp)]
      simp
    · rw [h3, hj, show s - (k + 1) = j from by omega, be]; simp
theorem putFold_all (s m : Nat) : (putFold s m (down s s)).1 = be s m := by
  obtain ⟨T, x, h1, h2, h3⟩ := putFold_down s m s (Nat.le_refl _)
  rw [h1, h3, Nat.sub_self]; rfl

def Ob.plain : Ob → Bool
  | .row _ _ _ _ => true
  | .sl _ _ _ _ _ => true
  | _ => false
theorem Inv.grown {w0 w w' : World} {row : Option Nat} {own : List Ob} (h : Inv w0 [] w own MT) (hg : w.grownBy w' row) (hm : ∀ o ∈ own, o.plain = true)
    (hr : ∀ r, row = some r → w0.heap.size ≤ r ∧ ∃ o : Obj, w.heap[r]? = some o ∧ o.isCells = false) : Inv w0 [] w' own MT := by
  have hcells : ∀ b ∈ blksOf own, ∃ o : Obj, w.heap[b]? = some o ∧ o.isCells = true := by
    intro b hb
    obtain ⟨o, ho, hb⟩ := mem_blksOf.1 hb
    have := h.objs o ho
    cases o with
    | row b' ty xs m =>
      simp only [Ob.blks, List.mem_singleton] at hb; subst hb
      obtain ⟨x, hx, pre, sp, post, fz, _, _, rfl, _⟩ := this; exact ⟨_, hx, rfl⟩
    | sl A cap ty size xs =>
      cases A with
      | none => simp [Ob.blks] at hb
      | some a =>
        simp only [Ob.blks, List.mem_singleton] at hb; subst hb
        obtain ⟨_, x, hx, pre, sp, post, fz, _, _, rfl, _⟩ := this; exact ⟨_, hx, rfl⟩
    | map b' l c => cases hm _ ho
    | iter b' m s e c => cases hm _ ho
  have hsame : ∀ b ∈ blksOf own, w'.heap[b]? = w.heap[b]? := by
    intro b hb
    refine hg.block b (h.objs.lt b hb) (fun e => ?_)
    obtain ⟨_, o, ho, hoc⟩ := hr b e.symm
    obtain ⟨o', ho', hoc'⟩ := hcells b hb
    rw [ho] at ho'; cases ho'; rw [hoc] at hoc'; cases hoc'
  refine ⟨h.objs.keep hsame, h.nodup, ?_, h.from_, fun _ _ _ => trivial⟩
  refine ⟨hg.os.trans h.fr.os, hg.tape.trans h.fr.tape, hg.output.trans h.fr.output, Nat.le_trans h.fr.size hg.size, fun i hi hn => ?_⟩
  exact (hg.block i (Nat.lt_of_lt_of_le hi h.fr.size) (fun e => by have := (hr i e.symm).1; omega)).trans (h.fr.same i hi hn)

/-- Where the loop stands. -/
def PutI (w : World) (b1 R s m : Nat) (l : List Nat) (W : World) : Prop :=
  Inv w [] W [.row (R + 2) 22 [.slice (some ⟨R, 0, none⟩) s s] 1, .row (R + 1) 22 [.slice (some ⟨R, 0, none⟩) s s] 1, .sl (some ⟨R, 0, none⟩) s 5 1 (Bs (putFold s m l).1), .row b1 3 [.int .i64 ((putFold s m l).2 : Nat)] 1] MT
theorem putI_own (w : World) (b1 R s m B : Nat) {α : Type} (f : α → List Nat) (hB : w.heap.size ≤ B) : OwnFrom B (fun (pre : α) W => PutI w b1 R s m (f pre) W) := by
  intro pre W W' row h hg hr
  exact Inv.grown h hg (by simp [Ob.plain]) (fun r e => ⟨Nat.le_trans hB (hr r e).1, (hr r e).2⟩)
theorem backQ_of {w W : World} {b1 R s m : Nat} {l : List Nat} (h : PutI w b1 R s m l W) : BackQ (R + 2) R s s W := by
  refine ⟨(row_fact (h.objs _ (List.mem_cons_self ..)) (i := 0) rfl).1, fun j hj => ?_⟩
  have h3 := sl_row (h.objs _ (List.mem_cons_of_mem _ (List.mem_cons_of_mem _ (List.mem_cons_self ..))))
  have hl := putFold_length s m l
  exact ⟨(putFold s m l).1[j]'(by omega), (row_fact h3 (Bs_get (by omega))).1⟩
theorem backK_t {B R len cap : Nat} {X Y Z : World} (h : BackQ B R len cap X → BackQ B R len cap Y) (k : BackQ B R len cap Y → BackQ B R len cap Z) : BackQ B R len cap X → BackQ B R len cap Z := fun q => k (h q)
theorem backK_b {B R len cap : Nat} {w : World} (W : World) (l : Nat) (o o' : Obj) (_ : w.heap.size ≤ l) (h : W.heap[l]? = some o) (hc : o.isCells = false) (_ : o.isWalk = false) (q : BackQ B R len cap W) : BackQ B R len cap (W.putObj l o') := by
  have hg := grownBy_putObj' W l o'
  have hr : ∀ r, some l = some r → ∃ o : Obj, W.heap[r]? = some o ∧ o.isCells = false := fun r e => by cases e; exact ⟨o, h, hc⟩
  exact ⟨cell_kept q.1 hg hr, fun j hj => by obtain ⟨x, hx⟩ := q.2 j hj; exact ⟨x, cell_kept hx hg hr⟩⟩
theorem back_stops (n : Nat) (hn : 1 ≤ n) (B R len cap : Nat) (hlen : len ≤ 281474976710656) (w : World) (hB : B < w.heap.size) (hR : R < w.heap.size) (hq : BackQ B R len cap w) :
    SeqStopsK Fence.wide n Try.prog 53 #[.pointer (some ⟨B, 0, none⟩)] (fun x : {i : Nat // i < len} × UInt8 => #[Value.int .i64 (x.1.val : Int), .int .u8 x.2.toNat]) (fun W W' => BackQ B R len cap W → BackQ B R len cap W')
      (fun ys => ys.map (fun x => x.1.val) = down len len) (fun _ => True) len w := fun l J Jx W hW _ _ hY h0 =>
  back1_in n hn l B R len cap hlen J Jx hY W ⟨(hW.cell (p := ⟨B, 0, none⟩) hB).trans hq.1, fun j hj => by obtain ⟨x, hx⟩ := hq.2 j hj; exact ⟨x, (hW.cell (p := ⟨R, j, none⟩) hR).trans hx⟩⟩ h0

/-- The loop's body. -/
noncomputable def putBody : Code := match Try.f39.body with
  | some (.seq _ (.seq _ (.seq _ (.seq _ (.seq (.seq _ (.block _ (.rangeFunc _ _ _ b))) _))))) => b
  | _ => .skip

set_option maxRecDepth 100000 in
set_option maxHeartbeats 2000000 in
theorem putBody_wp (m : Nat) (hm : m < 4611686018427387904) (w : World) (b1 R s : Nat) (L : List Nat) (W : World) (hI : PutI w b1 R s m L W) (j : Nat) (hj : j < s) (l : Nat) (a : Act)
    (ha : ∃ v0 v2 v3 v4 v7 v8 v9 v10 v11 v12 v13 v14 v15 v16 v17 v18 v19 v20 v21 v22 v23 v24 v25 v26 v27 v28 v29 v30 v31 v32 v33, a = { tmps := (v0 :: .pointer (some ⟨b1, 0, none⟩) :: v2 :: v3 :: v4 :: .pointer (some ⟨R + 1, 0, none⟩) :: .int .i64 (j : Int) :: v7 :: v8 :: v9 :: v10 :: v11 :: v12 :: v13 :: v14 :: v15 :: v16 :: v17 :: v18 :: v19 :: v20 :: v21 :: v22 :: v23 :: v24 :: v25 :: v26 :: v27 :: v28 :: v29 :: v30 :: v31 :: v32 :: v33 :: []).toArray, defers := [] }) :
    putBody.wpIn (Fence.wide.inRound l) 3 Try.prog (fun e _ W' => match e with
      | .normal => KeepsOthers W W' ∧ PutI w b1 R s m (L ++ [j]) W'
      | _ => False) a W := by
  obtain ⟨v0, v2, v3, v4, v7, v8, v9, v10, v11, v12, v13, v14, v15, v16, v17, v18, v19, v20, v21, v22, v23, v24, v25, v26, v27, v28, v29, v30, v31, v32, v33, rfl⟩ := ha
  have hlen := putFold_length s m L
  have hle := putFold_le s m L
  have hsn := putFold_snoc s m L j
  have hI' := hI
  unfold PutI at hI hI' ⊢
  rw [hsn]
  generalize putFold s m L = p at hI hI' hlen hle hsn
  obtain ⟨row, x⟩ := p
  simp only at hI hI' hlen hle
  obtain ⟨hc1, hf1⟩ := row_fact (hI.objs _ (List.mem_cons_of_mem _ (List.mem_cons_of_mem _ (List.mem_cons_of_mem _ (List.mem_cons_self ..))))) (i := 0) rfl
  obtain ⟨hc2, hf2⟩ := row_fact (hI.objs _ (List.mem_cons_of_mem _ (List.mem_cons_self ..))) (i := 0) rfl
  obtain ⟨hc3, hf3⟩ := row_fact (sl_row (hI.objs _ (List.mem_cons_of_mem _ (List.mem_cons_of_mem _ (List.mem_cons_self ..))))) (Bs_get (i := j) (by omega))
  have hne : R ≠ b1 := by
    have := hI'.nodup
    simp [blksOf, Ob.blks] at this
    omega
  have hx8 : x ≤ 4611686018427387903 := by omega
  clear hI hsn hle
  dsimp only [putBody, Try.f39]
  gi_wp2
  have hadd : ∀ (b i : Nat), (⟨b, i, none⟩ : Addr) = (⟨b, 0, none⟩ : Addr).add i := fun b i => by unfold Addr.add; split <;> simp_all
  have hy : (UInt8.ofNat (x % 256)).toNat = x % 256 := ofNat_toNat _ (by omega)
  have hA : Inv w [] (W.setCell ⟨R, j, none⟩ (.int .u8 ((x : Int) % 256))) [.sl (some ⟨R, 0, none⟩) s 5 1 (Bs (putStep (row, x) j).1), .row (R + 2) 22 [.slice (some ⟨R, 0, none⟩) s s] 1,
      .row (R + 1) 22 [.slice (some ⟨R, 0, none⟩) s s] 1, .row b1 3 [.int .i64 x] 1] MT := by
    obtain ⟨own', e, _, h⟩ := vcStore1_does (P := Try.prog) (C := ⟨w, [], MT⟩) (ad := ⟨R, j, none⟩) (v := .int .u8 ((x : Int) % 256)) (k := fun o => o = _) hI' (.intro (.sl (some ⟨R, 0, none⟩) s 5 1 (Bs row)) _ j (.there (.there .here)) (fun _ _ => ⟨_, rfl, hadd R j⟩) (by simp only [Ob.cells]; rw [Bs_length]; omega) rfl rfl)
    subst e
    have e : (Bs row).set j (.int .u8 ((x : Int) % 256)) = Bs (putStep (row, x) j).1 := by
      unfold putStep Bs
      rw [List.map_set]
      congr 1
      unfold B
      rw [hy]; rfl
    simp only [Ob.set, e] at h
    exact h
  have hB : Inv w [] ((W.setCell ⟨R, j, none⟩ (.int .u8 ((x : Int) % 256))).setCell ⟨b1, 0, none⟩ (.int .i64 ((x : Int) / 256))) [.row b1 3 [.int .i64 ((x : Int) / 256)] 1, .sl (some ⟨R, 0, none⟩) s 5 1 (Bs (putStep (row, x) j).1), .row (R + 2) 22 [.slice (some ⟨R, 0, none⟩) s s] 1,
      .row (R + 1) 22 [.slice (some ⟨R, 0, none⟩) s s] 1] MT := by
    obtain ⟨own', e, _, h⟩ := vcStore1_does (P := Try.prog) (C := ⟨w, [], MT⟩) (ad := ⟨b1, 0, none⟩) (v := .int .i64 ((x : Int) / 256)) (k := fun o => o = _) hA (.intro (.row b1 3 [.int .i64 x] 1) _ 0 (.there (.there (.there .here))) (fun _ _ => ⟨_, rfl, hadd b1 0⟩) (by simp [Ob.cells]) rfl rfl)
    subst e
    exact h
  refine ⟨(KeepsOthers.setCell _ _ _).trans (KeepsOthers.setCell _ _ _), ?_⟩
  rw [show (x : Int) / 256 = ((x / 256 : Nat) : Int) from by omega] at hB ⊢
  have h := hB.picked (.cons (.there (.there .here)) (.cons (.there (.there .here)) (.cons (.there .here) (.cons .here .nil))))
  exact h

set_option maxRecDepth 100000 in
set_option maxHeartbeats 2000000 in
theorem put_yes (m c s : Nat) (hm : m < 4611686018427387904) (hcs : (c = 0 ∧ s = 1) ∨ (c = 1 ∧ s = 2) ∨ (c = 2 ∧ s = 4) ∨ (c = 3 ∧ s = 8)) (hc : vclass m = (c : Nat)) (w : World) :
    CallsIn Fence.wide 5 Try.prog 39 #[.int .i64 m] w fun e w' => ∃ b, e = .returned (.tuple #[.slice (some ⟨b, 0, none⟩) s s, .int .i64 0]) ∧ Inv w [] w' [.sl (some ⟨b, 0, none⟩) s 5 1 (Bs (vputN m))] MT := by
  have hI0 : Inv w [] w [] MT := Ctx.start (C := ⟨w, [], MT⟩) ⟨fun _ ho => (by cases ho), List.nodup_nil, fun _ _ => trivial⟩
  have hI1 : Inv w [] (w.alloc (.cells #[.int .i64 m] 3)) [.row w.heap.size 3 [.int .i64 m] 1] MT :=
    hI0.alloc _ (.row w.heap.size 3 [.int .i64 m] 1) rfl ⟨_, World.alloc_heap_new _ _, [], [], [], (0, 0), rfl, rfl, rfl, by simp⟩
  refine callsIn_of_wp_marks Try.func39 rfl trivial ?_ rfl
  simp only [Try.ntmps39, List.size_toArray, List.length_cons, List.length_nil, Nat.reduceAdd, Nat.reduceSub, Array.replicate_succ, Array.replicate_zero, List.push_toArray, List.append_toArray, List.nil_append, List.cons_append]
  rcases hcs with ⟨rfl, rfl⟩ | ⟨rfl, rfl⟩ | ⟨rfl, rfl⟩ | ⟨rfl, rfl⟩
  · have hcl : cls m = 0 := by
      unfold vclass at hc
      rw [if_pos ⟨by omega, by omega⟩, Int.toNat_natCast] at hc
      omega
    have hmk : ∀ w, (Instr.makeSlice 22 (.int .i64 1) (.int .i64 1)).run Try.prog w = .ok (.slice (some ⟨w.heap.size, 0, none⟩) 1 1) (w.alloc (.cells (Bs (List.replicate 1 0)).toArray 5)) := mk_bytes 1 (by omega) (by omega)
    gi_wp2_with (first
      | (refine ⟨trivial, ?_⟩; gi_at_call 49; refine (class_in 4 m (by omega) w _ _ hI1 _ hc).mono ?_; rintro e w1 ⟨rfl, hI2⟩)
      | (refine ⟨trivial, ?_⟩; gi_at_call 50; refine (back_in 4 _ _ _ _).mono ?_; rintro e w2 ⟨rfl, rfl⟩))
    have hI3 := hI2.alloc (.cells (Bs (List.replicate 1 0)).toArray 5) (.sl (some ⟨w1.heap.size, 0, none⟩) 1 5 1 (Bs (List.replicate 1 0))) rfl ⟨rfl, _, World.alloc_heap_new _ _, [], [], [], (0, 0), rfl, rfl, by simp, by simp⟩
    have hI4 := hI3.alloc (.cells #[.slice (some ⟨w1.heap.size, 0, none⟩) 1 1] 22) (.row (w1.heap.size + 1) 22 [.slice (some ⟨w1.heap.size, 0, none⟩) 1 1] 1) (by simp [Ob.blks]) ⟨_, (by rw [← World.size_alloc]; exact World.alloc_heap_new _ _), [], [], [], (0, 0), rfl, rfl, rfl, by simp⟩
    have hI5 := hI4.alloc (.cells #[.slice (some ⟨w1.heap.size, 0, none⟩) 1 1] 22) (.row (w1.heap.size + 2) 22 [.slice (some ⟨w1.heap.size, 0, none⟩) 1 1] 1) (by simp [Ob.blks]) ⟨_, (by rw [show w1.heap.size + 2 = ((w1.alloc (.cells (Bs (List.replicate 1 0)).toArray 5)).alloc (.cells #[.slice (some ⟨w1.heap.size, 0, none⟩) 1 1] 22)).heap.size from by simp]; exact World.alloc_heap_new _ _), [], [], [], (0, 0), rfl, rfl, rfl, by simp⟩
    have hq := backQ_of (b1 := w.heap.size) (l := []) (m := m) hI5
    refine wpIn_rangeFunc_ownG rfl (by omega) (gf := 53) (lb := #[.pointer (some ⟨w1.heap.size + 2, 0, none⟩)]) rfl trivial (enters_of Try.func53 (by kernel_rfl) rfl)
      (back_stops 4 (by omega) (w1.heap.size + 2) w1.heap.size 1 1 (by omega) _ (by simp only [World.size_alloc]; omega) (by simp only [World.size_alloc]; omega) hq) backK_t backK_b (Below.refl _ _) (fun _ => rfl)
      (fun pre W => PutI w w.heap.size w1.heap.size 1 m (pre.map fun x => x.1.val) W) (fun _ _ _ => False)
      (putI_own _ _ _ _ _ _ _ (by have := hI2.fr.size; simp at this ⊢; omega)) (fun _ _ _ _ _ hs _ _ => hs) hI5
      (fun x => { tmps := (.int .i64 m :: .pointer (some ⟨w.heap.size, 0, none⟩) :: .slice none 0 0 :: .int .i64 0 :: .int .i64 0 :: .pointer (some ⟨w1.heap.size + 1, 0, none⟩) :: .int .i64 (x.1.val : Int) :: .int .i64 m :: .int .i64 0 :: .int .i64 0 :: .bool false :: .int .i64 0 :: .int .i64 1 :: .slice (some ⟨w1.heap.size, 0, none⟩) 1 1 :: .slice (some ⟨w1.heap.size, 0, none⟩) 1 1 :: .func (.func 53) #[] #[.pointer (some ⟨w1.heap.size + 2, 0, none⟩)] :: .int .i64 (x.1.val : Int) :: .int .u8 x.2.toNat :: undef :: undef :: undef :: undef :: undef :: undef :: undef :: undef :: undef :: undef :: undef :: undef :: undef :: undef :: undef :: undef :: []).toArray, defers := [] }) ?assign0 ?body0 ?done0 ?stop0
    case assign0 =>
      intro l x W K hK
      gi_wp2
      exact hK
    case body0 =>
      rintro l pre ⟨⟨j, hj⟩, y⟩ W hI _
      refine wpIn_mono (putBody_wp m hm w w.heap.size w1.heap.size 1 _ W hI j hj l _ ?ha0) ?_
      case ha0 => exact ⟨_, _, _, _, _, _, _, _, _, _, _, _, _, _, _, _, _, _, _, _, _, _, _, _, _, _, _, _, _, _, _, rfl⟩
      rintro e a' W' hq
      cases e with
      | normal => exact ⟨hq.1.from _, fun _ => backQ_of hq.2, by dsimp only; rw [List.map_append]; exact hq.2⟩
      | _ => exact hq.elim
    case done0 =>
      rintro D ys W hD hS hI hK
      replace hS : ys.map (fun x => x.1.val) = down 1 1 := hS
      replace hI : PutI w w.heap.size w1.heap.size 1 m (ys.map fun x => x.1.val) W := hI
      rw [hS] at hI
      unfold PutI at hI
      rw [putFold_all] at hI
      obtain ⟨q, hq, hlt, he⟩ := vputN_cons hm
      rw [hcl] at hq he
      obtain rfl : q = 1 - 1 := by omega
      have hrow : Bs (be 1 m) = .int .u8 (m / 256 ^ (1 - 1) : Nat) :: Bs (be (1 - 1) m) := by
        rw [show be 1 m = be ((1 - 1) + 1) m from rfl, be_cons, Nat.mod_eq_of_lt (by omega)]
        show B _ :: _ = _
        unfold B
        rw [ofNat_toNat _ (by omega)]
        rfl
      have hfin : Bs (vputN m) = .int .u8 (m / 256 ^ (1 - 1) + 64 * 0 : Nat) :: Bs (be (1 - 1) m) := by
        rw [he]
        show B _ :: _ = _
        unfold B
        rw [ofNat_toNat _ (by omega)]
        rfl
      rw [hrow] at hI
      generalize m / 256 ^ (1 - 1) = h at hlt hI hfin
      generalize Bs (be (1 - 1) m) = rr at hI hfin
      obtain ⟨hc2, hf2⟩ := row_fact (hI.objs _ (List.mem_cons_of_mem _ (List.mem_cons_self ..))) (i := 0) rfl
      obtain ⟨hc3, hf3⟩ := row_fact (sl_row (hI.objs _ (List.mem_cons_of_mem _ (List.mem_cons_of_mem _ (List.mem_cons_self ..))))) (i := 0) rfl
      have hsz1 := hI2.fr.size
      clear hI0 hI1 hI2 hI3 hI4 hI5 hq he hrow hS hmk
      gi_wp2
      have hval : bits BinOp.or IntKind.u8 (h : Int) 0 = ((h + 64 * 0 : Nat) : Int) := by
        refine (bitI_or (kd := .u8) (a := h) (b := 64 * 0) (by rw [max_u8]; omega) (by rw [max_u8]; omega)).trans ?_
        rw [Nat.or_comm, show 64 * 0 = 0 * 2 ^ 6 from rfl, or_low _ _ _ hlt, Nat.add_comm]
      rw [hval]
      have hA : Inv w [] (W.setCell ⟨w1.heap.size, 0, none⟩ (.int .u8 (h + 64 * 0 : Nat))) [.sl (some ⟨w1.heap.size, 0, none⟩) 1 5 1 (Bs (vputN m))] MT := by
        obtain ⟨own', e, _, h'⟩ := vcStore1_does (P := Try.prog) (C := ⟨w, [], MT⟩) (ad := ⟨w1.heap.size, 0, none⟩) (v := .int .u8 (h + 64 * 0 : Nat)) (k := fun o => o = _) hI (.intro (.sl (some ⟨w1.heap.size, 0, none⟩) 1 5 1 (.int .u8 h :: rr)) _ 0 (.there (.there .here)) (fun _ _ => ⟨_, rfl, rfl⟩) (by simp [Ob.cells]) rfl rfl)
        subst e
        rw [hfin]
        exact Inv.drop (own := [_]) h' (fun _ _ _ => trivial)
      have hK' := (KeepsOthers.setCell W ⟨w1.heap.size, 0, none⟩ (.int .u8 (h + 64 * 0 : Nat))).same D _ hK rfl
      refine ⟨by simp, .inl ⟨_, _, rfl, run_takeDeferred hK', ?_⟩⟩
      refine ⟨_, results_tmp2 rfl _ _ _, w1.heap.size, rfl, ?_⟩
      exact Inv.grown hA (grownBy_putObj' _ _ _) (by simp [Ob.plain]) (fun r e => by cases e; exact ⟨by have := hsz1; simp at hD; omega, _, hK', rfl⟩)
    case stop0 =>
      rintro D c pre W _ _ h _
      exact h.elim
  · have hcl : cls m = 1 := by
      unfold vclass at hc
      rw [if_pos ⟨by omega, by omega⟩, Int.toNat_natCast] at hc
      omega
    have hmk : ∀ w, (Instr.makeSlice 22 (.int .i64 2) (.int .i64 2)).run Try.prog w = .ok (.slice (some ⟨w.heap.size, 0, none⟩) 2 2) (w.alloc (.cells (Bs (List.replicate 2 0)).toArray 5)) := mk_bytes 2 (by omega) (by omega)
    gi_wp2_with (first
      | (refine ⟨trivial, ?_⟩; gi_at_call 49; refine (class_in 4 m (by omega) w _ _ hI1 _ hc).mono ?_; rintro e w1 ⟨rfl, hI2⟩)
      | (refine ⟨trivial, ?_⟩; gi_at_call 50; refine (back_in 4 _ _ _ _).mono ?_; rintro e w2 ⟨rfl, rfl⟩))
    have hI3 := hI2.alloc (.cells (Bs (List.replicate 2 0)).toArray 5) (.sl (some ⟨w1.heap.size, 0, none⟩) 2 5 1 (Bs (List.replicate 2 0))) rfl ⟨rfl, _, World.alloc_heap_new _ _, [], [], [], (0, 0), rfl, rfl, by simp, by simp⟩
    have hI4 := hI3.alloc (.cells #[.slice (some ⟨w1.heap.size, 0, none⟩) 2 2] 22) (.row (w1.heap.size + 1) 22 [.slice (some ⟨w1.heap.size, 0, none⟩) 2 2] 1) (by simp [Ob.blks]) ⟨_, (by rw [← World.size_alloc]; exact World.alloc_heap_new _ _), [], [], [], (0, 0), rfl, rfl, rfl, by simp⟩
    have hI5 := hI4.alloc (.cells #[.slice (some ⟨w1.heap.size, 0, none⟩) 2 2] 22) (.row (w1.heap.size + 2) 22 [.slice (some ⟨w1.heap.size, 0, none⟩) 2 2] 1) (by simp [Ob.blks]) ⟨_, (by rw [show w1.heap.size + 2 = ((w1.alloc (.cells (Bs (List.replicate 2 0)).toArray 5)).alloc (.cells #[.slice (some ⟨w1.heap.size, 0, none⟩) 2 2] 22)).heap.size from by simp]; exact World.alloc_heap_new _ _), [], [], [], (0, 0), rfl, rfl, rfl, by simp⟩
    have hq := backQ_of (b1 := w.heap.size) (l := []) (m := m) hI5
    refine wpIn_rangeFunc_ownG rfl (by omega) (gf := 53) (lb := #[.pointer (some ⟨w1.heap.size + 2, 0, none⟩)]) rfl trivial (enters_of Try.func53 (by kernel_rfl) rfl)
      (back_stops 4 (by omega) (w1.heap.size + 2) w1.heap.size 2 2 (by omega) _ (by simp only [World.size_alloc]; omega) (by simp only [World.size_alloc]; omega) hq) backK_t backK_b (Below.refl _ _) (fun _ => rfl)
      (fun pre W => PutI w w.heap.size w1.heap.size 2 m (pre.map fun x => x.1.val) W) (fun _ _ _ => False)
      (putI_own _ _ _ _ _ _ _ (by have := hI2.fr.size; simp at this ⊢; omega)) (fun _ _ _ _ _ hs _ _ => hs) hI5
      (fun x => { tmps := (.int .i64 m :: .pointer (some ⟨w.heap.size, 0, none⟩) :: .slice none 0 0 :: .int .i64 0 :: .int .i64 1 :: .pointer (some ⟨w1.heap.size + 1, 0, none⟩) :: .int .i64 (x.1.val : Int) :: .int .i64 m :: .int .i64 1 :: .int .i64 1 :: .bool false :: .int .i64 1 :: .int .i64 2 :: .slice (some ⟨w1.heap.size, 0, none⟩) 2 2 :: .slice (some ⟨w1.heap.size, 0, none⟩) 2 2 :: .func (.func 53) #[] #[.pointer (some ⟨w1.heap.size + 2, 0, none⟩)] :: .int .i64 (x.1.val : Int) :: .int .u8 x.2.toNat :: undef :: undef :: undef :: undef :: undef :: undef :: undef :: undef :: undef :: undef :: undef :: undef :: undef :: undef :: undef :: undef :: []).toArray, defers := [] }) ?assign1 ?body1 ?done1 ?stop1
    case assign1 =>
      intro l x W K hK
      gi_wp2
      exact hK
    case body1 =>
      rintro l pre ⟨⟨j, hj⟩, y⟩ W hI _
      refine wpIn_mono (putBody_wp m hm w w.heap.size w1.heap.size 2 _ W hI j hj l _ ?ha1) ?_
      case ha1 => exact ⟨_, _, _, _, _, _, _, _, _, _, _, _, _, _, _, _, _, _, _, _, _, _, _, _, _, _, _, _, _, _, _, rfl⟩
      rintro e a' W' hq
      cases e with
      | normal => exact ⟨hq.1.from _, fun _ => backQ_of hq.2, by dsimp only; rw [List.map_append]; exact hq.2⟩
      | _ => exact hq.elim
    case done1 =>
      rintro D ys W hD hS hI hK
      replace hS : ys.map (fun x => x.1.val) = down 2 2 := hS
      replace hI : PutI w w.heap.size w1.heap.size 2 m (ys.map fun x => x.1.val) W := hI
      rw [hS] at hI
      unfold PutI at hI
      rw [putFold_all] at hI
      obtain ⟨q, hq, hlt, he⟩ := vputN_cons hm
      rw [hcl] at hq he
      obtain rfl : q = 2 - 1 := by omega
      have hrow : Bs (be 2 m) = .int .u8 (m / 256 ^ (2 - 1) : Nat) :: Bs (be (2 - 1) m) := by
        rw [show be 2 m = be ((2 - 1) + 1) m from rfl, be_cons, Nat.mod_eq_of_lt (by omega)]
        show B _ :: _ = _
        unfold B
        rw [ofNat_toNat _ (by omega)]
        rfl
      have hfin : Bs (vputN m) = .int .u8 (m / 256 ^ (2 - 1) + 64 * 1 : Nat) :: Bs (be (2 - 1) m) := by
        rw [he]
        show B _ :: _ = _
        unfold B
        rw [ofNat_toNat _ (by omega)]
        rfl
      rw [hrow] at hI
      generalize m / 256 ^ (2 - 1) = h at hlt hI hfin
      generalize Bs (be (2 - 1) m) = rr at hI hfin
      obtain ⟨hc2, hf2⟩ := row_fact (hI.objs _ (List.mem_cons_of_mem _ (List.mem_cons_self ..))) (i := 0) rfl
      obtain ⟨hc3, hf3⟩ := row_fact (sl_row (hI.objs _ (List.mem_cons_of_mem _ (List.mem_cons_of_mem _ (List.mem_cons_self ..))))) (i := 0) rfl
      have hsz1 := hI2.fr.size
      clear hI0 hI1 hI2 hI3 hI4 hI5 hq he hrow hS hmk
      gi_wp2
      have hval : bits BinOp.or IntKind.u8 (h : Int) 64 = ((h + 64 * 1 : Nat) : Int) := by
        refine (bitI_or (kd := .u8) (a := h) (b := 64 * 1) (by rw [max_u8]; omega) (by rw [max_u8]; omega)).trans ?_
        rw [Nat.or_comm, show 64 * 1 = 1 * 2 ^ 6 from rfl, or_low _ _ _ hlt, Nat.add_comm]
      rw [hval]
      have hA : Inv w [] (W.setCell ⟨w1.heap.size, 0, none⟩ (.int .u8 (h + 64 * 1 : Nat))) [.sl (some ⟨w1.heap.size, 0, none⟩) 2 5 1 (Bs (vputN m))] MT := by
        obtain ⟨own', e, _, h'⟩ := vcStore1_does (P := Try.prog) (C := ⟨w, [], MT⟩) (ad := ⟨w1.heap.size, 0, none⟩) (v := .int .u8 (h + 64 * 1 : Nat)) (k := fun o => o = _) hI (.intro (.sl (some ⟨w1.heap.size, 0, none⟩) 2 5 1 (.int .u8 h :: rr)) _ 0 (.there (.there .here)) (fun _ _ => ⟨_, rfl, rfl⟩) (by simp [Ob.cells]) rfl rfl)
        subst e
        rw [hfin]
        exact Inv.drop (own := [_]) h' (fun _ _ _ => trivial)
      have hK' := (KeepsOthers.setCell W ⟨w1.heap.size, 0, none⟩ (.int .u8 (h + 64 * 1 : Nat))).same D _ hK rfl
      refine ⟨by simp, .inl ⟨_, _, rfl, run_takeDeferred hK', ?_⟩⟩
      refine ⟨_, results_tmp2 rfl _ _ _, w1.heap.size, rfl, ?_⟩
      exact Inv.grown hA (grownBy_putObj' _ _ _) (by simp [Ob.plain]) (fun r e => by cases e; exact ⟨by have := hsz1; simp at hD; omega, _, hK', rfl⟩)
    case stop1 =>
      rintro D c pre W _ _ h _
      exact h.elim
  · have hcl : cls m = 2 := by
      unfold vclass at hc
      rw [if_pos ⟨by omega, by omega⟩, Int.toNat_natCast] at hc
      omega
    have hmk : ∀ w, (Instr.makeSlice 22 (.int .i64 4) (.int .i64 4)).run Try.prog w = .ok (.slice (some ⟨w.heap.size, 0, none⟩) 4 4) (w.alloc (.cells (Bs (List.replicate 4 0)).toArray 5)) := mk_bytes 4 (by omega) (by omega)
    gi_wp2_with (first
      | (refine ⟨trivial, ?_⟩; gi_at_call 49; refine (class_in 4 m (by omega) w _ _ hI1 _ hc).mono ?_; rintro e w1 ⟨rfl, hI2⟩)
      | (refine ⟨trivial, ?_⟩; gi_at_call 50; refine (back_in 4 _ _ _ _).mono ?_; rintro e w2 ⟨rfl, rfl⟩))
    have hI3 := hI2.alloc (.cells (Bs (List.replicate 4 0)).toArray 5) (.sl (some ⟨w1.heap.size, 0, none⟩) 4 5 1 (Bs (List.replicate 4 0))) rfl ⟨rfl, _, World.alloc_heap_new _ _, [], [], [], (0, 0), rfl, rfl, by simp, by simp⟩
    have hI4 := hI3.alloc (.cells #[.slice (some ⟨w1.heap.size, 0, none⟩) 4 4] 22) (.row (w1.heap.size + 1) 22 [.slice (some ⟨w1.heap.size, 0, none⟩) 4 4] 1) (by simp [Ob.blks]) ⟨_, (by rw [← World.size_alloc]; exact World.alloc_heap_new _ _), [], [], [], (0, 0), rfl, rfl, rfl, by simp⟩
    have hI5 := hI4.alloc (.cells #[.slice (some ⟨w1.heap.size, 0, none⟩) 4 4] 22) (.row (w1.heap.size + 2) 22 [.slice (some ⟨w1.heap.size, 0, none⟩) 4 4] 1) (by simp [Ob.blks]) ⟨_, (by rw [show w1.heap.size + 2 = ((w1.alloc (.cells (Bs (List.replicate 4 0)).toArray 5)).alloc (.cells #[.slice (some ⟨w1.heap.size, 0, none⟩) 4 4] 22)).heap.size from by simp]; exact World.alloc_heap_new _ _), [], [], [], (0, 0), rfl, rfl, rfl, by simp⟩
    have hq := backQ_of (b1 := w.heap.size) (l := []) (m := m) hI5
    refine wpIn_rangeFunc_ownG rfl (by omega) (gf := 53) (lb := #[.pointer (some ⟨w1.heap.size + 2, 0, none⟩)]) rfl trivial (enters_of Try.func53 (by kernel_rfl) rfl)
      (back_stops 4 (by omega) (w1.heap.size + 2) w1.heap.size 4 4 (by omega) _ (by simp only [World.size_alloc]; omega) (by simp only [World.size_alloc]; omega) hq) backK_t backK_b (Below.refl _ _) (fun _ => rfl)
      (fun pre W => PutI w w.heap.size w1.heap.size 4 m (pre.map fun x => x.1.val) W) (fun _ _ _ => False)
      (putI_own _ _ _ _ _ _ _ (by have := hI2.fr.size; simp at this ⊢; omega)) (fun _ _ _ _ _ hs _ _ => hs) hI5
      (fun x => { tmps := (.int .i64 m :: .pointer (some ⟨w.heap.size, 0, none⟩) :: .slice none 0 0 :: .int .i64 0 :: .int .i64 2 :: .pointer (some ⟨w1.heap.size + 1, 0, none⟩) :: .int .i64 (x.1.val : Int) :: .int .i64 m :: .int .i64 2 :: .int .i64 2 :: .bool false :: .int .i64 2 :: .int .i64 4 :: .slice (some ⟨w1.heap.size, 0, none⟩) 4 4 :: .slice (some ⟨w1.heap.size, 0, none⟩) 4 4 :: .func (.func 53) #[] #[.pointer (some ⟨w1.heap.size + 2, 0, none⟩)] :: .int .i64 (x.1.val : Int) :: .int .u8 x.2.toNat :: undef :: undef :: undef :: undef :: undef :: undef :: undef :: undef :: undef :: undef :: undef :: undef :: undef :: undef :: undef :: undef :: []).toArray, defers := [] }) ?assign2 ?body2 ?done2 ?stop2
    case assign2 =>
      intro l x W K hK
      gi_wp2
      exact hK
    case body2 =>
      rintro l pre ⟨⟨j, hj⟩, y⟩ W hI _
      refine wpIn_mono (putBody_wp m hm w w.heap.size w1.heap.size 4 _ W hI j hj l _ ?ha2) ?_
      case ha2 => exact ⟨_, _, _, _, _, _, _, _, _, _, _, _, _, _, _, _, _, _, _, _, _, _, _, _, _, _, _, _, _, _, _, rfl⟩
      rintro e a' W' hq
      cases e with
      | normal => exact ⟨hq.1.from _, fun _ => backQ_of hq.2, by dsimp only; rw [List.map_append]; exact hq.2⟩
      | _ => exact hq.elim
    case done2 =>
      rintro D ys W hD hS hI hK
      replace hS : ys.map (fun x => x.1.val) = down 4 4 := hS
      replace hI : PutI w w.heap.size w1.heap.size 4 m (ys.map fun x => x.1.val) W := hI
      rw [hS] at hI
      unfold PutI at hI
      rw [putFold_all] at hI
      obtain ⟨q, hq, hlt, he⟩ := vputN_cons hm
      rw [hcl] at hq he
      obtain rfl : q = 4 - 1 := by omega
      have hrow : Bs (be 4 m) = .int .u8 (m / 256 ^ (4 - 1) : Nat) :: Bs (be (4 - 1) m) := by
        rw [show be 4 m = be ((4 - 1) + 1) m from rfl, be_cons, Nat.mod_eq_of_lt (by omega)]
        show B _ :: _ = _
        unfold B
        rw [ofNat_toNat _ (by omega)]
        rfl
      have hfin : Bs (vputN m) = .int .u8 (m / 256 ^ (4 - 1) + 64 * 2 : Nat) :: Bs (be (4 - 1) m) := by
        rw [he]
        show B _ :: _ = _
        unfold B
        rw [ofNat_toNat _ (by omega)]
        rfl
      rw [hrow] at hI
      generalize m / 256 ^ (4 - 1) = h at hlt hI hfin
      generalize Bs (be (4 - 1) m) = rr at hI hfin
      obtain ⟨hc2, hf2⟩ := row_fact (hI.objs _ (List.mem_cons_of_mem _ (List.mem_cons_self ..))) (i := 0) rfl
      obtain ⟨hc3, hf3⟩ := row_fact (sl_row (hI.objs _ (List.mem_cons_of_mem _ (List.mem_cons_of_mem _ (List.mem_cons_self ..))))) (i := 0) rfl
      have hsz1 := hI2.fr.size
      clear hI0 hI1 hI2 hI3 hI4 hI5 hq he hrow hS hmk
      gi_wp2
      have hval : bits BinOp.or IntKind.u8 (h : Int) 128 = ((h + 64 * 2 : Nat) : Int) := by
        refine (bitI_or (kd := .u8) (a := h) (b := 64 * 2) (by rw [max_u8]; omega) (by rw [max_u8]; omega)).trans ?_
        rw [Nat.or_comm, show 64 * 2 = 2 * 2 ^ 6 from rfl, or_low _ _ _ hlt, Nat.add_comm]
      rw [hval]
      have hA : Inv w [] (W.setCell ⟨w1.heap.size, 0, none⟩ (.int .u8 (h + 64 * 2 : Nat))) [.sl (some ⟨w1.heap.size, 0, none⟩) 4 5 1 (Bs (vputN m))] MT := by
        obtain ⟨own', e, _, h'⟩ := vcStore1_does (P := Try.prog) (C := ⟨w, [], MT⟩) (ad := ⟨w1.heap.size, 0, none⟩) (v := .int .u8 (h + 64 * 2 : Nat)) (k := fun o => o = _) hI (.intro (.sl (some ⟨w1.heap.size, 0, none⟩) 4 5 1 (.int .u8 h :: rr)) _ 0 (.there (.there .here)) (fun _ _ => ⟨_, rfl, rfl⟩) (by simp [Ob.cells]) rfl rfl)
        subst e
        rw [hfin]
        exact Inv.drop (own := [_]) h' (fun _ _ _ => trivial)
      have hK' := (KeepsOthers.setCell W ⟨w1.heap.size, 0, none⟩ (.int .u8 (h + 64 * 2 : Nat))).same D _ hK rfl
      refine ⟨by simp, .inl ⟨_, _, rfl, run_takeDeferred hK', ?_⟩⟩
      refine ⟨_, results_tmp2 rfl _ _ _, w1.heap.size, rfl, ?_⟩
      exact Inv.grown hA (grownBy_putObj' _ _ _) (by simp [Ob.plain]) (fun r e => by cases e; exact ⟨by have := hsz1; simp at hD; omega, _, hK', rfl⟩)
    case stop2 =>
      rintro D c pre W _ _ h _
      exact h.elim
  · have hcl : cls m = 3 := by
      unfold vclass at hc
      rw [if_pos ⟨by omega, by omega⟩, Int.toNat_natCast] at hc
      omega
    have hmk : ∀ w, (Instr.makeSlice 22 (.int .i64 8) (.int .i64 8)).run Try.prog w = .ok (.slice (some ⟨w.heap.size, 0, none⟩) 8 8) (w.alloc (.cells (Bs (List.replicate 8 0)).toArray 5)) := mk_bytes 8 (by omega) (by omega)
    gi_wp2_with (first
      | (refine ⟨trivial, ?_⟩; gi_at_call 49; refine (class_in 4 m (by omega) w _ _ hI1 _ hc).mono ?_; rintro e w1 ⟨rfl, hI2⟩)
      | (refine ⟨trivial, ?_⟩; gi_at_call 50; refine (back_in 4 _ _ _ _).mono ?_; rintro e w2 ⟨rfl, rfl⟩))
    have hI3 := hI2.alloc (.cells (Bs (List.replicate 8 0)).toArray 5) (.sl (some ⟨w1.heap.size, 0, none⟩) 8 5 1 (Bs (List.replicate 8 0))) rfl ⟨rfl, _, World.alloc_heap_new _ _, [], [], [], (0, 0), rfl, rfl, by simp, by simp⟩
    have hI4 := hI3.alloc (.cells #[.slice (some ⟨w1.heap.size, 0, none⟩) 8 8] 22) (.row (w1.heap.size + 1) 22 [.slice (some ⟨w1.heap.size, 0, none⟩) 8 8] 1) (by simp [Ob.blks]) ⟨_, (by rw [← World.size_alloc]; exact World.alloc_heap_new _ _), [], [], [], (0, 0), rfl, rfl, rfl, by simp⟩
    have hI5 := hI4.alloc (.cells #[.slice (some ⟨w1.heap.size, 0, none⟩) 8 8] 22) (.row (w1.heap.size + 2) 22 [.slice (some ⟨w1.heap.size, 0, none⟩) 8 8] 1) (by simp [Ob.blks]) ⟨_, (by rw [show w1.heap.size + 2 = ((w1.alloc (.cells (Bs (List.replicate 8 0)).toArray 5)).alloc (.cells #[.slice (some ⟨w1.heap.size, 0, none⟩) 8 8] 22)).heap.size from by simp]; exact World.alloc_heap_new _ _), [], [], [], (0, 0), rfl, rfl, rfl, by simp⟩
    have hq := backQ_of (b1 := w.heap.size) (l := []) (m := m) hI5
    refine wpIn_rangeFunc_ownG rfl (by omega) (gf := 53) (lb := #[.pointer (some ⟨w1.heap.size + 2, 0, none⟩)]) rfl trivial (enters_of Try.func53 (by kernel_rfl) rfl)
      (back_stops 4 (by omega) (w1.heap.size + 2) w1.heap.size 8 8 (by omega) _ (by simp only [World.size_alloc]; omega) (by simp only [World.size_alloc]; omega) hq) backK_t backK_b (Below.refl _ _) (fun _ => rfl)
      (fun pre W => PutI w w.heap.size w1.heap.size 8 m (pre.map fun x => x.1.val) W) (fun _ _ _ => False)
      (putI_own _ _ _ _ _ _ _ (by have := hI2.fr.size; simp at this ⊢; omega)) (fun _ _ _ _ _ hs _ _ => hs) hI5
      (fun x => { tmps := (.int .i64 m :: .pointer (some ⟨w.heap.size, 0, none⟩) :: .slice none 0 0 :: .int .i64 0 :: .int .i64 3 :: .pointer (some ⟨w1.heap.size + 1, 0, none⟩) :: .int .i64 (x.1.val : Int) :: .int .i64 m :: .int .i64 3 :: .int .i64 3 :: .bool false :: .int .i64 3 :: .int .i64 8 :: .slice (some ⟨w1.heap.size, 0, none⟩) 8 8 :: .slice (some ⟨w1.heap.size, 0, none⟩) 8 8 :: .func (.func 53) #[] #[.pointer (some ⟨w1.heap.size + 2, 0, none⟩)] :: .int .i64 (x.1.val : Int) :: .int .u8 x.2.toNat :: undef :: undef :: undef :: undef :: undef :: undef :: undef :: undef :: undef :: undef :: undef :: undef :: undef :: undef :: undef :: undef :: []).toArray, defers := [] }) ?assign3 ?body3 ?done3 ?stop3
    case assign3 =>
      intro l x W K hK
      gi_wp2
      exact hK
    case body3 =>
      rintro l pre ⟨⟨j, hj⟩, y⟩ W hI _
      refine wpIn_mono (putBody_wp m hm w w.heap.size w1.heap.size 8 _ W hI j hj l _ ?ha3) ?_
      case ha3 => exact ⟨_, _, _, _, _, _, _, _, _, _, _, _, _, _, _, _, _, _, _, _, _, _, _, _, _, _, _, _, _, _, _, rfl⟩
      rintro e a' W' hq
      cases e with
      | normal => exact ⟨hq.1.from _, fun _ => backQ_of hq.2, by dsimp only; rw [List.map_append]; exact hq.2⟩
      | _ => exact hq.elim
    case done3 =>
      rintro D ys W hD hS hI hK
      replace hS : ys.map (fun x => x.1.val) = down 8 8 := hS
      replace hI : PutI w w.heap.size w1.heap.size 8 m (ys.map fun x => x.1.val) W := hI
      rw [hS] at hI
      unfold PutI at hI
      rw [putFold_all] at hI
      obtain ⟨q, hq, hlt, he⟩ := vputN_cons hm
      rw [hcl] at hq he
      obtain rfl : q = 8 - 1 := by omega
      have hrow : Bs (be 8 m) = .int .u8 (m / 256 ^ (8 - 1) : Nat) :: Bs (be (8 - 1) m) := by
        rw [show be 8 m = be ((8 - 1) + 1) m from rfl, be_cons, Nat.mod_eq_of_lt (by omega)]
        show B _ :: _ = _
        unfold B
        rw [ofNat_toNat _ (by omega)]
        rfl
      have hfin : Bs (vputN m) = .int .u8 (m / 256 ^ (8 - 1) + 64 * 3 : Nat) :: Bs (be (8 - 1) m) := by
        rw [he]
        show B _ :: _ = _
        unfold B
        rw [ofNat_toNat _ (by omega)]
        rfl
      rw [hrow] at hI
      generalize m / 256 ^ (8 - 1) = h at hlt hI hfin
      generalize Bs (be (8 - 1) m) = rr at hI hfin
      obtain ⟨hc2, hf2⟩ := row_fact (hI.objs _ (List.mem_cons_of_mem _ (List.mem_cons_self ..))) (i := 0) rfl
      obtain ⟨hc3, hf3⟩ := row_fact (sl_row (hI.objs _ (List.mem_cons_of_mem _ (List.mem_cons_of_mem _ (List.mem_cons_self ..))))) (i := 0) rfl
      have hsz1 := hI2.fr.size
      clear hI0 hI1 hI2 hI3 hI4 hI5 hq he hrow hS hmk
      gi_wp2
      have hval : bits BinOp.or IntKind.u8 (h : Int) 192 = ((h + 64 * 3 : Nat) : Int) := by
        refine (bitI_or (kd := .u8) (a := h) (b := 64 * 3) (by rw [max_u8]; omega) (by rw [max_u8]; omega)).trans ?_
        rw [Nat.or_comm, show 64 * 3 = 3 * 2 ^ 6 from rfl, or_low _ _ _ hlt, Nat.add_comm]
      rw [hval]
      have hA : Inv w [] (W.setCell ⟨w1.heap.size, 0, none⟩ (.int .u8 (h + 64 * 3 : Nat))) [.sl (some ⟨w1.heap.size, 0, none⟩) 8 5 1 (Bs (vputN m))] MT := by
        obtain ⟨own', e, _, h'⟩ := vcStore1_does (P := Try.prog) (C := ⟨w, [], MT⟩) (ad := ⟨w1.heap.size, 0, none⟩) (v := .int .u8 (h + 64 * 3 : Nat)) (k := fun o => o = _) hI (.intro (.sl (some ⟨w1.heap.size, 0, none⟩) 8 5 1 (.int .u8 h :: rr)) _ 0 (.there (.there .here)) (fun _ _ => ⟨_, rfl, rfl⟩) (by simp [Ob.cells]) rfl rfl)
        subst e
        rw [hfin]
        exact Inv.drop (own := [_]) h' (fun _ _ _ => trivial)
      have hK' := (KeepsOthers.setCell W ⟨w1.heap.size, 0, none⟩ (.int .u8 (h + 64 * 3 : Nat))).same D _ hK rfl
      refine ⟨by simp, .inl ⟨_, _, rfl, run_takeDeferred hK', ?_⟩⟩
      refine ⟨_, results_tmp2 rfl _ _ _, w1.heap.size, rfl, ?_⟩
      exact Inv.grown hA (grownBy_putObj' _ _ _) (by simp [Ob.plain]) (fun r e => by cases e; exact ⟨by have := hsz1; simp at hD; omega, _, hK', rfl⟩)
    case stop3 =>
      rintro D c pre W _ _ h _
      exact h.elim

set_option maxRecDepth 100000 in
set_option maxHeartbeats 2000000 in
theorem put_no (n : Int) (hn : -9223372036854775808 ≤ n ∧ n ≤ 9223372036854775807) (hf : ¬ hasForm n) (w : World) :
    CallsIn Fence.wide 5 Try.prog 39 #[.int .i64 n] w fun e w' => e = .returned (.tuple #[.slice none 0 0, .int .i64 10]) ∧ Inv w [] w' [] MT := by
  have hc : vclass n = -1 := by unfold vclass; rw [if_neg hf]
  have hI0 : Inv w [] w [] MT := Ctx.start (C := ⟨w, [], MT⟩) ⟨fun _ ho => (by cases ho), List.nodup_nil, fun _ _ => trivial⟩
  have hI1 : Inv w [] (w.alloc (.cells #[.int .i64 n] 3)) [.row w.heap.size 3 [.int .i64 n] 1] MT :=
    hI0.alloc _ (.row w.heap.size 3 [.int .i64 n] 1) rfl ⟨_, World.alloc_heap_new _ _, [], [], [], (0, 0), rfl, rfl, rfl, by simp⟩
  refine callsIn_of_wp_marks Try.func39 rfl trivial ?_ rfl
  simp only [Try.ntmps39, List.size_toArray, List.length_cons, List.length_nil, Nat.reduceAdd, Nat.reduceSub, Array.replicate_succ, Array.replicate_zero, List.push_toArray, List.append_toArray, List.nil_append, List.cons_append]
  gi_wp2_with (refine ⟨trivial, ?_⟩; gi_at_call 49; refine (class_in 4 n hn w _ _ hI1 _ hc).mono ?_; rintro e w1 ⟨rfl, hI2⟩)
  refine ⟨_, results_tmp2 rfl _ _ _, rfl, ?_⟩
  exact Inv.drop (own := []) hI2 (fun _ _ _ => trivial)

/-- What Put hands back. -/
def PutRet (n : Int) (v : Value) (own : List Ob) (N : Mp) : Prop :=
  ∃ A cap, v = .tuple #[.slice A (vput n).length cap, .int .i64 (if hasForm n then 0 else 10)] ∧ own = [.sl A cap 5 1 (Bs (vput n))] ∧ N = MT ∧ (vput n).length ≤ cap

theorem put_spec (n : Int) (hn : -9223372036854775808 ≤ n ∧ n ≤ 9223372036854775807) (G : Mp) : Spec Try.prog 39 #[.int .i64 n] [] G (PutRet n) := by
  refine ⟨Try.call39, fun w hw => ?_⟩
  by_cases hf : hasForm n
  · obtain ⟨m, rfl⟩ := Int.eq_ofNat_of_zero_le hf.1
    have hm : m < 4611686018427387904 := by have := hf.2; omega
    have hput : vput (m : Int) = vputN m := by unfold vput; rw [if_pos hf, Int.toNat_natCast]
    have hc := cls_le m
    have hv : vclass (m : Int) = (cls m : Nat) := by unfold vclass; rw [if_pos hf, Int.toNat_natCast]
    have hcs : (cls m = 0 ∧ 2 ^ cls m = 1) ∨ (cls m = 1 ∧ 2 ^ cls m = 2) ∨ (cls m = 2 ∧ 2 ^ cls m = 4) ∨ (cls m = 3 ∧ 2 ^ cls m = 8) := by
      match cls m, hc with
      | 0, _ => simp
      | 1, _ => simp
      | 2, _ => simp
      | 3, _ => simp
    refine (callsIn_wide.1 (put_yes m (cls m) (2 ^ cls m) hm hcs hv w)).mono ?_
    rintro e w' ⟨b, rfl, hi⟩
    refine ⟨_, _, MT, rfl, ⟨some ⟨b, 0, none⟩, 2 ^ cls m, ?_, ?_, rfl, ?_⟩, hi⟩
    · rw [hput, vputN_length, if_pos hf]
    · rw [hput]
    · rw [hput, vputN_length]; exact Nat.le_refl _
  · have hput : vput n = [] := by unfold vput; rw [if_neg hf]
    refine (callsIn_wide.1 (put_no n hn hf w)).mono ?_
    rintro e w' ⟨rfl, hi⟩
    refine ⟨_, [.sl none 0 5 1 []], MT, rfl, ⟨none, 0, ?_, ?_, rfl, ?_⟩, ?_⟩
    · rw [hput, if_neg hf]; rfl
    · rw [hput]; rfl
    · rw [hput]; exact Nat.le_refl _
    · exact ⟨fun o ho => by rcases List.mem_singleton.1 ho with rfl; exact ⟨rfl, rfl⟩, hi.nodup, hi.fr, fun b hb => by simp [blksOf, Ob.blks] at hb, fun _ _ _ => trivial⟩
end Go.Proofs.Ytaknehiifafhfaa
