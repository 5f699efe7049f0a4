/- slices.Backward over new bytes: what a loop that fills them does. -/
import Derived.Test.YtnhkeghahiedfaaVarI
import Derived.Test.YtnhkeghahiedfaaVarE
import Derived.Test.YtnhkeghahiedfaaLib
namespace Go.Proofs.Ytnhkeghahiedfaa
open Go Go.Proofs Go.RowKit Go.Shelf
attribute [local go_sem] Oper.semAt_some

set_option maxRecDepth 100000 in
theorem back_in (n : Nat) (a : Option Addr) (len cap : Nat) (w : World) :
    CallsIn Fence.wide n Try.prog 43 #[.slice a len cap] w fun e w' => e = .returned (.func (.func 62) #[] #[.pointer (some ⟨w.heap.size, 0, none⟩)]) ∧ w' = w.alloc (.cells #[.slice a len cap] 22) := by
  refine callsIn_of_wp Try.func43 rfl trivial ?_ rfl
  simp only [Try.ntmps43, List.size_toArray, List.length_cons, List.length_nil, Nat.reduceAdd, Nat.reduceSub, Array.replicate_succ, Array.replicate_zero, List.push_toArray, List.append_toArray, List.nil_append, List.cons_append]
  gi_wp2
  go_ret
  exact ⟨rfl, rfl⟩

theorem row_fact {w : World} {b : Nat} {ty : TypeId} {xs : List Value} {m i : Nat} {v : Value} (h : (Ob.row b ty xs m).is w) (hi : xs[i]? = some v) : w.cell? ⟨b, i, none⟩ = some v ∧ w.frozen? ⟨b, i, none⟩ = false := by
  obtain ⟨o, ho, sp, fz, hl, rfl, hf⟩ := h
  have hlt : i < xs.length := (List.getElem?_eq_some_iff.1 hi).1
  refine ⟨?_, ?_⟩
  · simp only [World.cell?, ho, Option.isSome_none, Bool.false_eq_true, if_false, List.getElem?_toArray]
    rw [List.getElem?_append_left hlt]
    exact hi
  · have : ¬ (fz.1 ≤ i ∧ i < fz.2) := by rcases hf with h | h <;> omega
    simp only [World.frozen?, ho]
    simp only [decide_eq_false_iff_not, Bool.and_eq_false_iff]
    simp
    omega
theorem sl_row {w : World} {b cap : Nat} {ty : TypeId} {size : Nat} {xs : List Value} (h : (Ob.sl (some ⟨b, 0, none⟩) cap ty size xs).is w) : (Ob.row b ty xs (cap * size)).is w := h.2.2

theorem mk_bytes (s : Nat) (h : s ≤ 8) (h' : 1 ≤ s) (w : World) : (Instr.makeSlice 22 (.int .i64 s) (.int .i64 s)).run Try.prog w = .ok (.slice (some ⟨w.heap.size, 0, none⟩) s s) (w.alloc (.cells (Bs (List.replicate s 0)).toArray 5)) := by
  have hu : Try.prog.underlying 22 = some (.slice 5) := by kernel_rfl
  have hinfo : (Try.prog.info? 5).map (fun i => (i.zero, i.size, i.bytes)) = some (some (.int .u8 0), 1, 1) := by kernel_rfl
  obtain ⟨i, hi, hz, h1, h2⟩ := info_parts hinfo
  have wl : IntKind.i64.wrap (s : Int) = s := wrap_in .i64 s (by simp [IntKind.min, IntKind.signed, IntKind.bits]) (by simp [IntKind.max, IntKind.signed, IntKind.bits]; omega)
  simp only [Instr.makeSlice, Sem.run_bind, run_under hu, Result.andThen_ok, asInt, asIntOf, Sem.run_pure, run_info hi, wl]
  rw [if_neg (by simp [h2]; omega)]
  simp only [Sem.run_bind, run_askRoom, Result.andThen_ok, run_size hi, h1, Int.toNat_natCast, Nat.mul_one]
  rw [if_neg (by omega)]
  simp only [Sem.run_bind, run_zero hi hz, Result.andThen_ok, Sem.run_pure]
  have e : (Array.range s).map (fun j => ((Value.int .u8 0).cells)[j % ((Value.int .u8 0).cells).size]!) = (Bs (List.replicate s 0)).toArray := by
    apply Array.ext'
    have := zerosL_eq s 1 (Value.int .u8 0).cells rfl
    rw [Nat.mul_one] at this
    rw [this]
    exact Bs_zeros s
  rw [← e]
  rfl

/-- A step of the loop: a byte at its place, the rest of the number. -/
def putStep (p : List UInt8 × Nat) (i : Nat) : List UInt8 × Nat := (p.1.set i (UInt8.ofNat (p.2 % 256)), p.2 / 256)
def putFold (s m : Nat) (l : List Nat) : List UInt8 × Nat := l.foldl putStep (List.replicate s 0, m)
theorem putFold_snoc (s m : Nat) (l : List Nat) (i : Nat) : putFold s m (l ++ [i]) = putStep (putFold s m l) i := by simp [putFold]
theorem putFold_length (s m : Nat) : ∀ l : List Nat, (putFold s m l).1.length = s := by
  have key : ∀ (l : List Nat) (p : List UInt8 × Nat), (l.foldl putStep p).1.length = p.1.length := by
    intro l
    induction l with
    | nil => exact fun _ => rfl
    | cons i r ih => intro p; rw [List.foldl_cons, ih]; simp [putStep]
  intro l
  rw [putFold, key]; simp
theorem putFold_le (s m : Nat) : ∀ l : List Nat, (putFold s m l).2 ≤ m := by
  have key : ∀ (l : List Nat) (p : List UInt8 × Nat), (l.foldl putStep p).2 ≤ p.2 := by
    intro l
    induction l with
    | nil => exact fun _ => Nat.le_refl _
    | cons i r ih => intro p; rw [List.foldl_cons]; exact Nat.le_trans (ih _) (Nat.div_le_self _ _)
  intro l
  exact key l _
theorem putFold_down (s m : Nat) : ∀ k, k ≤ s → ∃ T x, putFold s m (down s k) = (List.replicate (s - k) 0 ++ T, x) ∧ T.length = k ∧ be s m = be (s - k) x ++ T
  | 0, _ => ⟨[], m, by simp [putFold, down], rfl, by simp⟩
  | k + 1, h => by
    obtain ⟨T, x, h1, h2, h3⟩ := putFold_down s m k (by omega)
    obtain ⟨j, hj⟩ : ∃ j, s - k = j + 1 := ⟨s - k - 1, by omega⟩
    refine ⟨UInt8.ofNat (x % 256) :: T, x / 256, ?_, by simp [h2], ?_⟩
    · rw [down_succ, putFold_snoc, h1, hj, show s - 1 - k = j from by omega, show s - (k + 1) = j from by omega]
      unfold putStep
      simp only
      congr 1
      rw [List.set_append_left _ _ (by simp), List.replicate_succ', List.set_append_right _ _ (by simp)]
      simp
    · rw [h3, hj, show s - (k + 1) = j from by omega, be]; simp
theorem putFold_all (s m : Nat) : (putFold s m (down s s)).1 = be s m := by
  obtain ⟨T, x, h1, h2, h3⟩ := putFold_down s m s (Nat.le_refl _)
  rw [h1, h3, Nat.sub_self]; rfl

theorem Inv.grown {w0 w w' : World} {row : Option Nat} {own : List Ob} (h : Inv w0 [] w own MT) (hg : w.grownBy w' row) (hm : ∀ b l, Ob.map b l ∉ own)
    (hr : ∀ r, row = some r → w0.heap.size ≤ r ∧ ∃ o : Obj, w.heap[r]? = some o ∧ o.isCells = false) : Inv w0 [] w' own MT := by
  have hcells : ∀ b ∈ blksOf own, ∃ o : Obj, w.heap[b]? = some o ∧ o.isCells = true := by
    intro b hb
    obtain ⟨o, ho, hb⟩ := mem_blksOf.1 hb
    have := h.objs o ho
    cases o with
    | row b' ty xs m =>
      simp only [Ob.blks, List.mem_singleton] at hb; subst hb
      obtain ⟨x, hx, sp, fz, _, rfl, _⟩ := this; exact ⟨_, hx, rfl⟩
    | sl A cap ty size xs =>
      cases A with
      | none => simp [Ob.blks] at hb
      | some a =>
        simp only [Ob.blks, List.mem_singleton] at hb; subst hb
        obtain ⟨_, _, x, hx, sp, fz, _, rfl, _⟩ := this; exact ⟨_, hx, rfl⟩
    | map b' l => exact (hm _ _ ho).elim
  have hsame : ∀ b ∈ blksOf own, w'.heap[b]? = w.heap[b]? := by
    intro b hb
    refine hg.block b (h.objs.lt b hb) (fun e => ?_)
    obtain ⟨_, o, ho, hoc⟩ := hr b e.symm
    obtain ⟨o', ho', hoc'⟩ := hcells b hb
    rw [ho] at ho'; cases ho'; rw [hoc] at hoc'; cases hoc'
  refine ⟨h.objs.keep hsame, h.nodup, ?_, h.from_, fun _ _ _ => trivial⟩
  refine ⟨hg.os.trans h.fr.os, hg.tape.trans h.fr.tape, hg.output.trans h.fr.output, Nat.le_trans h.fr.size hg.size, fun i hi hn => ?_⟩
  exact (hg.block i (Nat.lt_of_lt_of_le hi h.fr.size) (fun e => by have := (hr i e.symm).1; omega)).trans (h.fr.same i hi hn)

/-- Where the loop stands. -/
def PutI (w : World) (b1 R s m : Nat) (l : List Nat) (W : World) : Prop :=
  Inv w [] W [.row (R + 2) 22 [.slice (some ⟨R, 0, none⟩) s s] 1, .row (R + 1) 22 [.slice (some ⟨R, 0, none⟩) s s] 1, .sl (some ⟨R, 0, none⟩) s 5 1 (Bs (putFold s m l).1), .row b1 3 [.int .i64 ((putFold s m l).2 : Nat)] 1] MT
theorem putI_own (w : World) (b1 R s m B : Nat) {α : Type} (f : α → List Nat) (hB : w.heap.size ≤ B) : OwnFrom B (fun (pre : α) W => PutI w b1 R s m (f pre) W) := by
  intro pre W W' row h hg hr
  exact Inv.grown h hg (by simp) (fun r e => ⟨Nat.le_trans hB (hr r e).1, (hr r e).2⟩)
theorem backQ_of {w W : World} {b1 R s m : Nat} {l : List Nat} (h : PutI w b1 R s m l W) : BackQ (R + 2) R s s W := by
  refine ⟨(row_fact (h.objs _ (List.mem_cons_self ..)) (i := 0) rfl).1, fun j hj => ?_⟩
  have h3 := sl_row (h.objs _ (List.mem_cons_of_mem _ (List.mem_cons_of_mem _ (List.mem_cons_self ..))))
  have hl := putFold_length s m l
  exact ⟨(putFold s m l).1[j]'(by omega), (row_fact h3 (Bs_get (by omega))).1⟩
theorem backK_t {B R len cap : Nat} {X Y Z : World} (h : BackQ B R len cap X → BackQ B R len cap Y) (k : BackQ B R len cap Y → BackQ B R len cap Z) : BackQ B R len cap X → BackQ B R len cap Z := fun q => k (h q)
theorem backK_b {B R len cap : Nat} {w : World} (W : World) (l : Nat) (o o' : Obj) (_ : w.heap.size ≤ l) (h : W.heap[l]? = some o) (hc : o.isCells = false) (_ : o.isWalk = false) (q : BackQ B R len cap W) : BackQ B R len cap (W.putObj l o') := by
  have hg := grownBy_putObj' W l o'
  have hr : ∀ r, some l = some r → ∃ o : Obj, W.heap[r]? = some o ∧ o.isCells = false := fun r e => by cases e; exact ⟨o, h, hc⟩
  exact ⟨cell_kept q.1 hg hr, fun j hj => by obtain ⟨x, hx⟩ := q.2 j hj; exact ⟨x, cell_kept hx hg hr⟩⟩
theorem back_stops (n : Nat) (hn : 1 ≤ n) (B R len cap : Nat) (hlen : len ≤ 281474976710656) (w : World) (hB : B < w.heap.size) (hR : R < w.heap.size) (hq : BackQ B R len cap w) :
    SeqStopsK Fence.wide n Try.prog 62 #[.pointer (some ⟨B, 0, none⟩)] (fun x : {i : Nat // i < len} × UInt8 => #[Value.int .i64 (x.1.val : Int), .int .u8 x.2.toNat]) (fun W W' => BackQ B R len cap W → BackQ B R len cap W')
      (fun ys => ys.map (fun x => x.1.val) = down len len) (fun _ => True) len w := fun l J Jx W hW _ _ hY h0 =>
  back1_in n hn l B R len cap hlen J Jx hY W ⟨(hW.cell (p := ⟨B, 0, none⟩) hB).trans hq.1, fun j hj => by obtain ⟨x, hx⟩ := hq.2 j hj; exact ⟨x, (hW.cell (p := ⟨R, j, none⟩) hR).trans hx⟩⟩ h0

end Go.Proofs.Ytnhkeghahiedfaa
