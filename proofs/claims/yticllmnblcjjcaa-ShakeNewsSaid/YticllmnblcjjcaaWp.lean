/- The verification conditions suffice. -/
import Derived.Test.YticllmnblcjjcaaVc
namespace Go.Proofs.Yticllmnblcjjcaa

section
variable {P : Program} {M : Mp}

theorem evK_some {fm : Fm} {x : Operand} {k : Value → Prop} (h : evK fm x k) : ∃ v, ev fm x = some v ∧ k v := by
  unfold evK at h
  split at h
  · rename_i v hv; exact ⟨v, hv, h⟩
  · exact h.elim

theorem partVals_eq {D : Env} {n : Nat} {fm : Fm} {a : Act} (hf : FmOk D n fm a) : ∀ {l : List (Nat × Operand)} {vs : List (Nat × Value)}, partVals fm l = some vs → l.map (fun (i, x) => (i, a.eval x)) = vs
  | [], vs, h => by simpa [partVals] using h
  | (i, x) :: r, vs, h => by
    unfold partVals at h
    split at h
    · rename_i v hv
      split at h
      · rename_i us hus
        cases h
        simp [hf.eval_ hv, partVals_eq hf hus]
      · cases h
    · cases h

theorem setAll_foldl (off : Nat) : ∀ (vs : List Value) (i : Nat) (cs : List Value), setAll cs (off + i) vs = (vs.zipIdx i).foldl (fun cs (c, j) => cs.set (off + j) c) cs
  | [], _, _ => rfl
  | v :: r, i, cs => by
    simp only [setAll, List.zipIdx_cons, List.foldl_cons]
    rw [← setAll_foldl off r (i + 1)]
    rfl
theorem setAll_length : ∀ (vs : List Value) (i : Nat) (cs : List Value), (setAll cs i vs).length = cs.length
  | [], _, _ => rfl
  | v :: r, i, cs => by simp only [setAll]; rw [setAll_length r]; simp

theorem foldl_set (off : Nat) : ∀ (l : List (Value × Nat)) (cs : Array Value), (l.foldl (fun cs (c, j) => cs.setIfInBounds (off + j) c) cs).toList = l.foldl (fun cs (c, j) => cs.set (off + j) c) cs.toList
  | [], _ => rfl
  | (v, j) :: r, cs => by simp only [List.foldl_cons]; rw [foldl_set off r]; simp

theorem fillL_eq (place : Nat → Option (Nat × Nat)) : ∀ (vs : List (Nat × Value)) (cells : Array Value) (cs : List Value), fillL place cells.toList vs = some cs → Instr.fill place cells vs = some cs.toArray
  | [], cells, cs, h => by simp [fillL] at h; subst h; simp [Instr.fill]
  | (i, v) :: r, cells, cs, h => by
    unfold fillL at h
    split at h
    · cases h
    · rename_i off size hp
      split at h
      · rename_i hb
        simp only [Bool.and_eq_true] at hb
        have h1 : v.cells.size = size := Nat.eq_of_beq_eq_true hb.1
        have h2 : off + v.cells.size ≤ cells.size := by simpa using Nat.le_of_ble_eq_true hb.2
        have e : setAll cells.toList off v.cells.toList = (v.cells.zipIdx.foldl (fun cs (c, j) => cs.setIfInBounds (off + j) c) cells).toList := by
          rw [← Array.foldl_toList, Array.toList_zipIdx]
          rw [foldl_set off]
          exact setAll_foldl off v.cells.toList 0 cells.toList
        rw [layL_eq _ _ _ (by simpa using h2), e] at h
        have := fillL_eq place r _ cs h
        simp only [Instr.fill, hp]
        rw [if_neg (by simp [h1]; omega)]
        exact this
      · cases h

theorem fieldSizes_run : ∀ (l : List Field) (pl : List (Nat × Nat)), fieldSizes P l = some pl → ∀ w, (l.mapM (m := Sem) fun f => do pure (f.offset, ← sizeOf f.type)).run P w = .ok pl w
  | [], pl, h, w => by simp [fieldSizes] at h; subst h; rfl
  | f :: r, pl, h, w => by
    unfold fieldSizes at h
    split at h
    · rename_i i hi
      split at h
      · rename_i l hl
        cases h
        have ih := fieldSizes_run r l hl w
        simp only [bind_pure_comp] at ih
        simp [List.mapM_cons, run_size hi, ih]
      · cases h
    · cases h

theorem vcBuild_gives {D : Env} {t : TypeId} {fm : Fm} {n : Nat} {a : Act} (hf : FmOk D n fm a) {parts : Array (Nat × Operand)} {k : Value → Prop} (h : vcBuild P t fm parts.toList k) :
    Gives P M (Instr.build t (parts.map fun (i, x) => (i, a.eval x))) k := by
  unfold vcBuild at h
  split at h
  · rename_i vs hvs
    have hp : (parts.map fun (i, x) => (i, a.eval x)).toList = vs := by
      rw [Array.toList_map]; exact partVals_eq hf hvs
    split at h
    · rename_i i hi
      split at h
      · rename_i z hz
        split at h
        · rename_i fields hu
          split at h
          · rename_i pl hpl
            split at h
            · rename_i cs hcs
              have hk := forced_eq _ _ h
              refine ⟨_, hk, fun w _ => ?_⟩
              have hfill := fillL_eq _ _ _ _ hcs
              have hm : (fields.mapM (m := Sem) fun f => do pure (f.offset, ← sizeOf f.type)).run P w = .ok pl.toArray w := by
                rw [← Array.toArray_toList (xs := fields), List.mapM_toArray]
                simp only [Sem.run_map]
                rw [fieldSizes_run _ _ hpl w]
                simp
              simp only [Instr.build, Sem.run_bind, run_zero hi hz, Result.andThen_ok, run_under hu]
              rw [hm]
              simp only [Result.andThen_ok, hp]
              have : (fun x : Nat => pl.toArray[x]?) = (fun j : Nat => pl[j]?) := by funext j; simp
              rw [this, hfill]
              rfl
            · exact h.elim
          · exact h.elim
        · rename_i _ e hu
          split at h
          · rename_i ie hie
            split at h
            · rename_i cs hcs
              have hk := forced_eq _ _ h
              refine ⟨_, hk, fun w _ => ?_⟩
              have hfill := fillL_eq _ _ _ _ hcs
              simp only [Instr.build, Sem.run_bind, run_zero hi hz, Result.andThen_ok, run_under hu, run_size hie, hp]
              rw [hfill]
              rfl
            · exact h.elim
          · exact h.elim
        · exact h.elim
      · exact h.elim
    · exact h.elim
  · exact h.elim

theorem vcPure_gives {D : Env} (hM : ∃ w, M w) {o : Oper} {fm : Fm} {n : Nat} {a : Act} (hf : FmOk D n fm a) {k : Value → Prop} (h : vcPure P M o.op fm k) :
    ∃ v, k v ∧ ∀ w, M w → (execOp a.eval o).run P w = .ok (.value v) w := by
  have lift : ∀ {s : Sem Value}, Gives P M s k → (execOp a.eval o = do pure (.value (← s))) → ∃ v, k v ∧ ∀ w, M w → (execOp a.eval o).run P w = .ok (.value v) w := by
    rintro s ⟨v, hv, hr⟩ he
    exact ⟨v, hv, fun w hw => by rw [he]; simp [hr w hw]⟩
  unfold vcPure at h
  split at h
  · rename_i x ho
    obtain ⟨v, hv, hk⟩ := evK_some h
    exact ⟨v, hk, fun w _ => by simp [execOp, ho, hf.eval_ hv]⟩
  · rename_i x ho
    obtain ⟨v, hv, hk⟩ := evK_some h
    exact ⟨v, hk, fun w _ => by simp [execOp, ho, hf.eval_ hv]⟩
  · rename_i c x y ho
    obtain ⟨cv, hcv, h⟩ := evK_some h
    obtain ⟨va, hva, h⟩ := evK_some h
    obtain ⟨vb, hvb, h⟩ := evK_some h
    cases cv with
    | bool t =>
      cases t with
      | true => exact ⟨va, h, fun w _ => by simp [execOp, ho, hf.eval_ hcv, hf.eval_ hva, asBool]⟩
      | false => exact ⟨vb, h, fun w _ => by simp [execOp, ho, hf.eval_ hcv, hf.eval_ hvb, asBool]⟩
    | _ => exact h.elim
  · rename_i t x ho
    obtain ⟨v, hv, h⟩ := evK_some h
    exact lift (vcLoad_gives h) (by simp [execOp, ho, hf.eval_ hv])
  · rename_i x ho
    obtain ⟨v, hv, h⟩ := evK_some h
    split at h
    · exact ⟨_, h, fun w _ => by simp [execOp, ho, hf.eval_ hv]⟩
    · exact ⟨_, h, fun w _ => by simp [execOp, ho, hf.eval_ hv]⟩
    · exact h.elim
  · rename_i op t x y yt ho
    obtain ⟨vx, hvx, h⟩ := evK_some h
    obtain ⟨vy, hvy, h⟩ := evK_some h
    exact lift (vcBin_gives h x y) (by simp [execOp, ho, hf.eval_ hvx, hf.eval_ hvy])
  · rename_i op t x ho
    obtain ⟨v, hv, h⟩ := evK_some h
    exact lift (vcUn_gives h) (by simp [execOp, ho, hf.eval_ hv])
  · rename_i s d x ho
    obtain ⟨v, hv, h⟩ := evK_some h
    exact lift (vcConv_gives h) (by simp [execOp, ho, hf.eval_ hv])
  · rename_i t x lo hi mx ho
    exact lift (vcSlice_gives hf h) (by simp [execOp, ho])
  · rename_i t x f ho
    obtain ⟨v, hv, h⟩ := evK_some h
    exact lift (vcFieldAddr_gives h) (by simp [execOp, ho, hf.eval_ hv])
  · rename_i t x f ho
    obtain ⟨v, hv, h⟩ := evK_some h
    exact lift (vcField_gives h) (by simp [execOp, ho, hf.eval_ hv])
  · rename_i t x i ho
    obtain ⟨vx, hvx, h⟩ := evK_some h
    obtain ⟨vi, hvi, h⟩ := evK_some h
    exact lift (vcIndexAddr_gives hM h) (by simp [execOp, ho, hf.eval_ hvx, hf.eval_ hvi])
  · rename_i t x i ho
    obtain ⟨vx, hvx, h⟩ := evK_some h
    obtain ⟨vi, hvi, h⟩ := evK_some h
    exact lift (vcIndex_gives h) (by simp [execOp, ho, hf.eval_ hvx, hf.eval_ hvi])
  · rename_i t x i ok ho
    obtain ⟨vx, hvx, h⟩ := evK_some h
    obtain ⟨vi, hvi, h⟩ := evK_some h
    exact lift (vcLookup_gives h) (by simp [execOp, ho, hf.eval_ hvx, hf.eval_ hvi])
  · rename_i x ho
    obtain ⟨v, hv, h⟩ := evK_some h
    split at h
    · exact lift (vcEnt_gives h) (by simp [execOp, ho, hf.eval_ hv])
    · exact h.elim
  · rename_i x i ho
    obtain ⟨v, hv, h⟩ := evK_some h
    split at h
    · split at h
      · rename_i u hu
        exact lift (.pure (P := P) (M := M) h) (by simp [execOp, ho, hf.eval_ hv, Instr.extract, hu])
      · exact h.elim
    · exact h.elim
  · rename_i t parts ho
    exact lift (vcBuild_gives hf h) (by simp [execOp, ho])
  · rename_i f first cap ho
    split at h
    · rename_i u hu
      split at h
      · rename_i c hc
        refine ⟨_, h, fun w _ => ?_⟩
        have e1 := hf.evals hu
        have e2 := hf.evals hc
        have e1' : first.map a.eval = u.toArray := by apply Array.ext'; simpa using e1
        have e2' : cap.map a.eval = c.toArray := by apply Array.ext'; simpa using e2
        simp [execOp, ho, Instr.makeFunc, e1', e2']
      · exact h.elim
    · exact h.elim
  · rename_i t x ho
    obtain ⟨v, hv, h⟩ := evK_some h
    split at h
    · rename_i A n' _
      split at h
      · rename_i m _ hu
        refine ⟨_, h.2.out hM, fun w _ => ?_⟩
        have := h.1
        simp only [execOp, ho, hf.eval_ hv, Instr.arrayAt, Sem.run_bind, run_under hu, Result.andThen_ok]
        rw [if_neg (by omega)]
        simp
      · exact h.elim
    · exact h.elim
  · rename_i t x ho
    obtain ⟨v, hv, h⟩ := evK_some h
    split at h
    · exact h.elim
    · rename_i d hn hu
      refine ⟨_, h, fun w _ => ?_⟩
      simp only [execOp, ho, hf.eval_ hv, Instr.makeInterface, Sem.run_bind, run_under hu, Result.andThen_ok]
      cases d <;> first | exact (hn _ rfl).elim | rfl
    · exact h.elim
  · rename_i x xt t ok ho
    have h0 := evK_some h
    clear h
    obtain ⟨v, hv, h⟩ := h0
    cases ok with
    | true => cases v <;> exact h.elim
    | false =>
      cases v with
      | iface u v' =>
        simp only at h
        split at h
        · exact h.elim
        · rename_i d hn hu
          split at h
          · rename_i hb
            obtain rfl : u = t := Nat.eq_of_beq_eq_true hb
            refine ⟨_, h, fun w _ => ?_⟩
            simp only [execOp, ho, hf.eval_ hv, Instr.typeAssert, Sem.run_bind, run_under hu, Result.andThen_ok]
            cases d <;> first | exact (hn _ rfl).elim | simp
          · exact h.elim
        · exact h.elim
      | _ => exact h.elim
  · rename_i args argTypes ho
    split at h
    · rename_i x t e1 e2
      obtain ⟨v, hv, h⟩ := evK_some h
      have e1' : args = #[x] := by apply Array.ext'; simpa using e1
      have e2' : argTypes = #[t] := by apply Array.ext'; simpa using e2
      subst e1'; subst e2'
      obtain ⟨u, hu, hr⟩ := vcLen_gives (M := M) h o.type
      exact ⟨u, hu, fun w hw => by simp [execOp, ho, resolve, invoke, builtin, hf.eval_ hv, hr w hw]⟩
    · exact h.elim
  · rename_i args argTypes ho
    split at h
    · rename_i x t e1 e2
      obtain ⟨v, hv, h⟩ := evK_some h
      have e1' : args = #[x] := by apply Array.ext'; simpa using e1
      have e2' : argTypes = #[t] := by apply Array.ext'; simpa using e2
      subst e1'; subst e2'
      obtain ⟨u, hu, hr⟩ := vcCap_gives (M := M) h o.type
      exact ⟨u, hu, fun w hw => by simp [execOp, ho, resolve, invoke, builtin, hf.eval_ hv, hr w hw]⟩
    · exact h.elim
  · rename_i args _ ho
    split at h
    · rename_i kd x r he
      split at h
      · rename_i m hm
        have e := hf.evals he
        refine ⟨_, h, fun w _ => ?_⟩
        simp [execOp, ho, resolve, invoke, builtin, Builtin.min_, e, foldMin_run r x m hm w]
      · exact h.elim
    · exact h.elim
  · rename_i args _ ho
    split at h
    · rename_i kd x r he
      split at h
      · rename_i m hm
        have e := hf.evals he
        refine ⟨_, h, fun w _ => ?_⟩
        simp [execOp, ho, resolve, invoke, builtin, Builtin.max_, e, foldMax_run r x m hm w]
      · exact h.elim
    · exact h.elim
  · exact h.elim

/-! ### The code -/
theorem Oper.wp_of_run {o : Oper} {a : Act} {w w' : World} {v : Value} {next : Act → World → Prop} {Q : Exit → Act → World → Prop}
    (h : (execOp a.eval o).run P w = .ok (.value v) w') (k : next (a.put o.dst v) w') : o.wp P a w next Q := by
  unfold Oper.wp; rw [h]; exact k
theorem Oper.wp_of_skip {o : Oper} {a : Act} {w w' : World} {next : Act → World → Prop} {Q : Exit → Act → World → Prop}
    (h : (execOp a.eval o).run P w = .ok .skip w') (k : next (a.put o.dst undef) w') : o.wp P a w next Q := by
  unfold Oper.wp; rw [h]; exact k

/-- What an operation owes where the call stands. -/
def OpDoes (X : XK) (P : Program) (C : Ctx) (o : Oper) (a : Act) (w : World) (k : VK) : Prop :=
  ∀ (next : Act → World → Prop) (Q : Exit → Act → World → Prop), (∀ v own N w', k v own N → C.inv w' own N → next (a.put o.dst v) w') → (∀ c own N w', X c own N → C.inv w' own N → Q (.panic c) a w') → o.wp P a w next Q

theorem vcNew_does {X : XK} {C : Ctx} {o : Oper} {a : Act} {w : World} {own : List Ob} {N : Mp} {e : TypeId} {cs : List Value} {k : VK} (hw : C.inv w own N) (h : vcNew own N e cs k)
    (hr : (execOp a.eval o).run P w = .ok (.value (.pointer (some ⟨w.heap.size, 0, none⟩))) (w.alloc (.cells cs.toArray e))) : OpDoes X P C o a w k := by
  intro next Q hk _
  have h := forced_eq _ _ h w.heap.size
  refine Oper.wp_of_run hr (hk _ _ _ _ h ?_)
  refine Inv.alloc hw _ _ (by simp [Ob.blks]) ⟨.cells cs.toArray e, heap_alloc_new w _, [], [], [], (0, 0), rfl, by simp, by simp, by simp⟩

theorem newVar_run (e : TypeId) (v : Value) (w : World) : (newVar e v).run P w = .ok ⟨w.heap.size, 0, none⟩ (w.alloc (.cells v.cells e)) := rfl

theorem vcStore1_does {C : Ctx} {w : World} {own : List Ob} {N : Mp} {ad : Addr} {v : Value} {k : List Ob → Prop} (hw : C.inv w own N) (h : vcStore1 own ad v k) :
    ∃ own', k own' ∧ (store ad v).run P w = .ok () (w.setCell ad v) ∧ C.inv (w.setCell ad v) own' N := by
  obtain ⟨o, rest, i, ht, hb, hi, hv, hk⟩ := h
  obtain ⟨b, hbase, rfl⟩ := hb w hw.objs
  have hw' : Inv C.w0 (blksOf C.A0) w (o :: rest) N := hw.take_ ht
  have ho := hw'.objs o (List.mem_cons_self ..)
  -- the block of the object
  have key : ∃ bb off ty xs m x, b = ⟨bb, off, none⟩ ∧ o.blks = [bb] ∧ o.cells = xs ∧ w.heap[bb]? = some x ∧ TailObj off ty xs m x ∧
      ∀ w2 : World, (∃ y, w2.heap[bb]? = some y ∧ TailObj off ty (xs.set i v) m y) → (o.set i v).is w2 := by
    cases o with
    | row bb ty xs m =>
      obtain ⟨x, hx, hr⟩ := ho
      simp only [Ob.base, Option.some.injEq] at hbase
      exact ⟨bb, 0, ty, xs, m, x, hbase.symm, rfl, rfl, hx, hr, fun w2 h => h⟩
    | sl A cap ty size xs =>
      simp only [Ob.base] at hbase
      subst hbase
      obtain ⟨h2, x, hx, hr⟩ := ho
      obtain ⟨bb, off, spot⟩ := b
      simp only at h2
      subst h2
      exact ⟨bb, off, ty, xs, _, x, rfl, rfl, rfl, hx, hr, fun w2 h => ⟨rfl, h⟩⟩
    | map b l c => simp [Ob.base] at hbase
    | iter b m s e c => simp [Ob.base] at hbase
  obtain ⟨bb, off, ty, xs, m, x, rfl, hblk, hcells, hx, ⟨pre, sp, post, fz, hpre, hlen, rfl, hfz⟩, hset⟩ := key
  rw [hcells] at hi
  have hadd : (⟨bb, off, none⟩ : Addr).add i = ⟨bb, off + i, none⟩ := by
    unfold Addr.add; split <;> simp_all
  rw [hadd]
  have hcell : w.cell? ⟨bb, off + i, none⟩ = some xs[i] := by
    simp only [World.cell?, hx, Option.isSome_none, Bool.false_eq_true, if_false, List.getElem?_toArray]
    rw [List.getElem?_append_right (by omega), hpre, Nat.add_sub_cancel_left, List.getElem?_append_left hi]
    exact List.getElem?_eq_getElem hi
  have hfroz : w.frozen? ⟨bb, off + i, none⟩ = false := by
    have : ¬ (fz.1 ≤ off + i ∧ off + i < fz.2) := by rcases hfz with h | h <;> omega
    simp only [World.frozen?, hx]
    simpa using this
  have hone : v.oneCell' = true := by cases v <;> first | rfl | cases hv
  refine ⟨_, hk, by rw [run_store _ _ _ _ _ hone, hcell]; simp [hfroz], ?_⟩
  refine Inv.write hw' (by cases o with
    | sl A cap ty size xs => cases A <;> rfl
    | _ => rfl) rfl rfl rfl (by simp [World.setCell]) (fun j hj => ?_) ?_
  · rw [hblk] at hj
    exact RowKit.Below.heap_setCell w _ v j (by simpa using hj)
  · refine hset _ ⟨.cells (pre ++ ((xs.set i v) ++ (sp ++ post))).toArray ty fz, ?_, pre, sp, post, fz, hpre, by simpa using hlen, rfl, hfz⟩
    simp only [World.setCell, Array.getElem?_modify, hx, if_true, Option.map_some]
    congr 2
    apply Array.ext'
    subst hpre
    simp [hi]

theorem setAll_spl : ∀ (vs xs : List Value) (i : Nat), i + vs.length ≤ xs.length → setAll xs i vs = spl xs i vs
  | [], xs, i, _ => by simp [setAll, spl]
  | v :: r, xs, i, h => by
    simp only [List.length_cons] at h
    rw [setAll, setAll_spl r (xs.set i v) (i + 1) (by simp; omega)]
    unfold spl
    have e1 : (xs.set i v).take (i + 1) = xs.take i ++ [v] := by
      rw [List.take_succ_eq_append_getElem (by simp; omega), List.take_set_of_le (Nat.le_refl _)]
      simp
    have e2 : (xs.set i v).drop (i + 1 + r.length) = xs.drop (i + (v :: r).length) := by
      rw [List.drop_set, if_pos (by omega)]
      congr 1
      simp; omega
    rw [e1, e2]; simp

theorem storeObj_does {C : Ctx} {N : Mp} {a : Addr} {rest : List Ob} : ∀ (vs : List Value) (j i : Nat) {o : Ob} {w : World}, C.inv w (o :: rest) N → (∃ b, o.base = some b ∧ a = b.add i) → i + j + vs.length ≤ o.cells.length → (∀ v ∈ vs, oneCell v = true) →
    ∃ o' w', (storeCells a vs j).run P w = .ok () w' ∧ C.inv w' (o' :: rest) N ∧ o' = (match o with
      | .row b ty xs m => .row b ty (setAll xs (i + j) vs) m
      | .sl A cap ty size xs => .sl A cap ty size (setAll xs (i + j) vs)
      | .map b l c => .map b l c
      | .iter b m s e c => .iter b m s e c)
  | [], j, i, o, w, hw, _, _, _ => ⟨o, w, rfl, hw, by cases o <;> rfl⟩
  | v :: r, j, i, o, w, hw, hb, hl, h1 => by
    simp only [List.length_cons] at hl
    obtain ⟨b, hb, rfl⟩ := hb
    have hadd : (b.add i).add j = b.add (i + j) := by
      unfold Addr.add
      by_cases ho : i = 0 <;> by_cases hi : j = 0 <;> simp [ho, hi, Nat.add_assoc]
    obtain ⟨own1, he1, hr, hw1⟩ := vcStore1_does (P := P) (k := fun own' => own' = o.set (i + j) v :: rest) (ad := (b.add i).add j) (v := v) hw
      ⟨o, rest, i + j, .here, fun _ _ => ⟨b, hb, hadd⟩, by omega, h1 v (List.mem_cons_self ..), rfl⟩
    subst he1
    have hb' : (o.set (i + j) v).base = some b := by cases o <;> exact hb
    have hc' : (o.set (i + j) v).cells.length = o.cells.length := by cases o <;> simp [Ob.set, Ob.cells]
    obtain ⟨o', w2, hr2, hw2, he2⟩ := storeObj_does r (j + 1) i hw1 ⟨b, hb', rfl⟩ (by rw [hc']; omega) (fun u hu => h1 u (List.mem_cons_of_mem _ hu))
    refine ⟨o', w2, by simp only [storeCells, Sem.run_bind, hr, Result.andThen_ok, hr2], hw2, ?_⟩
    rw [he2]
    cases o <;> simp [Ob.set, setAll, Nat.add_assoc]

theorem vcStoreN_does {C : Ctx} {N : Mp} {ad : Addr} {vs : List Value} {w : World} {own : List Ob} {k : List Ob → Prop} (hw : C.inv w own N) (h : vcStoreN own ad vs k) :
    ∃ own' w', k own' ∧ (storeCells ad vs 0).run P w = .ok () w' ∧ C.inv w' own' N := by
  obtain ⟨o, rest, i, ht, hb, hi, h1, hk⟩ := h
  have hb := hb w hw.objs
  have hw1 : C.inv w (o :: rest) N := hw.take_ ht
  obtain ⟨o', w', hr, hw', he⟩ := storeObj_does (P := P) vs 0 i hw1 hb (by omega) h1
  refine ⟨_, w', hk, hr, ?_⟩
  have : o' = o.setL i vs := by
    rw [he]
    cases o with
    | row b ty xs m => simp only [Ob.setL, Nat.add_zero]; rw [setAll_spl vs xs i hi]
    | sl A cap ty size xs => simp only [Ob.setL, Nat.add_zero]; rw [setAll_spl vs xs i hi]
    | map b l c => rfl
    | iter b m s e c => rfl
  rw [← this]; exact hw'

theorem vcStore_does {X : XK} {C : Ctx} {o : Oper} {a : Act} {w : World} {own : List Ob} {N : Mp} {t : TypeId} {x v : Value} {k : List Ob → Prop} (hw : C.inv w own N) (h : vcStore P own t x v k)
    (he : execOp a.eval o = do Instr.storeAt t x v; pure .skip) : OpDoes X P C o a w (fun u own' N' => u = undef ∧ N' = N ∧ k own') := by
  intro next Q hk _
  unfold vcStore at h
  split at h
  · rename_i ad
    split at h
    · rename_i i hi
      have fin : ∀ own' w', k own' → (storeCells ad (cellsL v) 0).run P w = .ok () w' → C.inv w' own' N → v.cells.size = i.size → o.wp P a w next Q := by
        intro own' w' hk' hr hw' hsz
        refine Oper.wp_of_skip (w' := w') ?_ (hk _ _ _ _ ⟨rfl, rfl, hk'⟩ hw')
        rw [he]
        simp only [Instr.storeAt, Instr.sureAddr, Sem.run_bind, Sem.run_pure, Result.andThen_ok, storeVar, run_size hi, hsz]
        rw [if_neg (by simp)]
        rw [← cellsL_eq, hr]
        rfl
      split at h
      · rename_i hb
        split at h
        · rename_i u hu
          obtain ⟨own', hk', hr, hw'⟩ := vcStore1_does (P := P) hw h
          refine fin own' _ hk' (by rw [hu]; simp only [storeCells, Sem.run_bind, hr, Result.andThen_ok]; rfl) hw' ?_
          rw [Nat.eq_of_beq_eq_true hb]
          have := congrArg List.length hu
          rw [cellsL_eq] at this
          simpa using this
        · exact h.elim
      · obtain ⟨hl, h⟩ := h
        obtain ⟨own', w', hk', hr, hw'⟩ := vcStoreN_does (P := P) hw h
        refine fin own' w' hk' hr hw' ?_
        rw [cellsL_eq] at hl
        simpa using hl
    · exact h.elim
  · exact h.elim

theorem zerosL_eq (n size : Nat) (z : Array Value) (hz : z.size = size) : ((Array.range (n * size)).map (fun i => z[i % z.size]!)).toList = zerosL n z.toList := by
  induction n with
  | zero => simp [zerosL]
  | succ n ih =>
    have e1 : zerosL (n + 1) z.toList = zerosL n z.toList ++ z.toList := by
      unfold zerosL
      rw [List.replicate_succ', List.flatten_append]
      simp
    rw [e1, ← ih, Nat.succ_mul]
    apply List.ext_getElem
    · simp [hz]
    · intro i h1 h2
      simp only [Array.toList_map, List.getElem_map, Array.toList_range, List.getElem_range] at *
      rw [List.getElem_append]
      split
      · simp
      · rename_i hlt
        simp only [List.length_map, List.length_range] at hlt h1
        simp only [List.length_map, List.length_range, Array.getElem_toList]
        have hi : i < n * size + size := by simpa using h1
        have : i % z.size = i - n * size := by
          rw [hz]
          have : i = (i - n * size) + size * n := by rw [Nat.mul_comm size n]; omega
          rw [this, Nat.add_mul_mod_self_left, Nat.mod_eq_of_lt (by omega)]
          rw [Nat.mul_comm size n]; omega
        rw [this]
        rw [getElem!_pos z (i - n * size) (by omega)]

theorem vcMakeSlice_does {X : XK} {C : Ctx} {o : Oper} {a : Act} {w : World} {own : List Ob} {N : Mp} {t : TypeId} {l c : Value} {k : VK} (hw : C.inv w own N) (h : vcMakeSlice P own N t l c k)
    (he : execOp a.eval o = do pure (.value (← Instr.makeSlice t l c))) : OpDoes X P C o a w k := by
  intro next Q hk _
  unfold vcMakeSlice at h
  split at h
  · rename_i kl l kc c
    split at h
    · rename_i e hu
      split at h
      · rename_i i hi
        split at h
        · rename_i z hz
          split at h
          case h_2 => exact h.elim
          rename_i hbb
          simp only [Bool.and_eq_true] at hbb
          obtain ⟨hb1, hb2⟩ := hbb
          rw [natK_eq, natK_eq] at h
          have h := forced_eq _ _ h
          obtain ⟨⟨h0, h1, h2, h3⟩, h⟩ := h
          have hsz : z.cells.size = i.size := Nat.eq_of_beq_eq_true hb1
          have hpos : 0 < i.size := by simpa using hb2
          have wl : IntKind.i64.wrap l = l := wrap_in .i64 l (by simp [IntKind.min, IntKind.signed, IntKind.bits]; omega) (by simp [IntKind.max, IntKind.signed, IntKind.bits]; omega)
          have wc : IntKind.i64.wrap c = c := wrap_in .i64 c (by simp [IntKind.min, IntKind.signed, IntKind.bits]; omega) (by simp [IntKind.max, IntKind.signed, IntKind.bits]; omega)
          let cells : Array Value := (Array.range (c.toNat * i.size)).map (fun j => z.cells[j % z.cells.size]!)
          have hrun : (execOp a.eval o).run P w = .ok (.value (.slice (some ⟨w.heap.size, 0, none⟩) l.toNat c.toNat)) (w.alloc (.cells cells e)) := by
            rw [he]
            simp only [Instr.makeSlice, Sem.run_bind, run_under hu, Result.andThen_ok, asInt, asIntOf, Sem.run_pure, run_info hi, wl, wc]
            rw [if_neg (by simp; omega)]
            simp only [Sem.run_bind, run_askRoom, Result.andThen_ok, run_size hi]
            by_cases hc0 : c.toNat * i.size = 0
            · have : c.toNat = 0 := by
                rcases Nat.mul_eq_zero.1 hc0 with h' | h'
                · exact h'
                · omega
              have e0 : cells = (Array.range 0).map (fun j => (#[] : Array Value)[j % (#[] : Array Value).size]!) := by simp [cells, hc0]
              rw [e0]
              simp only [hc0, if_true]
              rfl
            · rw [if_neg hc0]
              simp only [Sem.run_bind, run_zero hi hz, Result.andThen_ok, Sem.run_pure]
              rfl
          refine Oper.wp_of_run hrun (hk _ _ _ _ (h w.heap.size) ?_)
          refine Inv.alloc hw _ _ (by simp [Ob.blks]) (Ob.sl_new (sp := zerosL (c.toNat - l.toNat) (cellsL z)) (fz := (0, 0)) ?_ ((heap_alloc_new w _).trans (congrArg some ?_)) (by simp))
          · simp [zerosL, cellsL_eq, hsz]
            rw [← Nat.add_mul]
            congr 1
            omega
          · congr 1
            apply Array.ext'
            rw [show cells.toList = zerosL c.toNat z.cells.toList from zerosL_eq _ _ _ hsz, cellsL_eq]
            simp only [zerosL]
            rw [← List.flatten_append, List.replicate_append_replicate]
            congr 2
            omega
        · exact h.elim
      · exact h.elim
    · exact h.elim
  · exact h.elim

theorem vcBuildSlice_does {X : XK} {D : Env} {C : Ctx} {o : Oper} {a : Act} {w : World} {own : List Ob} {N : Mp} {t : TypeId} {len : Nat} {fm : Fm} {n : Nat} (hf : FmOk D n fm a) {parts : Array (Nat × Operand)} {k : VK} (hw : C.inv w own N) (h : vcBuildSlice P own N t len fm parts.toList k)
    (he : execOp a.eval o = do pure (.value (← Instr.buildSlice t len (parts.map fun (i, x) => (i, a.eval x))))) : OpDoes X P C o a w k := by
  intro next Q hk _
  unfold vcBuildSlice at h
  split at h
  · rename_i vs hvs
    have hp : (parts.map fun (i, x) => (i, a.eval x)).toList = vs := by
      rw [Array.toList_map]; exact partVals_eq hf hvs
    split at h
    · rename_i e hu
      split at h
      · rename_i i hi
        split at h
        · rename_i z hz
          split at h
          · rename_i cs hcs
            split at h
            case h_2 => exact h.elim
            rename_i hbb
            simp only [Bool.and_eq_true] at hbb
            obtain ⟨⟨hb0, hb1⟩, hb2⟩ := hbb
            rw [natK_eq] at h
            have hsz : z.cells.size = i.size := Nat.eq_of_beq_eq_true hb1
            have hpos : 0 < i.size := by simpa using hb2
            have hle : len * i.size ≤ 16777216 := Nat.le_of_ble_eq_true hb0
            have h := forced_eq _ _ h w.heap.size
            let zc : Array Value := (Array.range (len * i.size)).map (fun j => z.cells[j % z.cells.size]!)
            have hzc : zc.toList = zerosL len (cellsL z) := by rw [cellsL_eq]; exact zerosL_eq _ _ _ hsz
            have hlen : cs.length = len * i.size := by
              have key : ∀ (vs : List (Nat × Value)) (x y : List Value), fillL (fun j => some (j * i.size, i.size)) x vs = some y → y.length = x.length := by
                intro vs
                induction vs with
                | nil => intro x y hxy; simp [fillL] at hxy; subst hxy; rfl
                | cons v r ih =>
                  intro x y hxy
                  unfold fillL at hxy
                  split at hxy
                  · cases hxy
                  · split at hxy
                    · rw [ih _ _ hxy, layL_length]
                    · cases hxy
              rw [key _ _ _ hcs, ← hzc]
              simp [zc]
            rw [← hzc] at hcs
            have hfill := fillL_eq _ _ _ _ hcs
            have hrun : (execOp a.eval o).run P w = .ok (.value (.slice (some ⟨w.heap.size, 0, none⟩) len len)) (w.alloc (.cells cs.toArray e)) := by
              rw [he]
              simp only [Instr.buildSlice, Sem.run_bind, run_under hu, Result.andThen_ok, run_size hi]
              rw [if_neg (by omega)]
              by_cases h0 : len * i.size = 0
              · simp only [h0, if_true, Sem.run_bind, Sem.run_pure, Result.andThen_ok, hp]
                have : zc = (Array.range 0).map (fun j => (#[] : Array Value)[j % (#[] : Array Value).size]!) := by simp [zc, h0]
                rw [this] at hfill
                simp only [hfill]
                rfl
              · rw [if_neg h0]
                simp only [Sem.run_bind, run_zero hi hz, Result.andThen_ok, Sem.run_pure, hp]
                simp only [zc] at hfill
                simp only [hfill]
                rfl
            refine Oper.wp_of_run hrun (hk _ _ _ _ h ?_)
            exact Inv.alloc hw _ _ (by simp [Ob.blks]) ⟨rfl, .cells cs.toArray e, heap_alloc_new w _, [], [], [], (0, 0), rfl, by simpa using hlen, by simp, by simp⟩
          · exact h.elim
        · exact h.elim
      · exact h.elim
    · exact h.elim
  · exact h.elim
end
end Go.Proofs.Yticllmnblcjjcaa
