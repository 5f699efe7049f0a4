/- The verification conditions of a whole function suffice: append, calls, the code. -/
import Derived.Test.YticllmnblcjjcaaWp
import Derived.Deep.LoopGhost
namespace Go.Proofs.Yticllmnblcjjcaa

section
variable {P : Program} {M : Mp}

theorem growBy_le (newLen : Nat) : ∀ (r c : Nat), c ≤ 2 * newLen + 1024 → Builtin.growBy newLen r c ≤ 2 * newLen + 1024
  | 0, c, h => h
  | r + 1, c, h => by
    unfold Builtin.growBy
    split
    · exact h
    · exact growBy_le newLen r _ (by omega)
theorem nextslicecap_le (newLen oldCap : Nat) (h : oldCap < newLen) : Builtin.nextslicecap newLen oldCap ≤ 2 * newLen ∨ Builtin.nextslicecap newLen oldCap = newLen := by
  unfold Builtin.nextslicecap
  split
  · exact .inr rfl
  · split
    · left; omega
    · left
      have key : ∀ (r c : Nat), 256 ≤ c → c ≤ 2 * newLen → Builtin.growBy newLen r c ≤ 2 * newLen := by
        intro r
        induction r with
        | zero => intro c _ hc; exact hc
        | succ r ih =>
          intro c h1 h2
          unfold Builtin.growBy
          split
          · exact h2
          · exact ih _ (by omega) (by omega)
      exact key 4 oldCap (by omega) (by omega)

theorem nextslicecap_le' (newLen oldCap : Nat) (h : oldCap < newLen) : Builtin.nextslicecap newLen oldCap ≤ newLen + newLen / 4 + 512 := by
  unfold Builtin.nextslicecap
  split
  · omega
  · split
    · omega
    · have key : ∀ (r c : Nat), c ≤ newLen + newLen / 4 + 512 → Builtin.growBy newLen r c ≤ newLen + newLen / 4 + 512 := by
        intro r
        induction r with
        | zero => intro c hc; exact hc
        | succ r ih =>
          intro c h2
          unfold Builtin.growBy
          split
          · exact h2
          · exact ih _ (by omega)
      exact key 4 oldCap (by omega)

/-- The cells of a slice, read. -/
theorem firstCells_run {A : Option Addr} {n c size m : Nat} {xs : List Value} {w : World} (hl : xs.length = n * size) (h : RowAt A xs w) (hm : m = n) :
    (Builtin.firstCells size m (.slice A n c)).run P w = .ok xs.toArray w := by
  subst hm
  cases A with
  | none =>
    have : xs = [] := by
      cases xs with
      | nil => rfl
      | cons v r => obtain ⟨a, ha, _⟩ := h 0 v rfl; cases ha
    subst this
    rfl
  | some a =>
    simp only [Builtin.firstCells, loadCells, ← hl]
    rw [loadCells_run xs 0 #[] (fun j hj => by
      obtain ⟨a', ha, hc⟩ := h j xs[j] (List.getElem?_eq_getElem hj)
      cases ha
      simpa [hj] using hc)]
    simp

theorem storeRow_does {C : Ctx} {N : Mp} {A : Option Addr} {cap size : Nat} {ty : TypeId} {rest : List Ob} {b : Addr} (hA : A = some b) (off : Nat) : ∀ (vs : List Value) (i : Nat) {w : World} {xs : List Value}, C.inv w (.sl A cap ty size xs :: rest) N →
    (∀ v ∈ vs, oneCell v = true) → off + i + vs.length ≤ xs.length → ∃ w', (storeCells (b.add off) vs i).run P w = .ok () w' ∧ C.inv w' (.sl A cap ty size (setAll xs (off + i) vs) :: rest) N
  | [], i, w, xs, hw, _, _ => ⟨w, rfl, hw⟩
  | v :: r, i, w, xs, hw, h1, hl => by
    simp only [List.length_cons] at hl
    have hadd : (b.add off).add i = b.add (off + i) := by
      unfold Addr.add
      by_cases ho : off = 0 <;> by_cases hi : i = 0 <;> simp [ho, hi, Nat.add_assoc]
    obtain ⟨own1, he1, hr, hw1⟩ := vcStore1_does (P := P) (k := fun own' => own' = Ob.sl A cap ty size (xs.set (off + i) v) :: rest) (ad := (b.add off).add i) (v := v) hw
      ⟨.sl A cap ty size xs, rest, off + i, .here, fun _ _ => ⟨b, hA, hadd⟩, by simp only [Ob.cells]; omega, h1 v (List.mem_cons_self ..), rfl⟩
    subst he1
    obtain ⟨w2, hr2, hw2⟩ := storeRow_does hA off r (i + 1) hw1 (fun u hu => h1 u (List.mem_cons_of_mem _ hu)) (by simp; omega)
    exact ⟨w2, by simp only [storeCells, Sem.run_bind, hr, Result.andThen_ok, hr2], hw2⟩

theorem setAll_append : ∀ (vs xs sp : List Value), vs.length ≤ sp.length → setAll (xs ++ sp) xs.length vs = xs ++ vs ++ sp.drop vs.length
  | [], xs, sp, _ => by simp [setAll]
  | v :: r, xs, sp, h => by
    cases sp with
    | nil => simp at h
    | cons s t =>
      simp only [setAll]
      have e : (xs ++ s :: t).set xs.length v = (xs ++ [v]) ++ t := by simp
      rw [e]
      have := setAll_append r (xs ++ [v]) t (by simpa using h)
      simp only [List.length_append, List.length_cons, List.length_nil] at this
      rw [this]
      simp

theorem vcAppend_does {X : XK} {C : Ctx} (hC : C.ok) {o : Oper} {a : Act} {w : World} {own : List Ob} {N : Mp} {t : TypeId} {s x : Value} {k : VK} (hw : C.inv w own N) (h : vcAppend P C.G own N t s x k)
    (he : execOp a.eval o = do pure (.value (← Builtin.append_ #[t, t] o.type #[s, x]))) : OpDoes X P C o a w k := by
  intro next Q hk _
  unfold vcAppend at h
  split at h
  · rename_i A n cap A2 n2 c2
    split at h
    · rename_i e hu
      split at h
      · rename_i i hi
        split at h
        case h_2 => exact h.elim
        rename_i z hz
        split at h
        case h_2 => exact h.elim
        rename_i hzb
        have hzs : z.cells.size = i.size := Nat.eq_of_beq_eq_true hzb
        rw [natK_eq, natK_eq] at h
        rcases h with ⟨xs, rest, news, htake, ⟨hlx, hln, hpos, hone⟩, hnews, hbytes, h63, h⟩ | ⟨olds, news, hneed, holds, ⟨hlx, hln, hone⟩, hnews, hbytes, h63, h⟩
        rotate_left
        · -- a new block, the old one stays
          have hrow := hnews w (C.gn hC hw)
          have hrowo := holds w (C.gn hC hw)
          let q : Question := .appendCap (n + n2) cap e
          let nc : Nat := q.cut (w.tape w.drawn q)
          have hnc : n + n2 ≤ nc := Nat.le_add_right _ _
          let w1 : World := { w with drawn := w.drawn + 1 }
          let zs : Array Value := Builtin.zeroCells z.cells (nc - (n + n2))
          have hzl : zs.size = (nc - (n + n2)) * i.size := by simp [zs, Builtin.zeroCells, hzs]
          have hnew1 : (Builtin.firstCells i.size n2 (.slice A2 n2 c2)).run P w1 = .ok news.toArray w1 := firstCells_run hln hrow rfl
          have hold1 : (Builtin.firstCells i.size n (.slice A n cap)).run P w1 = .ok olds.toArray w1 := firstCells_run hlx hrowo rfl
          have hcap : ¬ (Builtin.nextslicecap (n + n2) cap * i.bytes > 2 ^ 48) := by
            rcases hbytes with hbytes | ⟨hb1, hbytes⟩
            · rcases nextslicecap_le (n + n2) cap (by omega) with h' | h'
              · have := Nat.mul_le_mul_right i.bytes h'
                rw [Nat.mul_assoc] at this
                have e48 : (2 : Nat) ^ 48 = 281474976710656 := by decide
                omega
              · rw [h']
                have e48 : (2 : Nat) ^ 48 = 281474976710656 := by decide
                omega
            · have h' := nextslicecap_le' (n + n2) cap (by omega)
              have e48 : (2 : Nat) ^ 48 = 281474976710656 := by decide
              rw [hb1, Nat.mul_one]
              omega
          have hrun : (Builtin.append_ #[t, t] o.type #[.slice A n cap, .slice A2 n2 c2]).run P w =
              .ok (.slice (some ⟨w1.heap.size, 0, none⟩) (n + n2) nc) (w1.alloc (.cells (olds.toArray ++ news.toArray ++ zs) e)) := by
            have hi63 : ¬ (((n + n2 : Nat) : Int) > IntKind.i64.max ∧ (False ∨ i.bytes = 0)) := by
              simp [IntKind.max, IntKind.signed, IntKind.bits]; omega
            simp only [Builtin.append_, List.getElem?_toArray, List.getElem?_cons_zero, List.getElem?_cons_succ, Sem.run_bind, Sem.run_pure, Result.andThen_ok, run_under hu, run_size hi, Builtin.lenOf]
            simp only [Bool.false_eq_true, if_false, Sem.run_bind, Sem.run_pure, Result.andThen_ok]
            rw [if_neg (by omega)]
            simp only [Sem.run_bind, run_info hi, Result.andThen_ok]
            rw [if_neg hi63]
            simp only [Sem.run_bind, Result.andThen_ok, run_info hi]
            rw [if_neg hcap]
            simp only [Sem.run_bind, Sem.run_pure, Result.andThen_ok, run_choose, Question.forced, Bool.false_eq_true, if_false, run_info hi, run_askRoom]
            rw [hold1]
            simp only [Result.andThen_ok, Bool.not_false, if_true]
            rw [hnew1]
            simp only [Result.andThen_ok, run_zero hi hz]
            rfl
          refine Oper.wp_of_run (v := .slice (some ⟨w1.heap.size, 0, none⟩) (n + n2) nc) (w' := w1.alloc (.cells (olds.toArray ++ news.toArray ++ zs) e)) (by rw [he]; simp only [Sem.run_bind, hrun, Result.andThen_ok, Sem.run_pure]) (hk _ _ _ _ (h _ nc hnc) ?_)
          refine Inv.alloc (Inv.drawn hw _) _ _ rfl (Ob.sl_new (sp := zs.toList) (fz := (0, 0)) ?_ ((heap_alloc_new w1 _).trans (congrArg some ?_)) (by simp))
          · simp [hlx, hln, hzl]
            rw [← Nat.add_mul, ← Nat.add_mul]
            congr 1
            omega
          · congr 1
            apply Array.ext'
            simp
        have hw1 : Inv C.w0 (blksOf C.A0) w (.sl A cap e i.size xs :: rest) N := hw.take_ htake
        have hrow := hnews w (C.gn hC hw)
        have ho := hw1.objs _ (List.mem_cons_self ..)
        have hnew : (Builtin.firstCells i.size n2 (.slice A2 n2 c2)).run P w = .ok news.toArray w := firstCells_run hln hrow rfl
        have hnot : ∀ kd, (TypeDesc.slice e) ≠ .int kd := nofun
        by_cases hneed : n + n2 ≤ cap
        · -- within the capacity
          obtain ⟨w', hrun, hw'⟩ : ∃ w', (Builtin.append_ #[t, t] o.type #[.slice A n cap, .slice A2 n2 c2]).run P w = .ok (.slice A (n + n2) cap) w' ∧ C.inv w' (.sl A cap e i.size (xs ++ news) :: rest) N := by
            cases A with
            | none =>
              obtain ⟨rfl, rfl⟩ := ho
              have h2 : n2 = 0 := by omega
              subst h2
              have hnil : news = [] := List.eq_nil_of_length_eq_zero (by simpa using hln)
              subst hnil
              have h1 : n = 0 := by omega
              subst h1
              refine ⟨w, ?_, by rw [List.append_nil]; exact hw1⟩
              simp [Builtin.append_, run_under hu, run_size hi, Builtin.lenOf, hnew]
            | some b =>
              obtain ⟨sp, hlen, hgrown⟩ := Ob.sl_grow ho
              have hn : n * i.size + n2 * i.size ≤ cap * i.size := by rw [← Nat.add_mul]; exact Nat.mul_le_mul_right _ hneed
              have hw2 : C.inv w (.sl (some b) cap e i.size (xs ++ sp) :: rest) N :=
                ⟨fun o' ho' => by
                    rcases List.mem_cons.1 ho' with rfl | ho'
                    · exact hgrown
                    · exact hw1.objs o' (List.mem_cons_of_mem _ ho'), hw1.nodup, hw1.fr, hw1.from_, hw1.stable⟩
              obtain ⟨w', hr, hw'⟩ := storeRow_does (P := P) (b := b) rfl (n * i.size) news 0 hw2 hone (by simp; omega)
              refine ⟨w', ?_, ?_⟩
              · simp only [Builtin.append_, List.getElem?_toArray, List.getElem?_cons_zero, List.getElem?_cons_succ, Sem.run_bind, Sem.run_pure, Result.andThen_ok, run_under hu, run_size hi, Builtin.lenOf]
                simp only [Bool.false_eq_true, if_false, Sem.run_bind, Sem.run_pure, Result.andThen_ok]
                rw [if_pos hneed]
                simp only [Bool.not_false, if_true, Sem.run_bind, hnew, Result.andThen_ok]
                rw [hr]
                rfl
              · rw [Nat.add_zero, ← hlx, setAll_append _ _ _ (by omega)] at hw'
                refine ⟨fun o' ho' => ?_, hw'.nodup, hw'.fr, hw'.from_, hw'.stable⟩
                rcases List.mem_cons.1 ho' with rfl | ho'
                · obtain ⟨h2, ob, hob, hr⟩ := hw'.objs _ (List.mem_cons_self ..)
                  have hr := hr.cut (xs ++ news).length
                  rw [List.take_left] at hr
                  exact ⟨h2, ob, hob, hr⟩
                · exact hw'.objs o' (List.mem_cons_of_mem _ ho')
          exact Oper.wp_of_run (by rw [he]; simp [hrun]) (hk _ _ _ _ (h A cap hneed fun _ => ⟨rfl, rfl⟩) hw')
        · -- a new block
          have hold : (Builtin.firstCells i.size n (.slice A n cap)).run P w = .ok xs.toArray w := by
            exact firstCells_run hlx (Ob.sl_at (by cases A <;> exact ho)) rfl
          let q : Question := .appendCap (n + n2) cap e
          let nc : Nat := q.cut (w.tape w.drawn q)
          have hnc : n + n2 ≤ nc := Nat.le_add_right _ _
          let w1 : World := { w with drawn := w.drawn + 1 }
          let zs : Array Value := Builtin.zeroCells z.cells (nc - (n + n2))
          have hzl : zs.size = (nc - (n + n2)) * i.size := by simp [zs, Builtin.zeroCells, hzs]
          have hnew1 : (Builtin.firstCells i.size n2 (.slice A2 n2 c2)).run P w1 = .ok news.toArray w1 := firstCells_run hln hrow rfl
          have hold1 : (Builtin.firstCells i.size n (.slice A n cap)).run P w1 = .ok xs.toArray w1 := by
            exact firstCells_run hlx (Ob.sl_at (by cases A <;> exact ho)) rfl
          clear hold hnew
          have hcap : ¬ (Builtin.nextslicecap (n + n2) cap * i.bytes > 2 ^ 48) := by
            rcases hbytes with hbytes | ⟨hb1, hbytes⟩
            · rcases nextslicecap_le (n + n2) cap (by omega) with h' | h'
              · have := Nat.mul_le_mul_right i.bytes h'
                rw [Nat.mul_assoc] at this
                have e48 : (2 : Nat) ^ 48 = 281474976710656 := by decide
                omega
              · rw [h']
                have e48 : (2 : Nat) ^ 48 = 281474976710656 := by decide
                omega
            · have h' := nextslicecap_le' (n + n2) cap (by omega)
              have e48 : (2 : Nat) ^ 48 = 281474976710656 := by decide
              rw [hb1, Nat.mul_one]
              omega
          have hrun : (Builtin.append_ #[t, t] o.type #[.slice A n cap, .slice A2 n2 c2]).run P w =
              .ok (.slice (some ⟨w1.heap.size, 0, none⟩) (n + n2) nc) (w1.alloc (.cells (xs.toArray ++ news.toArray ++ zs) e)) := by
            have hi63 : ¬ (((n + n2 : Nat) : Int) > IntKind.i64.max ∧ (False ∨ i.bytes = 0)) := by
              simp [IntKind.max, IntKind.signed, IntKind.bits]; omega
            simp only [Builtin.append_, List.getElem?_toArray, List.getElem?_cons_zero, List.getElem?_cons_succ, Sem.run_bind, Sem.run_pure, Result.andThen_ok, run_under hu, run_size hi, Builtin.lenOf]
            simp only [Bool.false_eq_true, if_false, Sem.run_bind, Sem.run_pure, Result.andThen_ok]
            rw [if_neg hneed]
            simp only [Sem.run_bind, run_info hi, Result.andThen_ok]
            rw [if_neg hi63]
            simp only [Sem.run_bind, Result.andThen_ok, run_info hi]
            rw [if_neg hcap]
            simp only [Sem.run_bind, Sem.run_pure, Result.andThen_ok, run_choose, Question.forced, Bool.false_eq_true, if_false, run_info hi, run_askRoom]
            rw [hold1]
            simp only [Result.andThen_ok, Bool.not_false, if_true]
            rw [hnew1]
            simp only [Result.andThen_ok, run_zero hi hz]
            rfl
          have hw3 : C.inv w1 rest N := (hw1.perm (List.perm_append_comm (l₁ := [_]) (l₂ := rest))).drop (fun _ hN _ => hN) |>.drawn _
          refine Oper.wp_of_run (v := .slice (some ⟨w1.heap.size, 0, none⟩) (n + n2) nc) (w' := w1.alloc (.cells (xs.toArray ++ news.toArray ++ zs) e)) (by rw [he]; simp only [Sem.run_bind, hrun, Result.andThen_ok, Sem.run_pure]) (hk _ _ _ _ (h _ nc hnc fun h' => absurd h' hneed) ?_)
          refine Inv.alloc hw3 _ _ (by simp [Ob.blks]) (Ob.sl_new (sp := zs.toList) (fz := (0, 0)) ?_ ((heap_alloc_new w1 _).trans (congrArg some ?_)) (by simp))
          · simp [hlx, hln, hzl]
            rw [← Nat.add_mul, ← Nat.add_mul]
            congr 1
            omega
          · congr 1
            apply Array.ext'
            simp
      · exact h.elim
    · exact h.elim
  · exact h.elim

theorem zerosL_one_ {z : List Value} (h : ∀ v ∈ z, oneCell v = true) (n : Nat) : ∀ v ∈ zerosL n z, oneCell v = true := by
  intro v hv
  simp only [zerosL, List.mem_flatten, List.mem_replicate] at hv
  obtain ⟨l, ⟨_, rfl⟩, hv⟩ := hv
  exact h v hv
theorem strCells_run {bs : ByteArray} {size : Nat} (w : World) : (Builtin.firstCells size bs.size (.string bs)).run P w = .ok (Bs bs.data.toList).toArray w := by
  have e : bs.extract 0 bs.size = bs := by
    apply ByteArray.ext
    rw [ByteArray.data_extract]
    apply Array.extract_eq_self_of_le
    exact Nat.le_refl _
  show Result.ok ((bs.extract 0 bs.size).data.map fun b => Value.int .u8 b.toNat) w = _
  rw [e]
  congr 1
  apply Array.ext'
  simp [Bs, B]
theorem vcAppendS_does {X : XK} {C : Ctx} {o : Oper} {a : Act} {w : World} {own : List Ob} {N : Mp} {t t' : TypeId} {s x : Value} {k : VK} (hw : C.inv w own N) (h : vcAppendS P own N t t' s x k)
    (he : execOp a.eval o = do pure (.value (← Builtin.append_ #[t, t'] o.type #[s, x]))) : OpDoes X P C o a w k := by
  intro next Q hk _
  unfold vcAppendS at h
  split at h
  case h_2 => exact h.elim
  rename_i A n cap bs
  split at h
  case h_2 => exact h.elim
  rename_i e hu hu'
  split at h
  case h_2 => exact h.elim
  rename_i i hi
  split at h
  case h_2 => exact h.elim
  rename_i z hz
  split at h
  case h_2 => exact h.elim
  rename_i hzb
  simp only [Bool.and_eq_true] at hzb
  have hs1 : i.size = 1 := Nat.eq_of_beq_eq_true hzb.1.2
  have hb1 : i.bytes = 1 := Nat.eq_of_beq_eq_true hzb.2
  have hzs : z.cells.size = 1 := (Nat.eq_of_beq_eq_true hzb.1.1).trans hs1
  obtain ⟨xs, rest, htake, hlx, hbytes, hgo⟩ := h
  have hlb : (Bs bs.data.toList).length = bs.size := by simp [Bs]
  have hsz : bs.data.toList.length = bs.size := by simp
  rw [hsz] at hbytes hgo
  have hone : ∀ v ∈ Bs bs.data.toList, oneCell v = true := by
    intro v hv
    obtain ⟨b, _, rfl⟩ := List.mem_map.1 hv
    rfl
  have hw1 : Inv C.w0 (blksOf C.A0) w (.sl A cap e 1 xs :: rest) N := hw.take_ htake
  have ho := hw1.objs _ (List.mem_cons_self ..)
  generalize hbl : Bs bs.data.toList = news at hlb hone hgo
  have hnew : ∀ (w : World) (size : Nat), (Builtin.firstCells size bs.size (.string bs)).run P w = .ok news.toArray w := fun w size => by rw [strCells_run, hbl]
  by_cases hneed : n + bs.size ≤ cap
  · obtain ⟨w', hrun, hw'⟩ : ∃ w', (Builtin.append_ #[t, t'] o.type #[.slice A n cap, .string bs]).run P w = .ok (.slice A (n + bs.size) cap) w' ∧ C.inv w' (.sl A cap e 1 (xs ++ news) :: rest) N := by
      cases A with
      | none =>
        obtain ⟨rfl, rfl⟩ := ho
        have h2 : bs.size = 0 := by omega
        have hnil : news = [] := List.eq_nil_of_length_eq_zero (by omega)
        have h1 : n = 0 := by omega
        subst h1
        refine ⟨w, ?_, by rw [hnil, List.append_nil]; exact hw1⟩
        have h0 := hnew w i.size
        rw [h2] at h0
        simp [Builtin.append_, run_under hu, run_under hu', run_size hi, Builtin.lenOf, h0, h2]
      | some b =>
        obtain ⟨sp, hlen, hgrown⟩ := Ob.sl_grow ho
        have hw2 : C.inv w (.sl (some b) cap e 1 (xs ++ sp) :: rest) N :=
          ⟨fun o' ho' => by
              rcases List.mem_cons.1 ho' with rfl | ho'
              · exact hgrown
              · exact hw1.objs o' (List.mem_cons_of_mem _ ho'), hw1.nodup, hw1.fr, hw1.from_, hw1.stable⟩
        obtain ⟨w', hr, hw'⟩ := storeRow_does (P := P) (b := b) rfl (n * i.size) news 0 hw2 hone (by rw [hs1]; simp; omega)
        refine ⟨w', ?_, ?_⟩
        · simp only [Builtin.append_, List.getElem?_toArray, List.getElem?_cons_zero, List.getElem?_cons_succ, Sem.run_bind, Sem.run_pure, Result.andThen_ok, run_under hu, run_under hu', run_size hi, Builtin.lenOf]
          simp only [Bool.false_eq_true, if_false, Sem.run_bind, Sem.run_pure, Result.andThen_ok]
          rw [if_pos hneed]
          simp only [Bool.not_false, if_true, Sem.run_bind, hnew, Result.andThen_ok]
          rw [hr]
          rfl
        · rw [Nat.add_zero, hs1, Nat.mul_one, ← hlx, setAll_append _ _ _ (by omega)] at hw'
          refine ⟨fun o' ho' => ?_, hw'.nodup, hw'.fr, hw'.from_, hw'.stable⟩
          rcases List.mem_cons.1 ho' with rfl | ho'
          · obtain ⟨h2, ob, hob, hr⟩ := hw'.objs _ (List.mem_cons_self ..)
            have hr := hr.cut (xs ++ news).length
            rw [List.take_left] at hr
            exact ⟨h2, ob, hob, hr⟩
          · exact hw'.objs o' (List.mem_cons_of_mem _ ho')
    exact Oper.wp_of_run (by rw [he]; simp [hrun]) (hk _ _ _ _ (hgo A cap hneed) hw')
  · let q : Question := .appendCap (n + bs.size) cap e
    let nc : Nat := q.cut (w.tape w.drawn q)
    have hnc : n + bs.size ≤ nc := Nat.le_add_right _ _
    let w1 : World := { w with drawn := w.drawn + 1 }
    let zs : Array Value := Builtin.zeroCells z.cells (nc - (n + bs.size))
    have hzl : zs.size = nc - (n + bs.size) := by simp [zs, Builtin.zeroCells, hzs]
    have hold1 : (Builtin.firstCells i.size n (.slice A n cap)).run P w1 = .ok xs.toArray w1 :=
      firstCells_run (by rw [hs1, Nat.mul_one]; exact hlx) (Ob.sl_at (by cases A <;> exact ho)) rfl
    have hcap : ¬ (Builtin.nextslicecap (n + bs.size) cap * i.bytes > 2 ^ 48) := by
      rcases nextslicecap_le (n + bs.size) cap (by omega) with h' | h'
      · have e48 : (2 : Nat) ^ 48 = 281474976710656 := by decide
        rw [hb1, Nat.mul_one]
        omega
      · rw [h']
        have e48 : (2 : Nat) ^ 48 = 281474976710656 := by decide
        rw [hb1]
        omega
    have hrun : (Builtin.append_ #[t, t'] o.type #[.slice A n cap, .string bs]).run P w =
        .ok (.slice (some ⟨w1.heap.size, 0, none⟩) (n + bs.size) nc) (w1.alloc (.cells (xs.toArray ++ news.toArray ++ zs) e)) := by
      have hi63 : ¬ (((n + bs.size : Nat) : Int) > IntKind.i64.max ∧ (False ∨ i.bytes = 0)) := by
        rw [hb1]; simp
      simp only [Builtin.append_, List.getElem?_toArray, List.getElem?_cons_zero, List.getElem?_cons_succ, Sem.run_bind, Sem.run_pure, Result.andThen_ok, run_under hu, run_under hu', run_size hi, Builtin.lenOf]
      simp only [Bool.false_eq_true, if_false, Sem.run_bind, Sem.run_pure, Result.andThen_ok]
      rw [if_neg hneed]
      simp only [Sem.run_bind, run_info hi, Result.andThen_ok]
      rw [if_neg hi63]
      simp only [Sem.run_bind, Result.andThen_ok, run_info hi]
      rw [if_neg hcap]
      simp only [Sem.run_bind, Sem.run_pure, Result.andThen_ok, run_choose, Question.forced, Bool.false_eq_true, if_false, run_info hi, run_askRoom]
      rw [hold1]
      simp only [Result.andThen_ok, Bool.not_false, if_true]
      rw [hnew]
      simp only [Result.andThen_ok, run_zero hi hz]
      rfl
    have hw3 : C.inv w1 rest N := (hw1.perm (List.perm_append_comm (l₁ := [_]) (l₂ := rest))).drop (fun _ hN _ => hN) |>.drawn _
    refine Oper.wp_of_run (v := .slice (some ⟨w1.heap.size, 0, none⟩) (n + bs.size) nc) (w' := w1.alloc (.cells (xs.toArray ++ news.toArray ++ zs) e)) (by rw [he]; simp only [Sem.run_bind, hrun, Result.andThen_ok, Sem.run_pure]) (hk _ _ _ _ (hgo _ nc hnc) ?_)
    refine Inv.alloc hw3 _ _ (by simp [Ob.blks]) (Ob.sl_new (sp := zs.toList) (fz := (0, 0)) ?_ ((heap_alloc_new w1 _).trans (congrArg some ?_)) (by simp))
    · simp [hlx, hlb, hzl]
      omega
    · congr 1
      apply Array.ext'
      simp
theorem vcAppendZ_does {X : XK} {C : Ctx} (hC : C.ok) {o : Oper} {a : Act} {w : World} {own : List Ob} {N : Mp} {t t' : TypeId} {s x : Value} {k : VK} (hw : C.inv w own N) (h : vcAppendZ P C.G own N t t' s x k)
    (he : execOp a.eval o = do pure (.value (← Builtin.append_ #[t, t'] o.type #[s, x]))) : OpDoes X P C o a w k := by
  intro next Q hk _
  unfold vcAppendZ at h
  split at h
  case h_2 => exact h.elim
  rename_i A n cap l
  split at h
  case h_2 => exact h.elim
  rename_i e kd hu hu'
  split at h
  case h_2 => exact h.elim
  rename_i i hi
  split at h
  case h_2 => exact h.elim
  rename_i z hz
  split at h
  case h_2 => exact h.elim
  rename_i hzb
  have hzs : z.cells.size = i.size := Nat.eq_of_beq_eq_true hzb
  rw [natK_eq, natK_eq] at h
  rcases forced_eq _ _ h with ⟨xs, rest, m, rfl, htake, ⟨hlx, hpos, hone⟩, hbytes, h63, hgo⟩ | ⟨olds, m, rfl, hc, ho, ⟨hlx, hpos, hone⟩, hbytes, h63, hgo⟩
  rotate_left
  · have hrowo := ho w (C.gn hC hw)
    have hneed : ¬ (n + m ≤ cap) := by omega
    have wl : IntKind.i64.wrap (m : Int) = m := wrap_in .i64 m (by simp [IntKind.min, IntKind.signed, IntKind.bits]) (by simp [IntKind.max, IntKind.signed, IntKind.bits]; omega)
    have hmb : ¬ ((m : Int) * (i.bytes : Int) > 2 ^ 48) := by
      have h1 : m * i.bytes ≤ (n + m) * i.bytes := Nat.mul_le_mul_right _ (by omega)
      have e48 : (2 : Int) ^ 48 = 281474976710656 := by decide
      have : ((m * i.bytes : Nat) : Int) = (m : Int) * (i.bytes : Int) := Int.natCast_mul ..
      omega
    have hneg : ¬ ((m : Int) < 0) := by omega
    have hzl : (Builtin.zeroCells z.cells m).toList = zerosL m (cellsL z) := by
      rw [cellsL_eq]
      have := zerosL_eq m i.size z.cells hzs
      rw [← this]
      simp [Builtin.zeroCells, hzs]
    have happ : ∀ w1 : World, ((if m * i.size = 0 then (pure #[] : Sem (Array Value)) else do pure (Builtin.zeroCells (← zeroValue e).cells m)).run P w1) = .ok (zerosL m (cellsL z)).toArray w1 := by
      intro w1
      by_cases hm0 : m * i.size = 0
      · rw [if_pos hm0]
        have hm : m = 0 := by
          rcases Nat.mul_eq_zero.1 hm0 with h | h
          · exact h
          · omega
        subst hm
        rfl
      · rw [if_neg hm0]
        simp only [Sem.run_bind, run_zero hi hz, Result.andThen_ok, Sem.run_pure]
        rw [← hzl]
    have hlz : (zerosL m (cellsL z)).length = m * i.size := by
      rw [← hzl]; simp [Builtin.zeroCells, hzs]
    let q : Question := .appendCap (n + m) cap e
    let nc : Nat := q.cut (w.tape w.drawn q)
    have hnc : n + m ≤ nc := Nat.le_add_right _ _
    let w1 : World := { w with drawn := w.drawn + 1 }
    let zs : Array Value := Builtin.zeroCells z.cells (nc - (n + m))
    have hzl2 : zs.size = (nc - (n + m)) * i.size := by simp [zs, Builtin.zeroCells, hzs]
    have hold1 : (Builtin.firstCells i.size n (.slice A n cap)).run P w1 = .ok olds.toArray w1 := firstCells_run hlx hrowo rfl
    have hcap : ¬ (Builtin.nextslicecap (n + m) cap * i.bytes > 2 ^ 48) := by
      rcases nextslicecap_le (n + m) cap (by omega) with h' | h'
      · have := Nat.mul_le_mul_right i.bytes h'
        rw [Nat.mul_assoc] at this
        have e48 : (2 : Nat) ^ 48 = 281474976710656 := by decide
        omega
      · rw [h']
        have e48 : (2 : Nat) ^ 48 = 281474976710656 := by decide
        omega
    have hrun : (Builtin.append_ #[t, t'] o.type #[.slice A n cap, .int .i64 m]).run P w =
        .ok (.slice (some ⟨w1.heap.size, 0, none⟩) (n + m) nc) (w1.alloc (.cells (olds.toArray ++ (zerosL m (cellsL z)).toArray ++ zs) e)) := by
      have hi63 : ¬ (((n + m : Nat) : Int) > IntKind.i64.max ∧ (True ∨ i.bytes = 0)) := by
        simp [IntKind.max, IntKind.signed, IntKind.bits]; omega
      simp only [Builtin.append_, List.getElem?_toArray, List.getElem?_cons_zero, List.getElem?_cons_succ, Sem.run_bind, Sem.run_pure, Result.andThen_ok, run_under hu, run_under hu', run_size hi, asInt, asIntOf]
      simp only [if_true, Sem.run_bind, Sem.run_pure, Result.andThen_ok, wl]
      rw [if_neg hneg]
      simp only [Sem.run_bind, run_info hi, Result.andThen_ok]
      rw [if_neg hmb]
      simp only [Sem.run_bind, Sem.run_pure, Result.andThen_ok, Int.toNat_natCast]
      rw [if_neg hneed]
      simp only [Sem.run_bind, run_info hi, Result.andThen_ok]
      rw [if_neg hi63]
      simp only [Sem.run_bind, Result.andThen_ok, run_info hi]
      rw [if_neg hcap]
      simp only [Sem.run_bind, Sem.run_pure, Result.andThen_ok, run_choose, Question.forced, Bool.false_eq_true, if_false, run_info hi, run_askRoom]
      rw [hold1]
      simp only [Result.andThen_ok, Bool.not_true, Bool.false_eq_true, if_false]
      rw [happ]
      simp only [Result.andThen_ok, run_zero hi hz]
      rfl
    refine Oper.wp_of_run (v := .slice (some ⟨w1.heap.size, 0, none⟩) (n + m) nc) (w' := w1.alloc (.cells (olds.toArray ++ (zerosL m (cellsL z)).toArray ++ zs) e)) (by rw [he]; simp only [Sem.run_bind, hrun, Result.andThen_ok, Sem.run_pure]) (hk _ _ _ _ (hgo _ nc hnc) ?_)
    refine Inv.alloc (Inv.drawn hw _) _ _ rfl (Ob.sl_new (sp := zs.toList) (fz := (0, 0)) ?_ ((heap_alloc_new w1 _).trans (congrArg some ?_)) (by simp))
    · simp [hlx, hlz, hzl2]
      rw [← Nat.add_mul, ← Nat.add_mul]
      congr 1
      omega
    · congr 1
      apply Array.ext'
      simp
  have hw1 : Inv C.w0 (blksOf C.A0) w (.sl A cap e i.size xs :: rest) N := hw.take_ htake
  have ho := hw1.objs _ (List.mem_cons_self ..)
  have wl : IntKind.i64.wrap (m : Int) = m := wrap_in .i64 m (by simp [IntKind.min, IntKind.signed, IntKind.bits]) (by simp [IntKind.max, IntKind.signed, IntKind.bits]; omega)
  have hmb : ¬ ((m : Int) * (i.bytes : Int) > 2 ^ 48) := by
    have h1 : m * i.bytes ≤ (n + m) * i.bytes := Nat.mul_le_mul_right _ (by omega)
    have e48 : (2 : Int) ^ 48 = 281474976710656 := by decide
    have : ((m * i.bytes : Nat) : Int) = (m : Int) * (i.bytes : Int) := Int.natCast_mul ..
    omega
  have hneg : ¬ ((m : Int) < 0) := by omega
  have hzl : (Builtin.zeroCells z.cells m).toList = zerosL m (cellsL z) := by
    rw [cellsL_eq]
    have := zerosL_eq m i.size z.cells hzs
    rw [← this]
    simp [Builtin.zeroCells, hzs]
  have happ : ∀ w1 : World, ((if m * i.size = 0 then (pure #[] : Sem (Array Value)) else do pure (Builtin.zeroCells (← zeroValue e).cells m)).run P w1) = .ok (zerosL m (cellsL z)).toArray w1 := by
    intro w1
    by_cases hm0 : m * i.size = 0
    · rw [if_pos hm0]
      have hm : m = 0 := by
        rcases Nat.mul_eq_zero.1 hm0 with h | h
        · exact h
        · omega
      subst hm
      rfl
    · rw [if_neg hm0]
      simp only [Sem.run_bind, run_zero hi hz, Result.andThen_ok, Sem.run_pure]
      rw [← hzl]
  have hlz : (zerosL m (cellsL z)).length = m * i.size := by
    rw [← hzl]; simp [Builtin.zeroCells, hzs]
  by_cases hneed : n + m ≤ cap
  · obtain ⟨w', hrun, hw'⟩ : ∃ w', (Builtin.append_ #[t, t'] o.type #[.slice A n cap, .int .i64 m]).run P w = .ok (.slice A (n + m) cap) w' ∧ C.inv w' (.sl A cap e i.size (xs ++ zerosL m (cellsL z)) :: rest) N := by
      cases A with
      | none =>
        obtain ⟨rfl, rfl⟩ := ho
        have hm : m = 0 := by omega
        have hn : n = 0 := by omega
        subst hm; subst hn
        refine ⟨w, ?_, by simp only [zerosL, List.replicate_zero, List.flatten_nil, List.append_nil]; exact hw1⟩
        simp only [Builtin.append_, List.getElem?_toArray, List.getElem?_cons_zero, List.getElem?_cons_succ, Sem.run_bind, Sem.run_pure, Result.andThen_ok, run_under hu, run_under hu', run_size hi, asInt, asIntOf]
        simp only [if_true, Sem.run_bind, Sem.run_pure, Result.andThen_ok, wl]
        rw [if_neg hneg]
        simp only [Sem.run_bind, run_info hi, Result.andThen_ok]
        rw [if_neg hmb]
        simp only [Sem.run_bind, Sem.run_pure, Result.andThen_ok, Int.toNat_natCast]
        rw [if_pos hneed]
        simp only [Bool.not_true, Bool.false_eq_true, if_false, Sem.run_bind, happ, Result.andThen_ok, Sem.run_pure]
      | some b =>
        obtain ⟨sp, hlen, hgrown⟩ := Ob.sl_grow ho
        have hn : n * i.size + m * i.size ≤ cap * i.size := by rw [← Nat.add_mul]; exact Nat.mul_le_mul_right _ hneed
        have hw2 : C.inv w (.sl (some b) cap e i.size (xs ++ sp) :: rest) N :=
          ⟨fun o' ho' => by
              rcases List.mem_cons.1 ho' with rfl | ho'
              · exact hgrown
              · exact hw1.objs o' (List.mem_cons_of_mem _ ho'), hw1.nodup, hw1.fr, hw1.from_, hw1.stable⟩
        obtain ⟨w', hr, hw'⟩ := storeRow_does (P := P) (b := b) rfl (n * i.size) (zerosL m (cellsL z)) 0 hw2 (zerosL_one_ hone m) (by simp [hlz]; omega)
        refine ⟨w', ?_, ?_⟩
        · simp only [Builtin.append_, List.getElem?_toArray, List.getElem?_cons_zero, List.getElem?_cons_succ, Sem.run_bind, Sem.run_pure, Result.andThen_ok, run_under hu, run_under hu', run_size hi, asInt, asIntOf]
          simp only [if_true, Sem.run_bind, Sem.run_pure, Result.andThen_ok, wl]
          rw [if_neg hneg]
          simp only [Sem.run_bind, run_info hi, Result.andThen_ok]
          rw [if_neg hmb]
          simp only [Sem.run_bind, Sem.run_pure, Result.andThen_ok, Int.toNat_natCast]
          rw [if_pos hneed]
          simp only [Bool.not_true, Bool.false_eq_true, if_false, Sem.run_bind, happ, Result.andThen_ok, Sem.run_pure]
          rw [hr]
          rfl
        · rw [Nat.add_zero, ← hlx, setAll_append _ _ _ (by rw [hlz]; omega)] at hw'
          refine ⟨fun o' ho' => ?_, hw'.nodup, hw'.fr, hw'.from_, hw'.stable⟩
          rcases List.mem_cons.1 ho' with rfl | ho'
          · obtain ⟨h2, ob, hob, hr⟩ := hw'.objs _ (List.mem_cons_self ..)
            have hr := hr.cut (xs ++ (zerosL m (cellsL z))).length
            rw [List.take_left] at hr
            exact ⟨h2, ob, hob, hr⟩
          · exact hw'.objs o' (List.mem_cons_of_mem _ ho')
    exact Oper.wp_of_run (by rw [he]; simp [hrun]) (hk _ _ _ _ (hgo A cap hneed) hw')
  · let q : Question := .appendCap (n + m) cap e
    let nc : Nat := q.cut (w.tape w.drawn q)
    have hnc : n + m ≤ nc := Nat.le_add_right _ _
    let w1 : World := { w with drawn := w.drawn + 1 }
    let zs : Array Value := Builtin.zeroCells z.cells (nc - (n + m))
    have hzl2 : zs.size = (nc - (n + m)) * i.size := by simp [zs, Builtin.zeroCells, hzs]
    have hold1 : (Builtin.firstCells i.size n (.slice A n cap)).run P w1 = .ok xs.toArray w1 := by
      exact firstCells_run hlx (Ob.sl_at (by cases A <;> exact ho)) rfl
    have hcap : ¬ (Builtin.nextslicecap (n + m) cap * i.bytes > 2 ^ 48) := by
      rcases nextslicecap_le (n + m) cap (by omega) with h' | h'
      · have := Nat.mul_le_mul_right i.bytes h'
        rw [Nat.mul_assoc] at this
        have e48 : (2 : Nat) ^ 48 = 281474976710656 := by decide
        omega
      · rw [h']
        have e48 : (2 : Nat) ^ 48 = 281474976710656 := by decide
        omega
    have hrun : (Builtin.append_ #[t, t'] o.type #[.slice A n cap, .int .i64 m]).run P w =
        .ok (.slice (some ⟨w1.heap.size, 0, none⟩) (n + m) nc) (w1.alloc (.cells (xs.toArray ++ (zerosL m (cellsL z)).toArray ++ zs) e)) := by
      have hi63 : ¬ (((n + m : Nat) : Int) > IntKind.i64.max ∧ (True ∨ i.bytes = 0)) := by
        simp [IntKind.max, IntKind.signed, IntKind.bits]; omega
      simp only [Builtin.append_, List.getElem?_toArray, List.getElem?_cons_zero, List.getElem?_cons_succ, Sem.run_bind, Sem.run_pure, Result.andThen_ok, run_under hu, run_under hu', run_size hi, asInt, asIntOf]
      simp only [if_true, Sem.run_bind, Sem.run_pure, Result.andThen_ok, wl]
      rw [if_neg hneg]
      simp only [Sem.run_bind, run_info hi, Result.andThen_ok]
      rw [if_neg hmb]
      simp only [Sem.run_bind, Sem.run_pure, Result.andThen_ok, Int.toNat_natCast]
      rw [if_neg hneed]
      simp only [Sem.run_bind, run_info hi, Result.andThen_ok]
      rw [if_neg hi63]
      simp only [Sem.run_bind, Result.andThen_ok, run_info hi]
      rw [if_neg hcap]
      simp only [Sem.run_bind, Sem.run_pure, Result.andThen_ok, run_choose, Question.forced, Bool.false_eq_true, if_false, run_info hi, run_askRoom]
      rw [hold1]
      simp only [Result.andThen_ok, Bool.not_true, Bool.false_eq_true, if_false]
      rw [happ]
      simp only [Result.andThen_ok, run_zero hi hz]
      rfl
    have hw3 : C.inv w1 rest N := (hw1.perm (List.perm_append_comm (l₁ := [_]) (l₂ := rest))).drop (fun _ hN _ => hN) |>.drawn _
    refine Oper.wp_of_run (v := .slice (some ⟨w1.heap.size, 0, none⟩) (n + m) nc) (w' := w1.alloc (.cells (xs.toArray ++ (zerosL m (cellsL z)).toArray ++ zs) e)) (by rw [he]; simp only [Sem.run_bind, hrun, Result.andThen_ok, Sem.run_pure]) (hk _ _ _ _ (hgo _ nc hnc) ?_)
    refine Inv.alloc hw3 _ _ (by simp [Ob.blks]) (Ob.sl_new (sp := zs.toList) (fz := (0, 0)) ?_ ((heap_alloc_new w1 _).trans (congrArg some ?_)) (by simp))
    · simp [hlx, hlz, hzl2]
      rw [← Nat.add_mul, ← Nat.add_mul]
      congr 1
      omega
    · congr 1
      apply Array.ext'
      simp

theorem setAll_nil (vs sp : List Value) (h : vs.length ≤ sp.length) : setAll sp 0 vs = vs ++ sp.drop vs.length := by
  simpa using setAll_append vs [] sp h

theorem vcCopy_does {X : XK} {C : Ctx} (hC : C.ok) {o : Oper} {a : Act} {w : World} {own : List Ob} {N : Mp} {t : TypeId} {s x : Value} {k : VK} (hw : C.inv w own N) (h : vcCopy P C.G own N t s x k)
    (he : execOp a.eval o = do pure (.value (← Builtin.copy_ #[t, t] o.type #[s, x]))) : OpDoes X P C o a w k := by
  intro next Q hk _
  unfold vcCopy at h
  split at h
  · rename_i A n cap A2 n2 c2
    split at h
    · rename_i e hu
      split at h
      · rename_i i hi
        rw [natK_eq] at h
        have pre : ∀ (K : Sem Value), (do
            let cells ← Builtin.firstCells (← sizeOf e) (Nat.min n2 n) (.slice A2 n2 c2)
            if let some a := A then storeCells a cells.toList
            pure (goInt (Nat.min n2 n))) = K → (Builtin.copy_ #[t, t] o.type #[.slice A n cap, .slice A2 n2 c2]).run P w = K.run P w := by
          rintro K rfl
          simp only [Builtin.copy_, List.getElem?_toArray, List.getElem?_cons_zero, List.getElem?_cons_succ, Sem.run_bind, Sem.run_pure, Result.andThen_ok, run_under hu, Builtin.lenOf]
          rfl
        rcases h with ⟨xs, rest, news, htake, ⟨hlx, hln, hone⟩, hnews, h⟩ | ⟨a0, cap0, off, xs, rest, news, htake, hA, ⟨hl1, hl2, hln, hone⟩, hnews, h⟩
        rotate_left
        · have hw1 : Inv C.w0 (blksOf C.A0) w (.sl (some a0) cap0 e i.size xs :: rest) N := hw.take_ htake
          have hrow := hnews w (C.gn hC hw)
          have hnew : (Builtin.firstCells i.size (Nat.min n2 n) (.slice A2 n2 c2)).run P w = .ok news.toArray w := by
            have := firstCells_run (P := P) (A := A2) (c := c2) (size := i.size) (m := Nat.min n2 n) (n := Nat.min n2 n) (xs := news) (w := w) hln hrow rfl
            cases A2 <;> exact this
          obtain ⟨w', hrun, hw'⟩ : ∃ w', (Builtin.copy_ #[t, t] o.type #[.slice A n cap, .slice A2 n2 c2]).run P w = .ok (.int .i64 (Nat.min n2 n : Nat)) w' ∧ C.inv w' (.sl (some a0) cap0 e i.size (spl xs off news) :: rest) N := by
            rw [pre _ rfl]
            by_cases h0 : Nat.min n2 n = 0
            · have hnil : news = [] := List.eq_nil_of_length_eq_zero (by rw [hln, h0, Nat.zero_mul])
              subst hnil
              refine ⟨w, ?_, by rw [show spl xs off [] = xs from by simp [spl]]; exact hw1⟩
              simp only [Sem.run_bind, run_size hi, Result.andThen_ok, hnew]
              cases A <;> rfl
            · obtain rfl : A = some (a0.add off) := hA.resolve_left h0
              obtain ⟨sp, hlen, hgrown⟩ := Ob.sl_grow (hw1.objs _ (List.mem_cons_self ..))
              have hw2 : C.inv w (.sl (some a0) cap0 e i.size (xs ++ sp) :: rest) N :=
                ⟨fun o' ho' => by
                    rcases List.mem_cons.1 ho' with rfl | ho'
                    · exact hgrown
                    · exact hw1.objs o' (List.mem_cons_of_mem _ ho'), hw1.nodup, hw1.fr, hw1.from_, hw1.stable⟩
              obtain ⟨w', hr, hw'⟩ := storeRow_does (P := P) (b := a0) rfl off news 0 hw2 hone (by simp; omega)
              refine ⟨w', ?_, ?_⟩
              · simp only [Sem.run_bind, run_size hi, Result.andThen_ok, hnew]
                rw [hr]
                rfl
              · rw [Nat.add_zero, setAll_spl _ _ _ (by simp; omega)] at hw'
                have hcut : (spl (xs ++ sp) off news).take (spl xs off news).length = spl xs off news := by
                  unfold spl
                  rw [List.take_append_of_le_length hl1, List.length_append, List.length_append, List.drop_append, ← List.append_assoc, ← List.length_append, ← List.length_append, List.take_left]
                have ht2 : Take (.sl (some a0) cap0 e i.size ((spl (xs ++ sp) off news).take (spl xs off news).length)) (.sl (some a0) cap0 e i.size (spl (xs ++ sp) off news) :: rest) rest := Take.cut _
                rw [hcut] at ht2
                exact Inv.take_ hw' ht2
          exact Oper.wp_of_run (by rw [he]; simp only [Sem.run_bind, hrun, Result.andThen_ok, Sem.run_pure]) (hk _ _ _ _ h hw')
        have hw1 : Inv C.w0 (blksOf C.A0) w (.sl A cap e i.size xs :: rest) N := hw.take_ htake
        have hrow := hnews w (C.gn hC hw)
        have hm1 : Nat.min n2 n ≤ n2 := Nat.min_le_left _ _
        have hm2 : Nat.min n2 n ≤ n := Nat.min_le_right _ _
        have hl2 : (news.take (Nat.min n2 n * i.size)).length = Nat.min n2 n * i.size := by
          rw [List.length_take, hln]; exact Nat.min_eq_left (Nat.mul_le_mul_right _ hm1)
        have hnew : (Builtin.firstCells i.size (Nat.min n2 n) (.slice A2 n2 c2)).run P w = .ok (news.take (Nat.min n2 n * i.size)).toArray w := by
          have := firstCells_run (P := P) (A := A2) (c := c2) (size := i.size) (m := Nat.min n2 n) (n := Nat.min n2 n) (xs := news.take (Nat.min n2 n * i.size)) (w := w) hl2 ?_ rfl
          · cases A2 <;> exact this
          · intro j u hj
            rw [List.getElem?_take] at hj
            split at hj
            · exact hrow j u hj
            · cases hj
        have hle : Nat.min n2 n * i.size ≤ xs.length := Nat.le_trans (Nat.mul_le_mul_right _ hm2) hlx
        obtain ⟨w', hrun, hw'⟩ : ∃ w', (Builtin.copy_ #[t, t] o.type #[.slice A n cap, .slice A2 n2 c2]).run P w = .ok (.int .i64 (Nat.min n2 n : Nat)) w' ∧ C.inv w' (.sl A cap e i.size (news.take (Nat.min n2 n * i.size) ++ xs.drop (Nat.min n2 n * i.size)) :: rest) N := by
          rw [pre _ rfl]
          cases A with
          | none =>
            obtain ⟨_, rfl⟩ := hw1.objs _ (List.mem_cons_self ..)
            have h0 : Nat.min n2 n * i.size = 0 := by simpa using hle
            refine ⟨w, ?_, by rw [h0]; exact hw1⟩
            simp only [Sem.run_bind, run_size hi, Result.andThen_ok, hnew]
            rfl
          | some b =>
            have ho := hw1.objs _ (List.mem_cons_self ..)
            obtain ⟨w', hr, hw'⟩ := storeRow_does (P := P) (b := b) rfl 0 (news.take (Nat.min n2 n * i.size)) 0 hw1 (fun v hv => hone v (List.mem_of_mem_take hv)) (by rw [hl2]; omega)
            refine ⟨w', ?_, ?_⟩
            · have hb0 : b.add 0 = b := by unfold Addr.add; simp
              rw [hb0] at hr
              simp only [Sem.run_bind, run_size hi, Result.andThen_ok, hnew]
              rw [hr]
              rfl
            · rw [Nat.add_zero, setAll_nil _ _ (by rw [hl2]; exact hle), hl2] at hw'
              exact hw'
        exact Oper.wp_of_run (by rw [he]; simp only [Sem.run_bind, hrun, Result.andThen_ok, Sem.run_pure]) (hk _ _ _ _ h hw')
      · exact h.elim
    · exact h.elim
  · exact h.elim

theorem vcCallF_does {X : XK} {C : Ctx} (hC : C.ok) {o : Oper} {a : Act} {w : World} {own : List Ob} {N : Mp} {f : FuncId} {args : List Value} {k : VK} (hw : C.inv w own N) (h : vcCallF X P C.G own N f args k)
    (he : execOp a.eval o = callFunc f args.toArray) : OpDoes X P C o a w k := by
  intro next Q hk hpan
  rcases h with ⟨A, rest, Post, hp, hs, h⟩ | ⟨A, rest, Post, PX, hp, hs, h, hx⟩ | ⟨v, hr, h⟩
  · have hw1 : C.inv w (A ++ rest) N := hw.picked hp
    unfold Oper.wp
    rw [he, hs.1 args.toArray w]
    refine (hs.2 w (Inv.entry hC hw1)).mono ?_
    rintro e w' ⟨v, own', N', rfl, hP, hi⟩
    exact hk _ _ _ _ (h v own' N' hP) (hw1.call hi)
  · have hw1 : C.inv w (A ++ rest) N := hw.picked hp
    unfold Oper.wp
    rw [he, hs.1 args.toArray w]
    refine (hs.2 w (Inv.entry hC hw1)).mono ?_
    rintro e w' ⟨own', N', ⟨v, rfl, hP⟩ | ⟨c, rfl, hP⟩, hi⟩
    · exact hk _ _ _ _ (h v own' N' hP) (hw1.call hi)
    · exact hpan _ _ _ _ (hx c own' N' hP) (hw1.call hi)
  · exact Oper.wp_of_run (by rw [he]; exact hr w (C.gn hC hw)) (hk _ _ _ _ h hw)

theorem vcClear_does {C : Ctx} {w : World} {own : List Ob} {N : Mp} {t ty : TypeId} {s : Value} {k : VK} (hw : C.inv w own N) (h : vcClear P own N t s k) :
    ∃ own' w', k (.tuple #[]) own' N ∧ (Builtin.clear_ #[t] ty #[s]).run P w = .ok (.tuple #[]) w' ∧ C.inv w' own' N := by
  unfold vcClear at h
  split at h
  · rename_i A n c
    split at h
    · rename_i e hu
      split at h
      · rename_i i hi
        split at h
        case h_2 => exact h.elim
        rename_i z hz
        split at h
        case h_2 => exact h.elim
        rename_i hzb
        have hzs : z.cells.size = i.size := Nat.eq_of_beq_eq_true hzb
        rw [natK_eq] at h
        replace h := forced_eq _ _ h
        rcases h with ⟨hn, h⟩ | ⟨a, cap0, off, xs, rest, ht, rfl, ⟨hl1, hl2, hone⟩, h⟩
        · refine ⟨_, w, h, ?_, hw⟩
          subst hn
          simp only [Builtin.clear_, List.getElem?_toArray, List.getElem?_cons_zero, Sem.run_bind, run_under hu, Result.andThen_ok]
          cases A <;> rfl
        · have hw1 : Inv C.w0 (blksOf C.A0) w (.sl (some a) cap0 e i.size xs :: rest) N := hw.take_ ht
          by_cases hn : n = 0
          · refine ⟨_, w, h, ?_, hw1⟩
            subst hn
            simp only [Builtin.clear_, List.getElem?_toArray, List.getElem?_cons_zero, Sem.run_bind, Sem.run_pure, run_under hu, Result.andThen_ok]
          · obtain ⟨sp, hlen, hgrown⟩ := Ob.sl_grow (hw1.objs _ (List.mem_cons_self ..))
            have hw2 : C.inv w (.sl (some a) cap0 e i.size (xs ++ sp) :: rest) N :=
              ⟨fun o' ho' => by
                  rcases List.mem_cons.1 ho' with rfl | ho'
                  · exact hgrown
                  · exact hw1.objs o' (List.mem_cons_of_mem _ ho'), hw1.nodup, hw1.fr, hw1.from_, hw1.stable⟩
            let zs := (Builtin.zeroCells z.cells n).toList
            have hzl : zs.length = n * i.size := by simp [zs, Builtin.zeroCells, hzs]
            have hz1 : ∀ v ∈ zs, oneCell v = true := by
              intro v hv
              have hzz : zs = zerosL n (cellsL z) := by
                rw [cellsL_eq]
                show (Builtin.zeroCells z.cells n).toList = _
                have := zerosL_eq n i.size z.cells hzs
                rw [← this]
                simp [Builtin.zeroCells, hzs]
              rw [hzz] at hv
              exact zerosL_one_ hone n v hv
            obtain ⟨w', hr, hw'⟩ := storeRow_does (P := P) (b := a) rfl off zs 0 hw2 hz1 (by simp [hzl]; omega)
            refine ⟨_, w', h, ?_, ?_⟩
            · simp only [Builtin.clear_, List.getElem?_toArray, List.getElem?_cons_zero, Sem.run_bind, run_under hu, Result.andThen_ok]
              obtain ⟨n', rfl⟩ := Nat.exists_eq_succ_of_ne_zero hn
              simp only [run_zero hi hz, Result.andThen_ok]
              rw [hr]
              rfl
            · rw [Nat.add_zero] at hw'
              have hcut : (setAll (xs ++ sp) off zs).take xs.length = xs := by
                rw [setAll_spl zs (xs ++ sp) off (by simp [hzl]; omega)]
                unfold spl
                rw [List.append_assoc, List.take_append_of_le_length (by simp; omega), List.take_take, Nat.min_eq_left hl1, List.take_left]
              have ht2 : Take (.sl (some a) cap0 e i.size ((setAll (xs ++ sp) off zs).take xs.length)) (.sl (some a) cap0 e i.size (setAll (xs ++ sp) off zs) :: rest) rest := Take.cut _
              rw [hcut] at ht2
              exact Inv.take_ hw' ht2
      · exact h.elim
    · exact h.elim
  · exact h.elim

/-! ### Maps -/
theorem mapWrite {C : Ctx} {w : World} {b : Nat} {l l' : List (Value × Value × Nat)} {c c' : Nat} {rest : List Ob} {N : Mp} (hw : Inv C.w0 (blksOf C.A0) w (.map b l c :: rest) N) {es' : Array MapEntry}
    (h1 : es'.toList.map (fun e => (e.key, e.val, e.born)) = l') (h2 : ∀ e ∈ l', e.2.2 < c') (h3 : (l'.map (·.2.2)).Nodup) : C.inv { w with heap := w.heap.setIfInBounds b (.map es' c') } (.map b l' c' :: rest) N := by
  obtain ⟨o, hb, _⟩ := hw.objs _ (List.mem_cons_self ..)
  refine Inv.write hw rfl rfl rfl rfl (by simp) (fun i hi => (MapKept.heap_set hb).2 i (by simpa [Ob.blks] using hi)) ⟨_, (MapKept.heap_set hb).1, es', rfl, h1, h2, h3⟩
theorem mI_born (kd : IntKind) (l : Ents) : (mI kd l).map (·.2.2) = l.map (·.2.2) := by simp [mI]
theorem setE_born (k : Int) (v : Value) : ∀ (l : Ents), (setE k v l).map (·.2.2) = l.map (·.2.2)
  | [] => rfl
  | e :: r => by
    unfold setE
    split
    · rfl
    · rw [List.map_cons, List.map_cons, setE_born k v r]
theorem setB_born (b : Nat) (v : Value) : ∀ (l : Ents), (setB b v l).map (·.2.2) = l.map (·.2.2)
  | [] => rfl
  | e :: r => by
    unfold setB
    split
    · rfl
    · rw [List.map_cons, List.map_cons, setB_born b v r]
theorem delE_sub (k : Int) : ∀ (l : Ents), (delE k l).Sublist l
  | [] => .refl _
  | e :: r => by
    unfold delE
    split
    · exact List.sublist_cons_self _ _
    · exact (delE_sub k r).cons_cons _
theorem born_all {kd : IntKind} {l : Ents} {c : Nat} : (∀ e ∈ mI kd l, e.2.2 < c) ↔ ∀ x ∈ l.map (·.2.2), x < c := by
  rw [← mI_born kd, List.forall_mem_map]
theorem toList_modify_ (es : Array MapEntry) (j : Nat) (f : MapEntry → MapEntry) : (es.modify j f).toList = es.toList.modify j f := by
  apply List.ext_getElem?
  intro i
  rw [Array.getElem?_toList, Array.getElem?_modify, List.getElem?_modify, Array.getElem?_toList]
  split <;> simp
theorem toList_erase_ {es : Array MapEntry} {j : Nat} {m : MapEntry} (h : es.toList[j]? = some m) : (es.eraseIdxIfInBounds j).toList = es.toList.eraseIdx j := by
  have hlt : j < es.size := by
    have := (List.getElem?_eq_some_iff.1 h).1
    simpa using this
  unfold Array.eraseIdxIfInBounds
  rw [dif_pos hlt]
  simp
theorem setB_find {kd : IntKind} {c : Nat} {v : Value} : ∀ (es : List MapEntry) (l : Ents), es.map (fun e => (e.key, e.val, e.born)) = mI kd l → (∃ e ∈ l, e.2.2 = c) →
    ∃ i, es.findIdx? (fun e => (e.born : Int) == (c : Int)) = some i ∧ (es.modify i fun e => { e with val := v }).map (fun e => (e.key, e.val, e.born)) = mI kd (setB c v l)
  | [], l, h, hm => by
    cases l with
    | nil => obtain ⟨_, h, _⟩ := hm; cases h
    | cons e r => cases h
  | m :: es, l, h, hm => by
    cases l with
    | nil => cases h
    | cons e r =>
      rw [List.map_cons, mI_cons, List.cons.injEq] at h
      obtain ⟨h1, h2⟩ := h
      simp only [Prod.mk.injEq] at h1
      obtain ⟨hk, hv, hb⟩ := h1
      by_cases hc : e.2.2 = c
      · refine ⟨0, ?_, ?_⟩
        · rw [List.findIdx?_cons, hb, hc]; simp
        · simp only [List.modify_zero_cons, List.map_cons, setB, hc, if_true, mI_cons, h2, hk, hb]
      · obtain ⟨i, h3, h4⟩ := setB_find (v := v) es r h2 (by
          obtain ⟨x, hx, hxc⟩ := hm
          rcases List.mem_cons.1 hx with rfl | hx
          · exact absurd hxc hc
          · exact ⟨x, hx, hxc⟩)
        refine ⟨i + 1, ?_, ?_⟩
        · rw [List.findIdx?_cons, hb, h3]
          have : ((e.2.2 : Int) == (c : Int)) = false := by
            simp only [beq_eq_false_iff_ne, ne_eq]; omega
          rw [this]; rfl
        · simp only [List.modify_succ_cons, List.map_cons, setB, hc, if_false, mI_cons, h4, hk, hv, hb]

theorem vcMapUpdate_does {C : Ctx} {w : World} {own : List Ob} {N : Mp} {t : TypeId} {m key v : Value} {k : List Ob → Prop} (hw : C.inv w own N) (h : vcMapUpdate P own t m key v k) :
    ∃ own' w', k own' ∧ (Instr.mapUpdate t m key v).run P w = .ok () w' ∧ C.inv w' own' N := by
  unfold vcMapUpdate at h
  split at h
  · rename_i b kd n
    split at h
    · rename_i kt et hm
      split at h
      · rename_i kd' hd
        rcases h with ⟨rfl, l, clock, rest, ht, hg, h⟩ | ⟨rfl, l, clock, rest, ht, e, hg, h⟩
        · have hw1 : Inv C.w0 (blksOf C.A0) w (.map b (mI kd l) clock :: rest) N := hw.take_ ht
          obtain ⟨o, hb, es, rfl, he, hlt, hnd⟩ := hw1.objs _ (List.mem_cons_self ..)
          have hf := (findNow_mI kd n es.toList l 0 he).1 hg
          refine ⟨_, { w with heap := w.heap.setIfInBounds b (.map (es.push { key := .int kd n, val := v, born := clock }) (clock + 1)) }, h, ?_, mapWrite hw1 ?_ ?_ ?_⟩
          · simp only [Instr.mapUpdate, Sem.run_bind, run_under hm, Result.andThen_ok, MapKept.run_getObj_map hb, MapKept.run_checkKey hd (isKey_int kd n), MapKept.run_findKey hd hf, MapKept.run_setObj_map _ hb]
          · simp [he, mI]
          · rw [born_all]
            rw [born_all] at hlt
            intro x hx
            rw [List.map_append] at hx
            rcases List.mem_append.1 hx with hx | hx
            · have := hlt x hx; omega
            · simp at hx; omega
          · rw [mI_born] at *
            rw [born_all] at hlt
            rw [List.map_append, List.nodup_append]
            refine ⟨hnd, by simp, fun a ha b hb => ?_⟩
            have := hlt a ha
            simp at hb
            omega
        · have hw1 : Inv C.w0 (blksOf C.A0) w (.map b (mI kd l) clock :: rest) N := hw.take_ ht
          obtain ⟨o, hb, es, rfl, he, hlt, hnd⟩ := hw1.objs _ (List.mem_cons_self ..)
          obtain ⟨j, m, hf, hj, hmk, hmv, hmb, hmod, _⟩ := (findNow_mI kd n es.toList l 0 he).2 e hg
          rw [Nat.zero_add] at hf
          have hj' : es[j]? = some m := by simpa using hj
          refine ⟨_, { w with heap := w.heap.setIfInBounds b (.map (es.modify j fun e => { e with key := .int kd n, val := v }) clock) }, h, ?_, mapWrite hw1 ?_ ?_ ?_⟩
          · simp only [Instr.mapUpdate, Sem.run_bind, run_under hm, Result.andThen_ok, MapKept.run_getObj_map hb, MapKept.run_checkKey hd (isKey_int kd n), MapKept.run_findKey hd hf, hj', Option.map_some, Option.getD_some, hmk, MapKept.run_keyThatStays (isKey_int kd n), MapKept.run_setObj_map _ hb]
          · rw [toList_modify_]; exact hmod v
          · rw [born_all, setE_born, ← born_all (kd := kd)]; exact hlt
          · rw [mI_born, setE_born, ← mI_born kd]; exact hnd
      · exact h.elim
    · exact h.elim
  · exact h.elim

theorem vcMapEntry_does {C : Ctx} {w : World} {own : List Ob} {N : Mp} {t : TypeId} {m key : Value} {k : VK} (hw : C.inv w own N) (h : vcMapEntry P own N t m key k) :
    ∃ v own' w', k v own' N ∧ (Instr.mapEntry t m key).run P w = .ok v w' ∧ C.inv w' own' N := by
  unfold vcMapEntry at h
  split at h
  · rename_i b kd n
    split at h
    · rename_i kt et hm
      split at h
      · rename_i kd' hd
        split at h
        · rename_i inf hi
          split at h
          · rename_i z hz
            rcases h with ⟨rfl, l, clock, rest, ht, hg, h⟩ | ⟨rfl, l, clock, rest, ht, e, hg, h⟩
            · have hw1 : Inv C.w0 (blksOf C.A0) w (.map b (mI kd l) clock :: rest) N := hw.take_ ht
              obtain ⟨o, hb, es, rfl, he, hlt, hnd⟩ := hw1.objs _ (List.mem_cons_self ..)
              have hf := (findNow_mI kd n es.toList l 0 he).1 hg
              refine ⟨_, _, { w with heap := w.heap.setIfInBounds b (.map (es.push { key := .int kd n, val := z, born := clock }) (clock + 1)) }, h, ?_, mapWrite hw1 ?_ ?_ ?_⟩
              · simp only [Instr.mapEntry, Sem.run_bind, run_under hm, Result.andThen_ok, MapKept.run_getObj_map hb, MapKept.run_checkKey hd (isKey_int kd n), MapKept.run_findKey hd hf, MapKept.run_setObj_map _ hb, run_zero hi hz]
                rfl
              · simp [he, mI]
              · rw [born_all]
                rw [born_all] at hlt
                intro x hx
                rw [List.map_append] at hx
                rcases List.mem_append.1 hx with hx | hx
                · have := hlt x hx; omega
                · simp at hx; omega
              · rw [mI_born] at *
                rw [born_all] at hlt
                rw [List.map_append, List.nodup_append]
                refine ⟨hnd, by simp, fun a ha b hb => ?_⟩
                have := hlt a ha
                simp at hb
                omega
            · have hw1 : Inv C.w0 (blksOf C.A0) w (.map b (mI kd l) clock :: rest) N := hw.take_ ht
              obtain ⟨o, hb, es, rfl, he, hlt, hnd⟩ := hw1.objs _ (List.mem_cons_self ..)
              obtain ⟨j, m, hf, hj, hmk, hmv, hmb, hmod, _⟩ := (findNow_mI kd n es.toList l 0 he).2 e hg
              rw [Nat.zero_add] at hf
              have hj' : es[j]? = some m := by simpa using hj
              refine ⟨_, _, { w with heap := w.heap.setIfInBounds b (.map (es.modify j fun e => { e with key := .int kd n }) clock) }, h, ?_, mapWrite hw1 ?_ hlt hnd⟩
              · simp only [Instr.mapEntry, Sem.run_bind, run_under hm, Result.andThen_ok, MapKept.run_getObj_map hb, MapKept.run_checkKey hd (isKey_int kd n), MapKept.run_findKey hd hf, hj', Option.map_some, Option.getD_some, hmk, MapKept.run_keyThatStays (isKey_int kd n), MapKept.run_setObj_map _ hb, hmb]
                rfl
              · rw [toList_modify_]
                have : es.toList.modify j (fun e => { e with key := .int kd n }) = es.toList := by
                  apply List.ext_getElem?
                  intro i
                  rw [List.getElem?_modify]
                  split
                  · rename_i hij
                    subst hij
                    rw [hj]
                    obtain ⟨mk, mv, mb⟩ := m
                    simp only at hmk
                    subst hmk
                    rfl
                  · simp
                rw [this]; exact he
          · exact h.elim
        · exact h.elim
      · exact h.elim
    · exact h.elim
  · exact h.elim

theorem vcEntryStore_does {C : Ctx} {w : World} {own : List Ob} {N : Mp} {t : TypeId} {m s v : Value} {k : List Ob → Prop} (hw : C.inv w own N) (h : vcEntryStore own m s v k) :
    ∃ own' w', k own' ∧ (Instr.entryStore t m s v).run P w = .ok () w' ∧ C.inv w' own' N := by
  unfold vcEntryStore at h
  split at h
  · rename_i b s
    obtain ⟨kd, l, clock, c, rest, rfl, ht, hc, h⟩ := h
    have hw1 : Inv C.w0 (blksOf C.A0) w (.map b (mI kd l) clock :: rest) N := hw.take_ ht
    obtain ⟨o, hb, es, rfl, he, hlt, hnd⟩ := hw1.objs _ (List.mem_cons_self ..)
    obtain ⟨i, hi, hmod⟩ := setB_find (v := v) es.toList l he hc
    refine ⟨_, { w with heap := w.heap.setIfInBounds b (.map (es.modify i fun e => { e with val := v }) clock) }, h, ?_, mapWrite hw1 ?_ ?_ ?_⟩
    · have hi' : es.findIdx? (fun e => (e.born : Int) == (c : Int)) = some i := by rw [← hi, ← List.findIdx?_toArray]
      simp only [Instr.entryStore, Sem.run_bind, Sem.run_pure, Result.andThen_ok, MapKept.run_getObj_map hb, asInt, asIntOf, hi', MapKept.run_setObj_map _ hb]
    · rw [toList_modify_]; exact hmod
    · rw [born_all, setB_born, ← born_all (kd := kd)]; exact hlt
    · rw [mI_born, setB_born, ← mI_born kd]; exact hnd
  · exact h.elim

theorem vcDelete_does {C : Ctx} {w : World} {own : List Ob} {N : Mp} {t ty : TypeId} {ts : List TypeId} {m key : Value} {k : VK} (hw : C.inv w own N) (h : vcDelete P own N t m key k) :
    ∃ own' w', k (.tuple #[]) own' N ∧ (Builtin.delete_ (t :: ts).toArray ty #[m, key]).run P w = .ok (.tuple #[]) w' ∧ C.inv w' own' N := by
  unfold vcDelete at h
  split at h
  · rename_i b kd n
    split at h
    · rename_i kt et hm
      split at h
      · rename_i kd' hd
        obtain ⟨rfl, l, clock, rest, ht, h⟩ := h
        have hw1 : Inv C.w0 (blksOf C.A0) w (.map b (mI kd l) clock :: rest) N := hw.take_ ht
        obtain ⟨o, hb, es, rfl, he, hlt, hnd⟩ := hw1.objs _ (List.mem_cons_self ..)
        have hsub := delE_sub n l
        have hlt' : ∀ e ∈ mI kd (delE n l), e.2.2 < clock := by
          rw [born_all]; rw [born_all] at hlt
          exact fun x hx => hlt x ((hsub.map _).subset hx)
        have hnd' : ((mI kd (delE n l)).map (·.2.2)).Nodup := by
          rw [mI_born] at *
          exact (hsub.map _).nodup hnd
        cases hg : getE n l with
        | none =>
          have hf := (findNow_mI kd n es.toList l 0 he).1 hg
          have hdel : ∀ (l : Ents), getE n l = none → delE n l = l := by
            intro l
            induction l with
            | nil => exact fun _ => rfl
            | cons e r ih =>
              intro h
              unfold getE at h
              split at h
              · cases h
              · rename_i hn; rw [delE, if_neg hn, ih h]
          refine ⟨_, { w with heap := w.heap.setIfInBounds b (.map es clock) }, h, ?_, mapWrite hw1 (by rw [hdel l hg]; exact he) hlt' hnd'⟩
          simp only [Builtin.delete_, List.getElem?_toArray, List.getElem?_cons_zero, List.getElem?_cons_succ, Sem.run_bind, Sem.run_pure, run_under hm, Result.andThen_ok, MapKept.run_getObj_map hb, MapKept.run_checkKey hd (isKey_int kd n), MapKept.run_findKey hd hf, MapKept.run_setObj_map _ hb]
        | some e =>
          obtain ⟨j, m, hf, hj, _, _, _, _, hers⟩ := (findNow_mI kd n es.toList l 0 he).2 e hg
          rw [Nat.zero_add] at hf
          refine ⟨_, { w with heap := w.heap.setIfInBounds b (.map (es.eraseIdxIfInBounds j) clock) }, h, ?_, mapWrite hw1 (by rw [toList_erase_ hj]; exact hers) hlt' hnd'⟩
          simp only [Builtin.delete_, List.getElem?_toArray, List.getElem?_cons_zero, List.getElem?_cons_succ, Sem.run_bind, Sem.run_pure, run_under hm, Result.andThen_ok, MapKept.run_getObj_map hb, MapKept.run_checkKey hd (isKey_int kd n), MapKept.run_findKey hd hf, MapKept.run_setObj_map _ hb]
      · exact h.elim
    · exact h.elim
  · exact h.elim

theorem run_getObj_it {w : World} {r since last : Nat} {m : Option Nat} {seen : Array Nat} (hb : w.heap[r]? = some (.mapIter m since seen last)) : (getObj r).run P w = .ok (.mapIter m since seen last) w := by
  simp [getObj, Sem.run, hb]
theorem run_setObj_it {w : World} {r since last : Nat} {m : Option Nat} {seen : Array Nat} {o' : Obj} (hb : w.heap[r]? = some (.mapIter m since seen last)) : (setObj r o').run P w = .ok () { w with heap := w.heap.setIfInBounds r o' } := by
  simp [setObj, Sem.run, hb]

theorem vcNxt_does {C : Ctx} (hC : C.ok) {w : World} {own : List Ob} {N : Mp} {r : Nat} {ty : TypeId} {k : VK} (hw : C.inv w own N) (h : vcNxt (GN C.G own N) own N r k) :
    ∃ v own' w', k v own' N ∧ (Instr.next (.pointer (some ⟨r, 0, none⟩)) false ty).run P w = .ok v w' ∧ C.inv w' own' N := by
  obtain ⟨b, since, seen, last, rest, l, clock, ht, hm, hok, hover, hstep⟩ := h
  obtain ⟨o, hb, es, rfl, he, hlt, hnd⟩ := hm w (C.gn hC hw)
  have hw1 : Inv C.w0 (blksOf C.A0) w (.iter r b since seen last :: rest) N := hw.take_ ht
  have hr : w.heap[r]? = some (.mapIter (some b) since seen.toArray last) := hw1.objs _ (List.mem_cons_self ..)
  have hne : r ≠ b := by rintro rfl; rw [hr] at hb; cases hb
  let left := es.filter fun (e : MapEntry) => !seen.toArray.contains e.born
  let old := left.filter (fun (e : MapEntry) => decide (e.born < since))
  let new := left.filter (fun (e : MapEntry) => decide (e.born ≥ since))
  let cands : Array (Option MapEntry) := (if old.isEmpty then #[none] else #[]) ++ (old ++ new).map some
  let q : Question := .mapNext cands.size
  have hguard : ¬ ((!seen.toArray.isEmpty && !es.isEmpty && es.all (fun (e : MapEntry) => decide (e.born ≥ last))) = true) := by
    intro hh
    simp only [Bool.and_eq_true, Bool.not_eq_true', List.isEmpty_toArray] at hh
    obtain ⟨⟨h1, h2⟩, h3⟩ := hh
    rcases hok with hok | hok | ⟨e, hel, hel2⟩
    · subst hok; simp at h1
    · subst hok
      have : es = #[] := by apply Array.ext'; simpa using he
      subst this; simp at h2
    · rw [← he] at hel
      obtain ⟨x, hx, rfl⟩ := List.mem_map.1 hel
      rw [Array.all_eq_true_iff_forall_mem] at h3
      have := h3 x (Array.mem_def.2 hx)
      simp at this hel2
      omega
  have hpos : 0 < cands.size := by
    by_cases ho : old.isEmpty = true
    · simp [cands, ho]; omega
    · have : old ≠ #[] := by simpa using ho
      have : 0 < old.size := Array.size_pos_iff.2 this
      simp [cands, ho]; omega
  -- the step that the tape takes
  obtain ⟨w1, ci, hci, hch, hw2⟩ : ∃ w1 ci, ci < cands.size ∧ (choose q).run P w = .ok ci w1 ∧ ∃ d, w1 = { w with drawn := d } := by
    by_cases hf : q.forced = true
    · refine ⟨w, 0, hpos, ?_, w.drawn, rfl⟩
      rw [run_choose]
      simp [hf]
    · refine ⟨{ w with drawn := w.drawn + 1 }, q.cut (w.tape w.drawn q), ?_, ?_, _, rfl⟩
      · show w.tape w.drawn q % cands.size < cands.size
        exact Nat.mod_lt _ hpos
      · rw [run_choose]
        simp [hf]
  obtain ⟨d, rfl⟩ := hw2
  have hnext : (Instr.next (.pointer (some ⟨r, 0, none⟩)) false ty).run P w = (match cands[ci]? with
      | some (some e) => (do
        setObj r (.mapIter (some b) since (seen.toArray.push e.born) clock)
        pure (.tuple #[.bool true, e.key, e.val]) : Sem Value)
      | some none => pure (.tuple #[.bool false])
      | none => stuck "Next: no such candidate").run P { w with drawn := d } := by
    simp only [Instr.next, Sem.run_bind, Result.andThen_ok, run_getObj_it hr, MapKept.run_getObj_map hb]
    rw [if_neg hguard]
    simp only [Sem.run_bind]
    rw [show (choose (.mapNext _)).run P w = .ok ci { w with drawn := d } from hch]
    rfl
  have hwd : C.inv { w with drawn := d } (.iter r b since seen last :: rest) N := Inv.drawn hw1 d
  have hget : cands[ci]? = some cands[ci] := Array.getElem?_eq_getElem hci
  have hmem : cands[ci] ∈ cands := Array.getElem_mem hci
  have hborn : ∀ x ∈ es, (x.key, x.val, x.born) ∈ l := fun x hx => by rw [← he]; exact List.mem_map.2 ⟨x, Array.mem_def.1 hx, rfl⟩
  cases hc : cands[ci] with
  | none =>
    rw [hc] at hget hmem
    refine ⟨_, _, { w with drawn := d }, hover ?_, by rw [hnext, hget]; rfl, hwd⟩
    have hold : old.isEmpty = true := by
      rcases Array.mem_append.1 hmem with hm | hm
      · by_cases ho : old.isEmpty = true
        · exact ho
        · simp [ho] at hm
      · simp at hm
    intro e hel hes
    rw [← he] at hel
    obtain ⟨x, hx, rfl⟩ := List.mem_map.1 hel
    simp only at hes
    have hoe : old = #[] := by simpa using hold
    by_cases hsn : x.born ∈ seen
    · exact hsn
    · exfalso
      have hxin : x ∈ old := by
        simp only [old, left, Array.mem_filter]
        refine ⟨⟨Array.mem_def.2 hx, ?_⟩, by simpa using hes⟩
        simp [hsn]
      rw [hoe] at hxin
      simp at hxin
  | some e =>
    rw [hc] at hget hmem
    have hin : e ∈ left := by
      rcases Array.mem_append.1 hmem with hm | hm
      · split at hm <;> simp at hm
      · simp only [Array.mem_map, Option.some.injEq, exists_eq_right] at hm
        rcases Array.mem_append.1 hm with hm | hm
        · exact (Array.mem_filter.1 hm).1
        · exact (Array.mem_filter.1 hm).1
    obtain ⟨hes, hns⟩ := Array.mem_filter.1 hin
    have hns' : e.born ∉ seen := by simpa using hns
    refine ⟨_, _, { w with drawn := d, heap := w.heap.setIfInBounds r (.mapIter (some b) since (seen.toArray.push e.born) clock) }, hstep _ (hborn e hes) hns', ?_, ?_⟩
    · rw [hnext, hget]
      simp only [Sem.run_bind]
      rw [run_setObj_it (w := { w with drawn := d }) hr]
      rfl
    · refine Inv.write hwd rfl rfl rfl rfl (by simp) (fun i hi => ?_) ?_
      · exact (MapKept.heap_set (w := { w with drawn := d }) hr).2 i (by simpa [Ob.blks] using hi)
      · show _ = _
        rw [(MapKept.heap_set (w := { w with drawn := d }) hr).1]
        simp

theorem vcEff_does {X : XK} {D : Env} {C : Ctx} (hC : C.ok) {o : Oper} {fm : Fm} {n : Nat} {a : Act} (hf : FmOk D n fm a) {w : World} {own : List Ob} {N : Mp} {k : VK} (hw : C.inv w own N) (h : vcEff X P C.G o.op fm own N k) :
    OpDoes X P C o a w k := by
  unfold vcEff at h
  split at h
  · rename_i e ho
    split at h
    · rename_i i hi
      split at h
      · rename_i z hz
        refine vcNew_does hw h ?_
        simp only [execOp, ho, Instr.alloc, Sem.run_bind, run_zero hi hz, Result.andThen_ok, newVar_run, Sem.run_pure, cellsL_eq]
      · exact h.elim
    · exact h.elim
  · rename_i e x ho
    obtain ⟨v, hv, h⟩ := evK_some h
    have hx : (execOp a.eval o).run P w = .ok (.value (.pointer (some ⟨w.heap.size, 0, none⟩))) (w.alloc (.cells (cellsL v).toArray e)) := by
      simp only [execOp, ho, Instr.box, Sem.run_bind, hf.eval_ hv, Result.andThen_ok, newVar_run, Sem.run_pure, cellsL_eq]
    unfold vcBox at h
    split at h
    · rename_i cs
      intro next Q hk _
      refine Oper.wp_of_run hx (hk _ _ _ _ (h w.heap.size) ?_)
      refine Inv.alloc hw _ _ (by simp [Ob.blks]) ⟨.cells (cellsL (.agg cs)).toArray e, heap_alloc_new w _, [], [], [], (0, 0), rfl, by simp, by simp [cellsL], by simp⟩
    · exact vcNew_does hw h hx
  · rename_i t len parts ho
    exact vcBuildSlice_does hf hw h (by simp only [execOp, ho])
  · rename_i t x y ho
    obtain ⟨va, hva, h⟩ := evK_some h
    obtain ⟨vx, hvx, h⟩ := evK_some h
    have := vcStore_does (X := X) (P := P) (o := o) (a := a) hw h (by simp only [execOp, ho, hf.eval_ hva, hf.eval_ hvx])
    intro next Q hk hpan
    exact this next Q (fun v own' N' w' ⟨e1, e2, e3⟩ hi => by subst e1; subst e2; exact hk _ _ _ _ e3 hi) hpan
  · rename_i t l c ho
    obtain ⟨vl, hvl, h⟩ := evK_some h
    obtain ⟨vc, hvc, h⟩ := evK_some h
    exact vcMakeSlice_does hw h (by simp only [execOp, ho, hf.eval_ hvl, hf.eval_ hvc])
  · rename_i f args _ ho
    obtain ⟨vf, hvf, h⟩ := evK_some h
    split at h
    · rename_i fid first cap
      split at h
      · rename_i vs hvs
        have e := hf.evals hvs
        refine vcCallF_does hC hw h ?_
        have e' : args.map a.eval = vs.toArray := by apply Array.ext'; simpa using e
        simp only [execOp, ho, resolve, hf.eval_ hvf, Deferred.ofValue, e']
        simp [invoke]
        congr 1
        apply Array.ext'
        simp
      · exact h.elim
    · exact h.elim
  · rename_i args argTypes ho
    split at h
    · rename_i s x t t' hvs hts
      split at h
      · rename_i hb
        have htt : t = t' := Nat.eq_of_beq_eq_true hb
        subst htt
        have e := hf.evals hvs
        refine vcAppend_does hC hw h ?_
        have e' : args.map a.eval = #[s, x] := by apply Array.ext'; simpa using e
        have e2 : argTypes = #[t, t] := by apply Array.ext'; simpa using hts
        simp only [execOp, ho, resolve, invoke, builtin, e', e2]
        rfl
      · have e := hf.evals hvs
        have e' : args.map a.eval = #[s, x] := by apply Array.ext'; simpa using e
        have e2 : argTypes = #[t, t'] := by apply Array.ext'; simpa using hts
        split at h
        · refine vcAppendS_does hw h ?_
          simp only [execOp, ho, resolve, invoke, builtin, e', e2]
          rfl
        · refine vcAppendZ_does hC hw h ?_
          simp only [execOp, ho, resolve, invoke, builtin, e', e2]
          rfl
    · exact h.elim
  · rename_i args argTypes ho
    split at h
    · rename_i s x t t' hvs hts
      split at h
      · rename_i hb
        have htt : t = t' := Nat.eq_of_beq_eq_true hb
        subst htt
        have e := hf.evals hvs
        refine vcCopy_does hC hw h ?_
        have e' : args.map a.eval = #[s, x] := by apply Array.ext'; simpa using e
        have e2 : argTypes = #[t, t] := by apply Array.ext'; simpa using hts
        simp only [execOp, ho, resolve, invoke, builtin, e', e2]
        rfl
      · exact h.elim
    · exact h.elim
  · rename_i args argTypes ho
    split at h
    · rename_i s t hvs hts
      obtain ⟨own', w', hk', hr, hw'⟩ := vcClear_does (P := P) (ty := o.type) hw h
      have e := hf.evals hvs
      have e' : args.map a.eval = #[s] := by apply Array.ext'; simpa using e
      have e2 : argTypes = #[t] := by apply Array.ext'; simpa using hts
      intro next Q hk _
      refine Oper.wp_of_run ?_ (hk _ _ _ _ hk' hw')
      simp only [execOp, ho, resolve, invoke, builtin, e', e2, Sem.run_bind, Sem.run_pure, Result.andThen_ok, hr]
    · exact h.elim
  · rename_i args argTypes ho
    split at h
    · rename_i m x t ts hvs hts
      obtain ⟨own', w', hk', hr, hw'⟩ := vcDelete_does (P := P) (ty := o.type) (ts := ts) hw h
      have e := hf.evals hvs
      have e' : args.map a.eval = #[m, x] := by apply Array.ext'; simpa using e
      have e2 : argTypes = (t :: ts).toArray := by apply Array.ext'; simpa using hts
      intro next Q hk _
      refine Oper.wp_of_run ?_ (hk _ _ _ _ hk' hw')
      simp only [execOp, ho, resolve, invoke, builtin, e', e2, Sem.run_bind, Sem.run_pure, Result.andThen_ok, hr]
    · exact h.elim
  · rename_i t hh ho
    have new : ∀ (h : ∀ b : Nat, k (.map (some b)) (.map b [] 0 :: own) N), (execOp a.eval o).run P w = .ok (.value (.map (some w.heap.size))) (w.alloc (.map #[] 0)) → OpDoes X P C o a w k := by
      intro h hr next Q hk _
      refine Oper.wp_of_run hr (hk _ _ _ _ (h w.heap.size) ?_)
      exact Inv.alloc hw _ _ rfl ⟨_, heap_alloc_new w _, #[], rfl, rfl, by simp, by simp⟩
    split at h
    · exact new h (by simp only [execOp, ho, Option.map_none, Instr.makeMap, Sem.run_bind]; rfl)
    · rename_i hh
      obtain ⟨v, hv, h⟩ := evK_some h
      split at h
      · rename_i kd n kt et hu
        refine new h ?_
        simp only [execOp, ho, Option.map_some, hf.eval_ hv, Instr.makeMap, Sem.run_bind, run_under hu, Result.andThen_ok, asInt, asIntOf, Sem.run_pure]
        rfl
      · exact h.elim
  · rename_i t m key x ho
    obtain ⟨vm, hvm, h⟩ := evK_some h
    obtain ⟨vk, hvk, h⟩ := evK_some h
    obtain ⟨vx, hvx, h⟩ := evK_some h
    obtain ⟨own', w', hk', hr, hw'⟩ := vcMapUpdate_does (P := P) hw h
    intro next Q hk _
    exact Oper.wp_of_skip (by simp only [execOp, ho, hf.eval_ hvm, hf.eval_ hvk, hf.eval_ hvx, Sem.run_bind, hr, Result.andThen_ok, Sem.run_pure]) (hk _ _ _ _ hk' hw')
  · rename_i t m key x ho
    obtain ⟨vm, hvm, h⟩ := evK_some h
    obtain ⟨vk, hvk, h⟩ := evK_some h
    obtain ⟨vx, hvx, h⟩ := evK_some h
    obtain ⟨own', w', hk', hr, hw'⟩ := vcMapUpdate_does (P := P) hw h
    intro next Q hk _
    exact Oper.wp_of_skip (by simp only [execOp, ho, hf.eval_ hvm, hf.eval_ hvk, hf.eval_ hvx, Sem.run_bind, hr, Result.andThen_ok, Sem.run_pure]) (hk _ _ _ _ hk' hw')
  · rename_i t m key ho
    obtain ⟨vm, hvm, h⟩ := evK_some h
    obtain ⟨vk, hvk, h⟩ := evK_some h
    obtain ⟨v, own', w', hk', hr, hw'⟩ := vcMapEntry_does (P := P) hw h
    intro next Q hk _
    exact Oper.wp_of_run (by simp only [execOp, ho, hf.eval_ hvm, hf.eval_ hvk, Sem.run_bind, hr, Result.andThen_ok, Sem.run_pure]) (hk _ _ _ _ hk' hw')
  · rename_i t m s x ho
    obtain ⟨vm, hvm, h⟩ := evK_some h
    obtain ⟨vs, hvs, h⟩ := evK_some h
    obtain ⟨vx, hvx, h⟩ := evK_some h
    obtain ⟨own', w', hk', hr, hw'⟩ := vcEntryStore_does (P := P) (t := t) hw h
    intro next Q hk _
    exact Oper.wp_of_skip (by simp only [execOp, ho, hf.eval_ hvm, hf.eval_ hvs, hf.eval_ hvx, Sem.run_bind, hr, Result.andThen_ok, Sem.run_pure]) (hk _ _ _ _ hk' hw')
  · rename_i t x ho
    obtain ⟨v, hv, h⟩ := evK_some h
    split at h
    · rename_i b kt et hu
      obtain ⟨l, clock, hm, h⟩ := h
      obtain ⟨ob, hb, es, rfl, he, hlt, hnd⟩ := hm w (C.gn hC hw)
      intro next Q hk _
      refine Oper.wp_of_run (v := .pointer (some ⟨w.heap.size, 0, none⟩)) (w' := w.alloc (.mapIter (some b) clock #[] clock)) ?_ (hk _ _ _ _ (h w.heap.size) ?_)
      · simp only [execOp, ho, hf.eval_ hv, Instr.range, Sem.run_bind, run_under hu, Result.andThen_ok, MapKept.run_getObj_map hb, Sem.run_pure]
        rfl
      · exact Inv.alloc hw _ _ rfl (heap_alloc_new w _)
    · exact h.elim
  · rename_i x isStr ho
    obtain ⟨v, hv, h⟩ := evK_some h
    split at h
    · rename_i r
      obtain ⟨v, own', w', hk', hr, hw'⟩ := vcNxt_does (P := P) (ty := o.type) hC hw h
      intro next Q hk _
      exact Oper.wp_of_run (by simp only [execOp, ho, hf.eval_ hv, Sem.run_bind, hr, Result.andThen_ok, Sem.run_pure]) (hk _ _ _ _ hk' hw')
    · exact h.elim
  · rename_i x ho
    obtain ⟨v, hv, h⟩ := evK_some h
    split at h
    · rename_i t u
      intro next Q _ hpan
      unfold Oper.wp
      simp only [execOp, ho, hf.eval_ hv, Instr.panic]
      exact hpan _ _ _ _ h hw
    · exact h.elim
  · exact h.elim

theorem vcOp_does {X : XK} {D : Env} {C : Ctx} (hC : C.ok) {o : Oper} {fm : Fm} {n : Nat} {a : Act} (hf : FmOk D n fm a) {w : World} {own : List Ob} {N : Mp} {k : VK} (hw : C.inv w own N) (h : vcOp X P C.G o.op fm own N k) :
    OpDoes X P C o a w k := by
  have pure_ : vcPure P (GN C.G own N) o.op fm (fun v => k v own N) → OpDoes X P C o a w k := fun h => by
    obtain ⟨v, hk, hr⟩ := vcPure_gives ⟨w, C.gn hC hw⟩ hf h
    exact fun next Q hn _ => Oper.wp_of_run (hr w (C.gn hC hw)) (hn _ _ _ _ hk hw)
  unfold vcOp at h
  split at h
  · split at h
    · rename_i s d x ho
      split at h
      · rename_i e hd
        obtain ⟨v, hv, h⟩ := evK_some h
        split at h
        · rename_i bs hs he
          intro next Q hn _
          have hh := h
          clear h
          unfold vcStrBytes at hh
          split at hh
          case h_2 => exact hh.elim
          rename_i hbt
          have hee : e = 5 := Nat.eq_of_beq_eq_true hbt
          rw [← hee] at hh
          have h := hh
          have hcap : bs.size ≤ grownCap w bs.size 0 e := Nat.le_add_right _ _
          have hlen : bs.data.toList.length = bs.size := rfl
          refine Oper.wp_of_run (v := .slice (some ⟨w.heap.size, 0, none⟩) bs.size (grownCap w bs.size 0 e))
            (w' := w.drew.alloc (.cells (bytesRow bs (grownCap w bs.size 0 e)) e ((bytesRow bs (grownCap w bs.size 0 e)).size, (bytesRow bs (grownCap w bs.size 0 e)).size + 1)))
            (by simp only [execOp, ho, hf.eval_ hv, Sem.run_bind, run_bytes_of_string w s d e bs hs hd he, Result.andThen_ok, Sem.run_pure]) (hn _ _ _ _ (h w.heap.size _ hcap) ?_)
          have hsz : (bytesRow bs (grownCap w bs.size 0 e)).size = grownCap w bs.size 0 e := by
            have : bs.data.size = bs.size := rfl
            simp [bytesRow, this]; omega
          refine Inv.alloc (Inv.drawn hw (w.drawn + 1)) _ _ (by simp [Ob.blks]) (Ob.sl_new (sp := List.replicate (grownCap w bs.size 0 e - bs.size) (.int .u8 0)) (fz := ((bytesRow bs (grownCap w bs.size 0 e)).size, (bytesRow bs (grownCap w bs.size 0 e)).size + 1)) ?_ ((heap_alloc_new _ _).trans (congrArg some ?_)) ?_)
          · rw [Bs, List.length_map, hlen]; simp; omega
          · congr 1
            apply Array.ext'
            simp [bytesRow, Bs]
            exact fun _ _ => rfl
          · rw [hsz]; exact .inr ⟨by omega, hee⟩
        · rename_i A n' c e2 hs he
          split at h
          case h_2 => exact h.elim
          rename_i hsd
          have hsd : s = d := Nat.eq_of_beq_eq_true hsd
          obtain ⟨ad, cap, size, xs, rest, rfl, ht, hk⟩ := h
          intro next Q hn _
          have hw1 : Inv C.w0 (blksOf C.A0) w (.sl (some ad) cap 5 size xs :: rest) N := hw.take_ ht
          obtain ⟨h2, ob, hob, pre, sp, post, fz, hpre, hlen, rfl, hfz⟩ := hw1.objs _ (List.mem_cons_self ..)
          generalize hcs : pre ++ (xs ++ (sp ++ post)) = cs at *
          have hshape : w.shape? ad.block = some (5, cs.toArray.size) := by unfold World.shape?; rw [hob]
          refine Oper.wp_of_run (v := .slice (some ad) n' c) (w' := w.freeze ⟨ad.block, cs.toArray.size, none⟩ 1) ?_ (hn _ _ _ _ hk ?_)
          · subst hsd
            obtain rfl : e2 = e := by rw [hs] at hd; cases hd; rfl
            simp only [execOp, ho, hf.eval_ hv, convert, Sem.run_bind, run_under hs, run_under he, Result.andThen_ok, beq_self_eq_true, markStringish]
            simp [hshape]
          · have hheap : (w.freeze ⟨ad.block, cs.toArray.size, none⟩ 1).heap = w.heap.modify ad.block fun
                | .cells c elem (lo, hi) => .cells c elem (if lo == hi then (cs.toArray.size, cs.toArray.size + 1) else (min lo cs.toArray.size, max hi (cs.toArray.size + 1)))
                | o => o := rfl
            have hm : ad.off + cap * size ≤ cs.toArray.size := by rw [← hcs]; simp; omega
            obtain ⟨lo, hi⟩ := fz
            refine Inv.write hw1 rfl rfl rfl rfl (by rw [hheap]; simp) (fun j hj => ?_) ⟨h2, .cells cs.toArray 5 (if lo == hi then (cs.toArray.size, cs.toArray.size + 1) else (min lo cs.toArray.size, max hi (cs.toArray.size + 1))), ?_, pre, sp, post, _, hpre, hlen, by rw [hcs], ?_⟩
            · rw [hheap, Array.getElem?_modify, if_neg (by simp only [Ob.blks, List.mem_singleton] at hj; exact fun e => hj e.symm)]
            · rw [hheap, Array.getElem?_modify, if_pos rfl, hob]; rfl
            · simp only at hfz
              split
              · exact .inr ⟨hm, rfl⟩
              · rename_i hne
                have hne : lo ≠ hi := by simpa using hne
                refine .inr ⟨?_, rfl⟩
                show ad.off + cap * size ≤ min lo cs.toArray.size
                omega
        · exact h.elim
      · exact pure_ h
    · exact pure_ h
  · exact vcEff_does hC hf hw h

def yb : Option Value → Option Bool
  | some (.bool b) => some b
  | _ => none
theorem guardSlot_yielded {all : List Oper} {j t : Nat} (h : guardSlot all j = some t) (tmps : Array Value) : yielded all.toArray tmps j = yb tmps[t]? := by
  unfold guardSlot at h
  split at h
  · rename_i o ho
    simp only [yielded, List.getElem?_toArray, ho, Option.bind_some, h]
    rfl
  · cases h

theorem vcOps_does {X : XK} {D : Env} {C : Ctx} (hC : C.ok) {n : Nat} {all : List Oper} {Q : Exit → Act → World → Prop} {K : SK} (hK : ∀ fm own N a w, K fm own N → FmOk D n fm a → C.inv w own N → Q .normal a w) (hX : ∀ c own N a w, X c own N → Kept D a → C.inv w own N → Q (.panic c) a w) :
    ∀ (l : List Oper), opsOk D.lo n l = true → ∀ {fm : Fm} {own : List Ob} {N : Mp} {a : Act} {w : World}, FmOk D n fm a → C.inv w own N → vcOps X P C.G all l K fm own N → wpList P all.toArray Q l a w
  | [], _, fm, own, N, a, w, hf, hw, h => hK _ _ _ _ _ h hf hw
  | o :: r, hok, fm, own, N, a, w, hf, hw, h => by
    simp only [opsOk, List.all_cons, Bool.and_eq_true] at hok
    have hd : ∀ d, o.dst = some d → D.lo ≤ d ∧ d < n := fun d e => by
      have := hok.1
      rw [e] at this
      simpa using this
    have ih := fun {fm own N a w} => vcOps_does hC (all := all) (Q := Q) hK hX r (by simpa [opsOk] using hok.2) (fm := fm) (own := own) (N := N) (a := a) (w := w)
    have run : ∀ {fm : Fm}, FmOk D n fm a → Region.wanted o (yielded all.toArray a.tmps) = true → (vcOp X P C.G o.op fm own N fun v own N => putK o.dst v fm fun fm => vcOps X P C.G all r K fm own N) → wpList P all.toArray Q (o :: r) a w := by
      intro fm hf hw' h
      unfold wpList
      rw [if_pos hw']
      exact .inl (vcOp_does hC hf hw h _ _ (fun v own' N' w' hk hi => ih (hf.put_ o.dst hd v) hi (by rw [putK_eq] at hk; exact hk)) (fun c own' N' w' hx hi => hX _ _ _ _ _ hx hf.defers hi))
    have skip : ∀ {fm : Fm}, FmOk D n fm a → Region.wanted o (yielded all.toArray a.tmps) = false → (putK o.dst undef fm fun fm => vcOps X P C.G all r K fm own N) → wpList P all.toArray Q (o :: r) a w := by
      intro fm hf hw' h
      unfold wpList
      rw [if_neg (by simp [hw'])]
      rw [putK_eq] at h
      exact ih (hf.put_ o.dst hd _) hw h
    change vcOpStep X P C.G all o (vcOps X P C.G all r K) fm own N at h
    unfold vcOpStep at h
    split at h
    · rename_i hg
      exact run hf (by simp [Region.wanted, hg]) h
    · rename_i j want hg
      split at h
      · rename_i t ht
        have hy := guardSlot_yielded ht a.tmps
        split at h
        · rename_i b hb
          have hget := hf.get t _ hb
          rw [hget] at hy
          have known : ∀ {X : Fm → Prop}, setK t (.bool b) fm X → X fm := fun h => by rw [setK_eq, setL_same hb] at h; exact h
          cases b with
          | true =>
            cases want with
            | true => exact run hf (by simp [Region.wanted, hg, hy, yb]) (known h)
            | false => exact skip hf (by simp [Region.wanted, hg, hy, yb]) (known h)
          | false =>
            cases want with
            | true => exact skip hf (by simp [Region.wanted, hg, hy, yb]) (known h)
            | false => exact run hf (by simp [Region.wanted, hg, hy, yb]) (known h)
        · rename_i vs hb
          have hget := hf.get t _ hb
          rw [hget] at hy
          exact skip hf (by simp [Region.wanted, hg, hy, yb]) h
        · exact h.elim
      · exact h.elim

theorem vcQuiet_does {E : Env} {n : Nat} {all : List Oper} {Q : Act → Prop} {K : Fm → Prop} {D : World → Prop} (hD : ∃ w, D w) (hDM : ∀ w, D w → M w) (hK : ∀ fm a, K fm → FmOk E n fm a → Q a) :
    ∀ (l : List Oper), opsOk E.lo n l = true → ∀ {fm : Fm} {a : Act}, FmOk E n fm a → vcQuiet P M all l K fm → wpQuiet P all.toArray D Q l a
  | [], _, fm, a, hf, h => hK _ _ h hf
  | o :: r, hok, fm, a, hf, h => by
    simp only [opsOk, List.all_cons, Bool.and_eq_true] at hok
    have hd : ∀ d, o.dst = some d → E.lo ≤ d ∧ d < n := fun d e => by
      have := hok.1
      rw [e] at this
      simpa using this
    have ih := fun {fm a} => vcQuiet_does hD hDM (all := all) (Q := Q) hK r (by simpa [opsOk] using hok.2) (fm := fm) (a := a)
    have hM : ∃ w, M w := hD.imp hDM
    have run : ∀ {fm : Fm}, FmOk E n fm a → Region.wanted o (yielded all.toArray a.tmps) = true → (ifPure o.op <| vcPure P M o.op fm fun v => putK o.dst v fm (vcQuiet P M all r K)) → wpQuiet P all.toArray D Q (o :: r) a := by
      intro fm hf hw' h
      unfold wpQuiet
      rw [if_pos hw']
      unfold ifPure at h
      split at h
      case h_2 => exact h.elim
      obtain ⟨v, hk, hr⟩ := vcPure_gives hM hf h
      refine ⟨v, fun w hw => ?_, ih (hf.put_ o.dst hd v) (by rw [putK_eq] at hk; exact hk)⟩
      unfold Oper.quietAt
      rw [hr w (hDM w hw)]
      exact ⟨rfl, rfl⟩
    have skip : ∀ {fm : Fm}, FmOk E n fm a → Region.wanted o (yielded all.toArray a.tmps) = false → (putK o.dst undef fm (vcQuiet P M all r K)) → wpQuiet P all.toArray D Q (o :: r) a := by
      intro fm hf hw' h
      unfold wpQuiet
      rw [if_neg (by simp [hw'])]
      rw [putK_eq] at h
      exact ih (hf.put_ o.dst hd _) h
    change vcQuietStep P M all o (vcQuiet P M all r K) fm at h
    unfold vcQuietStep at h
    split at h
    · rename_i hg
      exact run hf (by simp [Region.wanted, hg]) h
    · rename_i j want hg
      split at h
      · rename_i t ht
        have hy := guardSlot_yielded ht a.tmps
        split at h
        · rename_i b hb
          have hget := hf.get t _ hb
          rw [hget] at hy
          have known : ∀ {X : Fm → Prop}, setK t (.bool b) fm X → X fm := fun h => by rw [setK_eq, setL_same hb] at h; exact h
          cases b with
          | true =>
            cases want with
            | true => exact run hf (by simp [Region.wanted, hg, hy, yb]) (known h)
            | false => exact skip hf (by simp [Region.wanted, hg, hy, yb]) (known h)
          | false =>
            cases want with
            | true => exact skip hf (by simp [Region.wanted, hg, hy, yb]) (known h)
            | false => exact run hf (by simp [Region.wanted, hg, hy, yb]) (known h)
        · rename_i vs hb
          have hget := hf.get t _ hb
          rw [hget] at hy
          exact skip hf (by simp [Region.wanted, hg, hy, yb]) h
        · exact h.elim
      · exact h.elim

theorem FmOk.le {D : Env} {n : Nat} {fm : Fm} {a : Act} (hf : FmOk D n fm a) : ∀ {f : Fm}, fmLe f fm → FmOk D n f a
  | [], _ => ⟨hf.size, hf.defers, fun _ _ h => by cases h⟩
  | (t, v) :: r, h => by
    have hr := FmOk.le hf h.2
    refine ⟨hf.size, hf.defers, fun s u hs => ?_⟩
    unfold look at hs
    split at hs
    · rename_i hb
      have : t = s := Nat.eq_of_beq_eq_true hb
      subst this
      cases hs
      exact hf.get _ _ h.1
    · exact hr.get s u hs

theorem Inv.pick {w0 : World} {A0 : List Nat} {w : World} {own s : List Ob} {N N' : Mp} (h : Inv w0 A0 w own N) (hp : ∃ rest, Pick s own rest) (hN : Ent N N') : Inv w0 A0 w s N' := by
  obtain ⟨rest, hp⟩ := hp
  exact (h.picked hp).drop fun w hw _ => hN w hw

/-! ### Regions whose order is open -/
/-- One operation waits for another. -/
inductive Waits (ops : Array Oper) : Nat → Nat → Prop
  | one {i : Nat} {oi : Oper} {e : Edge} (hi : ops[i]? = some oi) (he : e ∈ oi.after) (hb : Region.binds .any e = true) : Waits ops i e.on
  | more {i k : Nat} {oi : Oper} {e : Edge} (hi : ops[i]? = some oi) (he : e ∈ oi.after) (hb : Region.binds .any e = true) (h : Waits ops e.on k) : Waits ops i k
theorem Waits.trans {ops : Array Oper} {i j k : Nat} (h : Waits ops i j) (h' : Waits ops j k) : Waits ops i k := by
  induction h with
  | one hi he hb => exact .more hi he hb h'
  | more hi he hb _ ih => exact .more hi he hb (ih h')
/-- What is listed has all that it waits for listed. -/
def Closed (ops : Array Oper) (listed : Array Bool) : Prop := ∀ k ok, ops[k]? = some ok → listed.getD k false = true → ∀ e ∈ ok.after, Region.binds .any e = true → listed.getD e.on false = true
theorem Closed.waits {ops : Array Oper} {listed : Array Bool} (hc : Closed ops listed) {i k : Nat} (h : Waits ops i k) (hi : ∀ oi, ops[i]? = some oi → ∀ e ∈ oi.after, Region.binds .any e = true → listed.getD e.on false = true) : listed.getD k false = true := by
  induction h with
  | one h1 he hb => exact hi _ h1 _ he hb
  | more h1 he hb _ ih => exact ih fun oe hoe => hc _ oe hoe (hi _ h1 _ he hb)
theorem Closed.set {ops : Array Oper} {listed : Array Bool} (hc : Closed ops listed) {i : Nat} (hi : ∀ oi, ops[i]? = some oi → ∀ e ∈ oi.after, Region.binds .any e = true → listed.getD e.on false = true) : Closed ops (listed.setIfInBounds i true) := by
  have mono : ∀ k, listed.getD k false = true → (listed.setIfInBounds i true).getD k false = true := by
    intro k hk
    by_cases e : i = k
    · subst e
      rcases Nat.lt_or_ge i listed.size with h' | h'
      · simp [h']
      · simp [Array.getElem?_eq_none h'] at hk
    · rw [getD_set_ne false e]; exact hk
  intro k ok hok hk e he hb
  refine mono _ ?_
  by_cases ek : i = k
  · subst ek; exact hi ok hok e he hb
  · rw [getD_set_ne false ek] at hk; exact hc k ok hok hk e he hb
theorem Closed.none {ops : Array Oper} (n : Nat) : Closed ops (Array.replicate n false) := by
  intro k ok _ hk
  rcases Nat.lt_or_ge k n with h | h
  · simp [h] at hk
  · simp [Array.getElem?_eq_none (xs := Array.replicate n false) (i := k) (by simpa using h)] at hk
theorem edgeMask_has : ∀ (l : List Edge) (m k : Nat), (edgeMask l m).testBit k = true → m.testBit k = true ∨ ∃ e ∈ l, Region.binds .any e = true ∧ e.on = k
  | [], m, k, h => .inl h
  | e :: r, m, k, h => by
    have h' : (edgeMask r (bif Region.binds .any e then m ||| 1 <<< e.on else m)).testBit k = true := h
    rcases edgeMask_has r _ k h' with h1 | ⟨e', he', hb, ho⟩
    · cases hb : Region.binds .any e with
      | true =>
        rw [hb, cond_true, Nat.testBit_or, Bool.or_eq_true] at h1
        rcases h1 with h1 | h1
        · exact .inl h1
        · refine .inr ⟨e, List.mem_cons_self .., hb, ?_⟩
          rw [Nat.one_shiftLeft, Nat.testBit_two_pow] at h1
          simpa using h1
      | false => rw [hb] at h1; exact .inl h1
    · exact .inr ⟨e', List.mem_cons_of_mem _ he', hb, ho⟩
theorem ancMask_has {ops : Array Oper} {i : Nat} : ∀ (n m : Nat), (∀ k, m.testBit k = true → k = i ∨ Waits ops i k) → ∀ k, (ancMask ops n m).testBit k = true → k = i ∨ Waits ops i k
  | 0, m, hm, k, h => hm k h
  | j + 1, m, hm, k, h => by
    refine ancMask_has j _ ?_ k h
    intro k hk
    cases hj : m.testBit j with
    | false => rw [hj] at hk; exact hm k hk
    | true =>
      rw [hj, cond_true] at hk
      split at hk
      · rename_i o ho
        rcases edgeMask_has _ _ _ hk with h1 | ⟨e, he, hb, rfl⟩
        · exact hm k h1
        · refine .inr ?_
          have he' : e ∈ o.after := by simpa using he
          rcases hm j hj with rfl | hw
          · exact .one ho he' hb
          · exact hw.trans (.one ho he' hb)
      · exact hm k hk
theorem aliveS_of {ops : Array Oper} {seen i k : Nat} (hk : k < ops.size) (hne : k ≠ i) (hs : seen.testBit k = true) (hw : ¬ Waits ops i k) : aliveS ops seen i k = true := by
  unfold aliveS
  have h1 : Nat.blt k ops.size = true := Nat.ble_eq_true_of_le hk
  have h2 : Nat.beq k i = false := by
    cases h : Nat.beq k i with
    | false => rfl
    | true => exact absurd (Nat.eq_of_beq_eq_true h) hne
  rw [h1, h2, hs]
  cases h : (ancMask ops ops.size (1 <<< i)).testBit k with
  | false => rfl
  | true =>
    rcases ancMask_has (i := i) ops.size (1 <<< i) (fun j hj => .inl (by rw [Nat.one_shiftLeft, Nat.testBit_two_pow] at hj; simpa [eq_comm] using hj)) k h with h'' | h''
    · exact absurd h'' hne
    · exact absurd h'' hw
def Seen (listed : Array Bool) (seen : Nat) : Prop := ∀ k, listed.getD k false = true → seen.testBit k = true
theorem Seen.set {listed : Array Bool} {seen : Nat} (h : Seen listed seen) (i : Nat) : Seen (listed.setIfInBounds i true) (seen ||| 1 <<< i) := by
  intro k hk
  rw [Nat.testBit_or, Bool.or_eq_true]
  by_cases hki : i = k
  · subst hki; right; rw [Nat.one_shiftLeft]; exact Nat.testBit_two_pow_self
  · left
    rw [getD_set_ne false hki] at hk
    exact h k hk
/-- Whatever order is picked from here on; what an operation read stays so until one comes that waits for it. -/
def wpAnyG (P : Program) (ops : Array Oper) (Q : Exit → Act → World → Prop) : Nat → (Nat → World → Prop) → Array Bool → Act → World → Prop
  | 0, _, listed, a, w => Region.ready .any ops listed = [] ∧ Q .normal a w
  | fuel + 1, S, listed, a, w =>
    (Region.ready .any ops listed = [] → Q .normal a w) ∧
    ∀ i ∈ Region.ready .any ops listed, wpOp P ops Q i (fun a' w' => ∃ S' : Nat → World → Prop, (∀ k, listed.getD k false = true → ¬ Waits ops i k → ∀ w, S' k w → S k w) ∧ (∀ k, S' k w') ∧ wpAnyG P ops Q fuel S' (listed.setIfInBounds i true) a' w') a w

theorem wpAny_of_G {ops : Array Oper} {Q : Exit → Act → World → Prop} : ∀ (fuel : Nat) (S : Nat → World → Prop) (listed : Array Bool) (a : Act) (w : World), wpAnyG P ops Q fuel S listed a w → wpAny P .any ops Q fuel listed a w
  | 0, _, _, _, _, h => h
  | fuel + 1, _, _, _, _, h => ⟨h.1, fun i hi => wpOp_mono (fun a' w' ⟨S', _, _, h'⟩ => wpAny_of_G fuel S' _ a' w' h') (h.2 i hi)⟩

theorem yieldsIf_less {ops : Array Oper} {S S' : World → Prop} {o : Oper} {v : Value} {a : Act} (hy : YieldsIf P ops S o v a) (h : ∀ w, S' w → S w) : YieldsIf P ops S' o v a :=
  hy.imp (fun ⟨hw, hv⟩ => ⟨hw, fun w hS => hv w (h w hS)⟩) id

theorem wpAnyG_first {ops : Array Oper} {Q : Exit → Act → World → Prop} {i : Nat} {oi : Oper} {v : Value} (hi : ops[i]? = some oi) (hsel : ∀ (j : Nat) (o : Oper) cs b, ops[j]? = some o → o.op ≠ .select cs b)
    (hQ : ∀ c a w, Q (.panic c) (a.put oi.dst v) w → Q (.panic c) a w) :
    ∀ (fuel : Nat) (S : Nat → World → Prop) (listed : Array Bool) (a : Act) (w : World), Closed ops listed →
      (∀ j oj, ops[j]? = some oj → j ≠ i → listed.getD j true = false → (∀ e ∈ oj.after, Region.binds .any e = true → e.on ≠ i) → oi.apart ops oj = true) →
      i ∈ Region.ready .any ops listed → YieldsIf P ops (S i) oi v a → (∀ k, S k w) →
      wpAnyG P ops Q fuel S (listed.setIfInBounds i true) (a.put oi.dst v) w → wpAnyG P ops Q (fuel + 1) S listed a w := by
  intro fuel
  induction fuel with
  | zero =>
    intro S listed a w _ _ hr hy hS H
    refine ⟨fun h => (by rw [h] at hr; cases hr), fun j hj => ?_⟩
    by_cases hji : j = i
    · subst hji; exact hy.wpOp hi (hS j) ⟨S, fun _ _ _ _ h => h, hS, H⟩
    · have := ready_mono hj hji
      rw [H.1] at this
      cases this
  | succ fuel ih =>
    intro S listed a w hcl hfree hr hy hS H
    refine ⟨fun h => (by rw [h] at hr; cases hr), fun j hj => ?_⟩
    by_cases hji : j = i
    · subst hji; exact hy.wpOp hi (hS j) ⟨S, fun _ _ _ _ h => h, hS, H⟩
    · have h1 := H.2 j (ready_mono hj hji)
      obtain ⟨hjun, oj, hoj, hall⟩ := mem_ready.1 hj
      have hnot : ∀ e ∈ oj.after, Region.binds .any e = true → e.on ≠ i := fun e he hb heq => by
        have h1 := hall e he hb
        have h0 := (mem_ready.1 hr).1
        rw [heq] at h1
        rcases Nat.lt_or_ge i listed.size with h' | h'
        · simp [h'] at h0 h1; rw [h0] at h1; cases h1
        · simp [Array.getElem?_eq_none h'] at h1
      have h2 := wpOp_putIf hoj (hfree j oj hoj hji hjun hnot) (fun cs b => hsel i oi cs b hi) (fun cs b => hsel j oj cs b hoj) hQ hy h1
      have hfree' : ∀ k ok, ops[k]? = some ok → k ≠ i → (listed.setIfInBounds j true).getD k true = false →
          (∀ e ∈ ok.after, Region.binds .any e = true → e.on ≠ i) → oi.apart ops ok = true := fun k ok hk hki hun hno => by
        refine hfree k ok hk hki ?_ hno
        by_cases hjk : j = k
        · subst hjk; exact hjun
        · rw [getD_set_ne true hjk] at hun; exact hun
      refine wpOp_mono (fun a' w' h3 => ?_) h2
      obtain ⟨hy', S', hsub', hS', hG⟩ := h3
      have hlt : i < listed.size := by
        have h0 := (mem_ready.1 hr).1
        rcases Nat.lt_or_ge i listed.size with h' | h'
        · exact h'
        · simp [Array.getElem?_eq_none h'] at h0
      have hnw : ¬ Waits ops j i := fun ht => by
        have hin := hcl.waits ht fun oj' hoj' => by rw [hoj] at hoj'; cases hoj'; exact hall
        have h0 := (mem_ready.1 hr).1
        simp [hlt] at h0 hin
        rw [h0] at hin; cases hin
      have hsub : ∀ w, S' i w → S i w := hsub' i (by simp [hlt]) hnw
      have hsub2 : ∀ k, listed.getD k false = true → ¬ Waits ops j k → ∀ w, S' k w → S k w := fun k hk => hsub' k (by
        by_cases hik : i = k
        · subst hik; simp [hlt]
        · rw [getD_set_ne false hik]; exact hk)
      refine ⟨S', hsub2, hS', ih S' (listed.setIfInBounds j true) a' w' (hcl.set fun oj' hoj' => by rw [hoj] at hoj'; cases hoj'; exact hall) hfree' (ready_mono hr (Ne.symm hji)) (yieldsIf_less hy' hsub) hS' ?_⟩
      rw [Array.setIfInBounds_comm _ _ hji]
      exact hG

theorem wpAnyG_nil {ops : Array Oper} {Q : Exit → Act → World → Prop} {S : Nat → World → Prop} {listed : Array Bool} {a : Act} {w : World} (h : Region.ready .any ops listed = []) (hQ : Q .normal a w) : ∀ fuel, wpAnyG P ops Q fuel S listed a w
  | 0 => ⟨h, hQ⟩
  | _ + 1 => ⟨fun _ => hQ, fun i hi => by rw [h] at hi; cases hi⟩
theorem isEff_true {ops : Array Oper} {i : Nat} (h : isEffAt ops i = true) {o : Oper} (ho : ops[i]? = some o) : isPure o.op = false := by
  unfold isEffAt at h; rw [ho] at h; simpa using h
theorem isEff_false {ops : Array Oper} {i : Nat} (h : isEffAt ops i = false) {o : Oper} (ho : ops[i]? = some o) : isPure o.op = true := by
  unfold isEffAt at h; rw [ho] at h; simpa using h

/-- One step: the operation waits to be run, or is passed over. -/
theorem vcMixStep_cases {X : XK} {D : Env} {C : Ctx} {n : Nat} {all : List Oper} {al : Nat → Bool} {i : Nat} {S : Nat → Mp} {next : (Nat → Mp) → SK} {fm : Fm} {own : List Ob} {N : Mp} {a : Act} (hf : FmOk D n fm a) (h : vcMixStep X P C.G all al i S next fm own N) :
    ∃ o, all.toArray[i]? = some o ∧ ∃ fm', FmOk D n fm' a ∧
      ((Region.wanted o (yielded all.toArray a.tmps) = true ∧ vcMixRun X P C.G al i o S next fm' own N) ∨ (Region.wanted o (yielded all.toArray a.tmps) = false ∧ putK o.dst undef fm' fun fm => next S fm own N)) := by
  unfold vcMixStep at h
  split at h
  · exact h.elim
  rename_i o ho
  refine ⟨o, by simpa using ho, ?_⟩
  split at h
  · rename_i hg
    exact ⟨fm, hf, .inl ⟨by simp [Region.wanted, hg], h⟩⟩
  · rename_i j want hg
    split at h
    · rename_i t ht
      have hy := guardSlot_yielded ht a.tmps
      split at h
      · rename_i b hb
        have hget := hf.get t _ hb
        rw [hget] at hy
        have known : ∀ {X : Fm → Prop}, setK t (.bool b) fm X → X fm := fun h => by rw [setK_eq, setL_same hb] at h; exact h
        cases b with
        | true =>
          cases want with
          | true => exact ⟨fm, hf, .inl ⟨by simp [Region.wanted, hg, hy, yb], known h⟩⟩
          | false => exact ⟨fm, hf, .inr ⟨by simp [Region.wanted, hg, hy, yb], known h⟩⟩
        | false =>
          cases want with
          | true => exact ⟨fm, hf, .inr ⟨by simp [Region.wanted, hg, hy, yb], known h⟩⟩
          | false => exact ⟨fm, hf, .inl ⟨by simp [Region.wanted, hg, hy, yb], known h⟩⟩
      · rename_i vs hb
        have hget := hf.get t _ hb
        rw [hget] at hy
        exact ⟨fm, hf, .inr ⟨by simp [Region.wanted, hg, hy, yb], h⟩⟩
      · exact h.elim
    · exact h.elim

theorem vcMix_does {X : XK} {D : Env} {C : Ctx} (hC : C.ok) {n : Nat} {all : List Oper} {Q : Exit → Act → World → Prop} {K : SK} (hok : opsOk D.lo n all = true) (hsel : Region.noSelect all.toArray = true) (hQ : ∀ (o : Oper), (∀ d, o.dst = some d → D.lo ≤ d) → ∀ v c a w, Q (.panic c) (a.put o.dst v) w → Q (.panic c) a w) (hX : ∀ c own N a w, X c own N → Kept D a → C.inv w own N → Q (.panic c) a w)
    (hK : ∀ fm own N a w, K fm own N → FmOk D n fm a → C.inv w own N → Q .normal a w) :
    ∀ (t : OT) (fuel : Nat), t.depth ≤ fuel → ∀ (listed : Array Bool), Closed all.toArray listed → listed.size = all.toArray.size → ∀ (top : Bool), mixChk all.toArray t top listed = true → ∀ {seen : Nat}, Seen listed seen → ∀ {S : Nat → Mp} {fm : Fm} {own : List Ob} {N : Mp} {a : Act} {w : World}, FmOk D n fm a → C.inv w own N → (∀ k, S k w) → vcMix X P C.G all t seen S K fm own N →
      match top with
      | true => wpAnyG P all.toArray Q fuel S listed a w
      | false => ∀ i ∈ t.heads, i ∈ Region.ready .any all.toArray listed → ∃ f, fuel = f + 1 ∧ wpOp P all.toArray Q i (fun a' w' => ∃ S' : Nat → World → Prop, (∀ k, listed.getD k false = true → ¬ Waits all.toArray i k → ∀ w, S' k w → S k w) ∧ (∀ k, S' k w') ∧ wpAnyG P all.toArray Q f S' (listed.setIfInBounds i true) a' w') a w := by
  have hdst : ∀ {i : Nat} {o : Oper}, all.toArray[i]? = some o → ∀ d, o.dst = some d → D.lo ≤ d ∧ d < n := fun {i o} ho d e => by
    have ho' : all[i]? = some o := by simpa using ho
    have := List.all_eq_true.1 hok o (List.mem_of_getElem? ho')
    rw [e] at this
    simpa using this
  have closed : ∀ {listed : Array Bool} {i : Nat}, Closed all.toArray listed → i ∈ Region.ready .any all.toArray listed → Closed all.toArray (listed.setIfInBounds i true) := fun {listed i} hcl hin =>
    hcl.set fun oi hoi => by
      obtain ⟨_, oj, hoj, hall⟩ := mem_ready.1 hin
      rw [hoi] at hoj; cases hoj; exact hall
  have tight : ∀ {listed : Array Bool} {seen i : Nat}, Seen listed seen → listed.size = all.toArray.size → i ∈ Region.ready .any all.toArray listed → ∀ k, listed.getD k false = true → ¬ Waits all.toArray i k → aliveS all.toArray seen i k = true := by
    intro listed seen j hse hsz hin k hk hnw
    have hlj : listed.getD j true = false := (mem_ready.1 hin).1
    have hks : k < all.toArray.size ∧ k ≠ j := by
      refine ⟨?_, fun e => ?_⟩
      · rw [← hsz]
        rcases Nat.lt_or_ge k listed.size with h' | h'
        · exact h'
        · simp [Array.getElem?_eq_none h'] at hk
      · subst e
        rcases Nat.lt_or_ge k listed.size with h' | h'
        · simp [h'] at hk hlj; rw [hk] at hlj; cases hlj
        · simp [Array.getElem?_eq_none h'] at hk
    exact aliveS_of hks.1 hks.2 (hse k hk) hnw
  -- an effect that is next
  have eff : ∀ {listed : Array Bool} {seen i : Nat} {t : OT} {fuel : Nat}, Seen listed seen → listed.size = all.toArray.size → i ∈ Region.ready .any all.toArray listed → isEffAt all.toArray i = true →
      (∀ {S : Nat → Mp} {fm : Fm} {own : List Ob} {N : Mp} {a : Act} {w : World}, FmOk D n fm a → C.inv w own N → (∀ k, S k w) → vcMix X P C.G all t (seen ||| 1 <<< i) S K fm own N → wpAnyG P all.toArray Q fuel S (listed.setIfInBounds i true) a w) →
      ∀ {S : Nat → Mp} {fm : Fm} {own : List Ob} {N : Mp} {a : Act} {w : World}, FmOk D n fm a → C.inv w own N → (∀ k, S k w) → vcMixStep X P C.G all (aliveS all.toArray seen i) i S (fun S => vcMix X P C.G all t (seen ||| 1 <<< i) S K) fm own N →
      wpOp P all.toArray Q i (fun a' w' => ∃ S' : Nat → World → Prop, (∀ k, listed.getD k false = true → ¬ Waits all.toArray i k → ∀ w, S' k w → S k w) ∧ (∀ k, S' k w') ∧ wpAnyG P all.toArray Q fuel S' (listed.setIfInBounds i true) a' w') a w := by
    intro listed seen i t fuel hse hsz hin heff ih S fm own N a w hf hw hS h
    obtain ⟨o, ho, fm', hf', h⟩ := vcMixStep_cases hf h
    have hd := hdst ho
    rcases h with ⟨hw', h⟩ | ⟨hw', h⟩
    · unfold vcMixRun at h
      rw [isEff_true heff ho] at h
      unfold wpOp
      simp only [ho, hw', if_true]
      refine .inl (vcEff_does hC hf' hw h _ _ (fun v own' N' w' hk hi => ?_) (fun c own' N' w' hx hi => hX _ _ _ _ _ hx hf'.defers hi))
      obtain ⟨M', h1, h2, h3⟩ := hk
      rw [putK_eq] at h3
      have hM' := fun k => h2 k w' (C.gn hC hi)
      exact ⟨M', fun k hk hn => h1 k (tight hse hsz hin k hk hn), hM', ih (hf'.put_ o.dst hd v) hi hM' h3⟩
    · rw [putK_eq] at h
      unfold wpOp
      simp only [ho, hw', Bool.false_eq_true, if_false]
      exact ⟨S, fun _ _ _ _ h => h, hS, ih (hf'.put_ o.dst hd undef) hw hS h⟩
  intro t
  induction t with
  | nil =>
    intro fuel hfuel listed hcl hsz top hc seen hse S fm own N a w hf hw hS h
    simp only [mixChk, Bool.and_eq_true] at hc
    obtain ⟨rfl, hc⟩ := hc
    exact wpAnyG_nil (by simpa using hc) (hK _ _ _ _ _ h hf hw) fuel
  | one i t ih =>
    intro fuel hfuel listed hcl hsz top hc seen hse S fm own N a w hf hw hS h
    obtain ⟨f, rfl⟩ : ∃ f, fuel = f + 1 := ⟨fuel - 1, by simp only [OT.depth] at hfuel; omega⟩
    have hdf : t.depth ≤ f := by simp only [OT.depth] at hfuel; omega
    simp only [mixChk, Bool.and_eq_true] at hc
    obtain ⟨hc1, hc2⟩ := hc
    change vcMixStep X P C.G all (aliveS all.toArray seen i) i S (fun S => vcMix X P C.G all t (seen ||| 1 <<< i) S K) fm own N at h
    have hsz' : (listed.setIfInBounds i true).size = all.toArray.size := by rw [Array.size_setIfInBounds]; exact hsz
    cases top with
    | true =>
      simp only at hc1 ⊢
      split at hc1
      · rename_i hp
        simp only [Bool.and_eq_true] at hc1
        have hin : i ∈ Region.ready .any all.toArray listed := by simpa using hc1.2
        have ih' := fun {S fm own N a w} => ih f hdf (listed.setIfInBounds i true) (closed hcl hin) hsz' true hc2 (hse.set _) (S := S) (fm := fm) (own := own) (N := N) (a := a) (w := w)
        obtain ⟨o, ho, fm', hf', h⟩ := vcMixStep_cases hf h
        have hd := hdst ho
        rcases h with ⟨hw', h⟩ | ⟨hw', h⟩
        · unfold vcMixRun at h
          rw [isEff_false hp ho] at h
          obtain ⟨v, hk, hr⟩ := vcPure_gives ⟨w, hS i⟩ hf' h
          rw [putK_eq] at hk
          exact wpAnyG_first ho (Region.noSelect_spec hsel) (hQ o (fun d e => (hd d e).1) _) _ _ _ _ _ hcl (Region.free_spec ho hc1.1) hin (.inl ⟨hw', hr⟩) hS (ih' (hf'.put_ o.dst hd v) hw hS hk)
        · rw [putK_eq] at h
          exact wpAnyG_first ho (Region.noSelect_spec hsel) (hQ o (fun d e => (hd d e).1) _) _ _ _ _ _ hcl (Region.free_spec ho hc1.1) hin (.inr ⟨hw', rfl⟩) hS (ih' (hf'.put_ o.dst hd undef) hw hS h)
      · rename_i hp
        have hr : Region.ready .any all.toArray listed = [i] := by simpa using hc1
        have hin : i ∈ Region.ready .any all.toArray listed := by rw [hr]; exact List.mem_singleton.2 rfl
        refine ⟨fun e => (by rw [hr] at e; cases e), fun j hj => ?_⟩
        rw [hr] at hj
        obtain rfl : j = i := by simpa using hj
        exact eff hse hsz hin hp (fun {S fm own N a w} => ih f hdf (listed.setIfInBounds j true) (closed hcl hin) hsz' true hc2 (hse.set _) (S := S) (fm := fm) (own := own) (N := N) (a := a) (w := w)) hf hw hS h
    | false =>
      simp only at hc1 ⊢
      intro j hj hin
      obtain rfl : j = i := by simpa [OT.heads] using hj
      exact ⟨f, rfl, eff hse hsz hin hc1 (fun {S fm own N a w} => ih f hdf (listed.setIfInBounds j true) (closed hcl hin) hsz' true hc2 (hse.set _) (S := S) (fm := fm) (own := own) (N := N) (a := a) (w := w)) hf hw hS h⟩
  | alt i t u iht ihu =>
    intro fuel hfuel listed hcl hsz top hc seen hse S fm own N a w hf hw hS h
    have hdu : u.depth ≤ fuel := by simp only [OT.depth] at hfuel; omega
    obtain ⟨f, rfl⟩ : ∃ f, fuel = f + 1 := ⟨fuel - 1, by simp only [OT.depth] at hfuel; omega⟩
    have hdf : t.depth ≤ f := by simp only [OT.depth] at hfuel; omega
    simp only [mixChk, Bool.and_eq_true] at hc
    obtain ⟨⟨⟨hc1, hp⟩, hc2⟩, hc3⟩ := hc
    have hsz' : (listed.setIfInBounds i true).size = all.toArray.size := by rw [Array.size_setIfInBounds]; exact hsz
    obtain ⟨h1, h2⟩ : vcMixStep X P C.G all (aliveS all.toArray seen i) i S (fun S => vcMix X P C.G all t (seen ||| 1 <<< i) S K) fm own N ∧ vcMix X P C.G all u seen S K fm own N := h
    have hu := ihu (f + 1) hdu listed hcl hsz false hc3 hse hf hw hS h2
    simp only at hu
    have both : ∀ j ∈ OT.heads (.alt i t u), j ∈ Region.ready .any all.toArray listed → ∃ g, f + 1 = g + 1 ∧ wpOp P all.toArray Q j (fun a' w' => ∃ S' : Nat → World → Prop, (∀ k, listed.getD k false = true → ¬ Waits all.toArray j k → ∀ w, S' k w → S k w) ∧ (∀ k, S' k w') ∧ wpAnyG P all.toArray Q g S' (listed.setIfInBounds j true) a' w') a w := by
      intro j hj hin
      rcases List.mem_cons.1 hj with rfl | hj
      · exact ⟨f, rfl, eff hse hsz hin hp (fun {S fm own N a w} => iht f hdf (listed.setIfInBounds j true) (closed hcl hin) hsz' true hc2 (hse.set _) (S := S) (fm := fm) (own := own) (N := N) (a := a) (w := w)) hf hw hS h1⟩
      · exact hu j hj hin
    cases top with
    | false => exact both
    | true =>
      simp only at hc1 ⊢
      have hr : Region.ready .any all.toArray listed = i :: u.heads := by simpa using hc1
      refine ⟨fun e => (by rw [hr] at e; cases e), fun j hj => ?_⟩
      obtain ⟨g, hg, hh⟩ := both j (by rw [hr] at hj; exact hj) hj
      obtain rfl : f = g := by omega
      exact hh

theorem vc_does {X : XK} {D : Env} {C : Ctx} (hC : C.ok) {n : Nat} {cuts : List Nat} (hm : P.follows .mixedOrders = true) : ∀ (c : Code), codeOk D.lo n c = true → ∀ {Q : Exit → SK} {Q' : Exit → Act → World → Prop} {fm : Fm} {own : List Ob} {N : Mp} {a : Act} {w : World},
    (∀ e fm own N a w, Q e fm own N → FmOk D n fm a → C.inv w own N → Q' e a w) → (∀ c own N a w, X c own N → Kept D a → C.inv w own N → Q' (.panic c) a w) → FmOk D n fm a → C.inv w own N → vc X P C.G cuts c Q fm own N → c.wp P Q' a w
  | .skip, _, Q, Q', fm, own, N, a, w, hQ, hX, hf, hw, h => wp_skip (hQ _ _ _ _ _ _ h hf hw)
  | .region id ops draw, hok, Q, Q', fm, own, N, a, w, hQ, hX, hf, hw, h => by
    have hok' : opsOk D.lo n ops.toList = true := hok
    cases draw with
    | false =>
      refine wp_region_list ?_
      have := vcOps_does hC (P := P) (all := ops.toList) (Q := Q') (K := Q .normal) (n := n) (fun fm own N a w hk hf hw => hQ _ _ _ _ _ _ hk hf hw) hX ops.toList hok' hf hw h
      simpa using this
    | true =>
      rcases h with ⟨hB, h⟩ | ⟨order, M, hmix, hM, h⟩
      rotate_left
      · simp only [mixOk, Bool.and_eq_true] at hmix
        obtain ⟨⟨hlen, hsel⟩, hchk⟩ := hmix
        let Q'' : Exit → Act → World → Prop := fun e a w => match e with
          | .panic c => ∃ own N, X c own N ∧ Kept D a ∧ C.inv w own N
          | e => Q' e a w
        refine Code.wp_mono (Q := Q'') (fun e a w hq => by
          cases e with
          | panic c => obtain ⟨own, N, hx, hd, hi⟩ := hq; exact hX _ _ _ _ _ hx hd hi
          | _ => exact hq) ?_
        refine wp_region_any hm (wpAny_of_G _ M _ _ _ ?_)
        have := vcMix_does hC (P := P) (all := ops.toList) (Q := Q'') (K := Q .normal) (n := n) hok' (by simpa using hsel) (fun o hd v c a w hq => by obtain ⟨own, N, hx, hk, hi⟩ := hq; exact ⟨own, N, hx, hk.unput o.dst hd v, hi⟩) (fun c own N a w hx hd hi => ⟨own, N, hx, hd, hi⟩) (fun fm own N a w hk hf hw => hQ _ _ _ _ _ _ hk hf hw) order ops.size (Nat.le_of_ble_eq_true hlen) (Array.replicate ops.size false) (Closed.none _) (by simp) true (by simpa using hchk) (seen := 0) (fun k hk => by simp [Array.getD] at hk) (a := a) (w := { w with drawn := w.drawn + 1 }) hf (hw.drawn _) (fun k => hM k _ (C.gn hC (hw.drawn _))) h
        simpa using this
      refine wp_region_quiet (C := fun w => C.inv w own N) hm hB (hw.drawn _) ?_
      have := vcQuiet_does (P := P) (M := GN C.G own N) (all := ops.toList) (Q := fun a' => ∀ w', C.inv w' own N → Q' .normal a' w') (K := fun fm => Q .normal fm own N) (n := n) (D := fun w => C.inv w own N) ⟨w, hw⟩ (fun w hw => C.gn hC hw)
        (fun fm a hk hf w' hw' => hQ _ _ _ _ _ _ hk hf hw') ops.toList hok' hf h
      simpa using this
  | .seq x y, hok, Q, Q', fm, own, N, a, w, hQ, hX, hf, hw, h => by
    simp only [codeOk, Bool.and_eq_true] at hok
    change vcSeq (isCut cuts y) (vc X P C.G cuts x) (vc X P C.G cuts y) Q fm own N at h
    generalize isCut cuts y = b at h
    cases b
    · refine wp_seq (vc_does hC hm x hok.1 ?_ (fun c own N a w hx hd hi => hX c own N a w hx hd hi) hf hw h)
      intro e fm' own' N' a' w' hq hf' hw'
      cases e with
      | normal => exact vc_does hC hm y hok.2 hQ hX hf' hw' hq
      | exit id => exact hQ _ _ _ _ _ _ hq hf' hw'
      | ret => exact hQ _ _ _ _ _ _ hq hf' hw'
      | goto l => exact hq.elim
      | panic c => exact hq.elim
      | outgrown => exact hq.elim
    · obtain ⟨α, F, O, M, R, h1, h2⟩ := h
      refine wp_seq (vc_does hC hm x hok.1 ?_ (fun c own N a w hx hd hi => hX c own N a w hx hd hi) hf hw h1)
      intro e fm' own' N' a' w' hq hf' hw'
      cases e with
      | normal =>
        obtain ⟨g, hg, hfm, hown, hN⟩ := hq
        exact vc_does hC hm y hok.2 hQ hX (hf'.le hfm) (hw'.pick hown hN) (h2 g hg)
      | exit id => exact hQ _ _ _ _ _ _ hq hf' hw'
      | ret => exact hQ _ _ _ _ _ _ hq hf' hw'
      | goto l => exact hq.elim
      | panic c => exact hq.elim
      | outgrown => exact hq.elim
  | .cond c x y, hok, Q, Q', fm, own, N, a, w, hQ, hX, hf, hw, h => by
    simp only [codeOk, Bool.and_eq_true] at hok
    change vcCondK c (vc X P C.G cuts x) (vc X P C.G cuts y) Q fm own N at h
    unfold vcCondK at h
    split at h
    · rename_i b hb
      exact wp_cond_split (hf.eval_ hb) (fun e => by subst e; exact vc_does hC hm x hok.1 hQ hX hf hw h) (fun e => by subst e; exact vc_does hC hm y hok.2 hQ hX hf hw h)
    · exact h.elim
  | .block id c, hok, Q, Q', fm, own, N, a, w, hQ, hX, hf, hw, h => by
    refine wp_block (vc_does hC hm c hok ?_ (fun c own N a w hx hd hi => hX c own N a w hx hd hi) hf hw h)
    intro e fm' own' N' a' w' hq hf' hw'
    cases e with
    | normal => exact hQ _ _ _ _ _ _ hq hf' hw'
    | exit id' =>
      simp only [Exit.inBlock]
      simp only [vcBlockK] at hq
      split at hq
      · rename_i hb
        rw [if_pos (Nat.eq_of_beq_eq_true hb)]
        exact hQ _ _ _ _ _ _ hq hf' hw'
      · rename_i hb
        rw [if_neg (Nat.ne_of_beq_eq_false hb)]
        exact hQ _ _ _ _ _ _ hq hf' hw'
    | ret => exact hQ _ _ _ _ _ _ hq hf' hw'
    | goto l => exact hq.elim
    | panic c => exact hq.elim
    | outgrown => exact hq.elim
  | .loop c, hok, Q, Q', fm, own, N, a, w, hQ, hX, hf, hw, h => by
    change vcLoop (vc X P C.G cuts c) Q fm own N at h
    obtain ⟨α, μ, F, O, M, R, ⟨g, hg, hfm, hown, hN⟩, h⟩ := h
    refine wp_loop_ghost (fun k a w => ∃ g, μ g = k ∧ R g ∧ FmOk D n (F g) a ∧ C.inv w (O g) (M g)) (μ g) ⟨g, rfl, hg, hf.le hfm, hw.pick hown hN⟩ ?_
    rintro k a w ⟨g, rfl, hg, hf, hw⟩
    refine vc_does hC hm c hok ?_ (fun c own N a w hx hd hi => hX c own N a w hx hd hi) hf hw (h g hg)
    intro e fm' own' N' a' w' hq hf' hw'
    cases e with
    | normal =>
      obtain ⟨g', hg', hlt, h1, h2, h3⟩ := hq
      exact ⟨μ g', hlt, g', rfl, hg', hf'.le h1, hw'.pick h2 h3⟩
    | exit id => exact hQ _ _ _ _ _ _ hq hf' hw'
    | ret => exact hQ _ _ _ _ _ _ hq hf' hw'
    | goto l => exact hQ _ _ _ _ _ _ hq hf' hw'
    | panic c => exact hQ _ _ _ _ _ _ hq hf' hw'
    | outgrown => exact hQ _ _ _ _ _ _ hq hf' hw'
  | .exit id, _, Q, Q', fm, own, N, a, w, hQ, hX, hf, hw, h => wp_exit (hQ _ _ _ _ _ _ h hf hw)
  | .ret, _, Q, Q', fm, own, N, a, w, hQ, hX, hf, hw, h => wp_ret (hQ _ _ _ _ _ _ h hf hw)

/-! ### A function -/
def resOf (tmps : Array Value) : ResultVar → Sem Value
  | .tmp t => pure (tmps.getD t undef)
  | .cell b t => do loadVar t (← asAddr (tmps.getD b undef))
theorem results_eq (fn : Func) (tmps : Array Value) : results fn tmps = (do let vs ← fn.results.mapM (resOf tmps); pure (if h : vs.size = 1 then vs[0] else .tuple vs)) := rfl
theorem asAddr_run (ad : Addr) (w : World) : (asAddr (.pointer (some ad))).run P w = .ok ad w := rfl
theorem vcRes_gives {D : Env} {fm : Fm} {n : Nat} {a : Act} (hf : FmOk D n fm a) : ∀ (rs : List ResultVar) {k : List Value → Prop}, vcRes P M fm rs k → ∃ vs, k vs ∧ ∀ w, M w → (rs.mapM (resOf a.tmps)).run P w = .ok vs w
  | [], k, h => ⟨[], h, fun _ _ => rfl⟩
  | .tmp t :: r, k, h => by
    change vcResStep P M fm (.tmp t) (vcRes P M fm r) k at h
    simp only [vcResStep] at h
    split at h
    · rename_i v hv
      obtain ⟨vs, hk, hr⟩ := vcRes_gives hf r h
      refine ⟨_, hk, fun w hw => ?_⟩
      have e : a.tmps.getD t undef = v := by simp [Array.getD_eq_getD_getElem?, hf.get t v hv]
      simp only [List.mapM_cons, Sem.run_bind, resOf, Sem.run_pure, Result.andThen_ok, hr w hw, e]
    · exact h.elim
  | .cell b t :: r, k, h => by
    change vcResStep P M fm (.cell b t) (vcRes P M fm r) k at h
    simp only [vcResStep] at h
    split at h
    · rename_i v hv
      obtain ⟨u, h, hu⟩ := vcLoad_gives h
      obtain ⟨vs, hk, hr⟩ := vcRes_gives hf r h
      refine ⟨_, hk, fun w hw => ?_⟩
      have e : a.tmps.getD b undef = v := by simp [Array.getD_eq_getD_getElem?, hf.get b v hv]
      have hu' := hu w hw
      simp only [List.mapM_cons, Sem.run_bind, resOf, e]
      cases v with
      | pointer p =>
        cases p with
        | none => simp [Instr.loadAt, Instr.sureAddr] at hu'
        | some ad =>
          simp only [Instr.loadAt, Instr.sureAddr, Sem.run_bind, Sem.run_pure, Result.andThen_ok] at hu'
          simp only [asAddr_run, Result.andThen_ok, hu', hr w hw, Sem.run_pure]
      | _ => simp [Instr.loadAt, Instr.sureAddr] at hu'
    · exact h.elim

theorem initFm_get : ∀ (args : List Value) (i t : Nat) (v : Value), look (initFm i args) t = some v → i ≤ t ∧ args[t - i]? = some v
  | [], _, _, _, h => by cases h
  | x :: r, i, t, v, h => by
    unfold initFm look at h
    split at h
    · rename_i hb
      have : i = t := Nat.eq_of_beq_eq_true hb
      subst this
      cases h
      simp
    · rename_i hb
      have hne : i ≠ t := Nat.ne_of_beq_eq_false hb
      obtain ⟨h1, h2⟩ := initFm_get r (i + 1) t v h
      refine ⟨by omega, ?_⟩
      rw [show t - i = (t - (i + 1)) + 1 from by omega, List.getElem?_cons_succ]
      exact h2

/-- What a panic leaves. -/
def panX (PX : XK) : XK := fun c own N => ∃ (own' rest : List Ob) (N' : Mp), Pick own' own rest ∧ (∀ w, N w → Objs rest w → N' w) ∧ PX c own' N'
theorem results_run {C : Ctx} (hC : C.ok) {D : Env} {n : Nat} {fn : Func} {fm : Fm} {a : Act} {w' : World} {own : List Ob} {N : Mp} {Post : Value → List Ob → Mp → Prop} (hfm : FmOk D n fm a) (hinv : C.inv w' own N) (hq : vcRet P C.G fn.results.toList Post fm own N) :
    ∃ v, (results fn a.tmps).run P w' = .ok v w' ∧ ∃ own N, Post v own N ∧ C.inv w' own N := by
  obtain ⟨vs, ⟨own', rest, N', hp, hN, hP⟩, hr⟩ := vcRes_gives hfm _ hq
  have hr := hr w' (C.gn hC hinv)
  refine ⟨tupleOf vs, ?_, own', N', hP, (hinv.picked hp).drop hN⟩
  rw [results_eq, ← Array.toArray_toList (xs := fn.results), List.mapM_toArray]
  simp only [Sem.run_bind, Sem.run_map, hr, Result.andThen_ok, Sem.run_pure]
  congr 1
  match vs with
  | [] => rfl
  | [v] => rfl
  | v :: u :: r => simp [tupleOf]
theorem initFm_ok {args : List Value} {n : Nat} (hle : args.length ≤ n) : FmOk noD n (initFm 0 args) { tmps := args.toArray ++ Array.replicate (n - args.toArray.size) undef, defers := [] } := by
  refine ⟨by simp; omega, ⟨rfl, fun t ht => absurd ht (Nat.not_lt_zero t)⟩, ?_⟩
  intro t v ht
  obtain ⟨_, h2⟩ := initFm_get _ _ _ _ ht
  have hlt : t < args.length := by simpa using (List.getElem?_eq_some_iff.1 h2).1
  simp only [Nat.sub_zero] at h2
  rw [Array.getElem?_append_left (by simpa using hlt)]
  simpa using h2
theorem SpecE.introC {f : FuncId} {fn : Func} {c : Code} {args : List Value} {A : List Ob} {G : Mp} {Post : Value → List Ob → Mp → Prop} {PX : XK} (hm : P.follows .mixedOrders = true) (hf : P.funcs[f]? = some fn) (hb : fn.body = some c)
    (hcall : ∀ (args : Array Value) (w : World), (callFunc f args).run P w = .ok (.enter f args) w) (hd : codeOk 0 fn.ntmps c = true) (hn : Nat.ble args.length fn.ntmps = true)
    (cuts : List Nat) (h : ∀ w0, Entry w0 A G → vc (panX PX) P G cuts c (vcFin P G fn.results.toList Post) (initFm 0 args) A MT) : SpecE P f args.toArray A G Post PX := by
  refine ⟨hcall, fun w hw => calls_of_wp hf hb ?_⟩
  have hC : (Ctx.mk w A G).ok := hw
  have hle : args.length ≤ fn.ntmps := Nat.le_of_ble_eq_true hn
  refine vc_does (C := ⟨w, A, G⟩) hC (n := fn.ntmps) (D := noD) hm c hd ?_ ?_ (initFm_ok hle) (Ctx.start hC) (h w hw)
  · intro e fm own N a w' hq hfm hinv
    have fin : vcRet P G fn.results.toList Post fm own N → a.defers = [] ∧ ∃ v, (results fn a.tmps).run P w' = .ok v w' ∧ ∃ own N, ((∃ v', Ending.returned v = .returned v' ∧ Post v' own N) ∨ ∃ c, Ending.returned v = .panicked c ∧ PX c own N) ∧ Inv w (blksOf A) w' own N := by
      intro hq
      obtain ⟨v, hr, own, N, hP, hi⟩ := results_run (C := ⟨w, A, G⟩) hC hfm hinv hq
      exact ⟨hfm.defers.ds, v, hr, own, N, .inl ⟨v, rfl, hP⟩, hi⟩
    cases e with
    | normal => exact fin hq
    | ret => exact fin hq
    | exit id => exact hq.elim
    | goto l => exact hq.elim
    | panic c => exact hq.elim
    | outgrown => exact hq.elim
  · rintro c own N a w' ⟨own', rest, N', hp, hN, hx⟩ hd' hinv
    exact ⟨hd'.ds, own', N', .inr ⟨c, rfl, hx⟩, (hinv.picked hp).drop hN⟩
theorem SpecE.intro {f : FuncId} {fn : Func} {c : Code} {args : List Value} {A : List Ob} {G : Mp} {Post : Value → List Ob → Mp → Prop} {PX : XK} (hm : P.follows .mixedOrders = true) (hf : P.funcs[f]? = some fn) (hb : fn.body = some c)
    (hcall : ∀ (args : Array Value) (w : World), (callFunc f args).run P w = .ok (.enter f args) w) (hd : codeOk 0 fn.ntmps c = true) (hn : Nat.ble args.length fn.ntmps = true)
    (h : ∀ w0, Entry w0 A G → vc (panX PX) P G [] c (vcFin P G fn.results.toList Post) (initFm 0 args) A MT) : SpecE P f args.toArray A G Post PX := SpecE.introC hm hf hb hcall hd hn [] h

theorem Spec.introC {f : FuncId} {fn : Func} {c : Code} {args : List Value} {A : List Ob} {G : Mp} {Post : Value → List Ob → Mp → Prop} (hm : P.follows .mixedOrders = true) (hf : P.funcs[f]? = some fn) (hb : fn.body = some c)
    (hcall : ∀ (args : Array Value) (w : World), (callFunc f args).run P w = .ok (.enter f args) w) (hd : codeOk 0 fn.ntmps c = true) (hn : Nat.ble args.length fn.ntmps = true)
    (cuts : List Nat) (h : ∀ w0, Entry w0 A G → vc noX P G cuts c (vcFin P G fn.results.toList Post) (initFm 0 args) A MT) : Spec P f args.toArray A G Post := by
  refine ⟨hcall, fun w hw => calls_of_wp hf hb ?_⟩
  have hC : (Ctx.mk w A G).ok := hw
  have hle : args.length ≤ fn.ntmps := Nat.le_of_ble_eq_true hn
  refine vc_does (C := ⟨w, A, G⟩) hC (n := fn.ntmps) (D := noD) hm c hd ?_ (fun c own N a w' hx _ _ => hx.elim) (initFm_ok hle) (Ctx.start hC) (h w hw)
  intro e fm own N a w' hq hfm hinv
  have fin : vcRet P G fn.results.toList Post fm own N → a.defers = [] ∧ ∃ v, (results fn a.tmps).run P w' = .ok v w' ∧ ∃ v' own N, Ending.returned v = .returned v' ∧ Post v' own N ∧ Inv w (blksOf A) w' own N := by
    intro hq
    obtain ⟨v, hr, own, N, hP, hi⟩ := results_run (C := ⟨w, A, G⟩) hC hfm hinv hq
    exact ⟨hfm.defers.ds, v, hr, v, own, N, rfl, hP, hi⟩
  cases e with
  | normal => exact fin hq
  | ret => exact fin hq
  | exit id => exact hq.elim
  | goto l => exact hq.elim
  | panic c => exact hq.elim
  | outgrown => exact hq.elim
theorem Spec.intro {f : FuncId} {fn : Func} {c : Code} {args : List Value} {A : List Ob} {G : Mp} {Post : Value → List Ob → Mp → Prop} (hm : P.follows .mixedOrders = true) (hf : P.funcs[f]? = some fn) (hb : fn.body = some c)
    (hcall : ∀ (args : Array Value) (w : World), (callFunc f args).run P w = .ok (.enter f args) w) (hd : codeOk 0 fn.ntmps c = true) (hn : Nat.ble args.length fn.ntmps = true)
    (h : ∀ w0, Entry w0 A G → vc noX P G [] c (vcFin P G fn.results.toList Post) (initFm 0 args) A MT) : Spec P f args.toArray A G Post := Spec.introC hm hf hb hcall hd hn [] h
end
end Go.Proofs.Yticllmnblcjjcaa
