/- A pool: Failed, Release, Opened, Lost. -/
import Derived.Test.YtekbimbohppfoaaPolE
namespace Go.Proofs.Ytekbimbohppfoaa
open Go.Proofs
set_option maxRecDepth 10000

theorem bk_set0 : ∀ {bs : List (Int × Int)} {k : Nat} (h : k < bs.length) (v : Int), (bkL bs).set (k * 2) (.int .i64 v) = bkL (bs.set k (v, bs[k].2))
  | x :: r, 0, _, v => rfl
  | x :: r, k + 1, h, v => by
    have hk : k < r.length := by simpa using h
    have ih := bk_set0 hk v
    show (bkV x ++ bkL r).set ((k + 1) * 2) _ = bkV x ++ bkL (r.set k (v, r[k].2))
    rw [← ih, List.set_append_right _ _ (by rw [bkV_len]; omega), bkV_len, show (k + 1) * 2 - 2 = k * 2 from by omega]
theorem bk_set1 : ∀ {bs : List (Int × Int)} {k : Nat} (h : k < bs.length) (v : Int), (bkL bs).set (k * 2 + 1) (.int .i64 v) = bkL (bs.set k (bs[k].1, v))
  | x :: r, 0, _, v => rfl
  | x :: r, k + 1, h, v => by
    have hk : k < r.length := by simpa using h
    have ih := bk_set1 hk v
    show (bkV x ++ bkL r).set ((k + 1) * 2 + 1) _ = bkV x ++ bkL (r.set k (r[k].1, v))
    rw [← ih, List.set_append_right _ _ (by rw [bkV_len]; omega), bkV_len, show (k + 1) * 2 + 1 - 2 = k * 2 + 1 from by omega]
theorem delE_lk {n : Int} {x : Lk} {c : List Lk} (hx : x.num = n) : ∀ {a : List Lk}, (∀ y ∈ a, y.num ≠ n) → delE n ((a ++ x :: c).map lkE) = (a ++ c).map lkE
  | [], _ => by simp [delE, lkE, hx]
  | y :: r, h => by
    have h1 := h y (List.mem_cons_self ..)
    have ih := delE_lk (c := c) hx (a := r) fun z hz => h z (List.mem_cons_of_mem _ hz)
    rw [List.cons_append, List.map_cons, List.cons_append, List.map_cons]
    unfold delE
    rw [if_neg (by exact h1), ih]
theorem Pick.del {a c : List Lk} {r : List Ob} : Pick ((a ++ c).map lkOb) (a.map lkOb ++ (c.map lkOb ++ r)) r := by
  rw [List.map_append, ← List.append_assoc]; exact Pick.front
/-- A link by its number. -/
theorem vcLook_lk {M : Mp} {p : Pl} {mb : Nat} {n : Int} {X : Option (Value × Nat) → Prop} (h : Ent M (MapAt .i64 mb (p.ls.map lkE) p.clock)) (h1 : (∀ l ∈ p.ls, l.num ≠ n) → X none)
    (h2 : ∀ a x c, p.ls = a ++ x :: c → x.num = n → (∀ y ∈ a, y.num ≠ n) → X (some (lkP x, x.born))) : vcLook M .i64 .i64 mb n X := by
  rcases getE_find n p.ls with ⟨e, hn⟩ | ⟨a, x, c, hls, hx, ha, e⟩
  · exact ⟨rfl, _, _, h, _, e, h1 hn⟩
  · exact ⟨rfl, _, _, h, _, e, h2 a x c hls hx ha⟩

def failB (p : Pl) (now : Int) (x : Int × Int) : Int × Int := if p.F ≤ x.1 + 1 then (0, now + p.D) else (x.1 + 1, x.2)
def FailTo (p : Pl) (n now e : Int) (p' : Pl) : Prop :=
  ((∀ l ∈ p.ls, l.num = n → l.st = 2) ∧ e = 211 ∧ p' = p) ∨
  ∃ a x c, p.ls = a ++ x :: c ∧ x.num = n ∧ x.st ≠ 2 ∧ ((¬ (0 ≤ now ∧ now ≤ 1099511627776) ∧ e = 112 ∧ p' = p) ∨
    ((0 ≤ now ∧ now ≤ 1099511627776) ∧ e = 0 ∧ ∃ k : Nat, ∃ h : k < p.bs.length, x.b = (k : Int) ∧ p' = { p with ls := a ++ c, bs := p.bs.set k (failB p now p.bs[k]) }))
theorem failed_spec (a : PlA) (p : Pl) (n now : Int) (G : Mp) (hp : PlOk p) :
    Spec Try.prog 11 #[.pointer (some ⟨a.b, 0, none⟩), .int .i64 n, .int .i64 now] (plO a p) G (fun v own N => ∃ e p', v = .int .i64 e ∧ own = plO a p' ∧ N = MT ∧ FailTo p n now e p') := by
  obtain ⟨ab, Ab, cb, mb, Aq, cq⟩ := a
  refine Spec.intro (args := [_, _, _]) wide Try.func11 rfl Try.call11 (by rfl) (by rfl) (fun w0 hw0 => ?_)
  have out : ∀ (e : Int) (p' : Pl) (r : List Ob) (N : Mp), FailTo p n now e p' → ∃ (own' rest : List Ob) (N' : Mp), Pick own' (plO ⟨ab, Ab, cb, mb, Aq, cq⟩ p' ++ r) rest ∧ (∀ w, N w → Objs rest w → N' w) ∧ ∃ e' p'', Value.int .i64 e = .int .i64 e' ∧ own' = plO ⟨ab, Ab, cb, mb, Aq, cq⟩ p'' ∧ N' = MT ∧ FailTo p n now e' p'' :=
    fun e p' _ _ h => ⟨plO ⟨ab, Ab, cb, mb, Aq, cq⟩ p', _, MT, Pick.front, fun _ _ _ => trivial, e, p', rfl, rfl, rfl, h⟩
  have out0 : ∀ (e : Int) (N : Mp), FailTo p n now e p → ∃ (own' rest : List Ob) (N' : Mp), Pick own' (plO ⟨ab, Ab, cb, mb, Aq, cq⟩ p) rest ∧ (∀ w, N w → Objs rest w → N' w) ∧ ∃ e' p'', Value.int .i64 e = .int .i64 e' ∧ own' = plO ⟨ab, Ab, cb, mb, Aq, cq⟩ p'' ∧ N' = MT ∧ FailTo p n now e' p'' :=
    fun e _ h => ⟨plO ⟨ab, Ab, cb, mb, Aq, cq⟩ p, _, MT, Pick.whole, fun _ _ _ => trivial, e, p, rfl, rfl, rfl, h⟩
  refine vcLoad1_row (Ent.gnO .here (fun w hw => Ob.row_at hw)) rfl ?_
  refine vcLook_lk (p := p) (Ent.gnO (.there (.there .here)) (fun w h => h)) (fun hno => ?_) (fun pa x pc hls hx ha => ?_)
  · exact out0 211 _ (.inl ⟨fun l hl h => absurd h (hno l hl), rfl, rfl⟩)
  have hxm : x ∈ p.ls := by rw [hls]; simp
  have hxr := hp.ls x hxm
  refine vcLoad1_row (Ent.mem (lk_mem hxm) (fun w hw => Ob.row_at hw)) rfl ?_
  refine vcIf_dec (fun hs => ?_) (fun hs => ?_)
  · refine out0 211 _ (.inl ⟨fun l hl h => ?_, rfl, rfl⟩)
    rw [nodup_inj hp.nums hl hxm (h.trans hx.symm)]; exact hs
  refine vcCall_of .nil (right_spec now _) (fun v own' N' hv => ?_); obtain ⟨rfl, rfl, rfl⟩ := hv
  refine vcIf_ndec (fun h2 => ?_) (fun h2 => ?_)
  · exact out0 112 _ (.inr ⟨pa, x, pc, hls, hx, hs, .inl ⟨h2, rfl, rfl⟩⟩)
  refine vcLoad1_row (Ent.gnO .here (fun w hw => Ob.row_at hw)) rfl ?_
  refine .intro rfl (p.ls.map lkE) p.clock _ (.there (.there .here)) ?_
  refine vcDraw_quiet (by kernel_rfl) ?_
  refine vcLoad1_row (Ent.gnO (.there .here) (fun w hw => Ob.row_at hw)) rfl ?_
  have hmem : ∀ (o : Ob), lkOb x ∈ o :: plR ⟨ab, Ab, cb, mb, Aq, cq⟩ p :: plB ⟨ab, Ab, cb, mb, Aq, cq⟩ p :: plQ ⟨ab, Ab, cb, mb, Aq, cq⟩ p :: p.ls.map lkOb := fun o => List.mem_cons_of_mem _ (List.mem_cons_of_mem _ (List.mem_cons_of_mem _ (List.mem_cons_of_mem _ (List.mem_map_of_mem hxm))))
  refine vcLoad1_row (Ent.mem (hmem _) (fun w hw => Ob.row_at hw)) rfl ?_
  have hbl := hp.bl
  have hk : x.b.toNat < p.bs.length := by omega
  refine vcIdx_nats (s := 2) x.b.toNat (by omega) (Ent.gnO (.there (.there .here)) (fun w hw => Ob.sl_at hw)) hk (by rw [bkL_len]; exact Nat.le_refl _) (by omega) (fun ad hA => ?_)
  simp only at hA
  subst hA
  have hfl := hp.bf p.bs[x.b.toNat] (List.getElem_mem hk)
  have hF := hp.F
  have hD := hp.D
  refine vcLoad1_2 (Ent.gnO (.there (.there .here)) (fun w hw => Ob.sl_at hw)) (bkL_get0 hk) ?_
  refine vcFit_i64 (by first | omega | (simp only; omega)) ?_
  refine vcStore1_2 (plB ⟨ab, some ad, cb, mb, Aq, cq⟩ p) _ (.there (.there .here)) rfl (by show x.b.toNat * 2 + 0 + 0 < (bkL p.bs).length; rw [bkL_len]; omega) rfl ?_
  have hb1 : (bkL p.bs).set (x.b.toNat * 2 + 0 + 0) (.int .i64 (p.bs[x.b.toNat].1 + 1)) = bkL (p.bs.set x.b.toNat (p.bs[x.b.toNat].1 + 1, p.bs[x.b.toNat].2)) := bk_set0 hk _
  have hk2 : x.b.toNat < (p.bs.set x.b.toNat (p.bs[x.b.toNat].1 + 1, p.bs[x.b.toNat].2)).length := by simpa using hk
  refine vcDraw_quiet (by kernel_rfl) ?_
  refine vcLoad1_2 (v := .int .i64 (p.bs[x.b.toNat].1 + 1)) (Ent.gnO .here (fun w hw => hb1 ▸ Ob.sl_at hw)) (by have := bkL_get0 hk2; simpa using this) ?_
  refine vcLoad1_2 (Ent.gnO (.there (.there .here)) (fun w hw => Ob.row_at hw)) rfl ?_
  have hM : ∀ bs, plM ⟨ab, some ad, cb, mb, Aq, cq⟩ { p with ls := pa ++ pc, bs := bs } = .map mb (mI .i64 (delE n (p.ls.map lkE))) p.clock := fun bs => by
    unfold plM mapO
    rw [hls, delE_lk hx ha]
  have hR : ∀ x', plR ⟨ab, some ad, cb, mb, Aq, cq⟩ { p with ls := pa ++ pc, bs := p.bs.set x.b.toNat x' } = plR ⟨ab, some ad, cb, mb, Aq, cq⟩ p := fun x' => by
    unfold plR plV
    simp only [List.length_set]
  have hP : ∃ r, Pick ((pa ++ pc).map lkOb) (p.ls.map lkOb) r := by
    refine ⟨[lkOb x], ?_⟩
    rw [hls, List.map_append, List.map_append, List.map_cons]
    have : ∀ (u v : List Ob), Pick (u ++ v) (u ++ lkOb x :: v) [lkOb x] := by
      intro u
      induction u with
      | nil => exact fun v => Pick.whole.under
      | cons y t ih => exact fun v => .cons .here (ih v)
    exact this _ _
  obtain ⟨rP, hP⟩ := hP
  have fin : ∀ (x' : Int × Int) (o : Ob) (N : Mp), plB ⟨ab, some ad, cb, mb, Aq, cq⟩ { p with ls := pa ++ pc, bs := p.bs.set x.b.toNat x' } = o → failB p now p.bs[x.b.toNat] = x' →
      ∃ (own' rest : List Ob) (N' : Mp), Pick own' (o :: .map mb (mI .i64 (delE n (p.ls.map lkE))) p.clock :: plR ⟨ab, some ad, cb, mb, Aq, cq⟩ p :: plQ ⟨ab, some ad, cb, mb, Aq, cq⟩ p :: p.ls.map lkOb) rest ∧ (∀ w, N w → Objs rest w → N' w) ∧
        ∃ e' p'', Value.int .i64 0 = .int .i64 e' ∧ own' = plO ⟨ab, some ad, cb, mb, Aq, cq⟩ p'' ∧ N' = MT ∧ FailTo p n now e' p'' :=
    fun x' o N hB hf => ⟨plO ⟨ab, some ad, cb, mb, Aq, cq⟩ { p with ls := pa ++ pc, bs := p.bs.set x.b.toNat x' }, rP, MT, .cons (.there (.there (Take.eq (hR x')))) (.cons (Take.eq hB) (.cons (Take.eq (hM _)) (.cons .here hP))), fun _ _ _ => trivial, 0, _, rfl, rfl, rfl,
      .inr ⟨pa, x, pc, hls, hx, hs, .inr ⟨h2, rfl, x.b.toNat, hk, by omega, by rw [hf]⟩⟩⟩
  refine vcIf_dec (fun hge => ?_) (fun hlt => ?_)
  · refine vcLoad1_2 (Ent.gnO (.there (.there .here)) (fun w hw => Ob.row_at hw)) rfl ?_
    refine vcFit_i64 (by first | omega | (simp only; omega)) ?_
    refine vcStore1_2 (.sl (some ad) cb 68 2 ((bkL p.bs).set (x.b.toNat * 2 + 0 + 0) (.int .i64 (p.bs[x.b.toNat].1 + 1)))) _ .here rfl (by show x.b.toNat * 2 + 0 + 0 < ((bkL p.bs).set _ _).length; rw [List.length_set, bkL_len]; omega) rfl ?_
    refine vcStore1_2 (.sl (some ad) cb 68 2 (((bkL p.bs).set (x.b.toNat * 2 + 0 + 0) (.int .i64 (p.bs[x.b.toNat].1 + 1))).set (x.b.toNat * 2 + 0 + 0) (.int .i64 0))) _ .here rfl (by show x.b.toNat * 2 + 1 + 0 < (((bkL p.bs).set _ _).set _ _).length; rw [List.length_set, List.length_set, bkL_len]; omega) rfl ?_
    refine fin (0, now + p.D) _ _ ?_ (if_pos hge)
    unfold plB Ob.set
    have e1 : ((bkL p.bs).set (x.b.toNat * 2 + 0 + 0) (.int .i64 (p.bs[x.b.toNat].1 + 1))).set (x.b.toNat * 2 + 0 + 0) (.int .i64 0) = bkL (p.bs.set x.b.toNat (0, p.bs[x.b.toNat].2)) := by
      rw [List.set_set]; exact bk_set0 hk 0
    have hk3 : x.b.toNat < (p.bs.set x.b.toNat (0, p.bs[x.b.toNat].2)).length := by simpa using hk
    have e2 := bk_set1 hk3 (now + p.D)
    simp only [List.getElem_set_self, List.set_set] at e2
    simp only
    rw [e1]
    exact congrArg _ e2.symm
  · refine fin (p.bs[x.b.toNat].1 + 1, p.bs[x.b.toNat].2) _ _ ?_ (if_neg hlt)
    unfold plB
    exact congrArg (Ob.sl (some ad) cb _ 2) hb1.symm
end Go.Proofs.Ytekbimbohppfoaa
