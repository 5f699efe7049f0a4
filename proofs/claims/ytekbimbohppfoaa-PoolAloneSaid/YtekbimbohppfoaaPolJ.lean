/- A pool: Opened, Release, Lost, Serve. -/
import Derived.Test.YtekbimbohppfoaaPolG
namespace Go.Proofs.Ytekbimbohppfoaa
open Go.Proofs
set_option maxRecDepth 10000

theorem openedM {a : PlA} {p p' : Pl} {x y : Lk} {pa pc : List Lk} (hls : p.ls = pa ++ x :: pc) (hls' : p'.ls = pa ++ y :: pc) (hc : p'.clock = p.clock) (hxy : lkE y = lkE x) : plM a p' = plM a p := by
  unfold plM mapO
  rw [hls, hls', hc, List.map_append, List.map_append, List.map_cons, List.map_cons, hxy]
/-- The pool again, one of its links written. -/
theorem Pick.plO {a : PlA} {p p' : Pl} {y : Lk} {pa pc : List Lk} {r : List Ob} (hls' : p'.ls = pa ++ y :: pc) (hR : plR a p' = plR a p) (hB : plB a p' = plB a p) (hM : plM a p' = plM a p) (hQ : plQ a p' = plQ a p) :
    Pick (plO a p') (lkOb y :: plR a p :: plB a p :: plM a p :: plQ a p :: (pa.map lkOb ++ (pc.map lkOb ++ r))) r := by
  unfold Proofs.Ytekbimbohppfoaa.plO
  rw [hls']
  exact .cons (.there (Take.eq hR)) (.cons (.there (Take.eq hB)) (.cons (.there (Take.eq hM)) (.cons (.there (Take.eq hQ)) Pick.lks)))

def OpenTo (p : Pl) (n e : Int) (p' : Pl) : Prop :=
  ((∀ l ∈ p.ls, l.num = n → l.st ≠ 0) ∧ e = 211 ∧ p' = p) ∨ ∃ a x c, p.ls = a ++ x :: c ∧ x.num = n ∧ x.st = 0 ∧ e = 0 ∧ p' = { p with ls := a ++ { x with st := 1 } :: c }
theorem opened_spec (a : PlA) (p : Pl) (n : Int) (G : Mp) (hp : PlOk p) :
    Spec Try.prog 13 #[.pointer (some ⟨a.b, 0, none⟩), .int .i64 n] (plO a p) G (fun v own N => ∃ e p', v = .int .i64 e ∧ own = plO a p' ∧ N = MT ∧ OpenTo p n e p') := by
  refine Spec.intro (args := [_, _]) wide Try.func13 rfl Try.call13 (by rfl) (by rfl) (fun w0 hw0 => ?_)
  have out0 : ∀ (e : Int) (N : Mp), OpenTo p n e p → ∃ (own' rest : List Ob) (N' : Mp), Pick own' (plO a p) rest ∧ (∀ w, N w → Objs rest w → N' w) ∧ ∃ e' p'', Value.int .i64 e = .int .i64 e' ∧ own' = plO a p'' ∧ N' = MT ∧ OpenTo p n e' p'' :=
    fun e _ h => ⟨plO a p, _, MT, Pick.whole, fun _ _ _ => trivial, e, p, rfl, rfl, rfl, h⟩
  refine vcLoad1_row (Ent.gnO .here (fun w hw => Ob.row_at hw)) rfl ?_
  refine vcLook_lk (p := p) (Ent.gnO (.there (.there .here)) (fun w h => h)) (fun hno => ?_) (fun pa x pc hls hx ha => ?_)
  · exact out0 211 _ (.inl ⟨fun l hl h => absurd h (hno l hl), rfl, rfl⟩)
  have hxm : x ∈ p.ls := by rw [hls]; simp
  refine vcLoad1_row (Ent.mem (lk_mem hxm) (fun w hw => Ob.row_at hw)) rfl ?_
  refine vcIf_ndec (fun hs => ?_) (fun hs => ?_)
  · refine out0 211 _ (.inl ⟨fun l hl h => ?_, rfl, rfl⟩)
    rw [nodup_inj hp.nums hl hxm (h.trans hx.symm)]; exact hs
  refine vcStore1_1 (lkOb x) _ (List.append_nil (plO a p) ▸ Take.lkP (r := []) hls) rfl (by show (1 : Nat) < 4; decide) rfl ?_
  have hM : plM a { p with ls := pa ++ { x with st := 1 } :: pc } = plM a p := openedM hls rfl rfl rfl
  exact ⟨plO a { p with ls := pa ++ { x with st := 1 } :: pc }, _, MT, Pick.plO (p := p) (p' := { p with ls := pa ++ { x with st := 1 } :: pc }) rfl rfl rfl hM rfl, fun _ _ _ => trivial, 0, _, rfl, rfl, rfl, .inr ⟨pa, x, pc, hls, hx, hs, rfl, rfl⟩⟩

theorem lostP {x : Lk} {pa pc : List Lk} {p : Pl} (hls : p.ls = pa ++ x :: pc) : ∃ r, Pick ((pa ++ pc).map lkOb) (p.ls.map lkOb) r := by
  refine ⟨[lkOb x], ?_⟩
  rw [hls, List.map_append, List.map_append, List.map_cons]
  have : ∀ (u v : List Ob), Pick (u ++ v) (u ++ lkOb x :: v) [lkOb x] := by
    intro u
    induction u with
    | nil => exact fun v => Pick.whole.under
    | cons y t ih => exact fun v => .cons .here (ih v)
  exact this _ _
def LostTo (p : Pl) (n e : Int) (p' : Pl) : Prop := ((∀ l ∈ p.ls, l.num ≠ n) ∧ e = 211 ∧ p' = p) ∨ ∃ a x c, p.ls = a ++ x :: c ∧ x.num = n ∧ e = 0 ∧ p' = { p with ls := a ++ c }
theorem lost_spec (a : PlA) (p : Pl) (n : Int) (G : Mp) :
    Spec Try.prog 19 #[.pointer (some ⟨a.b, 0, none⟩), .int .i64 n] (plO a p) G (fun v own N => ∃ e p', v = .int .i64 e ∧ own = plO a p' ∧ N = MT ∧ LostTo p n e p') := by
  refine Spec.intro (args := [_, _]) wide Try.func19 rfl Try.call19 (by rfl) (by rfl) (fun w0 hw0 => ?_)
  refine vcLoad1_row (Ent.gnO .here (fun w hw => Ob.row_at hw)) rfl ?_
  refine vcLook_lk (p := p) (Ent.gnO (.there (.there .here)) (fun w h => h)) (fun hno => ?_) (fun pa x pc hls hx ha => ?_)
  · exact ⟨plO a p, _, MT, Pick.whole, fun _ _ _ => trivial, 211, p, rfl, rfl, rfl, .inl ⟨hno, rfl, rfl⟩⟩
  refine vcLoad1_row (Ent.gnO .here (fun w hw => Ob.row_at hw)) rfl ?_
  refine .intro rfl (p.ls.map lkE) p.clock _ (.there (.there .here)) ?_
  have hM : plM a { p with ls := pa ++ pc } = .map a.mb (mI .i64 (delE n (p.ls.map lkE))) p.clock := by
    unfold plM mapO
    rw [hls, delE_lk hx ha]
  obtain ⟨rP, hP⟩ := lostP hls
  exact ⟨plO a { p with ls := pa ++ pc }, _, MT, .cons (.there .here) (.cons (.there .here) (.cons (Take.eq hM) (.cons .here hP))), fun _ _ _ => trivial, 0, _, rfl, rfl, rfl, .inr ⟨pa, x, pc, hls, hx, rfl, rfl⟩⟩

/-! ### Serve -/
def ServeTo (p : Pl) (now t k l b : Int) (ok : Bool) (p' : Pl) : Prop :=
  (t = 0 ∧ k = 0 ∧ l = 0 ∧ b = 0 ∧ ok = false ∧ p' = p ∧ (p.q = [] ∨ ¬ (0 ≤ now ∧ now ≤ 1099511627776) ∨ ((∃ b, upB p now b) ∧ ∀ b, ¬ elig p now b))) ∨
  (∃ q p1 up, p.q = t :: q ∧ (0 ≤ now ∧ now ≤ 1099511627776) ∧ ok = true ∧ TakeTo p now k l b up p1 ∧ (up = true → k ≠ 0) ∧ p' = { p1 with q := q })
theorem TakeTo.q {p : Pl} {now k l b : Int} {up : Bool} {p' : Pl} (h : TakeTo p now k l b up p') : p'.q = p.q := by
  rcases h with ⟨_, _, _, rfl, _⟩ | ⟨j, _, _, _, _, _, ⟨_, a, x, c, _, _, _, rfl⟩ | ⟨_, _, _, _, blk, rfl⟩⟩ <;> rfl
theorem Take.tail {A : Option Addr} {cq : Nat} {x : Int} {q : List Int} {l : List Ob} (hc : (x :: q).length ≤ cq) : Take (.sl (cutA A cq 1 1) (cq - 1) 3 1 (intL q)) (.sl A cq 3 1 (intL (x :: q)) :: l) l := by
  unfold cutA
  by_cases h : cq = 1
  · subst h
    obtain rfl : q = [] := List.eq_nil_of_length_eq_zero (by simp at hc; exact List.length_eq_zero_iff.2 hc)
    rw [if_pos rfl]
    exact Take.end_
  · rw [if_neg h]
    exact Take.drop (A := A) (cap := cq) (ty := 3) (size := 1) (xs := intL (x :: q)) (l := l) 1 (by simp) (by simp at hc; omega)
def svT (t k l b : Int) (ok : Bool) : Value := .tuple #[.int .i64 t, .agg #[.int .i64 k, .int .i64 l, .int .i64 b], .bool ok]
theorem serve_spec (a : PlA) (p : Pl) (now : Int) (G : Mp) (hp : PlOk p) (hla : p.last ≤ 1000000000000000000) (hll : p.ls.length ≤ 1000000000000000000) :
    Spec Try.prog 14 #[.pointer (some ⟨a.b, 0, none⟩), .int .i64 now] (plO a p) G (fun v own N => ∃ t k l b ok p' a', v = svT t k l b ok ∧ own = plO a' p' ∧ N = MT ∧ a'.b = a.b ∧ ServeTo p now t k l b ok p') := by
  refine Spec.introC (args := [_, _]) wide Try.func14 rfl Try.call14 (by rfl) (by rfl) [6] (fun w0 hw0 => ?_)
  have hcap : p.q.length ≤ a.cq := by
    have := Ob.sl_len (hw0.objs (plQ a p) (List.mem_cons_of_mem _ (List.mem_cons_of_mem _ (List.mem_cons_of_mem _ (List.mem_cons_self ..)))))
    simpa using this
  intro b5
  have out0 : ∀ (o : Ob) (N : Mp), (p.q = [] ∨ ¬ (0 ≤ now ∧ now ≤ 1099511627776) ∨ ((∃ b, upB p now b) ∧ ∀ b, ¬ elig p now b)) → ∃ (own' rest : List Ob) (N' : Mp), Pick own' (o :: plO a p) rest ∧ (∀ w, N w → Objs rest w → N' w) ∧
      ∃ t k l b ok p' a', svT 0 0 0 0 false = svT t k l b ok ∧ own' = plO a' p' ∧ N' = MT ∧ a'.b = a.b ∧ ServeTo p now t k l b ok p' :=
    fun _ _ h => ⟨plO a p, _, MT, Pick.whole.under, fun _ _ _ => trivial, 0, 0, 0, 0, false, p, a, rfl, rfl, rfl, rfl, .inl ⟨rfl, rfl, rfl, rfl, rfl, rfl, h⟩⟩
  refine vcLoad1_row (Ent.gnO (.there .here) (fun w hw => Ob.row_at hw)) rfl ?_
  refine vcIf_dec (fun h0 => ?_) (fun h0 => ?_)
  · refine ⟨rfl, vcStoreN_row _ .here rfl (int3 0 0 0) ?_⟩
    refine vcLoadN_0 (Ent.gnO .here (fun w hw => Ob.row_at hw)) rfl ?_
    exact out0 _ _ (.inl (List.eq_nil_of_length_eq_zero (by omega)))
  refine vcCall_of .nil (right_spec now _) (fun v own' N' hv => ?_); obtain ⟨rfl, rfl, rfl⟩ := hv
  refine vcIf_ndec (fun h2 => ?_) (fun h2 => ?_)
  · refine ⟨rfl, vcStoreN_row _ .here rfl (int3 0 0 0) ?_⟩
    refine vcLoadN_0 (Ent.gnO .here (fun w hw => Ob.row_at hw)) rfl ?_
    exact out0 _ _ (.inr (.inl h2))
  refine vcCall_of (by exact Pick.whole.under) (take_spec a p now _ hp hla hll) (fun v own' N' hv => ?_)
  obtain ⟨k, l, b, up, p1, rfl, rfl, rfl, ht⟩ := hv
  refine ⟨rfl, vcStoreN_row _ (.there (.there (.there (.there Take.last)))) rfl (int3 k l b) ?_⟩
  obtain ⟨t, q, hq⟩ : ∃ t q, p.q = t :: q := by
    cases hq : p.q with
    | nil => rw [hq] at h0; exact absurd rfl h0
    | cons t q => exact ⟨t, q, rfl⟩
  have hq1 : p1.q = t :: q := ht.q.trans hq
  refine vcCut_of (fun _ : Unit => [(0, .pointer (some ⟨a.b, 0, none⟩)), (5, .pointer (some ⟨b5, 0, none⟩))]) (fun _ => .row b5 30 [.int .i64 k, .int .i64 l, .int .i64 b] 3 :: plO a p1) (fun _ => MT) (fun _ => up = true → k ≠ 0) ?_ ?_
  · cases up with
    | false => exact ⟨(), (fun h => by cases h), ⟨rfl, rfl, trivial⟩, ⟨_, Pick.whole⟩, fun _ _ => trivial⟩
    | true =>
      refine vcLoad1_row (Ent.gnO .here (fun w hw => Ob.row_at hw)) rfl ?_
      refine vcIf_dec (fun hk => ?_) (fun hk => ?_)
      · refine ⟨rfl, vcStoreN_row _ .here rfl (int3 0 0 0) ?_⟩
        refine vcLoadN_0 (Ent.gnO .here (fun w hw => Ob.row_at hw)) rfl ?_
        rcases ht with ⟨_, _, _, rfl, hu, hno⟩ | ⟨_, _, _, _, _, _, ⟨h, _⟩ | ⟨h, _⟩⟩
        · exact out0 _ _ (.inr (.inr ⟨hu.1 rfl, hno⟩))
        · omega
        · omega
      · exact ⟨(), fun _ => hk, ⟨rfl, rfl, trivial⟩, ⟨_, Pick.whole⟩, fun _ _ => trivial⟩
  intro _ hup
  have hg0 : (intL p1.q)[0]? = some (.int .i64 t) := by rw [hq1]; rfl
  have hlen : p1.q.length = q.length + 1 := by rw [hq1]; rfl
  have hlen0 : p.q.length = q.length + 1 := by rw [hq]; rfl
  refine vcLoad1_row (Ent.gnO (.there .here) (fun w hw => Ob.row_at hw)) rfl ?_
  refine vcIdx_nat 0 rfl (Ent.gnO (.there (.there (.there (.there .here)))) (fun w hw => Ob.sl_at hw)) (by omega) (by simp) (fun ad had => ?_)
  refine vcLoad1_row (v := .int .i64 t) (Ent.gnO (.there (.there (.there (.there .here)))) (fun w hw => had ▸ Ob.sl_at hw)) hg0 ?_
  refine vcLoad1_row (Ent.gnO (.there .here) (fun w hw => Ob.row_at hw)) rfl ?_
  refine vcSlice3_as 1 q.length (a.cq - 1) rfl (by omega) (by omega) (by omega) (by omega) (fun A' hA' => ?_)
  rw [show 1 + (a.cq - 1) = a.cq from by omega] at hA'
  refine vcStore1_1 (plR a p1) _ (.there .here) rfl (by show (11 : Nat) < 12; decide) rfl ?_
  refine vcDraw_mix [0,1,2,3,4] (RowAt (some ⟨b5, 0, none⟩) [.int .i64 k, .int .i64 l, .int .i64 b]) (by kernel_rfl) (Ent.gnO (.there .here) (fun w hw => Ob.row_at hw)) ?_
  refine vcLoadN_0 Ent.refl rfl ?_
  refine ⟨rfl, vcStoreN_row _ (.there .here) rfl (int3 k l b) ?_⟩
  refine vcMix_same (Ent.gnO .here (fun w hw => Ob.row_at hw)) ?_
  refine vcLoadN_0 (Ent.gnO .here (fun w hw => Ob.row_at hw)) rfl ?_
  have hT : Take (plQ { a with Aq := A', cq := a.cq - 1 } { p1 with q := q }) (plQ a p1 :: p1.ls.map lkOb) (p1.ls.map lkOb) := by
    unfold plQ
    simp only
    rw [hA', hq1]
    exact Take.tail (by rw [List.length_cons]; omega)
  exact ⟨plO { a with Aq := A', cq := a.cq - 1 } { p1 with q := q }, _, MT, .cons (.there .here) (.cons (.there .here) (.cons (.there .here) (.cons (.there hT) Pick.whole.under))), fun _ _ _ => trivial, t, k, l, b, true, _, { a with Aq := A', cq := a.cq - 1 }, rfl, rfl, rfl, rfl,
    .inr ⟨q, p1, up, hq, h2, rfl, ht, hup, rfl⟩⟩
theorem ServeTo.ok {p : Pl} {now t k l b : Int} {ok : Bool} {p' : Pl} (h : ServeTo p now t k l b ok p') (hp : PlOk p) : PlOk p' := by
  rcases h with ⟨_, _, _, _, _, rfl, _⟩ | ⟨q, p1, up, hq, _, _, ht, _, rfl⟩
  · exact hp
  · have h1 := ht.ok hp
    have h2 := h1.ql
    rw [ht.q, hq] at h2
    simp only [List.length_cons] at h2
    exact { h1 with ql := by simp only; omega }

/-! ### Release -/
def RelTo (p : Pl) (n : Int) (again : Bool) (now e : Int) (p' : Pl) : Prop :=
  ((∀ l ∈ p.ls, l.num = n → l.st ≠ 1) ∧ e = 211 ∧ p' = p) ∨
  ∃ a x c, p.ls = a ++ x :: c ∧ x.num = n ∧ x.st = 1 ∧ ((¬ (0 ≤ now ∧ now ≤ 1099511627776) ∧ e = 112 ∧ p' = p) ∨
    ((0 ≤ now ∧ now ≤ 1099511627776) ∧ e = 0 ∧ ∃ k : Nat, ∃ h : k < p.bs.length, x.b = (k : Int) ∧
      ((again = false ∧ p' = { p with ls := a ++ c, bs := p.bs.set k (0, p.bs[k].2) }) ∨ (again = true ∧ p' = { p with ls := a ++ { x with st := 2, since := now, ord := p.order + 1 } :: c, bs := p.bs.set k (0, p.bs[k].2), order := p.order + 1 }))))
theorem release_spec (a : PlA) (p : Pl) (n : Int) (again : Bool) (now : Int) (G : Mp) (hp : PlOk p) (ho : p.order ≤ 1000000000000000000) :
    Spec Try.prog 15 #[.pointer (some ⟨a.b, 0, none⟩), .int .i64 n, .bool again, .int .i64 now] (plO a p) G (fun v own N => ∃ e p', v = .int .i64 e ∧ own = plO a p' ∧ N = MT ∧ RelTo p n again now e p') := by
  obtain ⟨ab, Ab, cb, mb, Aq, cq⟩ := a
  refine Spec.intro (args := [_, _, _, _]) wide Try.func15 rfl Try.call15 (by rfl) (by rfl) (fun w0 hw0 => ?_)
  have out0 : ∀ (e : Int) (N : Mp), RelTo p n again now e p → ∃ (own' rest : List Ob) (N' : Mp), Pick own' (plO ⟨ab, Ab, cb, mb, Aq, cq⟩ p) rest ∧ (∀ w, N w → Objs rest w → N' w) ∧ ∃ e' p'', Value.int .i64 e = .int .i64 e' ∧ own' = plO ⟨ab, Ab, cb, mb, Aq, cq⟩ p'' ∧ N' = MT ∧ RelTo p n again now e' p'' :=
    fun e _ h => ⟨plO ⟨ab, Ab, cb, mb, Aq, cq⟩ p, _, MT, Pick.whole, fun _ _ _ => trivial, e, p, rfl, rfl, rfl, h⟩
  refine vcLoad1_row (Ent.gnO .here (fun w hw => Ob.row_at hw)) rfl ?_
  refine vcLook_lk (p := p) (Ent.gnO (.there (.there .here)) (fun w h => h)) (fun hno => ?_) (fun pa x pc hls hx ha => ?_)
  · exact out0 211 _ (.inl ⟨fun l hl h => absurd h (hno l hl), rfl, rfl⟩)
  have hxm : x ∈ p.ls := by rw [hls]; simp
  have hxr := hp.ls x hxm
  refine vcLoad1_row (Ent.mem (lk_mem hxm) (fun w hw => Ob.row_at hw)) rfl ?_
  refine vcIf_ndec (fun hs => ?_) (fun hs => ?_)
  · refine out0 211 _ (.inl ⟨fun l hl h => ?_, rfl, rfl⟩)
    rw [nodup_inj hp.nums hl hxm (h.trans hx.symm)]; exact hs
  refine vcCall_of .nil (right_spec now _) (fun v own' N' hv => ?_); obtain ⟨rfl, rfl, rfl⟩ := hv
  refine vcIf_ndec (fun h2 => ?_) (fun h2 => ?_)
  · exact out0 112 _ (.inr ⟨pa, x, pc, hls, hx, hs, .inl ⟨h2, rfl, rfl⟩⟩)
  have hbl := hp.bl
  have hk : x.b.toNat < p.bs.length := by omega
  refine vcDraw_mix [0,1,2,3,4,5,6,7,8,9,10] (GN _ _ _) (by kernel_rfl) Ent.refl ?_
  refine vcLoad1_row (Ent.gnO .here (fun w hw => Ob.row_at hw)) rfl ?_
  refine vcLoad1_row (Ent.mem (lk_mem hxm) (fun w hw => Ob.row_at hw)) rfl ?_
  refine vcIdx_nats (s := 2) x.b.toNat (by omega) (Ent.gnO (.there .here) (fun w hw => Ob.sl_at hw)) hk (by rw [bkL_len]; exact Nat.le_refl _) (by omega) (fun ad hA => ?_)
  simp only at hA
  subst hA
  refine vcStore1_2 (plB ⟨ab, some ad, cb, mb, Aq, cq⟩ p) _ (.there .here) rfl (by show x.b.toNat * 2 + 0 + 0 < (bkL p.bs).length; rw [bkL_len]; omega) rfl ?_
  refine vcMix_last (by kernel_rfl) ?_
  have hb1 : (bkL p.bs).set (x.b.toNat * 2 + 0 + 0) (.int .i64 0) = bkL (p.bs.set x.b.toNat (0, p.bs[x.b.toNat].2)) := bk_set0 hk 0
  have hR : plR ⟨ab, some ad, cb, mb, Aq, cq⟩ { p with bs := p.bs.set x.b.toNat (0, p.bs[x.b.toNat].2) } = plR ⟨ab, some ad, cb, mb, Aq, cq⟩ p := by
    unfold plR plV
    simp only [List.length_set]
  have hB : plB ⟨ab, some ad, cb, mb, Aq, cq⟩ { p with bs := p.bs.set x.b.toNat (0, p.bs[x.b.toNat].2) } = .sl (some ad) cb 68 2 ((bkL p.bs).set (x.b.toNat * 2 + 0 + 0) (.int .i64 0)) := by
    unfold plB; rw [hb1]
  cases again with
  | false =>
    refine vcLoad1_row (Ent.gnO (.there .here) (fun w hw => Ob.row_at hw)) rfl ?_
    refine .intro rfl (p.ls.map lkE) p.clock _ (.there (.there .here)) ?_
    have hM : plM ⟨ab, some ad, cb, mb, Aq, cq⟩ { p with ls := pa ++ pc } = .map mb (mI .i64 (delE n (p.ls.map lkE))) p.clock := by
      unfold plM mapO
      rw [hls, delE_lk hx ha]
    obtain ⟨rP, hP⟩ := lostP hls
    exact ⟨plO ⟨ab, some ad, cb, mb, Aq, cq⟩ { p with ls := pa ++ pc, bs := p.bs.set x.b.toNat (0, p.bs[x.b.toNat].2) }, _, MT, .cons (.there (.there (Take.eq hR))) (.cons (.there (Take.eq hB)) (.cons (Take.eq hM) (.cons .here hP))), fun _ _ _ => trivial, 0, _, rfl, rfl, rfl,
      .inr ⟨pa, x, pc, hls, hx, hs, .inr ⟨h2, rfl, x.b.toNat, hk, by omega, .inl ⟨rfl, rfl⟩⟩⟩⟩
  | true =>
    have hord := hp.ord
    refine vcLoad1_row (Ent.gnO (.there .here) (fun w hw => Ob.row_at hw)) rfl ?_
    refine vcFit_i64 (by first | omega | (simp only; omega)) ?_
    refine vcStore1_1 (plR ⟨ab, some ad, cb, mb, Aq, cq⟩ p) _ (.there .here) rfl (by show (9 : Nat) < 12; decide) rfl ?_
    refine vcLoad1_row (Ent.gnO .here (fun w hw => Ob.row_at hw)) rfl ?_
    have hT : Take (lkOb x) (p.ls.map lkOb) ((pa ++ pc).map lkOb) := by rw [hls]; exact Take.lk
    refine vcStore1_1 (lkOb x) _ (.there (.there (.there (.there hT)))) rfl (by show (1 : Nat) < 4; decide) rfl ?_
    refine vcStore1_1 ((lkOb x).set (1 + 0) (.int .i64 2)) _ .here rfl (by show (2 : Nat) < 4; decide) rfl ?_
    refine vcStore1_1 (((lkOb x).set (1 + 0) (.int .i64 2)).set (2 + 0) (.int .i64 now)) _ .here rfl (by show (3 : Nat) < 4; decide) rfl ?_
    have hM : plM ⟨ab, some ad, cb, mb, Aq, cq⟩ { p with ls := pa ++ { x with st := 2, since := now, ord := p.order + 1 } :: pc } = plM ⟨ab, some ad, cb, mb, Aq, cq⟩ p := openedM hls rfl rfl rfl
    have hR2 : plR ⟨ab, some ad, cb, mb, Aq, cq⟩ { p with ls := pa ++ { x with st := 2, since := now, ord := p.order + 1 } :: pc, bs := p.bs.set x.b.toNat (0, p.bs[x.b.toNat].2), order := p.order + 1 } = (plR ⟨ab, some ad, cb, mb, Aq, cq⟩ p).set (9 + 0) (.int .i64 (p.order + 1)) := by
      unfold plR plV
      simp only [List.length_set]
      rfl
    have hK : Pick ((pa ++ { x with st := 2, since := now, ord := p.order + 1 } :: pc).map lkOb) (lkOb { x with st := 2, since := now, ord := p.order + 1 } :: (pa ++ pc).map lkOb) [] := by
      have := Pick.lks (x := { x with st := 2, since := now, ord := p.order + 1 }) (a := pa) (c := pc) (r := [])
      rwa [List.append_nil, ← List.map_append] at this
    exact ⟨plO ⟨ab, some ad, cb, mb, Aq, cq⟩ { p with ls := pa ++ { x with st := 2, since := now, ord := p.order + 1 } :: pc, bs := p.bs.set x.b.toNat (0, p.bs[x.b.toNat].2), order := p.order + 1 }, _, MT, .cons (.there (Take.eq hR2)) (.cons (.there (Take.eq hB)) (.cons (.there (Take.eq hM)) (.cons (.there .here) hK))), fun _ _ _ => trivial, 0, _, rfl, rfl, rfl,
      .inr ⟨pa, x, pc, hls, hx, hs, .inr ⟨h2, rfl, x.b.toNat, hk, by omega, .inr ⟨rfl, rfl⟩⟩⟩⟩
end Go.Proofs.Ytekbimbohppfoaa
