/- A pool: take. -/
import Derived.Test.YtekbimbohppfoaaPolB
namespace Go.Proofs.Ytekbimbohppfoaa
open Go.Proofs
set_option maxRecDepth 10000

theorem Pick.mid {x : Ob} : ∀ {a c : List Ob}, Pick (a ++ x :: c) (x :: (a ++ c)) []
  | [], _ => Pick.whole
  | _ :: _, _ => .cons (.there .here) Pick.mid
theorem Pick.snoc {x : Ob} {a : List Ob} : Pick (a ++ [x]) (x :: a) [] := by
  have := Pick.mid (x := x) (a := a) (c := [])
  rwa [List.append_nil] at this
theorem Pick.rot {x : Ob} {a : List Ob} : Pick (x :: a) (a ++ [x]) [] := by
  refine .cons Take.mid ?_
  rw [List.append_nil]; exact Pick.whole
theorem Take.lk {x : Lk} {a c : List Lk} : Take (lkOb x) ((a ++ x :: c).map lkOb) ((a ++ c).map lkOb) := by
  rw [List.map_append, List.map_cons, List.map_append]; exact Take.mid

theorem Take.app {o : Ob} {l l' : List Ob} : ∀ {a : List Ob}, Take o l l' → Take o (a ++ l) (a ++ l')
  | [], h => h
  | _ :: _, h => .there (Take.app h)
theorem int3 (k l b : Int) : ∀ v ∈ [Value.int .i64 k, .int .i64 l, .int .i64 b], oneCell v = true := by
  intro v hv
  simp only [List.mem_cons, List.not_mem_nil, or_false] at hv
  rcases hv with rfl | rfl | rfl <;> rfl
theorem Take.eq {o o' : Ob} {l : List Ob} (h : o = o') : Take o (o' :: l) l := by subst h; exact .here
theorem Take.lkP {P : PlA} {p : Pl} {x : Lk} {a c : List Lk} {r : List Ob} (h : p.ls = a ++ x :: c) : Take (lkOb x) (plO P p ++ r) (plR P p :: plB P p :: plM P p :: plQ P p :: (a.map lkOb ++ (c.map lkOb ++ r))) := by
  unfold plO
  rw [h, List.map_append, List.map_cons]
  show Take (lkOb x) (plR P p :: plB P p :: plM P p :: plQ P p :: ((a.map lkOb ++ lkOb x :: c.map lkOb) ++ r)) _
  rw [List.append_assoc]
  exact .there (.there (.there (.there Take.mid)))
/-- From a pool's parts, its links around one that was taken, back to the pool. -/
theorem Pick.lks {x : Lk} {a c : List Lk} {r : List Ob} : Pick ((a ++ x :: c).map lkOb) (lkOb x :: (a.map lkOb ++ (c.map lkOb ++ r))) r := by
  rw [List.map_append, List.map_cons]
  induction a with
  | nil => exact .cons .here Pick.front
  | cons y t ih => exact .cons (.there .here) ih
def elig (p : Pl) (now b : Int) : Prop := upB p now b ∧ ((∃ l ∈ p.ls, isI b l = true) ∨ (p.ls.countP (isB b) : Int) < p.L)
def newLk (p : Pl) (blk : Nat) (b : Int) : Lk := ⟨p.last + 1, blk, p.clock, b, 0, 0, 0⟩
def TakeTo (p : Pl) (now k l b : Int) (up : Bool) (p' : Pl) : Prop :=
  (k = 0 ∧ l = 0 ∧ b = 0 ∧ p' = p ∧ (up = true ↔ ∃ b, upB p now b) ∧ ∀ b, ¬ elig p now b) ∨
  (∃ j : Nat, (j : Int) < p.n ∧ b = (p.turn + j) % p.n ∧ (∀ i : Nat, i < j → ¬ elig p now ((p.turn + i) % p.n)) ∧ up = true ∧ upB p now b ∧
    ((k = 2 ∧ ∃ a x c, p.ls = a ++ x :: c ∧ isI b x = true ∧ l = x.num ∧ p' = { p with ls := a ++ { x with st := 1 } :: c, turn := b + 1 }) ∨
     (k = 1 ∧ l = p.last + 1 ∧ (∀ x ∈ p.ls, isI b x = false) ∧ (p.ls.countP (isB b) : Int) < p.L ∧ ∃ blk, p' = { p with ls := p.ls ++ [newLk p blk b], clock := p.clock + 1, last := p.last + 1, turn := b + 1 })))
theorem turn_all {n t : Int} (hn : 0 < n) (b : Int) (hb : 0 ≤ b ∧ b < n) : ∃ j : Nat, (j : Int) < n ∧ (t + j) % n = b := by
  have h0 := Int.emod_nonneg (b - t) (by omega : n ≠ 0)
  have h1 := Int.emod_lt_of_pos (b - t) hn
  refine ⟨((b - t) % n).toNat, by omega, ?_⟩
  rw [Int.toNat_of_nonneg h0, Int.add_emod, Int.emod_emod, ← Int.add_emod, show t + (b - t) = b from by omega, Int.emod_eq_of_lt hb.1 hb.2]

def grT (k l b : Int) (up : Bool) : Value := .tuple #[.agg #[.int .i64 k, .int .i64 l, .int .i64 b], .bool up]
theorem take_spec (a : PlA) (p : Pl) (now : Int) (G : Mp) (hp : PlOk p) (hla : p.last ≤ 1000000000000000000) (hll : p.ls.length ≤ 1000000000000000000) :
    Spec Try.prog 26 #[.pointer (some ⟨a.b, 0, none⟩), .int .i64 now] (plO a p) G (fun v own N => ∃ k l b up p', v = grT k l b up ∧ own = plO a p' ∧ N = MT ∧ TakeTo p now k l b up p') := by
  refine Spec.intro (args := [_, _]) wide Try.func26 rfl Try.call26 (by rfl) (by rfl) (fun w0 hw0 => ?_)
  intro b4
  have hn := hp.n
  have hturn := hp.turn
  have hbl := hp.bl
  have hlast := hp.last
  refine vcLoad1_2 (Ent.gnO (.there .here) (fun w hw => Ob.row_at hw)) rfl ?_
  refine vcLoop_of (fun g : Nat × Bool => p.n.toNat - g.1) (fun g => [(0, .pointer (some ⟨a.b, 0, none⟩)), (1, .int .i64 now), (4, .pointer (some ⟨b4, 0, none⟩)), (5, .bool g.2), (15, .int .i64 p.n), (16, .int .i64 g.1)])
    (fun g => .row b4 30 [.int .i64 0, .int .i64 0, .int .i64 0] 3 :: plO a p) (fun _ => MT) (fun g => (g.1 : Int) ≤ p.n ∧ (g.2 = true ↔ ∃ i : Nat, i < g.1 ∧ upB p now ((p.turn + i) % p.n)) ∧ ∀ i : Nat, i < g.1 → ¬ elig p now ((p.turn + i) % p.n))
    (0, false) ⟨by simp; omega, by simp, fun i h => by simp at h⟩ ⟨rfl, rfl, rfl, rfl, rfl, rfl, trivial⟩ ⟨_, Pick.whole⟩ Ent.refl ?_
  rintro ⟨k, u⟩ ⟨hk, hu, hno⟩
  simp only at hk hu hno
  have e0 := Int.emod_nonneg (p.turn + k) (by omega : p.n ≠ 0)
  have e1 := Int.emod_lt_of_pos (p.turn + k) (by omega : 0 < p.n)
  refine vcIf_dec (fun hlt => ?_) (fun hge => ?_)
  · simp only at hlt
    refine vcDraw_quiet (by kernel_rfl) ?_
    refine vcLoad1_row (Ent.gnO (.there .here) (fun w hw => Ob.row_at hw)) rfl ?_
    refine vcFit_i64 (by first | omega | (simp only; omega)) ?_
    refine vcLoad1_2 (Ent.gnO (.there .here) (fun w hw => Ob.row_at hw)) rfl ?_
    refine vcRem_pos (by first | omega | (simp only; omega)) ?_
    generalize hb : (p.turn + k) % p.n = b at *
    refine vcCall_of (rest := [.row b4 30 [.int .i64 0, .int .i64 0, .int .i64 0] 3]) (by exact .cons (.there .here) (.cons (.there .here) (.cons (.there .here) (.cons (.there .here) Pick.whole.under)))) (up_spec a p b now _ hp) (fun v own' N' hv => ?_)
    obtain ⟨r, rfl, rfl, rfl, hr⟩ := hv
    have next : (¬ elig p now b) → ∀ u' : Bool, (u' = true ↔ (u = true ∨ r = true)) → ((k + 1 : Nat) : Int) ≤ p.n ∧ (u' = true ↔ ∃ i : Nat, i < k + 1 ∧ upB p now ((p.turn + i) % p.n)) ∧ ∀ i : Nat, i < k + 1 → ¬ elig p now ((p.turn + i) % p.n) := by
      intro he u' hu'
      refine ⟨by omega, ?_, fun i hi => ?_⟩
      · rw [hu', hu, hr]
        constructor
        · rintro (⟨i, hi, h⟩ | h)
          · exact ⟨i, by omega, h⟩
          · exact ⟨k, by omega, hb ▸ h⟩
        · rintro ⟨i, hi, h⟩
          rcases Nat.lt_or_ge i k with h' | h'
          · exact .inl ⟨i, h', h⟩
          · obtain rfl : i = k := by omega
            exact .inr (hb ▸ h)
      · rcases Nat.lt_or_ge i k with h' | h'
        · exact hno i h'
        · obtain rfl : i = k := by omega
          rw [hb]; exact he
    cases r with
    | false =>
      refine vcFit_i64 (by first | omega | (simp only; omega)) ?_
      exact ⟨(k + 1, u), next (fun h => absurd (hr.2 h.1) (by simp)) u (by simp), by simp only; omega, ⟨rfl, rfl, rfl, rfl, rfl, rfl, trivial⟩, ⟨_, Pick.rot⟩, fun _ _ => trivial⟩
    | true =>
    have hup := hr.1 rfl
    refine vcCall_of (by exact Pick.front) (latest_spec a p b _ hp) (fun v own' N' hv => ?_)
    obtain ⟨n, rfl, rfl, rfl, hn1⟩ := hv
    refine vcIf_dec (fun hpos => ?_) (fun hpos => ?_)
    · rcases hn1 with ⟨h0, _⟩ | ⟨x, hx, hxi, rfl⟩
      · exact absurd hpos (by omega)
      obtain ⟨pa, pc, hls⟩ := List.append_of_mem hx
      have hgx := getE_mem hx hp.nums
      refine vcLoad1_row (Ent.gnO .here (fun w hw => Ob.row_at hw)) rfl ?_
      refine ⟨rfl, _, _, Ent.gnO (.there (.there .here)) (fun w h => h), _, hgx, ?_⟩
      refine vcStore1_1 (lkOb x) _ (Take.lkP hls) rfl (by show (1 : Nat) < 4; decide) rfl ?_
      refine vcFit_i64 (by first | omega | (simp only; omega)) ?_
      refine vcStore1_1 (plR a p) _ (.there .here) rfl (by show (10 : Nat) < 12; decide) rfl ?_
      refine ⟨rfl, vcStoreN_row _ (.there (.there (.there (.there (.there (Take.app (Take.app .here))))))) rfl (int3 2 x.num b) ?_⟩
      refine vcLoadN_0 (Ent.gnO .here (fun w hw => Ob.row_at hw)) rfl ?_
      have hM : plM a { p with ls := pa ++ { x with st := 1 } :: pc, turn := b + 1 } = plM a p := by
        unfold plM mapO
        simp only
        rw [hls, List.map_append, List.map_append, List.map_cons, List.map_cons]
        rfl
      exact ⟨plO a { p with ls := pa ++ { x with st := 1 } :: pc, turn := b + 1 }, _, MT, .cons (.there .here) (.cons (.there (.there .here)) (.cons (.there (.there (Take.eq hM))) (.cons (.there (.there .here)) Pick.lks.under))), fun _ _ _ => trivial, 2, x.num, b, true, _, rfl, rfl, rfl,
        .inr ⟨k, by omega, hb.symm, hno, rfl, hup, .inl ⟨rfl, pa, x, pc, hls, hxi, rfl, rfl⟩⟩⟩
    · rcases hn1 with ⟨h0, hidle⟩ | ⟨x, hx, hxi, rfl⟩
      case inr => exact absurd (hp.ls x hx).2.1.1 (by omega)
      refine vcCall_of (by exact Pick.front) (count_spec a p b _ hp hll) (fun v own' N' hv => ?_)
      obtain ⟨rfl, rfl, rfl⟩ := hv
      refine vcLoad1_2 (Ent.gnO .here (fun w hw => Ob.row_at hw)) rfl ?_
      refine vcIf_dec (fun hlt => ?_) (fun hlt => ?_)
      · refine vcLoad1_row (Ent.gnO .here (fun w hw => Ob.row_at hw)) rfl ?_
        refine vcFit_i64 (by first | omega | (simp only; omega)) ?_
        refine vcStore1_1 (plR a p) _ .here rfl (by show (8 : Nat) < 12; decide) rfl ?_
        refine vcDraw_mix [0,1,2,3,4,5,6,7,8,9,10,11] (RowAt (some ⟨a.b, 0, none⟩) (plV a { p with last := p.last + 1 })) (by kernel_rfl) (Ent.gnO .here (fun w hw => Ob.row_at hw)) ?_
        refine vcLoad1_row Ent.refl rfl ?_
        refine vcLoad1_row Ent.refl rfl ?_
        intro bl
        refine vcMix_same (Ent.gnO (.there .here) (fun w hw => Ob.row_at hw)) ?_
        refine .new rfl (p.ls.map lkE) p.clock _ (.there (.there (.there .here))) ?_ ?_
        · rcases getE_find (p.last + 1) p.ls with ⟨h, _⟩ | ⟨pa, x, pc, hls, hx, _⟩
          · exact h
          · have := (hp.ls x (by rw [hls]; simp)).2.1
            omega
        refine vcMix_last (by kernel_rfl) ?_
        refine vcFit_i64 (by first | omega | (simp only; omega)) ?_
        refine vcStore1_1 (.row a.b _ (plV a { p with last := p.last + 1 }) 12) _ (.there (.there .here)) rfl (by show (10 : Nat) < 12; decide) rfl ?_
        refine vcLoad1_row (Ent.gnO .here (fun w hw => Ob.row_at hw)) rfl ?_
        refine ⟨rfl, vcStoreN_row _ (.there (.there (.there (.there (.there (Take.app .here)))))) rfl (int3 1 (p.last + 1) b) ?_⟩
        refine vcLoadN_0 (Ent.gnO .here (fun w hw => Ob.row_at hw)) rfl ?_
        have hM : plM a { p with ls := p.ls ++ [newLk p bl b], clock := p.clock + 1, last := p.last + 1, turn := b + 1 } = .map a.mb (mI .i64 (p.ls.map lkE ++ [(p.last + 1, .pointer (some ⟨bl, 0, none⟩), p.clock)])) (p.clock + 1) := by
          unfold plM mapO
          simp only [List.map_append]
          rfl
        have hK : Pick ((p.ls ++ [newLk p bl b]).map lkOb) (lkOb (newLk p bl b) :: (p.ls.map lkOb ++ [])) [] := by
          rw [List.map_append, List.append_nil]; exact Pick.snoc
        exact ⟨plO a { p with ls := p.ls ++ [newLk p bl b], clock := p.clock + 1, last := p.last + 1, turn := b + 1 }, _, MT, .cons (.there .here) (.cons (.there (.there (.there .here))) (.cons (.there (Take.eq hM)) (.cons (.there (.there .here)) hK.under))), fun _ _ _ => trivial, 1, p.last + 1, b, true, _, rfl, rfl, rfl,
          .inr ⟨k, by omega, hb.symm, hno, rfl, hup, .inr ⟨rfl, rfl, hidle, hlt, bl, rfl⟩⟩⟩
      · refine vcFit_i64 (by first | omega | (simp only; omega)) ?_
        refine ⟨(k + 1, true), next (fun h => ?_) true (by simp), by simp only; omega, ⟨rfl, rfl, rfl, rfl, rfl, rfl, trivial⟩, ⟨_, Pick.rot⟩, fun _ _ => trivial⟩
        rcases h.2 with ⟨l, hl, hi⟩ | h
        · rw [hidle l hl] at hi; cases hi
        · exact hlt h
  · refine ⟨rfl, vcStoreN_row _ .here rfl (int3 0 0 0) ?_⟩
    refine vcLoadN_0 (Ent.gnO .here (fun w hw => Ob.row_at hw)) rfl ?_
    refine ⟨plO a p, _, MT, Pick.whole.under, fun _ _ _ => trivial, 0, 0, 0, u, p, rfl, rfl, rfl, .inl ⟨rfl, rfl, rfl, rfl, ?_, ?_⟩⟩
    · rw [hu]
      constructor
      · rintro ⟨i, _, h⟩; exact ⟨_, h⟩
      · rintro ⟨b, h⟩
        have h' := h
        obtain ⟨q, hq, rfl, _⟩ := h'
        obtain ⟨j, hj, he⟩ := turn_all (n := p.n) (t := p.turn) (by omega) q (by omega)
        exact ⟨j, by omega, he ▸ h⟩
    · intro b h
      have h' := h.1
      obtain ⟨q, hq, rfl, _⟩ := h'
      obtain ⟨j, hj, he⟩ := turn_all (n := p.n) (t := p.turn) (by omega) q (by omega)
      exact hno j (by omega) (he ▸ h)
end Go.Proofs.Ytekbimbohppfoaa
