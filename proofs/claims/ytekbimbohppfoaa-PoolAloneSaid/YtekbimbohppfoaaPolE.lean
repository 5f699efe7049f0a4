/- A pool: anyUp; the library's searches. -/
import Derived.Test.YtekbimbohppfoaaPolD
namespace Go.Proofs.Ytekbimbohppfoaa
open Go.Proofs
set_option maxRecDepth 10000

theorem Take.last {o : Ob} {l : List Ob} : Take o (l ++ [o]) l := by
  have := Take.mid (o := o) (a := l) (c := [])
  rwa [List.append_nil] at this
def bkA (x : Int × Int) : Value := .agg #[.int .i64 x.1, .int .i64 x.2]
def PredB (f : FuncId) (cap : Array Value) (p : Int × Int → Bool) (G : Mp) : Prop := ∀ x : Int × Int, Spec Try.prog f ([bkA x] ++ cap.toList).toArray [] G (Ret (.bool (p x)))
def idxI {α : Type} (p : α → Bool) (l : List α) : Int := match l.findIdx? p with
  | some i => i
  | none => -1
theorem idxI_take {α : Type} {p : α → Bool} {l : List α} {k : Nat} (hk : k < l.length) (h : ∀ x ∈ l.take k, p x = false) (hp : p l[k] = true) : idxI p l = k := by
  have : l.findIdx? p = some k := by
    rw [List.findIdx?_eq_some_iff_getElem]
    refine ⟨hk, hp, fun j hj => ?_⟩
    have := h l[j] (List.mem_take_iff_getElem.2 ⟨j, by omega, rfl⟩)
    simp [this]
  simp [idxI, this]
theorem idxI_none {α : Type} {p : α → Bool} {l : List α} (h : ∀ x ∈ l, p x = false) : idxI p l = -1 := by
  have : l.findIdx? p = none := List.findIdx?_eq_none_iff.2 h
  simp [idxI, this]
theorem take_all {α : Type} {p : α → Bool} {l : List α} {k : Nat} (hk : k < l.length) (h : ∀ x ∈ l.take k, p x = false) (hp : p l[k] = false) : ∀ x ∈ l.take (k + 1), p x = false := by
  rw [List.take_succ_eq_append_getElem hk]
  intro x hx
  rcases List.mem_append.1 hx with hx | hx
  · exact h x hx
  · simp only [List.mem_singleton] at hx; subst hx; exact hp
theorem idxI_any {α : Type} (p : α → Bool) (l : List α) : decide (0 ≤ idxI p l) = l.any p := by
  cases h : l.findIdx? p with
  | none =>
    have : l.any p = false := by
      rw [List.findIdx?_eq_none_iff] at h
      rw [List.any_eq_false]
      exact fun x hx => by simp [h x hx]
    simp [idxI, h, this]
  | some i =>
    have : l.any p = true := by
      rw [List.findIdx?_eq_some_iff_getElem] at h
      obtain ⟨hi, hp, _⟩ := h
      exact List.any_eq_true.2 ⟨_, List.getElem_mem hi, hp⟩
    simp [idxI, h, this]
theorem indexf_spec (A : Option Addr) (c : Nat) (l : List (Int × Int)) (f : FuncId) (cap : Array Value) (p : Int × Int → Bool) (G : Mp) (h1 : Ent G (RowAt A (bkL l))) (hf : PredB f cap p G) (hl : l.length ≤ 9223372036854775807) :
    Spec Try.prog 35 #[.slice A l.length c, .func (.func f) #[] cap] [] G (Ret (.int .i64 (idxI p l))) := by
  refine Spec.intro (args := [_, _]) wide Try.func35 rfl Try.call35 (by rfl) (by rfl) (fun w0 hw0 => ?_)
  refine vcLoop_of (fun k : Nat => l.length - k) (fun k => [(0, .slice A l.length c), (1, .func (.func f) #[] cap), (7, .int .i64 l.length), (8, .int .i64 k)]) (fun _ => []) (fun _ => MT) (fun k => k ≤ l.length ∧ ∀ x ∈ l.take k, p x = false)
    0 ⟨by omega, by simp⟩ ⟨rfl, rfl, rfl, rfl, trivial⟩ ⟨_, .nil⟩ Ent.refl ?_
  rintro k ⟨hk, ht⟩
  refine vcIf_dec (fun hlt => ?_) (fun hge => ?_)
  · have hk' : k < l.length := by omega
    refine vcIdx_nats (s := 2) k rfl (Ent.gnG h1) hk' (by rw [bkL_len]; omega) (by omega) (fun a ha => ?_)
    subst ha
    refine vcLoadN_1 (bkV l[k]) (Ent.gnG h1) rfl (bkL_chunk hk') ?_
    refine vcCall_of .nil ((hf l[k]).weak (Ent.gnG Ent.refl)) (fun v own' N' hv => ?_)
    obtain ⟨rfl, rfl, rfl⟩ := hv
    refine vcIf_split (fun hp => ?_) (fun hp => ?_)
    · rw [idxI_take hk' ht hp]
      exact ⟨[], _, MT, .nil, fun _ _ _ => trivial, rfl, rfl, rfl⟩
    · refine vcFit_i64 (by omega) ?_
      exact ⟨k + 1, ⟨by omega, take_all hk' ht hp⟩, by omega, ⟨rfl, rfl, rfl, rfl, trivial⟩, ⟨_, .nil⟩, fun _ _ => trivial⟩
  · obtain rfl : k = l.length := by omega
    rw [idxI_none (by simpa using ht)]
    exact ⟨[], _, MT, .nil, fun _ _ _ => trivial, rfl, rfl, rfl⟩
theorem containsf_spec (A : Option Addr) (c : Nat) (l : List (Int × Int)) (f : FuncId) (cap : Array Value) (p : Int × Int → Bool) (G : Mp) (h1 : Ent G (RowAt A (bkL l))) (hf : PredB f cap p G) (hl : l.length ≤ 9223372036854775807) :
    Spec Try.prog 30 #[.slice A l.length c, .func (.func f) #[] cap] [] G (Ret (.bool (l.any p))) := by
  refine Spec.intro (args := [_, _]) wide Try.func30 rfl Try.call30 (by rfl) (by rfl) (fun w0 hw0 => ?_)
  refine vcCall_of .nil (indexf_spec A c l f cap p _ (Ent.gnG h1) (fun x => (hf x).weak (Ent.gnG Ent.refl)) hl) (fun v own' N' hv => ?_); obtain ⟨rfl, rfl, rfl⟩ := hv
  refine ⟨[], _, MT, .nil, fun _ _ _ => trivial, ?_, rfl, rfl⟩
  rw [← idxI_any]
  rfl
theorem any1_spec (b3 : Nat) (now : Int) (x : Int × Int) (G : Mp) (h1 : Ent G (RowAt (some ⟨b3, 0, none⟩) [.int .i64 now])) :
    Spec Try.prog 31 #[bkA x, .pointer (some ⟨b3, 0, none⟩)] [] G (Ret (.bool (decide (x.2 ≤ now)))) := by
  refine Spec.intro (args := [_, _]) wide Try.func31 rfl Try.call31 (by rfl) (by rfl) (fun w0 hw0 => ?_)
  intro b4
  refine vcLoad1_0 (Ent.gnG h1) rfl ?_
  refine vcLoad1_row (Ent.gnO .here (fun w hw => Ob.row_at hw)) rfl ?_
  exact ⟨[], _, MT, .nil, fun _ _ _ => trivial, rfl, rfl, rfl⟩
def anyU (p : Pl) (now : Int) : Bool := p.bs.any fun x => decide (x.2 ≤ now)
theorem anyU_iff {p : Pl} {now : Int} : anyU p now = true ↔ ∃ b, upB p now b := by
  unfold anyU
  rw [List.any_eq_true]
  constructor
  · rintro ⟨x, hx, h⟩
    obtain ⟨k, hk, rfl⟩ := List.mem_iff_getElem.1 hx
    exact ⟨k, k, hk, rfl, of_decide_eq_true h⟩
  · rintro ⟨b, k, hk, _, h⟩
    exact ⟨_, List.getElem_mem hk, decide_eq_true h⟩
theorem anyUp_spec (a : PlA) (p : Pl) (now : Int) (G : Mp) (hp : PlOk p) :
    Spec Try.prog 25 #[.pointer (some ⟨a.b, 0, none⟩), .int .i64 now] (plO a p) G (fun v own N => v = .bool (anyU p now) ∧ own = plO a p ∧ N = MT) := by
  refine Spec.intro (args := [_, _]) wide Try.func25 rfl Try.call25 (by rfl) (by rfl) (fun w0 hw0 => ?_)
  intro b3
  have := hp.bl; have := hp.n
  refine vcLoad1_row (Ent.gnO (.there .here) (fun w hw => Ob.row_at hw)) rfl ?_
  refine vcCall_of .nil (containsf_spec a.Ab a.cb p.bs 31 #[.pointer (some ⟨b3, 0, none⟩)] (fun x => decide (x.2 ≤ now)) _ (Ent.gnO (.there (.there .here)) (fun w hw => Ob.sl_at hw)) (fun x => any1_spec b3 now x _ (Ent.gnO .here (fun w hw => Ob.row_at hw))) (by omega)) (fun v own' N' hv => ?_)
  obtain ⟨rfl, rfl, rfl⟩ := hv
  exact ⟨plO a p, _, MT, Pick.whole.under, fun _ _ _ => trivial, rfl, rfl, rfl⟩

theorem index_spec (A : Option Addr) (c : Nat) (l : List Int) (n : Int) (G : Mp) (h1 : Ent G (RowAt A (intL l))) (hl : l.length ≤ 9223372036854775800) :
    Spec Try.prog 27 #[.slice A l.length c, .int .i64 n] [] G (Ret (.int .i64 (idxI (fun x => decide (n = x)) l))) := by
  refine Spec.intro (args := [_, _]) wide Try.func27 rfl Try.call27 (by rfl) (by rfl) (fun w0 hw0 => ?_)
  refine vcLoop_of (fun k : Nat => l.length - k) (fun k => [(0, .slice A l.length c), (1, .int .i64 n), (7, .int .i64 l.length), (8, .int .i64 k)]) (fun _ => []) (fun _ => MT) (fun k => k ≤ l.length ∧ ∀ x ∈ l.take k, decide (n = x) = false)
    0 ⟨by omega, by simp⟩ ⟨rfl, rfl, rfl, rfl, trivial⟩ ⟨_, .nil⟩ Ent.refl ?_
  rintro k ⟨hk, ht⟩
  refine vcIf_dec (fun hlt => ?_) (fun hge => ?_)
  · have hk' : k < l.length := by omega
    refine vcIdx_nat k rfl (Ent.gnG h1) hk' (by simp) (fun a ha => ?_)
    subst ha
    refine vcLoad1_row (v := .int .i64 l[k]) (Ent.gnG h1) (by simp [hk']) ?_
    refine vcIf_dec (fun hp => ?_) (fun hp => ?_)
    · rw [idxI_take (k := k) hk' ht (decide_eq_true hp)]
      exact ⟨[], _, MT, .nil, fun _ _ _ => trivial, rfl, rfl, rfl⟩
    · refine vcFit_i64 (by omega) ?_
      exact ⟨k + 1, ⟨by omega, take_all hk' ht (decide_eq_false hp)⟩, by omega, ⟨rfl, rfl, rfl, rfl, trivial⟩, ⟨_, .nil⟩, fun _ _ => trivial⟩
  · obtain rfl : k = l.length := by omega
    rw [idxI_none (by simpa using ht)]
    exact ⟨[], _, MT, .nil, fun _ _ _ => trivial, rfl, rfl, rfl⟩
theorem contains_spec (A : Option Addr) (c : Nat) (l : List Int) (n : Int) (G : Mp) (h1 : Ent G (RowAt A (intL l))) (hl : l.length ≤ 9223372036854775800) :
    Spec Try.prog 23 #[.slice A l.length c, .int .i64 n] [] G (Ret (.bool (l.any fun x => decide (n = x)))) := by
  refine Spec.intro (args := [_, _]) wide Try.func23 rfl Try.call23 (by rfl) (by rfl) (fun w0 hw0 => ?_)
  refine vcCall_of .nil (index_spec A c l n _ (Ent.gnG h1) hl) (fun v own' N' hv => ?_); obtain ⟨rfl, rfl, rfl⟩ := hv
  refine ⟨[], _, MT, .nil, fun _ _ _ => trivial, ?_, rfl, rfl⟩
  rw [← idxI_any]
  rfl

/-! ### Acquire -/
def AcqTo (p : Pl) (t now k l b e : Int) (p' : Pl) : Prop :=
  (t ∈ p.q ∧ k = 0 ∧ l = 0 ∧ b = 0 ∧ e = 212 ∧ p' = p) ∨
  (t ∉ p.q ∧ ¬ (0 ≤ now ∧ now ≤ 1099511627776) ∧ k = 0 ∧ l = 0 ∧ b = 0 ∧ e = 112 ∧ p' = p) ∨
  (t ∉ p.q ∧ (0 ≤ now ∧ now ≤ 1099511627776) ∧ e = 0 ∧ ((anyU p now = false ∧ k = 0 ∧ l = 0 ∧ b = 0 ∧ p' = p) ∨
    (anyU p now = true ∧ ((p.q = [] ∧ k ≠ 0 ∧ TakeTo p now k l b true p') ∨
      ((p.q = [] → ∀ b, ¬ elig p now b) ∧ l = 0 ∧ b = 0 ∧ ((p.Q ≤ p.q.length ∧ k = 4 ∧ p' = p) ∨ ((p.q.length : Int) < p.Q ∧ k = 3 ∧ p' = { p with q := p.q ++ [t] })))))))
def grE (k l b e : Int) : Value := .tuple #[.agg #[.int .i64 k, .int .i64 l, .int .i64 b], .int .i64 e]
theorem acquire_spec (a : PlA) (p : Pl) (t now : Int) (G : Mp) (hp : PlOk p) (hla : p.last ≤ 1000000000000000000) (hll : p.ls.length ≤ 1000000000000000000) :
    Spec Try.prog 9 #[.pointer (some ⟨a.b, 0, none⟩), .int .i64 t, .int .i64 now] (plO a p) G (fun v own N => ∃ k l b e p' a', v = grE k l b e ∧ own = plO a' p' ∧ N = MT ∧ a'.b = a.b ∧ AcqTo p t now k l b e p') := by
  refine Spec.introC (args := [_, _, _]) wide Try.func9 rfl Try.call9 (by rfl) (by rfl) [11] (fun w0 hw0 => ?_)
  intro b6
  have hql := hp.ql
  have hQ := hp.Q
  refine vcLoad1_row (Ent.gnO (.there .here) (fun w hw => Ob.row_at hw)) rfl ?_
  refine vcCall_of .nil (contains_spec a.Aq a.cq p.q t _ (Ent.gnO (.there (.there (.there (.there .here)))) (fun w hw => Ob.sl_at hw)) (by omega)) (fun v own' N' hv => ?_)
  obtain ⟨rfl, rfl, rfl⟩ := hv
  have hcon : (p.q.any fun x => decide (t = x)) = decide (t ∈ p.q) := by
    rw [Bool.eq_iff_iff, List.any_eq_true, decide_eq_true_iff]
    exact ⟨fun ⟨x, hx, h⟩ => by rw [of_decide_eq_true h]; exact hx, fun h => ⟨t, h, decide_eq_true rfl⟩⟩
  rw [hcon]
  have fin : ∀ (k l b e : Int) (p' : Pl) (b' : Nat) (ty : TypeId) (vs : List Value) (m : Nat) (N : Mp), AcqTo p t now k l b e p' → ∃ (own' rest : List Ob) (N' : Mp), Pick own' (.row b' ty vs m :: plO a p') rest ∧ (∀ w, N w → Objs rest w → N' w) ∧ ∃ k' l' b' e' p'' a', grE k l b e = grE k' l' b' e' ∧ own' = plO a' p'' ∧ N' = MT ∧ a'.b = a.b ∧ AcqTo p t now k' l' b' e' p'' :=
    fun k l b e p' _ _ _ _ _ h => ⟨plO a p', _, MT, Pick.whole.under, fun _ _ _ => trivial, k, l, b, e, p', a, rfl, rfl, rfl, rfl, h⟩
  refine vcIf_dec (fun h1 => ?_) (fun h1 => ?_)
  · refine ⟨rfl, vcStoreN_row _ .here rfl (int3 0 0 0) ?_⟩
    refine vcLoadN_0 (Ent.gnO .here (fun w hw => Ob.row_at hw)) rfl ?_
    exact fin 0 0 0 212 p _ _ _ _ _ (.inl ⟨h1, rfl, rfl, rfl, rfl, rfl⟩)
  refine vcCall_of .nil (right_spec now _) (fun v own' N' hv => ?_); obtain ⟨rfl, rfl, rfl⟩ := hv
  refine vcIf_ndec (fun h2 => ?_) (fun h2 => ?_)
  · refine ⟨rfl, vcStoreN_row _ .here rfl (int3 0 0 0) ?_⟩
    refine vcLoadN_0 (Ent.gnO .here (fun w hw => Ob.row_at hw)) rfl ?_
    exact fin 0 0 0 112 p _ _ _ _ _ (.inr (.inl ⟨h1, h2, rfl, rfl, rfl, rfl, rfl⟩))
  refine vcCall_of (rest := [_]) (by exact .cons (.there .here) (.cons (.there .here) (.cons (.there .here) (.cons (.there .here) Pick.whole.under)))) (anyUp_spec a p now _ hp) (fun v own' N' hv => ?_)
  obtain ⟨rfl, rfl, rfl⟩ := hv
  cases hany : anyU p now with
  | false =>
    refine ⟨rfl, vcStoreN_row _ (.there (.there (.there (.there Take.last)))) rfl (int3 0 0 0) ?_⟩
    refine vcLoadN_0 (Ent.gnO .here (fun w hw => Ob.row_at hw)) rfl ?_
    exact fin 0 0 0 0 p _ _ _ _ _ (.inr (.inr ⟨h1, h2, rfl, .inl ⟨hany, rfl, rfl, rfl, rfl⟩⟩))
  | true =>
  refine vcCut_of (fun _ : Unit => [(0, .pointer (some ⟨a.b, 0, none⟩)), (1, .int .i64 t), (2, .int .i64 now), (6, .pointer (some ⟨b6, 0, none⟩))]) (fun _ => .row b6 30 [.int .i64 0, .int .i64 0, .int .i64 0] 3 :: plO a p) (fun _ => MT)
    (fun _ => p.q = [] → ∀ b, ¬ elig p now b) ?_ ?_
  · refine vcLoad1_row (Ent.gnO .here (fun w hw => Ob.row_at hw)) rfl ?_
    refine vcIf_dec (fun h0 => ?_) (fun h0 => ?_)
    · have hq : p.q = [] := List.eq_nil_of_length_eq_zero (by omega)
      refine vcCall_of (by exact Pick.front) (take_spec a p now _ hp hla hll) (fun v own' N' hv => ?_)
      obtain ⟨k, l, b, up, p', rfl, rfl, rfl, ht⟩ := hv
      intro b8
      refine ⟨rfl, vcStoreN_row _ .here rfl (int3 k l b) ?_⟩
      refine vcLoad1_row (Ent.gnO .here (fun w hw => Ob.row_at hw)) rfl ?_
      refine vcIf_ndec (fun hk => ?_) (fun hk => ?_)
      · have hup : up = true := by
          rcases ht with ⟨h, _⟩ | ⟨_, _, _, _, h, _⟩
          · exact absurd h hk
          · exact h
        subst hup
        refine vcLoadN_0 (Ent.gnO .here (fun w hw => Ob.row_at hw)) rfl ?_
        refine ⟨rfl, vcStoreN_row _ (.there (.there (.there (.there (.there Take.last))))) rfl (int3 k l b) ?_⟩
        refine vcLoadN_0 (Ent.gnO .here (fun w hw => Ob.row_at hw)) rfl ?_
        exact ⟨plO a p', _, MT, Pick.whole.under.under, fun _ _ _ => trivial, k, l, b, 0, p', a, rfl, rfl, rfl, rfl, .inr (.inr ⟨h1, h2, rfl, .inr ⟨hany, .inl ⟨hq, hk, ht⟩⟩⟩)⟩
      · rcases ht with ⟨_, _, _, rfl, _, hno⟩ | ⟨_, _, _, _, _, _, ⟨h, _⟩ | ⟨h, _⟩⟩
        · exact ⟨(), fun _ => hno, ⟨rfl, rfl, rfl, rfl, trivial⟩, ⟨_, Pick.rot.under⟩, fun _ _ => trivial⟩
        · omega
        · omega
    · exact ⟨(), fun hq => absurd (by rw [hq]; rfl) h0, ⟨rfl, rfl, rfl, rfl, trivial⟩, ⟨_, Pick.rot⟩, fun _ _ => trivial⟩
  intro _ hno
  refine vcDraw_quiet (by kernel_rfl) ?_
  refine vcLoad1_row (Ent.gnO (.there .here) (fun w hw => Ob.row_at hw)) rfl ?_
  refine vcLoad1_2 (Ent.gnO (.there .here) (fun w hw => Ob.row_at hw)) rfl ?_
  refine vcIf_dec (fun h3 => ?_) (fun h3 => ?_)
  · refine ⟨rfl, vcStoreN_row _ .here rfl (int3 4 0 0) ?_⟩
    refine vcLoadN_0 (Ent.gnO .here (fun w hw => Ob.row_at hw)) rfl ?_
    exact fin 4 0 0 0 p _ _ _ _ _ (.inr (.inr ⟨h1, h2, rfl, .inr ⟨hany, .inr ⟨hno, rfl, rfl, .inl ⟨h3, rfl, rfl⟩⟩⟩⟩))
  · refine vcLoad1_row (Ent.gnO (.there .here) (fun w hw => Ob.row_at hw)) rfl ?_
    intro bs
    refine vcApp_of (intL p.q) _ (intL [t]) (.there (.there (.there (.there (.there .here))))) (by simp) rfl (by omega) (intL_one _) (Ent.gnO .here (fun w hw => Ob.sl_at hw)) (by first | omega | (simp only; omega)) (by first | omega | (simp only; omega)) (fun A2 c2 hc2 => ?_)
    rw [show intL p.q ++ intL [t] = intL (p.q ++ [t]) from (List.map_append ..).symm]
    refine vcStore1_1 (plR a p) _ (.there (.there (.there .here))) rfl (by show (11 : Nat) < 12; decide) rfl ?_
    refine ⟨rfl, vcStoreN_row _ (.there (.there (.there .here))) rfl (int3 3 0 0) ?_⟩
    refine vcLoadN_0 (Ent.gnO .here (fun w hw => Ob.row_at hw)) rfl ?_
    have hR : plR { a with Aq := A2, cq := c2 } { p with q := p.q ++ [t] } = (plR a p).set (11 + 0) (.slice A2 (p.q.length + 1) c2) := by
      unfold plR plV; simp [Ob.set]
    exact ⟨plO { a with Aq := A2, cq := c2 } { p with q := p.q ++ [t] }, _, MT, .cons (.there (Take.eq hR)) (.cons (.there (.there (.there .here))) (.cons (.there (.there (.there .here))) (.cons (.there .here) Pick.whole.under.under))), fun _ _ _ => trivial,
      3, 0, 0, 0, _, { a with Aq := A2, cq := c2 }, rfl, rfl, rfl, rfl, .inr (.inr ⟨h1, h2, rfl, .inr ⟨hany, .inr ⟨hno, rfl, rfl, .inr ⟨by omega, rfl, rfl⟩⟩⟩⟩)⟩
end Go.Proofs.Ytekbimbohppfoaa
