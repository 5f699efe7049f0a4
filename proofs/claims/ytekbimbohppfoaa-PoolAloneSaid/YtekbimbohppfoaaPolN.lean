/- A pool: Expire. -/
import Derived.Test.YtekbimbohppfoaaPolM
import Derived.Test.YtekbimbohppfoaaPolK
namespace Go.Proofs.Ytekbimbohppfoaa
open Go.Proofs
set_option maxRecDepth 10000

def Sorts (f : FuncId) : Prop := ∀ (A : Option Addr) (cap : Nat) (zs : List Int) (G : Mp), zs.length < 4611686018427387904 → Spec Try.prog f #[.slice A zs.length cap] [.sl A cap 3 1 (intL zs)] G
  (fun v own N => v = .tuple #[] ∧ (∃ ys : List Int, ys.Perm zs ∧ own = [.sl A cap 3 1 (intL ys)]) ∧ N = MT)

theorem delE_filter {n : Int} : ∀ {ls : List Lk}, (ls.map (·.num)).Nodup → delE n (ls.map lkE) = (ls.filter fun l => decide (l.num ≠ n)).map lkE
  | [], _ => rfl
  | l :: r, hn => by
    rw [List.map_cons, List.nodup_cons] at hn
    rw [List.map_cons]
    unfold delE
    by_cases h : l.num = n
    · have hr : r.filter (fun l => decide (l.num ≠ n)) = r := List.filter_eq_self.2 fun x hx => by
        have : x.num ≠ n := fun e => hn.1 (by rw [h, ← e]; exact List.mem_map_of_mem hx)
        simp [this]
      rw [if_pos (by exact h), List.filter_cons, if_neg (by simp [h]), hr]
    · rw [if_neg (by exact h), List.filter_cons, if_pos (by simp [h]), List.map_cons, delE_filter hn.2]
theorem Pick.lksub : ∀ {a b : List Lk}, a.Sublist b → ∃ r, Pick (a.map lkOb) (b.map lkOb) r
  | _, _, .slnil => ⟨[], .nil⟩
  | _, _, .cons x h => by
    obtain ⟨r, hr⟩ := Pick.lksub h
    exact ⟨_, hr.under⟩
  | _, _, .cons_cons x h => by
    obtain ⟨r, hr⟩ := Pick.lksub h
    exact ⟨r, .cons .here hr⟩
def keepL (gone : List Int) (ls : List Lk) : List Lk := ls.filter fun l => decide (l.num ∉ gone)
theorem keepL_sub (gone : List Int) (ls : List Lk) : (keepL gone ls).Sublist ls := List.filter_sublist
theorem keepL_nil (ls : List Lk) : keepL [] ls = ls := List.filter_eq_self.2 fun x _ => by simp
theorem keepL_snoc (g : List Int) (x : Int) (ls : List Lk) : keepL (g ++ [x]) ls = (keepL g ls).filter fun l => decide (l.num ≠ x) := by
  unfold keepL
  rw [List.filter_filter]
  refine List.filter_congr fun l _ => ?_
  simp only [List.mem_append, List.mem_singleton, not_or, ne_eq]
  by_cases h : l.num = x <;> by_cases h2 : l.num ∈ g <;> simp [h, h2]
def ExpTo (p : Pl) (gone : List Int) (p' : Pl) : Prop := p' = { p with ls := keepL gone p.ls } ∧ ∀ x ∈ gone, ∃ l ∈ p.ls, l.num = x ∧ l.st = 2
theorem ExpTo.ok {p : Pl} {g : List Int} {p' : Pl} (h : ExpTo p g p') (hp : PlOk p) : PlOk p' := by
  obtain ⟨rfl, _⟩ := h
  have hsub := keepL_sub g p.ls
  refine { hp with ls := fun y hy => hp.ls y (hsub.subset hy), born := hp.born.sublist (hsub.map _), nums := hp.nums.sublist (hsub.map _), cnt := fun b => ?_ }
  have := hp.cnt b
  have h2 := hsub.countP_le (p := fun l => decide (l.b = b))
  show (((keepL g p.ls).countP (fun l => decide (l.b = b)) : Nat) : Int) ≤ p.L
  omega
def oldI (p : Pl) (now : Int) (l : Lk) : Bool := decide (l.st = 2) && decide (p.I ≤ now - l.since)

theorem expire_spec (hsort : Sorts 29) (a : PlA) (p : Pl) (now : Int) (G : Mp) (hp : PlOk p) (hll : p.ls.length ≤ 1000000) :
    Spec Try.prog 20 #[.pointer (some ⟨a.b, 0, none⟩), .int .i64 now] (plO a p) G (fun v own N => ∃ A cap gone p', v = .slice A gone.length cap ∧ own = .sl A cap 3 1 (intL gone) :: plO a p' ∧ N = MT ∧ ExpTo p gone p' ∧ gone.length ≤ 1000000) := by
  refine Spec.intro (args := [_, _]) wide Try.func20 rfl Try.call20 (by rfl) (by rfl) (fun w0 hw0 => ?_)
  refine vcCall_of .nil (right_spec now _) (fun v own' N' hv => ?_); obtain ⟨rfl, rfl, rfl⟩ := hv
  refine vcIf_ndec (fun h2 => ?_) (fun h2 => ?_)
  · exact ⟨.sl none 0 3 1 (intL []) :: plO a p, _, MT, .cons .none_ Pick.whole, fun _ _ _ => trivial, none, 0, [], p, rfl, rfl, rfl, ⟨by rw [keepL_nil], fun _ h => by cases h⟩, by simp⟩
  refine vcLoad1_row (Ent.gnO .here (fun w hw => Ob.row_at hw)) rfl ?_
  refine ⟨_, _, Ent.gnO (.there (.there .here)) (fun w h => h), fun r => ?_⟩
  refine vcLoop_of (fun g : List Nat × List Int × Option Addr × Nat => p.ls.length - cntS (fun _ => true) g.1 p.ls) (fun g => [(0, .pointer (some ⟨a.b, 0, none⟩)), (1, .int .i64 now), (5, .slice g.2.2.1 g.2.1.length g.2.2.2), (17, .pointer (some ⟨r, 0, none⟩))])
    (fun g => .iter r a.mb p.clock g.1 p.clock :: .sl g.2.2.1 g.2.2.2 3 1 (intL g.2.1) :: plO a p) (fun _ => MT) (fun g => g.2.1.length = cntS (oldI p now) g.1 p.ls ∧ ∀ x ∈ g.2.1, ∃ l ∈ p.ls, l.num = x ∧ l.st = 2) ([], [], none, 0) ⟨by rw [cntS_nil]; rfl, fun _ h => by cases h⟩ ⟨rfl, rfl, rfl, rfl, trivial⟩ ⟨_, .cons .here (.cons .none_ Pick.whole)⟩ (fun _ _ => trivial) ?_
  rintro ⟨seen, gone, A, cap⟩ ⟨hgl, hgm⟩
  simp only at hgl hgm
  have hgl' := cntS_le (oldI p now) seen p.ls
  have hclock : ∀ l ∈ p.ls, l.born < p.clock := fun l h => (hp.ls l h).2.2.1
  refine ⟨_, _, _, _, _, _, _, .here, Ent.gnO (.there (.there (.there (.there .here)))) (fun w h => h), ?_, fun hov => ?_, fun e he hns => ?_⟩
  · cases hls : p.ls with
    | nil => exact .inr (.inl rfl)
    | cons l r => exact .inr (.inr ⟨_, mI_mem (List.mem_cons_self ..), hclock l (hls ▸ List.mem_cons_self ..)⟩)
  · refine vcCall_of (by exact .cons (.there .here) .nil) (hsort A cap gone _ (by omega)) (fun v own' N' hv => ?_)
    obtain ⟨rfl, ⟨ys, hys, rfl⟩, rfl⟩ := hv
    have hyl := hys.length_eq
    have hym : ∀ x ∈ ys, ∃ l ∈ p.ls, l.num = x ∧ l.st = 2 := fun x hx => hgm x (hys.mem_iff.1 hx)
    rw [← hyl] at hgl ⊢
    refine vcLoop_of (fun k : Nat => ys.length - k) (fun k => [(0, .pointer (some ⟨a.b, 0, none⟩)), (5, .slice A ys.length cap), (48, .slice A ys.length cap), (49, .int .i64 ys.length), (50, .int .i64 k)])
      (fun k => .sl A cap 3 1 (intL ys) :: plR a p :: plB a p :: mapO a.mb (keepL (ys.take k) p.ls) p.clock :: plQ a p :: p.ls.map lkOb) (fun _ => MT) (fun k => k ≤ ys.length) 0 (Nat.zero_le _) ⟨rfl, rfl, rfl, rfl, rfl, trivial⟩
      ⟨_, by rw [List.take_zero, keepL_nil]; exact Pick.cons .here (.cons (.there .here) (.cons (.there .here) (.cons (.there .here) (.cons (.there .here) Pick.whole.under))))⟩ (fun _ _ => trivial) ?_
    intro k hk
    refine vcIf_dec (fun hlt => ?_) (fun hge => ?_)
    · have hk' : k < ys.length := by omega
      refine vcIdx_nat k rfl (Ent.gnO .here (fun w hw => Ob.sl_at hw)) hk' (by simp) (fun ad had => ?_)
      subst had
      refine vcLoad1_row (v := .int .i64 ys[k]) (Ent.gnO .here (fun w hw => Ob.sl_at hw)) (by simp [hk']) ?_
      refine vcLoad1_row (Ent.gnO (.there .here) (fun w hw => Ob.row_at hw)) rfl ?_
      refine .intro rfl ((keepL (ys.take k) p.ls).map lkE) p.clock _ (.there (.there (.there .here))) ?_
      refine vcFit_i64 (by first | omega | (simp only; omega)) ?_
      have hM : mapO a.mb (keepL (ys.take (k + 1)) p.ls) p.clock = .map a.mb (mI .i64 (delE ys[k] ((keepL (ys.take k) p.ls).map lkE))) p.clock := by
        unfold mapO
        rw [delE_filter (hp.nums.sublist ((keepL_sub _ _).map _)), take_snoc_get hk', keepL_snoc]
      exact ⟨k + 1, by omega, by omega, ⟨rfl, rfl, rfl, rfl, rfl, trivial⟩, ⟨_, Pick.cons (.there .here) (.cons (.there .here) (.cons (.there .here) (.cons (Take.eq hM) Pick.whole)))⟩, fun _ _ => trivial⟩
    · obtain rfl : k = ys.length := by omega
      rw [List.take_length]
      obtain ⟨rs, hrs⟩ := Pick.lksub (keepL_sub ys p.ls)
      exact ⟨.sl A cap 3 1 (intL ys) :: plO a { p with ls := keepL ys p.ls }, rs, MT, .cons .here (.cons .here (.cons .here (.cons .here (.cons .here hrs)))), fun _ _ _ => trivial, A, cap, ys, _, rfl, rfl, rfl, ⟨rfl, hym⟩, by omega⟩
  · obtain ⟨l, hl, rfl⟩ := mem_mI he
    simp only at hns
    have hi := cntS_step (f := oldI p now) hl hp.born hns
    have hlt := cntS_lt hl hp.born hns
    have hle := cntS_le (oldI p now) (seen ++ [l.born]) p.ls
    have hlr := (hp.ls l hl).2.2.2
    refine ⟨_, _, _, _, _, _, Ent.gnO .here (fun w h => h), Ent.gnO (.there (.there (.there (.there .here)))) (fun w h => h), _, mI_mem hl, rfl, ?_⟩
    refine vcDraw_quiet (by kernel_rfl) ?_
    have hm : ∀ o o', lkOb l ∈ o :: o' :: plO a p := fun _ _ => List.mem_cons_of_mem _ (List.mem_cons_of_mem _ (lk_mem hl))
    refine vcLoad1_row (Ent.mem (hm _ _) (fun w hw => Ob.row_at hw)) rfl ?_
    refine vcIf_dec (fun hz => ?_) (fun hz => ?_)
    · refine vcLoad1_row (Ent.mem (hm _ _) (fun w hw => Ob.row_at hw)) rfl ?_
      refine vcFit_i64 (by first | omega | (simp only; omega)) ?_
      refine vcLoad1_2 (Ent.gnO (.there (.there .here)) (fun w hw => Ob.row_at hw)) rfl ?_
      refine vcIf_dec (fun ho => ?_) (fun ho => ?_)
      · have e1 : oldI p now l = true := by simp only [oldI, Bool.and_eq_true, decide_eq_true_eq]; exact ⟨hz, ho⟩
        rw [e1, if_pos rfl] at hi
        intro bn
        refine vcApp_of (intL gone) _ [.int .i64 l.num] (.there (.there .here)) (by simp) rfl (by omega) (by intro v hv; rw [List.mem_singleton] at hv; subst hv; rfl) (Ent.gnO .here (fun w hw => Ob.sl_at hw)) (by first | omega | (simp only; omega)) (by first | omega | (simp only; omega)) (fun A' cap' hc' => ?_)
        refine ⟨(seen ++ [l.born], gone ++ [l.num], A', cap'), ⟨?_, fun x hx => ?_⟩, hlt, ⟨rfl, rfl, ?_, rfl, trivial⟩, ⟨_, Pick.cons (.there (.there .here)) (.cons (Take.eq (by simp)) Pick.whole.under)⟩, fun _ _ => trivial⟩
        · simp only [List.length_append, List.length_singleton]; omega
        · rcases List.mem_append.1 hx with hx | hx
          · exact hgm x hx
          · rw [List.mem_singleton] at hx; subst hx; exact ⟨l, hl, rfl, hz⟩
        · simp only [List.length_append, List.length_singleton]; rfl
      · have e1 : oldI p now l = false := by simp only [oldI, Bool.and_eq_false_iff, decide_eq_false_iff_not]; exact .inr ho
        rw [e1, if_neg (by simp)] at hi
        exact ⟨(seen ++ [l.born], gone, A, cap), ⟨by simp only; omega, hgm⟩, hlt, ⟨rfl, rfl, rfl, rfl, trivial⟩, ⟨_, Pick.whole⟩, fun _ _ => trivial⟩
    · have e1 : oldI p now l = false := by simp only [oldI, Bool.and_eq_false_iff, decide_eq_false_iff_not]; exact .inl hz
      rw [e1, if_neg (by simp)] at hi
      exact ⟨(seen ++ [l.born], gone, A, cap), ⟨by simp only; omega, hgm⟩, hlt, ⟨rfl, rfl, rfl, rfl, trivial⟩, ⟨_, Pick.whole⟩, fun _ _ => trivial⟩
end Go.Proofs.Ytekbimbohppfoaa
