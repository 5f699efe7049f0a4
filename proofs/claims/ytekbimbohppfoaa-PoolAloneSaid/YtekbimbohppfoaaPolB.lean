/- A pool: latest, take, anyUp. -/
import Derived.Test.YtekbimbohppfoaaPolA
namespace Go.Proofs.Ytekbimbohppfoaa
open Go.Proofs
set_option maxRecDepth 10000

theorem nodup_inj {α β : Type} {f : α → β} {x y : α} : ∀ {l : List α}, (l.map f).Nodup → x ∈ l → y ∈ l → f x = f y → x = y
  | z :: r, hn, hx, hy, h => by
    rw [List.map_cons, List.nodup_cons] at hn
    rcases List.mem_cons.1 hx with hx1 | hx1 <;> rcases List.mem_cons.1 hy with hy1 | hy1
    · rw [hx1, hy1]
    · exact absurd (by rw [← hx1, h]; exact List.mem_map_of_mem hy1) hn.1
    · exact absurd (by rw [← hy1, ← h]; exact List.mem_map_of_mem hx1) hn.1
    · exact nodup_inj hn.2 hx1 hy1 h
theorem getE_find (n : Int) : ∀ (ls : List Lk), (getE n (ls.map lkE) = none ∧ ∀ l ∈ ls, l.num ≠ n) ∨ ∃ a l c, ls = a ++ l :: c ∧ l.num = n ∧ (∀ x ∈ a, x.num ≠ n) ∧ getE n (ls.map lkE) = some (lkP l, l.born)
  | [] => .inl ⟨rfl, by simp⟩
  | l :: r => by
    by_cases h : l.num = n
    · exact .inr ⟨[], l, r, rfl, h, by simp, by simp [getE, lkE, h]⟩
    · rcases getE_find n r with ⟨h1, h2⟩ | ⟨a, x, c, rfl, h1, h2, h3⟩
      · refine .inl ⟨by simp [getE, lkE, h]; exact h1, fun x hx => ?_⟩
        rcases List.mem_cons.1 hx with rfl | hx
        · exact h
        · exact h2 x hx
      · refine .inr ⟨l :: a, x, c, rfl, h1, fun y hy => ?_, by rw [List.map_cons]; unfold getE; rw [if_neg (by exact h)]; exact h3⟩
        rcases List.mem_cons.1 hy with rfl | hy
        · exact h
        · exact h2 y hy
theorem getE_mem {ls : List Lk} {l : Lk} (hl : l ∈ ls) (hn : (ls.map (·.num)).Nodup) : getE l.num (ls.map lkE) = some (lkP l, l.born) := by
  induction ls with
  | nil => cases hl
  | cons x r ih =>
    rw [List.map_cons, List.nodup_cons] at hn
    rcases List.mem_cons.1 hl with rfl | hl
    · simp [getE, lkE]
    · have hne : x.num ≠ l.num := fun e => hn.1 (by rw [e]; exact List.mem_map_of_mem hl)
      rw [List.map_cons]
      simp only [getE, lkE, hne, if_false]
      exact ih hl hn.2

/-- The link that a server can give again. -/
def LatestIs (p : Pl) (b n : Int) : Prop := (n = 0 ∧ ∀ l ∈ p.ls, isI b l = false) ∨ ∃ l ∈ p.ls, isI b l = true ∧ n = l.num
theorem latest_spec (a : PlA) (p : Pl) (b : Int) (G : Mp) (hp : PlOk p) :
    Spec Try.prog 32 #[.pointer (some ⟨a.b, 0, none⟩), .int .i64 b] (plO a p) G (fun v own N => ∃ n : Int, v = .int .i64 n ∧ own = plO a p ∧ N = MT ∧ LatestIs p b n) := by
  refine Spec.intro (args := [_, _]) wide Try.func32 rfl Try.call32 (by rfl) (by rfl) (fun w0 hw0 => ?_)
  refine vcLoad1_row (Ent.gnO .here (fun w hw => Ob.row_at hw)) rfl ?_
  refine ⟨_, _, Ent.gnO (.there (.there .here)) (fun w h => h), fun r => ?_⟩
  refine vcLoop_of (fun g : List Nat × Int => p.ls.length - cntS (fun _ => true) g.1 p.ls) (fun g => [(0, .pointer (some ⟨a.b, 0, none⟩)), (1, .int .i64 b), (5, .int .i64 g.2), (12, .pointer (some ⟨r, 0, none⟩))])
    (fun g => .iter r a.mb p.clock g.1 p.clock :: plO a p) (fun _ => MT) (fun g => (g.2 = 0 ∧ ∀ l ∈ p.ls, l.born ∈ g.1 → isI b l = false) ∨ ∃ l ∈ p.ls, isI b l = true ∧ g.2 = l.num) ([], 0) (.inl ⟨rfl, fun _ _ h => by cases h⟩) ⟨rfl, rfl, rfl, rfl, trivial⟩ ⟨_, Pick.whole⟩ Ent.refl ?_
  rintro ⟨seen, best⟩ hbest
  simp only at hbest
  have hclock : ∀ l ∈ p.ls, l.born < p.clock := fun l h => (hp.ls l h).2.2.1
  refine ⟨_, _, _, _, _, _, _, .here, Ent.gnO (.there (.there (.there .here))) (fun w h => h), ?_, fun hov => ?_, fun e he hns => ?_⟩
  · cases hls : p.ls with
    | nil => exact .inr (.inl rfl)
    | cons l r => exact .inr (.inr ⟨_, mI_mem (List.mem_cons_self ..), hclock l (hls ▸ List.mem_cons_self ..)⟩)
  · have hall : ∀ l ∈ p.ls, l.born ∈ seen := fun l hl => hov _ (mI_mem hl) (hclock l hl)
    refine ⟨plO a p, _, MT, .cons (.there .here) (.cons (.there .here) (.cons (.there .here) (.cons (.there .here) Pick.whole.under))), fun _ _ _ => trivial, best, rfl, rfl, rfl, ?_⟩
    exact hbest.imp (fun h => ⟨h.1, fun l hl => h.2 l hl (hall l hl)⟩) id
  · obtain ⟨l, hl, rfl⟩ := mem_mI he
    simp only at hns
    have hlt := cntS_lt hl hp.born hns
    have keep : isI b l = false → (best = 0 ∧ ∀ x ∈ p.ls, x.born ∈ seen ++ [l.born] → isI b x = false) ∨ ∃ l ∈ p.ls, isI b l = true ∧ best = l.num := fun hf => hbest.imp (fun h => ⟨h.1, fun x hx hs => by
        rcases List.mem_append.1 hs with hs | hs
        · exact h.2 x hx hs
        · rw [List.mem_singleton] at hs
          have : x = l := by
            exact nodup_inj hp.born hx hl hs
          rw [this]; exact hf⟩) id
    refine ⟨_, _, _, _, _, _, Ent.gnO .here (fun w h => h), Ent.gnO (.there (.there (.there .here))) (fun w h => h), _, mI_mem hl, rfl, ?_⟩
    refine vcDraw_mix [0,1,2,3,4,5,6,7,8,9,10,11,12,13,14,15,16,17,18,19,20,21,22,23,24,25,26,27,28,29,30,31,32] (GN _ _ _) (by kernel_rfl) Ent.refl ?_
    refine vcLoad1_row (Ent.mem (List.mem_cons_of_mem _ (lk_mem hl)) (fun w hw => Ob.row_at hw)) rfl ?_
    refine vcIf_dec (fun hq => ?_) (fun hq => ?_)
    · refine vcLoad1_row (Ent.mem (List.mem_cons_of_mem _ (lk_mem hl)) (fun w hw => Ob.row_at hw)) rfl ?_
      refine vcIf_dec (fun hz => ?_) (fun hz => ?_)
      · have hi : isI b l = true := by simp only [isI, Bool.and_eq_true, decide_eq_true_eq]; exact ⟨hq, hz⟩
        refine vcIf_dec (fun h0 => ?_) (fun h0 => ?_)
        · exact ⟨(seen ++ [l.born], l.num), .inr ⟨l, hl, hi, rfl⟩, hlt, ⟨rfl, rfl, rfl, rfl, trivial⟩, ⟨_, Pick.whole⟩, Ent.refl⟩
        · rcases hbest with ⟨h1, _⟩ | ⟨x, hx, hxi, rfl⟩
          · exact absurd h1 h0
          refine vcLoad1_row (Ent.mem (List.mem_cons_of_mem _ (lk_mem hl)) (fun w hw => Ob.row_at hw)) rfl ?_
          refine vcLoad1_row (Ent.gnO (.there .here) (fun w hw => Ob.row_at hw)) rfl ?_
          refine ⟨rfl, _, _, Ent.gnO (.there (.there (.there .here))) (fun w h => h), _, getE_mem hx hp.nums, ?_⟩
          refine vcLoad1_row (Ent.mem (List.mem_cons_of_mem _ (lk_mem hx)) (fun w hw => Ob.row_at hw)) rfl ?_
          refine vcIf_dec (fun h2 => ?_) (fun h2 => ?_)
          · exact ⟨(seen ++ [l.born], l.num), .inr ⟨l, hl, hi, rfl⟩, hlt, ⟨rfl, rfl, rfl, rfl, trivial⟩, ⟨_, Pick.whole⟩, Ent.refl⟩
          · exact ⟨(seen ++ [l.born], x.num), .inr ⟨x, hx, hxi, rfl⟩, hlt, ⟨rfl, rfl, rfl, rfl, trivial⟩, ⟨_, Pick.whole⟩, Ent.refl⟩
      · have hi : isI b l = false := by simp only [isI, decide_eq_true hq, Bool.true_and]; exact decide_eq_false hz
        exact ⟨(seen ++ [l.born], best), keep hi, hlt, ⟨rfl, rfl, rfl, rfl, trivial⟩, ⟨_, Pick.whole⟩, Ent.refl⟩
    · have hi : isI b l = false := by simp only [isI, decide_eq_false hq, Bool.false_and]
      exact ⟨(seen ++ [l.born], best), keep hi, hlt, ⟨rfl, rfl, rfl, rfl, trivial⟩, ⟨_, Pick.whole⟩, Ent.refl⟩
end Go.Proofs.Ytekbimbohppfoaa
