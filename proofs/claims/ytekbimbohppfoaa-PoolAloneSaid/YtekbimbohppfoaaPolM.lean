/- A pool: slices.Delete on ints, Cancel. -/
import Derived.Test.YtekbimbohppfoaaPolJ
namespace Go.Proofs.Ytekbimbohppfoaa
open Go.Proofs
set_option maxRecDepth 10000

theorem cutI_some {a : Addr} {cap l size : Nat} (h : l < cap) : cutA (some a) cap l size = some (a.add (l * size)) := by
  unfold cutA; rw [if_neg (by omega)]; rfl
theorem cutI_zero (A : Option Addr) (cap size : Nat) : cutA A cap 0 size = A := by
  unfold cutA
  split
  · rfl
  · cases A with
    | none => rfl
    | some a => simp [Addr.add]
/-- The bounds of a cut of a slice. -/
theorem vcSlI {A : Option Addr} {size : Nat} {lim l h m : Int} {k : Value → Prop} (ln hn mn : Nat) (hl : l = ln) (hh : h = hn) (hm : m = mn) (h1 : ln ≤ hn) (h2 : hn ≤ mn) (h3 : m ≤ lim) (hk : k (.slice (cutA A mn ln size) (hn - ln) (mn - ln))) : vcSlice3 A size lim l h m k := by
  subst hl; subst hh; subst hm
  exact ⟨⟨by omega, by omega, by omega⟩, h3, by simpa using hk⟩
theorem vcSlIE {A : Option Addr} {size : Nat} {lim l h m : Int} {k : Value → Prop} (ln n c : Nat) (hl : l = ln) (hh : h = (ln + n : Nat)) (hm : m = (ln + c : Nat)) (h2 : n ≤ c) (h3 : m ≤ lim) (hk : k (.slice (cutA A (ln + c) ln size) n c)) : vcSlice3 A size lim l h m k := by
  refine vcSlI ln (ln + n) (ln + c) hl hh hm (by omega) (by omega) h3 ?_
  rw [show ln + n - ln = n from by omega, show ln + c - ln = c from by omega]
  exact hk
theorem vcSlI0 {A : Option Addr} {size : Nat} {lim h m : Int} {k : Value → Prop} (hn mn : Nat) (hh : h = hn) (hm : m = mn) (h2 : hn ≤ mn) (h3 : m ≤ lim) (hk : k (.slice A hn mn)) : vcSlice3 A size lim 0 h m k := by
  refine vcSlI 0 hn mn rfl hh hm (by omega) h2 h3 ?_
  rw [cutI_zero]; exact hk
theorem RowAt.ints {A A' : Option Addr} {xs ys : List Int} {w : World} {cap l : Nat} (h : RowAt A (intL xs) w) (hA : A' = cutA A cap l 1) (hn : xs.length ≤ cap) (hy : ys = (xs.drop l).take ys.length) : RowAt A' (intL ys) w := by
  refine h.cut_eq hA (by rw [List.length_map]; omega) ?_
  rw [List.length_map, Nat.mul_one, ← List.map_drop, ← List.map_take, ← hy]

theorem delI_spec (A : Option Addr) (c : Nat) (a : List Int) (x : Int) (b : List Int) (G : Mp) (hl : (a ++ x :: b).length ≤ 1000000) :
    Spec Try.prog 28 #[.slice A (a ++ x :: b).length c, .int .i64 a.length, .int .i64 (a.length + 1)] [.sl A c 3 1 (intL (a ++ x :: b))] G
      (Own1 (a ++ b).length 3 1 (intL (a ++ b))) := by
  refine Spec.intro (args := [_, _, _]) wide Try.func28 rfl Try.call28 (by rfl) (by rfl) (fun w0 hw0 => ?_)
  have hll : (a ++ x :: b).length = a.length + (b.length + 1) := by simp
  have hab : (a ++ b).length = a.length + b.length := by simp
  have hc : (a ++ x :: b).length ≤ c := by
    have h := Ob.sl_len (hw0.objs _ (.head _))
    rw [List.length_map] at h
    omega
  cases A with
  | none => have h := (hw0.objs _ (.head _)).1; omega
  | some ad =>
  refine vcSlI a.length (a.length + 1) (a ++ x :: b).length rfl (by omega) rfl (by omega) (by omega) (by omega) ?_
  refine vcIf_no (by omega) ?_
  refine vcDraw_mix [0, 1, 2, 3, 4, 5, 6, 7] (GN _ _ _) (by kernel_rfl) Ent.refl ?_
  refine vcSlI0 a.length c rfl rfl (by omega) (by omega) ?_
  refine vcSlIE (a.length + 1) b.length (c - (a.length + 1)) (by omega) (by omega) (by omega) (by omega) (by omega) ?_
  have ht : Take (.sl (some ad) c 3 1 (intL a)) [.sl (some ad) c 3 1 (intL (a ++ x :: b))] [] := by
    have := Take.cut (A := some ad) (cap := c) (ty := 3) (size := 1) (xs := intL (a ++ x :: b)) (l := []) a.length
    rwa [← List.map_take, List.take_left] at this
  refine vcApp_fit (intL a) _ (intL b) (by omega) ht (by simp) (by simp) (by omega) (intL_one _) (Ent.gnO .here fun w hw => ?_) (by omega) (by omega) ?_
  · exact (Ob.sl_at hw).ints (l := a.length + 1) rfl (by omega) (by rw [show a ++ x :: b = (a ++ [x]) ++ b from by simp, List.drop_left' (by simp), List.take_length])
  rw [← List.map_append]
  refine vcMix_last (by kernel_rfl) ?_
  refine vcSlI (a.length + b.length) (a ++ x :: b).length c (by omega) rfl rfl (by omega) hc (by omega) ?_
  have fin : ∃ (own' rest : List Ob) (N' : Mp), Pick own' [.sl (some ad) c 3 1 (intL (a ++ b))] rest ∧ (∀ w, MT w → Objs rest w → N' w) ∧ Own1 (a ++ b).length 3 1 (intL (a ++ b)) (.slice (some ad) (a.length + b.length) c) own' N' :=
    ⟨_, _, MT, .cons .here .nil, fun _ _ _ => trivial, some ad, c, by rw [hab], rfl, rfl, by omega⟩
  refine vcClr_behind ad c (a.length + b.length) _ _ .here ?_ (by simp) (by omega) (by intro v hv; simp only [List.mem_cons, List.not_mem_nil, or_false] at hv; rcases hv with rfl; rfl) fin (fun _ => fin)
  right
  have := cutI_some (a := ad) (cap := c) (l := a.length + b.length) (size := 1) (by omega)
  rwa [Nat.mul_one] at this

theorem idxI_mem {q : List Int} {t : Int} (h : 0 ≤ idxI (fun x => decide (t = x)) q) : ∃ a b, q = a ++ t :: b ∧ idxI (fun x => decide (t = x)) q = a.length := by
  unfold idxI at h ⊢
  cases hf : q.findIdx? (fun x => decide (t = x)) with
  | none => rw [hf] at h; exact absurd h (by decide)
  | some i =>
    rw [List.findIdx?_eq_some_iff_getElem] at hf
    obtain ⟨hi, he, _⟩ := hf
    refine ⟨q.take i, q.drop (i + 1), ?_, by simp; omega⟩
    rw [of_decide_eq_true he, ← List.drop_eq_getElem_cons hi, List.take_append_drop]
def CanTo (p : Pl) (e : Int) (p' : Pl) : Prop := (e = 212 ∧ p' = p) ∨ ∃ q, q.length + 1 = p.q.length ∧ e = 0 ∧ p' = { p with q := q }
theorem cancel_spec (a : PlA) (p : Pl) (t : Int) (G : Mp) (hp : PlOk p) :
    Spec Try.prog 17 #[.pointer (some ⟨a.b, 0, none⟩), .int .i64 t] (plO a p) G (fun v own N => ∃ e p' a', v = .int .i64 e ∧ own = plO a' p' ∧ N = MT ∧ a'.b = a.b ∧ CanTo p e p') := by
  refine Spec.intro (args := [_, _]) wide Try.func17 rfl Try.call17 (by rfl) (by rfl) (fun w0 hw0 => ?_)
  have hql := hp.ql
  have hQ := hp.Q
  refine vcLoad1_row (Ent.gnO .here (fun w hw => Ob.row_at hw)) rfl ?_
  refine vcCall_of .nil (index_spec a.Aq a.cq p.q t _ (Ent.gnO (.there (.there (.there .here))) (fun w hw => Ob.sl_at hw)) (by omega)) (fun v own' N' hv => ?_)
  obtain ⟨rfl, rfl, rfl⟩ := hv
  refine vcIf_dec (fun hlt => ?_) (fun hge => ?_)
  · exact ⟨plO a p, _, MT, Pick.whole, fun _ _ _ => trivial, 212, p, a, rfl, rfl, rfl, rfl, .inl ⟨rfl, rfl⟩⟩
  obtain ⟨qa, qb, hq, hi⟩ := idxI_mem (q := p.q) (t := t) (by omega)
  have hlen : p.q.length = qa.length + (qb.length + 1) := by rw [hq]; simp
  rw [hi]
  refine vcLoad1_row (Ent.gnO .here (fun w hw => Ob.row_at hw)) rfl ?_
  refine vcFit_i64 (by first | omega | (simp only; omega)) ?_
  have hd := delI_spec a.Aq a.cq qa t qb
  rw [← hq] at hd
  refine vcCall_of (rest := plR a p :: plB a p :: plM a p :: p.ls.map lkOb) (.cons (.there (.there (.there .here))) .nil) (hd _ (by omega)) (fun v own' N' hv => ?_)
  obtain ⟨A', c', rfl, rfl, rfl, hc'⟩ := hv
  refine vcStore1_1 (plR a p) _ (.there .here) rfl (by show (11 : Nat) < 12; decide) rfl ?_
  exact ⟨plO { a with Aq := A', cq := c' } { p with q := qa ++ qb }, _, MT, .cons .here (.cons (.there .here) (.cons (.there .here) (.cons .here Pick.whole))), fun _ _ _ => trivial, 0, _, { a with Aq := A', cq := c' }, rfl, rfl, rfl, rfl, .inr ⟨qa ++ qb, by rw [hlen]; simp; omega, rfl, rfl⟩⟩
theorem CanTo.ok {p : Pl} {e : Int} {p' : Pl} (h : CanTo p e p') (hp : PlOk p) : PlOk p' := by
  rcases h with ⟨_, rfl⟩ | ⟨q, hq, _, rfl⟩
  · exact hp
  · have h2 := hp.ql
    exact { hp with ql := by simp only; omega }
end Go.Proofs.Ytekbimbohppfoaa
