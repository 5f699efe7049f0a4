/- A reassembly buffer: slices.Delete of the first, Read. -/
import Derived.Test.YteomgafghiockaaReaB
namespace Go.Proofs.Yteomgafghiockaa
open Go.Proofs
set_option maxRecDepth 10000

theorem cutP_some {a : Addr} {cap l size : Nat} (h : l < cap) : cutA (some a) cap l size = some (a.add (l * size)) := by
  unfold cutA; rw [if_neg (by omega)]; rfl
theorem vcSlP {A : Option Addr} {size : Nat} {lim l h m : Int} {k : Value → Prop} (ln hn mn : Nat) (hl : l = ln) (hh : h = hn) (hm : m = mn) (h1 : ln ≤ hn) (h2 : hn ≤ mn) (h3 : m ≤ lim) (hk : k (.slice (cutA A mn ln size) (hn - ln) (mn - ln))) : vcSlice3 A size lim l h m k := by
  subst hl; subst hh; subst hm
  exact ⟨⟨by omega, by omega, by omega⟩, h3, by simpa using hk⟩
theorem vcSlPE {A : Option Addr} {size : Nat} {lim l h m : Int} {k : Value → Prop} (ln n c : Nat) (hl : l = ln) (hh : h = (ln + n : Nat)) (hm : m = (ln + c : Nat)) (h2 : n ≤ c) (h3 : m ≤ lim) (hk : k (.slice (cutA A (ln + c) ln size) n c)) : vcSlice3 A size lim l h m k := by
  refine vcSlP ln (ln + n) (ln + c) hl hh hm (by omega) (by omega) h3 ?_
  rw [show ln + n - ln = n from by omega, show ln + c - ln = c from by omega]
  exact hk
theorem vcSlP0 {A : Option Addr} {size : Nat} {lim h m : Int} {k : Value → Prop} (hn mn : Nat) (hh : h = hn) (hm : m = mn) (h2 : hn ≤ mn) (h3 : m ≤ lim) (hk : k (.slice A hn mn)) : vcSlice3 A size lim 0 h m k := by
  refine vcSlP 0 hn mn rfl hh hm (by omega) h2 h3 ?_
  rw [cutA_0]; exact hk
theorem RowAt.pcs {A A' : Option Addr} {xs ys : List PcM} {w : World} {cap l : Nat} (h : RowAt A (pcL xs) w) (hA : A' = cutA A cap l 2) (hn : xs.length ≤ cap) (hy : ys = xs.drop l) : RowAt A' (pcL ys) w := by
  subst hy
  refine h.cut_eq hA (by rw [pcL_len]; omega) ?_
  rw [pcL_len]
  have : ∀ (l : Nat) (xs : List PcM), (pcL xs).drop (l * 2) = pcL (xs.drop l) := by
    intro l
    induction l with
    | zero => intro xs; rfl
    | succ l ih =>
      intro xs
      cases xs with
      | nil => simp [pcL]
      | cons x r =>
        show ((pcV x ++ pcL r).drop ((l + 1) * 2)) = pcL (r.drop l)
        rw [show (l + 1) * 2 = 2 + l * 2 from by omega, ← List.drop_drop, List.drop_left' (pcV_len x), ih]
  rw [this, ← pcL_len, List.take_length]

theorem delP_spec (A : Option Addr) (c : Nat) (x : PcM) (l : List PcM) (G : Mp) (hl : l.length ≤ 1000000) :
    Spec Try.prog 33 #[.slice A (l.length + 1) c, .int .i64 0, .int .i64 1] [rbS A c (x :: l)] G
      (Own1 l.length 64 2 (pcL l)) := by
  refine Spec.intro (args := [_, _, _]) wide Try.func33 rfl Try.call33 (by rfl) (by rfl) (fun w0 hw0 => ?_)
  have hc : l.length + 1 ≤ c := by
    have h := Ob.sl_len (hw0.objs _ (.head _))
    rw [pcL_len] at h
    simp at h
    omega
  cases A with
  | none => have h := (hw0.objs _ (.head _)).1; omega
  | some ad =>
  refine vcSlP 0 1 (l.length + 1) rfl rfl rfl (by omega) (by omega) (by omega) ?_
  refine vcDraw_mix [0, 1, 2, 3, 4, 5, 6, 7] (GN _ _ _) (by kernel_rfl) Ent.refl ?_
  refine vcSlP0 0 c rfl rfl (by omega) (by omega) ?_
  refine vcSlPE 1 l.length (c - 1) rfl (by omega) (by omega) (by omega) (by omega) ?_
  have ht : Take (.sl (some ad) c 64 2 []) [rbS (some ad) c (x :: l)] [] :=
    Take.cut (A := some ad) (cap := c) (ty := 64) (size := 2) (xs := pcL (x :: l)) (l := []) 0
  refine vcApp_fit [] _ (pcL l) (by omega) ht rfl (by rw [pcL_len]) (by omega) (pcL_one _) (Ent.gnO .here fun w hw => ?_) (by omega) (by omega) ?_
  · exact (Ob.sl_at hw).pcs (l := 1) rfl (by simp; omega) rfl
  refine vcMix_last (by kernel_rfl) ?_
  refine vcSlP l.length (l.length + 1) c (by omega) rfl rfl (by omega) hc (by omega) ?_
  have fin : ∃ (own' rest : List Ob) (N' : Mp), Pick own' [.sl (some ad) c 64 2 ([] ++ pcL l)] rest ∧ (∀ w, MT w → Objs rest w → N' w) ∧ Own1 l.length 64 2 (pcL l) (.slice (some ad) (0 + l.length) c) own' N' :=
    ⟨_, _, MT, .cons .here .nil, fun _ _ _ => trivial, some ad, c, by rw [Nat.zero_add], rfl, rfl, by omega⟩
  refine vcClr_behind ad c (l.length * 2) _ _ .here ?_ (by rw [List.nil_append, pcL_len]; omega) (by omega) (by intro v hv; simp only [List.mem_cons, List.not_mem_nil, or_false] at hv; rcases hv with rfl | rfl <;> rfl) fin (fun _ => fin)
  exact .inr (cutP_some (by omega))
end Go.Proofs.Yteomgafghiockaa
