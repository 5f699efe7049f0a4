/- The library's functions that write rows of spans: Insert, Replace. -/
import Derived.Test.YtodnohpogpkngaaSpaA
import Derived.Lib.Overlaps
namespace Go.Proofs.Ytodnohpogpkngaa
open Go.Proofs
set_option maxRecDepth 10000

theorem RowAt.spans {A A' : Option Addr} {xs ys : List Sp} {w : World} {cap l : Nat} (h : RowAt A (spL xs) w) (hA : A' = cutA A cap l 2) (hn : xs.length ≤ cap) (hy : ys = (xs.drop l).take ys.length) : RowAt A' (spL ys) w := by
  refine h.cut_eq hA (by rw [spL_len]; omega) ?_
  rw [spL_len, spL_drop, spL_take, ← hy]
theorem cutA_some {a : Addr} {cap l size : Nat} (h : l < cap) : cutA (some a) cap l size = some (a.add (l * size)) := by
  unfold cutA; rw [if_neg (by omega)]; rfl
theorem cutA_zero (A : Option Addr) (cap size : Nat) : cutA A cap 0 size = A := by
  unfold cutA
  split
  · rfl
  · cases A with
    | none => rfl
    | some a => simp [Addr.add]
/-- The bounds of a cut of a slice. -/
theorem vcSl {A : Option Addr} {size : Nat} {lim l h m : Int} {k : Value → Prop} (ln hn mn : Nat) (hl : l = ln) (hh : h = hn) (hm : m = mn) (h1 : ln ≤ hn) (h2 : hn ≤ mn) (h3 : m ≤ lim) (hk : k (.slice (cutA A mn ln size) (hn - ln) (mn - ln))) : vcSlice3 A size lim l h m k := by
  subst hl; subst hh; subst hm
  exact ⟨⟨by omega, by omega, by omega⟩, h3, by simpa using hk⟩
theorem vcSlE {A : Option Addr} {size : Nat} {lim l h m : Int} {k : Value → Prop} (ln n c : Nat) (hl : l = ln) (hh : h = (ln + n : Nat)) (hm : m = (ln + c : Nat)) (h2 : n ≤ c) (h3 : m ≤ lim) (hk : k (.slice (cutA A (ln + c) ln size) n c)) : vcSlice3 A size lim l h m k := by
  refine vcSl ln (ln + n) (ln + c) hl hh hm (by omega) (by omega) h3 ?_
  rw [show ln + n - ln = n from by omega, show ln + c - ln = c from by omega]
  exact hk
theorem vcSl0 {A : Option Addr} {size : Nat} {lim h m : Int} {k : Value → Prop} (hn mn : Nat) (hh : h = hn) (hm : m = mn) (h2 : hn ≤ mn) (h3 : m ≤ lim) (hk : k (.slice A hn mn)) : vcSlice3 A size lim 0 h m k := by
  refine vcSl 0 hn mn rfl hh hm (by omega) h2 h3 ?_
  rw [cutA_zero]; exact hk
theorem spl_at {a m r b : List Sp} {n : Nat} (hn : n = a.length * 2) (hr : r.length = m.length) : spl (spL (a ++ (r ++ b))) n (spL m) = spL (a ++ (m ++ b)) := by
  subst hn
  unfold spl
  rw [spL_len, ← Nat.add_mul, spL_take, spL_drop, ← spL_append, ← spL_append, List.take_left, ← List.drop_drop, List.drop_left, List.drop_left' hr, List.append_assoc]
theorem spl_end {a m r : List Sp} {n : Nat} (hn : n = a.length * 2) (hr : r.length ≤ m.length) : spl (spL (a ++ r)) n (spL m) = spL (a ++ m) := by
  subst hn
  unfold spl
  rw [spL_len, ← Nat.add_mul, spL_take, spL_drop, ← spL_append, ← spL_append, List.take_left, ← List.drop_drop, List.drop_left, List.drop_eq_nil_of_le hr, List.append_nil]
theorem zeros_sp (n : Nat) : zerosL n [.int .i64 0, .int .i64 0] = spL (List.replicate n (0, 0)) := by
  induction n with
  | zero => rfl
  | succ n ih =>
    rw [List.replicate_succ, spL_cons, ← ih]; rfl

theorem overlaps_no {w : World} {bv : Nat} {a : Addr} {lv cv lb cb mv mb : Nat} {xs ys : List Value} {ov ob : Obj} (h1 : w.heap[bv]? = some ov) (r1 : RowObj 29 xs mv ov) (h2 : w.heap[a.block]? = some ob) (r2 : RowObj 29 ys mb ob) (hne : bv ≠ a.block) (hm : 0 < mb) :
    (callFunc 34 #[.slice (some ⟨bv, 0, none⟩) lv cv, .slice (some a) lb cb]).run Try.prog w = .ok (.value (.bool false)) w := by
  obtain ⟨sp, fz, hl, rfl, hf⟩ := r1
  obtain ⟨sp2, fz2, hl2, rfl, hf2⟩ := r2
  have hf : fz.1 = fz.2 := hf.resolve_right fun h => absurd h.2 (by decide)
  rw [run_callFunc_extern Try.func34 (by kernel_rfl) (by kernel_rfl) (by kernel_rfl) (e := Extern.SlicesOverlaps.overlaps #[22, 22] #[4]) (by kernel_rfl)]
  have hz : ∀ w, (Go.sizeOf 29).run Try.prog w = .ok 2 w := fun w => by
    obtain ⟨i, hi, hs⟩ : ∃ i, Try.prog.info? 29 = some i ∧ i.size = 2 := ⟨_, rfl, rfl⟩
    rw [run_size hi, hs]
  have hfro : ∀ o, w.frozen? ⟨bv, o, none⟩ = false := fun o => by
    have : ¬ (fz.1 ≤ o ∧ o < fz.2) := by omega
    simp only [World.frozen?, h1]
    simpa using this
  have hk0 : (ys ++ sp2).toArray.size ≠ 0 := by
    rw [List.size_toArray, List.length_append]; omega
  rw [Go.Lib.run_overlaps_apart w 22 4 29 (by kernel_rfl) 2 hz ⟨bv, 0, none⟩ a lv cv lb cb hne 29 29 (xs ++ sp).toArray.size (ys ++ sp2).toArray.size
    (by simp only [World.shape?, h1]) (by simp only [World.shape?, h2]) hk0 (hfro _) (hfro _)]
  rfl

/-- slices.Insert of one span. -/
theorem insert_spec (A : Option Addr) (c : Nat) (a b : List Sp) (x : Sp) (bv : Nat) (G : Mp) (hl : (a ++ b).length ≤ 1000000) :
    Spec Try.prog 33 #[.slice A (a ++ b).length c, .int .i64 a.length, .slice (some ⟨bv, 0, none⟩) 1 1] [.sl A c 29 2 (spL (a ++ b)), .sl (some ⟨bv, 0, none⟩) 1 29 2 (spL [x])] G
      (Own1 ((a ++ b).length + 1) 29 2 (spL (a ++ ([x] ++ b)))) := by
  refine Spec.intro (args := [_, _, _]) wide Try.func33 rfl Try.call33 (by rfl) (by rfl) (fun w0 hw0 => ?_)
  have hll : (a ++ b).length = a.length + b.length := List.length_append
  have hc : (a ++ b).length ≤ c := by
    have h := Ob.sl_len (hw0.objs _ (.head _))
    rw [spL_len] at h
    omega
  refine vcSl a.length (a ++ b).length c rfl rfl rfl (by omega) hc (by omega) ?_
  refine vcIf_dec (fun hi => ?_) (fun hi => ?_)
  · have hb : b = [] := List.eq_nil_of_length_eq_zero (by omega)
    subst hb
    refine vcApp_of (spL (a ++ [])) _ (spL [x]) .here (by rw [spL_len]) (by rw [spL_len]; rfl) (by omega) (spL_one _) (Ent.gnO (.there .here) (fun w hw => Ob.sl_at hw)) (by omega) (by omega) (fun A' cap' hc' => ?_)
    refine ⟨_, _, MT, .cons .here .nil, fun _ _ _ => trivial, A', cap', rfl, ?_, rfl, hc'⟩
    rw [← spL_append]; simp
  have hbn : 0 < b.length := by omega
  obtain ⟨b0, b1, hbs⟩ : ∃ b0 b1, b = b0 :: b1 := by
    cases b with
    | nil => simp at hbn
    | cons b0 b1 => exact ⟨b0, b1, rfl⟩
  refine vcFit_i64 (by omega) ?_
  refine vcIf_dec (fun hgt => ?_) (fun hle => ?_)
  · refine vcSl0 a.length c rfl rfl (by omega) (by omega) ?_
    refine vcFit_i64 (by omega) ?_
    refine vcFit_i64 (by omega) ?_
    refine vcAppZ_far (spL a) (b.length + 1) (by omega) (by omega) (Ent.gnO .here fun w hw => ?_) (by rw [spL_len]) (by omega) (by intro v hv; simp only [List.mem_cons, List.not_mem_nil, or_false] at hv; rcases hv with rfl | rfl <;> rfl) (by omega) (by omega) (fun b2 cap' hc' => ?_)
    · have := Ob.sl_at hw
      rw [spL_append] at this
      exact this.left
    rw [zeros_sp, ← spL_append]
    refine vcSl a.length (a.length + (b.length + 1)) cap' rfl rfl rfl (by omega) hc' (by omega) ?_
    refine vcCpy_into (a.length * 2) (spL [x]) 1 (spL (a ++ ([x] ++ List.replicate b.length (0, 0)))) ?_ .here (.inr (cutA_some (by omega))) (by rw [spL_len]; simp; omega) (by omega) rfl (spL_one _) (Ent.gnO (.there (.there .here)) (fun w hw => Ob.sl_at hw)) ?_ ?_
    · exact (Nat.min_eq_left (by omega)).symm
    · exact spl_at (r := [(0, 0)]) rfl rfl
    refine vcDraw_mix [0, 1, 2, 3, 4, 5, 6, 7, 8] (GN _ _ _) (by kernel_rfl) Ent.refl ?_
    refine vcFit_i64 (by omega) ?_
    refine vcSl (a.length + 1) (a.length + (b.length + 1)) cap' rfl rfl rfl (by omega) hc' (by omega) ?_
    refine vcSl a.length (a ++ b).length c rfl rfl rfl (by omega) hc (by omega) ?_
    refine vcCpy_into ((a.length + 1) * 2) (spL b) b.length (spL (a ++ ([x] ++ b))) ?_ .here (.inr (cutA_some (by omega))) (by rw [spL_len]; simp; omega) (by omega) (by rw [spL_len]) (spL_one _) (Ent.gnO (.there .here) fun w hw => ?_) ?_ ?_
    · rw [hll]; show b.length = min _ _; omega
    · exact (Ob.sl_at hw).spans rfl hc (by rw [List.drop_left, List.take_length])
    · rw [← List.append_assoc, ← List.append_assoc, spl_end (a := a ++ [x]) (by simp) (by simp)]
    refine vcMix_last (by kernel_rfl) ?_
    refine ⟨_, _, MT, .cons .here .nil, fun _ _ _ => trivial, some ⟨b2, 0, none⟩, cap', ?_, rfl, rfl, by omega⟩
    rw [hll, Nat.add_assoc]; rfl
  · cases A with
    | none =>
      have h := hw0.objs _ (.head _)
      have := h.1
      omega
    | some ad =>
    have hne : bv ≠ ad.block := by
      have h := hw0.nodup
      simp [blksOf, Ob.blks] at h
      exact fun e => h e.symm
    refine vcFit_i64 (by omega) ?_
    refine vcSl0 (a.length + b.length + 1) c (by omega) rfl (by omega) (by omega) ?_
    refine vcFit_i64 (by omega) ?_
    refine vcSl (a.length + 1) (a.length + b.length + 1) c rfl rfl rfl (by omega) (by omega) (by omega) ?_
    rw [cutA_some (show a.length + 1 < c by omega)]
    refine .ext (.bool false) (fun w hw => ?_) ?_
    · obtain ⟨_, _, o2, ho2, hr2⟩ := hw.2 _ (.head _)
      obtain ⟨_, _, o1, ho1, hr1⟩ := hw.2 _ (.tail _ (.head _))
      have hb : (ad.add ((a.length + 1) * 2)).block = ad.block := by unfold Addr.add; split <;> rfl
      exact overlaps_no ho1 hr1 (by rw [hb]; exact ho2) hr2 (by rw [hb]; exact hne) (by omega)
    refine vcDraw_mix [0, 1, 2, 3, 4, 5, 6, 7, 8] (GN _ _ _) (by kernel_rfl) Ent.refl ?_
    refine vcFit_i64 (by omega) ?_
    refine vcSl (a.length + 1) (a.length + b.length + 1) c rfl rfl rfl (by omega) (by omega) (by omega) ?_
    refine vcSl a.length (a.length + b.length + 1) c rfl rfl rfl (by omega) (by omega) (by omega) ?_
    refine vcCpy_into ((a.length + 1) * 2) (spL b) b.length (spL (a ++ ([b0] ++ b))) ?_ .here (.inr (cutA_some (by omega))) (by rw [spL_len]; omega) (by omega) (by rw [spL_len]) (spL_one _) (Ent.gnO .here fun w hw => ?_) ?_ ?_
    · show b.length = min _ _; omega
    · exact (Ob.sl_at hw).spans rfl hc (by rw [List.drop_left, List.take_length])
    · have e : a ++ b = (a ++ [b0]) ++ b1 := by rw [hbs]; simp
      rw [e, spl_end (a := a ++ [b0]) (by simp) (by rw [hbs]; simp)]; simp
    refine vcMix_last (by kernel_rfl) ?_
    refine vcSl a.length (a.length + b.length + 1) c rfl rfl rfl (by omega) (by omega) (by omega) ?_
    refine vcCpy_into (a.length * 2) (spL [x]) 1 (spL (a ++ ([x] ++ b))) ?_ .here (.inr (cutA_some (by omega))) (by rw [spL_len]; simp; omega) (by omega) rfl (spL_one _) (Ent.gnO (.there .here) (fun w hw => Ob.sl_at hw)) ?_ ?_
    · show 1 = min _ _; omega
    · exact spl_at (r := [b0]) rfl rfl
    refine ⟨_, _, MT, .cons .here .nil, fun _ _ _ => trivial, some ad, c, ?_, rfl, rfl, by omega⟩
    rw [hll]; rfl
end Go.Proofs.Ytodnohpogpkngaa
