/- The library's functions that write rows of spans: Replace, Delete, DeleteFunc. -/
import Derived.Test.YtodnohpogpkngaaSpaB
namespace Go.Proofs.Ytodnohpogpkngaa
open Go.Proofs
set_option maxRecDepth 10000

/-- slices.Replace by one span. -/
theorem replace_spec (A : Option Addr) (c : Nat) (a m b : List Sp) (x : Sp) (bv : Nat) (G : Mp) (hl : (a ++ (m ++ b)).length ≤ 1000000) :
    Spec Try.prog 24 #[.slice A (a ++ (m ++ b)).length c, .int .i64 a.length, .int .i64 (a.length + m.length : Nat), .slice (some ⟨bv, 0, none⟩) 1 1] [.sl A c 29 2 (spL (a ++ (m ++ b))), .sl (some ⟨bv, 0, none⟩) 1 29 2 (spL [x])] G
      (Own1 (a.length + 1 + b.length) 29 2 (spL (a ++ ([x] ++ b)))) := by
  refine Spec.intro (args := [_, _, _, _]) wide Try.func24 rfl Try.call24 (by rfl) (by rfl) (fun w0 hw0 => ?_)
  have hll : (a ++ (m ++ b)).length = a.length + (m.length + b.length) := by simp
  have hc : (a ++ (m ++ b)).length ≤ c := by
    have h := Ob.sl_len (hw0.objs _ (.head _))
    rw [spL_len] at h
    omega
  refine vcSl a.length (a.length + m.length) c rfl rfl rfl (by omega) (by omega) (by omega) ?_
  refine vcIf_dec (fun hm => ?_) (fun hm => ?_)
  · obtain rfl : m = [] := List.eq_nil_of_length_eq_zero (by omega)
    refine vcCall_of (.cons .here (.cons .here .nil)) (insert_spec A c a b x bv _ hl) (fun v own' N' hv => ?_)
    obtain ⟨A', c', rfl, rfl, rfl, hc'⟩ := hv
    refine ⟨_, _, MT, .cons .here .nil, fun _ _ _ => trivial, A', c', ?_, rfl, rfl, by simp at hc'; omega⟩
    simp [tupleOf]; omega
  obtain ⟨m0, m1, rfl⟩ : ∃ m0 m1, m = m0 :: m1 := by
    cases m with
    | nil => simp at hm
    | cons m0 m1 => exact ⟨m0, m1, rfl⟩
  simp only [List.length_cons] at hll
  refine vcIf_dec (fun hj => ?_) (fun hj => ?_)
  · obtain rfl : b = [] := List.eq_nil_of_length_eq_zero (by simp only [List.length_cons] at hj; omega)
    refine vcSl0 a.length c rfl rfl (by omega) (by omega) ?_
    have ht : Take (.sl A c 29 2 (spL a)) [.sl A c 29 2 (spL (a ++ (m0 :: m1 ++ []))), .sl (some ⟨bv, 0, none⟩) 1 29 2 (spL [x])] [.sl (some ⟨bv, 0, none⟩) 1 29 2 (spL [x])] := by
      have := Take.cut (A := A) (cap := c) (ty := 29) (size := 2) (xs := spL (a ++ (m0 :: m1 ++ []))) (l := [.sl (some ⟨bv, 0, none⟩) 1 29 2 (spL [x])]) (a.length * 2)
      rwa [spL_take, List.take_left] at this
    refine vcApp_fit (spL a) _ (spL [x]) (by omega) ht (by rw [spL_len]) rfl (by omega) (spL_one _) (Ent.gnO (.there .here) (fun w hw => Ob.sl_at hw)) (by omega) (by omega) ?_
    rw [← spL_append]
    refine vcIf_dec (fun hlt => ?_) (fun hge => ?_)
    · cases A with
      | none => have h := (hw0.objs _ (.head _)).1; omega
      | some ad =>
      refine vcSl (a.length + 1) (a ++ (m0 :: m1 ++ [])).length c rfl rfl rfl (by omega) hc (by omega) ?_
      refine vcClr_behind ad c ((a.length + 1) * 2) (spL (a ++ [x])) _ .here (.inr (cutA_some (by omega))) (by rw [spL_len]; simp) (by omega) (by intro v hv; simp only [List.mem_cons, List.not_mem_nil, or_false] at hv; rcases hv with rfl | rfl <;> rfl) ?_ (fun h0 => by omega)
      exact ⟨_, _, MT, .cons .here .nil, fun _ _ _ => trivial, some ad, c, rfl, by simp, rfl, by simp; omega⟩
    · exact ⟨_, _, MT, .cons .here .nil, fun _ _ _ => trivial, A, c, rfl, by simp, rfl, by simp; omega⟩
  have hbn : 0 < b.length := by simp only [List.length_cons] at hj; omega
  have e1 : a.length + (m0 :: m1).length = a.length + m1.length + 1 := by simp; omega
  cases A with
  | none => have h := (hw0.objs _ (.head _)).1; omega
  | some ad =>
  refine vcDraw_quiet (by kernel_rfl) ?_
  refine vcSl0 a.length c rfl rfl (by omega) (by omega) ?_
  refine vcFit_i64 (by omega) ?_
  refine vcSl (a.length + (m0 :: m1).length) (a ++ (m0 :: m1 ++ b)).length c rfl rfl rfl (by omega) hc (by omega) ?_
  refine vcFit_i64 (by omega) ?_
  refine vcIf_no (by omega) ?_
  refine vcSl0 (a.length + 1 + b.length) c (by omega) rfl (by omega) (by omega) ?_
  refine vcFit_i64 (by omega) ?_
  refine vcIf_yes (by omega) ?_
  refine vcSl a.length (a.length + 1 + b.length) c rfl rfl rfl (by omega) (by omega) (by omega) ?_
  refine vcCpy_into (a.length * 2) (spL [x]) 1 (spL (a ++ ([x] ++ (m1 ++ b)))) ?_ .here (.inr (cutA_some (by omega))) (by rw [spL_len]; simp; omega) (by omega) rfl (spL_one _) (Ent.gnO (.there .here) (fun w hw => Ob.sl_at hw)) ?_ ?_
  · show 1 = min _ _; omega
  · exact spl_at (r := [m0]) rfl rfl
  refine vcDraw_mix [0, 1, 2, 3, 4, 5, 6, 7, 8, 9] (GN _ _ _) (by kernel_rfl) Ent.refl ?_
  refine vcFit_i64 (by omega) ?_
  refine vcSl (a.length + 1) (a.length + 1 + b.length) c rfl rfl rfl (by omega) (by omega) (by omega) ?_
  refine vcSl (a.length + (m0 :: m1).length) (a ++ (m0 :: m1 ++ b)).length c rfl rfl rfl (by omega) hc (by omega) ?_
  have e2 : a ++ ([x] ++ (m1 ++ b)) = (a ++ [x] ++ m1) ++ b := by simp
  refine vcCpy_into ((a.length + 1) * 2) (spL b) b.length (spL (a ++ ([x] ++ (b ++ (m1 ++ b).drop b.length)))) ?_ .here (.inr (cutA_some (by omega))) (by rw [spL_len]; simp; omega) (by omega) (by rw [spL_len]) (spL_one _) (Ent.gnO .here fun w hw => ?_) ?_ ?_
  · show b.length = min _ _; omega
  · exact (Ob.sl_at hw).spans (l := a.length + (m0 :: m1).length) rfl (by simp; omega) (by rw [e2, List.drop_left' (by simp only [List.length_append, List.length_cons, List.length_nil]; omega), List.take_length])
  · have e3 : a ++ ([x] ++ (m1 ++ b)) = (a ++ [x]) ++ ((m1 ++ b).take b.length ++ (m1 ++ b).drop b.length) := by rw [List.take_append_drop]; simp
    rw [e3, spl_at (by simp) (by simp)]; simp
  refine vcMix_last (by kernel_rfl) ?_
  have ht : Take (.sl (some ad) c 29 2 (spL (a ++ ([x] ++ b)))) [.sl (some ad) c 29 2 (spL (a ++ ([x] ++ (b ++ (m1 ++ b).drop b.length)))), .sl (some ⟨bv, 0, none⟩) 1 29 2 (spL [x])] [.sl (some ⟨bv, 0, none⟩) 1 29 2 (spL [x])] := by
    have := Take.cut (A := some ad) (cap := c) (ty := 29) (size := 2) (xs := spL (a ++ ([x] ++ (b ++ (m1 ++ b).drop b.length)))) (l := [.sl (some ⟨bv, 0, none⟩) 1 29 2 (spL [x])]) ((a ++ ([x] ++ b)).length * 2)
    have e4 : a ++ ([x] ++ (b ++ (m1 ++ b).drop b.length)) = (a ++ ([x] ++ b)) ++ (m1 ++ b).drop b.length := by simp
    rw [spL_take, e4, List.take_left] at this
    rw [e4]; exact this
  refine vcSl (a.length + 1 + b.length) (a ++ (m0 :: m1 ++ b)).length c (by omega) rfl rfl (by omega) hc (by omega) ?_
  have fin : ∀ own, Pick [.sl (some ad) c 29 2 (spL (a ++ ([x] ++ b)))] own [.sl (some ⟨bv, 0, none⟩) 1 29 2 (spL [x])] → ∃ (own' rest : List Ob) (N' : Mp), Pick own' own rest ∧ (∀ w, MT w → Objs rest w → N' w) ∧ Own1 (a.length + 1 + b.length) 29 2 (spL (a ++ ([x] ++ b))) (.slice (some ad) (a.length + 1 + b.length) c) own' N' :=
    fun own hp => ⟨_, _, MT, hp, fun _ _ _ => trivial, some ad, c, rfl, rfl, rfl, by omega⟩
  refine vcClr_behind ad c ((a.length + 1 + b.length) * 2) _ _ ht ?_ (by rw [spL_len]; simp; omega) (by omega) (by intro v hv; simp only [List.mem_cons, List.not_mem_nil, or_false] at hv; rcases hv with rfl | rfl <;> rfl) ?_ ?_
  · by_cases h : a.length + 1 + b.length < c
    · exact .inr (cutA_some h)
    · left; omega
  · exact fin _ (.cons .here .nil)
  · exact fun _ => fin _ (.cons ht .nil)

/-- slices.Delete. -/
theorem delete_spec (A : Option Addr) (c : Nat) (a m b : List Sp) (G : Mp) (hm : m ≠ []) (hl : (a ++ (m ++ b)).length ≤ 1000000) :
    Spec Try.prog 25 #[.slice A (a ++ (m ++ b)).length c, .int .i64 a.length, .int .i64 (a.length + m.length : Nat)] [.sl A c 29 2 (spL (a ++ (m ++ b)))] G
      (Own1 (a ++ b).length 29 2 (spL (a ++ b))) := by
  refine Spec.intro (args := [_, _, _]) wide Try.func25 rfl Try.call25 (by rfl) (by rfl) (fun w0 hw0 => ?_)
  have hll : (a ++ (m ++ b)).length = a.length + (m.length + b.length) := by simp
  have hab : (a ++ b).length = a.length + b.length := by simp
  have hmp : 0 < m.length := List.length_pos_iff.2 hm
  have hc : (a ++ (m ++ b)).length ≤ c := by
    have h := Ob.sl_len (hw0.objs _ (.head _))
    rw [spL_len] at h
    omega
  cases A with
  | none => have h := (hw0.objs _ (.head _)).1; omega
  | some ad =>
  refine vcSl a.length (a.length + m.length) (a ++ (m ++ b)).length rfl rfl rfl (by omega) (by omega) (by omega) ?_
  refine vcIf_no (by omega) ?_
  refine vcDraw_mix [0, 1, 2, 3, 4, 5, 6, 7] (GN _ _ _) (by kernel_rfl) Ent.refl ?_
  refine vcSl0 a.length c rfl rfl (by omega) (by omega) ?_
  refine vcSlE (a.length + m.length) b.length (c - (a.length + m.length)) rfl (by omega) (by omega) (by omega) (by omega) ?_
  have ht : ∀ (d : List Sp), Take (.sl (some ad) c 29 2 (spL d)) [.sl (some ad) c 29 2 (spL (d ++ (m ++ b)))] [] := fun d => by
    have := Take.cut (A := some ad) (cap := c) (ty := 29) (size := 2) (xs := spL (d ++ (m ++ b))) (l := []) (d.length * 2)
    rwa [spL_take, List.take_left] at this
  refine vcApp_fit (spL a) _ (spL b) (by omega) (ht a) (by rw [spL_len]) (by rw [spL_len]) (by omega) (spL_one _) (Ent.gnO .here fun w hw => ?_) (by omega) (by omega) ?_
  · exact (Ob.sl_at hw).spans (l := a.length + m.length) rfl (by omega) (by rw [← List.append_assoc, List.drop_left' (by simp), List.take_length])
  rw [← spL_append]
  refine vcMix_last (by kernel_rfl) ?_
  refine vcSl (a.length + b.length) (a ++ (m ++ b)).length c (by omega) rfl rfl (by omega) hc (by omega) ?_
  have fin : ∃ (own' rest : List Ob) (N' : Mp), Pick own' [.sl (some ad) c 29 2 (spL (a ++ b))] rest ∧ (∀ w, MT w → Objs rest w → N' w) ∧ Own1 (a ++ b).length 29 2 (spL (a ++ b)) (.slice (some ad) (a.length + b.length) c) own' N' :=
    ⟨_, _, MT, .cons .here .nil, fun _ _ _ => trivial, some ad, c, by rw [hab], rfl, rfl, by omega⟩
  refine vcClr_behind ad c ((a.length + b.length) * 2) _ _ .here ?_ (by rw [spL_len]; omega) (by omega) (by intro v hv; simp only [List.mem_cons, List.not_mem_nil, or_false] at hv; rcases hv with rfl | rfl <;> rfl) fin (fun _ => fin)
  exact .inr (cutA_some (by omega))

/-- slices.DeleteFunc. -/
theorem deletef_spec (A : Option Addr) (c : Nat) (l : List Sp) (f : FuncId) (cap : Array Value) (p : Sp → Bool) (G : Mp) (hf : PredF f cap p G) (hl : l.length ≤ 1000000) :
    Spec Try.prog 29 #[.slice A l.length c, .func (.func f) #[] cap] [.sl A c 29 2 (spL l)] G
      (Own1 (l.filter fun x => !p x).length 29 2 (spL (l.filter fun x => !p x))) := by
  refine Spec.intro (args := [_, _]) wide Try.func29 rfl Try.call29 (by rfl) (by rfl) (fun w0 hw0 => ?_)
  have hc : l.length ≤ c := by
    have h := Ob.sl_len (hw0.objs _ (.head _))
    rw [spL_len] at h
    omega
  refine vcCall_of .nil (indexf_spec A c l f cap p _ (Ent.gnO .here (fun w hw => Ob.sl_at hw)) (fun x => (hf x).weak (Ent.gnG Ent.refl)) (by omega)) (fun v own' N' hv => ?_); obtain ⟨rfl, rfl, rfl⟩ := hv
  rcases hfi : l.findIdx? p with _ | i
  · have hi : idxI p l = -1 := by simp [idxI, hfi]
    have hfl : l.filter (fun x => !p x) = l := by
      rw [List.findIdx?_eq_none_iff] at hfi
      exact List.filter_eq_self.2 fun x hx => by simp [hfi x hx]
    rw [hi, hfl]
    exact ⟨_, _, MT, .cons .here .nil, fun _ _ _ => trivial, A, c, rfl, rfl, rfl, hc⟩
  have hi : idxI p l = i := by simp [idxI, hfi]
  rw [hi]
  rw [List.findIdx?_eq_some_iff_getElem] at hfi
  obtain ⟨hil, hpi, hbef⟩ := hfi
  refine vcFit_i64 (by omega) ?_
  have hfi0 : (l.take (i + 1)).filter (fun x => !p x) = l.take i := by
    rw [List.take_succ_eq_append_getElem hil, List.filter_append]
    have e1 : (l.take i).filter (fun x => !p x) = l.take i := List.filter_eq_self.2 fun x hx => by
      obtain ⟨j, hj, rfl⟩ := List.mem_take_iff_getElem.1 hx
      have := hbef j (by omega)
      simpa using this
    rw [e1]; simp [hpi]
  cases A with
  | none => have h := (hw0.objs _ (.head _)).1; omega
  | some ad =>
  refine vcLoop_of (fun g : Nat × List Sp => l.length - g.1) (fun g => [(0, .slice (some ad) l.length c), (1, .func (.func f) #[] cap), (5, .int .i64 ((l.take g.1).filter fun x => !p x).length), (6, .int .i64 g.1)])
    (fun g => [.sl (some ad) c 29 2 (spL (((l.take g.1).filter fun x => !p x) ++ (g.2 ++ l.drop g.1)))]) (fun _ => MT) (fun g => g.1 ≤ l.length ∧ ((l.take g.1).filter fun x => !p x).length + g.2.length = g.1 ∧ g.2 ≠ [])
    (i + 1, [l[i]]) ⟨by omega, by rw [hfi0]; simp; omega, by simp⟩ ⟨rfl, rfl, by rw [hfi0, List.length_take, Nat.min_eq_left (by omega)]; rfl, rfl, trivial⟩ ⟨[], .cons (l' := []) ?_ .nil⟩ (fun _ _ => trivial) ?_
  · show Take (.sl (some ad) c 29 2 (spL (((l.take (i + 1)).filter fun x => !p x) ++ ([l[i]] ++ l.drop (i + 1))))) _ _
    rw [hfi0, show l.take i ++ ([l[i]] ++ l.drop (i + 1)) = l from by rw [List.singleton_append, ← List.drop_eq_getElem_cons hil, List.take_append_drop]]
    exact .here
  rintro ⟨j, gap⟩ ⟨hj, hlen, hgap⟩
  simp only at hj hlen hgap
  obtain ⟨g0, gt, rfl⟩ : ∃ g0 gt, gap = g0 :: gt := by
    cases gap with
    | nil => exact absurd rfl hgap
    | cons g0 gt => exact ⟨g0, gt, rfl⟩
  simp only [List.length_cons] at hlen
  generalize hfl : (l.take j).filter (fun x => !p x) = fl at hlen
  have hz : ∀ v ∈ ([.int .i64 0, .int .i64 0] : List Value), oneCell v = true := by intro v hv; simp only [List.mem_cons, List.not_mem_nil, or_false] at hv; rcases hv with rfl | rfl <;> rfl
  simp only
  refine vcIf_dec (fun hlt => ?_) (fun hge => ?_)
  · have hj' : j < l.length := by omega
    have hdr : l.drop j = l[j] :: l.drop (j + 1) := List.drop_eq_getElem_cons hj'
    refine vcIdx_some j rfl hj' ?_
    refine vcLoadN_1 (spV l[j]) (Ent.gnO .here (fun w hw => Ob.sl_at hw)) rfl ?_ ?_
    · have h : j < (fl ++ (g0 :: gt ++ l.drop j)).length := by simp; omega
      have e := spL_chunk h
      rw [e]
      congr 1
      rw [List.getElem_append_right (by omega), List.getElem_append_right (by simp; omega)]
      simp only [hdr]
      simp [show j - fl.length - (gt.length + 1) = 0 from by omega]
    intro b7
    refine ⟨rfl, vcStoreN_row _ .here rfl (spL_one [l[j]]) ?_⟩
    refine vcLoadN_0 (Ent.gnO .here (fun w hw => Ob.row_at hw)) rfl ?_
    refine vcCall_of .nil ((hf l[j]).weak (Ent.gnG Ent.refl)) (fun v own' N' hv => ?_)
    obtain ⟨rfl, rfl, rfl⟩ := hv
    have hnx : (l.take (j + 1)).filter (fun x => !p x) = if p l[j] = true then fl else fl ++ [l[j]] := by
      rw [List.take_succ_eq_append_getElem hj', List.filter_append, hfl]
      cases hp : p l[j] <;> simp [hp]
    cases hp : p l[j] with
    | true =>
      rw [hp] at hnx
      simp only [if_true] at hnx
      refine vcFit_i64 (by omega) ?_
      refine ⟨(j + 1, g0 :: gt ++ [l[j]]), ⟨by omega, by rw [hnx]; simp; omega, by simp⟩, by omega, ⟨rfl, rfl, by rw [hnx]; rfl, rfl, trivial⟩, ?_, fun _ _ => trivial⟩
      apply pick1
      simp only [hnx]
      rw [List.append_assoc, List.singleton_append, ← hdr]
      exact .there .here
    | false =>
      rw [hp] at hnx
      simp only [Bool.false_eq_true, if_false] at hnx
      refine vcLoadN_0 (Ent.gnO .here (fun w hw => Ob.row_at hw)) rfl ?_
      refine vcIdx_some fl.length rfl (by omega) ?_
      refine ⟨rfl, vcStoreN_1 _ _ (.there .here) rfl ?_ (spL_one [l[j]]) ?_⟩
      · show fl.length * 2 + 2 ≤ (spL _).length
        rw [spL_len]; simp; omega
      refine vcFit_i64 (by omega) ?_
      refine vcFit_i64 (by omega) ?_
      refine ⟨(j + 1, gt ++ [l[j]]), ⟨by omega, by rw [hnx]; simp; omega, by simp⟩, by omega, ⟨rfl, rfl, by rw [hnx, List.length_append]; rfl, rfl, trivial⟩, ?_, fun _ _ => trivial⟩
      apply pick1
      simp only [hnx]
      have e : spl (spL (fl ++ (g0 :: gt ++ l.drop j))) (fl.length * 2) (spV l[j]) = spL (fl ++ [l[j]] ++ (gt ++ [l[j]] ++ l.drop (j + 1))) := by
        have := spl_at (a := fl) (m := [l[j]]) (r := [g0]) (b := gt ++ l.drop j) (n := fl.length * 2) rfl rfl
        rw [show spV l[j] = spL [l[j]] from rfl]
        rw [show fl ++ (g0 :: gt ++ l.drop j) = fl ++ ([g0] ++ (gt ++ l.drop j)) from rfl, this, hdr]
        simp
      rw [← e]
      exact .here
  · obtain rfl : j = l.length := by omega
    rw [List.take_length] at hfl
    rw [hfl]
    rw [List.drop_length, List.append_nil]
    refine vcSl fl.length l.length c rfl rfl rfl (by omega) hc (by omega) ?_
    have ht : Take (.sl (some ad) c 29 2 (spL fl)) [.sl (some ad) c 29 2 (spL (fl ++ g0 :: gt))] [] := by
      have := Take.cut (A := some ad) (cap := c) (ty := 29) (size := 2) (xs := spL (fl ++ g0 :: gt)) (l := []) (fl.length * 2)
      rwa [spL_take, List.take_left] at this
    refine vcClr_behind ad c (fl.length * 2) _ _ ht (.inr (cutA_some (by omega))) (by rw [spL_len]; omega) (by omega) hz ?_ (fun h0 => by omega)
    refine vcSl0 fl.length c rfl rfl (by omega) (by omega) ?_
    exact ⟨_, _, MT, .cons .here .nil, fun _ _ _ => trivial, some ad, c, rfl, rfl, rfl, by omega⟩
end Go.Proofs.Ytodnohpogpkngaa
