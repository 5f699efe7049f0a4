/- Equality of structs and arrays whose cells are numbers, texts and truth values. -/
import Derived.Test.YticllmnblcjjcaaPure
import Derived.Laws.StructEq
import Derived.ChangeKeysEq
namespace Go.Proofs.Yticllmnblcjjcaa

section
variable {P : Program}

theorem fitsL_length : ∀ {l : List LK} {xs : List Value}, fitsL l xs = true → xs.length = l.length
  | [], [], _ => rfl
  | k :: l, v :: xs, h => by
    simp only [fitsL, Bool.and_eq_true] at h
    simp [fitsL_length h.2]
  | [], _ :: _, h => by cases h
  | _ :: _, [], h => by cases h
theorem fitsL_append : ∀ {l m : List LK} {xs : List Value}, fitsL (l ++ m) xs = true → fitsL l (xs.take l.length) = true ∧ fitsL m (xs.drop l.length) = true
  | [], m, xs, h => by simpa [fitsL] using h
  | k :: l, m, [], h => by cases h
  | k :: l, m, v :: xs, h => by
    simp only [List.cons_append, fitsL, Bool.and_eq_true] at h
    obtain ⟨h1, h2⟩ := fitsL_append h.2
    simp [fitsL, h.1, h1, h2]

def mkV (P : Program) (t : TypeId) (xs : List Value) : Value := match isAggT P t with
  | true => .agg xs.toArray
  | false => xs.headD undef

theorem part_mkV {t : TypeId} {i : TypeInfo} (hu : (P.underlying t).isSome = true) (hi : P.info? t = some i) {xs : Array Value} {off : Nat} (hl : off + i.size ≤ xs.size) (h1 : isAggT P t = false → i.size = 1) (w : World) :
    (part t xs off).run P w = .ok (mkV P t ((xs.toList.drop off).take i.size)) w := by
  obtain ⟨d, hd⟩ := Option.isSome_iff_exists.1 hu
  have hsz : (sizeOf t).run P w = .ok i.size w := by simp [sizeOf, typeInfo, hi]
  have hag : (isAgg t).run P w = .ok (isAggT P t) w := by
    have : (underlying t).run P w = .ok d w := by simp [underlying, hd]
    simp only [isAgg, Sem.run_bind, this, Result.andThen_ok, isAggT, hd]
    cases d <;> rfl
  simp only [part, Sem.run_bind, hag, Result.andThen_ok]
  cases hb : isAggT P t with
  | true =>
    simp only [if_true, Sem.run_bind, hsz, Result.andThen_ok, Sem.run_pure, mkV, hb]
    congr 2
    apply Array.ext'
    simp [List.take_drop]
  | false =>
    have hs := h1 hb
    have hlt : off < xs.size := by omega
    simp only [Bool.false_eq_true, if_false, mkV, hb, hs]
    rw [Array.getElem?_eq_getElem hlt]
    have : (xs.toList.drop off).take 1 = [xs[off]] := by
      rw [List.drop_eq_getElem_cons (by simpa using hlt)]; simp
    rw [this]
    rfl

/-- What equality answers at values whose cells fit. -/
def EqGives (P : Program) (e : Nat) (d : Nat) (t : TypeId) (l : List LK) : Prop := ∀ (xs ys : List Value), fitsL l xs = true → fitsL l ys = true → ∀ w : World, ∃ r, (Op.equalIn (d + e) t (mkV P t xs) (mkV P t ys)).run P w = .ok r w ∧ (r = true ↔ xs = ys)

theorem leaves_one {d : Nat} {t : TypeId} {l : List LK} (h : leaves P d t = some l) (hb : isAggT P t = false) : l.length = 1 := by
  cases d with
  | zero => cases h
  | succ d =>
    unfold leaves at h
    unfold isAggT at hb
    split at h
    · cases h; rfl
    · cases h; rfl
    · cases h; rfl
    · rename_i hu; rw [hu] at hb; cases hb
    · rename_i hu; rw [hu] at hb; cases hb
    · cases h
theorem leaves_some {d : Nat} {t : TypeId} {l : List LK} (h : leaves P d t = some l) : (P.underlying t).isSome = true := by
  cases d with
  | zero => cases h
  | succ d =>
    unfold leaves at h
    split at h
    · rename_i hu; rw [hu]; rfl
    · rename_i hu; rw [hu]; rfl
    · rename_i hu; rw [hu]; rfl
    · rename_i hu; rw [hu]; rfl
    · rename_i hu; rw [hu]; rfl
    · cases h

theorem any_size {t : TypeId} {n : Nat} (h : (P.info? t).any (fun i => i.size == n) = true) : ∃ i, P.info? t = some i ∧ i.size = n := by
  cases hi : P.info? t with
  | none => rw [hi] at h; cases h
  | some i => rw [hi] at h; exact ⟨i, rfl, by simpa using h⟩

theorem two_parts {t : TypeId} {l : List LK} {e d off : Nat} (hl : leaves P d t = some l) (hg : EqGives P e d t l) (hi : (P.info? t).any (fun i => i.size == l.length) = true)
    {xs ys : Array Value} (hx : fitsL l ((xs.toList.drop off).take l.length) = true) (hy : fitsL l ((ys.toList.drop off).take l.length) = true) (hlx : off + l.length ≤ xs.size) (hly : off + l.length ≤ ys.size) (w : World) :
    ∃ a b r, (part t xs off).run P w = .ok a w ∧ (part t ys off).run P w = .ok b w ∧ (Op.equalIn (d + e) t a b).run P w = .ok r w ∧ (r = true ↔ (xs.toList.drop off).take l.length = (ys.toList.drop off).take l.length) := by
  obtain ⟨i, hi, hs⟩ := any_size hi
  have h1 : isAggT P t = false → i.size = 1 := fun hb => by rw [hs]; exact leaves_one hl hb
  obtain ⟨r, hr, hiff⟩ := hg _ _ hx hy w
  exact ⟨_, _, r, part_mkV (leaves_some hl) hi (by omega) h1 w, part_mkV (leaves_some hl) hi (by omega) h1 w, by rw [hs]; exact hr, hiff⟩

theorem split_eq {α : Type} {xs ys : List α} (n : Nat) : xs = ys ↔ xs.take n = ys.take n ∧ xs.drop n = ys.drop n :=
  ⟨fun h => by rw [h]; exact ⟨rfl, rfl⟩, fun ⟨h1, h2⟩ => by rw [← List.take_append_drop n xs, ← List.take_append_drop n ys, h1, h2]⟩

theorem eqFields_gives {e d : Nat} (ih : ∀ t l, leaves P d t = some l → EqGives P e d t l) {xs ys : Array Value} : ∀ (fs : List Field) (off : Nat) (l : List LK), leavesF P (leaves P d) off fs = some l →
    fitsL l (xs.toList.drop off) = true → fitsL l (ys.toList.drop off) = true → ∀ w : World, ∃ r, (Op.eqFields (d + e) xs ys fs).run P w = .ok r w ∧ (r = true ↔ xs.toList.drop off = ys.toList.drop off)
  | [], off, l, h, hx, hy, w => by
    cases h
    have h1 := fitsL_length hx
    have h2 := fitsL_length hy
    exact ⟨true, rfl, by rw [List.eq_nil_of_length_eq_zero h1, List.eq_nil_of_length_eq_zero h2]; simp⟩
  | f :: r, off, l, h, hx, hy, w => by
    unfold leavesF at h
    split at h
    · cases h
    rename_i lf hlf
    split at h
    · cases h
    rename_i hb
    split at h
    · cases h
    rename_i m hm
    cases h
    simp only [Bool.and_eq_true, beq_iff_eq, decide_eq_true_eq] at hb
    obtain ⟨⟨⟨hoff, hname⟩, hi⟩, hlt⟩ := hb
    have hlt : 0 < lf.length := by simpa using hlt
    have lx := fitsL_length hx
    have ly := fitsL_length hy
    simp only [List.length_drop, List.length_append, Array.length_toList] at lx ly
    obtain ⟨hx1, hx2⟩ := fitsL_append hx
    obtain ⟨hy1, hy2⟩ := fitsL_append hy
    rw [List.drop_drop] at hx2 hy2
    obtain ⟨a, b, r1, p1, p2, p3, hiff1⟩ := two_parts (off := off) hlf (ih _ _ hlf) hi hx1 hy1 (by omega) (by omega) w
    obtain ⟨r2, hr2, hiff2⟩ := eqFields_gives ih r (off + lf.length) m hm hx2 hy2 w
    rw [split_eq lf.length (xs := xs.toList.drop off), List.drop_drop, List.drop_drop]
    rw [← hoff] at p1 p2
    simp only [Op.eqFields, hname, ne_eq, not_false_eq_true, if_true, Sem.run_bind, p1, p2, p3, Result.andThen_ok]
    cases r1
    · exact ⟨false, by simp, by simp only [Bool.false_eq_true, false_iff]; intro hh; exact absurd (hiff1.2 hh.1) (by simp)⟩
    · refine ⟨r2, by simpa using hr2, ?_⟩
      rw [hiff2]
      exact ⟨fun hh => ⟨hiff1.1 rfl, hh⟩, fun hh => hh.2⟩

theorem eqItems_gives {e d : Nat} {t : TypeId} {l : List LK} {c : Nat} (hl : leaves P d t = some l) (hg : EqGives P e d t l) (hi : (P.info? t).any (fun i => i.size == l.length) = true) (hc : c = l.length) {xs ys : Array Value} (hpos : xs.size = ys.size) :
    ∀ (n s : Nat), fitsL (List.replicate n l).flatten (xs.toList.drop (s * c)) = true → fitsL (List.replicate n l).flatten (ys.toList.drop (s * c)) = true → (s + n) * c = xs.size → ∀ w : World,
      ∃ r, (Op.eqItems (d + e) t c xs ys (List.range' s n)).run P w = .ok r w ∧ (r = true ↔ xs.toList.drop (s * c) = ys.toList.drop (s * c))
  | 0, s, hx, hy, hsz, w => by
    have h1 := fitsL_length hx
    have h2 := fitsL_length hy
    simp only [List.replicate_zero, List.flatten_nil, List.length_nil] at h1 h2
    exact ⟨true, rfl, by rw [List.eq_nil_of_length_eq_zero h1, List.eq_nil_of_length_eq_zero h2]; simp⟩
  | n + 1, s, hx, hy, hsz, w => by
    rw [List.replicate_succ, List.flatten_cons] at hx hy
    obtain ⟨hx1, hx2⟩ := fitsL_append hx
    obtain ⟨hy1, hy2⟩ := fitsL_append hy
    rw [List.drop_drop, ← hc, ← Nat.succ_mul] at hx2 hy2
    have hle : s * c + l.length ≤ xs.size := by
      rw [← hsz, ← hc, ← Nat.succ_mul]; exact Nat.mul_le_mul_right _ (by omega)
    obtain ⟨a, b, r1, p1, p2, p3, hiff1⟩ := two_parts (off := s * c) hl hg hi hx1 hy1 hle (by omega) w
    obtain ⟨r2, hr2, hiff2⟩ := eqItems_gives hl hg hi hc hpos n (s + 1) hx2 hy2 (by rw [← hsz]; congr 1; omega) w
    rw [split_eq l.length (xs := xs.toList.drop (s * c)), List.drop_drop, List.drop_drop, ← hc, ← Nat.succ_mul]
    rw [List.range'_succ]
    simp only [Op.eqItems, Sem.run_bind, p1, p2, p3, Result.andThen_ok]
    rw [← hc] at hiff1
    cases r1
    · exact ⟨false, by simp, by simp only [Bool.false_eq_true, false_iff]; intro hh; exact absurd (hiff1.2 hh.1) (by simp)⟩
    · refine ⟨r2, by simpa using hr2, ?_⟩
      rw [hiff2]
      exact ⟨fun hh => ⟨hiff1.1 rfl, hh⟩, fun hh => hh.2⟩

theorem flatten_rep_length (n : Nat) (l : List LK) : (List.replicate n l).flatten.length = n * l.length := by simp

theorem eq_leaves (e : Nat) : ∀ (d : Nat) (t : TypeId) (l : List LK), leaves P d t = some l → EqGives P e d t l
  | 0, _, _, h => by cases h
  | d + 1, t, l, h => by
    have ih := eq_leaves e d
    intro xs ys hx hy w
    have hde : d + 1 + e = (d + e) + 1 := by omega
    unfold leaves at h
    split at h
    · rename_i hu
      cases h
      have hb : isAggT P t = false := by unfold isAggT; rw [hu]
      match xs, ys, hx, hy with
      | [.bool a], [.bool b], _, _ =>
        refine ⟨a == b, ?_, by simp⟩
        rw [hde]; unfold mkV; rw [hb]
        exact run_equalIn_bool' w _ t a b hu
    · rename_i hu
      cases h
      have hb : isAggT P t = false := by unfold isAggT; rw [hu]
      match xs, ys, hx, hy with
      | [.string a], [.string b], _, _ =>
        refine ⟨a.toList == b.toList, ?_, by simp [ByteArray.toList_eq, ByteArray.ext_iff]⟩
        rw [hde]; unfold mkV; rw [hb]
        exact run_equalIn_string w _ t a b hu
    · rename_i k hu
      cases h
      have hb : isAggT P t = false := by unfold isAggT; rw [hu]
      obtain ⟨k1, a, rfl⟩ : ∃ k1 a, xs = [.int k1 a] := by
        have h1 := fitsL_length hx
        obtain ⟨v, rfl⟩ := List.length_eq_one_iff.1 h1
        cases v <;> first | exact ⟨_, _, rfl⟩ | cases hx
      obtain ⟨k2, b, rfl⟩ : ∃ k1 a, ys = [.int k1 a] := by
        have h1 := fitsL_length hy
        obtain ⟨v, rfl⟩ := List.length_eq_one_iff.1 h1
        cases v <;> first | exact ⟨_, _, rfl⟩ | cases hy
      have e1 : k = k1 := by simpa [fitsL, LK.fit] using hx
      have e2 : k = k2 := by simpa [fitsL, LK.fit] using hy
      subst e1; subst e2
      refine ⟨a == b, ?_, by simp⟩
      rw [hde]; unfold mkV; rw [hb]
      exact run_equalIn_int w _ t _ _ a b hu
    · rename_i fs hu
      split at h
      · cases h
      rename_i hst
      have hb : isAggT P t = true := by unfold isAggT; rw [hu]
      have hf : P.fieldsOf t = fs := by unfold Program.fieldsOf; rw [hu]
      obtain ⟨r, hr, hiff⟩ := eqFields_gives (e := e) ih (xs := xs.toArray) (ys := ys.toArray) fs.toList 0 l h (by simpa using hx) (by simpa using hy) w
      refine ⟨r, ?_, by simpa using hiff⟩
      rw [hde]; unfold mkV; rw [hb]
      simp only
      rw [run_equalIn_struct w _ t _ _ (by rw [hf]; exact hu) hst, hf]
      exact hr
    · rename_i n el hu
      split at h
      · cases h
      rename_i le hle
      split at h
      case h_2 => cases h
      rename_i hi
      cases h
      obtain ⟨i, hi', hs⟩ := any_size hi
      have hb : isAggT P t = true := by unfold isAggT; rw [hu]
      have hcells : P.cellsOf el = le.length := by unfold Program.cellsOf; rw [hi']; exact hs
      have lx := fitsL_length hx
      have ly := fitsL_length hy
      rw [flatten_rep_length] at lx ly
      obtain ⟨r, hr, hiff⟩ := eqItems_gives (e := e) hle (ih _ _ hle) hi hcells (xs := xs.toArray) (ys := ys.toArray) (by simp [lx, ly]) n 0 (by simpa using hx) (by simpa using hy) (by rw [hcells]; simp [lx]) w
      refine ⟨r, ?_, by simpa using hiff⟩
      rw [hde]; unfold mkV; rw [hb]
      simp only
      rw [run_equalIn_array w _ _ _ hu hi', List.range_eq_range']
      exact hr
    · cases h

theorem vcEqA_gives {t : TypeId} {xs ys : Array Value} {X : Bool → Prop} (h : vcEqA P t xs.toList ys.toList X) :
    ∃ b, X b ∧ (∀ w, (Op.equal t (.agg xs) (.agg ys)).run P w = .ok b w) ∧ P.eqGuardType P.depth t = false := by
  obtain ⟨l, hl, hx, hy, b, hb, hk⟩ := h
  simp only [eqType, Bool.and_eq_true, decide_eq_true_eq, Bool.not_eq_true'] at hl
  refine ⟨b, hk, fun w => ?_, hl.1.2⟩
  obtain ⟨r, hr, hiff⟩ := eq_leaves (P := P) 9992 8 t l hl.1.1 _ _ hx hy w
  have hrb : r = b := by
    cases r <;> cases b <;> simp_all
  subst hrb
  unfold mkV at hr
  rw [hl.2] at hr
  exact hr
end
end Go.Proofs.Yticllmnblcjjcaa
