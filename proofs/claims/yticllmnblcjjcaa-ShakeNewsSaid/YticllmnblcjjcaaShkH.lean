/- Layer 10: the law's rest. -/
import Derived.Test.YticllmnblcjjcaaShkG
namespace Go.Proofs.Yticllmnblcjjcaa
open Go.Proofs
set_option maxRecDepth 10000

theorem not_u8 (x : UInt8) : bitI .xor .u8 255 (x.toNat : Int) = (((255 : UInt8) ^^^ x).toNat : Int) := by
  have h := bitI_xor (kd := .u8) (a := 255) (b := x.toNat) (by decide) (by have := x.toNat_lt; have e : IntKind.u8.max = 255 := by decide
                                                                           rw [e]; omega)
  rw [UInt8.toNat_xor]
  exact h
theorem Bs_set_at (l : List UInt8) (k : Nat) (y : UInt8) : Bs (l.set k y) = (Bs l).set k (.int .u8 y.toNat) := by unfold Bs; rw [List.map_set]; rfl
theorem rhand_spec (d n : Nat) (hn : n < 2) (xs : List Value) (sA : Option Addr) (sc : Nat) (hx : xs[5]? = some (.slice sA n sc)) (G : Mp) (h : Ent G (RowAt (some ⟨d, 0, none⟩) xs)) :
    Spec Try.prog 22 #[.pointer (some ⟨d, 0, none⟩)] [] G (Ret (.tuple #[.slice none 0 0, .slice none 0 0])) := by
  refine Spec.intro (args := [_]) wide Try.func22 rfl Try.call22 (by rfl) (by rfl) (fun w0 hw0 => ?_)
  refine vcLoad1_row (j := 5) (v := .slice sA n sc) (Ent.gnG h) hx ?_
  refine vcIf_yes (by omega) ?_
  exact ⟨[], _, MT, .nil, fun _ _ _ => trivial, rfl, rfl, rfl⟩
theorem rapp_spec (d n : Nat) (hn : n < 2) (xs : List Value) (sA : Option Addr) (sc : Nat) (hx : xs[5]? = some (.slice sA n sc)) (G : Mp) (h : Ent G (RowAt (some ⟨d, 0, none⟩) xs)) :
    Spec Try.prog 23 #[.pointer (some ⟨d, 0, none⟩)] [] G (Ret (.tuple #[.slice none 0 0, .slice none 0 0])) := by
  refine Spec.intro (args := [_]) wide Try.func23 rfl Try.call23 (by rfl) (by rfl) (fun w0 hw0 => ?_)
  refine vcLoad1_row (j := 5) (v := .slice sA n sc) (Ent.gnG h) hx ?_
  refine vcIf_yes (by omega) ?_
  exact ⟨[], _, MT, .nil, fun _ _ _ => trivial, rfl, rfl, rfl⟩
theorem rdone_spec (d n : Nat) (hn : n < 2) (xs : List Value) (sA : Option Addr) (sc : Nat) (hx : xs[5]? = some (.slice sA n sc)) (G : Mp) (h : Ent G (RowAt (some ⟨d, 0, none⟩) xs)) :
    Spec Try.prog 24 #[.pointer (some ⟨d, 0, none⟩)] [] G (Ret (.bool false)) := by
  refine Spec.intro (args := [_]) wide Try.func24 rfl Try.call24 (by rfl) (by rfl) (fun w0 hw0 => ?_)
  refine vcLoad1_row (j := 5) (v := .slice sA n sc) (Ent.gnG h) hx ?_
  refine ⟨[], _, MT, .nil, fun _ _ _ => trivial, ?_, rfl, rfl⟩
  refine congrArg Value.bool (decide_eq_false ?_)
  omega
theorem flL_same {l m : List Fl} (h : l.map (fun f => (f.1, f.2.1, f.2.2.1, f.2.2.2.length)) = m.map (fun f => (f.1, f.2.1, f.2.2.1, f.2.2.2.length))) : flL l = flL m := by
  induction l generalizing m with
  | nil => cases m with
    | nil => rfl
    | cons _ _ => cases h
  | cons x l ih => cases m with
    | nil => cases h
    | cons y m =>
      simp only [List.map_cons, List.cons.injEq, Prod.mk.injEq] at h
      obtain ⟨⟨h1, h2, h3, h4⟩, h5⟩ := h
      simp only [flL, List.flatMap_cons] at ih ⊢
      rw [ih h5]
      simp only [flV, pieceV, h1, h2, h3, h4]
def shp (l : List Fl) : List (Int × Option Addr × Nat × Nat) := l.map (fun f => (f.1, f.2.1, f.2.2.1, f.2.2.2.length))
theorem shp_set {l : List Fl} {i : Nat} (hi : i < l.length) (xs : List UInt8) (hx : xs.length = l[i].2.2.2.length) : shp (l.set i (l[i].1, l[i].2.1, l[i].2.2.1, xs)) = shp l := by
  unfold shp
  rw [List.map_set]
  simp only [hx]
  rw [← List.getElem_map (fun f : Fl => (f.1, f.2.1, f.2.2.1, f.2.2.2.length)) (h := by simpa using hi), List.set_getElem_self]
theorem flO_split {l : List Fl} {i : Nat} (hi : i < l.length) : flO l = flO (l.take i) ++ pO l[i].2 :: flO (l.drop (i + 1)) := by
  rw [show pO l[i].2 :: flO (l.drop (i + 1)) = flO (l[i] :: l.drop (i + 1)) from rfl, ← flO_app, ← List.drop_eq_getElem_cons hi, List.take_append_drop]
theorem flO_set {l : List Fl} {i : Nat} (hi : i < l.length) (lv : Int) (p : Piece) : flO (l.set i (lv, p)) = flO (l.take i) ++ pO p :: flO (l.drop (i + 1)) := by
  have hi' : i < (l.set i (lv, p)).length := by rw [List.length_set]; exact hi
  rw [flO_split hi', List.getElem_set_self, List.take_set_of_le (Nat.le_refl i), List.drop_set_of_lt (by omega)]
end Go.Proofs.Yticllmnblcjjcaa
