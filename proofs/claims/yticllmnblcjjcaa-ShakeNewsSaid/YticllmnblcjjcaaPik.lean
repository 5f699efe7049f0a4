/- Picking objects, more. -/
import Derived.Test.YticllmnblcjjcaaLib
namespace Go.Proofs.Yticllmnblcjjcaa
open Go.Proofs
theorem Take.mem {o : Ob} : ∀ {l : List Ob}, o ∈ l → ∃ l', Take o l l' ∧ l.Perm (o :: l')
  | x :: l, h => by
    rcases List.mem_cons.1 h with rfl | h
    · exact ⟨l, .here, .refl _⟩
    · obtain ⟨l', ht, hp⟩ := Take.mem h
      exact ⟨x :: l', .there ht, (hp.cons x).trans (List.Perm.swap o x l')⟩
theorem Pick.perm : ∀ {s l r : List Ob}, (s ++ r).Perm l → ∃ r', Pick s l r' ∧ r.Perm r'
  | [], l, r, h => ⟨l, .nil, h⟩
  | o :: s, l, r, h => by
    obtain ⟨l', ht, hp⟩ := Take.mem (h.subset (List.mem_cons_self ..))
    obtain ⟨r', hk, hr⟩ := Pick.perm (s := s) (l := l') (r := r) ((List.perm_cons o).1 (h.trans hp))
    exact ⟨r', .cons ht hk, hr⟩
theorem Pick.whole : ∀ {s : List Ob}, Pick s s []
  | [] => .nil
  | _ :: _ => .cons .here Pick.whole
theorem Pick.front : ∀ {s r : List Ob}, Pick s (s ++ r) r
  | [], _ => .nil
  | _ :: _, _ => .cons .here Pick.front
theorem Take.mid {o : Ob} : ∀ {a c : List Ob}, Take o (a ++ o :: c) (a ++ c)
  | [], _ => .here
  | _ :: _, _ => .there Take.mid
theorem Pick.under {o : Ob} : ∀ {s l r : List Ob}, Pick s l r → Pick s (o :: l) (o :: r)
  | [], _, _, .nil => .nil
  | _ :: _, _, _, .cons h k => .cons (.there h) k.under
theorem Ent.mem {G : Mp} {own : List Ob} {N R : Mp} {o : Ob} (h : o ∈ own) (k : ∀ w, o.is w → R w) : Ent (GN G own N) R := fun w hw => k w (hw.2 o h)
theorem Take.app {o : Ob} {l l' : List Ob} : ∀ {a : List Ob}, Take o l l' → Take o (a ++ l) (a ++ l')
  | [], h => h
  | _ :: _, h => .there (Take.app h)
theorem Take.last {o : Ob} {l : List Ob} : Take o (l ++ [o]) l := by
  have := Take.mid (o := o) (a := l) (c := [])
  rwa [List.append_nil] at this
theorem Take.eq {o o' : Ob} {l : List Ob} (h : o = o') : Take o (o' :: l) l := by subst h; exact .here
end Go.Proofs.Yticllmnblcjjcaa
