/- Parameters: Decode. -/
import Derived.Test.YtaknehiifafhfaaParB
namespace Go.Proofs.Ytaknehiifafhfaa
open Go.Proofs
set_option maxRecDepth 10000

structure DS where
  pos : Nat
  seen : List Int
  p : Pm
/-- One parameter: what is wrong, or what is behind it. -/
def decStep (bs : List UInt8) (server : Bool) (s : DS) : Int ⊕ DS :=
  if (rbytes bs (rnum bs (rnum bs (s.pos, 0)).2).1 (rnum bs (rnum bs (s.pos, 0)).2).2).2.2 ≠ 0 then .inl 12
  else if (rnum bs (s.pos, 0)).1 ∈ s.seen then .inl 90
  else if (takeP s.p (rnum bs (s.pos, 0)).1 (rbytes bs (rnum bs (rnum bs (s.pos, 0)).2).1 (rnum bs (rnum bs (s.pos, 0)).2).2).1 server).2 = false then .inl 91
  else .inr ⟨(rbytes bs (rnum bs (rnum bs (s.pos, 0)).2).1 (rnum bs (rnum bs (s.pos, 0)).2).2).2.1, s.seen ++ [(rnum bs (s.pos, 0)).1], (takeP s.p (rnum bs (s.pos, 0)).1 (rbytes bs (rnum bs (rnum bs (s.pos, 0)).2).1 (rnum bs (rnum bs (s.pos, 0)).2).2).1 server).1⟩
inductive ParD (bs : List UInt8) (server : Bool) : DS → Pm × Int × Int → Prop
  | done {s : DS} (h : bs.length ≤ s.pos) : ParD bs server s (s.p, 0, 0)
  | err {s : DS} (h : s.pos < bs.length) {e : Int} (he : decStep bs server s = .inl e) : ParD bs server s (zeroP, s.pos, e)
  | step {s s' : DS} (h : s.pos < bs.length) (he : decStep bs server s = .inr s') {r : Pm × Int × Int} (k : ParD bs server s' r) : ParD bs server s r
theorem ParD.unique {bs : List UInt8} {server : Bool} {s : DS} {r r' : Pm × Int × Int} (h : ParD bs server s r) (h' : ParD bs server s r') : r = r' := by
  induction h with
  | done h =>
    cases h' with
    | done => rfl
    | err h2 => omega
    | step h2 => omega
  | err h he =>
    cases h' with
    | done h2 => omega
    | err h2 he2 => rw [he] at he2; cases he2; rfl
    | step h2 he2 => rw [he] at he2; cases he2
  | step h he k ih =>
    cases h' with
    | done h2 => omega
    | err h2 he2 => rw [he] at he2; cases he2
    | step h2 he2 k2 => rw [he] at he2; cases he2; exact ih k2
def s0 : DS := ⟨0, [], usualP⟩
def DecR (bs : List UInt8) (server : Bool) (r : Pm × Int × Int) : Prop := (16384 < bs.length ∧ r = (zeroP, 0, 52)) ∨ (bs.length ≤ 16384 ∧ ParD bs server s0 r)
theorem DecR.unique {bs : List UInt8} {server : Bool} {r r' : Pm × Int × Int} (h : DecR bs server r) (h' : DecR bs server r') : r = r' := by
  rcases h with ⟨h1, rfl⟩ | ⟨h1, h2⟩ <;> rcases h' with ⟨h3, rfl⟩ | ⟨h3, h4⟩
  · rfl
  · omega
  · omega
  · exact h2.unique h4

theorem vget_end_lt {bs : List UInt8} {p n en : Nat} (hp : p ≤ bs.length) (h : vget bs p = ((n : Int), (en : Int), 0)) : p < en := by
  cases hd : bs.drop p with
  | nil => rw [vget_end hp hd] at h; simp at h
  | cons b r =>
    by_cases hs : r.length + 1 < 2 ^ (b.toNat / 64)
    · rw [vget_short hp hd hs] at h; simp at h
    · rw [vget_ok hp hd hs] at h
      simp only [Prod.mk.injEq] at h
      have := Nat.two_pow_pos (b.toNat / 64)
      omega
theorem rnum_pos {bs : List UInt8} {s : Nat × Int} (hp : s.1 ≤ bs.length) (h : (rnum bs s).2.2 = 0) : s.2 = 0 ∧ s.1 < (rnum bs s).2.1 ∧ 0 ≤ (rnum bs s).1 := by
  obtain ⟨p, f⟩ := s
  simp only at hp ⊢
  by_cases hf : f = 0
  · subst hf
    rcases vget_cases bs p hp with ⟨e, he, hne⟩ | ⟨n, en, he, _⟩
    · rw [rnum_no he hne] at h; exact absurd h hne
    · rw [rnum_ok he]; exact ⟨rfl, vget_end_lt hp he, by simp⟩
  · rw [rnum_fault hf] at h; exact absurd h hf
theorem rnum_fix {bs : List UInt8} {s : Nat × Int} (h : s.2 ≠ 0) : rnum bs s = (0, s) := if_pos h
theorem rbytes_fix {bs : List UInt8} {n : Int} {s : Nat × Int} (h : s.2 ≠ 0) : rbytes bs n s = ([], s) := if_pos h
/-- A step goes on. -/
theorem decStep_pos {bs : List UInt8} {server : Bool} {s s' : DS} (hp : s.pos ≤ bs.length) (h : decStep bs server s = .inr s') : s.pos < s'.pos ∧ s'.pos ≤ bs.length := by
  unfold decStep at h
  split at h
  · cases h
  rename_i hf
  have hf : (rbytes bs (rnum bs (rnum bs (s.pos, 0)).2).1 (rnum bs (rnum bs (s.pos, 0)).2).2).2.2 = 0 := Classical.not_not.1 hf
  split at h
  · cases h
  split at h
  · cases h
  simp only [Sum.inr.injEq] at h
  subst h
  have l1 := rnum_le bs (s.pos, 0) hp
  have l2 := rnum_le bs (rnum bs (s.pos, 0)).2 l1
  have l3 := rbytes_le bs (rnum bs (rnum bs (s.pos, 0)).2).1 (rnum bs (rnum bs (s.pos, 0)).2).2 l2
  have f2 : (rnum bs (rnum bs (s.pos, 0)).2).2.2 = 0 := by
    by_cases h : (rnum bs (rnum bs (s.pos, 0)).2).2.2 = 0
    · exact h
    · rw [rbytes_fix h] at hf; exact absurd hf h
  have g2 := rnum_pos (s := (rnum bs (s.pos, 0)).2) l1 f2
  have g1 := rnum_pos (s := (s.pos, 0)) hp g2.1
  refine ⟨?_, l3⟩
  have g3 : (rnum bs (rnum bs (s.pos, 0)).2).2.1 ≤ (rbytes bs (rnum bs (rnum bs (s.pos, 0)).2).1 (rnum bs (rnum bs (s.pos, 0)).2).2).2.1 := by
    unfold rbytes
    split
    · exact Nat.le_refl _
    · split
      · exact Nat.le_refl _
      · split
        · exact Nat.le_refl _
        · simp only; omega
  have := g1.2.1
  have := g2.2.1
  simp only at *
  omega

/-! ### The map of what was seen -/
structure SeenM (seen : List Int) (l : Ents) : Prop where
  no : ∀ n, n ∉ seen → getE n l = none
  yes : ∀ n, n ∈ seen → ∃ b, getE n l = some (.int .i64 1, b)
theorem getE_new {n m : Int} {v : Value} {b : Nat} : ∀ {l : Ents}, getE n l = none → getE n (l ++ [(m, v, b)]) = if m = n then some (v, b) else none
  | [], _ => by simp [getE]
  | e :: r, h => by
    unfold getE at h
    split at h
    · cases h
    · rename_i hne
      rw [List.cons_append]
      unfold getE
      rw [if_neg hne, getE_new h]
theorem getE_old {n : Int} {e : Value × Nat} {r : Ents} : ∀ {l : Ents}, getE n l = some e → getE n (l ++ r) = some e
  | [], h => by cases h
  | x :: t, h => by
    unfold getE at h
    rw [List.cons_append]
    unfold getE
    split at h
    · rename_i hx; rw [if_pos hx]; exact h
    · rename_i hx; rw [if_neg hx]; exact getE_old h
theorem getE_set {n : Int} {v : Value} {e : Value × Nat} : ∀ {l : Ents}, getE n l = some e → getE n (setE n v l) = some (v, e.2)
  | [], h => by cases h
  | x :: t, h => by
    unfold getE at h
    unfold setE
    split at h
    · rename_i hx
      rw [if_pos hx]
      unfold getE
      rw [if_pos hx]
      cases h; rfl
    · rename_i hx
      rw [if_neg hx]
      unfold getE
      rw [if_neg hx]
      exact getE_set h
theorem SeenM.add {seen : List Int} {l : Ents} (h : SeenM seen l) {n : Int} (hn : n ∉ seen) (b : Nat) : SeenM (seen ++ [n]) (l ++ [(n, .int .i64 1, b)]) := by
  refine ⟨fun m hm => ?_, fun m hm => ?_⟩
  · rw [List.mem_append, List.mem_singleton] at hm
    rw [getE_new (h.no m fun h' => hm (.inl h')), if_neg fun h' => hm (.inr h'.symm)]
  · rcases List.mem_append.1 hm with hm | hm
    · obtain ⟨b', hb⟩ := h.yes m hm
      exact ⟨b', getE_old hb⟩
    · rw [List.mem_singleton] at hm; subst hm
      rw [getE_new (h.no m hn), if_pos rfl]; exact ⟨b, rfl⟩

/-- A contract that keeps what it drops as facts; in whatever order the objects are. -/
theorem Spec.dropP {P : Program} {f : FuncId} {args : Array Value} {A : List Ob} {G : Mp} {Post Post' : Value → List Ob → Mp → Prop} (h : Spec P f args A G Post)
    (hp : ∀ v own N, Post v own N → ∃ own' rest N', Pick own' own rest ∧ (∀ w, N w → Objs rest w → N' w) ∧ Post' v own' N') : Spec P f args A G Post' :=
  ⟨h.1, fun w hw => (h.2 w hw).mono fun _ _ ⟨v, own, N, he, hP, hi⟩ => by
    obtain ⟨own', rest, N', hk, hN, hP'⟩ := hp _ _ _ hP
    exact ⟨v, own', N', he, hP', Inv.drop (hi.picked hk) hN⟩⟩
theorem bytesG_spec (b : Nat) (A : Option Addr) (c : Nat) (bs : List UInt8) (n : Int) (p : Nat) (f : Int) (G : Mp) (h1 : Ent G (RowAt A (Bs bs))) (hc : bs.length ≤ c) (hm : bs.length ≤ 211106232532992) (hp : p ≤ bs.length) :
    Spec Try.prog 27 #[.pointer (some ⟨b, 0, none⟩), .int .i64 n] [.row b 87 (rdV A c bs.length p f) 3] G (fun v own N => ∃ A' c', v = .slice A' (rbytes bs n (p, f)).1.length c' ∧ own = [.row b 87 (rdV A c bs.length (rbytes bs n (p, f)).2.1 (rbytes bs n (p, f)).2.2) 3] ∧ Ent N (RowAt A' (Bs (rbytes bs n (p, f)).1)) ∧ (rbytes bs n (p, f)).1.length ≤ c') :=
  (bytes_spec b A c bs n p f G h1 hc hm hp).dropP fun v own N hv => by
    obtain ⟨A', c', rfl, rfl, rfl, hc⟩ := hv
    refine ⟨[_], [.sl A' c' 5 1 (Bs (rbytes bs n (p, f)).1)], RowAt A' (Bs (rbytes bs n (p, f)).1), .cons (.there .here) .nil, fun w _ ho => Ob.sl_at (ho _ (List.mem_singleton.2 rfl)), A', c', rfl, rfl, Ent.refl, hc⟩
end Go.Proofs.Ytaknehiifafhfaa
