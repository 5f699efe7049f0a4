/- A pool in memory; its reads. -/
import Derived.Test.YtekbimbohppfoaaLib
import Derived.Test.YtekbimbohppfoaaFlat
namespace Go.Proofs.Ytekbimbohppfoaa
open Go.Proofs
set_option maxRecDepth 10000

/-! ### Objects by membership -/
theorem Take.mem {o : Ob} : ∀ {l : List Ob}, o ∈ l → ∃ l', Take o l l' ∧ l.Perm (o :: l')
  | x :: l, h => by
    rcases List.mem_cons.1 h with rfl | h
    · exact ⟨l, .here, .refl _⟩
    · obtain ⟨l', ht, hp⟩ := Take.mem h
      exact ⟨x :: l', .there ht, (hp.cons x).trans (List.Perm.swap o x l')⟩
theorem Pick.perm : ∀ {s l r : List Ob}, (s ++ r).Perm l → ∃ r', Pick s l r' ∧ r.Perm r'
  | [], l, r, h => ⟨l, .nil, h⟩
  | o :: s, l, r, h => by
    obtain ⟨l', ht, hp⟩ := Take.mem (h.subset (List.mem_cons_self ..))
    obtain ⟨r', hk, hr⟩ := Pick.perm (s := s) (l := l') (r := r) ((List.perm_cons o).1 (h.trans hp))
    exact ⟨r', .cons ht hk, hr⟩
theorem Pick.whole : ∀ {s : List Ob}, Pick s s []
  | [] => .nil
  | _ :: _ => .cons .here Pick.whole
theorem Pick.front : ∀ {s r : List Ob}, Pick s (s ++ r) r
  | [], _ => .nil
  | _ :: _, _ => .cons .here Pick.front
theorem Take.mid {o : Ob} : ∀ {a c : List Ob}, Take o (a ++ o :: c) (a ++ c)
  | [], _ => .here
  | _ :: _, _ => .there Take.mid
theorem Pick.under {o : Ob} : ∀ {s l r : List Ob}, Pick s l r → Pick s (o :: l) (o :: r)
  | [], _, _, .nil => .nil
  | _ :: _, _, _, .cons h k => .cons (.there h) k.under
theorem Ent.mem {G : Mp} {own : List Ob} {N R : Mp} {o : Ob} (h : o ∈ own) (k : ∀ w, o.is w → R w) : Ent (GN G own N) R := fun w hw => k w (hw.2 o h)

/-! ### The pool -/
structure Lk where
  num : Int
  blk : Nat
  born : Nat
  b : Int
  st : Int
  since : Int
  ord : Int
structure Pl where
  n : Int
  L : Int
  Q : Int
  I : Int
  F : Int
  D : Int
  bs : List (Int × Int)
  ls : List Lk
  clock : Nat
  last : Int
  order : Int
  turn : Int
  q : List Int
/-- Where a pool lies. -/
structure PlA where
  b : Nat
  Ab : Option Addr
  cb : Nat
  mb : Nat
  Aq : Option Addr
  cq : Nat

def bkV (x : Int × Int) : List Value := [.int .i64 x.1, .int .i64 x.2]
def bkL (l : List (Int × Int)) : List Value := l.flatMap bkV
theorem bkV_len (x : Int × Int) : (bkV x).length = 2 := rfl
theorem bkL_len (l : List (Int × Int)) : (bkL l).length = l.length * 2 := flatMap_len bkV_len l
theorem bkL_chunk {l : List (Int × Int)} {k : Nat} (hk : k < l.length) : ((bkL l).drop (k * 2)).take 2 = bkV l[k] := flatMap_chunk bkV_len l k hk
theorem bkL_get0 {l : List (Int × Int)} {k : Nat} (hk : k < l.length) : (bkL l)[k * 2]? = some (.int .i64 l[k].1) := by
  have h := bkL_chunk hk
  have h2 : (((bkL l).drop (k * 2)).take 2)[0]? = some (.int .i64 l[k].1) := by rw [h]; rfl
  rwa [List.getElem?_take, if_pos (by omega), List.getElem?_drop] at h2
theorem bkL_get1 {l : List (Int × Int)} {k : Nat} (hk : k < l.length) : (bkL l)[k * 2 + 1]? = some (.int .i64 l[k].2) := by
  have h := bkL_chunk hk
  have h2 : (((bkL l).drop (k * 2)).take 2)[1]? = some (.int .i64 l[k].2) := by rw [h]; rfl
  rwa [List.getElem?_take, if_pos (by omega), List.getElem?_drop] at h2
abbrev intL (l : List Int) : List Value := l.map fun n => .int .i64 n
theorem intL_one (l : List Int) : ∀ v ∈ intL l, oneCell v = true := by
  intro v hv
  rw [List.mem_map] at hv
  obtain ⟨n, _, rfl⟩ := hv
  rfl

def lkV (l : Lk) : List Value := [.int .i64 l.b, .int .i64 l.st, .int .i64 l.since, .int .i64 l.ord]
def lkOb (l : Lk) : Ob := .row l.blk 65 (lkV l) 4
def lkP (l : Lk) : Value := .pointer (some ⟨l.blk, 0, none⟩)
def lkE (l : Lk) : Int × Value × Nat := (l.num, lkP l, l.born)
def mapO (mb : Nat) (ls : List Lk) (clock : Nat) : Ob := .map mb (mI .i64 (ls.map lkE)) clock
def plV (a : PlA) (p : Pl) : List Value := [.int .i64 p.n, .int .i64 p.L, .int .i64 p.Q, .int .i64 p.I, .int .i64 p.F, .int .i64 p.D, .slice a.Ab p.bs.length a.cb, .map (some a.mb), .int .i64 p.last, .int .i64 p.order, .int .i64 p.turn, .slice a.Aq p.q.length a.cq]
def plR (a : PlA) (p : Pl) : Ob := .row a.b 57 (plV a p) 12
def plB (a : PlA) (p : Pl) : Ob := .sl a.Ab a.cb 68 2 (bkL p.bs)
def plM (a : PlA) (p : Pl) : Ob := mapO a.mb p.ls p.clock
def plQ (a : PlA) (p : Pl) : Ob := .sl a.Aq a.cq 3 1 (intL p.q)
def plO (a : PlA) (p : Pl) : List Ob := plR a p :: plB a p :: plM a p :: plQ a p :: p.ls.map lkOb

structure PlOk (p : Pl) : Prop where
  n : 1 ≤ p.n ∧ p.n ≤ 16
  L : 1 ≤ p.L ∧ p.L ≤ 16
  Q : 0 ≤ p.Q ∧ p.Q ≤ 256
  I : 1 ≤ p.I ∧ p.I ≤ 1048576
  F : 1 ≤ p.F ∧ p.F ≤ 100
  D : 1 ≤ p.D ∧ p.D ≤ 1048576
  bl : (p.bs.length : Int) = p.n
  bf : ∀ x ∈ p.bs, 0 ≤ x.1 ∧ x.1 < p.F
  ls : ∀ l ∈ p.ls, (0 ≤ l.b ∧ l.b < p.n) ∧ (1 ≤ l.num ∧ l.num ≤ p.last) ∧ l.born < p.clock ∧ (0 ≤ l.since ∧ l.since ≤ 1099511627776)
  born : (p.ls.map (·.born)).Nodup
  nums : (p.ls.map (·.num)).Nodup
  turn : 0 ≤ p.turn ∧ p.turn ≤ p.n
  ord : 0 ≤ p.order
  last : 0 ≤ p.last
  ql : (p.q.length : Int) ≤ p.Q
  cnt : ∀ b, (p.ls.countP (fun l => decide (l.b = b)) : Int) ≤ p.L

/-! ### Small functions -/
theorem between_spec (x lo hi : Int) (G : Mp) : Spec Try.prog 22 #[.int .i64 x, .int .i64 lo, .int .i64 hi] [] G (Ret (.bool (decide (lo ≤ x ∧ x ≤ hi)))) := by
  refine Spec.intro (args := [_, _, _]) wide Try.func22 rfl Try.call22 (by rfl) (by rfl) (fun w0 hw0 => ?_)
  refine vcIf_dec (fun h1 => ?_) (fun h1 => ?_)
  · refine ⟨[], _, MT, .nil, fun _ _ _ => trivial, ?_, rfl, rfl⟩
    exact congrArg Value.bool (decide_eq_decide.2 ⟨fun h => ⟨h1, h⟩, fun h => h.2⟩)
  · refine ⟨[], _, MT, .nil, fun _ _ _ => trivial, ?_, rfl, rfl⟩
    exact congrArg Value.bool (decide_eq_false fun h => h1 h.1).symm
theorem right_spec (now : Int) (G : Mp) : Spec Try.prog 24 #[.int .i64 now] [] G (Ret (.bool (decide (0 ≤ now ∧ now ≤ 1099511627776)))) := by
  refine Spec.intro (args := [_]) wide Try.func24 rfl Try.call24 (by rfl) (by rfl) (fun w0 hw0 => ?_)
  refine vcCall_of .nil (between_spec now 0 1099511627776 _) (fun v own' N' hv => ?_); obtain ⟨rfl, rfl, rfl⟩ := hv
  exact ⟨[], _, MT, .nil, fun _ _ _ => trivial, rfl, rfl, rfl⟩

def upB (p : Pl) (now b : Int) : Prop := ∃ k : Nat, ∃ h : k < p.bs.length, b = k ∧ p.bs[k].2 ≤ now
theorem up_spec (a : PlA) (p : Pl) (b now : Int) (G : Mp) (hp : PlOk p) :
    Spec Try.prog 12 #[.pointer (some ⟨a.b, 0, none⟩), .int .i64 b, .int .i64 now] (plO a p) G (fun v own N => ∃ r : Bool, v = .bool r ∧ own = plO a p ∧ N = MT ∧ (r = true ↔ upB p now b)) := by
  refine Spec.intro (args := [_, _, _]) wide Try.func12 rfl Try.call12 (by rfl) (by rfl) (fun w0 hw0 => ?_)
  have hn := hp.n
  have hbl := hp.bl
  refine vcLoad1_2 (Ent.gnO .here (fun w hw => Ob.row_at hw)) rfl ?_
  refine vcFit_i64 (by omega) ?_
  refine vcCall_of .nil (between_spec b 0 (p.n - 1) _) (fun v own' N' hv => ?_); obtain ⟨rfl, rfl, rfl⟩ := hv
  refine vcIf_dec (fun h1 => ?_) (fun h1 => ?_)
  · refine vcLoad1_row (Ent.gnO .here (fun w hw => Ob.row_at hw)) rfl ?_
    refine vcIdx_nats (s := 2) b.toNat (by omega) (Ent.gnO (.there .here) (fun w hw => Ob.sl_at hw)) (by omega) (by rw [bkL_len]; exact Nat.le_refl _) (by omega) (fun ad ha => ?_)
    have hk : b.toNat < p.bs.length := by omega
    refine vcLoad1_2 (Ent.gnO (.there .here) (fun w hw => ha ▸ Ob.sl_at hw)) (bkL_get1 hk) ?_
    refine ⟨plO a p, _, MT, Pick.whole, fun _ _ _ => trivial, _, rfl, rfl, rfl, ?_⟩
    rw [decide_eq_true_iff]
    exact ⟨fun h => ⟨b.toNat, hk, by omega, h⟩, fun ⟨k, hk', hb, h⟩ => by
      obtain rfl : k = b.toNat := by omega
      exact h⟩
  · refine ⟨plO a p, _, MT, Pick.whole, fun _ _ _ => trivial, false, rfl, rfl, rfl, ?_⟩
    exact ⟨fun h => by simp at h, fun ⟨k, hk', hb, h⟩ => absurd ⟨by omega, by omega⟩ h1⟩

/-! ### Counting what an iteration has seen -/
def cntS (f : Lk → Bool) (seen : List Nat) (ls : List Lk) : Nat := ls.countP fun l => decide (l.born ∈ seen) && f l
theorem cntS_nil (f : Lk → Bool) (ls : List Lk) : cntS f [] ls = 0 := by simp [cntS]
theorem cntS_step {f : Lk → Bool} {seen : List Nat} {x : Lk} : ∀ {ls : List Lk}, x ∈ ls → (ls.map (·.born)).Nodup → x.born ∉ seen → cntS f (seen ++ [x.born]) ls = cntS f seen ls + (if f x then 1 else 0)
  | y :: r, hx, hn, hs => by
    rw [List.map_cons, List.nodup_cons] at hn
    have none : ∀ {r : List Lk}, x.born ∉ r.map (·.born) → cntS f (seen ++ [x.born]) r = cntS f seen r := by
      intro r h
      unfold cntS
      refine List.countP_congr fun z hz => ?_
      have : z.born ≠ x.born := fun e => h (by rw [← e]; exact List.mem_map_of_mem hz)
      simp [this]
    rcases List.mem_cons.1 hx with rfl | hx
    · have h1 := none hn.1
      unfold cntS at *
      rw [List.countP_cons, List.countP_cons, h1]
      simp [hs]
    · have hne : y.born ≠ x.born := fun e => hn.1 (by rw [e]; exact List.mem_map_of_mem hx)
      have ih := cntS_step (f := f) hx hn.2 hs
      unfold cntS at *
      rw [List.countP_cons, List.countP_cons, ih]
      simp [hne]
      omega
theorem cntS_all {f : Lk → Bool} {seen : List Nat} {ls : List Lk} (h : ∀ l ∈ ls, l.born ∈ seen) : cntS f seen ls = ls.countP f := by
  unfold cntS
  exact List.countP_congr fun z hz => by simp [h z hz]
theorem cntS_le (f : Lk → Bool) (seen : List Nat) (ls : List Lk) : cntS f seen ls ≤ ls.length := List.countP_le_length
theorem mem_mI {ls : List Lk} {e : Value × Value × Nat} (h : e ∈ mI .i64 (ls.map lkE)) : ∃ l ∈ ls, e = (.int .i64 l.num, lkP l, l.born) := by
  simp only [mI, List.map_map, List.mem_map] at h
  obtain ⟨l, hl, rfl⟩ := h
  exact ⟨l, hl, rfl⟩
theorem mI_mem {ls : List Lk} {l : Lk} (h : l ∈ ls) : ((.int .i64 l.num, lkP l, l.born) : Value × Value × Nat) ∈ mI .i64 (ls.map lkE) := by
  simp only [mI, List.map_map, List.mem_map]
  exact ⟨l, h, rfl⟩

theorem cell0 (f : Lk → Bool) (ls : List Lk) : some (Value.int .i64 0) = some (Value.int .i64 (cntS f [] ls)) := by rw [cntS_nil]; rfl
theorem lk_mem {a : PlA} {p : Pl} {l : Lk} (h : l ∈ p.ls) : lkOb l ∈ plO a p := List.mem_cons_of_mem _ (List.mem_cons_of_mem _ (List.mem_cons_of_mem _ (List.mem_cons_of_mem _ (List.mem_map_of_mem h))))
theorem cntS_lt {seen : List Nat} {x : Lk} {ls : List Lk} (hx : x ∈ ls) (hn : (ls.map (·.born)).Nodup) (hs : x.born ∉ seen) : ls.length - cntS (fun _ => true) (seen ++ [x.born]) ls < ls.length - cntS (fun _ => true) seen ls := by
  have h1 := cntS_step (f := fun _ => true) hx hn hs
  have h2 := cntS_le (fun _ => true) (seen ++ [x.born]) ls
  simp only [if_true] at h1
  omega
def isB (b : Int) (l : Lk) : Bool := decide (l.b = b)
def isI (b : Int) (l : Lk) : Bool := decide (l.b = b) && decide (l.st = 2)
theorem count_spec (a : PlA) (p : Pl) (b : Int) (G : Mp) (hp : PlOk p) (hl : p.ls.length ≤ 1000000000000000000) :
    Spec Try.prog 21 #[.pointer (some ⟨a.b, 0, none⟩), .int .i64 b] (plO a p) G (fun v own N => v = .tuple #[.int .i64 (p.ls.countP (isB b)), .int .i64 (p.ls.countP (isI b))] ∧ own = plO a p ∧ N = MT) := by
  refine Spec.intro (args := [_, _]) wide Try.func21 rfl Try.call21 (by rfl) (by rfl) (fun w0 hw0 => ?_)
  refine vcLoad1_row (Ent.gnO .here (fun w hw => Ob.row_at hw)) rfl ?_
  refine ⟨_, _, Ent.gnO (.there (.there .here)) (fun w h => h), fun r => ?_⟩
  refine vcLoop_of (fun g : List Nat × Nat => p.ls.length - cntS (fun _ => true) g.1 p.ls) (fun g => [(0, .pointer (some ⟨a.b, 0, none⟩)), (1, .int .i64 b), (4, .int .i64 (cntS (isB b) g.1 p.ls)), (5, .int .i64 (cntS (isI b) g.1 p.ls)), (12, .pointer (some ⟨r, 0, none⟩))])
    (fun g => .iter r a.mb p.clock g.1 g.2 :: plO a p) (fun _ => MT) (fun g => g.2 = p.clock ∧ ∀ s ∈ g.1, ∃ l ∈ p.ls, l.born = s) ([], p.clock) ⟨rfl, fun _ h => by cases h⟩ ⟨rfl, rfl, cell0 _ _, cell0 _ _, rfl, trivial⟩ ⟨_, Pick.whole⟩ Ent.refl ?_
  rintro ⟨seen, last⟩ ⟨rfl, hseen⟩
  simp only at hseen
  have hclock : ∀ l ∈ p.ls, l.born < p.clock := fun l h => (hp.ls l h).2.2.1
  refine ⟨_, _, _, _, _, _, _, .here, Ent.gnO (.there (.there (.there .here))) (fun w h => h), ?_, fun hov => ?_, fun e he hns => ?_⟩
  · cases hls : p.ls with
    | nil => exact .inr (.inl rfl)
    | cons l r => exact .inr (.inr ⟨_, mI_mem (List.mem_cons_self ..), hclock l (hls ▸ List.mem_cons_self ..)⟩)
  · have hall : ∀ l ∈ p.ls, l.born ∈ seen := fun l hl => hov _ (mI_mem hl) (hclock l hl)
    rw [cntS_all hall, cntS_all hall]
    exact ⟨plO a p, _, MT, .cons (.there .here) (.cons (.there .here) (.cons (.there .here) (.cons (.there .here) Pick.whole.under))), fun _ _ _ => trivial, rfl, rfl, rfl⟩
  · obtain ⟨l, hl, rfl⟩ := mem_mI he
    simp only at hns
    have hb := cntS_step (f := isB b) hl hp.born hns
    have hi := cntS_step (f := isI b) hl hp.born hns
    have hlt := cntS_lt hl hp.born hns
    have h1 := cntS_le (isB b) seen p.ls
    have h2 := cntS_le (isI b) seen p.ls
    have hs2 : ∀ s ∈ seen ++ [l.born], ∃ l ∈ p.ls, l.born = s := fun s hs => by
      rcases List.mem_append.1 hs with hs | hs
      · exact hseen s hs
      · rw [List.mem_singleton] at hs; subst hs; exact ⟨l, hl, rfl⟩
    refine ⟨_, _, _, _, _, _, Ent.gnO .here (fun w h => h), Ent.gnO (.there (.there (.there .here))) (fun w h => h), _, mI_mem hl, rfl, ?_⟩
    refine vcLoad1_row (Ent.mem (List.mem_cons_of_mem _ (lk_mem hl)) (fun w hw => Ob.row_at hw)) rfl ?_
    refine vcIf_dec (fun hq => ?_) (fun hq => ?_)
    · refine vcFit_i64 (by simp only; omega) ?_
      have e1 : isB b l = true := decide_eq_true hq
      rw [e1, if_pos rfl] at hb
      refine vcLoad1_row (Ent.mem (List.mem_cons_of_mem _ (lk_mem hl)) (fun w hw => Ob.row_at hw)) rfl ?_
      refine vcIf_dec (fun hz => ?_) (fun hz => ?_)
      · refine vcFit_i64 (by simp only; omega) ?_
        have e2 : isI b l = true := by simp only [isI, decide_eq_true hq, Bool.true_and]; exact decide_eq_true hz
        rw [e2, if_pos rfl] at hi
        exact ⟨(seen ++ [l.born], p.clock), ⟨rfl, hs2⟩, hlt, ⟨rfl, rfl, by rw [hb]; rfl, by rw [hi]; rfl, rfl, trivial⟩, ⟨_, Pick.whole⟩, Ent.refl⟩
      · have e2 : isI b l = false := by simp only [isI, decide_eq_true hq, Bool.true_and]; exact decide_eq_false hz
        rw [e2, if_neg (by simp)] at hi
        exact ⟨(seen ++ [l.born], p.clock), ⟨rfl, hs2⟩, hlt, ⟨rfl, rfl, by rw [hb]; rfl, by rw [hi]; rfl, rfl, trivial⟩, ⟨_, Pick.whole⟩, Ent.refl⟩
    · have e1 : isB b l = false := decide_eq_false hq
      have e2 : isI b l = false := by simp only [isI, decide_eq_false hq, Bool.false_and]
      rw [e1, if_neg (by simp)] at hb
      rw [e2, if_neg (by simp)] at hi
      exact ⟨(seen ++ [l.born], p.clock), ⟨rfl, hs2⟩, hlt, ⟨rfl, rfl, by rw [hb]; rfl, by rw [hi]; rfl, rfl, trivial⟩, ⟨_, Pick.whole⟩, Ent.refl⟩
end Go.Proofs.Ytekbimbohppfoaa
