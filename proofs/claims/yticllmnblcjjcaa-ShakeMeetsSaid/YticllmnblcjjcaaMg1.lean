/- The verification conditions suffice. [Mem Pure Eq Sound Vc Wp] -/
import Derived.WalkKit
import Derived.Deep.Quiet
import Derived.OrdersHeld
import Derived.Laws.StructEq
import Derived.ChangeKeysEq
import Derived.Laws.IdiomStrings
import Derived.MapKept
section
/- The memory side of this seat's proofs: objects that a call may write, what it only reads, and what a call leaves. No program in sight. -/
namespace Go.Proofs.Yticllmnblcjjcaa

/-- A predicate on memory. -/
abbrev Mp := World → Prop
def MT : Mp := fun _ => True
def MpAnd (M N : Mp) : Mp := fun w => M w ∧ N w
def Ent (M R : Mp) : Prop := ∀ w, M w → R w

/-- The cells of a row that may have more room behind it (bytes may bear the mark of a text behind them). -/
def TailObj (off : Nat) (ty : TypeId) (xs : List Value) (m : Nat) (o : Obj) : Prop :=
  ∃ pre sp post : List Value, ∃ fz : Nat × Nat, pre.length = off ∧ xs.length + sp.length = m ∧ o = .cells (pre ++ (xs ++ (sp ++ post))).toArray ty fz ∧ (fz.1 = fz.2 ∨ (off + m ≤ fz.1 ∧ ty = 5))
abbrev RowObj (ty : TypeId) (xs : List Value) (m : Nat) (o : Obj) : Prop := TailObj 0 ty xs m o
theorem RowObj.new {ty : TypeId} {xs sp : List Value} {m : Nat} {fz : Nat × Nat} (h : xs.length + sp.length = m) (hf : fz.1 = fz.2 ∨ (m ≤ fz.1 ∧ ty = 5)) : RowObj ty xs m (.cells (xs ++ sp).toArray ty fz) :=
  ⟨[], sp, [], fz, rfl, h, by simp, hf.imp id fun h => ⟨by omega, h.2⟩⟩

/-- An object that the call may write: a block known by its first cells; a slice into a block of its own (up to what it may grow to), or nil; a map. -/
inductive Ob where
  | row (b : Nat) (ty : TypeId) (xs : List Value) (m : Nat)
  | sl (A : Option Addr) (cap : Nat) (ty : TypeId) (size : Nat) (xs : List Value)
  | map (b : Nat) (l : List (Value × Value × Nat)) (clock : Nat)
  | iter (b m since : Nat) (seen : List Nat) (last : Nat)

def Ob.blks : Ob → List Nat
  | .row b _ _ _ => [b]
  | .sl (some a) _ _ _ _ => [a.block]
  | .sl none _ _ _ _ => []
  | .map b _ _ => [b]
  | .iter b _ _ _ _ => [b]

/-- A map's object: its entries in the order in which they were stored, each born at its own time. -/
def MapObj (l : List (Value × Value × Nat)) (clock : Nat) (o : Obj) : Prop :=
  ∃ es : Array MapEntry, o = .map es clock ∧ es.toList.map (fun e => (e.key, e.val, e.born)) = l ∧ (∀ e ∈ l, e.2.2 < clock) ∧ (l.map (·.2.2)).Nodup

def Ob.is (w : World) : Ob → Prop
  | .row b ty xs m => ∃ o, w.heap[b]? = some o ∧ RowObj ty xs m o
  | .sl none cap _ _ xs => cap = 0 ∧ xs = []
  | .sl (some a) cap ty size xs => a.spot = none ∧ ∃ o, w.heap[a.block]? = some o ∧ TailObj a.off ty xs (cap * size) o
  | .map b l clock => ∃ o, w.heap[b]? = some o ∧ MapObj l clock o
  | .iter b m since seen last => w.heap[b]? = some (.mapIter (some m) since seen.toArray last)

def blksOf (l : List Ob) : List Nat := l.flatMap Ob.blks
def Objs (own : List Ob) : Mp := fun w => ∀ o ∈ own, o.is w

/-- What may have changed from w to w': the blocks in S and those that are new. -/
structure Fr (w w' : World) (S : List Nat) : Prop where
  os : w'.os = w.os
  tape : w'.tape = w.tape
  output : w'.output = w.output
  size : w.heap.size ≤ w'.heap.size
  same : ∀ i, i < w.heap.size → i ∉ S → w'.heap[i]? = w.heap[i]?

theorem Fr.refl (w : World) (S : List Nat) : Fr w w S := ⟨rfl, rfl, rfl, Nat.le_refl _, fun _ _ _ => rfl⟩
theorem Fr.trans {a b c : World} {S T U : List Nat} (h : Fr a b S) (k : Fr b c T) (hS : ∀ i ∈ S, i ∈ U) (hT : ∀ i ∈ T, i < a.heap.size → i ∈ U) : Fr a c U :=
  ⟨k.os.trans h.os, k.tape.trans h.tape, k.output.trans h.output, Nat.le_trans h.size k.size, fun i hi hU =>
    (k.same i (Nat.lt_of_lt_of_le hi h.size) (fun ht => hU (hT i ht hi))).trans (h.same i hi (fun hs => hU (hS i hs)))⟩
theorem Fr.mono {a b : World} {S T : List Nat} (h : Fr a b S) (hS : ∀ i ∈ S, i ∈ T) : Fr a b T :=
  ⟨h.os, h.tape, h.output, h.size, fun i hi hT => h.same i hi (fun hs => hT (hS i hs))⟩
theorem Fr.below {w w' : World} (h : Fr w w' []) : RowKit.Below w.heap.size w w' :=
  ⟨h.os, h.tape, h.output, h.size, fun k hk => h.same k hk (by simp)⟩

/-- Where a call begins: the objects that it may write, and what it may read besides. -/
structure Entry (w : World) (own : List Ob) (G : Mp) : Prop where
  objs : Objs own w
  nodup : (blksOf own).Nodup
  pers : ∀ w', Fr w w' (blksOf own) → G w'

/-- Where a call stands: begun at w0 with the blocks A0. -/
structure Inv (w0 : World) (A0 : List Nat) (w : World) (own : List Ob) (N : Mp) : Prop where
  objs : Objs own w
  nodup : (blksOf own).Nodup
  fr : Fr w0 w A0
  from_ : ∀ b ∈ blksOf own, b ∈ A0 ∨ w0.heap.size ≤ b
  stable : ∀ w' : World, w.heap.size ≤ w'.heap.size → (∀ i, i < w.heap.size → i ∉ blksOf own → (i < w0.heap.size → i ∈ A0) → w'.heap[i]? = w.heap[i]?) → N w'

theorem Ob.lt {w : World} {o : Ob} (h : o.is w) : ∀ b ∈ o.blks, b < w.heap.size := by
  have key : ∀ (b : Nat) (x : Obj), w.heap[b]? = some x → b < w.heap.size := fun b x hx => (Array.getElem?_eq_some_iff.1 hx).1
  cases o with
  | row b ty xs m => obtain ⟨x, hx, _⟩ := h; simpa [Ob.blks] using key b x hx
  | sl A cap ty size xs =>
    cases A with
    | none => simp [Ob.blks]
    | some a => obtain ⟨_, x, hx, _⟩ := h; simpa [Ob.blks] using key _ x hx
  | map b l c => obtain ⟨x, hx, _⟩ := h; simpa [Ob.blks] using key b x hx
  | iter b m s e c => simpa [Ob.blks] using key b _ h

theorem Ob.keep {w w' : World} {o : Ob} (h : o.is w) (hk : ∀ b ∈ o.blks, w'.heap[b]? = w.heap[b]?) : o.is w' := by
  cases o with
  | row b ty xs m => obtain ⟨x, hx, hr⟩ := h; exact ⟨x, (hk b (by simp [Ob.blks])).trans hx, hr⟩
  | sl A cap ty size xs =>
    cases A with
    | none => exact h
    | some a => obtain ⟨h2, x, hx, hr⟩ := h; exact ⟨h2, x, (hk a.block (by simp [Ob.blks])).trans hx, hr⟩
  | map b l c => obtain ⟨x, hx, hr⟩ := h; exact ⟨x, (hk b (by simp [Ob.blks])).trans hx, hr⟩
  | iter b m s e c => exact (hk b (by simp [Ob.blks])).trans h

theorem mem_blksOf {own : List Ob} {b : Nat} : b ∈ blksOf own ↔ ∃ o ∈ own, b ∈ o.blks := by simp [blksOf, List.mem_flatMap]
theorem Objs.lt {w : World} {own : List Ob} (h : Objs own w) : ∀ b ∈ blksOf own, b < w.heap.size := by
  intro b hb
  obtain ⟨o, ho, hb⟩ := mem_blksOf.1 hb
  exact Ob.lt (h o ho) b hb
theorem Objs.keep {w w' : World} {own : List Ob} (h : Objs own w) (hk : ∀ b ∈ blksOf own, w'.heap[b]? = w.heap[b]?) : Objs own w' :=
  fun o ho => Ob.keep (h o ho) fun b hb => hk b (mem_blksOf.2 ⟨o, ho, hb⟩)
theorem blksOf_append (a b : List Ob) : blksOf (a ++ b) = blksOf a ++ blksOf b := by simp [blksOf]
theorem blksOf_cons (o : Ob) (l : List Ob) : blksOf (o :: l) = o.blks ++ blksOf l := by simp [blksOf]
theorem Objs.append {w : World} {a b : List Ob} : Objs (a ++ b) w ↔ Objs a w ∧ Objs b w := by
  simp only [Objs, List.mem_append]
  exact ⟨fun h => ⟨fun o ho => h o (.inl ho), fun o ho => h o (.inr ho)⟩, fun ⟨h, k⟩ o ho => ho.elim (h o) (k o)⟩

/-- What is known where the call stands. -/
def GN (G : Mp) (own : List Ob) (N : Mp) : Mp := fun w => (G w ∧ N w) ∧ Objs own w

/-- The fixed part of a proof: where the call began. -/
structure Ctx where
  w0 : World
  A0 : List Ob
  G : Mp

def Ctx.ok (C : Ctx) : Prop := Entry C.w0 C.A0 C.G
def Ctx.inv (C : Ctx) (w : World) (own : List Ob) (N : Mp) : Prop := Inv C.w0 (blksOf C.A0) w own N

theorem Ctx.gn {C : Ctx} (hC : C.ok) {w : World} {own : List Ob} {N : Mp} (h : C.inv w own N) : GN C.G own N w :=
  ⟨⟨hC.pers w h.fr, h.stable w (Nat.le_refl _) (fun _ _ _ _ => rfl)⟩, h.objs⟩

theorem Ctx.start {C : Ctx} (hC : C.ok) : C.inv C.w0 C.A0 MT :=
  ⟨hC.objs, hC.nodup, Fr.refl _ _, fun _ hb => .inl hb, fun _ _ _ => trivial⟩

/-- A draw moves nothing. -/
theorem Inv.drawn {w0 : World} {A0 : List Nat} {w : World} {own : List Ob} {N : Mp} (h : Inv w0 A0 w own N) (n : Nat) : Inv w0 A0 { w with drawn := n } own N :=
  ⟨h.objs, h.nodup, ⟨h.fr.os, h.fr.tape, h.fr.output, h.fr.size, h.fr.same⟩, h.from_, h.stable⟩

/-! ### Picking objects out of those at hand -/
inductive Take : Ob → List Ob → List Ob → Prop
  | here {o : Ob} {l : List Ob} : Take o (o :: l) l
  | there {o x : Ob} {l l' : List Ob} : Take o l l' → Take o (x :: l) (x :: l')
  | none_ {ty : TypeId} {size : Nat} {l : List Ob} : Take (.sl none 0 ty size []) l l
  | cut {A : Option Addr} {cap : Nat} {ty : TypeId} {size : Nat} {xs : List Value} {l : List Ob} (m : Nat) : Take (.sl A cap ty size (xs.take m)) (.sl A cap ty size xs :: l) l
  | drop {A : Option Addr} {cap : Nat} {ty : TypeId} {size : Nat} {xs : List Value} {l : List Ob} (m : Nat) (h : m * size ≤ xs.length) (hc : m ≤ cap) : Take (.sl (A.map (·.add (m * size))) (cap - m) ty size (xs.drop (m * size))) (.sl A cap ty size xs :: l) l
  | end_ {A : Option Addr} {cap : Nat} {ty : TypeId} {size : Nat} {xs : List Value} {l : List Ob} : Take (.sl A 0 ty size []) (.sl A cap ty size xs :: l) l
inductive Pick : List Ob → List Ob → List Ob → Prop
  | nil {l : List Ob} : Pick [] l l
  | cons {o : Ob} {s l l' r : List Ob} : Take o l l' → Pick s l' r → Pick (o :: s) l r

theorem TailObj.cut {off : Nat} {ty : TypeId} {xs : List Value} {m : Nat} {o : Obj} (h : TailObj off ty xs m o) (n : Nat) : TailObj off ty (xs.take n) m o := by
  obtain ⟨pre, sp, post, fz, hp, hl, rfl, hf⟩ := h
  refine ⟨pre, xs.drop n ++ sp, post, fz, hp, ?_, ?_, hf⟩
  · rw [List.length_append, ← Nat.add_assoc, ← List.length_append, List.take_append_drop]; exact hl
  · rw [List.append_assoc, ← List.append_assoc (xs.take n), List.take_append_drop]
theorem TailObj.drop {off : Nat} {ty : TypeId} {xs : List Value} {m : Nat} {o : Obj} (h : TailObj off ty xs m o) (n : Nat) (hn : n ≤ xs.length) : TailObj (off + n) ty (xs.drop n) (m - n) o := by
  obtain ⟨pre, sp, post, fz, hp, hl, rfl, hf⟩ := h
  refine ⟨pre ++ xs.take n, sp, post, fz, ?_, ?_, ?_, ?_⟩
  · rw [List.length_append, List.length_take, Nat.min_eq_left hn, hp]
  · rw [List.length_drop]; omega
  · rw [List.append_assoc pre, ← List.append_assoc (xs.take n), List.take_append_drop]
  · rcases hf with h | h
    · exact .inl h
    · exact .inr ⟨by omega, h.2⟩
theorem TailObj.end_ {off : Nat} {ty : TypeId} {xs : List Value} {m : Nat} {o : Obj} (h : TailObj off ty xs m o) : TailObj off ty [] 0 o := by
  obtain ⟨pre, sp, post, fz, hp, hl, rfl, hf⟩ := h
  refine ⟨pre, [], xs ++ (sp ++ post), fz, hp, rfl, by simp, ?_⟩
  rcases hf with h | h
  · exact .inl h
  · exact .inr ⟨by omega, h.2⟩
/-- A slice of a block of its own, with all that it may grow to. -/
theorem Ob.sl_grow {w : World} {a : Addr} {cap : Nat} {ty : TypeId} {size : Nat} {xs : List Value} (h : (Ob.sl (some a) cap ty size xs).is w) : ∃ sp, xs.length + sp.length = cap * size ∧ (Ob.sl (some a) cap ty size (xs ++ sp)).is w := by
  obtain ⟨h2, o, ho, pre, sp, post, fz, hp, hl, rfl, hf⟩ := h
  exact ⟨sp, hl, h2, _, ho, pre, [], post, fz, hp, by simpa using hl, by simp, hf⟩
theorem Ob.sl_new {w : World} {b cap : Nat} {ty : TypeId} {size : Nat} {xs sp : List Value} {fz : Nat × Nat} (hl : xs.length + sp.length = cap * size) (h : w.heap[b]? = some (.cells (xs ++ sp).toArray ty fz)) (hf : fz.1 = fz.2 ∨ (cap * size ≤ fz.1 ∧ ty = 5)) :
    (Ob.sl (some ⟨b, 0, none⟩) cap ty size xs).is w := ⟨rfl, _, h, RowObj.new hl hf⟩
theorem Take.objs {o : Ob} {l l' : List Ob} (h : Take o l l') {w : World} (k : Objs l w) : o.is w ∧ Objs l' w := by
  induction h with
  | here => exact ⟨k _ (List.mem_cons_self ..), fun o ho => k o (List.mem_cons_of_mem _ ho)⟩
  | there _ ih =>
    obtain ⟨h1, h2⟩ := ih (fun o ho => k o (List.mem_cons_of_mem _ ho))
    refine ⟨h1, fun o ho => ?_⟩
    rcases List.mem_cons.1 ho with rfl | ho
    · exact k _ (List.mem_cons_self ..)
    · exact h2 o ho
  | none_ => exact ⟨⟨rfl, rfl⟩, k⟩
  | @cut A cap ty size xs l m =>
    refine ⟨?_, fun o ho => k o (List.mem_cons_of_mem _ ho)⟩
    have h := k _ (List.mem_cons_self ..)
    cases A with
    | none => obtain ⟨h1, h2⟩ := h; exact ⟨h1, by rw [h2]; simp⟩
    | some a => obtain ⟨h2, x, hx, hr⟩ := h; exact ⟨h2, x, hx, hr.cut m⟩
  | @drop A cap ty size xs l m hm hc =>
    refine ⟨?_, fun o ho => k o (List.mem_cons_of_mem _ ho)⟩
    have h := k _ (List.mem_cons_self ..)
    cases A with
    | none => obtain ⟨h1, h2⟩ := h; exact ⟨by omega, by rw [h2]; simp⟩
    | some a =>
      obtain ⟨h2, x, hx, hr⟩ := h
      have hr := hr.drop (m * size) hm
      rw [← Nat.sub_mul] at hr
      obtain ⟨bb, off, spot⟩ := a
      simp only at h2
      subst h2
      have e : (⟨bb, off, none⟩ : Addr).add (m * size) = ⟨bb, off + m * size, none⟩ := by unfold Addr.add; split <;> simp_all
      simp only [Option.map_some, e]
      exact ⟨rfl, x, hx, hr⟩
  | @end_ A cap ty size xs l =>
    refine ⟨?_, fun o ho => k o (List.mem_cons_of_mem _ ho)⟩
    have h := k _ (List.mem_cons_self ..)
    cases A with
    | none => exact ⟨rfl, rfl⟩
    | some a => obtain ⟨h2, x, hx, hr⟩ := h; exact ⟨h2, x, hx, by rw [Nat.zero_mul]; exact hr.end_⟩
theorem Take.blks {o : Ob} {l l' : List Ob} (h : Take o l l') : (blksOf l).Perm (blksOf (o :: l')) := by
  induction h with
  | here => exact .refl _
  | there _ ih =>
    rename_i x l l' _
    simp only [blksOf_cons] at *
    refine (List.Perm.append_left _ ih).trans ?_
    rw [← List.append_assoc, ← List.append_assoc]
    exact List.Perm.append_right _ List.perm_append_comm
  | none_ => simp [blksOf_cons, Ob.blks]
  | @cut A cap ty size xs l m => rw [blksOf_cons, blksOf_cons]; cases A <;> exact .refl _
  | @drop A cap ty size xs l m hm hc =>
    rw [blksOf_cons, blksOf_cons]
    cases A with
    | none => exact .refl _
    | some a =>
      have e : (a.add (m * size)).block = a.block := by unfold Addr.add; split <;> simp_all
      simp only [Option.map_some, Ob.blks, e]
      exact .refl _
  | @end_ A cap ty size xs l => rw [blksOf_cons, blksOf_cons]; cases A <;> exact .refl _
theorem Pick.objs {s l r : List Ob} (h : Pick s l r) {w : World} (k : Objs l w) : Objs (s ++ r) w := by
  induction h with
  | nil => exact k
  | cons ht _ ih =>
    obtain ⟨h1, h2⟩ := ht.objs k
    intro o ho
    rcases List.mem_cons.1 ho with rfl | ho
    · exact h1
    · exact ih h2 o ho
theorem Pick.blks {s l r : List Ob} (h : Pick s l r) : (blksOf l).Perm (blksOf (s ++ r)) := by
  induction h with
  | nil => exact .refl _
  | cons ht _ ih =>
    refine ht.blks.trans ?_
    rw [List.cons_append, blksOf_cons, blksOf_cons]
    exact List.Perm.append_left _ ih

theorem Inv.alike {w0 : World} {A0 : List Nat} {w : World} {own own' : List Ob} {N : Mp} (h : Inv w0 A0 w own N) (hb : (blksOf own).Perm (blksOf own')) (ho : Objs own' w) : Inv w0 A0 w own' N :=
  ⟨ho, hb.nodup_iff.1 h.nodup, h.fr, fun b hb' => h.from_ b (hb.mem_iff.2 hb'),
    fun w' h1 h2 => h.stable w' h1 (fun i hi hn => h2 i hi (fun hm => hn (hb.mem_iff.2 hm)))⟩
theorem Inv.take_ {w0 : World} {A0 : List Nat} {w : World} {own own' : List Ob} {o : Ob} {N : Mp} (h : Inv w0 A0 w own N) (ht : Take o own own') : Inv w0 A0 w (o :: own') N :=
  h.alike ht.blks fun x hx => by
    obtain ⟨h1, h2⟩ := ht.objs h.objs
    rcases List.mem_cons.1 hx with rfl | hx
    · exact h1
    · exact h2 x hx
theorem Inv.picked {w0 : World} {A0 : List Nat} {w : World} {own s r : List Ob} {N : Mp} (h : Inv w0 A0 w own N) (hp : Pick s own r) : Inv w0 A0 w (s ++ r) N := h.alike hp.blks (hp.objs h.objs)
theorem Inv.perm {w0 : World} {A0 : List Nat} {w : World} {own own' : List Ob} {N : Mp} (h : Inv w0 A0 w own N) (hp : own.Perm own') : Inv w0 A0 w own' N := by
  have hb : (blksOf own).Perm (blksOf own') := hp.flatMap_right _
  exact ⟨fun o ho => h.objs o (hp.mem_iff.2 ho), hb.nodup_iff.1 h.nodup, h.fr, fun b hb' => h.from_ b (hb.mem_iff.2 hb'),
    fun w' h1 h2 => h.stable w' h1 (fun i hi hn => h2 i hi (fun hm => hn (hb.mem_iff.2 hm)))⟩

/-- Dropping objects; what is known of them may be kept as a fact. -/
theorem Inv.drop {w0 : World} {A0 : List Nat} {w : World} {own rest : List Ob} {N N' : Mp} (h : Inv w0 A0 w (own ++ rest) N) (hN : ∀ w, N w → Objs rest w → N' w) : Inv w0 A0 w own N' := by
  have hnd := h.nodup
  rw [blksOf_append, List.nodup_append] at hnd
  refine ⟨(Objs.append.1 h.objs).1, hnd.1, h.fr, fun b hb => h.from_ b (by rw [blksOf_append]; exact List.mem_append_left _ hb), fun w' h1 h2 => ?_⟩
  have hin : ∀ b ∈ blksOf rest, b ∉ blksOf own := fun b hb hb' => hnd.2.2 b hb' b hb rfl
  refine hN w' (h.stable w' h1 fun i hi hni hA => h2 i hi (fun hm => hni (by rw [blksOf_append]; exact List.mem_append_left _ hm)) hA) ?_
  refine (Objs.append.1 h.objs).2.keep fun b hb => h2 b ((Objs.append.1 h.objs).2.lt b hb) (hin b hb) fun hlt => ?_
  rcases h.from_ b (by rw [blksOf_append]; exact List.mem_append_right _ hb) with h' | h'
  · exact h'
  · omega

theorem Inv.weaken {w0 : World} {A0 : List Nat} {w : World} {own : List Ob} {N N' : Mp} (h : Inv w0 A0 w own N) (hN : ∀ w, N w → N' w) : Inv w0 A0 w own N' :=
  ⟨h.objs, h.nodup, h.fr, h.from_, fun w' h1 h2 => hN w' (h.stable w' h1 h2)⟩

/-- A new block. -/
theorem Inv.alloc {w0 : World} {A0 : List Nat} {w : World} {own : List Ob} {N : Mp} (h : Inv w0 A0 w own N) (x : Obj) (o : Ob) (hb : o.blks = [w.heap.size]) (ho : o.is (w.alloc x)) :
    Inv w0 A0 (w.alloc x) (o :: own) N := by
  have hlt := h.objs.lt
  have hsame : ∀ i, i < w.heap.size → (w.alloc x).heap[i]? = w.heap[i]? := fun i hi => RowKit.Below.heap_alloc w x i hi
  have hsz : (w.alloc x).heap.size = w.heap.size + 1 := by simp
  refine ⟨?_, ?_, ?_, ?_, ?_⟩
  · intro o' ho'
    rcases List.mem_cons.1 ho' with rfl | ho'
    · exact ho
    · exact Ob.keep (h.objs o' ho') fun b hb' => hsame b (hlt b (mem_blksOf.2 ⟨o', ho', hb'⟩))
  · rw [blksOf_cons, hb, List.singleton_append, List.nodup_cons]
    exact ⟨fun hm => by have := hlt _ hm; omega, h.nodup⟩
  · exact h.fr.trans ⟨rfl, rfl, rfl, by omega, fun i hi _ => hsame i hi⟩ (fun i hi => hi) (fun i (hi : i ∈ ([] : List Nat)) => by cases hi)
  · intro b hb'
    rw [blksOf_cons, hb, List.singleton_append] at hb'
    rcases List.mem_cons.1 hb' with rfl | hb'
    · exact .inr h.fr.size
    · exact h.from_ b hb'
  · intro w' h1 h2
    refine h.stable w' (by omega) fun i hi hn hA => ?_
    rw [h2 i (by omega) (by rw [blksOf_cons, hb, List.singleton_append, List.mem_cons]; exact fun hm => hm.elim (by omega) hn) hA, hsame i hi]

/-- A block of the call's own is written. -/
theorem Inv.write {w0 : World} {A0 : List Nat} {w w' : World} {o o' : Ob} {rest : List Ob} {N : Mp} (h : Inv w0 A0 w (o :: rest) N) (hb : o'.blks = o.blks)
    (hos : w'.os = w.os) (htape : w'.tape = w.tape) (hout : w'.output = w.output) (hsize : w'.heap.size = w.heap.size)
    (hsame : ∀ i, i ∉ o.blks → w'.heap[i]? = w.heap[i]?) (ho : o'.is w') : Inv w0 A0 w' (o' :: rest) N := by
  have hblk : blksOf (o' :: rest) = blksOf (o :: rest) := by rw [blksOf_cons, blksOf_cons, hb]
  have hnd := h.nodup
  rw [blksOf_cons, List.nodup_append] at hnd
  refine ⟨?_, by rw [hblk]; exact h.nodup, ?_, fun b hb' => h.from_ b (by rw [← hblk]; exact hb'), ?_⟩
  · intro x hx
    rcases List.mem_cons.1 hx with rfl | hx
    · exact ho
    · exact Ob.keep (h.objs x (List.mem_cons_of_mem _ hx)) fun b hb' => hsame b fun hm => hnd.2.2 b hm b (mem_blksOf.2 ⟨x, hx, hb'⟩) rfl
  · refine h.fr.trans (T := o.blks) ⟨hos, htape, hout, by omega, fun i _ hi => hsame i hi⟩ (fun i hi => hi) fun i hi hlt => ?_
    rcases h.from_ i (by rw [blksOf_cons]; exact List.mem_append_left _ hi) with h' | h'
    · exact h'
    · omega
  · intro w'' h1 h2
    refine h.stable w'' (by omega) fun i hi hn hA => ?_
    rw [h2 i (by omega) (by rw [hblk]; exact hn) hA]
    exact hsame i fun hm => hn (by rw [blksOf_cons]; exact List.mem_append_left _ hm)

/-- Behind a call: it was handed the objects A, and could read all else. -/
theorem Inv.call {w0 : World} {A0 : List Nat} {w w' : World} {A rest own' : List Ob} {N N' : Mp} (h : Inv w0 A0 w (A ++ rest) N)
    (k : Inv w (blksOf A) w' own' N') : Inv w0 A0 w' (own' ++ rest) (MpAnd N N') := by
  have hnd := h.nodup
  rw [blksOf_append, List.nodup_append] at hnd
  have hA : ∀ b ∈ blksOf A, b ∈ A0 ∨ w0.heap.size ≤ b := fun b hb => h.from_ b (by rw [blksOf_append]; exact List.mem_append_left _ hb)
  have hrest := (Objs.append.1 h.objs).2
  have hrlt := hrest.lt
  have hsz := h.fr.size
  have hsz' := k.fr.size
  have hsame : ∀ i, i < w.heap.size → i ∉ blksOf A → w'.heap[i]? = w.heap[i]? := k.fr.same
  refine ⟨?_, ?_, ?_, ?_, ?_⟩
  · refine Objs.append.2 ⟨k.objs, hrest.keep fun b hb => hsame b (hrlt b hb) fun hm => hnd.2.2 b hm b hb rfl⟩
  · rw [blksOf_append, List.nodup_append]
    refine ⟨k.nodup, hnd.2.1, ?_⟩
    rintro a ha b hb rfl
    rcases k.from_ a ha with h' | h'
    · exact hnd.2.2 a h' a hb rfl
    · have := hrlt a hb; omega
  · refine h.fr.trans k.fr (fun i hi => hi) fun i hi hlt => ?_
    rcases hA i hi with h' | h'
    · exact h'
    · omega
  · intro b hb
    rw [blksOf_append] at hb
    rcases List.mem_append.1 hb with hb | hb
    · rcases k.from_ b hb with h' | h'
      · exact hA b h'
      · exact .inr (by omega)
    · exact h.from_ b (by rw [blksOf_append]; exact List.mem_append_right _ hb)
  · intro w'' h1 h2
    refine ⟨h.stable w'' (by omega) fun i hi hn hA' => ?_, k.stable w'' h1 fun i hi hn hA' => h2 i hi ?_ ?_⟩
    · have hn' : i ∉ blksOf A := fun hm => hn (by rw [blksOf_append]; exact List.mem_append_left _ hm)
      rw [h2 i (by omega) ?_ hA', hsame i hi hn']
      rw [blksOf_append]
      intro hm
      rcases List.mem_append.1 hm with hm | hm
      · rcases k.from_ i hm with h' | h'
        · exact hn' h'
        · omega
      · exact hn (by rw [blksOf_append]; exact List.mem_append_right _ hm)
    · rw [blksOf_append]
      intro hm
      rcases List.mem_append.1 hm with hm | hm
      · exact hn hm
      · exact hnd.2.2 i (hA' (hrlt i hm)) i hm rfl
    · intro hlt
      rcases hA i (hA' (by omega)) with h' | h'
      · exact h'
      · omega

/-- Where a call begins inside a call. -/
theorem Inv.entry {C : Ctx} (hC : C.ok) {w : World} {A rest : List Ob} {N : Mp} (h : C.inv w (A ++ rest) N) : Entry w A (GN C.G rest N) := by
  have hnd := h.nodup
  rw [blksOf_append, List.nodup_append] at hnd
  have hA : ∀ b ∈ blksOf A, b ∈ blksOf C.A0 ∨ C.w0.heap.size ≤ b := fun b hb => h.from_ b (by rw [blksOf_append]; exact List.mem_append_left _ hb)
  have hrest := (Objs.append.1 h.objs).2
  refine ⟨(Objs.append.1 h.objs).1, hnd.1, fun w' hfr => ⟨⟨?_, ?_⟩, ?_⟩⟩
  · refine hC.pers w' (h.fr.trans hfr (fun i hi => hi) fun i hi hlt => ?_)
    rcases hA i hi with h' | h'
    · exact h'
    · omega
  · exact h.stable w' hfr.size fun i hi hn _ => hfr.same i hi fun hm => hn (by rw [blksOf_append]; exact List.mem_append_left _ hm)
  · exact hrest.keep fun b hb => hfr.same b (hrest.lt b hb) fun hm => hnd.2.2 b hm b hb rfl
end Go.Proofs.Yticllmnblcjjcaa
end

section
/- Operations that only read: what they ask and what they give, and that they do so in the model. -/
namespace Go.Proofs.Yticllmnblcjjcaa

/-- What is known of a frame: slots and their values, the latest first. -/
abbrev Fm := List (Nat × Value)
def look : Fm → Nat → Option Value
  | [], _ => none
  | (d, v) :: r, t => match Nat.beq d t with
    | true => some v
    | false => look r t
def ev (fm : Fm) : Operand → Option Value
  | .tmp t => look fm t
  | .const v => some v
  | .global g => some (.pointer (some ⟨g, 0, none⟩))
  | .func f => some (.func (.func f) #[] #[])
def evs (fm : Fm) : List Operand → Option (List Value)
  | [] => some []
  | x :: r => match ev fm x with
    | some v => match evs fm r with
      | some vs => some (v :: vs)
      | none => none
    | none => none
def put (dst : Option Tmp) (v : Value) (fm : Fm) : Fm := match dst with
  | some d => (d, v) :: fm
  | none => fm

/-- What stays: the deferred calls, and the slots below `lo`. -/
structure Env where
  ds : List Deferred
  lo : Nat
  base : Array Value
def noD : Env := ⟨[], 0, #[]⟩
structure Kept (D : Env) (a : Act) : Prop where
  ds : a.defers = D.ds
  base : ∀ t, t < D.lo → a.tmps[t]? = D.base[t]?
theorem Kept.put_ {D : Env} {a : Act} (h : Kept D a) (dst : Option Tmp) (hd : ∀ d, dst = some d → D.lo ≤ d) (v : Value) : Kept D (a.put dst v) := by
  cases dst with
  | none => exact h
  | some d =>
    have hd := hd d rfl
    refine ⟨by simp [Act.put, h.ds], fun t ht => ?_⟩
    simp only [Act.put]
    rw [Array.getElem?_setIfInBounds_ne (by omega)]
    exact h.base t ht
theorem Kept.unput {D : Env} {a : Act} (dst : Option Tmp) (hd : ∀ d, dst = some d → D.lo ≤ d) (v : Value) (h : Kept D (a.put dst v)) : Kept D a := by
  cases dst with
  | none => exact h
  | some d =>
    have hd := hd d rfl
    refine ⟨by simpa [Act.put] using h.ds, fun t ht => ?_⟩
    have := h.base t ht
    simp only [Act.put] at this
    rwa [Array.getElem?_setIfInBounds_ne (by omega)] at this
structure FmOk (D : Env) (n : Nat) (fm : Fm) (a : Act) : Prop where
  size : a.tmps.size = n
  defers : Kept D a
  get : ∀ t v, look fm t = some v → a.tmps[t]? = some v

theorem FmOk.eval_ {D : Env} {n : Nat} {fm : Fm} {a : Act} (h : FmOk D n fm a) {x : Operand} {v : Value} (he : ev fm x = some v) : a.eval x = v := by
  cases x with
  | tmp t =>
    have := h.get t v he
    simp [Act.eval, Array.getD_eq_getD_getElem?, this]
  | const c => simpa [ev, Act.eval] using he
  | global g => simpa [ev, Act.eval] using he
  | func f => simpa [ev, Act.eval] using he

theorem FmOk.evals {D : Env} {n : Nat} {fm : Fm} {a : Act} (h : FmOk D n fm a) : ∀ {xs : List Operand} {vs : List Value}, evs fm xs = some vs → xs.map a.eval = vs
  | [], vs, he => by simpa [evs] using he
  | x :: r, vs, he => by
    unfold evs at he
    split at he
    · rename_i v hv
      split at he
      · rename_i us hus
        cases he
        simp [h.eval_ hv, FmOk.evals h hus]
      · cases he
    · cases he

theorem FmOk.put_ {D : Env} {n : Nat} {fm : Fm} {a : Act} (h : FmOk D n fm a) (dst : Option Tmp) (hd : ∀ d, dst = some d → D.lo ≤ d ∧ d < n) (v : Value) : FmOk D n (put dst v fm) (a.put dst v) := by
  cases dst with
  | none => exact h
  | some d =>
    have hk := h.defers.put_ (some d) (fun e he => (hd e he).1) v
    have hd := (hd d rfl).2
    refine ⟨by simp [Act.put, h.size], hk, fun t u ht => ?_⟩
    unfold put look at ht
    simp only [Act.put]
    cases hdt : Nat.beq d t with
    | true =>
      rw [hdt] at ht
      have : d = t := Nat.eq_of_beq_eq_true hdt
      subst this
      cases ht
      simp [h.size, hd]
    | false =>
      rw [hdt] at ht
      have hne : d ≠ t := Nat.ne_of_beq_eq_false hdt
      rw [Array.getElem?_setIfInBounds_ne hne]
      exact h.get t u ht

theorem FmOk.known {D : Env} {n : Nat} {fm : Fm} {a : Act} (h : FmOk D n fm a) {t : Nat} {v : Value} (ht : look fm t = some v) : FmOk D n ((t, v) :: fm) a := by
  refine ⟨h.size, h.defers, fun s u hs => ?_⟩
  unfold look at hs
  split at hs
  · rename_i hb
    have : t = s := Nat.eq_of_beq_eq_true hb
    subst this
    cases hs
    exact h.get _ _ ht
  · exact h.get _ _ hs

/-! ### Marks: what a proof has to settle -/
/-- A test: both ways. -/
def vcIf (b : Bool) (X Y : Prop) : Prop := Bool.rec (motive := fun _ => Prop) Y X b
theorem vcIf_split {b : Bool} {X Y : Prop} (h : b = true → X) (k : b = false → Y) : vcIf b X Y := by
  cases b
  · exact k rfl
  · exact h rfl
theorem vcIf_dec {p : Prop} [Decidable p] {X Y : Prop} (h : p → X) (k : ¬ p → Y) : vcIf (decide p) X Y := vcIf_split (fun e => h (of_decide_eq_true e)) (fun e => k (of_decide_eq_false e))
theorem vcIf_ndec {p : Prop} [Decidable p] {X Y : Prop} (h : ¬ p → X) (k : p → Y) : vcIf (!decide p) X Y := vcIf_split (fun e => h (by simpa using e)) (fun e => k (by simpa using e))
theorem vcIf_yes {p : Prop} [Decidable p] {X Y : Prop} (hp : p) (h : X) : vcIf (decide p) X Y := vcIf_dec (fun _ => h) (fun k => absurd hp k)
theorem vcIf_no {p : Prop} [Decidable p] {X Y : Prop} (hp : ¬ p) (h : Y) : vcIf (decide p) X Y := vcIf_dec (fun k => absurd k hp) (fun _ => h)
theorem vcIf_nyes {p : Prop} [Decidable p] {X Y : Prop} (hp : ¬ p) (h : X) : vcIf (!decide p) X Y := vcIf_ndec (fun _ => h) (fun k => absurd k hp)
theorem vcIf_nno {p : Prop} [Decidable p] {X Y : Prop} (hp : p) (h : Y) : vcIf (!decide p) X Y := vcIf_ndec (fun k => absurd hp k) (fun _ => h)
theorem vcIf_is {b : Bool} {X Y : Prop} (c : Bool) (hb : b = c) (h : vcIf c X Y) : vcIf b X Y := by rw [hb]; exact h

/-- A slot known anew. -/
def setL (t : Nat) (v : Value) : Fm → Fm
  | [] => [(t, v)]
  | (d, u) :: r => match Nat.beq d t with
    | true => (d, v) :: r
    | false => (d, u) :: setL t v r
def setK (t : Nat) (v : Value) : Fm → (Fm → Prop) → Prop
  | [], k => k [(t, v)]
  | (d, u) :: r, k => match Nat.beq d t with
    | true => k ((d, v) :: r)
    | false => setK t v r fun r => k ((d, u) :: r)
theorem setK_eq {t : Nat} {v : Value} : ∀ {fm : Fm} {k : Fm → Prop}, setK t v fm k = k (setL t v fm)
  | [], _ => rfl
  | (d, u) :: r, k => by
    unfold setK setL
    split
    · rfl
    · exact setK_eq
theorem setL_same {t : Nat} {v : Value} : ∀ {fm : Fm}, look fm t = some v → setL t v fm = fm
  | [], h => by cases h
  | (d, u) :: r, h => by
    unfold look at h
    unfold setL
    split at h
    · cases h; rfl
    · exact congrArg _ (setL_same h)

/-- A whole number's operation: as it is if it fits, else wrapped round. -/
structure vcFit (kd : IntKind) (e : Int) (X : Int → Prop) : Prop where
  intro ::
  out : X (kd.wrap e)
theorem wrap_in (kd : IntKind) (e : Int) (h : kd.min ≤ e) (h' : e ≤ kd.max) : kd.wrap e = e := by
  cases kd <;> simp only [IntKind.min, IntKind.max, IntKind.wrap, IntKind.signed, IntKind.bits, Bool.false_eq_true, if_true, if_false, Bool.true_and, Bool.false_and] at * <;> (try split) <;> simp_all <;> omega
theorem vcFit_in {kd : IntKind} {e : Int} {X : Int → Prop} (h : kd.min ≤ e ∧ e ≤ kd.max) (k : X e) : vcFit kd e X := by
  refine ⟨?_⟩; rw [wrap_in kd e h.1 h.2]; exact k
theorem vcFit_i64 {e : Int} {X : Int → Prop} (h : -9223372036854775808 ≤ e ∧ e ≤ 9223372036854775807) (k : X e) : vcFit .i64 e X :=
  vcFit_in (by simpa [IntKind.min, IntKind.max, IntKind.signed, IntKind.bits] using h) k
theorem vcFit_u64 {e : Int} {X : Int → Prop} (k : X (e % 18446744073709551616)) : vcFit .u64 e X := by
  exact ⟨by simpa [IntKind.wrap, IntKind.signed, IntKind.bits] using k⟩
theorem vcFit_u64_in {e : Int} {X : Int → Prop} (h : 0 ≤ e ∧ e ≤ 18446744073709551615) (k : X e) : vcFit .u64 e X :=
  vcFit_in (by simpa [IntKind.min, IntKind.max, IntKind.signed, IntKind.bits] using h) k
theorem vcFit_u32 {e : Int} {X : Int → Prop} (k : X (e % 4294967296)) : vcFit .u32 e X := by
  exact ⟨by simpa [IntKind.wrap, IntKind.signed, IntKind.bits] using k⟩
theorem vcFit_u8 {e : Int} {X : Int → Prop} (k : X (e % 256)) : vcFit .u8 e X := by
  exact ⟨by simpa [IntKind.wrap, IntKind.signed, IntKind.bits] using k⟩
theorem vcFit_u8_in {e : Int} {X : Int → Prop} (h : 0 ≤ e ∧ e ≤ 255) (k : X e) : vcFit .u8 e X :=
  vcFit_in (by simpa [IntKind.min, IntKind.max, IntKind.signed, IntKind.bits] using h) k

structure vcQuo (kd : IntKind) (a b : Int) (X : Int → Prop) : Prop where
  intro ::
  ne : b ≠ 0
  out : X (kd.wrap (a.tdiv b))
structure vcRem (a b : Int) (X : Int → Prop) : Prop where
  intro ::
  ne : b ≠ 0
  out : X (a.tmod b)
theorem vcQuo_pos {kd : IntKind} {a b : Int} {X : Int → Prop} (h : 0 ≤ a ∧ a ≤ kd.max ∧ 0 < b) (k : X (a / b)) : vcQuo kd a b X := by
  refine ⟨by omega, ?_⟩
  have h1 : a.tdiv b = a / b := Int.tdiv_eq_ediv_of_nonneg h.1
  have h2 : 0 ≤ a / b := Int.ediv_nonneg h.1 (by omega)
  have h3 : a / b ≤ a := Int.ediv_le_self _ h.1
  have hmin : kd.min ≤ 0 := by cases kd <;> simp [IntKind.min, IntKind.signed, IntKind.bits]
  rw [h1, wrap_in kd _ (by omega) (by omega)]
  exact k
theorem vcQuo_i64 {a b : Int} {X : Int → Prop} (h : 0 ≤ a ∧ a ≤ 9223372036854775807 ∧ 0 < b) (k : X (a / b)) : vcQuo .i64 a b X :=
  vcQuo_pos (by simpa [IntKind.max, IntKind.signed, IntKind.bits] using h) k
theorem vcQuo_u64 {a b : Int} {X : Int → Prop} (h : 0 ≤ a ∧ a ≤ 18446744073709551615 ∧ 0 < b) (k : X (a / b)) : vcQuo .u64 a b X :=
  vcQuo_pos (by simpa [IntKind.max, IntKind.signed, IntKind.bits] using h) k
theorem vcQuo_u8 {a b : Int} {X : Int → Prop} (h : 0 ≤ a ∧ a ≤ 255 ∧ 0 < b) (k : X (a / b)) : vcQuo .u8 a b X :=
  vcQuo_pos (by simpa [IntKind.max, IntKind.signed, IntKind.bits] using h) k
theorem vcRem_pos {a b : Int} {X : Int → Prop} (h : 0 ≤ a ∧ 0 < b) (k : X (a % b)) : vcRem a b X := by
  refine ⟨by omega, ?_⟩
  rw [Int.tmod_eq_emod_of_nonneg h.1]
  exact k

structure vcShl (kd : IntKind) (a b : Int) (X : Int → Prop) : Prop where
  intro ::
  nn : 0 ≤ b
  out : X (kd.wrap (a * 2 ^ (min b.toNat kd.bits)))
structure vcShr (kd : IntKind) (a b : Int) (X : Int → Prop) : Prop where
  intro ::
  nn : 0 ≤ b
  out : X (a.fdiv (2 ^ (min b.toNat kd.bits)))
theorem vcShl_nat {kd : IntKind} {a : Int} {n : Nat} {X : Int → Prop} (h : n ≤ kd.bits) (k : vcFit kd (a * 2 ^ n) X) : vcShl kd a n X := by
  refine ⟨by omega, ?_⟩
  rw [Int.toNat_natCast, Nat.min_eq_left h]
  exact k.out
theorem vcShr_nat {kd : IntKind} {a : Int} {n : Nat} {X : Int → Prop} (h : n ≤ kd.bits) (k : X (a / 2 ^ n)) : vcShr kd a n X := by
  refine ⟨by omega, ?_⟩
  rw [Int.toNat_natCast, Nat.min_eq_left h, Int.fdiv_eq_ediv_of_nonneg _ (Int.le_of_lt (Int.pow_pos (by omega)))]
  exact k

/-- The whole number behind a bit operation. -/
def bitI (op : BinOp) (kd : IntKind) (x y : Int) : Int :=
  let a := BitVec.ofInt kd.bits x
  let b := BitVec.ofInt kd.bits y
  match op with
  | .and => kd.wrap (a &&& b).toNat
  | .or => kd.wrap (a ||| b).toNat
  | .xor => kd.wrap (a ^^^ b).toNat
  | .andNot => kd.wrap (a &&& ~~~b).toNat
  | _ => 0

/-- A bit operation. -/
structure vcBit (e : Int) (X : Int → Prop) : Prop where
  intro ::
  out : X e
theorem vcBit_as {e : Int} {X : Int → Prop} (e' : Int) (h : e = e') (k : X e') : vcBit e X := by subst h; exact ⟨k⟩

def vcInt (op : BinOp) (kd : IntKind) (a b : Int) (k : Value → Prop) : Prop :=
  match op with
  | .add => vcFit kd (a + b) fun e => k (.int kd e)
  | .sub => vcFit kd (a - b) fun e => k (.int kd e)
  | .mul => vcFit kd (a * b) fun e => k (.int kd e)
  | .quo => vcQuo kd a b fun e => k (.int kd e)
  | .rem => vcRem a b fun e => k (.int kd e)
  | .and => vcBit (bitI .and kd a b) fun e => k (.int kd e)
  | .or => vcBit (bitI .or kd a b) fun e => k (.int kd e)
  | .xor => vcBit (bitI .xor kd a b) fun e => k (.int kd e)
  | .andNot => vcBit (bitI .andNot kd a b) fun e => k (.int kd e)
  | .shl => False
  | .shr => False
  | .eql => k (.bool (decide (a = b)))
  | .neq => k (.bool (!decide (a = b)))
  | .lss => k (.bool (decide (a < b)))
  | .leq => k (.bool (decide (a ≤ b)))
  | .gtr => k (.bool (decide (b < a)))
  | .geq => k (.bool (decide (b ≤ a)))

/-- Where a slice begins behind 'x[l:..]'. -/
def cutA (A : Option Addr) (cap l size : Nat) : Option Addr := if cap = l then A else A.map (·.add (l * size))

def vcStrOp (op : BinOp) (a b : ByteArray) (k : Value → Prop) : Prop :=
  match op with
  | .eql => k (.bool (a.toList == b.toList))
  | .neq => k (.bool (!(a.toList == b.toList)))
  | .add => ((a.size + b.size : Nat) : Int) ≤ IntKind.i64.max ∧ k (.string (a ++ b))
  | _ => False

/-- Equality of values that are no whole numbers or texts. -/
def vcEql (P : Program) (t : TypeId) (x y : Value) (k : Bool → Prop) : Prop :=
  match x, y with
  | .bool a, .bool b => match P.underlying t with
    | some .bool => k (a == b)
    | _ => False
  | .slice A _ _, .slice none _ _ => match P.underlying t with
    | some (.slice _) => k A.isNone
    | _ => False
  | .pointer A, .pointer none => match P.underlying t with
    | some (.pointer _) => k A.isNone
    | _ => False
  | .map A, .map none => match P.underlying t with
    | some (.map _ _) => k A.isNone
    | _ => False
  | .func _ _ _, .nilFunc => match P.underlying t with
    | some (.func _ _ _) => k false
    | _ => False
  | .nilFunc, .nilFunc => match P.underlying t with
    | some (.func _ _ _) => k true
    | _ => False
  | _, _ => False

/-- The kinds of the cells of a type whose values can be compared cell by cell. -/
inductive LK where
  | b
  | s
  | i (k : IntKind)
deriving DecidableEq
def LK.fit : LK → Value → Bool
  | .b, .bool _ => true
  | .s, .string _ => true
  | .i k, .int k' _ => k == k'
  | _, _ => false
def fitsL : List LK → List Value → Bool
  | [], [] => true
  | k :: l, v :: xs => k.fit v && fitsL l xs
  | _, _ => false
def leavesF (P : Program) (lv : TypeId → Option (List LK)) : Nat → List Field → Option (List LK)
  | _, [] => some []
  | off, f :: r => match lv f.type with
    | none => none
    | some l => match f.offset == off && decide (f.name ≠ "_") && (P.info? f.type).any (fun i => i.size == l.length) && Nat.blt 0 l.length with
      | false => none
      | true => match leavesF P lv (off + l.length) r with
        | none => none
        | some m => some (l ++ m)
def leaves (P : Program) : Nat → TypeId → Option (List LK)
  | 0, _ => none
  | d + 1, t => match P.underlying t with
    | some .bool => some [.b]
    | some .string => some [.s]
    | some (.int k) => some [.i k]
    | some (.struct fs) => match P.stoodInHeld t with
      | true => none
      | false => leavesF P (leaves P d) 0 fs.toList
    | some (.array n e) => match leaves P d e with
      | none => none
      | some l => match (P.info? e).any (fun i => i.size == l.length) with
        | true => some (List.replicate n l).flatten
        | false => none
    | _ => none
def isAggT (P : Program) (t : TypeId) : Bool := match P.underlying t with
  | some (.struct _) | some (.array _ _) => true
  | _ => false
def eqType (P : Program) (t : TypeId) (l : List LK) : Bool := decide (leaves P 8 t = some l) && !P.eqGuardType P.depth t && isAggT P t
/-- Equality of two aggregates. -/
inductive vcEqA (P : Program) (t : TypeId) (xs ys : List Value) (X : Bool → Prop) : Prop
  | intro (l : List LK) (hl : eqType P t l = true) (hx : fitsL l xs = true) (hy : fitsL l ys = true) (b : Bool) (hb : b = true ↔ xs = ys) (k : X b)

def kindEq (a b : IntKind) : Bool := match a, b with
  | .i8, .i8 | .i16, .i16 | .i32, .i32 | .i64, .i64 | .u8, .u8 | .u16, .u16 | .u32, .u32 | .u64, .u64 => true
  | _, _ => false
theorem kindEq_eq {a b : IntKind} (h : kindEq a b = true) : a = b := by cases a <;> cases b <;> first | rfl | cases h

def vcBin (P : Program) (op : BinOp) (t : TypeId) (x y : Value) (k : Value → Prop) : Prop :=
  match x, y with
  | .int kx a, .int ky b => match op with
    | .shl => vcShl kx a b fun e => k (.int kx e)
    | .shr => vcShr kx a b fun e => k (.int kx e)
    | _ => match kindEq kx ky with
      | true => vcInt op kx a b k
      | false => False
  | .string a, .string b => vcStrOp op a b k
  | .agg xs, .agg ys => match op with
    | .eql => vcEqA P t xs.toList ys.toList fun b => k (.bool b)
    | .neq => vcEqA P t xs.toList ys.toList fun b => k (.bool (!b))
    | _ => False
  | x, y => match op with
    | .eql => vcEql P t x y fun b => k (.bool b)
    | .neq => vcEql P t x y fun b => k (.bool (!b))
    | _ => False

def vcUn (op : UnOp) (x : Value) (k : Value → Prop) : Prop :=
  match op, x with
  | .not, .bool b => k (.bool !b)
  | .neg, .int kd n => vcFit kd (0 - n) fun e => k (.int kd e)
  | .xor, .int kd n => vcBit (bitI .xor kd (if kd.signed then -1 else kd.max) n) fun e => k (.int kd e)
  | _, _ => False

/-- A number written out, if it is small. -/
def natK (n : Nat) (k : Nat → Prop) : Prop :=
  match n with
  | 0 => k 0
  | 1 => k 1
  | 2 => k 2
  | 3 => k 3
  | 4 => k 4
  | 5 => k 5
  | 6 => k 6
  | 7 => k 7
  | 8 => k 8
  | 9 => k 9
  | 10 => k 10
  | 11 => k 11
  | 12 => k 12
  | 13 => k 13
  | 14 => k 14
  | 15 => k 15
  | 16 => k 16
  | 17 => k 17
  | 18 => k 18
  | 19 => k 19
  | 20 => k 20
  | 21 => k 21
  | 22 => k 22
  | 23 => k 23
  | 24 => k 24
  | 32 => k 32
  | 36 => k 36
  | 40 => k 40
  | 48 => k 48
  | 49 => k 49
  | 56 => k 56
  | 64 => k 64
  | 72 => k 72
  | 80 => k 80
  | 88 => k 88
  | 96 => k 96
  | 104 => k 104
  | 112 => k 112
  | 120 => k 120
  | 128 => k 128
  | 136 => k 136
  | 144 => k 144
  | 152 => k 152
  | 160 => k 160
  | n => k n
theorem natK_eq {n : Nat} {k : Nat → Prop} : natK n k = k n := by unfold natK; split <;> rfl
/-- The place of an element. -/
def atK (n size : Nat) (k : Nat → Prop) : Prop := match size with
  | 1 => k n
  | s => k (n * s)
theorem atK_eq (n size : Nat) (k : Nat → Prop) : atK n size k = k (n * size) := by unfold atK; split <;> simp

/-- A read. -/
inductive vcLoad1 (M : Mp) (a : Addr) (X : Value → Prop) : Prop
  | intro (v : Value) (h : Ent M (fun w => w.cell? a = some v)) (k : X v)
inductive vcLoadN (M : Mp) (a : Addr) (n : Nat) (X : List Value → Prop) : Prop
  | intro (vs : List Value) (hl : vs.length = n) (h : Ent M (fun w => ∀ i, i < n → w.cell? (a.add i) = vs[i]?)) (k : X vs)
def vcLoad (P : Program) (M : Mp) (t : TypeId) (x : Value) (k : Value → Prop) : Prop :=
  match x with
  | .pointer (some a) => match P.underlying t with
    | some (.struct _) | some (.array _ _) => match P.info? t with
      | some i => natK i.size fun s => vcLoadN M a s fun vs => k (.agg vs.toArray)
      | none => False
    | some _ => vcLoad1 M a k
    | none => False
  | _ => False

/-- An index into a slice. -/
structure vcIdx (M : Mp) (A : Option Addr) (n : Nat) (i : Int) (X : Addr → Nat → Prop) : Prop where
  intro ::
  out : (∃ w, M w) → ∃ a, A = some a ∧ 0 ≤ i ∧ i < n ∧ X a i.toNat
/-- Where a row lies. -/
structure vcPtr (M : Mp) (A : Option Addr) (X : Option Addr → Prop) : Prop where
  intro ::
  out : (∃ w, M w) → X A
/-- An index into an array that lies in memory. -/
structure vcAt (n : Nat) (i : Int) (X : Nat → Prop) : Prop where
  intro ::
  bounds : 0 ≤ i ∧ i < n
  out : X i.toNat
/-- Bounds of a slice. -/
structure vcRange (l h m : Int) (X : Prop) : Prop where
  intro ::
  bounds : 0 ≤ l ∧ l ≤ h ∧ h ≤ m
  out : X

def valI (fm : Fm) (x : Option Operand) (d : Int) (k : Int → Prop) : Prop :=
  match x with
  | none => k d
  | some x => match ev fm x with
    | some (.int _ n) => k n
    | _ => False

def isNoneB {α : Type} : Option α → Bool
  | none => true
  | some _ => false

structure vcSlice3 (A : Option Addr) (size : Nat) (lim : Int) (l h m : Int) (k : Value → Prop) : Prop where
  intro ::
  bounds : 0 ≤ l ∧ l ≤ h ∧ h ≤ m
  out : m ≤ lim ∧ k (.slice (cutA A m.toNat l.toNat size) (h.toNat - l.toNat) (m.toNat - l.toNat))
def vcSlice (P : Program) (t : TypeId) (fm : Fm) (x : Operand) (lo hi mx : Option Operand) (k : Value → Prop) : Prop :=
  match ev fm x with
  | some (.slice A len cap) => match P.underlying t with
    | some (.slice e) => match P.info? e with
      | some i => match isNoneB hi && !isNoneB mx with
        | true => False
        | false => valI fm mx cap fun m => valI fm hi len fun h => valI fm lo 0 fun l => natK i.size fun s => vcSlice3 A s cap l h m k
      | none => False
    | _ => False
  | some (.pointer (some a)) => match P.underlying t with
    | some (.array n e) => match P.info? e with
      | some i => match isNoneB mx with
        | false => False
        | true => valI fm hi n fun h => valI fm lo 0 fun l => natK i.size fun s => vcRange l h n (k (.slice (cutA (some a) n l.toNat s) (h.toNat - l.toNat) (n - l.toNat)))
      | none => False
    | _ => False
  | some (.string s) => match P.underlying t with
    | some .string => match isNoneB mx with
      | false => False
      | true => valI fm hi s.size fun h => valI fm lo 0 fun l => vcRange l h s.size (k (.string (s.extract l.toNat h.toNat)))
    | _ => False
  | _ => False

def vcField (P : Program) (t : TypeId) (x : Value) (f : Nat) (k : Value → Prop) : Prop :=
  match x with
  | .agg cs => match P.underlying t with
    | some (.struct fields) => match fields[f]? with
      | some fd => match P.underlying fd.type with
        | some (.struct _) | some (.array _ _) => match P.info? fd.type with
          | some i => k (.agg (cs.extract fd.offset (fd.offset + i.size)))
          | none => False
        | some _ => match cs[fd.offset]? with
          | some v => k v
          | none => False
        | none => False
      | none => False
    | _ => False
  | _ => False

def vcFieldAddr (P : Program) (t : TypeId) (x : Value) (f : Nat) (k : Value → Prop) : Prop :=
  match x with
  | .pointer (some a) => match P.underlying t with
    | some (.struct fields) => match fields[f]? with
      | some fd => match P.info? fd.type with
        | some i => match Nat.beq i.size 0 with
          | true => False
          | false => k (.pointer (some (a.add fd.offset)))
        | none => False
      | none => False
    | _ => False
  | _ => False

def vcIndexAddr (P : Program) (M : Mp) (t : TypeId) (x i : Value) (k : Value → Prop) : Prop :=
  match x, i with
  | .slice A len _, .int _ n => match P.underlying t with
    | some (.slice e) => match P.info? e with
      | some inf => natK inf.size fun s => vcIdx M A len n fun a m => atK m s fun j => k (.pointer (some (a.add j)))
      | none => False
    | _ => False
  | .pointer (some a), .int _ n => match P.underlying t with
    | some (.array len e) => match P.info? e with
      | some inf => natK inf.size fun s => vcAt len n fun m => atK m s fun j => k (.pointer (some (a.add j)))
      | none => False
    | _ => False
  | _, _ => False

def vcIndex (P : Program) (t : TypeId) (x i : Value) (k : Value → Prop) : Prop :=
  match x, i with
  | .agg cs, .int _ n => match P.underlying t with
    | some (.array len e) => match P.underlying e with
      | some (.struct _) | some (.array _ _) => False
      | some _ => match P.info? e with
        | some inf => match Nat.beq inf.size 1 with
          | true => (0 ≤ n ∧ n < len) ∧ ∃ v, cs[n.toNat]? = some v ∧ k v
          | false => False
        | none => False
      | none => False
    | _ => False
  | .string s, .int _ n => match P.underlying t with
    | some .string => (0 ≤ n ∧ n < s.size) ∧ ∃ b : UInt8, s[n.toNat]? = some b ∧ k (.int .u8 b.toNat)
    | _ => False
  | _, _ => False

def vcLen (P : Program) (t : TypeId) (x : Value) (k : Value → Prop) : Prop :=
  match P.underlying t, x with
  | some (.slice _), .slice _ n _ => k (.int .i64 n)
  | some .string, .string s => k (.int .i64 s.size)
  | some (.array n _), _ => k (.int .i64 n)
  | some (.map _ _), .map none => k (.int .i64 0)
  | _, _ => False
def vcCap (P : Program) (t : TypeId) (x : Value) (k : Value → Prop) : Prop :=
  match P.underlying t, x with
  | some (.slice _), .slice _ _ n => k (.int .i64 n)
  | _, _ => False

def foldMin : Int → List Value → Option Int
  | x, [] => some x
  | x, .int _ y :: r => foldMin (if y < x then y else x) r
  | _, _ => none
def foldMax : Int → List Value → Option Int
  | x, [] => some x
  | x, .int _ y :: r => foldMax (if x < y then y else x) r
  | _, _ => none

/-- A row of cells from an address on. -/
def RowAt (A : Option Addr) (xs : List Value) : Mp := fun w => ∀ (i : Nat) (u : Value), xs[i]? = some u → ∃ a, A = some a ∧ w.cell? (a.add i) = some u
/-- Bytes as values. -/
def B (b : UInt8) : Value := .int .u8 b.toNat
def Bs (l : List UInt8) : List Value := l.map B
/-- Bytes read as a text. -/
inductive vcBytesStr (M : Mp) (A : Option Addr) (n : Nat) (X : ByteArray → Prop) : Prop
  | intro (bs : List UInt8) (hl : n = bs.length) (h : Ent M (RowAt A (Bs bs))) (k : X ⟨bs.toArray⟩)
def vcConv (P : Program) (M : Mp) (src dst : TypeId) (x : Value) (k : Value → Prop) : Prop :=
  match P.underlying src, P.underlying dst, x with
  | some _, some (.int kd), .int _ n => vcFit kd n fun e => k (.int kd e)
  | some _, some .string, .string s => k (.string s)
  | some (.slice e), some .string, .slice A n _ => match P.underlying e with
    | some (.int .u8) => vcBytesStr M A n fun s => k (.string s)
    | _ => False
  | _, _, _ => False

/-- The places and sizes of a struct's fields. -/
def fieldSizes (P : Program) : List Field → Option (List (Nat × Nat))
  | [] => some []
  | f :: r => match P.info? f.type with
    | some i => match fieldSizes P r with
      | some l => some ((f.offset, i.size) :: l)
      | none => none
    | none => none
def setAll : List Value → Nat → List Value → List Value
  | cs, _, [] => cs
  | cs, i, v :: r => setAll (cs.set i v) (i + 1) r
/-- The same in one pass. -/
def layO : List Value → List Value → List Value
  | [], cs => cs
  | v :: r, _ :: cs => v :: layO r cs
  | _ :: _, [] => []
def layL : Nat → List Value → List Value → List Value
  | 0, vs, cs => layO vs cs
  | n + 1, vs, c :: cs => c :: layL n vs cs
  | _ + 1, _, [] => []
theorem setAll_cons (c : Value) : ∀ (vs cs : List Value) (i : Nat), setAll (c :: cs) (i + 1) vs = c :: setAll cs i vs
  | [], _, _ => rfl
  | v :: r, cs, i => by simp only [setAll, List.set_cons_succ]; exact setAll_cons c r (cs.set i v) (i + 1)
theorem layO_eq : ∀ (vs cs : List Value), vs.length ≤ cs.length → layO vs cs = setAll cs 0 vs
  | [], _, _ => rfl
  | v :: r, [], h => by cases h
  | v :: r, c :: cs, h => by
    simp only [layO, setAll, List.set_cons_zero]
    rw [setAll_cons, layO_eq r cs (by simpa using h)]
theorem layL_eq : ∀ (n : Nat) (vs cs : List Value), n + vs.length ≤ cs.length → layL n vs cs = setAll cs n vs
  | 0, vs, cs, h => layO_eq vs cs (by simpa using h)
  | n + 1, vs, [], h => by simp at h
  | n + 1, vs, c :: cs, h => by
    rw [setAll_cons]
    simp only [layL]
    rw [layL_eq n vs cs (by simp at h; omega)]
theorem layO_length : ∀ (vs cs : List Value), (layO vs cs).length = cs.length
  | [], _ => rfl
  | _ :: _, [] => rfl
  | v :: r, c :: cs => by simp only [layO, List.length_cons, layO_length r cs]
theorem layL_length : ∀ (n : Nat) (vs cs : List Value), (layL n vs cs).length = cs.length
  | 0, vs, cs => layO_length vs cs
  | _ + 1, _, [] => rfl
  | n + 1, vs, c :: cs => by simp only [layL, List.length_cons, layL_length n vs cs]
def fillL (place : Nat → Option (Nat × Nat)) (cells : List Value) : List (Nat × Value) → Option (List Value)
  | [] => some cells
  | (i, v) :: rest => match place i with
    | none => none
    | some (off, size) => match Nat.beq v.cells.size size && Nat.ble (off + v.cells.size) cells.length with
      | true => fillL place (layL off v.cells.toList cells) rest
      | false => none
/-- A list written out, cell by cell. -/
def forced : List Value → (List Value → Prop) → Prop
  | [], k => k []
  | v :: r, k => match v with
    | .bool b => forced r fun l => k (.bool b :: l)
    | .int kd n => forced r fun l => k (.int kd n :: l)
    | .string s => forced r fun l => k (.string s :: l)
    | .pointer a => forced r fun l => k (.pointer a :: l)
    | .slice a n c => forced r fun l => k (.slice a n c :: l)
    | .map a => forced r fun l => k (.map a :: l)
    | .func f a b => forced r fun l => k (.func f a b :: l)
    | v => forced r fun l => k (v :: l)
theorem forced_eq (l : List Value) : ∀ (k : List Value → Prop), forced l k → k l := by
  induction l with
  | nil => exact fun _ h => h
  | cons v r ih => intro k h; cases v <;> exact ih _ h

def partVals (fm : Fm) : List (Nat × Operand) → Option (List (Nat × Value))
  | [] => some []
  | (i, x) :: r => match ev fm x with
    | some v => match partVals fm r with
      | some l => some ((i, v) :: l)
      | none => none
    | none => none

def vcBuild (P : Program) (t : TypeId) (fm : Fm) (parts : List (Nat × Operand)) (k : Value → Prop) : Prop :=
  match partVals fm parts with
  | some vs => match P.info? t with
    | some i => match i.zero with
      | some z => match P.underlying t with
        | some (.struct fields) => match fieldSizes P fields.toList with
          | some pl => match fillL (fun j => pl[j]?) z.cells.toList vs with
            | some cs => forced cs fun cs => k (.agg cs.toArray)
            | none => False
          | none => False
        | some (.array _ e) => match P.info? e with
          | some ie => match fillL (fun j => some (j * ie.size, ie.size)) z.cells.toList vs with
            | some cs => forced cs fun cs => k (.agg cs.toArray)
            | none => False
          | none => False
        | _ => False
      | none => False
    | none => False
  | none => False

def evK (fm : Fm) (x : Operand) (k : Value → Prop) : Prop := match ev fm x with
  | some v => k v
  | none => False

def isPure : Op → Bool
  | .move _ | .assign _ | .pick _ _ _ | .load _ _ | .nilCheck _ | .binOp _ _ _ _ _ | .unOp _ _ _ | .slice _ _ _ _ _ | .fieldAddr _ _ _ | .field _ _ _ | .indexAddr _ _ _ | .index _ _ _ | .extract _ _ | .build _ _ | .makeFunc _ _ _ | .sliceToArrayPointer _ _ | .makeInterface _ _ | .typeAssert _ _ _ _ => true
  | .convert _ _ _ | .lookup _ _ _ _ | .entry _ => true
  | .call { callee := .builtin .len, .. } | .call { callee := .builtin .cap, .. } | .call { callee := .builtin .min, .. } | .call { callee := .builtin .max, .. } => true
  | _ => false

/-! ### Maps with whole numbers as keys: key, value, when it was stored. -/
abbrev Ents := List (Int × Value × Nat)
def mI (kd : IntKind) (l : Ents) : List (Value × Value × Nat) := l.map fun e => (.int kd e.1, e.2.1, e.2.2)
def getE (k : Int) : Ents → Option (Value × Nat)
  | [] => none
  | e :: r => if e.1 = k then some e.2 else getE k r
def setE (k : Int) (v : Value) : Ents → Ents
  | [] => []
  | e :: r => if e.1 = k then (e.1, v, e.2.2) :: r else e :: setE k v r
def delE (k : Int) : Ents → Ents
  | [] => []
  | e :: r => if e.1 = k then r else e :: delE k r
def setB (b : Nat) (v : Value) : Ents → Ents
  | [] => []
  | e :: r => if e.2.2 = b then (e.1, v, e.2.2) :: r else e :: setB b v r
def MapAt (kd : IntKind) (b : Nat) (l : Ents) (clock : Nat) : Mp := fun w => (Ob.map b (mI kd l) clock).is w
inductive vcLook (M : Mp) (kd kd' : IntKind) (b : Nat) (n : Int) (X : Option (Value × Nat) → Prop) : Prop
  | intro (hk : kd = kd') (l : Ents) (clock : Nat) (h : Ent M (MapAt kd b l clock)) (r : Option (Value × Nat)) (hr : getE n l = r) (k : X r)
/-- In an empty map with texts as keys. -/
inductive vcLookS (M : Mp) (b : Nat) (X : Prop) : Prop
  | intro (clock : Nat) (h : Ent M (fun w => (Ob.map b [] clock).is w)) (k : X)
def vcLookup (P : Program) (M : Mp) (t : TypeId) (x i : Value) (ok : Bool) (k : Value → Prop) : Prop :=
  match x, i with
  | .map (some b), .int kd n => match P.underlying t with
    | some (.map kt et) => match P.underlying kt with
      | some (.int kd') => match P.info? et with
        | some inf => match inf.zero with
          | some z => vcLook M kd kd' b n fun r => match ok with
            | true => (match r with
              | some e => k (.tuple #[e.1, .bool true])
              | none => k (.tuple #[z, .bool false]))
            | false => (match r with
              | some e => k e.1
              | none => k z)
          | none => False
        | none => False
      | _ => False
    | _ => False
  | .map (some b), .string _ => match P.underlying t with
    | some (.map kt et) => match P.underlying kt with
      | some .string => match P.info? et with
        | some inf => match inf.zero with
          | some z => vcLookS M b (match ok with
            | true => k (.tuple #[z, .bool false])
            | false => k z)
          | none => False
        | none => False
      | _ => False
    | _ => False
  | _, _ => False

/-- The entry at which an iterator stands. -/
inductive vcEnt (M : Mp) (r : Nat) (k : Value → Prop) : Prop
  | intro (b since : Nat) (seen : List Nat) (s : Nat) (l : List (Value × Value × Nat)) (clock : Nat) (ht : Ent M (fun w => (Ob.iter r b since (seen ++ [s]) clock).is w)) (hm : Ent M (fun w => (Ob.map b l clock).is w)) (e : Value × Value × Nat) (he : e ∈ l) (hs : e.2.2 = s) (hk : k (.tuple #[e.1, e.2.1]))

def vcPure (P : Program) (M : Mp) (o : Op) (fm : Fm) (k : Value → Prop) : Prop :=
  match o with
  | .move x | .assign x => evK fm x k
  | .pick c a b => evK fm c fun cv => evK fm a fun va => evK fm b fun vb => (match cv with
    | .bool t => vcIf t (k va) (k vb)
    | _ => False)
  | .load t a => evK fm a fun v => vcLoad P M t v k
  | .nilCheck x => evK fm x fun v => (match v with
    | .pointer (some a) => k (.pointer (some a))
    | .func (.func f) u c => k (.func (.func f) u c)
    | _ => False)
  | .binOp op t x y _ => evK fm x fun vx => evK fm y fun vy => vcBin P op t vx vy k
  | .unOp op _ x => evK fm x fun v => vcUn op v k
  | .convert s d x => evK fm x fun v => vcConv P M s d v k
  | .slice t x lo hi mx => vcSlice P t fm x lo hi mx k
  | .fieldAddr t x f => evK fm x fun v => vcFieldAddr P t v f k
  | .field t x f => evK fm x fun v => vcField P t v f k
  | .indexAddr t x i => evK fm x fun vx => evK fm i fun vi => vcIndexAddr P M t vx vi k
  | .index t x i => evK fm x fun vx => evK fm i fun vi => vcIndex P t vx vi k
  | .lookup t x i ok => evK fm x fun vx => evK fm i fun vi => vcLookup P M t vx vi ok k
  | .entry x => evK fm x fun v => (match v with
    | .pointer (some ⟨r, 0, none⟩) => vcEnt M r k
    | _ => False)
  | .extract x i => evK fm x fun v => (match v with
    | .tuple vs => (match vs[i]? with
      | some u => k u
      | none => False)
    | _ => False)
  | .build t parts => vcBuild P t fm parts.toList k
  | .makeFunc f first cap => (match evs fm first.toList with
    | some u => (match evs fm cap.toList with
      | some c => k (.func f u.toArray c.toArray)
      | none => False)
    | none => False)
  | .sliceToArrayPointer t x => evK fm x fun v => (match v with
    | .slice A n _ => (match P.underlying t with
      | some (.array m _) => m ≤ n ∧ vcPtr M A fun A => k (.pointer A)
      | _ => False)
    | _ => False)
  | .makeInterface t x => evK fm x fun v => (match P.underlying t with
    | some (.interface _) => False
    | some _ => k (.iface t v)
    | none => False)
  | .typeAssert x _ t ok => evK fm x fun v => (match v, ok with
    | .iface u v, false => (match P.underlying t with
      | some (.interface _) => False
      | some _ => (match Nat.beq u t with
        | true => k v
        | false => False)
      | none => False)
    | _, _ => False)
  | .call { callee := .builtin .len, args, argTypes } => (match args.toList, argTypes.toList with
    | [x], [t] => evK fm x fun v => vcLen P t v k
    | _, _ => False)
  | .call { callee := .builtin .cap, args, argTypes } => (match args.toList, argTypes.toList with
    | [x], [t] => evK fm x fun v => vcCap P t v k
    | _, _ => False)
  | .call { callee := .builtin .min, args, .. } => (match evs fm args.toList with
    | some (.int kd x :: r) => (match foldMin x r with
      | some n => k (.int kd n)
      | none => False)
    | _ => False)
  | .call { callee := .builtin .max, args, .. } => (match evs fm args.toList with
    | some (.int kd x :: r) => (match foldMax x r with
      | some n => k (.int kd n)
      | none => False)
    | _ => False)
  | _ => False

/-! ### Reading objects -/
theorem add_add (a : Addr) (i j : Nat) : (a.add i).add j = a.add (i + j) := by
  unfold Addr.add
  by_cases hi : i = 0 <;> by_cases hj : j = 0 <;> simp [hi, hj, Nat.add_assoc]

theorem RowAt.nil {A : Option Addr} {w : World} : RowAt A [] w := fun i u h => by simp at h
theorem TailObj.at_ {w : World} {a : Addr} {ty : TypeId} {xs : List Value} {m : Nat} {o : Obj} (hs : a.spot = none) (ho : w.heap[a.block]? = some o) (h : TailObj a.off ty xs m o) : RowAt (some a) xs w := by
  obtain ⟨pre, sp, post, fz, hp, hl, rfl, hf⟩ := h
  obtain ⟨bb, off, spot⟩ := a
  simp only at hs hp ho
  subst hs
  intro i u hi
  refine ⟨_, rfl, ?_⟩
  have hlt : i < xs.length := (List.getElem?_eq_some_iff.1 hi).1
  have hadd : (⟨bb, off, none⟩ : Addr).add i = ⟨bb, off + i, none⟩ := by unfold Addr.add; split <;> simp_all
  rw [hadd]
  simp only [World.cell?, ho, Option.isSome_none, Bool.false_eq_true, if_false, List.getElem?_toArray]
  rw [List.getElem?_append_right (by omega), hp, Nat.add_sub_cancel_left, List.getElem?_append_left hlt]
  exact hi
theorem Ob.row_at {w : World} {b : Nat} {ty : TypeId} {xs : List Value} {m : Nat} (h : (Ob.row b ty xs m).is w) : RowAt (some ⟨b, 0, none⟩) xs w := by
  obtain ⟨o, ho, h⟩ := h
  exact TailObj.at_ rfl ho h
theorem Ob.sl_at {w : World} {A : Option Addr} {cap : Nat} {ty : TypeId} {size : Nat} {xs : List Value} (h : (Ob.sl A cap ty size xs).is w) : RowAt A xs w := by
  cases A with
  | none => obtain ⟨_, rfl⟩ := h; exact RowAt.nil
  | some a =>
    obtain ⟨h2, o, ho, hr⟩ := h
    exact TailObj.at_ h2 ho hr
theorem Ob.sl_len {w : World} {A : Option Addr} {cap : Nat} {ty : TypeId} {size : Nat} {xs : List Value} (h : (Ob.sl A cap ty size xs).is w) : xs.length ≤ cap * size := by
  cases A with
  | none => obtain ⟨rfl, rfl⟩ := h; simp
  | some a => obtain ⟨_, o, _, pre, sp, post, fz, _, hl, _⟩ := h; omega
end Go.Proofs.Yticllmnblcjjcaa
end

section
/- Equality of structs and arrays whose cells are numbers, texts and truth values. -/
namespace Go.Proofs.Yticllmnblcjjcaa

section
variable {P : Program}

theorem fitsL_length : ∀ {l : List LK} {xs : List Value}, fitsL l xs = true → xs.length = l.length
  | [], [], _ => rfl
  | k :: l, v :: xs, h => by
    simp only [fitsL, Bool.and_eq_true] at h
    simp [fitsL_length h.2]
  | [], _ :: _, h => by cases h
  | _ :: _, [], h => by cases h
theorem fitsL_append : ∀ {l m : List LK} {xs : List Value}, fitsL (l ++ m) xs = true → fitsL l (xs.take l.length) = true ∧ fitsL m (xs.drop l.length) = true
  | [], m, xs, h => by simpa [fitsL] using h
  | k :: l, m, [], h => by cases h
  | k :: l, m, v :: xs, h => by
    simp only [List.cons_append, fitsL, Bool.and_eq_true] at h
    obtain ⟨h1, h2⟩ := fitsL_append h.2
    simp [fitsL, h.1, h1, h2]

def mkV (P : Program) (t : TypeId) (xs : List Value) : Value := match isAggT P t with
  | true => .agg xs.toArray
  | false => xs.headD undef

theorem part_mkV {t : TypeId} {i : TypeInfo} (hu : (P.underlying t).isSome = true) (hi : P.info? t = some i) {xs : Array Value} {off : Nat} (hl : off + i.size ≤ xs.size) (h1 : isAggT P t = false → i.size = 1) (w : World) :
    (part t xs off).run P w = .ok (mkV P t ((xs.toList.drop off).take i.size)) w := by
  obtain ⟨d, hd⟩ := Option.isSome_iff_exists.1 hu
  have hsz : (sizeOf t).run P w = .ok i.size w := by simp [sizeOf, typeInfo, hi]
  have hag : (isAgg t).run P w = .ok (isAggT P t) w := by
    have : (underlying t).run P w = .ok d w := by simp [underlying, hd]
    simp only [isAgg, Sem.run_bind, this, Result.andThen_ok, isAggT, hd]
    cases d <;> rfl
  simp only [part, Sem.run_bind, hag, Result.andThen_ok]
  cases hb : isAggT P t with
  | true =>
    simp only [if_true, Sem.run_bind, hsz, Result.andThen_ok, Sem.run_pure, mkV, hb]
    congr 2
    apply Array.ext'
    simp [List.take_drop]
  | false =>
    have hs := h1 hb
    have hlt : off < xs.size := by omega
    simp only [Bool.false_eq_true, if_false, mkV, hb, hs]
    rw [Array.getElem?_eq_getElem hlt]
    have : (xs.toList.drop off).take 1 = [xs[off]] := by
      rw [List.drop_eq_getElem_cons (by simpa using hlt)]; simp
    rw [this]
    rfl

/-- What equality answers at values whose cells fit. -/
def EqGives (P : Program) (e : Nat) (d : Nat) (t : TypeId) (l : List LK) : Prop := ∀ (xs ys : List Value), fitsL l xs = true → fitsL l ys = true → ∀ w : World, ∃ r, (Op.equalIn (d + e) t (mkV P t xs) (mkV P t ys)).run P w = .ok r w ∧ (r = true ↔ xs = ys)

theorem leaves_one {d : Nat} {t : TypeId} {l : List LK} (h : leaves P d t = some l) (hb : isAggT P t = false) : l.length = 1 := by
  cases d with
  | zero => cases h
  | succ d =>
    unfold leaves at h
    unfold isAggT at hb
    split at h
    · cases h; rfl
    · cases h; rfl
    · cases h; rfl
    · rename_i hu; rw [hu] at hb; cases hb
    · rename_i hu; rw [hu] at hb; cases hb
    · cases h
theorem leaves_some {d : Nat} {t : TypeId} {l : List LK} (h : leaves P d t = some l) : (P.underlying t).isSome = true := by
  cases d with
  | zero => cases h
  | succ d =>
    unfold leaves at h
    split at h
    · rename_i hu; rw [hu]; rfl
    · rename_i hu; rw [hu]; rfl
    · rename_i hu; rw [hu]; rfl
    · rename_i hu; rw [hu]; rfl
    · rename_i hu; rw [hu]; rfl
    · cases h

theorem any_size {t : TypeId} {n : Nat} (h : (P.info? t).any (fun i => i.size == n) = true) : ∃ i, P.info? t = some i ∧ i.size = n := by
  cases hi : P.info? t with
  | none => rw [hi] at h; cases h
  | some i => rw [hi] at h; exact ⟨i, rfl, by simpa using h⟩

theorem two_parts {t : TypeId} {l : List LK} {e d off : Nat} (hl : leaves P d t = some l) (hg : EqGives P e d t l) (hi : (P.info? t).any (fun i => i.size == l.length) = true)
    {xs ys : Array Value} (hx : fitsL l ((xs.toList.drop off).take l.length) = true) (hy : fitsL l ((ys.toList.drop off).take l.length) = true) (hlx : off + l.length ≤ xs.size) (hly : off + l.length ≤ ys.size) (w : World) :
    ∃ a b r, (part t xs off).run P w = .ok a w ∧ (part t ys off).run P w = .ok b w ∧ (Op.equalIn (d + e) t a b).run P w = .ok r w ∧ (r = true ↔ (xs.toList.drop off).take l.length = (ys.toList.drop off).take l.length) := by
  obtain ⟨i, hi, hs⟩ := any_size hi
  have h1 : isAggT P t = false → i.size = 1 := fun hb => by rw [hs]; exact leaves_one hl hb
  obtain ⟨r, hr, hiff⟩ := hg _ _ hx hy w
  exact ⟨_, _, r, part_mkV (leaves_some hl) hi (by omega) h1 w, part_mkV (leaves_some hl) hi (by omega) h1 w, by rw [hs]; exact hr, hiff⟩

theorem split_eq {α : Type} {xs ys : List α} (n : Nat) : xs = ys ↔ xs.take n = ys.take n ∧ xs.drop n = ys.drop n :=
  ⟨fun h => by rw [h]; exact ⟨rfl, rfl⟩, fun ⟨h1, h2⟩ => by rw [← List.take_append_drop n xs, ← List.take_append_drop n ys, h1, h2]⟩

theorem eqFields_gives {e d : Nat} (ih : ∀ t l, leaves P d t = some l → EqGives P e d t l) {xs ys : Array Value} : ∀ (fs : List Field) (off : Nat) (l : List LK), leavesF P (leaves P d) off fs = some l →
    fitsL l (xs.toList.drop off) = true → fitsL l (ys.toList.drop off) = true → ∀ w : World, ∃ r, (Op.eqFields (d + e) xs ys fs).run P w = .ok r w ∧ (r = true ↔ xs.toList.drop off = ys.toList.drop off)
  | [], off, l, h, hx, hy, w => by
    cases h
    have h1 := fitsL_length hx
    have h2 := fitsL_length hy
    exact ⟨true, rfl, by rw [List.eq_nil_of_length_eq_zero h1, List.eq_nil_of_length_eq_zero h2]; simp⟩
  | f :: r, off, l, h, hx, hy, w => by
    unfold leavesF at h
    split at h
    · cases h
    rename_i lf hlf
    split at h
    · cases h
    rename_i hb
    split at h
    · cases h
    rename_i m hm
    cases h
    simp only [Bool.and_eq_true, beq_iff_eq, decide_eq_true_eq] at hb
    obtain ⟨⟨⟨hoff, hname⟩, hi⟩, hlt⟩ := hb
    have hlt : 0 < lf.length := by simpa using hlt
    have lx := fitsL_length hx
    have ly := fitsL_length hy
    simp only [List.length_drop, List.length_append, Array.length_toList] at lx ly
    obtain ⟨hx1, hx2⟩ := fitsL_append hx
    obtain ⟨hy1, hy2⟩ := fitsL_append hy
    rw [List.drop_drop] at hx2 hy2
    obtain ⟨a, b, r1, p1, p2, p3, hiff1⟩ := two_parts (off := off) hlf (ih _ _ hlf) hi hx1 hy1 (by omega) (by omega) w
    obtain ⟨r2, hr2, hiff2⟩ := eqFields_gives ih r (off + lf.length) m hm hx2 hy2 w
    rw [split_eq lf.length (xs := xs.toList.drop off), List.drop_drop, List.drop_drop]
    rw [← hoff] at p1 p2
    simp only [Op.eqFields, hname, ne_eq, not_false_eq_true, if_true, Sem.run_bind, p1, p2, p3, Result.andThen_ok]
    cases r1
    · exact ⟨false, by simp, by simp only [Bool.false_eq_true, false_iff]; intro hh; exact absurd (hiff1.2 hh.1) (by simp)⟩
    · refine ⟨r2, by simpa using hr2, ?_⟩
      rw [hiff2]
      exact ⟨fun hh => ⟨hiff1.1 rfl, hh⟩, fun hh => hh.2⟩

theorem eqItems_gives {e d : Nat} {t : TypeId} {l : List LK} {c : Nat} (hl : leaves P d t = some l) (hg : EqGives P e d t l) (hi : (P.info? t).any (fun i => i.size == l.length) = true) (hc : c = l.length) {xs ys : Array Value} (hpos : xs.size = ys.size) :
    ∀ (n s : Nat), fitsL (List.replicate n l).flatten (xs.toList.drop (s * c)) = true → fitsL (List.replicate n l).flatten (ys.toList.drop (s * c)) = true → (s + n) * c = xs.size → ∀ w : World,
      ∃ r, (Op.eqItems (d + e) t c xs ys (List.range' s n)).run P w = .ok r w ∧ (r = true ↔ xs.toList.drop (s * c) = ys.toList.drop (s * c))
  | 0, s, hx, hy, hsz, w => by
    have h1 := fitsL_length hx
    have h2 := fitsL_length hy
    simp only [List.replicate_zero, List.flatten_nil, List.length_nil] at h1 h2
    exact ⟨true, rfl, by rw [List.eq_nil_of_length_eq_zero h1, List.eq_nil_of_length_eq_zero h2]; simp⟩
  | n + 1, s, hx, hy, hsz, w => by
    rw [List.replicate_succ, List.flatten_cons] at hx hy
    obtain ⟨hx1, hx2⟩ := fitsL_append hx
    obtain ⟨hy1, hy2⟩ := fitsL_append hy
    rw [List.drop_drop, ← hc, ← Nat.succ_mul] at hx2 hy2
    have hle : s * c + l.length ≤ xs.size := by
      rw [← hsz, ← hc, ← Nat.succ_mul]; exact Nat.mul_le_mul_right _ (by omega)
    obtain ⟨a, b, r1, p1, p2, p3, hiff1⟩ := two_parts (off := s * c) hl hg hi hx1 hy1 hle (by omega) w
    obtain ⟨r2, hr2, hiff2⟩ := eqItems_gives hl hg hi hc hpos n (s + 1) hx2 hy2 (by rw [← hsz]; congr 1; omega) w
    rw [split_eq l.length (xs := xs.toList.drop (s * c)), List.drop_drop, List.drop_drop, ← hc, ← Nat.succ_mul]
    rw [List.range'_succ]
    simp only [Op.eqItems, Sem.run_bind, p1, p2, p3, Result.andThen_ok]
    rw [← hc] at hiff1
    cases r1
    · exact ⟨false, by simp, by simp only [Bool.false_eq_true, false_iff]; intro hh; exact absurd (hiff1.2 hh.1) (by simp)⟩
    · refine ⟨r2, by simpa using hr2, ?_⟩
      rw [hiff2]
      exact ⟨fun hh => ⟨hiff1.1 rfl, hh⟩, fun hh => hh.2⟩

theorem flatten_rep_length (n : Nat) (l : List LK) : (List.replicate n l).flatten.length = n * l.length := by simp

theorem eq_leaves (e : Nat) : ∀ (d : Nat) (t : TypeId) (l : List LK), leaves P d t = some l → EqGives P e d t l
  | 0, _, _, h => by cases h
  | d + 1, t, l, h => by
    have ih := eq_leaves e d
    intro xs ys hx hy w
    have hde : d + 1 + e = (d + e) + 1 := by omega
    unfold leaves at h
    split at h
    · rename_i hu
      cases h
      have hb : isAggT P t = false := by unfold isAggT; rw [hu]
      match xs, ys, hx, hy with
      | [.bool a], [.bool b], _, _ =>
        refine ⟨a == b, ?_, by simp⟩
        rw [hde]; unfold mkV; rw [hb]
        exact run_equalIn_bool' w _ t a b hu
    · rename_i hu
      cases h
      have hb : isAggT P t = false := by unfold isAggT; rw [hu]
      match xs, ys, hx, hy with
      | [.string a], [.string b], _, _ =>
        refine ⟨a.toList == b.toList, ?_, by simp [ByteArray.toList_eq, ByteArray.ext_iff]⟩
        rw [hde]; unfold mkV; rw [hb]
        exact run_equalIn_string w _ t a b hu
    · rename_i k hu
      cases h
      have hb : isAggT P t = false := by unfold isAggT; rw [hu]
      obtain ⟨k1, a, rfl⟩ : ∃ k1 a, xs = [.int k1 a] := by
        have h1 := fitsL_length hx
        obtain ⟨v, rfl⟩ := List.length_eq_one_iff.1 h1
        cases v <;> first | exact ⟨_, _, rfl⟩ | cases hx
      obtain ⟨k2, b, rfl⟩ : ∃ k1 a, ys = [.int k1 a] := by
        have h1 := fitsL_length hy
        obtain ⟨v, rfl⟩ := List.length_eq_one_iff.1 h1
        cases v <;> first | exact ⟨_, _, rfl⟩ | cases hy
      have e1 : k = k1 := by simpa [fitsL, LK.fit] using hx
      have e2 : k = k2 := by simpa [fitsL, LK.fit] using hy
      subst e1; subst e2
      refine ⟨a == b, ?_, by simp⟩
      rw [hde]; unfold mkV; rw [hb]
      exact run_equalIn_int w _ t _ _ a b hu
    · rename_i fs hu
      split at h
      · cases h
      rename_i hst
      have hb : isAggT P t = true := by unfold isAggT; rw [hu]
      have hf : P.fieldsOf t = fs := by unfold Program.fieldsOf; rw [hu]
      obtain ⟨r, hr, hiff⟩ := eqFields_gives (e := e) ih (xs := xs.toArray) (ys := ys.toArray) fs.toList 0 l h (by simpa using hx) (by simpa using hy) w
      refine ⟨r, ?_, by simpa using hiff⟩
      rw [hde]; unfold mkV; rw [hb]
      simp only
      rw [run_equalIn_struct w _ t _ _ (by rw [hf]; exact hu) hst, hf]
      exact hr
    · rename_i n el hu
      split at h
      · cases h
      rename_i le hle
      split at h
      case h_2 => cases h
      rename_i hi
      cases h
      obtain ⟨i, hi', hs⟩ := any_size hi
      have hb : isAggT P t = true := by unfold isAggT; rw [hu]
      have hcells : P.cellsOf el = le.length := by unfold Program.cellsOf; rw [hi']; exact hs
      have lx := fitsL_length hx
      have ly := fitsL_length hy
      rw [flatten_rep_length] at lx ly
      obtain ⟨r, hr, hiff⟩ := eqItems_gives (e := e) hle (ih _ _ hle) hi hcells (xs := xs.toArray) (ys := ys.toArray) (by simp [lx, ly]) n 0 (by simpa using hx) (by simpa using hy) (by rw [hcells]; simp [lx]) w
      refine ⟨r, ?_, by simpa using hiff⟩
      rw [hde]; unfold mkV; rw [hb]
      simp only
      rw [run_equalIn_array w _ _ _ hu hi', List.range_eq_range']
      exact hr
    · cases h

theorem vcEqA_gives {t : TypeId} {xs ys : Array Value} {X : Bool → Prop} (h : vcEqA P t xs.toList ys.toList X) :
    ∃ b, X b ∧ (∀ w, (Op.equal t (.agg xs) (.agg ys)).run P w = .ok b w) ∧ P.eqGuardType P.depth t = false := by
  obtain ⟨l, hl, hx, hy, b, hb, hk⟩ := h
  simp only [eqType, Bool.and_eq_true, decide_eq_true_eq, Bool.not_eq_true'] at hl
  refine ⟨b, hk, fun w => ?_, hl.1.2⟩
  obtain ⟨r, hr, hiff⟩ := eq_leaves (P := P) 9992 8 t l hl.1.1 _ _ hx hy w
  have hrb : r = b := by
    cases r <;> cases b <;> simp_all
  subst hrb
  unfold mkV at hr
  rw [hl.2] at hr
  exact hr
end
end Go.Proofs.Yticllmnblcjjcaa
end

section
/- The operations that only read do in the model what they are said to do. -/
namespace Go.Proofs.Yticllmnblcjjcaa

section
variable {P : Program} {M : Mp}

theorem run_under {t : TypeId} {d : TypeDesc} (h : P.underlying t = some d) (w : World) : (underlying t).run P w = .ok d w := by
  simp [underlying, h]
theorem run_info {t : TypeId} {i : TypeInfo} (h : P.info? t = some i) (w : World) : (typeInfo t).run P w = .ok i w := by
  simp [typeInfo, h]
theorem run_size {t : TypeId} {i : TypeInfo} (h : P.info? t = some i) (w : World) : (sizeOf t).run P w = .ok i.size w := by
  simp [sizeOf, run_info h]
theorem run_zero {t : TypeId} {i : TypeInfo} {z : Value} (h : P.info? t = some i) (hz : i.zero = some z) (w : World) : (zeroValue t).run P w = .ok z w := by
  simp [zeroValue, run_info h, hz]

def IsAgg : TypeDesc → Bool
  | .struct _ | .array _ _ => true
  | _ => false
theorem run_isAgg {t : TypeId} {d : TypeDesc} (h : P.underlying t = some d) (w : World) : (isAgg t).run P w = .ok (IsAgg d) w := by
  simp only [isAgg, Sem.run_bind, run_under h, Result.andThen_ok]
  cases d <;> rfl

/-- What a pure operation owes. -/
def Gives (P : Program) (M : Mp) (s : Sem Value) (k : Value → Prop) : Prop := ∃ v, k v ∧ ∀ w, M w → s.run P w = .ok v w

theorem Gives.pure {v : Value} {k : Value → Prop} (h : k v) : Gives P M (pure v) k := ⟨v, h, fun _ _ => rfl⟩

theorem vcInt_gives {op : BinOp} {kd : IntKind} {a b : Int} {k : Value → Prop} (h : vcInt op kd a b k) (t : TypeId) : Gives P M (binOp op t (.int kd a) (.int kd b)) k := by
  cases op with
  | add => exact ⟨_, vcFit.out h, fun w _ => by simp [binOp, Op.intArith]⟩
  | sub => exact ⟨_, vcFit.out h, fun w _ => by simp [binOp, Op.intArith]⟩
  | mul => exact ⟨_, vcFit.out h, fun w _ => by simp [binOp, Op.intArith]⟩
  | quo => exact ⟨_, vcQuo.out h, fun w _ => by simp [binOp, Op.intDiv, vcQuo.ne h]⟩
  | rem => exact ⟨_, vcRem.out h, fun w _ => by simp [binOp, Op.intDiv, vcRem.ne h]⟩
  | and => exact ⟨_, vcBit.out h, fun w _ => by simp [binOp, Op.intBits, bitI]⟩
  | or => exact ⟨_, vcBit.out h, fun w _ => by simp [binOp, Op.intBits, bitI]⟩
  | xor => exact ⟨_, vcBit.out h, fun w _ => by simp [binOp, Op.intBits, bitI]⟩
  | andNot => exact ⟨_, vcBit.out h, fun w _ => by simp [binOp, Op.intBits, bitI]⟩
  | shl => exact h.elim
  | shr => exact h.elim
  | eql => exact ⟨_, h, fun w _ => by simp [binOp, Op.intCmp]; rfl⟩
  | neq => exact ⟨_, h, fun w _ => by simp [binOp, Op.intCmp]; rfl⟩
  | lss => exact ⟨_, h, fun w _ => by simp [binOp, Op.intCmp]⟩
  | leq => exact ⟨_, h, fun w _ => by simp [binOp, Op.intCmp]⟩
  | gtr => exact ⟨_, h, fun w _ => by simp [binOp, Op.intCmp]⟩
  | geq => exact ⟨_, h, fun w _ => by simp [binOp, Op.intCmp]⟩

theorem vcStr_gives {op : BinOp} {a b : ByteArray} {k : Value → Prop} (h : vcStrOp op a b k) (t : TypeId) : Gives P M (binOp op t (.string a) (.string b)) k := by
  cases op with
  | eql => exact ⟨_, h, fun w _ => by simp [binOp, Op.stringOp]⟩
  | neq => exact ⟨_, h, fun w _ => by simp [binOp, Op.stringOp]⟩
  | add =>
    refine ⟨_, h.2, fun w _ => ?_⟩
    have := h.1
    simp only [binOp, Op.stringOp]
    rw [if_neg (by omega)]
    rfl
  | _ => exact h.elim

theorem eq_bool {t : TypeId} (h : P.underlying t = some .bool) (a b : Bool) (w : World) : (Op.equal t (.bool a) (.bool b)).run P w = .ok (a == b) w := by
  have k : ∀ d : Nat, (Op.equalIn (d + 1) t (.bool a) (.bool b)).run P w = .ok (a == b) w := fun d => by simp [Op.equalIn, run_under h]
  exact k 9999
theorem eq_slice_nil {t e : TypeId} (h : P.underlying t = some (.slice e)) (A : Option Addr) (n c n' c' : Nat) (w : World) : (Op.equal t (.slice A n c) (.slice none n' c')).run P w = .ok A.isNone w := by
  have k : ∀ d : Nat, (Op.equalIn (d + 1) t (.slice A n c) (.slice none n' c')).run P w = .ok A.isNone w := fun d => by cases A <;> simp [Op.equalIn, run_under h]
  exact k 9999
theorem eq_ptr_nil {t e : TypeId} (h : P.underlying t = some (.pointer e)) (A : Option Addr) (w : World) : (Op.equal t (.pointer A) (.pointer none)).run P w = .ok A.isNone w := by
  have k : ∀ d : Nat, (Op.equalIn (d + 1) t (.pointer A) (.pointer none)).run P w = .ok A.isNone w := fun d => by cases A <;> simp [Op.equalIn, run_under h]
  exact k 9999
theorem eq_map_nil {t k' e : TypeId} (h : P.underlying t = some (.map k' e)) (A : Option Nat) (w : World) : (Op.equal t (.map A) (.map none)).run P w = .ok A.isNone w := by
  have k : ∀ d : Nat, (Op.equalIn (d + 1) t (.map A) (.map none)).run P w = .ok A.isNone w := fun d => by cases A <;> simp [Op.equalIn, run_under h]
  exact k 9999
theorem eq_func_nil {t : TypeId} {a b : Array TypeId} {v : Bool} (h : P.underlying t = some (.func a b v)) (f : Fn) (x y : Array Value) (w : World) : (Op.equal t (.func f x y) .nilFunc).run P w = .ok false w := by
  have k : ∀ d : Nat, (Op.equalIn (d + 1) t (.func f x y) .nilFunc).run P w = .ok false w := fun d => by simp [Op.equalIn, run_under h]
  exact k 9999
theorem eq_nil_func {t : TypeId} {a b : Array TypeId} {v : Bool} (h : P.underlying t = some (.func a b v)) (w : World) : (Op.equal t .nilFunc .nilFunc).run P w = .ok true w := by
  have k : ∀ d : Nat, (Op.equalIn (d + 1) t .nilFunc .nilFunc).run P w = .ok true w := fun d => by simp [Op.equalIn, run_under h]
  exact k 9999

theorem vcEql_gives {t : TypeId} {x y : Value} {k : Bool → Prop} (h : vcEql P t x y k) :
    ∃ b, k b ∧ (∀ w, (Op.equal t x y).run P w = .ok b w) ∧ (x ≠ .nilIface ∧ ∀ c, x ≠ .agg c) ∧
      (binOp .eql t x y = (do pure (.bool (← Op.equal t x y)))) ∧ (binOp .neq t x y = (do pure (.bool (!(← Op.equal t x y))))) := by
  unfold vcEql at h
  split at h
  · split at h
    · rename_i hu; exact ⟨_, h, eq_bool hu _ _, ⟨nofun, nofun⟩, rfl, rfl⟩
    · exact h.elim
  · split at h
    · rename_i hu; exact ⟨_, h, eq_slice_nil hu _ _ _ _ _, ⟨nofun, nofun⟩, rfl, rfl⟩
    · exact h.elim
  · split at h
    · rename_i hu; exact ⟨_, h, eq_ptr_nil hu _, ⟨nofun, nofun⟩, rfl, rfl⟩
    · exact h.elim
  · split at h
    · rename_i hu; exact ⟨_, h, eq_map_nil hu _, ⟨nofun, nofun⟩, rfl, rfl⟩
    · exact h.elim
  · split at h
    · rename_i hu; exact ⟨_, h, eq_func_nil hu _ _ _, ⟨nofun, nofun⟩, rfl, rfl⟩
    · exact h.elim
  · split at h
    · rename_i hu; exact ⟨_, h, eq_nil_func hu, ⟨nofun, nofun⟩, rfl, rfl⟩
    · exact h.elim
  · exact h.elim

theorem shl_run {kx ky : IntKind} {a b : Int} (h : 0 ≤ b) (t : TypeId) (w : World) : (binOp .shl t (.int kx a) (.int ky b)).run P w = .ok (.int kx (kx.wrap (a * 2 ^ (min b.toNat kx.bits)))) w := by
  simp only [binOp, Op.shift]
  rw [if_neg (by omega)]
  rfl
theorem shr_run {kx ky : IntKind} {a b : Int} (h : 0 ≤ b) (t : TypeId) (w : World) : (binOp .shr t (.int kx a) (.int ky b)).run P w = .ok (.int kx (a.fdiv (2 ^ (min b.toNat kx.bits)))) w := by
  simp only [binOp, Op.shift]
  rw [if_neg (by omega)]
  rfl

theorem vcBin_gives {op : BinOp} {t : TypeId} {x y : Value} {k : Value → Prop} (h : vcBin P op t x y k) (X Y : Operand) :
    Gives P M (do eqGuard op t X Y x y; binOp op t x y) k := by
  have hg : ∀ w, x ≠ .nilIface → (∀ c, x ≠ .agg c) → (eqGuard op t X Y x y).run P w = .ok () w := by
    intro w h1 h2
    unfold eqGuard
    cases x <;> first | exact (h1 rfl).elim | exact (h2 _ rfl).elim | (cases op <;> rfl)
  have fin : ∀ (s : Sem Value), x ≠ .nilIface → (∀ c, x ≠ .agg c) → s = binOp op t x y → Gives P M s k → Gives P M (do eqGuard op t X Y x y; binOp op t x y) k := by
    rintro s h1 h2 rfl ⟨v, hv, hr⟩
    exact ⟨v, hv, fun w hw => by simp [hg w h1 h2, hr w hw]⟩
  unfold vcBin at h
  split at h
  · rename_i kx a ky b
    split at h
    · exact fin _ (by simp) (by simp) rfl ⟨_, h.2, fun w _ => shl_run h.1 t w⟩
    · exact fin _ (by simp) (by simp) rfl ⟨_, h.2, fun w _ => shr_run h.1 t w⟩
    · split at h
      · rename_i hk
        obtain rfl := kindEq_eq hk
        exact fin _ (by simp) (by simp) rfl (vcInt_gives h t)
      · exact h.elim
  · exact fin _ (by simp) (by simp) rfl (vcStr_gives h t)
  · rename_i xs ys
    split at h
    · obtain ⟨b, hb, hr, hg'⟩ := vcEqA_gives h
      refine ⟨.bool b, hb, fun w _ => ?_⟩
      simp only [Sem.run_bind, run_eqGuard_agg w _ _ _ _ _ _ hg', Result.andThen_ok]
      show (do pure (.bool (← Op.equal t (.agg xs) (.agg ys))) : Sem Value).run P w = _
      simp [hr w]
    · obtain ⟨b, hb, hr, hg'⟩ := vcEqA_gives h
      refine ⟨.bool (!b), hb, fun w _ => ?_⟩
      simp only [Sem.run_bind, run_eqGuard_agg w _ _ _ _ _ _ hg', Result.andThen_ok]
      show (do pure (.bool (!(← Op.equal t (.agg xs) (.agg ys)))) : Sem Value).run P w = _
      simp [hr w]
    · exact h.elim
  · split at h
    · obtain ⟨b, hb, hr, ⟨h1, h2⟩, e1, _⟩ := vcEql_gives h
      exact fin _ h1 h2 rfl ⟨.bool b, hb, fun w _ => by rw [e1]; simp [hr w]⟩
    · obtain ⟨b, hb, hr, ⟨h1, h2⟩, _, e2⟩ := vcEql_gives h
      exact fin _ h1 h2 rfl ⟨.bool (!b), hb, fun w _ => by rw [e2]; simp [hr w]⟩
    · exact h.elim

theorem vcUn_gives {op : UnOp} {x : Value} {k : Value → Prop} (h : vcUn op x k) : Gives P M (Op.unary op x) k := by
  unfold vcUn at h
  split at h
  · exact ⟨_, h, fun w _ => rfl⟩
  · exact ⟨_, h.out, fun w _ => by simp [Op.unary, Op.intArith]⟩
  · exact ⟨_, h.out, fun w _ => by simp [Op.unary, Op.intBits, bitI]⟩
  · exact h.elim

theorem run_load_cell {a : Addr} {v : Value} {w : World} (h : w.cell? a = some v) : (load a).run P w = .ok v w := by simp [h]
theorem loadCells_run {a : Addr} {w : World} : ∀ (vs : List Value) (i : Nat) (acc : Array Value), (∀ j, j < vs.length → w.cell? (a.add (i + j)) = vs[j]?) → (loadCellsFrom a i vs.length acc).run P w = .ok (acc ++ vs.toArray) w
  | [], i, acc, _ => by simp [loadCellsFrom]
  | v :: r, i, acc, h => by
    have h0 : w.cell? (a.add i) = some v := by simpa using h 0 (by simp)
    simp only [List.length_cons, loadCellsFrom, Sem.run_bind, run_load_cell h0, Result.andThen_ok]
    rw [loadCells_run r (i + 1) (acc.push v) (fun j hj => by
      have := h (j + 1) (by simp; omega)
      rw [show i + 1 + j = i + (j + 1) from by omega, this]
      simp)]
    have : acc.push v ++ r.toArray = acc ++ (v :: r).toArray := by apply Array.ext'; simp
    rw [this]

theorem vcLoad_gives {t : TypeId} {x : Value} {k : Value → Prop} (h : vcLoad P M t x k) : Gives P M (Instr.loadAt t x) k := by
  unfold vcLoad at h
  split at h
  · rename_i a
    have agg : ∀ d i, P.underlying t = some d → IsAgg d = true → P.info? t = some i → vcLoadN M a i.size (fun vs => k (.agg vs.toArray)) → Gives P M (Instr.loadAt t (.pointer (some a))) k := by
      rintro d i hd hagg hi ⟨vs, hl, hm, hk⟩
      refine ⟨_, hk, fun w hw => ?_⟩
      have hc := hm w hw
      simp only [Instr.loadAt, Instr.sureAddr, Sem.run_bind, Sem.run_pure, Result.andThen_ok, loadVar, run_isAgg hd, hagg, if_true, run_size hi, loadCells, ← hl]
      rw [loadCells_run vs 0 #[] (fun j hj => by simpa using hc j (by omega))]
      simp
    split at h
    · rename_i hu
      split at h
      · rename_i hi; rw [natK_eq] at h; exact agg _ _ hu rfl hi h
      · exact h.elim
    · rename_i hu
      split at h
      · rename_i hi; rw [natK_eq] at h; exact agg _ _ hu rfl hi h
      · exact h.elim
    · rename_i d n1 n2 hu
      obtain ⟨v, hm, hk⟩ := h
      refine ⟨v, hk, fun w hw => ?_⟩
      have hag : IsAgg d = false := by
        cases d <;> first | rfl | exact (n1 _ rfl).elim | exact (n2 _ _ rfl).elim
      simp only [Instr.loadAt, Instr.sureAddr, Sem.run_bind, Sem.run_pure, Result.andThen_ok, loadVar, run_isAgg hu, hag, Bool.false_eq_true, if_false]
      exact run_load_cell (hm w hw)
    · exact h.elim
  · exact h.elim

theorem valI_some {fm : Fm} {x : Option Operand} {d : Int} {k : Int → Prop} (h : valI fm x d k) : ∃ n, k n ∧ ((x = none ∧ n = d) ∨ ∃ y kd, x = some y ∧ ev fm y = some (.int kd n)) := by
  unfold valI at h
  split at h
  · exact ⟨d, h, .inl ⟨rfl, rfl⟩⟩
  · split at h
    · rename_i y _ kd n he; exact ⟨n, h, .inr ⟨y, kd, rfl, he⟩⟩
    · exact h.elim

theorem valI_none {fm : Fm} {d : Int} {K : Int → Prop} : valI fm none d K = K d := rfl
theorem valI_mono {fm : Fm} {x : Option Operand} {d : Int} {K K' : Int → Prop} (h : valI fm x d K) (h2 : ∀ z, K z → K' z) : valI fm x d K' := by
  unfold valI at h ⊢
  split
  · exact h2 _ h
  · rename_i y
    dsimp only at h
    generalize ev fm y = q at h ⊢
    split at h
    · exact h2 _ h
    · exact h.elim

theorem sliceBound_run {kd : IntKind} {n : Int} {y : Nat} {c : BoundsCode} (h : 0 ≤ n ∧ n ≤ y) (w : World) : (Instr.sliceBound (.int kd n) y c).run P w = .ok n.toNat w := by
  simp [Instr.sliceBound, asIntOf, h]

theorem sliceBounds_run {D : Env} {isS : Bool} {len cap : Nat} {fm : Fm} {n : Nat} {a : Act} (hf : FmOk D n fm a) {lo hi mx : Option Operand} {K : Int → Int → Int → Prop}
    (hmx : (isNoneB hi && !isNoneB mx) = false) (h : valI fm mx cap fun m => valI fm hi len fun h => valI fm lo 0 fun l => K l h m) (hK : ∀ l h m, K l h m → 0 ≤ l ∧ l ≤ h ∧ h ≤ m ∧ m ≤ cap) :
    ∃ l h m, K l h m ∧ ∀ w, (Instr.sliceBounds isS len cap (lo.map a.eval) (hi.map a.eval) (mx.map a.eval)).run P w = .ok (l.toNat, h.toNat, m.toNat) w := by
  obtain ⟨m, h, hm⟩ := valI_some h
  obtain ⟨hh, h, hhi⟩ := valI_some h
  obtain ⟨l, h, hl⟩ := valI_some h
  obtain ⟨k1, k2, k3, k4⟩ := hK l hh m h
  refine ⟨l, hh, m, h, fun w => ?_⟩
  have em : ∀ y, mx = some y → ∃ kd, a.eval y = .int kd m := fun y e => by
    rcases hm with ⟨e', _⟩ | ⟨y', kd, e', he⟩
    · rw [e] at e'; cases e'
    · rw [e] at e'; cases e'; exact ⟨kd, hf.eval_ he⟩
  have eh : ∀ y, hi = some y → ∃ kd, a.eval y = .int kd hh := fun y e => by
    rcases hhi with ⟨e', _⟩ | ⟨y', kd, e', he⟩
    · rw [e] at e'; cases e'
    · rw [e] at e'; cases e'; exact ⟨kd, hf.eval_ he⟩
  have el : ∀ y, lo = some y → ∃ kd, a.eval y = .int kd l := fun y e => by
    rcases hl with ⟨e', _⟩ | ⟨y', kd, e', he⟩
    · rw [e] at e'; cases e'
    · rw [e] at e'; cases e'; exact ⟨kd, hf.eval_ he⟩
  have dm : mx = none → m = cap := fun e => by
    rcases hm with ⟨_, e'⟩ | ⟨y', kd, e', he⟩
    · exact e'
    · rw [e] at e'; cases e'
  have dh : hi = none → hh = len := fun e => by
    rcases hhi with ⟨_, e'⟩ | ⟨y', kd, e', he⟩
    · exact e'
    · rw [e] at e'; cases e'
  have dl : lo = none → l = 0 := fun e => by
    rcases hl with ⟨_, e'⟩ | ⟨y', kd, e', he⟩
    · exact e'
    · rw [e] at e'; cases e'
  have hmn : ((m.toNat : Nat) : Int) = m := by omega
  have hhn : ((hh.toNat : Nat) : Int) = hh := by omega
  cases mx with
  | none =>
    have e1 := dm rfl
    cases hi with
    | none =>
      have e2 := dh rfl
      cases lo with
      | none =>
        have e3 := dl rfl
        subst e1; subst e2; subst e3
        simp [Instr.sliceBounds]
      | some y =>
        obtain ⟨kd, e3⟩ := el y rfl
        subst e1; subst e2
        simp only [Instr.sliceBounds, Option.map_none, Option.map_some, Sem.run_bind, Sem.run_pure, Result.andThen_ok, e3]
        rw [sliceBound_run (by omega)]
        simp
    | some x =>
      obtain ⟨kd', e2⟩ := eh x rfl
      cases lo with
      | none =>
        have e3 := dl rfl
        subst e1; subst e3
        simp only [Instr.sliceBounds, Option.map_none, Option.map_some, Sem.run_bind, Sem.run_pure, Result.andThen_ok, e2]
        rw [sliceBound_run (by omega)]
        simp
      | some y =>
        obtain ⟨kd, e3⟩ := el y rfl
        subst e1
        simp only [Instr.sliceBounds, Option.map_none, Option.map_some, Sem.run_bind, Sem.run_pure, Result.andThen_ok, e2, e3]
        rw [sliceBound_run (by omega)]
        simp only [Result.andThen_ok]
        rw [sliceBound_run (by omega)]
        simp
  | some z =>
    obtain ⟨kd'', e1⟩ := em z rfl
    cases hi with
    | none => simp [isNoneB] at hmx
    | some x =>
      obtain ⟨kd', e2⟩ := eh x rfl
      cases lo with
      | none =>
        have e3 := dl rfl
        subst e3
        simp only [Instr.sliceBounds, Option.map_none, Option.map_some, Sem.run_bind, Sem.run_pure, Result.andThen_ok, e1, e2]
        rw [sliceBound_run (by omega)]
        simp only [Result.andThen_ok]
        rw [sliceBound_run (by omega)]
        simp
      | some y =>
        obtain ⟨kd, e3⟩ := el y rfl
        simp only [Instr.sliceBounds, Option.map_some, Sem.run_bind, Sem.run_pure, e1, e2, e3]
        rw [sliceBound_run (by omega)]
        simp only [Result.andThen_ok]
        rw [sliceBound_run (by omega)]
        simp only [Result.andThen_ok]
        rw [sliceBound_run (by omega)]
        simp

theorem isNoneB_none {α : Type} {x : Option α} (h : isNoneB x = true) : x = none := by cases x <;> first | rfl | cases h

theorem vcSlice_gives {D : Env} {t : TypeId} {fm : Fm} {n : Nat} {a : Act} (hf : FmOk D n fm a) {x : Operand} {lo hi mx : Option Operand} {k : Value → Prop} (h : vcSlice P t fm x lo hi mx k) :
    Gives P M (Instr.sliceAt t (a.eval x) (lo.map a.eval) (hi.map a.eval) (mx.map a.eval)) k := by
  unfold vcSlice at h
  split at h
  · rename_i A len cap he
    have ex := hf.eval_ he
    split at h
    · rename_i e hu
      split at h
      · rename_i i hi'
        split at h
        · exact h.elim
        · rename_i hb
          simp only [natK_eq] at h
          obtain ⟨l, hh, m, hk, hr⟩ := sliceBounds_run (P := P) (isS := true) hf hb h (K := fun l h m => vcSlice3 A i.size cap l h m k) (fun l h m hk => ⟨hk.1.1, hk.1.2.1, hk.1.2.2, hk.2.1⟩)
          refine ⟨_, hk.2.2, fun w _ => ?_⟩
          simp only [Instr.sliceAt, Sem.run_bind, run_under hu, Result.andThen_ok, ex, Instr.slice, hr w, run_size hi', Sem.run_pure]
          rfl
      · exact h.elim
    · exact h.elim
  · rename_i ad he
    have ex := hf.eval_ he
    split at h
    · rename_i n' e hu
      split at h
      · rename_i i hi'
        split at h
        · exact h.elim
        · rename_i hb
          have hmx := isNoneB_none hb
          subst hmx
          simp only [natK_eq] at h
          obtain ⟨l, hh, m, hk, hr⟩ := sliceBounds_run (P := P) (isS := false) (len := n') (cap := n') (mx := none) hf (by simp [isNoneB]) (lo := lo) (hi := hi)
            (K := fun l h m => m = n' ∧ vcRange l h n' (k (.slice (cutA (some ad) n' l.toNat i.size) (h.toNat - l.toNat) (n' - l.toNat)))) (h := by
              obtain ⟨hh, h, e1⟩ := valI_some h
              obtain ⟨l, h, e2⟩ := valI_some h
              have f2 : valI fm lo 0 (fun l' => l' = l) := by
                rcases e2 with ⟨rfl, rfl⟩ | ⟨y, kd, rfl, he⟩
                · rfl
                · simp [valI, he]
              have f1 : valI fm hi n' (fun l' => l' = hh) := by
                rcases e1 with ⟨rfl, rfl⟩ | ⟨y, kd, rfl, he⟩
                · rfl
                · simp [valI, he]
              rw [valI_none]
              exact valI_mono f1 (fun z hz => by subst hz; exact valI_mono f2 (fun z hz => by subst hz; exact ⟨rfl, h⟩)))
            (fun l h m hk => ⟨hk.2.1.1, hk.2.1.2.1, by rw [hk.1]; exact hk.2.1.2.2, by omega⟩)
          obtain ⟨rfl, hk⟩ := hk
          refine ⟨_, hk.2, fun w _ => ?_⟩
          simp only [Instr.sliceAt, Sem.run_bind, run_under hu, Result.andThen_ok, ex, Instr.sureAddr, Sem.run_pure]
          rw [show (Option.map a.eval (none : Option Operand)) = none from rfl] at hr
          cases mx : (Option.map a.eval (none : Option Operand)) with
          | some _ => cases mx
          | none =>
            simp only [hr w, Result.andThen_ok, run_size hi', Int.toNat_natCast]
            congr 2
            unfold cutA
            split <;> rfl
      · exact h.elim
    · exact h.elim
  · rename_i s he
    have ex := hf.eval_ he
    split at h
    · rename_i hu
      split at h
      · exact h.elim
      · rename_i hb
        have hmx := isNoneB_none hb
        subst hmx
        obtain ⟨hh, h, e1⟩ := valI_some h
        obtain ⟨l, h, e2⟩ := valI_some h
        refine ⟨_, h.2, fun w _ => ?_⟩
        obtain ⟨hr1, hr2, hr3⟩ := h.1
        have hhn : ((hh.toNat : Nat) : Int) = hh := by omega
        simp only [Instr.sliceAt, Sem.run_bind, run_under hu, Result.andThen_ok, ex, Instr.slice, Option.map_none, Option.isSome_none, Bool.false_eq_true, if_false, Sem.run_pure]
        rcases e1 with ⟨rfl, rfl⟩ | ⟨y, kd, rfl, he1⟩ <;> rcases e2 with ⟨rfl, rfl⟩ | ⟨y', kd', rfl, he2⟩
        · simp [Instr.sliceBounds]
        · simp only [Instr.sliceBounds, Option.map_none, Option.map_some, Sem.run_bind, Sem.run_pure, Result.andThen_ok, hf.eval_ he2]
          rw [sliceBound_run (by omega)]; simp
        · simp only [Instr.sliceBounds, Option.map_none, Option.map_some, Sem.run_bind, Sem.run_pure, Result.andThen_ok, hf.eval_ he1]
          rw [sliceBound_run (by omega)]; simp
        · simp only [Instr.sliceBounds, Option.map_some, Sem.run_bind, Sem.run_pure, Result.andThen_ok, hf.eval_ he1, hf.eval_ he2]
          rw [sliceBound_run (by omega)]; simp only [Result.andThen_ok]; rw [sliceBound_run (by omega)]; simp
    · exact h.elim
  · exact h.elim

theorem vcField_gives {t : TypeId} {x : Value} {f : Nat} {k : Value → Prop} (h : vcField P t x f k) : Gives P M (Instr.field t x f) k := by
  unfold vcField at h
  split at h
  · rename_i cs
    split at h
    · rename_i fields hu
      split at h
      · rename_i fd hfd
        have agg : ∀ d i, P.underlying fd.type = some d → IsAgg d = true → P.info? fd.type = some i → k (.agg (cs.extract fd.offset (fd.offset + i.size))) → Gives P M (Instr.field t (.agg cs) f) k := by
          intro d i hd hagg hi hk
          exact ⟨_, hk, fun w _ => by simp [Instr.field, run_under hu, hfd, asAgg, part, run_isAgg hd, hagg, run_size hi]⟩
        split at h
        · rename_i hd
          split at h
          · rename_i hi; exact agg _ _ hd rfl hi h
          · exact h.elim
        · rename_i hd
          split at h
          · rename_i hi; exact agg _ _ hd rfl hi h
          · exact h.elim
        · rename_i d n1 n2 hd
          split at h
          · rename_i v hv
            have hag : IsAgg d = false := by
              cases d <;> first | rfl | exact (n1 _ rfl).elim | exact (n2 _ _ rfl).elim
            exact ⟨_, h, fun w _ => by simp [Instr.field, run_under hu, hfd, asAgg, part, run_isAgg hd, hag, hv]⟩
          · exact h.elim
        · exact h.elim
      · exact h.elim
    · exact h.elim
  · exact h.elim

theorem vcFieldAddr_gives {t : TypeId} {x : Value} {f : Nat} {k : Value → Prop} (h : vcFieldAddr P t x f k) : Gives P M (Instr.fieldAt t x f) k := by
  unfold vcFieldAddr at h
  split at h
  · split at h
    · rename_i fields hu
      split at h
      · rename_i fd hfd
        split at h
        · rename_i i hi
          split at h
          · exact h.elim
          · rename_i hb
            have hne : i.size ≠ 0 := Nat.ne_of_beq_eq_false hb
            exact ⟨_, h, fun w _ => by simp [Instr.fieldAt, run_under hu, hfd, Instr.sureAddr, fieldPlace, run_size hi, hne]⟩
        · exact h.elim
      · exact h.elim
    · exact h.elim
  · exact h.elim

theorem vcIndexAddr_gives (hM : ∃ w, M w) {t : TypeId} {x i : Value} {k : Value → Prop} (h : vcIndexAddr P M t x i k) : Gives P M (Instr.indexAt t x i) k := by
  unfold vcIndexAddr at h
  split at h
  · split at h
    · rename_i e hu
      split at h
      · rename_i inf hi
        rw [natK_eq] at h
        obtain ⟨a, rfl, h0, h1, hk⟩ := h.out hM
        rw [atK_eq] at hk
        exact ⟨_, hk, fun w _ => by simp [Instr.indexAt, asIntOf, run_under hu, run_size hi, h0, h1]⟩
      · exact h.elim
    · exact h.elim
  · split at h
    · rename_i len e hu
      split at h
      · rename_i inf hi
        rw [natK_eq] at h
        obtain ⟨⟨h0, h1⟩, hk⟩ := h
        rw [atK_eq] at hk
        exact ⟨_, hk, fun w _ => by simp [Instr.indexAt, asIntOf, Instr.sureAddr, run_under hu, run_size hi, h0, h1]⟩
      · exact h.elim
    · exact h.elim
  · exact h.elim

theorem vcIndex_gives {t : TypeId} {x i : Value} {k : Value → Prop} (h : vcIndex P t x i k) : Gives P M (Instr.index t x i) k := by
  unfold vcIndex at h
  split at h
  · rename_i cs _ n
    split at h
    · rename_i len e hu
      split at h
      · exact h.elim
      · exact h.elim
      · rename_i d n1 n2 hd
        split at h
        · rename_i inf hi
          split at h
          · rename_i hb
            obtain ⟨⟨h0, h1⟩, v, hv, hk⟩ := h
            have hs : inf.size = 1 := Nat.eq_of_beq_eq_true hb
            have hag : IsAgg d = false := by
              cases d <;> first | rfl | exact (n1 _ rfl).elim | exact (n2 _ _ rfl).elim
            exact ⟨v, hk, fun w _ => by simp [Instr.index, asIntOf, run_under hu, h0, h1, part, run_isAgg hd, hag, run_size hi, hs, hv]⟩
          · exact h.elim
        · exact h.elim
      · exact h.elim
    · exact h.elim
  · rename_i s _ n
    split at h
    · rename_i hu
      obtain ⟨⟨h0, h1⟩, b, hb, hk⟩ := h
      exact ⟨_, hk, fun w _ => by simp [Instr.index, asIntOf, run_under hu, h0, hb]⟩
    · exact h.elim
  · exact h.elim

theorem vcLen_gives {t : TypeId} {x : Value} {k : Value → Prop} (h : vcLen P t x k) (ty : TypeId) : Gives P M (Builtin.len_ #[t] ty #[x]) k := by
  unfold vcLen at h
  split at h
  · rename_i hu; exact ⟨_, h, fun w _ => by simp [Builtin.len_, run_under hu, goInt]⟩
  · rename_i hu; exact ⟨_, h, fun w _ => by simp [Builtin.len_, run_under hu, goInt]⟩
  · rename_i hu; exact ⟨_, h, fun w _ => by simp [Builtin.len_, run_under hu, goInt]⟩
  · rename_i hu; exact ⟨_, h, fun w _ => by simp [Builtin.len_, run_under hu, goInt]⟩
  · exact h.elim
theorem vcCap_gives {t : TypeId} {x : Value} {k : Value → Prop} (h : vcCap P t x k) (ty : TypeId) : Gives P M (Builtin.cap_ #[t] ty #[x]) k := by
  unfold vcCap at h
  split at h
  · rename_i hu; exact ⟨_, h, fun w _ => by simp [Builtin.cap_, run_under hu, goInt]⟩
  · exact h.elim

theorem foldMin_run {kd : IntKind} : ∀ (r : List Value) (x n : Int), foldMin x r = some n → ∀ w, (r.foldlM Builtin.min2 (.int kd x)).run P w = .ok (.int kd n) w
  | [], x, n, h, w => by simp [foldMin] at h; subst h; rfl
  | v :: r, x, n, h, w => by
    unfold foldMin at h
    split at h
    · rename_i e; cases e
    · rename_i e; cases e
      have := foldMin_run (kd := kd) r _ n h w
      simpa [Builtin.min2] using this
    · cases h
theorem foldMax_run {kd : IntKind} : ∀ (r : List Value) (x n : Int), foldMax x r = some n → ∀ w, (r.foldlM Builtin.max2 (.int kd x)).run P w = .ok (.int kd n) w
  | [], x, n, h, w => by simp [foldMax] at h; subst h; rfl
  | v :: r, x, n, h, w => by
    unfold foldMax at h
    split at h
    · rename_i e; cases e
    · rename_i e; cases e
      have := foldMax_run (kd := kd) r _ n h w
      simpa [Builtin.max2] using this
    · cases h

theorem vcConv_gives {s d : TypeId} {x : Value} {k : Value → Prop} (h : vcConv P M s d x k) : Gives P M (convert s d x) k := by
  unfold vcConv at h
  split at h
  · rename_i hs hd
    exact ⟨_, h.out, fun w _ => by simp [convert, run_under hs, run_under hd, Conv.intToInt]⟩
  · rename_i hs hd
    exact ⟨_, h, fun w _ => by simp [convert, run_under hs, run_under hd]⟩
  · rename_i e A n c hs hd
    split at h
    · rename_i he
      obtain ⟨bs, rfl, hr, hk⟩ := h
      refine ⟨_, hk, fun w hw => ?_⟩
      have hrow := hr w hw
      cases A with
      | none =>
        have : bs = [] := by
          cases bs with
          | nil => rfl
          | cons x r => obtain ⟨a, ha, _⟩ := hrow 0 (B x) (by simp [Bs]); cases ha
        subst this
        simp only [convert, Sem.run_bind, run_under hs, run_under hd, Result.andThen_ok, run_under he]
        rfl
      | some a =>
        exact run_convert_bytes_back w s d e a c bs hs he hd fun j hj => by
          obtain ⟨a', ha, hc⟩ := hrow j (B bs[j]) (by simp [Bs, hj])
          cases ha
          exact hc
    · exact h.elim
  · exact h.elim

/-! ### Maps -/
theorem mI_cons {kd : IntKind} {e : Int × Value × Nat} {l : Ents} : mI kd (e :: l) = (.int kd e.1, e.2.1, e.2.2) :: mI kd l := rfl
/-- Looking for a key among a map's entries. -/
theorem findNow_mI (kd : IntKind) (n : Int) : ∀ (es : List MapEntry) (l : Ents) (i : Nat), es.map (fun e => (e.key, e.val, e.born)) = mI kd l →
    (getE n l = none → Instr.findNow (.int kd) (.int kd n) es i = some none) ∧
    (∀ e, getE n l = some e → ∃ j m, Instr.findNow (.int kd) (.int kd n) es i = some (some (i + j, e.1)) ∧ es[j]? = some m ∧ m.key = .int kd n ∧ m.val = e.1 ∧ m.born = e.2 ∧
      (∀ v, (es.modify j fun m => { m with key := .int kd n, val := v }).map (fun e => (e.key, e.val, e.born)) = mI kd (setE n v l)) ∧ (es.eraseIdx j).map (fun e => (e.key, e.val, e.born)) = mI kd (delE n l))
  | [], l, i, h => by
    cases l with
    | nil => exact ⟨fun _ => rfl, fun e he => by cases he⟩
    | cons e r => cases h
  | m :: es, l, i, h => by
    cases l with
    | nil => cases h
    | cons e r =>
      rw [List.map_cons, mI_cons, List.cons.injEq] at h
      obtain ⟨h1, h2⟩ := h
      simp only [Prod.mk.injEq] at h1
      obtain ⟨hk, hv, hb⟩ := h1
      have ih := findNow_mI kd n es r (i + 1) h2
      by_cases hn : e.1 = n
      · refine ⟨fun hg => ?_, fun e' hg => ?_⟩
        · simp [getE, hn] at hg
        · simp only [getE, hn, if_true, Option.some.injEq] at hg
          subst hg
          refine ⟨0, m, ?_, rfl, by rw [hk, hn], hv, hb, fun v => ?_, ?_⟩
          · unfold Instr.findNow
            rw [hk, hn]
            simp [Instr.sameNow, hv]
          · simp only [List.modify_zero_cons, List.map_cons, setE, hn, if_true, mI_cons, h2, hb]
          · simp only [List.eraseIdx_cons_zero, delE, hn, if_true, h2]
      · have hs : Instr.findNow (.int kd) (.int kd n) (m :: es) i = Instr.findNow (.int kd) (.int kd n) es (i + 1) := by
          conv => lhs; unfold Instr.findNow
          rw [hk]
          have : (n == e.1) = false := by simpa using fun h => hn h.symm
          simp [Instr.sameNow, this]
        refine ⟨fun hg => ?_, fun e' hg => ?_⟩
        · rw [hs]
          exact ih.1 (by simpa [getE, hn] using hg)
        · obtain ⟨j, m', h3, h4, h5, h6, h7, h8, h9⟩ := ih.2 e' (by simpa [getE, hn] using hg)
          refine ⟨j + 1, m', by rw [hs, h3]; congr 3; omega, by simpa using h4, h5, h6, h7, fun v => ?_, ?_⟩
          · simp only [List.modify_succ_cons, List.map_cons, setE, hn, if_false, mI_cons, h8, hk, hv, hb]
          · simp only [List.eraseIdx_cons_succ, List.map_cons, delE, hn, if_false, mI_cons, h9, hk, hv, hb]
theorem isKey_int (kd : IntKind) (n : Int) : MapKept.IsKey (.int kd) (.int kd n) := by simp [MapKept.IsKey]

theorem vcLookup_gives {t : TypeId} {x i : Value} {ok : Bool} {k : Value → Prop} (h : vcLookup P M t x i ok k) : Gives P M (Instr.lookup t x i ok) k := by
  unfold vcLookup at h
  split at h
  · rename_i b kd n
    split at h
    · rename_i kt et hm
      split at h
      · rename_i kd' hd
        split at h
        · rename_i inf hi
          split at h
          · rename_i z hz
            obtain ⟨rfl, l, clock, hM, r, hr, h⟩ := h
            have key : ∀ w, M w → ∃ es : Array MapEntry, w.heap[b]? = some (.map es clock) ∧ es.toList.map (fun e => (e.key, e.val, e.born)) = mI kd l := fun w hw => by
              obtain ⟨o, ho, es, rfl, he, _⟩ := hM w hw
              exact ⟨es, ho, he⟩
            cases r with
            | none =>
              have hrun : ∀ w, M w → (Instr.lookup t (.map (some b)) (.int kd n) ok).run P w = .ok (if ok = true then .tuple #[z, .bool false] else z) w := fun w hw => by
                obtain ⟨es, hb, he⟩ := key w hw
                have hf := (findNow_mI kd n es.toList l 0 he).1 hr
                simp only [Instr.lookup, Sem.run_bind, run_under hm, Result.andThen_ok, MapKept.run_getObj_map hb, Sem.run_pure, MapKept.run_checkKey hd (isKey_int kd n), MapKept.run_findKey hd hf, run_zero hi hz]
              cases ok with
              | true => exact ⟨_, h, fun w hw => by rw [hrun w hw]; rfl⟩
              | false => exact ⟨_, h, fun w hw => by rw [hrun w hw]; rfl⟩
            | some e =>
              have hrun : ∀ w, M w → (Instr.lookup t (.map (some b)) (.int kd n) ok).run P w = .ok (if ok = true then .tuple #[e.1, .bool true] else e.1) w := fun w hw => by
                obtain ⟨es, hb, he⟩ := key w hw
                obtain ⟨j, m, hf, _⟩ := (findNow_mI kd n es.toList l 0 he).2 e hr
                simp only [Instr.lookup, Sem.run_bind, run_under hm, Result.andThen_ok, MapKept.run_getObj_map hb, Sem.run_pure, MapKept.run_checkKey hd (isKey_int kd n), MapKept.run_findKey hd hf]
              cases ok with
              | true => exact ⟨_, h, fun w hw => by rw [hrun w hw]; rfl⟩
              | false => exact ⟨_, h, fun w hw => by rw [hrun w hw]; rfl⟩
          · exact h.elim
        · exact h.elim
      · exact h.elim
    · exact h.elim
  · rename_i b q
    split at h
    · rename_i kt et hm
      split at h
      · rename_i hd
        split at h
        · rename_i inf hi
          split at h
          · rename_i z hz
            obtain ⟨clock, hM, h⟩ := h
            have hrun : ∀ w, M w → (Instr.lookup t (.map (some b)) (.string q) ok).run P w = .ok (if ok = true then .tuple #[z, .bool false] else z) w := fun w hw => by
              obtain ⟨o, ho, es, rfl, he, _⟩ := hM w hw
              have hes : es.toList = [] := by simpa using he
              have hf : Instr.findNow .string (.string q) es.toList 0 = some none := by rw [hes]; rfl
              simp only [Instr.lookup, Sem.run_bind, run_under hm, Result.andThen_ok, MapKept.run_getObj_map ho, Sem.run_pure, MapKept.run_checkKey hd (show MapKept.IsKey .string (.string q) by simp [MapKept.IsKey]), MapKept.run_findKey hd hf, run_zero hi hz]
            cases ok with
            | true => exact ⟨_, h, fun w hw => by rw [hrun w hw]; rfl⟩
            | false => exact ⟨_, h, fun w hw => by rw [hrun w hw]; rfl⟩
          · exact h.elim
        · exact h.elim
      · exact h.elim
    · exact h.elim
  · exact h.elim
theorem vcEnt_gives {r : Nat} {k : Value → Prop} (h : vcEnt M r k) : Gives P M (Instr.entry (.pointer (some ⟨r, 0, none⟩))) k := by
  obtain ⟨b, since, seen, s, l, clock, ht, hm, e, he, hs, hk⟩ := h
  refine ⟨_, hk, fun w hw => ?_⟩
  have h1 : w.heap[r]? = some (.mapIter (some b) since (seen ++ [s]).toArray clock) := ht w hw
  obtain ⟨o, ho, es, rfl, hl, _, hnd⟩ := hm w hw
  have g1 : (getObj r).run P w = .ok (.mapIter (some b) since (seen ++ [s]).toArray clock) w := by simp [getObj, Sem.run, h1]
  rw [← hl] at he
  obtain ⟨x, hx, rfl⟩ := List.mem_map.1 he
  have hfind : es.find? (fun y => y.born == s) = some x := by
    rw [← Array.find?_toList]
    have hnd' : (es.toList.map (·.born)).Nodup := by
      rw [← hl, List.map_map] at hnd
      exact hnd
    clear hl he g1 h1 ho hnd hm ht hk
    generalize es.toList = l at *
    induction l with
    | nil => cases hx
    | cons y r ih =>
      rw [List.map_cons, List.nodup_cons] at hnd'
      rw [List.find?_cons]
      rcases List.mem_cons.1 hx with rfl | hx
      · simp only at hs
        simp [hs]
      · have hne : y.born ≠ s := fun h => hnd'.1 (by rw [h, ← hs]; exact List.mem_map_of_mem hx)
        have : (y.born == s) = false := by simpa using hne
        rw [this]
        exact ih hx hnd'.2
  have hb : (seen ++ [s]).toArray.back? = some s := by simp
  simp only [Instr.entry, Sem.run_bind, Result.andThen_ok, g1, hb, MapKept.run_getObj_map ho]
  simp [hfind]
end
end Go.Proofs.Yticllmnblcjjcaa
end

section
/- Verification conditions of whole functions, and that they suffice. -/
namespace Go.Proofs.Yticllmnblcjjcaa

abbrev VK := Value → List Ob → Mp → Prop
abbrev SK := Fm → List Ob → Mp → Prop
/-- Where a panic goes. -/
abbrev XK := List PanicEntry → List Ob → Mp → Prop
def noX : XK := fun _ _ _ => False

/-- What a call of f owes: begun where it may write the objects A and read G, it returns, and Post tells what, the objects that are then at hand, and what is known of new memory. -/
def Spec (P : Program) (f : FuncId) (args : Array Value) (A : List Ob) (G : Mp) (Post : Value → List Ob → Mp → Prop) : Prop :=
  (∀ (args : Array Value) (w : World), (callFunc f args).run P w = .ok (.enter f args) w) ∧
  ∀ w, Entry w A G → Calls P f args w fun e w' => ∃ v own N, e = .returned v ∧ Post v own N ∧ Inv w (blksOf A) w' own N

theorem Spec.mono {P : Program} {f : FuncId} {args : Array Value} {A : List Ob} {G : Mp} {Post Post' : Value → List Ob → Mp → Prop} (h : Spec P f args A G Post)
    (hp : ∀ v own N, Post v own N → Post' v own N) : Spec P f args A G Post' :=
  ⟨h.1, fun w hw => (h.2 w hw).mono fun _ _ ⟨v, own, N, he, hP, hi⟩ => ⟨v, own, N, he, hp _ _ _ hP, hi⟩⟩

/-- The same of a call that may panic. -/
def SpecE (P : Program) (f : FuncId) (args : Array Value) (A : List Ob) (G : Mp) (Post : Value → List Ob → Mp → Prop) (PX : XK) : Prop :=
  (∀ (args : Array Value) (w : World), (callFunc f args).run P w = .ok (.enter f args) w) ∧
  ∀ w, Entry w A G → Calls P f args w fun e w' => ∃ own N, ((∃ v, e = .returned v ∧ Post v own N) ∨ (∃ c, e = .panicked c ∧ PX c own N)) ∧ Inv w (blksOf A) w' own N
theorem Spec.toE {P : Program} {f : FuncId} {args : Array Value} {A : List Ob} {G : Mp} {Post : Value → List Ob → Mp → Prop} (h : Spec P f args A G Post) : SpecE P f args A G Post noX :=
  ⟨h.1, fun w hw => (h.2 w hw).mono fun _ _ ⟨v, own, N, he, hP, hi⟩ => ⟨own, N, .inl ⟨v, he, hP⟩, hi⟩⟩
theorem SpecE.spec {P : Program} {f : FuncId} {args : Array Value} {A : List Ob} {G : Mp} {Post : Value → List Ob → Mp → Prop} {PX : XK} (h : SpecE P f args A G Post PX) (hx : ∀ c own N, ¬ PX c own N) : Spec P f args A G Post :=
  ⟨h.1, fun w hw => (h.2 w hw).mono fun _ _ ⟨own, N, hc, hi⟩ => by
    rcases hc with ⟨v, he, hP⟩ | ⟨c, _, hP⟩
    · exact ⟨v, own, N, he, hP, hi⟩
    · exact (hx _ _ _ hP).elim⟩

inductive vcCallF (X : XK) (P : Program) (G : Mp) (own : List Ob) (N : Mp) (f : FuncId) (args : List Value) (k : VK) : Prop
  | intro (A rest : List Ob) (Post : Value → List Ob → Mp → Prop) (hp : Pick A own rest) (hs : Spec P f args.toArray A (GN G rest N) Post) (hk : ∀ v own' N', Post v own' N' → k v (own' ++ rest) (MpAnd N N'))
  | may (A rest : List Ob) (Post : Value → List Ob → Mp → Prop) (PX : XK) (hp : Pick A own rest) (hs : SpecE P f args.toArray A (GN G rest N) Post PX) (hk : ∀ v own' N', Post v own' N' → k v (own' ++ rest) (MpAnd N N')) (hx : ∀ c own' N', PX c own' N' → X c (own' ++ rest) (MpAnd N N'))
  | ext (v : Value) (h : Ent (GN G own N) (fun w => (callFunc f args.toArray).run P w = .ok (.value v) w)) (hk : k v own N)

/-- The cells of a value as a list. -/
def cellsL : Value → List Value
  | .agg cs => cs.toList
  | v => [v]
theorem cellsL_eq (v : Value) : cellsL v = v.cells.toList := by cases v <;> rfl

def vcNew (own : List Ob) (N : Mp) (e : TypeId) (cs : List Value) (k : VK) : Prop :=
  forced cs fun cs => ∀ b : Nat, k (.pointer (some ⟨b, 0, none⟩)) (.row b e cs cs.length :: own) N

def vcBox (own : List Ob) (N : Mp) (e : TypeId) (v : Value) (k : VK) : Prop := match v with
  | .agg cs => ∀ b : Nat, k (.pointer (some ⟨b, 0, none⟩)) (.row b e cs.toList cs.toList.length :: own) N
  | v => vcNew own N e (cellsL v) k

def Ob.set : Ob → Nat → Value → Ob
  | .row b ty xs m, i, v => .row b ty (xs.set i v) m
  | .sl A cap ty size xs, i, v => .sl A cap ty size (xs.set i v)
  | .map b l c, _, _ => .map b l c
  | .iter b m s e c, _, _ => .iter b m s e c
def Ob.base : Ob → Option Addr
  | .row b _ _ _ => some ⟨b, 0, none⟩
  | .sl A _ _ _ _ => A
  | .map _ _ _ => none
  | .iter _ _ _ _ _ => none
def Ob.cells : Ob → List Value
  | .row _ _ xs _ => xs
  | .sl _ _ _ _ xs => xs
  | .map _ _ _ => []
  | .iter _ _ _ _ _ => []
def oneCell : Value → Bool
  | .agg _ | .tuple _ => false
  | _ => true
/-- A store of one cell. -/
inductive vcStore1 (own : List Ob) (a : Addr) (v : Value) (k : List Ob → Prop) : Prop
  | intro (o : Ob) (rest : List Ob) (i : Nat) (ht : Take o own rest) (hb : ∀ w, Objs own w → ∃ b, o.base = some b ∧ a = b.add i) (hi : i < o.cells.length) (h1 : oneCell v = true) (hk : k (o.set i v :: rest))
def spl (xs : List Value) (i : Nat) (vs : List Value) : List Value := xs.take i ++ vs ++ xs.drop (i + vs.length)
def Ob.setL : Ob → Nat → List Value → Ob
  | .row b ty xs m, i, vs => .row b ty (spl xs i vs) m
  | .sl A cap ty size xs, i, vs => .sl A cap ty size (spl xs i vs)
  | .map b l c, _, _ => .map b l c
  | .iter b m s e c, _, _ => .iter b m s e c
/-- A store of several cells. -/
inductive vcStoreN (own : List Ob) (a : Addr) (vs : List Value) (k : List Ob → Prop) : Prop
  | intro (o : Ob) (rest : List Ob) (i : Nat) (ht : Take o own rest) (hb : ∀ w, Objs own w → ∃ b, o.base = some b ∧ a = b.add i) (hi : i + vs.length ≤ o.cells.length) (h1 : ∀ v ∈ vs, oneCell v = true) (hk : k (o.setL i vs :: rest))
def vcStore (P : Program) (own : List Ob) (t : TypeId) (x v : Value) (k : List Ob → Prop) : Prop :=
  match x with
  | .pointer (some a) => match P.info? t with
    | some i => match Nat.beq i.size 1 with
      | true => match cellsL v with
        | [u] => vcStore1 own (a.add 0) u k
        | _ => False
      | false => (cellsL v).length = i.size ∧ vcStoreN own a (cellsL v) k
    | none => False
  | _ => False

def zerosL (n : Nat) (z : List Value) : List Value := (List.replicate n z).flatten

/-- make: a slice of zeros. -/
structure vcMk (own : List Ob) (N : Mp) (e : TypeId) (size bytes : Nat) (z : List Value) (l c : Int) (k : VK) : Prop where
  intro ::
  bounds : 0 ≤ l ∧ l ≤ c ∧ bytes * c ≤ 281474976710656 ∧ c ≤ 9223372036854775807
  out : ∀ b : Nat, k (.slice (some ⟨b, 0, none⟩) l.toNat c.toNat) (.sl (some ⟨b, 0, none⟩) c.toNat e size (zerosL l.toNat z) :: own) N
def vcMakeSlice (P : Program) (own : List Ob) (N : Mp) (t : TypeId) (l c : Value) (k : VK) : Prop :=
  match l, c with
  | .int _ l, .int _ c => match P.underlying t with
    | some (.slice e) => match P.info? e with
      | some i => match i.zero with
        | some z => match Nat.beq z.cells.size i.size && Nat.blt 0 i.size with
          | true => natK i.size fun size => natK i.bytes fun bytes => forced (cellsL z) fun z => vcMk own N e size bytes z l c k
          | false => False
        | none => False
      | none => False
    | _ => False
  | _, _ => False

def vcBuildSlice (P : Program) (own : List Ob) (N : Mp) (t : TypeId) (len : Nat) (fm : Fm) (parts : List (Nat × Operand)) (k : VK) : Prop :=
  match partVals fm parts with
  | some vs => match P.underlying t with
    | some (.slice e) => match P.info? e with
      | some i => match i.zero with
        | some z => match fillL (fun j => some (j * i.size, i.size)) (zerosL len (cellsL z)) vs with
          | some cs => match Nat.ble (len * i.size) 16777216 && Nat.beq z.cells.size i.size && Nat.blt 0 i.size with
            | true => natK i.size fun s => forced cs fun cs => ∀ b : Nat, k (.slice (some ⟨b, 0, none⟩) len len) (.sl (some ⟨b, 0, none⟩) len e s cs :: own) N
            | false => False
          | none => False
        | none => False
      | none => False
    | _ => False
  | none => False

/-- append of one slice to one that the call owns. -/
inductive vcApp (M : Mp) (own : List Ob) (N : Mp) (e : TypeId) (size bytes : Nat) (A : Option Addr) (n cap : Nat) (A2 : Option Addr) (n2 : Nat) (k : VK) : Prop
  | intro (xs : List Value) (rest : List Ob) (news : List Value) (ht : Take (.sl A cap e size xs) own rest) (hl : xs.length = n * size ∧ news.length = n2 * size ∧ 0 < size ∧ (∀ v ∈ news, oneCell v = true)) (hr : Ent M (RowAt A2 news))
    (hb : (n + n2) * bytes ≤ 140737488355328 ∨ (bytes = 1 ∧ n + n2 ≤ 211106232532992)) (h63 : n + n2 ≤ 9223372036854775807) (hk : ∀ A' cap', n + n2 ≤ cap' → (n + n2 ≤ cap → A' = A ∧ cap' = cap) → k (.slice A' (n + n2) cap') (.sl A' cap' e size (xs ++ news) :: rest) N)
  | far (olds : List Value) (news : List Value) (hc : cap < n + n2) (ho : Ent M (RowAt A olds)) (hl : olds.length = n * size ∧ news.length = n2 * size ∧ (∀ v ∈ news, oneCell v = true)) (hr : Ent M (RowAt A2 news))
    (hb : (n + n2) * bytes ≤ 140737488355328 ∨ (bytes = 1 ∧ n + n2 ≤ 211106232532992)) (h63 : n + n2 ≤ 9223372036854775807) (hk : ∀ b cap', n + n2 ≤ cap' → k (.slice (some ⟨b, 0, none⟩) (n + n2) cap') (.sl (some ⟨b, 0, none⟩) cap' e size (olds ++ news) :: own) N)
def vcAppend (P : Program) (G : Mp) (own : List Ob) (N : Mp) (t : TypeId) (s x : Value) (k : VK) : Prop :=
  match s, x with
  | .slice A n cap, .slice A2 n2 _ => match P.underlying t with
    | some (.slice e) => match P.info? e with
      | some i => match i.zero with
        | some z => match Nat.beq z.cells.size i.size with
          | true => natK i.size fun size => natK i.bytes fun bytes => vcApp (GN G own N) own N e size bytes A n cap A2 n2 k
          | false => False
        | none => False
      | none => False
    | _ => False
  | _, _ => False

/-- append of a text's bytes. -/
inductive vcAppS (own : List Ob) (N : Mp) (e : TypeId) (A : Option Addr) (n cap : Nat) (bs : List UInt8) (k : VK) : Prop
  | intro (xs : List Value) (rest : List Ob) (ht : Take (.sl A cap e 1 xs) own rest) (hl : xs.length = n) (hb : n + bs.length ≤ 140737488355328)
    (hk : ∀ A' cap', n + bs.length ≤ cap' → k (.slice A' (n + bs.length) cap') (.sl A' cap' e 1 (xs ++ Bs bs) :: rest) N)
def vcAppendS (P : Program) (own : List Ob) (N : Mp) (t t' : TypeId) (s x : Value) (k : VK) : Prop :=
  match s, x with
  | .slice A n cap, .string bs => match P.underlying t, P.underlying t' with
    | some (.slice e), some .string => match P.info? e with
      | some i => match i.zero with
        | some z => match Nat.beq z.cells.size i.size && Nat.beq i.size 1 && Nat.beq i.bytes 1 with
          | true => vcAppS own N e A n cap bs.data.toList k
          | false => False
        | none => False
      | none => False
    | _, _ => False
  | _, _ => False

/-- append of zeros. -/
inductive vcAppZ (M : Mp) (own : List Ob) (N : Mp) (e : TypeId) (size bytes : Nat) (z : List Value) (A : Option Addr) (n cap : Nat) (l : Int) (k : VK) : Prop
  | intro (xs : List Value) (rest : List Ob) (m : Nat) (hm : l = m) (ht : Take (.sl A cap e size xs) own rest) (hl : xs.length = n * size ∧ 0 < size ∧ (∀ v ∈ z, oneCell v = true))
    (hb : (n + m) * bytes ≤ 140737488355328) (h63 : n + m ≤ 9223372036854775807) (hk : ∀ A' cap', n + m ≤ cap' → k (.slice A' (n + m) cap') (.sl A' cap' e size (xs ++ zerosL m z) :: rest) N)
  | far (olds : List Value) (m : Nat) (hm : l = m) (hc : cap < n + m) (ho : Ent M (RowAt A olds)) (hl : olds.length = n * size ∧ 0 < size ∧ (∀ v ∈ z, oneCell v = true))
    (hb : (n + m) * bytes ≤ 140737488355328) (h63 : n + m ≤ 9223372036854775807) (hk : ∀ b cap', n + m ≤ cap' → k (.slice (some ⟨b, 0, none⟩) (n + m) cap') (.sl (some ⟨b, 0, none⟩) cap' e size (olds ++ zerosL m z) :: own) N)
def vcAppendZ (P : Program) (G : Mp) (own : List Ob) (N : Mp) (t t' : TypeId) (s x : Value) (k : VK) : Prop :=
  match s, x with
  | .slice A n cap, .int .i64 l => match P.underlying t, P.underlying t' with
    | some (.slice e), some (.int _) => match P.info? e with
      | some i => match i.zero with
        | some z => match Nat.beq z.cells.size i.size with
          | true => natK i.size fun size => natK i.bytes fun bytes => forced (cellsL z) fun z => vcAppZ (GN G own N) own N e size bytes z A n cap l k
          | false => False
        | none => False
      | none => False
    | _, _ => False
  | _, _ => False

/-- copy onto the beginning of a slice that the call owns. -/
inductive vcCpy (M : Mp) (own : List Ob) (N : Mp) (e : TypeId) (size : Nat) (A : Option Addr) (n cap : Nat) (A2 : Option Addr) (n2 : Nat) (k : VK) : Prop
  | intro (xs : List Value) (rest : List Ob) (news : List Value) (ht : Take (.sl A cap e size xs) own rest) (hl : n * size ≤ xs.length ∧ news.length = n2 * size ∧ (∀ v ∈ news, oneCell v = true)) (hr : Ent M (RowAt A2 news))
    (hk : k (.int .i64 (Nat.min n2 n)) (.sl A cap e size (news.take (Nat.min n2 n * size) ++ xs.drop (Nat.min n2 n * size)) :: rest) N)
  | into (a : Addr) (cap0 off : Nat) (xs : List Value) (rest : List Ob) (news : List Value) (ht : Take (.sl (some a) cap0 e size xs) own rest) (hA : Nat.min n2 n = 0 ∨ A = some (a.add off)) (hl : off ≤ xs.length ∧ off + Nat.min n2 n * size ≤ cap0 * size ∧ news.length = Nat.min n2 n * size ∧ (∀ v ∈ news, oneCell v = true)) (hr : Ent M (RowAt A2 news))
    (hk : k (.int .i64 (Nat.min n2 n)) (.sl (some a) cap0 e size (spl xs off news) :: rest) N)
def vcCopy (P : Program) (G : Mp) (own : List Ob) (N : Mp) (t : TypeId) (s x : Value) (k : VK) : Prop :=
  match s, x with
  | .slice A n cap, .slice A2 n2 _ => match P.underlying t with
    | some (.slice e) => match P.info? e with
      | some i => natK i.size fun size => vcCpy (GN G own N) own N e size A n cap A2 n2 k
      | none => False
    | _ => False
  | _, _ => False

/-- clear, behind what is known of a slice that the call owns. -/
inductive vcClr (own : List Ob) (N : Mp) (e : TypeId) (size : Nat) (z : List Value) (A : Option Addr) (n : Nat) (k : VK) : Prop
  | none (h : n = 0) (hk : k (.tuple #[]) own N)
  | behind (a : Addr) (cap0 off : Nat) (xs : List Value) (rest : List Ob) (ht : Take (.sl (some a) cap0 e size xs) own rest) (hA : A = some (a.add off)) (hl : xs.length ≤ off ∧ off + n * size ≤ cap0 * size ∧ (∀ v ∈ z, oneCell v = true))
    (hk : k (.tuple #[]) (.sl (some a) cap0 e size xs :: rest) N)
def vcClear (P : Program) (own : List Ob) (N : Mp) (t : TypeId) (s : Value) (k : VK) : Prop :=
  match s with
  | .slice A n _ => match P.underlying t with
    | some (.slice e) => match P.info? e with
      | some i => match i.zero with
        | some z => match Nat.beq z.cells.size i.size with
          | true => natK i.size fun size => forced (cellsL z) fun z => vcClr own N e size z A n k
          | false => False
        | none => False
      | none => False
    | _ => False
  | _ => False

/-! ### Maps -/
/-- A store under a key. -/
inductive vcMapSet (own : List Ob) (kd kd' : IntKind) (b : Nat) (n : Int) (v : Value) (k : List Ob → Prop) : Prop
  | new (hd : kd = kd') (l : Ents) (clock : Nat) (rest : List Ob) (ht : Take (.map b (mI kd l) clock) own rest) (h : getE n l = none) (hk : k (.map b (mI kd (l ++ [(n, v, clock)])) (clock + 1) :: rest))
  | old (hd : kd = kd') (l : Ents) (clock : Nat) (rest : List Ob) (ht : Take (.map b (mI kd l) clock) own rest) (e : Value × Nat) (h : getE n l = some e) (hk : k (.map b (mI kd (setE n v l)) clock :: rest))
def vcMapUpdate (P : Program) (own : List Ob) (t : TypeId) (m key v : Value) (k : List Ob → Prop) : Prop :=
  match m, key with
  | .map (some b), .int kd n => match P.underlying t with
    | some (.map kt _) => match P.underlying kt with
      | some (.int kd') => vcMapSet own kd kd' b n v k
      | _ => False
    | _ => False
  | _, _ => False
/-- The entry of a key, new if there is none. -/
inductive vcMapEnt (own : List Ob) (N : Mp) (kd kd' : IntKind) (b : Nat) (n : Int) (z : Value) (k : VK) : Prop
  | new (hd : kd = kd') (l : Ents) (clock : Nat) (rest : List Ob) (ht : Take (.map b (mI kd l) clock) own rest) (h : getE n l = none) (hk : k (.tuple #[z, .int .i64 clock]) (.map b (mI kd (l ++ [(n, z, clock)])) (clock + 1) :: rest) N)
  | old (hd : kd = kd') (l : Ents) (clock : Nat) (rest : List Ob) (ht : Take (.map b (mI kd l) clock) own rest) (e : Value × Nat) (h : getE n l = some e) (hk : k (.tuple #[e.1, .int .i64 e.2]) (.map b (mI kd l) clock :: rest) N)
def vcMapEntry (P : Program) (own : List Ob) (N : Mp) (t : TypeId) (m key : Value) (k : VK) : Prop :=
  match m, key with
  | .map (some b), .int kd n => match P.underlying t with
    | some (.map kt et) => match P.underlying kt with
      | some (.int kd') => match P.info? et with
        | some inf => match inf.zero with
          | some z => vcMapEnt own N kd kd' b n z k
          | none => False
        | none => False
      | _ => False
    | _ => False
  | _, _ => False
/-- A store into the entry that was stored at a time. -/
inductive vcEntSt (own : List Ob) (b : Nat) (s : Int) (v : Value) (k : List Ob → Prop) : Prop
  | intro (kd : IntKind) (l : Ents) (clock c : Nat) (rest : List Ob) (hs : s = c) (ht : Take (.map b (mI kd l) clock) own rest) (h : ∃ e ∈ l, e.2.2 = c) (hk : k (.map b (mI kd (setB c v l)) clock :: rest))
def vcEntryStore (own : List Ob) (m s v : Value) (k : List Ob → Prop) : Prop :=
  match m, s with
  | .map (some b), .int .i64 s => vcEntSt own b s v k
  | _, _ => False
inductive vcMapDel (own : List Ob) (N : Mp) (kd kd' : IntKind) (b : Nat) (n : Int) (k : VK) : Prop
  | intro (hd : kd = kd') (l : Ents) (clock : Nat) (rest : List Ob) (ht : Take (.map b (mI kd l) clock) own rest) (hk : k (.tuple #[]) (.map b (mI kd (delE n l)) clock :: rest) N)
def vcDelete (P : Program) (own : List Ob) (N : Mp) (t : TypeId) (m key : Value) (k : VK) : Prop :=
  match m, key with
  | .map (some b), .int kd n => match P.underlying t with
    | some (.map kt _) => match P.underlying kt with
      | some (.int kd') => vcMapDel own N kd kd' b n k
      | _ => False
    | _ => False
  | _, _ => False
/-- An iterator over a map. -/
inductive vcRng (M : Mp) (own : List Ob) (N : Mp) (b : Nat) (k : VK) : Prop
  | intro (l : List (Value × Value × Nat)) (clock : Nat) (h : Ent M (fun w => (Ob.map b l clock).is w)) (hk : ∀ r : Nat, k (.pointer (some ⟨r, 0, none⟩)) (.iter r b clock [] clock :: own) N)
/-- A step of an iterator: which entry comes is open. -/
inductive vcNxt (M : Mp) (own : List Ob) (N : Mp) (r : Nat) (k : VK) : Prop
  | intro (b since : Nat) (seen : List Nat) (last : Nat) (rest : List Ob) (l : List (Value × Value × Nat)) (clock : Nat) (ht : Take (.iter r b since seen last) own rest) (hm : Ent M (fun w => (Ob.map b l clock).is w))
    (hok : seen = [] ∨ l = [] ∨ ∃ e ∈ l, e.2.2 < last) (hover : (∀ e ∈ l, e.2.2 < since → e.2.2 ∈ seen) → k (.tuple #[.bool false]) (.iter r b since seen last :: rest) N)
    (hstep : ∀ e ∈ l, e.2.2 ∉ seen → k (.tuple #[.bool true, e.1, e.2.1]) (.iter r b since (seen ++ [e.2.2]) clock :: rest) N)

noncomputable def vcEff (X : XK) (P : Program) (G : Mp) (o : Op) (fm : Fm) (own : List Ob) (N : Mp) (k : VK) : Prop :=
  match o with
  | .alloc e => match P.info? e with
    | some i => match i.zero with
      | some z => vcNew own N e (cellsL z) k
      | none => False
    | none => False
  | .box e x => evK fm x fun v => vcBox own N e v k
  | .buildSlice t len parts => vcBuildSlice P own N t len fm parts.toList k
  | .store t a x => evK fm a fun va => evK fm x fun vx => vcStore P own t va vx fun own => k undef own N
  | .makeSlice t l c => evK fm l fun vl => evK fm c fun vc => vcMakeSlice P own N t vl vc k
  | .call { callee := .value f, args, .. } => evK fm f fun vf => (match vf with
    | .func (.func fid) first cap => (match evs fm args.toList with
      | some vs => vcCallF X P G own N fid (first.toList ++ vs ++ cap.toList) k
      | none => False)
    | _ => False)
  | .call { callee := .builtin .append, args, argTypes } => (match evs fm args.toList, argTypes.toList with
    | some [s, x], [t, t'] => (match Nat.beq t t' with
      | true => vcAppend P G own N t s x k
      | false => (match x with
        | .string _ => vcAppendS P own N t t' s x k
        | _ => vcAppendZ P G own N t t' s x k))
    | _, _ => False)
  | .call { callee := .builtin .copy, args, argTypes } => (match evs fm args.toList, argTypes.toList with
    | some [s, x], [t, t'] => (match Nat.beq t t' with
      | true => vcCopy P G own N t s x k
      | false => False)
    | _, _ => False)
  | .call { callee := .builtin .clear, args, argTypes } => (match evs fm args.toList, argTypes.toList with
    | some [s], [t] => vcClear P own N t s k
    | _, _ => False)
  | .call { callee := .builtin .delete, args, argTypes } => (match evs fm args.toList, argTypes.toList with
    | some [m, x], t :: _ => vcDelete P own N t m x k
    | _, _ => False)
  | .makeMap t h => (match h with
    | none => ∀ b : Nat, k (.map (some b)) (.map b [] 0 :: own) N
    | some h => evK fm h fun v => (match v, P.underlying t with
      | .int _ _, some (.map _ _) => ∀ b : Nat, k (.map (some b)) (.map b [] 0 :: own) N
      | _, _ => False))
  | .mapUpdate t m key x => evK fm m fun vm => evK fm key fun vk => evK fm x fun vx => vcMapUpdate P own t vm vk vx fun own => k undef own N
  | .insert t m key x => evK fm m fun vm => evK fm key fun vk => evK fm x fun vx => vcMapUpdate P own t vm vk vx fun own => k undef own N
  | .mapEntry t m key => evK fm m fun vm => evK fm key fun vk => vcMapEntry P own N t vm vk k
  | .entryStore _ m s x => evK fm m fun vm => evK fm s fun vs => evK fm x fun vx => vcEntryStore own vm vs vx fun own => k undef own N
  | .range t x => evK fm x fun v => (match v, P.underlying t with
    | .map (some b), some (.map _ _) => vcRng (GN G own N) own N b k
    | _, _ => False)
  | .next x isStr => evK fm x fun v => (match v, isStr with
    | .pointer (some ⟨r, 0, none⟩), false => vcNxt (GN G own N) own N r k
    | _, _ => False)
  | .panic x => evK fm x fun v => (match v with
    | .iface t u => X [{ v := .iface t u, recovered := false }] own N
    | _ => False)
  | _ => False

/-- Bytes made of a text's bytes: they stay where they are. -/
inductive vcMark (own : List Ob) (N : Mp) (A : Option Addr) (n c : Nat) (k : VK) : Prop
  | intro (a : Addr) (cap : Nat) (size : Nat) (xs : List Value) (rest : List Ob) (hA : A = some a) (ht : Take (.sl (some a) cap 5 size xs) own rest) (hk : k (.slice A n c) (.sl (some a) cap 5 size xs :: rest) N)
/-- The bytes of a text, in new memory. -/
def vcStrBytes (own : List Ob) (N : Mp) (e : TypeId) (s : ByteArray) (k : VK) : Prop :=
  match Nat.beq e 5 with
  | true => ∀ b cap : Nat, s.size ≤ cap → k (.slice (some ⟨b, 0, none⟩) s.size cap) (.sl (some ⟨b, 0, none⟩) cap 5 1 (Bs s.data.toList) :: own) N
  | false => False
noncomputable def vcOp (X : XK) (P : Program) (G : Mp) (o : Op) (fm : Fm) (own : List Ob) (N : Mp) (k : VK) : Prop :=
  match isPure o with
  | true => match o with
    | .convert s d x => match P.underlying d with
      | some (.slice e) => evK fm x fun v => match v, P.underlying s, P.underlying e with
        | .string bs, some .string, some (.int .u8) => vcStrBytes own N e bs k
        | .slice A n c, some (.slice _), some (.int .u8) => (match Nat.beq s d with
          | true => vcMark own N A n c k
          | false => False)
        | _, _, _ => False
      | _ => vcPure P (GN G own N) o fm fun v => k v own N
    | _ => vcPure P (GN G own N) o fm fun v => k v own N
  | false => vcEff X P G o fm own N k

/-- The slot that a guard looks at. -/
def guardSlot (ops : List Oper) (j : Nat) : Option Nat := match ops[j]? with
  | some o => o.dst
  | none => none

def putK (dst : Option Tmp) (v : Value) (fm : Fm) (k : Fm → Prop) : Prop := match dst with
  | some d => k ((d, v) :: fm)
  | none => k fm
theorem putK_eq {dst : Option Tmp} {v : Value} {fm : Fm} {k : Fm → Prop} : putK dst v fm k = k (put dst v fm) := by cases dst <;> rfl

noncomputable def vcOpStep (X : XK) (P : Program) (G : Mp) (all : List Oper) (o : Oper) (next : SK) : SK := fun fm own N => match o.guard with
    | none => vcOp X P G o.op fm own N fun v own N => putK o.dst v fm fun fm => next fm own N
    | some (j, want) => match guardSlot all j with
      | some t => match look fm t with
        | some (.bool b) => vcIf b
            (match want with
              | true => setK t (.bool true) fm fun fm => vcOp X P G o.op fm own N fun v own N => putK o.dst v fm fun fm => next fm own N
              | false => setK t (.bool true) fm fun fm => putK o.dst undef fm fun fm => next fm own N)
            (match want with
              | false => setK t (.bool false) fm fun fm => vcOp X P G o.op fm own N fun v own N => putK o.dst v fm fun fm => next fm own N
              | true => setK t (.bool false) fm fun fm => putK o.dst undef fm fun fm => next fm own N)
        | some (.tuple _) => putK o.dst undef fm fun fm => next fm own N
        | _ => False
      | none => False
/-- (Laid by the recursor itself: the kernel then meets what the proofs show.) -/
noncomputable def vcOps (X : XK) (P : Program) (G : Mp) (all : List Oper) (l : List Oper) : SK → SK :=
  List.rec (motive := fun _ => SK → SK) (fun K => K) (fun o _ ih K => vcOpStep X P G all o (ih K)) l

def ifPure (o : Op) (X : Prop) : Prop := match isPure o with
  | true => X
  | false => False
/-- A region whose order is open, and whose operations only read. -/
def vcQuietStep (P : Program) (M : Mp) (all : List Oper) (o : Oper) (next : Fm → Prop) : Fm → Prop := fun fm => match o.guard with
    | none => ifPure o.op <| vcPure P M o.op fm fun v => putK o.dst v fm next
    | some (j, want) => match guardSlot all j with
      | some t => match look fm t with
        | some (.bool b) => vcIf b
            (match want with
              | true => setK t (.bool true) fm fun fm => ifPure o.op <| vcPure P M o.op fm fun v => putK o.dst v fm next
              | false => setK t (.bool true) fm fun fm => putK o.dst undef fm next)
            (match want with
              | false => setK t (.bool false) fm fun fm => ifPure o.op <| vcPure P M o.op fm fun v => putK o.dst v fm next
              | true => setK t (.bool false) fm fun fm => putK o.dst undef fm next)
        | some (.tuple _) => putK o.dst undef fm next
        | _ => False
      | none => False
noncomputable def vcQuiet (P : Program) (M : Mp) (all : List Oper) (l : List Oper) : (Fm → Prop) → Fm → Prop :=
  List.rec (motive := fun _ => (Fm → Prop) → Fm → Prop) (fun K => K) (fun o _ ih K => vcQuietStep P M all o (ih K)) l

/-- A region whose order is open, taken in an order of the prover's: what only reads first, under what does not change while the region runs. -/
def edgeMask (l : List Edge) (m : Nat) : Nat := l.foldl (fun m e => bif Region.binds .any e then m ||| 1 <<< e.on else m) m
/-- What the operations of a mask wait for, from one on downwards. -/
def ancMask (ops : Array Oper) : Nat → Nat → Nat
  | 0, m => m
  | j + 1, m => ancMask ops j (bif m.testBit j then (match ops[j]? with | some o => edgeMask o.after.toList m | none => m) else m)
/-- Does the operation wait for all that came ahead of it? -/
def tightS (ops : Array Oper) (seen : Nat) (i : Nat) : Bool :=
  let m := ancMask ops ops.size (1 <<< i)
  (List.range ops.size).all fun k => Nat.beq k i || m.testBit k || !(seen.testBit k)
/-- What has been listed and does not have to be over ahead of the operation. -/
def aliveS (ops : Array Oper) (seen : Nat) (i k : Nat) : Bool := Nat.blt k ops.size && !(Nat.beq k i) && seen.testBit k && !((ancMask ops ops.size (1 <<< i)).testBit k)
noncomputable def vcMixRun (X : XK) (P : Program) (G : Mp) (al : Nat → Bool) (i : Nat) (o : Oper) (S : Nat → Mp) (next : (Nat → Mp) → SK) : SK := fun fm own N => match isPure o.op with
  | true => vcPure P (S i) o.op fm fun v => putK o.dst v fm fun fm => next S fm own N
  | false => vcEff X P G o.op fm own N fun v own N => ∃ S' : Nat → Mp, (∀ k, al k = true → ∀ w, S' k w → S k w) ∧ (∀ k, Ent (GN G own N) (S' k)) ∧ putK o.dst v fm fun fm => next S' fm own N
/-- One step: the operation is run, or passed over. -/
noncomputable def vcMixStepR (all : List Oper) (i : Nat) (run : Oper → SK) (next : SK) : SK := fun fm own N => match all[i]? with
    | none => False
    | some o => match o.guard with
      | none => run o fm own N
      | some (j, want) => match guardSlot all j with
        | some t => match look fm t with
          | some (.bool b) => vcIf b
              (match want with
                | true => setK t (.bool true) fm fun fm => run o fm own N
                | false => setK t (.bool true) fm fun fm => putK o.dst undef fm fun fm => next fm own N)
              (match want with
                | false => setK t (.bool false) fm fun fm => run o fm own N
                | true => setK t (.bool false) fm fun fm => putK o.dst undef fm fun fm => next fm own N)
          | some (.tuple _) => putK o.dst undef fm fun fm => next fm own N
          | _ => False
        | none => False
noncomputable def vcMixStep (X : XK) (P : Program) (G : Mp) (all : List Oper) (al : Nat → Bool) (i : Nat) (S : Nat → Mp) (next : (Nat → Mp) → SK) : SK := vcMixStepR all i (fun o => vcMixRun X P G al i o S next) (next S)
/-- The same of an operation that may write, be it one that is listed among the pure (bytes of a text, new). -/
noncomputable def vcMixRunE (X : XK) (P : Program) (G : Mp) (al : Nat → Bool) (o : Oper) (S : Nat → Mp) (next : (Nat → Mp) → SK) : SK := fun fm own N =>
  vcOp X P G o.op fm own N fun v own N => ∃ S' : Nat → Mp, (∀ k, al k = true → ∀ w, S' k w → S k w) ∧ (∀ k, Ent (GN G own N) (S' k)) ∧ putK o.dst v fm fun fm => next S' fm own N
noncomputable def vcMixStepE (X : XK) (P : Program) (G : Mp) (all : List Oper) (al : Nat → Bool) (i : Nat) (S : Nat → Mp) (next : (Nat → Mp) → SK) : SK := vcMixStepR all i (fun o => vcMixRunE X P G al o S next) (next S)
/-- An order of a region's operations; where several effects could come next, what follows behind each. -/
inductive OT where
  | nil
  | one (i : Nat) (t : OT)
  | alt (i : Nat) (t u : OT)
  | mem (i : Nat) (t : OT)
def OT.ofList : List Nat → OT
  | [] => .nil
  | i :: r => .one i (OT.ofList r)
def OT.heads : OT → List Nat
  | .nil => []
  | .one i _ => [i]
  | .alt i _ u => i :: u.heads
  | .mem i _ => [i]
def OT.depth : OT → Nat
  | .nil => 0
  | .one _ t => t.depth + 1
  | .alt _ t u => max (t.depth + 1) u.depth
  | .mem _ t => t.depth + 1
noncomputable def vcMix (X : XK) (P : Program) (G : Mp) (all : List Oper) (order : OT) : Nat → (Nat → Mp) → SK → SK :=
  OT.rec (motive := fun _ => Nat → (Nat → Mp) → SK → SK) (fun _ _ K => K) (fun i _ ih seen S K => vcMixStep X P G all (aliveS all.toArray seen i) i S (fun S => ih (seen ||| 1 <<< i) S K))
    (fun i _ _ iht ihu seen S K fm own N => vcMixStepE X P G all (aliveS all.toArray seen i) i S (fun S => iht (seen ||| 1 <<< i) S K) fm own N ∧ ihu seen S K fm own N)
    (fun i _ ih seen S K => vcMixStepE X P G all (aliveS all.toArray seen i) i S (fun S => ih (seen ||| 1 <<< i) S K)) order

def isEffAt (ops : Array Oper) (i : Nat) : Bool := match ops[i]? with
  | some o => !isPure o.op
  | none => false
def mixChk (ops : Array Oper) : OT → Bool → Array Bool → Bool
  | .nil, top, listed => top && (Region.ready .any ops listed).isEmpty
  | .one i t, top, listed => (match top with
      | true => (match isEffAt ops i with
        | false => Region.free .any ops listed i && (Region.ready .any ops listed).contains i
        | true => Region.ready .any ops listed == [i])
      | false => isEffAt ops i) && mixChk ops t true (listed.setIfInBounds i true)
  | .alt i t u, top, listed => (match top with
      | true => Region.ready .any ops listed == i :: u.heads
      | false => true) && mixChk ops t true (listed.setIfInBounds i true) && mixChk ops u false listed
  | .mem i t, top, listed => (match top with
      | true => Region.ready .any ops listed == [i]
      | false => true) && mixChk ops t true (listed.setIfInBounds i true)
def mixOk (ops : Array Oper) (order : OT) : Bool := Nat.ble order.depth ops.size && Region.noSelect ops && mixChk ops order true (Array.replicate ops.size false)

inductive vcDraw (X : XK) (P : Program) (G : Mp) (ops : Array Oper) (K : SK) (fm : Fm) (own : List Ob) (N : Mp) : Prop
  | quiet (h : Region.lexB .any ops = true) (k : vcQuiet P (GN G own N) ops.toList ops.toList (fun fm => K fm own N) fm)
  | mix (order : OT) (S : Nat → Mp) (h : mixOk ops order = true) (hM : ∀ k, Ent (GN G own N) (S k)) (k : vcMix X P G ops.toList order 0 S K fm own N)

/-- One state that stands for another: its slots, its objects, what is known. -/
def fmLe : Fm → Fm → Prop
  | [], _ => True
  | (t, v) :: r, fm => look fm t = some v ∧ fmLe r fm

/-- A loop: what holds at each round's head, by a ghost. -/
inductive vcLoop (C : (Exit → SK) → SK) (Q : Exit → SK) (fm : Fm) (own : List Ob) (N : Mp) : Prop
  | intro (α : Type) (μ : α → Nat) (F : α → Fm) (O : α → List Ob) (M : α → Mp) (R : α → Prop)
    (h0 : ∃ g, R g ∧ fmLe (F g) fm ∧ (∃ rest, Pick (O g) own rest) ∧ Ent N (M g))
    (h : ∀ g, R g → C (fun e fm' own' N' => match e with
      | .normal => ∃ g', R g' ∧ μ g' < μ g ∧ fmLe (F g') fm' ∧ (∃ rest, Pick (O g') own' rest) ∧ Ent N' (M g')
      | e => Q e fm' own' N') (F g) (O g) (M g))

noncomputable def vcRegion (X : XK) (P : Program) (G : Mp) (ops : Array Oper) (draw : Bool) (K : SK) : SK := fun fm own N => match draw with
  | false => vcOps X P G ops.toList ops.toList K fm own N
  | true => vcDraw X P G ops K fm own N
def vcSeqK (next : (Exit → SK) → SK) (Q : Exit → SK) : Exit → SK := fun e fm own N => match e with
  | .normal => next Q fm own N
  | .exit id => Q (.exit id) fm own N
  | .ret => Q .ret fm own N
  | _ => False
def vcBlockK (id : Nat) (Q : Exit → SK) : Exit → SK := fun e fm own N => match e with
  | .exit id' => match Nat.beq id' id with
    | true => Q .normal fm own N
    | false => Q (.exit id') fm own N
  | .normal => Q .normal fm own N
  | .ret => Q .ret fm own N
  | _ => False
def vcCondK (c : Operand) (x y : (Exit → SK) → SK) (Q : Exit → SK) : SK := fun fm own N => match ev fm c with
  | some (.bool b) => vcIf b (x Q fm own N) (y Q fm own N)
  | _ => False
/-- A cut: what holds between two statements, by a ghost. -/
inductive vcCut (A B : (Exit → SK) → SK) (Q : Exit → SK) (fm : Fm) (own : List Ob) (N : Mp) : Prop
  | intro (α : Type) (F : α → Fm) (O : α → List Ob) (M : α → Mp) (R : α → Prop)
    (h1 : A (fun e fm own N => match e with
      | .normal => ∃ g, R g ∧ fmLe (F g) fm ∧ (∃ rest, Pick (O g) own rest) ∧ Ent N (M g)
      | .exit id => Q (.exit id) fm own N
      | .ret => Q .ret fm own N
      | _ => False) fm own N)
    (h2 : ∀ g, R g → B Q (F g) (O g) (M g))
/-- The first region of a piece of code. -/
noncomputable def firstReg (c : Code) : Nat := Code.rec (motive := fun _ => Nat) 0 (fun id _ _ => id + 1) (fun _ _ a b => match a with
    | 0 => b
    | n + 1 => n + 1) (fun _ _ _ a _ => a) (fun _ _ a => a) (fun _ a => a) (fun _ _ _ _ _ _ => 0) (fun _ => 0) (fun _ _ => 0) (fun _ => 0) (fun _ => 0) 0 (fun _ => 0) c
noncomputable def isCut (cuts : List Nat) (b : Code) : Bool := match cuts with
  | [] => false
  | c :: r => (c :: r).any fun n => Nat.beq (n + 1) (firstReg b)
noncomputable def vcSeq (cut : Bool) (A B : (Exit → SK) → SK) (Q : Exit → SK) : SK := match cut with
  | false => A (vcSeqK B Q)
  | true => fun fm own N => vcCut A B Q fm own N
noncomputable def vc (X : XK) (P : Program) (G : Mp) (cuts : List Nat) (c : Code) : (Exit → SK) → SK :=
  Code.rec (motive := fun _ => (Exit → SK) → SK) (fun Q => Q .normal) (fun _ ops draw Q => vcRegion X P G ops draw (Q .normal)) (fun _ b iha ihb Q => vcSeq (isCut cuts b) iha ihb Q) (fun c _ _ ihx ihy Q => vcCondK c ihx ihy Q)
    (fun id _ ih Q => ih (vcBlockK id Q)) (fun _ ih Q fm own N => vcLoop ih Q fm own N) (fun _ _ _ _ _ _ _ _ _ _ => False) (fun id Q => Q (.exit id)) (fun _ _ _ _ _ _ => False) (fun _ _ _ _ _ => False) (fun _ _ _ _ _ => False) (fun Q => Q .ret) (fun _ _ _ _ _ => False) c

def vcResStep (P : Program) (M : Mp) (fm : Fm) (r : ResultVar) (next : (List Value → Prop) → Prop) (k : List Value → Prop) : Prop :=
  match r with
  | .tmp t => match look fm t with
    | some v => next fun vs => k (v :: vs)
    | none => False
  | .cell a t => match look fm a with
    | some v => vcLoad P M t v fun v => next fun vs => k (v :: vs)
    | none => False
noncomputable def vcRes (P : Program) (M : Mp) (fm : Fm) (l : List ResultVar) : (List Value → Prop) → Prop :=
  List.rec (motive := fun _ => (List Value → Prop) → Prop) (fun k => k []) (fun r _ ih k => vcResStep P M fm r ih k) l
def tupleOf : List Value → Value
  | [v] => v
  | vs => .tuple vs.toArray
noncomputable def vcRet (P : Program) (G : Mp) (results : List ResultVar) (Post : Value → List Ob → Mp → Prop) (fm : Fm) (own : List Ob) (N : Mp) : Prop :=
  vcRes P (GN G own N) fm results fun vs => ∃ (own' rest : List Ob) (N' : Mp), Pick own' own rest ∧ (∀ w, N w → Objs rest w → N' w) ∧ Post (tupleOf vs) own' N'
noncomputable def vcFin (P : Program) (G : Mp) (results : List ResultVar) (Post : Value → List Ob → Mp → Prop) : Exit → SK
  | .normal, fm, own, N => vcRet P G results Post fm own N
  | .ret, fm, own, N => vcRet P G results Post fm own N
  | _, _, _, _ => False

def initFm : Nat → List Value → Fm
  | _, [] => []
  | i, v :: r => (i, v) :: initFm (i + 1) r

/-- Every slot that the code writes is one of the frame's. -/
def opsOk (lo n : Nat) (ops : List Oper) : Bool := ops.all fun o => match o.dst with
  | some d => Nat.ble lo d && Nat.blt d n
  | none => true
def codeOk (lo n : Nat) : Code → Bool
  | .region _ ops _ => opsOk lo n ops.toList
  | .seq a b => codeOk lo n a && codeOk lo n b
  | .cond _ a b => codeOk lo n a && codeOk lo n b
  | .block _ c | .loop c | .scope c => codeOk lo n c
  | _ => true
end Go.Proofs.Yticllmnblcjjcaa
end

section
/- The verification conditions suffice. -/
namespace Go.Proofs.Yticllmnblcjjcaa

section
variable {P : Program} {M : Mp}

theorem evK_some {fm : Fm} {x : Operand} {k : Value → Prop} (h : evK fm x k) : ∃ v, ev fm x = some v ∧ k v := by
  unfold evK at h
  split at h
  · rename_i v hv; exact ⟨v, hv, h⟩
  · exact h.elim

theorem partVals_eq {D : Env} {n : Nat} {fm : Fm} {a : Act} (hf : FmOk D n fm a) : ∀ {l : List (Nat × Operand)} {vs : List (Nat × Value)}, partVals fm l = some vs → l.map (fun (i, x) => (i, a.eval x)) = vs
  | [], vs, h => by simpa [partVals] using h
  | (i, x) :: r, vs, h => by
    unfold partVals at h
    split at h
    · rename_i v hv
      split at h
      · rename_i us hus
        cases h
        simp [hf.eval_ hv, partVals_eq hf hus]
      · cases h
    · cases h

theorem setAll_foldl (off : Nat) : ∀ (vs : List Value) (i : Nat) (cs : List Value), setAll cs (off + i) vs = (vs.zipIdx i).foldl (fun cs (c, j) => cs.set (off + j) c) cs
  | [], _, _ => rfl
  | v :: r, i, cs => by
    simp only [setAll, List.zipIdx_cons, List.foldl_cons]
    rw [← setAll_foldl off r (i + 1)]
    rfl
theorem setAll_length : ∀ (vs : List Value) (i : Nat) (cs : List Value), (setAll cs i vs).length = cs.length
  | [], _, _ => rfl
  | v :: r, i, cs => by simp only [setAll]; rw [setAll_length r]; simp

theorem foldl_set (off : Nat) : ∀ (l : List (Value × Nat)) (cs : Array Value), (l.foldl (fun cs (c, j) => cs.setIfInBounds (off + j) c) cs).toList = l.foldl (fun cs (c, j) => cs.set (off + j) c) cs.toList
  | [], _ => rfl
  | (v, j) :: r, cs => by simp only [List.foldl_cons]; rw [foldl_set off r]; simp

theorem fillL_eq (place : Nat → Option (Nat × Nat)) : ∀ (vs : List (Nat × Value)) (cells : Array Value) (cs : List Value), fillL place cells.toList vs = some cs → Instr.fill place cells vs = some cs.toArray
  | [], cells, cs, h => by simp [fillL] at h; subst h; simp [Instr.fill]
  | (i, v) :: r, cells, cs, h => by
    unfold fillL at h
    split at h
    · cases h
    · rename_i off size hp
      split at h
      · rename_i hb
        simp only [Bool.and_eq_true] at hb
        have h1 : v.cells.size = size := Nat.eq_of_beq_eq_true hb.1
        have h2 : off + v.cells.size ≤ cells.size := by simpa using Nat.le_of_ble_eq_true hb.2
        have e : setAll cells.toList off v.cells.toList = (v.cells.zipIdx.foldl (fun cs (c, j) => cs.setIfInBounds (off + j) c) cells).toList := by
          rw [← Array.foldl_toList, Array.toList_zipIdx]
          rw [foldl_set off]
          exact setAll_foldl off v.cells.toList 0 cells.toList
        rw [layL_eq _ _ _ (by simpa using h2), e] at h
        have := fillL_eq place r _ cs h
        simp only [Instr.fill, hp]
        rw [if_neg (by simp [h1]; omega)]
        exact this
      · cases h

theorem fieldSizes_run : ∀ (l : List Field) (pl : List (Nat × Nat)), fieldSizes P l = some pl → ∀ w, (l.mapM (m := Sem) fun f => do pure (f.offset, ← sizeOf f.type)).run P w = .ok pl w
  | [], pl, h, w => by simp [fieldSizes] at h; subst h; rfl
  | f :: r, pl, h, w => by
    unfold fieldSizes at h
    split at h
    · rename_i i hi
      split at h
      · rename_i l hl
        cases h
        have ih := fieldSizes_run r l hl w
        simp only [bind_pure_comp] at ih
        simp [List.mapM_cons, run_size hi, ih]
      · cases h
    · cases h

theorem vcBuild_gives {D : Env} {t : TypeId} {fm : Fm} {n : Nat} {a : Act} (hf : FmOk D n fm a) {parts : Array (Nat × Operand)} {k : Value → Prop} (h : vcBuild P t fm parts.toList k) :
    Gives P M (Instr.build t (parts.map fun (i, x) => (i, a.eval x))) k := by
  unfold vcBuild at h
  split at h
  · rename_i vs hvs
    have hp : (parts.map fun (i, x) => (i, a.eval x)).toList = vs := by
      rw [Array.toList_map]; exact partVals_eq hf hvs
    split at h
    · rename_i i hi
      split at h
      · rename_i z hz
        split at h
        · rename_i fields hu
          split at h
          · rename_i pl hpl
            split at h
            · rename_i cs hcs
              have hk := forced_eq _ _ h
              refine ⟨_, hk, fun w _ => ?_⟩
              have hfill := fillL_eq _ _ _ _ hcs
              have hm : (fields.mapM (m := Sem) fun f => do pure (f.offset, ← sizeOf f.type)).run P w = .ok pl.toArray w := by
                rw [← Array.toArray_toList (xs := fields), List.mapM_toArray]
                simp only [Sem.run_map]
                rw [fieldSizes_run _ _ hpl w]
                simp
              simp only [Instr.build, Sem.run_bind, run_zero hi hz, Result.andThen_ok, run_under hu]
              rw [hm]
              simp only [Result.andThen_ok, hp]
              have : (fun x : Nat => pl.toArray[x]?) = (fun j : Nat => pl[j]?) := by funext j; simp
              rw [this, hfill]
              rfl
            · exact h.elim
          · exact h.elim
        · rename_i _ e hu
          split at h
          · rename_i ie hie
            split at h
            · rename_i cs hcs
              have hk := forced_eq _ _ h
              refine ⟨_, hk, fun w _ => ?_⟩
              have hfill := fillL_eq _ _ _ _ hcs
              simp only [Instr.build, Sem.run_bind, run_zero hi hz, Result.andThen_ok, run_under hu, run_size hie, hp]
              rw [hfill]
              rfl
            · exact h.elim
          · exact h.elim
        · exact h.elim
      · exact h.elim
    · exact h.elim
  · exact h.elim

theorem vcPure_gives {D : Env} (hM : ∃ w, M w) {o : Oper} {fm : Fm} {n : Nat} {a : Act} (hf : FmOk D n fm a) {k : Value → Prop} (h : vcPure P M o.op fm k) :
    ∃ v, k v ∧ ∀ w, M w → (execOp a.eval o).run P w = .ok (.value v) w := by
  have lift : ∀ {s : Sem Value}, Gives P M s k → (execOp a.eval o = do pure (.value (← s))) → ∃ v, k v ∧ ∀ w, M w → (execOp a.eval o).run P w = .ok (.value v) w := by
    rintro s ⟨v, hv, hr⟩ he
    exact ⟨v, hv, fun w hw => by rw [he]; simp [hr w hw]⟩
  unfold vcPure at h
  split at h
  · rename_i x ho
    obtain ⟨v, hv, hk⟩ := evK_some h
    exact ⟨v, hk, fun w _ => by simp [execOp, ho, hf.eval_ hv]⟩
  · rename_i x ho
    obtain ⟨v, hv, hk⟩ := evK_some h
    exact ⟨v, hk, fun w _ => by simp [execOp, ho, hf.eval_ hv]⟩
  · rename_i c x y ho
    obtain ⟨cv, hcv, h⟩ := evK_some h
    obtain ⟨va, hva, h⟩ := evK_some h
    obtain ⟨vb, hvb, h⟩ := evK_some h
    cases cv with
    | bool t =>
      cases t with
      | true => exact ⟨va, h, fun w _ => by simp [execOp, ho, hf.eval_ hcv, hf.eval_ hva, asBool]⟩
      | false => exact ⟨vb, h, fun w _ => by simp [execOp, ho, hf.eval_ hcv, hf.eval_ hvb, asBool]⟩
    | _ => exact h.elim
  · rename_i t x ho
    obtain ⟨v, hv, h⟩ := evK_some h
    exact lift (vcLoad_gives h) (by simp [execOp, ho, hf.eval_ hv])
  · rename_i x ho
    obtain ⟨v, hv, h⟩ := evK_some h
    split at h
    · exact ⟨_, h, fun w _ => by simp [execOp, ho, hf.eval_ hv]⟩
    · exact ⟨_, h, fun w _ => by simp [execOp, ho, hf.eval_ hv]⟩
    · exact h.elim
  · rename_i op t x y yt ho
    obtain ⟨vx, hvx, h⟩ := evK_some h
    obtain ⟨vy, hvy, h⟩ := evK_some h
    exact lift (vcBin_gives h x y) (by simp [execOp, ho, hf.eval_ hvx, hf.eval_ hvy])
  · rename_i op t x ho
    obtain ⟨v, hv, h⟩ := evK_some h
    exact lift (vcUn_gives h) (by simp [execOp, ho, hf.eval_ hv])
  · rename_i s d x ho
    obtain ⟨v, hv, h⟩ := evK_some h
    exact lift (vcConv_gives h) (by simp [execOp, ho, hf.eval_ hv])
  · rename_i t x lo hi mx ho
    exact lift (vcSlice_gives hf h) (by simp [execOp, ho])
  · rename_i t x f ho
    obtain ⟨v, hv, h⟩ := evK_some h
    exact lift (vcFieldAddr_gives h) (by simp [execOp, ho, hf.eval_ hv])
  · rename_i t x f ho
    obtain ⟨v, hv, h⟩ := evK_some h
    exact lift (vcField_gives h) (by simp [execOp, ho, hf.eval_ hv])
  · rename_i t x i ho
    obtain ⟨vx, hvx, h⟩ := evK_some h
    obtain ⟨vi, hvi, h⟩ := evK_some h
    exact lift (vcIndexAddr_gives hM h) (by simp [execOp, ho, hf.eval_ hvx, hf.eval_ hvi])
  · rename_i t x i ho
    obtain ⟨vx, hvx, h⟩ := evK_some h
    obtain ⟨vi, hvi, h⟩ := evK_some h
    exact lift (vcIndex_gives h) (by simp [execOp, ho, hf.eval_ hvx, hf.eval_ hvi])
  · rename_i t x i ok ho
    obtain ⟨vx, hvx, h⟩ := evK_some h
    obtain ⟨vi, hvi, h⟩ := evK_some h
    exact lift (vcLookup_gives h) (by simp [execOp, ho, hf.eval_ hvx, hf.eval_ hvi])
  · rename_i x ho
    obtain ⟨v, hv, h⟩ := evK_some h
    split at h
    · exact lift (vcEnt_gives h) (by simp [execOp, ho, hf.eval_ hv])
    · exact h.elim
  · rename_i x i ho
    obtain ⟨v, hv, h⟩ := evK_some h
    split at h
    · split at h
      · rename_i u hu
        exact lift (.pure (P := P) (M := M) h) (by simp [execOp, ho, hf.eval_ hv, Instr.extract, hu])
      · exact h.elim
    · exact h.elim
  · rename_i t parts ho
    exact lift (vcBuild_gives hf h) (by simp [execOp, ho])
  · rename_i f first cap ho
    split at h
    · rename_i u hu
      split at h
      · rename_i c hc
        refine ⟨_, h, fun w _ => ?_⟩
        have e1 := hf.evals hu
        have e2 := hf.evals hc
        have e1' : first.map a.eval = u.toArray := by apply Array.ext'; simpa using e1
        have e2' : cap.map a.eval = c.toArray := by apply Array.ext'; simpa using e2
        simp [execOp, ho, Instr.makeFunc, e1', e2']
      · exact h.elim
    · exact h.elim
  · rename_i t x ho
    obtain ⟨v, hv, h⟩ := evK_some h
    split at h
    · rename_i A n' _
      split at h
      · rename_i m _ hu
        refine ⟨_, h.2.out hM, fun w _ => ?_⟩
        have := h.1
        simp only [execOp, ho, hf.eval_ hv, Instr.arrayAt, Sem.run_bind, run_under hu, Result.andThen_ok]
        rw [if_neg (by omega)]
        simp
      · exact h.elim
    · exact h.elim
  · rename_i t x ho
    obtain ⟨v, hv, h⟩ := evK_some h
    split at h
    · exact h.elim
    · rename_i d hn hu
      refine ⟨_, h, fun w _ => ?_⟩
      simp only [execOp, ho, hf.eval_ hv, Instr.makeInterface, Sem.run_bind, run_under hu, Result.andThen_ok]
      cases d <;> first | exact (hn _ rfl).elim | rfl
    · exact h.elim
  · rename_i x xt t ok ho
    have h0 := evK_some h
    clear h
    obtain ⟨v, hv, h⟩ := h0
    cases ok with
    | true => cases v <;> exact h.elim
    | false =>
      cases v with
      | iface u v' =>
        simp only at h
        split at h
        · exact h.elim
        · rename_i d hn hu
          split at h
          · rename_i hb
            obtain rfl : u = t := Nat.eq_of_beq_eq_true hb
            refine ⟨_, h, fun w _ => ?_⟩
            simp only [execOp, ho, hf.eval_ hv, Instr.typeAssert, Sem.run_bind, run_under hu, Result.andThen_ok]
            cases d <;> first | exact (hn _ rfl).elim | simp
          · exact h.elim
        · exact h.elim
      | _ => exact h.elim
  · rename_i args argTypes ho
    split at h
    · rename_i x t e1 e2
      obtain ⟨v, hv, h⟩ := evK_some h
      have e1' : args = #[x] := by apply Array.ext'; simpa using e1
      have e2' : argTypes = #[t] := by apply Array.ext'; simpa using e2
      subst e1'; subst e2'
      obtain ⟨u, hu, hr⟩ := vcLen_gives (M := M) h o.type
      exact ⟨u, hu, fun w hw => by simp [execOp, ho, resolve, invoke, builtin, hf.eval_ hv, hr w hw]⟩
    · exact h.elim
  · rename_i args argTypes ho
    split at h
    · rename_i x t e1 e2
      obtain ⟨v, hv, h⟩ := evK_some h
      have e1' : args = #[x] := by apply Array.ext'; simpa using e1
      have e2' : argTypes = #[t] := by apply Array.ext'; simpa using e2
      subst e1'; subst e2'
      obtain ⟨u, hu, hr⟩ := vcCap_gives (M := M) h o.type
      exact ⟨u, hu, fun w hw => by simp [execOp, ho, resolve, invoke, builtin, hf.eval_ hv, hr w hw]⟩
    · exact h.elim
  · rename_i args _ ho
    split at h
    · rename_i kd x r he
      split at h
      · rename_i m hm
        have e := hf.evals he
        refine ⟨_, h, fun w _ => ?_⟩
        simp [execOp, ho, resolve, invoke, builtin, Builtin.min_, e, foldMin_run r x m hm w]
      · exact h.elim
    · exact h.elim
  · rename_i args _ ho
    split at h
    · rename_i kd x r he
      split at h
      · rename_i m hm
        have e := hf.evals he
        refine ⟨_, h, fun w _ => ?_⟩
        simp [execOp, ho, resolve, invoke, builtin, Builtin.max_, e, foldMax_run r x m hm w]
      · exact h.elim
    · exact h.elim
  · exact h.elim

/-! ### The code -/
theorem Oper.wp_of_run {o : Oper} {a : Act} {w w' : World} {v : Value} {next : Act → World → Prop} {Q : Exit → Act → World → Prop}
    (h : (execOp a.eval o).run P w = .ok (.value v) w') (k : next (a.put o.dst v) w') : o.wp P a w next Q := by
  unfold Oper.wp; rw [h]; exact k
theorem Oper.wp_of_skip {o : Oper} {a : Act} {w w' : World} {next : Act → World → Prop} {Q : Exit → Act → World → Prop}
    (h : (execOp a.eval o).run P w = .ok .skip w') (k : next (a.put o.dst undef) w') : o.wp P a w next Q := by
  unfold Oper.wp; rw [h]; exact k

/-- What an operation owes where the call stands. -/
def OpDoes (X : XK) (P : Program) (C : Ctx) (o : Oper) (a : Act) (w : World) (k : VK) : Prop :=
  ∀ (next : Act → World → Prop) (Q : Exit → Act → World → Prop), (∀ v own N w', k v own N → C.inv w' own N → next (a.put o.dst v) w') → (∀ c own N w', X c own N → C.inv w' own N → Q (.panic c) a w') → o.wp P a w next Q

theorem vcNew_does {X : XK} {C : Ctx} {o : Oper} {a : Act} {w : World} {own : List Ob} {N : Mp} {e : TypeId} {cs : List Value} {k : VK} (hw : C.inv w own N) (h : vcNew own N e cs k)
    (hr : (execOp a.eval o).run P w = .ok (.value (.pointer (some ⟨w.heap.size, 0, none⟩))) (w.alloc (.cells cs.toArray e))) : OpDoes X P C o a w k := by
  intro next Q hk _
  have h := forced_eq _ _ h w.heap.size
  refine Oper.wp_of_run hr (hk _ _ _ _ h ?_)
  refine Inv.alloc hw _ _ (by simp [Ob.blks]) ⟨.cells cs.toArray e, heap_alloc_new w _, [], [], [], (0, 0), rfl, by simp, by simp, by simp⟩

theorem newVar_run (e : TypeId) (v : Value) (w : World) : (newVar e v).run P w = .ok ⟨w.heap.size, 0, none⟩ (w.alloc (.cells v.cells e)) := rfl

theorem vcStore1_does {C : Ctx} {w : World} {own : List Ob} {N : Mp} {ad : Addr} {v : Value} {k : List Ob → Prop} (hw : C.inv w own N) (h : vcStore1 own ad v k) :
    ∃ own', k own' ∧ (store ad v).run P w = .ok () (w.setCell ad v) ∧ C.inv (w.setCell ad v) own' N := by
  obtain ⟨o, rest, i, ht, hb, hi, hv, hk⟩ := h
  obtain ⟨b, hbase, rfl⟩ := hb w hw.objs
  have hw' : Inv C.w0 (blksOf C.A0) w (o :: rest) N := hw.take_ ht
  have ho := hw'.objs o (List.mem_cons_self ..)
  -- the block of the object
  have key : ∃ bb off ty xs m x, b = ⟨bb, off, none⟩ ∧ o.blks = [bb] ∧ o.cells = xs ∧ w.heap[bb]? = some x ∧ TailObj off ty xs m x ∧
      ∀ w2 : World, (∃ y, w2.heap[bb]? = some y ∧ TailObj off ty (xs.set i v) m y) → (o.set i v).is w2 := by
    cases o with
    | row bb ty xs m =>
      obtain ⟨x, hx, hr⟩ := ho
      simp only [Ob.base, Option.some.injEq] at hbase
      exact ⟨bb, 0, ty, xs, m, x, hbase.symm, rfl, rfl, hx, hr, fun w2 h => h⟩
    | sl A cap ty size xs =>
      simp only [Ob.base] at hbase
      subst hbase
      obtain ⟨h2, x, hx, hr⟩ := ho
      obtain ⟨bb, off, spot⟩ := b
      simp only at h2
      subst h2
      exact ⟨bb, off, ty, xs, _, x, rfl, rfl, rfl, hx, hr, fun w2 h => ⟨rfl, h⟩⟩
    | map b l c => simp [Ob.base] at hbase
    | iter b m s e c => simp [Ob.base] at hbase
  obtain ⟨bb, off, ty, xs, m, x, rfl, hblk, hcells, hx, ⟨pre, sp, post, fz, hpre, hlen, rfl, hfz⟩, hset⟩ := key
  rw [hcells] at hi
  have hadd : (⟨bb, off, none⟩ : Addr).add i = ⟨bb, off + i, none⟩ := by
    unfold Addr.add; split <;> simp_all
  rw [hadd]
  have hcell : w.cell? ⟨bb, off + i, none⟩ = some xs[i] := by
    simp only [World.cell?, hx, Option.isSome_none, Bool.false_eq_true, if_false, List.getElem?_toArray]
    rw [List.getElem?_append_right (by omega), hpre, Nat.add_sub_cancel_left, List.getElem?_append_left hi]
    exact List.getElem?_eq_getElem hi
  have hfroz : w.frozen? ⟨bb, off + i, none⟩ = false := by
    have : ¬ (fz.1 ≤ off + i ∧ off + i < fz.2) := by rcases hfz with h | h <;> omega
    simp only [World.frozen?, hx]
    simpa using this
  have hone : v.oneCell' = true := by cases v <;> first | rfl | cases hv
  refine ⟨_, hk, by rw [run_store _ _ _ _ _ hone, hcell]; simp [hfroz], ?_⟩
  refine Inv.write hw' (by cases o with
    | sl A cap ty size xs => cases A <;> rfl
    | _ => rfl) rfl rfl rfl (by simp [World.setCell]) (fun j hj => ?_) ?_
  · rw [hblk] at hj
    exact RowKit.Below.heap_setCell w _ v j (by simpa using hj)
  · refine hset _ ⟨.cells (pre ++ ((xs.set i v) ++ (sp ++ post))).toArray ty fz, ?_, pre, sp, post, fz, hpre, by simpa using hlen, rfl, hfz⟩
    simp only [World.setCell, Array.getElem?_modify, hx, if_true, Option.map_some]
    congr 2
    apply Array.ext'
    subst hpre
    simp [hi]

theorem setAll_spl : ∀ (vs xs : List Value) (i : Nat), i + vs.length ≤ xs.length → setAll xs i vs = spl xs i vs
  | [], xs, i, _ => by simp [setAll, spl]
  | v :: r, xs, i, h => by
    simp only [List.length_cons] at h
    rw [setAll, setAll_spl r (xs.set i v) (i + 1) (by simp; omega)]
    unfold spl
    have e1 : (xs.set i v).take (i + 1) = xs.take i ++ [v] := by
      rw [List.take_succ_eq_append_getElem (by simp; omega), List.take_set_of_le (Nat.le_refl _)]
      simp
    have e2 : (xs.set i v).drop (i + 1 + r.length) = xs.drop (i + (v :: r).length) := by
      rw [List.drop_set, if_pos (by omega)]
      congr 1
      simp; omega
    rw [e1, e2]; simp

theorem storeObj_does {C : Ctx} {N : Mp} {a : Addr} {rest : List Ob} : ∀ (vs : List Value) (j i : Nat) {o : Ob} {w : World}, C.inv w (o :: rest) N → (∃ b, o.base = some b ∧ a = b.add i) → i + j + vs.length ≤ o.cells.length → (∀ v ∈ vs, oneCell v = true) →
    ∃ o' w', (storeCells a vs j).run P w = .ok () w' ∧ C.inv w' (o' :: rest) N ∧ o' = (match o with
      | .row b ty xs m => .row b ty (setAll xs (i + j) vs) m
      | .sl A cap ty size xs => .sl A cap ty size (setAll xs (i + j) vs)
      | .map b l c => .map b l c
      | .iter b m s e c => .iter b m s e c)
  | [], j, i, o, w, hw, _, _, _ => ⟨o, w, rfl, hw, by cases o <;> rfl⟩
  | v :: r, j, i, o, w, hw, hb, hl, h1 => by
    simp only [List.length_cons] at hl
    obtain ⟨b, hb, rfl⟩ := hb
    have hadd : (b.add i).add j = b.add (i + j) := by
      unfold Addr.add
      by_cases ho : i = 0 <;> by_cases hi : j = 0 <;> simp [ho, hi, Nat.add_assoc]
    obtain ⟨own1, he1, hr, hw1⟩ := vcStore1_does (P := P) (k := fun own' => own' = o.set (i + j) v :: rest) (ad := (b.add i).add j) (v := v) hw
      ⟨o, rest, i + j, .here, fun _ _ => ⟨b, hb, hadd⟩, by omega, h1 v (List.mem_cons_self ..), rfl⟩
    subst he1
    have hb' : (o.set (i + j) v).base = some b := by cases o <;> exact hb
    have hc' : (o.set (i + j) v).cells.length = o.cells.length := by cases o <;> simp [Ob.set, Ob.cells]
    obtain ⟨o', w2, hr2, hw2, he2⟩ := storeObj_does r (j + 1) i hw1 ⟨b, hb', rfl⟩ (by rw [hc']; omega) (fun u hu => h1 u (List.mem_cons_of_mem _ hu))
    refine ⟨o', w2, by simp only [storeCells, Sem.run_bind, hr, Result.andThen_ok, hr2], hw2, ?_⟩
    rw [he2]
    cases o <;> simp [Ob.set, setAll, Nat.add_assoc]

theorem vcStoreN_does {C : Ctx} {N : Mp} {ad : Addr} {vs : List Value} {w : World} {own : List Ob} {k : List Ob → Prop} (hw : C.inv w own N) (h : vcStoreN own ad vs k) :
    ∃ own' w', k own' ∧ (storeCells ad vs 0).run P w = .ok () w' ∧ C.inv w' own' N := by
  obtain ⟨o, rest, i, ht, hb, hi, h1, hk⟩ := h
  have hb := hb w hw.objs
  have hw1 : C.inv w (o :: rest) N := hw.take_ ht
  obtain ⟨o', w', hr, hw', he⟩ := storeObj_does (P := P) vs 0 i hw1 hb (by omega) h1
  refine ⟨_, w', hk, hr, ?_⟩
  have : o' = o.setL i vs := by
    rw [he]
    cases o with
    | row b ty xs m => simp only [Ob.setL, Nat.add_zero]; rw [setAll_spl vs xs i hi]
    | sl A cap ty size xs => simp only [Ob.setL, Nat.add_zero]; rw [setAll_spl vs xs i hi]
    | map b l c => rfl
    | iter b m s e c => rfl
  rw [← this]; exact hw'

theorem vcStore_does {X : XK} {C : Ctx} {o : Oper} {a : Act} {w : World} {own : List Ob} {N : Mp} {t : TypeId} {x v : Value} {k : List Ob → Prop} (hw : C.inv w own N) (h : vcStore P own t x v k)
    (he : execOp a.eval o = do Instr.storeAt t x v; pure .skip) : OpDoes X P C o a w (fun u own' N' => u = undef ∧ N' = N ∧ k own') := by
  intro next Q hk _
  unfold vcStore at h
  split at h
  · rename_i ad
    split at h
    · rename_i i hi
      have fin : ∀ own' w', k own' → (storeCells ad (cellsL v) 0).run P w = .ok () w' → C.inv w' own' N → v.cells.size = i.size → o.wp P a w next Q := by
        intro own' w' hk' hr hw' hsz
        refine Oper.wp_of_skip (w' := w') ?_ (hk _ _ _ _ ⟨rfl, rfl, hk'⟩ hw')
        rw [he]
        simp only [Instr.storeAt, Instr.sureAddr, Sem.run_bind, Sem.run_pure, Result.andThen_ok, storeVar, run_size hi, hsz]
        rw [if_neg (by simp)]
        rw [← cellsL_eq, hr]
        rfl
      split at h
      · rename_i hb
        split at h
        · rename_i u hu
          obtain ⟨own', hk', hr, hw'⟩ := vcStore1_does (P := P) hw h
          refine fin own' _ hk' (by rw [hu]; simp only [storeCells, Sem.run_bind, hr, Result.andThen_ok]; rfl) hw' ?_
          rw [Nat.eq_of_beq_eq_true hb]
          have := congrArg List.length hu
          rw [cellsL_eq] at this
          simpa using this
        · exact h.elim
      · obtain ⟨hl, h⟩ := h
        obtain ⟨own', w', hk', hr, hw'⟩ := vcStoreN_does (P := P) hw h
        refine fin own' w' hk' hr hw' ?_
        rw [cellsL_eq] at hl
        simpa using hl
    · exact h.elim
  · exact h.elim

theorem zerosL_eq (n size : Nat) (z : Array Value) (hz : z.size = size) : ((Array.range (n * size)).map (fun i => z[i % z.size]!)).toList = zerosL n z.toList := by
  induction n with
  | zero => simp [zerosL]
  | succ n ih =>
    have e1 : zerosL (n + 1) z.toList = zerosL n z.toList ++ z.toList := by
      unfold zerosL
      rw [List.replicate_succ', List.flatten_append]
      simp
    rw [e1, ← ih, Nat.succ_mul]
    apply List.ext_getElem
    · simp [hz]
    · intro i h1 h2
      simp only [Array.toList_map, List.getElem_map, Array.toList_range, List.getElem_range] at *
      rw [List.getElem_append]
      split
      · simp
      · rename_i hlt
        simp only [List.length_map, List.length_range] at hlt h1
        simp only [List.length_map, List.length_range, Array.getElem_toList]
        have hi : i < n * size + size := by simpa using h1
        have : i % z.size = i - n * size := by
          rw [hz]
          have : i = (i - n * size) + size * n := by rw [Nat.mul_comm size n]; omega
          rw [this, Nat.add_mul_mod_self_left, Nat.mod_eq_of_lt (by omega)]
          rw [Nat.mul_comm size n]; omega
        rw [this]
        rw [getElem!_pos z (i - n * size) (by omega)]

theorem vcMakeSlice_does {X : XK} {C : Ctx} {o : Oper} {a : Act} {w : World} {own : List Ob} {N : Mp} {t : TypeId} {l c : Value} {k : VK} (hw : C.inv w own N) (h : vcMakeSlice P own N t l c k)
    (he : execOp a.eval o = do pure (.value (← Instr.makeSlice t l c))) : OpDoes X P C o a w k := by
  intro next Q hk _
  unfold vcMakeSlice at h
  split at h
  · rename_i kl l kc c
    split at h
    · rename_i e hu
      split at h
      · rename_i i hi
        split at h
        · rename_i z hz
          split at h
          case h_2 => exact h.elim
          rename_i hbb
          simp only [Bool.and_eq_true] at hbb
          obtain ⟨hb1, hb2⟩ := hbb
          rw [natK_eq, natK_eq] at h
          have h := forced_eq _ _ h
          obtain ⟨⟨h0, h1, h2, h3⟩, h⟩ := h
          have hsz : z.cells.size = i.size := Nat.eq_of_beq_eq_true hb1
          have hpos : 0 < i.size := by simpa using hb2
          have wl : IntKind.i64.wrap l = l := wrap_in .i64 l (by simp [IntKind.min, IntKind.signed, IntKind.bits]; omega) (by simp [IntKind.max, IntKind.signed, IntKind.bits]; omega)
          have wc : IntKind.i64.wrap c = c := wrap_in .i64 c (by simp [IntKind.min, IntKind.signed, IntKind.bits]; omega) (by simp [IntKind.max, IntKind.signed, IntKind.bits]; omega)
          let cells : Array Value := (Array.range (c.toNat * i.size)).map (fun j => z.cells[j % z.cells.size]!)
          have hrun : (execOp a.eval o).run P w = .ok (.value (.slice (some ⟨w.heap.size, 0, none⟩) l.toNat c.toNat)) (w.alloc (.cells cells e)) := by
            rw [he]
            simp only [Instr.makeSlice, Sem.run_bind, run_under hu, Result.andThen_ok, asInt, asIntOf, Sem.run_pure, run_info hi, wl, wc]
            rw [if_neg (by simp; omega)]
            simp only [Sem.run_bind, run_askRoom, Result.andThen_ok, run_size hi]
            by_cases hc0 : c.toNat * i.size = 0
            · have : c.toNat = 0 := by
                rcases Nat.mul_eq_zero.1 hc0 with h' | h'
                · exact h'
                · omega
              have e0 : cells = (Array.range 0).map (fun j => (#[] : Array Value)[j % (#[] : Array Value).size]!) := by simp [cells, hc0]
              rw [e0]
              simp only [hc0, if_true]
              rfl
            · rw [if_neg hc0]
              simp only [Sem.run_bind, run_zero hi hz, Result.andThen_ok, Sem.run_pure]
              rfl
          refine Oper.wp_of_run hrun (hk _ _ _ _ (h w.heap.size) ?_)
          refine Inv.alloc hw _ _ (by simp [Ob.blks]) (Ob.sl_new (sp := zerosL (c.toNat - l.toNat) (cellsL z)) (fz := (0, 0)) ?_ ((heap_alloc_new w _).trans (congrArg some ?_)) (by simp))
          · simp [zerosL, cellsL_eq, hsz]
            rw [← Nat.add_mul]
            congr 1
            omega
          · congr 1
            apply Array.ext'
            rw [show cells.toList = zerosL c.toNat z.cells.toList from zerosL_eq _ _ _ hsz, cellsL_eq]
            simp only [zerosL]
            rw [← List.flatten_append, List.replicate_append_replicate]
            congr 2
            omega
        · exact h.elim
      · exact h.elim
    · exact h.elim
  · exact h.elim

theorem vcBuildSlice_does {X : XK} {D : Env} {C : Ctx} {o : Oper} {a : Act} {w : World} {own : List Ob} {N : Mp} {t : TypeId} {len : Nat} {fm : Fm} {n : Nat} (hf : FmOk D n fm a) {parts : Array (Nat × Operand)} {k : VK} (hw : C.inv w own N) (h : vcBuildSlice P own N t len fm parts.toList k)
    (he : execOp a.eval o = do pure (.value (← Instr.buildSlice t len (parts.map fun (i, x) => (i, a.eval x))))) : OpDoes X P C o a w k := by
  intro next Q hk _
  unfold vcBuildSlice at h
  split at h
  · rename_i vs hvs
    have hp : (parts.map fun (i, x) => (i, a.eval x)).toList = vs := by
      rw [Array.toList_map]; exact partVals_eq hf hvs
    split at h
    · rename_i e hu
      split at h
      · rename_i i hi
        split at h
        · rename_i z hz
          split at h
          · rename_i cs hcs
            split at h
            case h_2 => exact h.elim
            rename_i hbb
            simp only [Bool.and_eq_true] at hbb
            obtain ⟨⟨hb0, hb1⟩, hb2⟩ := hbb
            rw [natK_eq] at h
            have hsz : z.cells.size = i.size := Nat.eq_of_beq_eq_true hb1
            have hpos : 0 < i.size := by simpa using hb2
            have hle : len * i.size ≤ 16777216 := Nat.le_of_ble_eq_true hb0
            have h := forced_eq _ _ h w.heap.size
            let zc : Array Value := (Array.range (len * i.size)).map (fun j => z.cells[j % z.cells.size]!)
            have hzc : zc.toList = zerosL len (cellsL z) := by rw [cellsL_eq]; exact zerosL_eq _ _ _ hsz
            have hlen : cs.length = len * i.size := by
              have key : ∀ (vs : List (Nat × Value)) (x y : List Value), fillL (fun j => some (j * i.size, i.size)) x vs = some y → y.length = x.length := by
                intro vs
                induction vs with
                | nil => intro x y hxy; simp [fillL] at hxy; subst hxy; rfl
                | cons v r ih =>
                  intro x y hxy
                  unfold fillL at hxy
                  split at hxy
                  · cases hxy
                  · split at hxy
                    · rw [ih _ _ hxy, layL_length]
                    · cases hxy
              rw [key _ _ _ hcs, ← hzc]
              simp [zc]
            rw [← hzc] at hcs
            have hfill := fillL_eq _ _ _ _ hcs
            have hrun : (execOp a.eval o).run P w = .ok (.value (.slice (some ⟨w.heap.size, 0, none⟩) len len)) (w.alloc (.cells cs.toArray e)) := by
              rw [he]
              simp only [Instr.buildSlice, Sem.run_bind, run_under hu, Result.andThen_ok, run_size hi]
              rw [if_neg (by omega)]
              by_cases h0 : len * i.size = 0
              · simp only [h0, if_true, Sem.run_bind, Sem.run_pure, Result.andThen_ok, hp]
                have : zc = (Array.range 0).map (fun j => (#[] : Array Value)[j % (#[] : Array Value).size]!) := by simp [zc, h0]
                rw [this] at hfill
                simp only [hfill]
                rfl
              · rw [if_neg h0]
                simp only [Sem.run_bind, run_zero hi hz, Result.andThen_ok, Sem.run_pure, hp]
                simp only [zc] at hfill
                simp only [hfill]
                rfl
            refine Oper.wp_of_run hrun (hk _ _ _ _ h ?_)
            exact Inv.alloc hw _ _ (by simp [Ob.blks]) ⟨rfl, .cells cs.toArray e, heap_alloc_new w _, [], [], [], (0, 0), rfl, by simpa using hlen, by simp, by simp⟩
          · exact h.elim
        · exact h.elim
      · exact h.elim
    · exact h.elim
  · exact h.elim
end
end Go.Proofs.Yticllmnblcjjcaa
end
