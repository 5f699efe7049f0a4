/- The memory side of this seat's proofs: objects that a call may write, what it only reads, and what a call leaves. No program in sight. -/
import Derived.WalkKit
import Derived.Deep.Quiet
import Derived.OrdersHeld
namespace Go.Proofs.Yticllmnblcjjcaa

/-- A predicate on memory. -/
abbrev Mp := World → Prop
def MT : Mp := fun _ => True
def MpAnd (M N : Mp) : Mp := fun w => M w ∧ N w
def Ent (M R : Mp) : Prop := ∀ w, M w → R w

/-- The cells of a row that may have more room behind it (bytes may bear the mark of a text behind them). -/
def TailObj (off : Nat) (ty : TypeId) (xs : List Value) (m : Nat) (o : Obj) : Prop :=
  ∃ pre sp post : List Value, ∃ fz : Nat × Nat, pre.length = off ∧ xs.length + sp.length = m ∧ o = .cells (pre ++ (xs ++ (sp ++ post))).toArray ty fz ∧ (fz.1 = fz.2 ∨ (off + m ≤ fz.1 ∧ ty = 5))
abbrev RowObj (ty : TypeId) (xs : List Value) (m : Nat) (o : Obj) : Prop := TailObj 0 ty xs m o
theorem RowObj.new {ty : TypeId} {xs sp : List Value} {m : Nat} {fz : Nat × Nat} (h : xs.length + sp.length = m) (hf : fz.1 = fz.2 ∨ (m ≤ fz.1 ∧ ty = 5)) : RowObj ty xs m (.cells (xs ++ sp).toArray ty fz) :=
  ⟨[], sp, [], fz, rfl, h, by simp, hf.imp id fun h => ⟨by omega, h.2⟩⟩

/-- An object that the call may write: a block known by its first cells; a slice into a block of its own (up to what it may grow to), or nil; a map. -/
inductive Ob where
  | row (b : Nat) (ty : TypeId) (xs : List Value) (m : Nat)
  | sl (A : Option Addr) (cap : Nat) (ty : TypeId) (size : Nat) (xs : List Value)
  | map (b : Nat) (l : List (Value × Value × Nat)) (clock : Nat)
  | iter (b m since : Nat) (seen : List Nat) (last : Nat)

def Ob.blks : Ob → List Nat
  | .row b _ _ _ => [b]
  | .sl (some a) _ _ _ _ => [a.block]
  | .sl none _ _ _ _ => []
  | .map b _ _ => [b]
  | .iter b _ _ _ _ => [b]

/-- A map's object: its entries in the order in which they were stored, each born at its own time. -/
def MapObj (l : List (Value × Value × Nat)) (clock : Nat) (o : Obj) : Prop :=
  ∃ es : Array MapEntry, o = .map es clock ∧ es.toList.map (fun e => (e.key, e.val, e.born)) = l ∧ (∀ e ∈ l, e.2.2 < clock) ∧ (l.map (·.2.2)).Nodup

def Ob.is (w : World) : Ob → Prop
  | .row b ty xs m => ∃ o, w.heap[b]? = some o ∧ RowObj ty xs m o
  | .sl none cap _ _ xs => cap = 0 ∧ xs = []
  | .sl (some a) cap ty size xs => a.spot = none ∧ ∃ o, w.heap[a.block]? = some o ∧ TailObj a.off ty xs (cap * size) o
  | .map b l clock => ∃ o, w.heap[b]? = some o ∧ MapObj l clock o
  | .iter b m since seen last => w.heap[b]? = some (.mapIter (some m) since seen.toArray last)

def blksOf (l : List Ob) : List Nat := l.flatMap Ob.blks
def Objs (own : List Ob) : Mp := fun w => ∀ o ∈ own, o.is w

/-- What may have changed from w to w': the blocks in S and those that are new. -/
structure Fr (w w' : World) (S : List Nat) : Prop where
  os : w'.os = w.os
  tape : w'.tape = w.tape
  output : w'.output = w.output
  size : w.heap.size ≤ w'.heap.size
  same : ∀ i, i < w.heap.size → i ∉ S → w'.heap[i]? = w.heap[i]?

theorem Fr.refl (w : World) (S : List Nat) : Fr w w S := ⟨rfl, rfl, rfl, Nat.le_refl _, fun _ _ _ => rfl⟩
theorem Fr.trans {a b c : World} {S T U : List Nat} (h : Fr a b S) (k : Fr b c T) (hS : ∀ i ∈ S, i ∈ U) (hT : ∀ i ∈ T, i < a.heap.size → i ∈ U) : Fr a c U :=
  ⟨k.os.trans h.os, k.tape.trans h.tape, k.output.trans h.output, Nat.le_trans h.size k.size, fun i hi hU =>
    (k.same i (Nat.lt_of_lt_of_le hi h.size) (fun ht => hU (hT i ht hi))).trans (h.same i hi (fun hs => hU (hS i hs)))⟩
theorem Fr.mono {a b : World} {S T : List Nat} (h : Fr a b S) (hS : ∀ i ∈ S, i ∈ T) : Fr a b T :=
  ⟨h.os, h.tape, h.output, h.size, fun i hi hT => h.same i hi (fun hs => hT (hS i hs))⟩
theorem Fr.below {w w' : World} (h : Fr w w' []) : RowKit.Below w.heap.size w w' :=
  ⟨h.os, h.tape, h.output, h.size, fun k hk => h.same k hk (by simp)⟩

/-- Where a call begins: the objects that it may write, and what it may read besides. -/
structure Entry (w : World) (own : List Ob) (G : Mp) : Prop where
  objs : Objs own w
  nodup : (blksOf own).Nodup
  pers : ∀ w', Fr w w' (blksOf own) → G w'

/-- Where a call stands: begun at w0 with the blocks A0. -/
structure Inv (w0 : World) (A0 : List Nat) (w : World) (own : List Ob) (N : Mp) : Prop where
  objs : Objs own w
  nodup : (blksOf own).Nodup
  fr : Fr w0 w A0
  from_ : ∀ b ∈ blksOf own, b ∈ A0 ∨ w0.heap.size ≤ b
  stable : ∀ w' : World, w.heap.size ≤ w'.heap.size → (∀ i, i < w.heap.size → i ∉ blksOf own → (i < w0.heap.size → i ∈ A0) → w'.heap[i]? = w.heap[i]?) → N w'

theorem Ob.lt {w : World} {o : Ob} (h : o.is w) : ∀ b ∈ o.blks, b < w.heap.size := by
  have key : ∀ (b : Nat) (x : Obj), w.heap[b]? = some x → b < w.heap.size := fun b x hx => (Array.getElem?_eq_some_iff.1 hx).1
  cases o with
  | row b ty xs m => obtain ⟨x, hx, _⟩ := h; simpa [Ob.blks] using key b x hx
  | sl A cap ty size xs =>
    cases A with
    | none => simp [Ob.blks]
    | some a => obtain ⟨_, x, hx, _⟩ := h; simpa [Ob.blks] using key _ x hx
  | map b l c => obtain ⟨x, hx, _⟩ := h; simpa [Ob.blks] using key b x hx
  | iter b m s e c => simpa [Ob.blks] using key b _ h

theorem Ob.keep {w w' : World} {o : Ob} (h : o.is w) (hk : ∀ b ∈ o.blks, w'.heap[b]? = w.heap[b]?) : o.is w' := by
  cases o with
  | row b ty xs m => obtain ⟨x, hx, hr⟩ := h; exact ⟨x, (hk b (by simp [Ob.blks])).trans hx, hr⟩
  | sl A cap ty size xs =>
    cases A with
    | none => exact h
    | some a => obtain ⟨h2, x, hx, hr⟩ := h; exact ⟨h2, x, (hk a.block (by simp [Ob.blks])).trans hx, hr⟩
  | map b l c => obtain ⟨x, hx, hr⟩ := h; exact ⟨x, (hk b (by simp [Ob.blks])).trans hx, hr⟩
  | iter b m s e c => exact (hk b (by simp [Ob.blks])).trans h

theorem mem_blksOf {own : List Ob} {b : Nat} : b ∈ blksOf own ↔ ∃ o ∈ own, b ∈ o.blks := by simp [blksOf, List.mem_flatMap]
theorem Objs.lt {w : World} {own : List Ob} (h : Objs own w) : ∀ b ∈ blksOf own, b < w.heap.size := by
  intro b hb
  obtain ⟨o, ho, hb⟩ := mem_blksOf.1 hb
  exact Ob.lt (h o ho) b hb
theorem Objs.keep {w w' : World} {own : List Ob} (h : Objs own w) (hk : ∀ b ∈ blksOf own, w'.heap[b]? = w.heap[b]?) : Objs own w' :=
  fun o ho => Ob.keep (h o ho) fun b hb => hk b (mem_blksOf.2 ⟨o, ho, hb⟩)
theorem blksOf_append (a b : List Ob) : blksOf (a ++ b) = blksOf a ++ blksOf b := by simp [blksOf]
theorem blksOf_cons (o : Ob) (l : List Ob) : blksOf (o :: l) = o.blks ++ blksOf l := by simp [blksOf]
theorem Objs.append {w : World} {a b : List Ob} : Objs (a ++ b) w ↔ Objs a w ∧ Objs b w := by
  simp only [Objs, List.mem_append]
  exact ⟨fun h => ⟨fun o ho => h o (.inl ho), fun o ho => h o (.inr ho)⟩, fun ⟨h, k⟩ o ho => ho.elim (h o) (k o)⟩

/-- What is known where the call stands. -/
def GN (G : Mp) (own : List Ob) (N : Mp) : Mp := fun w => (G w ∧ N w) ∧ Objs own w

/-- The fixed part of a proof: where the call began. -/
structure Ctx where
  w0 : World
  A0 : List Ob
  G : Mp

def Ctx.ok (C : Ctx) : Prop := Entry C.w0 C.A0 C.G
def Ctx.inv (C : Ctx) (w : World) (own : List Ob) (N : Mp) : Prop := Inv C.w0 (blksOf C.A0) w own N

theorem Ctx.gn {C : Ctx} (hC : C.ok) {w : World} {own : List Ob} {N : Mp} (h : C.inv w own N) : GN C.G own N w :=
  ⟨⟨hC.pers w h.fr, h.stable w (Nat.le_refl _) (fun _ _ _ _ => rfl)⟩, h.objs⟩

theorem Ctx.start {C : Ctx} (hC : C.ok) : C.inv C.w0 C.A0 MT :=
  ⟨hC.objs, hC.nodup, Fr.refl _ _, fun _ hb => .inl hb, fun _ _ _ => trivial⟩

/-- A draw moves nothing. -/
theorem Inv.drawn {w0 : World} {A0 : List Nat} {w : World} {own : List Ob} {N : Mp} (h : Inv w0 A0 w own N) (n : Nat) : Inv w0 A0 { w with drawn := n } own N :=
  ⟨h.objs, h.nodup, ⟨h.fr.os, h.fr.tape, h.fr.output, h.fr.size, h.fr.same⟩, h.from_, h.stable⟩

/-! ### Picking objects out of those at hand -/
inductive Take : Ob → List Ob → List Ob → Prop
  | here {o : Ob} {l : List Ob} : Take o (o :: l) l
  | there {o x : Ob} {l l' : List Ob} : Take o l l' → Take o (x :: l) (x :: l')
  | none_ {ty : TypeId} {size : Nat} {l : List Ob} : Take (.sl none 0 ty size []) l l
  | cut {A : Option Addr} {cap : Nat} {ty : TypeId} {size : Nat} {xs : List Value} {l : List Ob} (m : Nat) : Take (.sl A cap ty size (xs.take m)) (.sl A cap ty size xs :: l) l
  | drop {A : Option Addr} {cap : Nat} {ty : TypeId} {size : Nat} {xs : List Value} {l : List Ob} (m : Nat) (h : m * size ≤ xs.length) (hc : m ≤ cap) : Take (.sl (A.map (·.add (m * size))) (cap - m) ty size (xs.drop (m * size))) (.sl A cap ty size xs :: l) l
  | end_ {A : Option Addr} {cap : Nat} {ty : TypeId} {size : Nat} {xs : List Value} {l : List Ob} : Take (.sl A 0 ty size []) (.sl A cap ty size xs :: l) l
inductive Pick : List Ob → List Ob → List Ob → Prop
  | nil {l : List Ob} : Pick [] l l
  | cons {o : Ob} {s l l' r : List Ob} : Take o l l' → Pick s l' r → Pick (o :: s) l r

theorem TailObj.cut {off : Nat} {ty : TypeId} {xs : List Value} {m : Nat} {o : Obj} (h : TailObj off ty xs m o) (n : Nat) : TailObj off ty (xs.take n) m o := by
  obtain ⟨pre, sp, post, fz, hp, hl, rfl, hf⟩ := h
  refine ⟨pre, xs.drop n ++ sp, post, fz, hp, ?_, ?_, hf⟩
  · rw [List.length_append, ← Nat.add_assoc, ← List.length_append, List.take_append_drop]; exact hl
  · rw [List.append_assoc, ← List.append_assoc (xs.take n), List.take_append_drop]
theorem TailObj.drop {off : Nat} {ty : TypeId} {xs : List Value} {m : Nat} {o : Obj} (h : TailObj off ty xs m o) (n : Nat) (hn : n ≤ xs.length) : TailObj (off + n) ty (xs.drop n) (m - n) o := by
  obtain ⟨pre, sp, post, fz, hp, hl, rfl, hf⟩ := h
  refine ⟨pre ++ xs.take n, sp, post, fz, ?_, ?_, ?_, ?_⟩
  · rw [List.length_append, List.length_take, Nat.min_eq_left hn, hp]
  · rw [List.length_drop]; omega
  · rw [List.append_assoc pre, ← List.append_assoc (xs.take n), List.take_append_drop]
  · rcases hf with h | h
    · exact .inl h
    · exact .inr ⟨by omega, h.2⟩
theorem TailObj.end_ {off : Nat} {ty : TypeId} {xs : List Value} {m : Nat} {o : Obj} (h : TailObj off ty xs m o) : TailObj off ty [] 0 o := by
  obtain ⟨pre, sp, post, fz, hp, hl, rfl, hf⟩ := h
  refine ⟨pre, [], xs ++ (sp ++ post), fz, hp, rfl, by simp, ?_⟩
  rcases hf with h | h
  · exact .inl h
  · exact .inr ⟨by omega, h.2⟩
/-- A slice of a block of its own, with all that it may grow to. -/
theorem Ob.sl_grow {w : World} {a : Addr} {cap : Nat} {ty : TypeId} {size : Nat} {xs : List Value} (h : (Ob.sl (some a) cap ty size xs).is w) : ∃ sp, xs.length + sp.length = cap * size ∧ (Ob.sl (some a) cap ty size (xs ++ sp)).is w := by
  obtain ⟨h2, o, ho, pre, sp, post, fz, hp, hl, rfl, hf⟩ := h
  exact ⟨sp, hl, h2, _, ho, pre, [], post, fz, hp, by simpa using hl, by simp, hf⟩
theorem Ob.sl_new {w : World} {b cap : Nat} {ty : TypeId} {size : Nat} {xs sp : List Value} {fz : Nat × Nat} (hl : xs.length + sp.length = cap * size) (h : w.heap[b]? = some (.cells (xs ++ sp).toArray ty fz)) (hf : fz.1 = fz.2 ∨ (cap * size ≤ fz.1 ∧ ty = 5)) :
    (Ob.sl (some ⟨b, 0, none⟩) cap ty size xs).is w := ⟨rfl, _, h, RowObj.new hl hf⟩
theorem Take.objs {o : Ob} {l l' : List Ob} (h : Take o l l') {w : World} (k : Objs l w) : o.is w ∧ Objs l' w := by
  induction h with
  | here => exact ⟨k _ (List.mem_cons_self ..), fun o ho => k o (List.mem_cons_of_mem _ ho)⟩
  | there _ ih =>
    obtain ⟨h1, h2⟩ := ih (fun o ho => k o (List.mem_cons_of_mem _ ho))
    refine ⟨h1, fun o ho => ?_⟩
    rcases List.mem_cons.1 ho with rfl | ho
    · exact k _ (List.mem_cons_self ..)
    · exact h2 o ho
  | none_ => exact ⟨⟨rfl, rfl⟩, k⟩
  | @cut A cap ty size xs l m =>
    refine ⟨?_, fun o ho => k o (List.mem_cons_of_mem _ ho)⟩
    have h := k _ (List.mem_cons_self ..)
    cases A with
    | none => obtain ⟨h1, h2⟩ := h; exact ⟨h1, by rw [h2]; simp⟩
    | some a => obtain ⟨h2, x, hx, hr⟩ := h; exact ⟨h2, x, hx, hr.cut m⟩
  | @drop A cap ty size xs l m hm hc =>
    refine ⟨?_, fun o ho => k o (List.mem_cons_of_mem _ ho)⟩
    have h := k _ (List.mem_cons_self ..)
    cases A with
    | none => obtain ⟨h1, h2⟩ := h; exact ⟨by omega, by rw [h2]; simp⟩
    | some a =>
      obtain ⟨h2, x, hx, hr⟩ := h
      have hr := hr.drop (m * size) hm
      rw [← Nat.sub_mul] at hr
      obtain ⟨bb, off, spot⟩ := a
      simp only at h2
      subst h2
      have e : (⟨bb, off, none⟩ : Addr).add (m * size) = ⟨bb, off + m * size, none⟩ := by unfold Addr.add; split <;> simp_all
      simp only [Option.map_some, e]
      exact ⟨rfl, x, hx, hr⟩
  | @end_ A cap ty size xs l =>
    refine ⟨?_, fun o ho => k o (List.mem_cons_of_mem _ ho)⟩
    have h := k _ (List.mem_cons_self ..)
    cases A with
    | none => exact ⟨rfl, rfl⟩
    | some a => obtain ⟨h2, x, hx, hr⟩ := h; exact ⟨h2, x, hx, by rw [Nat.zero_mul]; exact hr.end_⟩
theorem Take.blks {o : Ob} {l l' : List Ob} (h : Take o l l') : (blksOf l).Perm (blksOf (o :: l')) := by
  induction h with
  | here => exact .refl _
  | there _ ih =>
    rename_i x l l' _
    simp only [blksOf_cons] at *
    refine (List.Perm.append_left _ ih).trans ?_
    rw [← List.append_assoc, ← List.append_assoc]
    exact List.Perm.append_right _ List.perm_append_comm
  | none_ => simp [blksOf_cons, Ob.blks]
  | @cut A cap ty size xs l m => rw [blksOf_cons, blksOf_cons]; cases A <;> exact .refl _
  | @drop A cap ty size xs l m hm hc =>
    rw [blksOf_cons, blksOf_cons]
    cases A with
    | none => exact .refl _
    | some a =>
      have e : (a.add (m * size)).block = a.block := by unfold Addr.add; split <;> simp_all
      simp only [Option.map_some, Ob.blks, e]
      exact .refl _
  | @end_ A cap ty size xs l => rw [blksOf_cons, blksOf_cons]; cases A <;> exact .refl _
theorem Pick.objs {s l r : List Ob} (h : Pick s l r) {w : World} (k : Objs l w) : Objs (s ++ r) w := by
  induction h with
  | nil => exact k
  | cons ht _ ih =>
    obtain ⟨h1, h2⟩ := ht.objs k
    intro o ho
    rcases List.mem_cons.1 ho with rfl | ho
    · exact h1
    · exact ih h2 o ho
theorem Pick.blks {s l r : List Ob} (h : Pick s l r) : (blksOf l).Perm (blksOf (s ++ r)) := by
  induction h with
  | nil => exact .refl _
  | cons ht _ ih =>
    refine ht.blks.trans ?_
    rw [List.cons_append, blksOf_cons, blksOf_cons]
    exact List.Perm.append_left _ ih

theorem Inv.alike {w0 : World} {A0 : List Nat} {w : World} {own own' : List Ob} {N : Mp} (h : Inv w0 A0 w own N) (hb : (blksOf own).Perm (blksOf own')) (ho : Objs own' w) : Inv w0 A0 w own' N :=
  ⟨ho, hb.nodup_iff.1 h.nodup, h.fr, fun b hb' => h.from_ b (hb.mem_iff.2 hb'),
    fun w' h1 h2 => h.stable w' h1 (fun i hi hn => h2 i hi (fun hm => hn (hb.mem_iff.2 hm)))⟩
theorem Inv.take_ {w0 : World} {A0 : List Nat} {w : World} {own own' : List Ob} {o : Ob} {N : Mp} (h : Inv w0 A0 w own N) (ht : Take o own own') : Inv w0 A0 w (o :: own') N :=
  h.alike ht.blks fun x hx => by
    obtain ⟨h1, h2⟩ := ht.objs h.objs
    rcases List.mem_cons.1 hx with rfl | hx
    · exact h1
    · exact h2 x hx
theorem Inv.picked {w0 : World} {A0 : List Nat} {w : World} {own s r : List Ob} {N : Mp} (h : Inv w0 A0 w own N) (hp : Pick s own r) : Inv w0 A0 w (s ++ r) N := h.alike hp.blks (hp.objs h.objs)
theorem Inv.perm {w0 : World} {A0 : List Nat} {w : World} {own own' : List Ob} {N : Mp} (h : Inv w0 A0 w own N) (hp : own.Perm own') : Inv w0 A0 w own' N := by
  have hb : (blksOf own).Perm (blksOf own') := hp.flatMap_right _
  exact ⟨fun o ho => h.objs o (hp.mem_iff.2 ho), hb.nodup_iff.1 h.nodup, h.fr, fun b hb' => h.from_ b (hb.mem_iff.2 hb'),
    fun w' h1 h2 => h.stable w' h1 (fun i hi hn => h2 i hi (fun hm => hn (hb.mem_iff.2 hm)))⟩

/-- Dropping objects; what is known of them may be kept as a fact. -/
theorem Inv.drop {w0 : World} {A0 : List Nat} {w : World} {own rest : List Ob} {N N' : Mp} (h : Inv w0 A0 w (own ++ rest) N) (hN : ∀ w, N w → Objs rest w → N' w) : Inv w0 A0 w own N' := by
  have hnd := h.nodup
  rw [blksOf_append, List.nodup_append] at hnd
  refine ⟨(Objs.append.1 h.objs).1, hnd.1, h.fr, fun b hb => h.from_ b (by rw [blksOf_append]; exact List.mem_append_left _ hb), fun w' h1 h2 => ?_⟩
  have hin : ∀ b ∈ blksOf rest, b ∉ blksOf own := fun b hb hb' => hnd.2.2 b hb' b hb rfl
  refine hN w' (h.stable w' h1 fun i hi hni hA => h2 i hi (fun hm => hni (by rw [blksOf_append]; exact List.mem_append_left _ hm)) hA) ?_
  refine (Objs.append.1 h.objs).2.keep fun b hb => h2 b ((Objs.append.1 h.objs).2.lt b hb) (hin b hb) fun hlt => ?_
  rcases h.from_ b (by rw [blksOf_append]; exact List.mem_append_right _ hb) with h' | h'
  · exact h'
  · omega

theorem Inv.weaken {w0 : World} {A0 : List Nat} {w : World} {own : List Ob} {N N' : Mp} (h : Inv w0 A0 w own N) (hN : ∀ w, N w → N' w) : Inv w0 A0 w own N' :=
  ⟨h.objs, h.nodup, h.fr, h.from_, fun w' h1 h2 => hN w' (h.stable w' h1 h2)⟩

/-- A new block. -/
theorem Inv.alloc {w0 : World} {A0 : List Nat} {w : World} {own : List Ob} {N : Mp} (h : Inv w0 A0 w own N) (x : Obj) (o : Ob) (hb : o.blks = [w.heap.size]) (ho : o.is (w.alloc x)) :
    Inv w0 A0 (w.alloc x) (o :: own) N := by
  have hlt := h.objs.lt
  have hsame : ∀ i, i < w.heap.size → (w.alloc x).heap[i]? = w.heap[i]? := fun i hi => RowKit.Below.heap_alloc w x i hi
  have hsz : (w.alloc x).heap.size = w.heap.size + 1 := by simp
  refine ⟨?_, ?_, ?_, ?_, ?_⟩
  · intro o' ho'
    rcases List.mem_cons.1 ho' with rfl | ho'
    · exact ho
    · exact Ob.keep (h.objs o' ho') fun b hb' => hsame b (hlt b (mem_blksOf.2 ⟨o', ho', hb'⟩))
  · rw [blksOf_cons, hb, List.singleton_append, List.nodup_cons]
    exact ⟨fun hm => by have := hlt _ hm; omega, h.nodup⟩
  · exact h.fr.trans ⟨rfl, rfl, rfl, by omega, fun i hi _ => hsame i hi⟩ (fun i hi => hi) (fun i (hi : i ∈ ([] : List Nat)) => by cases hi)
  · intro b hb'
    rw [blksOf_cons, hb, List.singleton_append] at hb'
    rcases List.mem_cons.1 hb' with rfl | hb'
    · exact .inr h.fr.size
    · exact h.from_ b hb'
  · intro w' h1 h2
    refine h.stable w' (by omega) fun i hi hn hA => ?_
    rw [h2 i (by omega) (by rw [blksOf_cons, hb, List.singleton_append, List.mem_cons]; exact fun hm => hm.elim (by omega) hn) hA, hsame i hi]

/-- A block of the call's own is written. -/
theorem Inv.write {w0 : World} {A0 : List Nat} {w w' : World} {o o' : Ob} {rest : List Ob} {N : Mp} (h : Inv w0 A0 w (o :: rest) N) (hb : o'.blks = o.blks)
    (hos : w'.os = w.os) (htape : w'.tape = w.tape) (hout : w'.output = w.output) (hsize : w'.heap.size = w.heap.size)
    (hsame : ∀ i, i ∉ o.blks → w'.heap[i]? = w.heap[i]?) (ho : o'.is w') : Inv w0 A0 w' (o' :: rest) N := by
  have hblk : blksOf (o' :: rest) = blksOf (o :: rest) := by rw [blksOf_cons, blksOf_cons, hb]
  have hnd := h.nodup
  rw [blksOf_cons, List.nodup_append] at hnd
  refine ⟨?_, by rw [hblk]; exact h.nodup, ?_, fun b hb' => h.from_ b (by rw [← hblk]; exact hb'), ?_⟩
  · intro x hx
    rcases List.mem_cons.1 hx with rfl | hx
    · exact ho
    · exact Ob.keep (h.objs x (List.mem_cons_of_mem _ hx)) fun b hb' => hsame b fun hm => hnd.2.2 b hm b (mem_blksOf.2 ⟨x, hx, hb'⟩) rfl
  · refine h.fr.trans (T := o.blks) ⟨hos, htape, hout, by omega, fun i _ hi => hsame i hi⟩ (fun i hi => hi) fun i hi hlt => ?_
    rcases h.from_ i (by rw [blksOf_cons]; exact List.mem_append_left _ hi) with h' | h'
    · exact h'
    · omega
  · intro w'' h1 h2
    refine h.stable w'' (by omega) fun i hi hn hA => ?_
    rw [h2 i (by omega) (by rw [hblk]; exact hn) hA]
    exact hsame i fun hm => hn (by rw [blksOf_cons]; exact List.mem_append_left _ hm)

/-- Behind a call: it was handed the objects A, and could read all else. -/
theorem Inv.call {w0 : World} {A0 : List Nat} {w w' : World} {A rest own' : List Ob} {N N' : Mp} (h : Inv w0 A0 w (A ++ rest) N)
    (k : Inv w (blksOf A) w' own' N') : Inv w0 A0 w' (own' ++ rest) (MpAnd N N') := by
  have hnd := h.nodup
  rw [blksOf_append, List.nodup_append] at hnd
  have hA : ∀ b ∈ blksOf A, b ∈ A0 ∨ w0.heap.size ≤ b := fun b hb => h.from_ b (by rw [blksOf_append]; exact List.mem_append_left _ hb)
  have hrest := (Objs.append.1 h.objs).2
  have hrlt := hrest.lt
  have hsz := h.fr.size
  have hsz' := k.fr.size
  have hsame : ∀ i, i < w.heap.size → i ∉ blksOf A → w'.heap[i]? = w.heap[i]? := k.fr.same
  refine ⟨?_, ?_, ?_, ?_, ?_⟩
  · refine Objs.append.2 ⟨k.objs, hrest.keep fun b hb => hsame b (hrlt b hb) fun hm => hnd.2.2 b hm b hb rfl⟩
  · rw [blksOf_append, List.nodup_append]
    refine ⟨k.nodup, hnd.2.1, ?_⟩
    rintro a ha b hb rfl
    rcases k.from_ a ha with h' | h'
    · exact hnd.2.2 a h' a hb rfl
    · have := hrlt a hb; omega
  · refine h.fr.trans k.fr (fun i hi => hi) fun i hi hlt => ?_
    rcases hA i hi with h' | h'
    · exact h'
    · omega
  · intro b hb
    rw [blksOf_append] at hb
    rcases List.mem_append.1 hb with hb | hb
    · rcases k.from_ b hb with h' | h'
      · exact hA b h'
      · exact .inr (by omega)
    · exact h.from_ b (by rw [blksOf_append]; exact List.mem_append_right _ hb)
  · intro w'' h1 h2
    refine ⟨h.stable w'' (by omega) fun i hi hn hA' => ?_, k.stable w'' h1 fun i hi hn hA' => h2 i hi ?_ ?_⟩
    · have hn' : i ∉ blksOf A := fun hm => hn (by rw [blksOf_append]; exact List.mem_append_left _ hm)
      rw [h2 i (by omega) ?_ hA', hsame i hi hn']
      rw [blksOf_append]
      intro hm
      rcases List.mem_append.1 hm with hm | hm
      · rcases k.from_ i hm with h' | h'
        · exact hn' h'
        · omega
      · exact hn (by rw [blksOf_append]; exact List.mem_append_right _ hm)
    · rw [blksOf_append]
      intro hm
      rcases List.mem_append.1 hm with hm | hm
      · exact hn hm
      · exact hnd.2.2 i (hA' (hrlt i hm)) i hm rfl
    · intro hlt
      rcases hA i (hA' (by omega)) with h' | h'
      · exact h'
      · omega

/-- Where a call begins inside a call. -/
theorem Inv.entry {C : Ctx} (hC : C.ok) {w : World} {A rest : List Ob} {N : Mp} (h : C.inv w (A ++ rest) N) : Entry w A (GN C.G rest N) := by
  have hnd := h.nodup
  rw [blksOf_append, List.nodup_append] at hnd
  have hA : ∀ b ∈ blksOf A, b ∈ blksOf C.A0 ∨ C.w0.heap.size ≤ b := fun b hb => h.from_ b (by rw [blksOf_append]; exact List.mem_append_left _ hb)
  have hrest := (Objs.append.1 h.objs).2
  refine ⟨(Objs.append.1 h.objs).1, hnd.1, fun w' hfr => ⟨⟨?_, ?_⟩, ?_⟩⟩
  · refine hC.pers w' (h.fr.trans hfr (fun i hi => hi) fun i hi hlt => ?_)
    rcases hA i hi with h' | h'
    · exact h'
    · omega
  · exact h.stable w' hfr.size fun i hi hn _ => hfr.same i hi fun hm => hn (by rw [blksOf_append]; exact List.mem_append_left _ hm)
  · exact hrest.keep fun b hb => hfr.same b (hrest.lt b hb) fun hm => hnd.2.2 b hm b hb rfl
end Go.Proofs.Yticllmnblcjjcaa
