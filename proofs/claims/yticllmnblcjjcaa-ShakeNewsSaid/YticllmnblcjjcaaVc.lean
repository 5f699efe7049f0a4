/- Verification conditions of whole functions, and that they suffice. -/
import Derived.Test.YticllmnblcjjcaaSound
namespace Go.Proofs.Yticllmnblcjjcaa

abbrev VK := Value → List Ob → Mp → Prop
abbrev SK := Fm → List Ob → Mp → Prop
/-- Where a panic goes. -/
abbrev XK := List PanicEntry → List Ob → Mp → Prop
def noX : XK := fun _ _ _ => False

/-- What a call of f owes: begun where it may write the objects A and read G, it returns, and Post tells what, the objects that are then at hand, and what is known of new memory. -/
def Spec (P : Program) (f : FuncId) (args : Array Value) (A : List Ob) (G : Mp) (Post : Value → List Ob → Mp → Prop) : Prop :=
  (∀ (args : Array Value) (w : World), (callFunc f args).run P w = .ok (.enter f args) w) ∧
  ∀ w, Entry w A G → Calls P f args w fun e w' => ∃ v own N, e = .returned v ∧ Post v own N ∧ Inv w (blksOf A) w' own N

theorem Spec.mono {P : Program} {f : FuncId} {args : Array Value} {A : List Ob} {G : Mp} {Post Post' : Value → List Ob → Mp → Prop} (h : Spec P f args A G Post)
    (hp : ∀ v own N, Post v own N → Post' v own N) : Spec P f args A G Post' :=
  ⟨h.1, fun w hw => (h.2 w hw).mono fun _ _ ⟨v, own, N, he, hP, hi⟩ => ⟨v, own, N, he, hp _ _ _ hP, hi⟩⟩

/-- The same of a call that may panic. -/
def SpecE (P : Program) (f : FuncId) (args : Array Value) (A : List Ob) (G : Mp) (Post : Value → List Ob → Mp → Prop) (PX : XK) : Prop :=
  (∀ (args : Array Value) (w : World), (callFunc f args).run P w = .ok (.enter f args) w) ∧
  ∀ w, Entry w A G → Calls P f args w fun e w' => ∃ own N, ((∃ v, e = .returned v ∧ Post v own N) ∨ (∃ c, e = .panicked c ∧ PX c own N)) ∧ Inv w (blksOf A) w' own N
theorem Spec.toE {P : Program} {f : FuncId} {args : Array Value} {A : List Ob} {G : Mp} {Post : Value → List Ob → Mp → Prop} (h : Spec P f args A G Post) : SpecE P f args A G Post noX :=
  ⟨h.1, fun w hw => (h.2 w hw).mono fun _ _ ⟨v, own, N, he, hP, hi⟩ => ⟨own, N, .inl ⟨v, he, hP⟩, hi⟩⟩
theorem SpecE.spec {P : Program} {f : FuncId} {args : Array Value} {A : List Ob} {G : Mp} {Post : Value → List Ob → Mp → Prop} {PX : XK} (h : SpecE P f args A G Post PX) (hx : ∀ c own N, ¬ PX c own N) : Spec P f args A G Post :=
  ⟨h.1, fun w hw => (h.2 w hw).mono fun _ _ ⟨own, N, hc, hi⟩ => by
    rcases hc with ⟨v, he, hP⟩ | ⟨c, _, hP⟩
    · exact ⟨v, own, N, he, hP, hi⟩
    · exact (hx _ _ _ hP).elim⟩

inductive vcCallF (X : XK) (P : Program) (G : Mp) (own : List Ob) (N : Mp) (f : FuncId) (args : List Value) (k : VK) : Prop
  | intro (A rest : List Ob) (Post : Value → List Ob → Mp → Prop) (hp : Pick A own rest) (hs : Spec P f args.toArray A (GN G rest N) Post) (hk : ∀ v own' N', Post v own' N' → k v (own' ++ rest) (MpAnd N N'))
  | may (A rest : List Ob) (Post : Value → List Ob → Mp → Prop) (PX : XK) (hp : Pick A own rest) (hs : SpecE P f args.toArray A (GN G rest N) Post PX) (hk : ∀ v own' N', Post v own' N' → k v (own' ++ rest) (MpAnd N N')) (hx : ∀ c own' N', PX c own' N' → X c (own' ++ rest) (MpAnd N N'))
  | ext (v : Value) (h : Ent (GN G own N) (fun w => (callFunc f args.toArray).run P w = .ok (.value v) w)) (hk : k v own N)

/-- The cells of a value as a list. -/
def cellsL : Value → List Value
  | .agg cs => cs.toList
  | v => [v]
theorem cellsL_eq (v : Value) : cellsL v = v.cells.toList := by cases v <;> rfl

def vcNew (own : List Ob) (N : Mp) (e : TypeId) (cs : List Value) (k : VK) : Prop :=
  forced cs fun cs => ∀ b : Nat, k (.pointer (some ⟨b, 0, none⟩)) (.row b e cs cs.length :: own) N

def vcBox (own : List Ob) (N : Mp) (e : TypeId) (v : Value) (k : VK) : Prop := match v with
  | .agg cs => ∀ b : Nat, k (.pointer (some ⟨b, 0, none⟩)) (.row b e cs.toList cs.toList.length :: own) N
  | v => vcNew own N e (cellsL v) k

def Ob.set : Ob → Nat → Value → Ob
  | .row b ty xs m, i, v => .row b ty (xs.set i v) m
  | .sl A cap ty size xs, i, v => .sl A cap ty size (xs.set i v)
  | .map b l c, _, _ => .map b l c
  | .iter b m s e c, _, _ => .iter b m s e c
def Ob.base : Ob → Option Addr
  | .row b _ _ _ => some ⟨b, 0, none⟩
  | .sl A _ _ _ _ => A
  | .map _ _ _ => none
  | .iter _ _ _ _ _ => none
def Ob.cells : Ob → List Value
  | .row _ _ xs _ => xs
  | .sl _ _ _ _ xs => xs
  | .map _ _ _ => []
  | .iter _ _ _ _ _ => []
def oneCell : Value → Bool
  | .agg _ | .tuple _ => false
  | _ => true
/-- A store of one cell. -/
inductive vcStore1 (own : List Ob) (a : Addr) (v : Value) (k : List Ob → Prop) : Prop
  | intro (o : Ob) (rest : List Ob) (i : Nat) (ht : Take o own rest) (hb : ∀ w, Objs own w → ∃ b, o.base = some b ∧ a = b.add i) (hi : i < o.cells.length) (h1 : oneCell v = true) (hk : k (o.set i v :: rest))
def spl (xs : List Value) (i : Nat) (vs : List Value) : List Value := xs.take i ++ vs ++ xs.drop (i + vs.length)
def Ob.setL : Ob → Nat → List Value → Ob
  | .row b ty xs m, i, vs => .row b ty (spl xs i vs) m
  | .sl A cap ty size xs, i, vs => .sl A cap ty size (spl xs i vs)
  | .map b l c, _, _ => .map b l c
  | .iter b m s e c, _, _ => .iter b m s e c
/-- A store of several cells. -/
inductive vcStoreN (own : List Ob) (a : Addr) (vs : List Value) (k : List Ob → Prop) : Prop
  | intro (o : Ob) (rest : List Ob) (i : Nat) (ht : Take o own rest) (hb : ∀ w, Objs own w → ∃ b, o.base = some b ∧ a = b.add i) (hi : i + vs.length ≤ o.cells.length) (h1 : ∀ v ∈ vs, oneCell v = true) (hk : k (o.setL i vs :: rest))
def vcStore (P : Program) (own : List Ob) (t : TypeId) (x v : Value) (k : List Ob → Prop) : Prop :=
  match x with
  | .pointer (some a) => match P.info? t with
    | some i => match Nat.beq i.size 1 with
      | true => match cellsL v with
        | [u] => vcStore1 own (a.add 0) u k
        | _ => False
      | false => (cellsL v).length = i.size ∧ vcStoreN own a (cellsL v) k
    | none => False
  | _ => False

def zerosL (n : Nat) (z : List Value) : List Value := (List.replicate n z).flatten

/-- make: a slice of zeros. -/
structure vcMk (own : List Ob) (N : Mp) (e : TypeId) (size bytes : Nat) (z : List Value) (l c : Int) (k : VK) : Prop where
  intro ::
  bounds : 0 ≤ l ∧ l ≤ c ∧ bytes * c ≤ 281474976710656 ∧ c ≤ 9223372036854775807
  out : ∀ b : Nat, k (.slice (some ⟨b, 0, none⟩) l.toNat c.toNat) (.sl (some ⟨b, 0, none⟩) c.toNat e size (zerosL l.toNat z) :: own) N
def vcMakeSlice (P : Program) (own : List Ob) (N : Mp) (t : TypeId) (l c : Value) (k : VK) : Prop :=
  match l, c with
  | .int _ l, .int _ c => match P.underlying t with
    | some (.slice e) => match P.info? e with
      | some i => match i.zero with
        | some z => match Nat.beq z.cells.size i.size && Nat.blt 0 i.size with
          | true => natK i.size fun size => natK i.bytes fun bytes => forced (cellsL z) fun z => vcMk own N e size bytes z l c k
          | false => False
        | none => False
      | none => False
    | _ => False
  | _, _ => False

def vcBuildSlice (P : Program) (own : List Ob) (N : Mp) (t : TypeId) (len : Nat) (fm : Fm) (parts : List (Nat × Operand)) (k : VK) : Prop :=
  match partVals fm parts with
  | some vs => match P.underlying t with
    | some (.slice e) => match P.info? e with
      | some i => match i.zero with
        | some z => match fillL (fun j => some (j * i.size, i.size)) (zerosL len (cellsL z)) vs with
          | some cs => match Nat.ble (len * i.size) 16777216 && Nat.beq z.cells.size i.size && Nat.blt 0 i.size with
            | true => natK i.size fun s => forced cs fun cs => ∀ b : Nat, k (.slice (some ⟨b, 0, none⟩) len len) (.sl (some ⟨b, 0, none⟩) len e s cs :: own) N
            | false => False
          | none => False
        | none => False
      | none => False
    | _ => False
  | none => False

/-- append of one slice to one that the call owns. -/
inductive vcApp (M : Mp) (own : List Ob) (N : Mp) (e : TypeId) (size bytes : Nat) (A : Option Addr) (n cap : Nat) (A2 : Option Addr) (n2 : Nat) (k : VK) : Prop
  | intro (xs : List Value) (rest : List Ob) (news : List Value) (ht : Take (.sl A cap e size xs) own rest) (hl : xs.length = n * size ∧ news.length = n2 * size ∧ 0 < size ∧ (∀ v ∈ news, oneCell v = true)) (hr : Ent M (RowAt A2 news))
    (hb : (n + n2) * bytes ≤ 140737488355328 ∨ (bytes = 1 ∧ n + n2 ≤ 211106232532992)) (h63 : n + n2 ≤ 9223372036854775807) (hk : ∀ A' cap', n + n2 ≤ cap' → (n + n2 ≤ cap → A' = A ∧ cap' = cap) → k (.slice A' (n + n2) cap') (.sl A' cap' e size (xs ++ news) :: rest) N)
  | far (olds : List Value) (news : List Value) (hc : cap < n + n2) (ho : Ent M (RowAt A olds)) (hl : olds.length = n * size ∧ news.length = n2 * size ∧ (∀ v ∈ news, oneCell v = true)) (hr : Ent M (RowAt A2 news))
    (hb : (n + n2) * bytes ≤ 140737488355328 ∨ (bytes = 1 ∧ n + n2 ≤ 211106232532992)) (h63 : n + n2 ≤ 9223372036854775807) (hk : ∀ b cap', n + n2 ≤ cap' → k (.slice (some ⟨b, 0, none⟩) (n + n2) cap') (.sl (some ⟨b, 0, none⟩) cap' e size (olds ++ news) :: own) N)
def vcAppend (P : Program) (G : Mp) (own : List Ob) (N : Mp) (t : TypeId) (s x : Value) (k : VK) : Prop :=
  match s, x with
  | .slice A n cap, .slice A2 n2 _ => match P.underlying t with
    | some (.slice e) => match P.info? e with
      | some i => match i.zero with
        | some z => match Nat.beq z.cells.size i.size with
          | true => natK i.size fun size => natK i.bytes fun bytes => vcApp (GN G own N) own N e size bytes A n cap A2 n2 k
          | false => False
        | none => False
      | none => False
    | _ => False
  | _, _ => False

/-- append of a text's bytes. -/
inductive vcAppS (own : List Ob) (N : Mp) (e : TypeId) (A : Option Addr) (n cap : Nat) (bs : List UInt8) (k : VK) : Prop
  | intro (xs : List Value) (rest : List Ob) (ht : Take (.sl A cap e 1 xs) own rest) (hl : xs.length = n) (hb : n + bs.length ≤ 140737488355328)
    (hk : ∀ A' cap', n + bs.length ≤ cap' → k (.slice A' (n + bs.length) cap') (.sl A' cap' e 1 (xs ++ Bs bs) :: rest) N)
def vcAppendS (P : Program) (own : List Ob) (N : Mp) (t t' : TypeId) (s x : Value) (k : VK) : Prop :=
  match s, x with
  | .slice A n cap, .string bs => match P.underlying t, P.underlying t' with
    | some (.slice e), some .string => match P.info? e with
      | some i => match i.zero with
        | some z => match Nat.beq z.cells.size i.size && Nat.beq i.size 1 && Nat.beq i.bytes 1 with
          | true => vcAppS own N e A n cap bs.data.toList k
          | false => False
        | none => False
      | none => False
    | _, _ => False
  | _, _ => False

/-- append of zeros. -/
inductive vcAppZ (M : Mp) (own : List Ob) (N : Mp) (e : TypeId) (size bytes : Nat) (z : List Value) (A : Option Addr) (n cap : Nat) (l : Int) (k : VK) : Prop
  | intro (xs : List Value) (rest : List Ob) (m : Nat) (hm : l = m) (ht : Take (.sl A cap e size xs) own rest) (hl : xs.length = n * size ∧ 0 < size ∧ (∀ v ∈ z, oneCell v = true))
    (hb : (n + m) * bytes ≤ 140737488355328) (h63 : n + m ≤ 9223372036854775807) (hk : ∀ A' cap', n + m ≤ cap' → k (.slice A' (n + m) cap') (.sl A' cap' e size (xs ++ zerosL m z) :: rest) N)
  | far (olds : List Value) (m : Nat) (hm : l = m) (hc : cap < n + m) (ho : Ent M (RowAt A olds)) (hl : olds.length = n * size ∧ 0 < size ∧ (∀ v ∈ z, oneCell v = true))
    (hb : (n + m) * bytes ≤ 140737488355328) (h63 : n + m ≤ 9223372036854775807) (hk : ∀ b cap', n + m ≤ cap' → k (.slice (some ⟨b, 0, none⟩) (n + m) cap') (.sl (some ⟨b, 0, none⟩) cap' e size (olds ++ zerosL m z) :: own) N)
def vcAppendZ (P : Program) (G : Mp) (own : List Ob) (N : Mp) (t t' : TypeId) (s x : Value) (k : VK) : Prop :=
  match s, x with
  | .slice A n cap, .int .i64 l => match P.underlying t, P.underlying t' with
    | some (.slice e), some (.int _) => match P.info? e with
      | some i => match i.zero with
        | some z => match Nat.beq z.cells.size i.size with
          | true => natK i.size fun size => natK i.bytes fun bytes => forced (cellsL z) fun z => vcAppZ (GN G own N) own N e size bytes z A n cap l k
          | false => False
        | none => False
      | none => False
    | _, _ => False
  | _, _ => False

/-- copy onto the beginning of a slice that the call owns. -/
inductive vcCpy (M : Mp) (own : List Ob) (N : Mp) (e : TypeId) (size : Nat) (A : Option Addr) (n cap : Nat) (A2 : Option Addr) (n2 : Nat) (k : VK) : Prop
  | intro (xs : List Value) (rest : List Ob) (news : List Value) (ht : Take (.sl A cap e size xs) own rest) (hl : n * size ≤ xs.length ∧ news.length = n2 * size ∧ (∀ v ∈ news, oneCell v = true)) (hr : Ent M (RowAt A2 news))
    (hk : k (.int .i64 (Nat.min n2 n)) (.sl A cap e size (news.take (Nat.min n2 n * size) ++ xs.drop (Nat.min n2 n * size)) :: rest) N)
  | into (a : Addr) (cap0 off : Nat) (xs : List Value) (rest : List Ob) (news : List Value) (ht : Take (.sl (some a) cap0 e size xs) own rest) (hA : Nat.min n2 n = 0 ∨ A = some (a.add off)) (hl : off ≤ xs.length ∧ off + Nat.min n2 n * size ≤ cap0 * size ∧ news.length = Nat.min n2 n * size ∧ (∀ v ∈ news, oneCell v = true)) (hr : Ent M (RowAt A2 news))
    (hk : k (.int .i64 (Nat.min n2 n)) (.sl (some a) cap0 e size (spl xs off news) :: rest) N)
def vcCopy (P : Program) (G : Mp) (own : List Ob) (N : Mp) (t : TypeId) (s x : Value) (k : VK) : Prop :=
  match s, x with
  | .slice A n cap, .slice A2 n2 _ => match P.underlying t with
    | some (.slice e) => match P.info? e with
      | some i => natK i.size fun size => vcCpy (GN G own N) own N e size A n cap A2 n2 k
      | none => False
    | _ => False
  | _, _ => False

/-- clear, behind what is known of a slice that the call owns. -/
inductive vcClr (own : List Ob) (N : Mp) (e : TypeId) (size : Nat) (z : List Value) (A : Option Addr) (n : Nat) (k : VK) : Prop
  | none (h : n = 0) (hk : k (.tuple #[]) own N)
  | behind (a : Addr) (cap0 off : Nat) (xs : List Value) (rest : List Ob) (ht : Take (.sl (some a) cap0 e size xs) own rest) (hA : A = some (a.add off)) (hl : xs.length ≤ off ∧ off + n * size ≤ cap0 * size ∧ (∀ v ∈ z, oneCell v = true))
    (hk : k (.tuple #[]) (.sl (some a) cap0 e size xs :: rest) N)
def vcClear (P : Program) (own : List Ob) (N : Mp) (t : TypeId) (s : Value) (k : VK) : Prop :=
  match s with
  | .slice A n _ => match P.underlying t with
    | some (.slice e) => match P.info? e with
      | some i => match i.zero with
        | some z => match Nat.beq z.cells.size i.size with
          | true => natK i.size fun size => forced (cellsL z) fun z => vcClr own N e size z A n k
          | false => False
        | none => False
      | none => False
    | _ => False
  | _ => False

/-! ### Maps -/
/-- A store under a key. -/
inductive vcMapSet (own : List Ob) (kd kd' : IntKind) (b : Nat) (n : Int) (v : Value) (k : List Ob → Prop) : Prop
  | new (hd : kd = kd') (l : Ents) (clock : Nat) (rest : List Ob) (ht : Take (.map b (mI kd l) clock) own rest) (h : getE n l = none) (hk : k (.map b (mI kd (l ++ [(n, v, clock)])) (clock + 1) :: rest))
  | old (hd : kd = kd') (l : Ents) (clock : Nat) (rest : List Ob) (ht : Take (.map b (mI kd l) clock) own rest) (e : Value × Nat) (h : getE n l = some e) (hk : k (.map b (mI kd (setE n v l)) clock :: rest))
def vcMapUpdate (P : Program) (own : List Ob) (t : TypeId) (m key v : Value) (k : List Ob → Prop) : Prop :=
  match m, key with
  | .map (some b), .int kd n => match P.underlying t with
    | some (.map kt _) => match P.underlying kt with
      | some (.int kd') => vcMapSet own kd kd' b n v k
      | _ => False
    | _ => False
  | _, _ => False
/-- The entry of a key, new if there is none. -/
inductive vcMapEnt (own : List Ob) (N : Mp) (kd kd' : IntKind) (b : Nat) (n : Int) (z : Value) (k : VK) : Prop
  | new (hd : kd = kd') (l : Ents) (clock : Nat) (rest : List Ob) (ht : Take (.map b (mI kd l) clock) own rest) (h : getE n l = none) (hk : k (.tuple #[z, .int .i64 clock]) (.map b (mI kd (l ++ [(n, z, clock)])) (clock + 1) :: rest) N)
  | old (hd : kd = kd') (l : Ents) (clock : Nat) (rest : List Ob) (ht : Take (.map b (mI kd l) clock) own rest) (e : Value × Nat) (h : getE n l = some e) (hk : k (.tuple #[e.1, .int .i64 e.2]) (.map b (mI kd l) clock :: rest) N)
def vcMapEntry (P : Program) (own : List Ob) (N : Mp) (t : TypeId) (m key : Value) (k : VK) : Prop :=
  match m, key with
  | .map (some b), .int kd n => match P.underlying t with
    | some (.map kt et) => match P.underlying kt with
      | some (.int kd') => match P.info? et with
        | some inf => match inf.zero with
          | some z => vcMapEnt own N kd kd' b n z k
          | none => False
        | none => False
      | _ => False
    | _ => False
  | _, _ => False
/-- A store into the entry that was stored at a time. -/
inductive vcEntSt (own : List Ob) (b : Nat) (s : Int) (v : Value) (k : List Ob → Prop) : Prop
  | intro (kd : IntKind) (l : Ents) (clock c : Nat) (rest : List Ob) (hs : s = c) (ht : Take (.map b (mI kd l) clock) own rest) (h : ∃ e ∈ l, e.2.2 = c) (hk : k (.map b (mI kd (setB c v l)) clock :: rest))
def vcEntryStore (own : List Ob) (m s v : Value) (k : List Ob → Prop) : Prop :=
  match m, s with
  | .map (some b), .int .i64 s => vcEntSt own b s v k
  | _, _ => False
inductive vcMapDel (own : List Ob) (N : Mp) (kd kd' : IntKind) (b : Nat) (n : Int) (k : VK) : Prop
  | intro (hd : kd = kd') (l : Ents) (clock : Nat) (rest : List Ob) (ht : Take (.map b (mI kd l) clock) own rest) (hk : k (.tuple #[]) (.map b (mI kd (delE n l)) clock :: rest) N)
def vcDelete (P : Program) (own : List Ob) (N : Mp) (t : TypeId) (m key : Value) (k : VK) : Prop :=
  match m, key with
  | .map (some b), .int kd n => match P.underlying t with
    | some (.map kt _) => match P.underlying kt with
      | some (.int kd') => vcMapDel own N kd kd' b n k
      | _ => False
    | _ => False
  | _, _ => False
/-- An iterator over a map. -/
inductive vcRng (M : Mp) (own : List Ob) (N : Mp) (b : Nat) (k : VK) : Prop
  | intro (l : List (Value × Value × Nat)) (clock : Nat) (h : Ent M (fun w => (Ob.map b l clock).is w)) (hk : ∀ r : Nat, k (.pointer (some ⟨r, 0, none⟩)) (.iter r b clock [] clock :: own) N)
/-- A step of an iterator: which entry comes is open. -/
inductive vcNxt (M : Mp) (own : List Ob) (N : Mp) (r : Nat) (k : VK) : Prop
  | intro (b since : Nat) (seen : List Nat) (last : Nat) (rest : List Ob) (l : List (Value × Value × Nat)) (clock : Nat) (ht : Take (.iter r b since seen last) own rest) (hm : Ent M (fun w => (Ob.map b l clock).is w))
    (hok : seen = [] ∨ l = [] ∨ ∃ e ∈ l, e.2.2 < last) (hover : (∀ e ∈ l, e.2.2 < since → e.2.2 ∈ seen) → k (.tuple #[.bool false]) (.iter r b since seen last :: rest) N)
    (hstep : ∀ e ∈ l, e.2.2 ∉ seen → k (.tuple #[.bool true, e.1, e.2.1]) (.iter r b since (seen ++ [e.2.2]) clock :: rest) N)

noncomputable def vcEff (X : XK) (P : Program) (G : Mp) (o : Op) (fm : Fm) (own : List Ob) (N : Mp) (k : VK) : Prop :=
  match o with
  | .alloc e => match P.info? e with
    | some i => match i.zero with
      | some z => vcNew own N e (cellsL z) k
      | none => False
    | none => False
  | .box e x => evK fm x fun v => vcBox own N e v k
  | .buildSlice t len parts => vcBuildSlice P own N t len fm parts.toList k
  | .store t a x => evK fm a fun va => evK fm x fun vx => vcStore P own t va vx fun own => k undef own N
  | .makeSlice t l c => evK fm l fun vl => evK fm c fun vc => vcMakeSlice P own N t vl vc k
  | .call { callee := .value f, args, .. } => evK fm f fun vf => (match vf with
    | .func (.func fid) first cap => (match evs fm args.toList with
      | some vs => vcCallF X P G own N fid (first.toList ++ vs ++ cap.toList) k
      | none => False)
    | _ => False)
  | .call { callee := .builtin .append, args, argTypes } => (match evs fm args.toList, argTypes.toList with
    | some [s, x], [t, t'] => (match Nat.beq t t' with
      | true => vcAppend P G own N t s x k
      | false => (match x with
        | .string _ => vcAppendS P own N t t' s x k
        | _ => vcAppendZ P G own N t t' s x k))
    | _, _ => False)
  | .call { callee := .builtin .copy, args, argTypes } => (match evs fm args.toList, argTypes.toList with
    | some [s, x], [t, t'] => (match Nat.beq t t' with
      | true => vcCopy P G own N t s x k
      | false => False)
    | _, _ => False)
  | .call { callee := .builtin .clear, args, argTypes } => (match evs fm args.toList, argTypes.toList with
    | some [s], [t] => vcClear P own N t s k
    | _, _ => False)
  | .call { callee := .builtin .delete, args, argTypes } => (match evs fm args.toList, argTypes.toList with
    | some [m, x], t :: _ => vcDelete P own N t m x k
    | _, _ => False)
  | .makeMap t h => (match h with
    | none => ∀ b : Nat, k (.map (some b)) (.map b [] 0 :: own) N
    | some h => evK fm h fun v => (match v, P.underlying t with
      | .int _ _, some (.map _ _) => ∀ b : Nat, k (.map (some b)) (.map b [] 0 :: own) N
      | _, _ => False))
  | .mapUpdate t m key x => evK fm m fun vm => evK fm key fun vk => evK fm x fun vx => vcMapUpdate P own t vm vk vx fun own => k undef own N
  | .insert t m key x => evK fm m fun vm => evK fm key fun vk => evK fm x fun vx => vcMapUpdate P own t vm vk vx fun own => k undef own N
  | .mapEntry t m key => evK fm m fun vm => evK fm key fun vk => vcMapEntry P own N t vm vk k
  | .entryStore _ m s x => evK fm m fun vm => evK fm s fun vs => evK fm x fun vx => vcEntryStore own vm vs vx fun own => k undef own N
  | .range t x => evK fm x fun v => (match v, P.underlying t with
    | .map (some b), some (.map _ _) => vcRng (GN G own N) own N b k
    | _, _ => False)
  | .next x isStr => evK fm x fun v => (match v, isStr with
    | .pointer (some ⟨r, 0, none⟩), false => vcNxt (GN G own N) own N r k
    | _, _ => False)
  | .panic x => evK fm x fun v => (match v with
    | .iface t u => X [{ v := .iface t u, recovered := false }] own N
    | _ => False)
  | _ => False

/-- Bytes made of a text's bytes: they stay where they are. -/
inductive vcMark (own : List Ob) (N : Mp) (A : Option Addr) (n c : Nat) (k : VK) : Prop
  | intro (a : Addr) (cap : Nat) (size : Nat) (xs : List Value) (rest : List Ob) (hA : A = some a) (ht : Take (.sl (some a) cap 5 size xs) own rest) (hk : k (.slice A n c) (.sl (some a) cap 5 size xs :: rest) N)
/-- The bytes of a text, in new memory. -/
def vcStrBytes (own : List Ob) (N : Mp) (e : TypeId) (s : ByteArray) (k : VK) : Prop :=
  match Nat.beq e 5 with
  | true => ∀ b cap : Nat, s.size ≤ cap → k (.slice (some ⟨b, 0, none⟩) s.size cap) (.sl (some ⟨b, 0, none⟩) cap 5 1 (Bs s.data.toList) :: own) N
  | false => False
noncomputable def vcOp (X : XK) (P : Program) (G : Mp) (o : Op) (fm : Fm) (own : List Ob) (N : Mp) (k : VK) : Prop :=
  match isPure o with
  | true => match o with
    | .convert s d x => match P.underlying d with
      | some (.slice e) => evK fm x fun v => match v, P.underlying s, P.underlying e with
        | .string bs, some .string, some (.int .u8) => vcStrBytes own N e bs k
        | .slice A n c, some (.slice _), some (.int .u8) => (match Nat.beq s d with
          | true => vcMark own N A n c k
          | false => False)
        | _, _, _ => False
      | _ => vcPure P (GN G own N) o fm fun v => k v own N
    | _ => vcPure P (GN G own N) o fm fun v => k v own N
  | false => vcEff X P G o fm own N k

/-- The slot that a guard looks at. -/
def guardSlot (ops : List Oper) (j : Nat) : Option Nat := match ops[j]? with
  | some o => o.dst
  | none => none

def putK (dst : Option Tmp) (v : Value) (fm : Fm) (k : Fm → Prop) : Prop := match dst with
  | some d => k ((d, v) :: fm)
  | none => k fm
theorem putK_eq {dst : Option Tmp} {v : Value} {fm : Fm} {k : Fm → Prop} : putK dst v fm k = k (put dst v fm) := by cases dst <;> rfl

noncomputable def vcOpStep (X : XK) (P : Program) (G : Mp) (all : List Oper) (o : Oper) (next : SK) : SK := fun fm own N => match o.guard with
    | none => vcOp X P G o.op fm own N fun v own N => putK o.dst v fm fun fm => next fm own N
    | some (j, want) => match guardSlot all j with
      | some t => match look fm t with
        | some (.bool b) => vcIf b
            (match want with
              | true => setK t (.bool true) fm fun fm => vcOp X P G o.op fm own N fun v own N => putK o.dst v fm fun fm => next fm own N
              | false => setK t (.bool true) fm fun fm => putK o.dst undef fm fun fm => next fm own N)
            (match want with
              | false => setK t (.bool false) fm fun fm => vcOp X P G o.op fm own N fun v own N => putK o.dst v fm fun fm => next fm own N
              | true => setK t (.bool false) fm fun fm => putK o.dst undef fm fun fm => next fm own N)
        | some (.tuple _) => putK o.dst undef fm fun fm => next fm own N
        | _ => False
      | none => False
/-- (Laid by the recursor itself: the kernel then meets what the proofs show.) -/
noncomputable def vcOps (X : XK) (P : Program) (G : Mp) (all : List Oper) (l : List Oper) : SK → SK :=
  List.rec (motive := fun _ => SK → SK) (fun K => K) (fun o _ ih K => vcOpStep X P G all o (ih K)) l

def ifPure (o : Op) (X : Prop) : Prop := match isPure o with
  | true => X
  | false => False
/-- A region whose order is open, and whose operations only read. -/
def vcQuietStep (P : Program) (M : Mp) (all : List Oper) (o : Oper) (next : Fm → Prop) : Fm → Prop := fun fm => match o.guard with
    | none => ifPure o.op <| vcPure P M o.op fm fun v => putK o.dst v fm next
    | some (j, want) => match guardSlot all j with
      | some t => match look fm t with
        | some (.bool b) => vcIf b
            (match want with
              | true => setK t (.bool true) fm fun fm => ifPure o.op <| vcPure P M o.op fm fun v => putK o.dst v fm next
              | false => setK t (.bool true) fm fun fm => putK o.dst undef fm next)
            (match want with
              | false => setK t (.bool false) fm fun fm => ifPure o.op <| vcPure P M o.op fm fun v => putK o.dst v fm next
              | true => setK t (.bool false) fm fun fm => putK o.dst undef fm next)
        | some (.tuple _) => putK o.dst undef fm next
        | _ => False
      | none => False
noncomputable def vcQuiet (P : Program) (M : Mp) (all : List Oper) (l : List Oper) : (Fm → Prop) → Fm → Prop :=
  List.rec (motive := fun _ => (Fm → Prop) → Fm → Prop) (fun K => K) (fun o _ ih K => vcQuietStep P M all o (ih K)) l

/-- A region whose order is open, taken in an order of the prover's: what only reads first, under what does not change while the region runs. -/
def edgeMask (l : List Edge) (m : Nat) : Nat := l.foldl (fun m e => bif Region.binds .any e then m ||| 1 <<< e.on else m) m
/-- What the operations of a mask wait for, from one on downwards. -/
def ancMask (ops : Array Oper) : Nat → Nat → Nat
  | 0, m => m
  | j + 1, m => ancMask ops j (bif m.testBit j then (match ops[j]? with | some o => edgeMask o.after.toList m | none => m) else m)
/-- Does the operation wait for all that came ahead of it? -/
def tightS (ops : Array Oper) (seen : Nat) (i : Nat) : Bool :=
  let m := ancMask ops ops.size (1 <<< i)
  (List.range ops.size).all fun k => Nat.beq k i || m.testBit k || !(seen.testBit k)
/-- What has been listed and does not have to be over ahead of the operation. -/
def aliveS (ops : Array Oper) (seen : Nat) (i k : Nat) : Bool := Nat.blt k ops.size && !(Nat.beq k i) && seen.testBit k && !((ancMask ops ops.size (1 <<< i)).testBit k)
noncomputable def vcMixRun (X : XK) (P : Program) (G : Mp) (al : Nat → Bool) (i : Nat) (o : Oper) (S : Nat → Mp) (next : (Nat → Mp) → SK) : SK := fun fm own N => match isPure o.op with
  | true => vcPure P (S i) o.op fm fun v => putK o.dst v fm fun fm => next S fm own N
  | false => vcEff X P G o.op fm own N fun v own N => ∃ S' : Nat → Mp, (∀ k, al k = true → ∀ w, S' k w → S k w) ∧ (∀ k, Ent (GN G own N) (S' k)) ∧ putK o.dst v fm fun fm => next S' fm own N
noncomputable def vcMixStep (X : XK) (P : Program) (G : Mp) (all : List Oper) (al : Nat → Bool) (i : Nat) (S : Nat → Mp) (next : (Nat → Mp) → SK) : SK := fun fm own N => match all[i]? with
    | none => False
    | some o => match o.guard with
      | none => vcMixRun X P G al i o S next fm own N
      | some (j, want) => match guardSlot all j with
        | some t => match look fm t with
          | some (.bool b) => vcIf b
              (match want with
                | true => setK t (.bool true) fm fun fm => vcMixRun X P G al i o S next fm own N
                | false => setK t (.bool true) fm fun fm => putK o.dst undef fm fun fm => next S fm own N)
              (match want with
                | false => setK t (.bool false) fm fun fm => vcMixRun X P G al i o S next fm own N
                | true => setK t (.bool false) fm fun fm => putK o.dst undef fm fun fm => next S fm own N)
          | some (.tuple _) => putK o.dst undef fm fun fm => next S fm own N
          | _ => False
        | none => False
/-- An order of a region's operations; where several effects could come next, what follows behind each. -/
inductive OT where
  | nil
  | one (i : Nat) (t : OT)
  | alt (i : Nat) (t u : OT)
def OT.ofList : List Nat → OT
  | [] => .nil
  | i :: r => .one i (OT.ofList r)
def OT.heads : OT → List Nat
  | .nil => []
  | .one i _ => [i]
  | .alt i _ u => i :: u.heads
def OT.depth : OT → Nat
  | .nil => 0
  | .one _ t => t.depth + 1
  | .alt _ t u => max (t.depth + 1) u.depth
noncomputable def vcMix (X : XK) (P : Program) (G : Mp) (all : List Oper) (order : OT) : Nat → (Nat → Mp) → SK → SK :=
  OT.rec (motive := fun _ => Nat → (Nat → Mp) → SK → SK) (fun _ _ K => K) (fun i _ ih seen S K => vcMixStep X P G all (aliveS all.toArray seen i) i S (fun S => ih (seen ||| 1 <<< i) S K))
    (fun i _ _ iht ihu seen S K fm own N => vcMixStep X P G all (aliveS all.toArray seen i) i S (fun S => iht (seen ||| 1 <<< i) S K) fm own N ∧ ihu seen S K fm own N) order

def isEffAt (ops : Array Oper) (i : Nat) : Bool := match ops[i]? with
  | some o => !isPure o.op
  | none => false
def mixChk (ops : Array Oper) : OT → Bool → Array Bool → Bool
  | .nil, top, listed => top && (Region.ready .any ops listed).isEmpty
  | .one i t, top, listed => (match top with
      | true => (match isEffAt ops i with
        | false => Region.free .any ops listed i && (Region.ready .any ops listed).contains i
        | true => Region.ready .any ops listed == [i])
      | false => isEffAt ops i) && mixChk ops t true (listed.setIfInBounds i true)
  | .alt i t u, top, listed => (match top with
      | true => Region.ready .any ops listed == i :: u.heads
      | false => true) && isEffAt ops i && mixChk ops t true (listed.setIfInBounds i true) && mixChk ops u false listed
def mixOk (ops : Array Oper) (order : OT) : Bool := Nat.ble order.depth ops.size && Region.noSelect ops && mixChk ops order true (Array.replicate ops.size false)

inductive vcDraw (X : XK) (P : Program) (G : Mp) (ops : Array Oper) (K : SK) (fm : Fm) (own : List Ob) (N : Mp) : Prop
  | quiet (h : Region.lexB .any ops = true) (k : vcQuiet P (GN G own N) ops.toList ops.toList (fun fm => K fm own N) fm)
  | mix (order : OT) (S : Nat → Mp) (h : mixOk ops order = true) (hM : ∀ k, Ent (GN G own N) (S k)) (k : vcMix X P G ops.toList order 0 S K fm own N)

/-- One state that stands for another: its slots, its objects, what is known. -/
def fmLe : Fm → Fm → Prop
  | [], _ => True
  | (t, v) :: r, fm => look fm t = some v ∧ fmLe r fm

/-- A loop: what holds at each round's head, by a ghost. -/
inductive vcLoop (C : (Exit → SK) → SK) (Q : Exit → SK) (fm : Fm) (own : List Ob) (N : Mp) : Prop
  | intro (α : Type) (μ : α → Nat) (F : α → Fm) (O : α → List Ob) (M : α → Mp) (R : α → Prop)
    (h0 : ∃ g, R g ∧ fmLe (F g) fm ∧ (∃ rest, Pick (O g) own rest) ∧ Ent N (M g))
    (h : ∀ g, R g → C (fun e fm' own' N' => match e with
      | .normal => ∃ g', R g' ∧ μ g' < μ g ∧ fmLe (F g') fm' ∧ (∃ rest, Pick (O g') own' rest) ∧ Ent N' (M g')
      | e => Q e fm' own' N') (F g) (O g) (M g))

noncomputable def vcRegion (X : XK) (P : Program) (G : Mp) (ops : Array Oper) (draw : Bool) (K : SK) : SK := fun fm own N => match draw with
  | false => vcOps X P G ops.toList ops.toList K fm own N
  | true => vcDraw X P G ops K fm own N
def vcSeqK (next : (Exit → SK) → SK) (Q : Exit → SK) : Exit → SK := fun e fm own N => match e with
  | .normal => next Q fm own N
  | .exit id => Q (.exit id) fm own N
  | .ret => Q .ret fm own N
  | _ => False
def vcBlockK (id : Nat) (Q : Exit → SK) : Exit → SK := fun e fm own N => match e with
  | .exit id' => match Nat.beq id' id with
    | true => Q .normal fm own N
    | false => Q (.exit id') fm own N
  | .normal => Q .normal fm own N
  | .ret => Q .ret fm own N
  | _ => False
def vcCondK (c : Operand) (x y : (Exit → SK) → SK) (Q : Exit → SK) : SK := fun fm own N => match ev fm c with
  | some (.bool b) => vcIf b (x Q fm own N) (y Q fm own N)
  | _ => False
/-- A cut: what holds between two statements, by a ghost. -/
inductive vcCut (A B : (Exit → SK) → SK) (Q : Exit → SK) (fm : Fm) (own : List Ob) (N : Mp) : Prop
  | intro (α : Type) (F : α → Fm) (O : α → List Ob) (M : α → Mp) (R : α → Prop)
    (h1 : A (fun e fm own N => match e with
      | .normal => ∃ g, R g ∧ fmLe (F g) fm ∧ (∃ rest, Pick (O g) own rest) ∧ Ent N (M g)
      | .exit id => Q (.exit id) fm own N
      | .ret => Q .ret fm own N
      | _ => False) fm own N)
    (h2 : ∀ g, R g → B Q (F g) (O g) (M g))
/-- The first region of a piece of code. -/
noncomputable def firstReg (c : Code) : Nat := Code.rec (motive := fun _ => Nat) 0 (fun id _ _ => id + 1) (fun _ _ a b => match a with
    | 0 => b
    | n + 1 => n + 1) (fun _ _ _ a _ => a) (fun _ _ a => a) (fun _ a => a) (fun _ _ _ _ _ _ => 0) (fun _ => 0) (fun _ _ => 0) (fun _ => 0) (fun _ => 0) 0 (fun _ => 0) c
noncomputable def isCut (cuts : List Nat) (b : Code) : Bool := match cuts with
  | [] => false
  | c :: r => (c :: r).any fun n => Nat.beq (n + 1) (firstReg b)
noncomputable def vcSeq (cut : Bool) (A B : (Exit → SK) → SK) (Q : Exit → SK) : SK := match cut with
  | false => A (vcSeqK B Q)
  | true => fun fm own N => vcCut A B Q fm own N
noncomputable def vc (X : XK) (P : Program) (G : Mp) (cuts : List Nat) (c : Code) : (Exit → SK) → SK :=
  Code.rec (motive := fun _ => (Exit → SK) → SK) (fun Q => Q .normal) (fun _ ops draw Q => vcRegion X P G ops draw (Q .normal)) (fun _ b iha ihb Q => vcSeq (isCut cuts b) iha ihb Q) (fun c _ _ ihx ihy Q => vcCondK c ihx ihy Q)
    (fun id _ ih Q => ih (vcBlockK id Q)) (fun _ ih Q fm own N => vcLoop ih Q fm own N) (fun _ _ _ _ _ _ _ _ _ _ => False) (fun id Q => Q (.exit id)) (fun _ _ _ _ _ _ => False) (fun _ _ _ _ _ => False) (fun _ _ _ _ _ => False) (fun Q => Q .ret) (fun _ _ _ _ _ => False) c

def vcResStep (P : Program) (M : Mp) (fm : Fm) (r : ResultVar) (next : (List Value → Prop) → Prop) (k : List Value → Prop) : Prop :=
  match r with
  | .tmp t => match look fm t with
    | some v => next fun vs => k (v :: vs)
    | none => False
  | .cell a t => match look fm a with
    | some v => vcLoad P M t v fun v => next fun vs => k (v :: vs)
    | none => False
noncomputable def vcRes (P : Program) (M : Mp) (fm : Fm) (l : List ResultVar) : (List Value → Prop) → Prop :=
  List.rec (motive := fun _ => (List Value → Prop) → Prop) (fun k => k []) (fun r _ ih k => vcResStep P M fm r ih k) l
def tupleOf : List Value → Value
  | [v] => v
  | vs => .tuple vs.toArray
noncomputable def vcRet (P : Program) (G : Mp) (results : List ResultVar) (Post : Value → List Ob → Mp → Prop) (fm : Fm) (own : List Ob) (N : Mp) : Prop :=
  vcRes P (GN G own N) fm results fun vs => ∃ (own' rest : List Ob) (N' : Mp), Pick own' own rest ∧ (∀ w, N w → Objs rest w → N' w) ∧ Post (tupleOf vs) own' N'
noncomputable def vcFin (P : Program) (G : Mp) (results : List ResultVar) (Post : Value → List Ob → Mp → Prop) : Exit → SK
  | .normal, fm, own, N => vcRet P G results Post fm own N
  | .ret, fm, own, N => vcRet P G results Post fm own N
  | _, _, _, _ => False

def initFm : Nat → List Value → Fm
  | _, [] => []
  | i, v :: r => (i, v) :: initFm (i + 1) r

/-- Every slot that the code writes is one of the frame's. -/
def opsOk (lo n : Nat) (ops : List Oper) : Bool := ops.all fun o => match o.dst with
  | some d => Nat.ble lo d && Nat.blt d n
  | none => true
def codeOk (lo n : Nat) : Code → Bool
  | .region _ ops _ => opsOk lo n ops.toList
  | .seq a b => codeOk lo n a && codeOk lo n b
  | .cond _ a b => codeOk lo n a && codeOk lo n b
  | .block _ c | .loop c | .scope c => codeOk lo n c
  | _ => true
end Go.Proofs.Yticllmnblcjjcaa
