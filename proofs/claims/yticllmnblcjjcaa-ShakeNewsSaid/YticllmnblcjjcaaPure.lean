/- Operations that only read: what they ask and what they give, and that they do so in the model. -/
import Derived.Test.YticllmnblcjjcaaMem
namespace Go.Proofs.Yticllmnblcjjcaa

/-- What is known of a frame: slots and their values, the latest first. -/
abbrev Fm := List (Nat × Value)
def look : Fm → Nat → Option Value
  | [], _ => none
  | (d, v) :: r, t => match Nat.beq d t with
    | true => some v
    | false => look r t
def ev (fm : Fm) : Operand → Option Value
  | .tmp t => look fm t
  | .const v => some v
  | .global g => some (.pointer (some ⟨g, 0, none⟩))
  | .func f => some (.func (.func f) #[] #[])
def evs (fm : Fm) : List Operand → Option (List Value)
  | [] => some []
  | x :: r => match ev fm x with
    | some v => match evs fm r with
      | some vs => some (v :: vs)
      | none => none
    | none => none
def put (dst : Option Tmp) (v : Value) (fm : Fm) : Fm := match dst with
  | some d => (d, v) :: fm
  | none => fm

/-- What stays: the deferred calls, and the slots below `lo`. -/
structure Env where
  ds : List Deferred
  lo : Nat
  base : Array Value
def noD : Env := ⟨[], 0, #[]⟩
structure Kept (D : Env) (a : Act) : Prop where
  ds : a.defers = D.ds
  base : ∀ t, t < D.lo → a.tmps[t]? = D.base[t]?
theorem Kept.put_ {D : Env} {a : Act} (h : Kept D a) (dst : Option Tmp) (hd : ∀ d, dst = some d → D.lo ≤ d) (v : Value) : Kept D (a.put dst v) := by
  cases dst with
  | none => exact h
  | some d =>
    have hd := hd d rfl
    refine ⟨by simp [Act.put, h.ds], fun t ht => ?_⟩
    simp only [Act.put]
    rw [Array.getElem?_setIfInBounds_ne (by omega)]
    exact h.base t ht
theorem Kept.unput {D : Env} {a : Act} (dst : Option Tmp) (hd : ∀ d, dst = some d → D.lo ≤ d) (v : Value) (h : Kept D (a.put dst v)) : Kept D a := by
  cases dst with
  | none => exact h
  | some d =>
    have hd := hd d rfl
    refine ⟨by simpa [Act.put] using h.ds, fun t ht => ?_⟩
    have := h.base t ht
    simp only [Act.put] at this
    rwa [Array.getElem?_setIfInBounds_ne (by omega)] at this
structure FmOk (D : Env) (n : Nat) (fm : Fm) (a : Act) : Prop where
  size : a.tmps.size = n
  defers : Kept D a
  get : ∀ t v, look fm t = some v → a.tmps[t]? = some v

theorem FmOk.eval_ {D : Env} {n : Nat} {fm : Fm} {a : Act} (h : FmOk D n fm a) {x : Operand} {v : Value} (he : ev fm x = some v) : a.eval x = v := by
  cases x with
  | tmp t =>
    have := h.get t v he
    simp [Act.eval, Array.getD_eq_getD_getElem?, this]
  | const c => simpa [ev, Act.eval] using he
  | global g => simpa [ev, Act.eval] using he
  | func f => simpa [ev, Act.eval] using he

theorem FmOk.evals {D : Env} {n : Nat} {fm : Fm} {a : Act} (h : FmOk D n fm a) : ∀ {xs : List Operand} {vs : List Value}, evs fm xs = some vs → xs.map a.eval = vs
  | [], vs, he => by simpa [evs] using he
  | x :: r, vs, he => by
    unfold evs at he
    split at he
    · rename_i v hv
      split at he
      · rename_i us hus
        cases he
        simp [h.eval_ hv, FmOk.evals h hus]
      · cases he
    · cases he

theorem FmOk.put_ {D : Env} {n : Nat} {fm : Fm} {a : Act} (h : FmOk D n fm a) (dst : Option Tmp) (hd : ∀ d, dst = some d → D.lo ≤ d ∧ d < n) (v : Value) : FmOk D n (put dst v fm) (a.put dst v) := by
  cases dst with
  | none => exact h
  | some d =>
    have hk := h.defers.put_ (some d) (fun e he => (hd e he).1) v
    have hd := (hd d rfl).2
    refine ⟨by simp [Act.put, h.size], hk, fun t u ht => ?_⟩
    unfold put look at ht
    simp only [Act.put]
    cases hdt : Nat.beq d t with
    | true =>
      rw [hdt] at ht
      have : d = t := Nat.eq_of_beq_eq_true hdt
      subst this
      cases ht
      simp [h.size, hd]
    | false =>
      rw [hdt] at ht
      have hne : d ≠ t := Nat.ne_of_beq_eq_false hdt
      rw [Array.getElem?_setIfInBounds_ne hne]
      exact h.get t u ht

theorem FmOk.known {D : Env} {n : Nat} {fm : Fm} {a : Act} (h : FmOk D n fm a) {t : Nat} {v : Value} (ht : look fm t = some v) : FmOk D n ((t, v) :: fm) a := by
  refine ⟨h.size, h.defers, fun s u hs => ?_⟩
  unfold look at hs
  split at hs
  · rename_i hb
    have : t = s := Nat.eq_of_beq_eq_true hb
    subst this
    cases hs
    exact h.get _ _ ht
  · exact h.get _ _ hs

/-! ### Marks: what a proof has to settle -/
/-- A test: both ways. -/
def vcIf (b : Bool) (X Y : Prop) : Prop := Bool.rec (motive := fun _ => Prop) Y X b
theorem vcIf_split {b : Bool} {X Y : Prop} (h : b = true → X) (k : b = false → Y) : vcIf b X Y := by
  cases b
  · exact k rfl
  · exact h rfl
theorem vcIf_dec {p : Prop} [Decidable p] {X Y : Prop} (h : p → X) (k : ¬ p → Y) : vcIf (decide p) X Y := vcIf_split (fun e => h (of_decide_eq_true e)) (fun e => k (of_decide_eq_false e))
theorem vcIf_ndec {p : Prop} [Decidable p] {X Y : Prop} (h : ¬ p → X) (k : p → Y) : vcIf (!decide p) X Y := vcIf_split (fun e => h (by simpa using e)) (fun e => k (by simpa using e))
theorem vcIf_yes {p : Prop} [Decidable p] {X Y : Prop} (hp : p) (h : X) : vcIf (decide p) X Y := vcIf_dec (fun _ => h) (fun k => absurd hp k)
theorem vcIf_no {p : Prop} [Decidable p] {X Y : Prop} (hp : ¬ p) (h : Y) : vcIf (decide p) X Y := vcIf_dec (fun k => absurd k hp) (fun _ => h)
theorem vcIf_nyes {p : Prop} [Decidable p] {X Y : Prop} (hp : ¬ p) (h : X) : vcIf (!decide p) X Y := vcIf_ndec (fun _ => h) (fun k => absurd k hp)
theorem vcIf_nno {p : Prop} [Decidable p] {X Y : Prop} (hp : p) (h : Y) : vcIf (!decide p) X Y := vcIf_ndec (fun k => absurd hp k) (fun _ => h)
theorem vcIf_is {b : Bool} {X Y : Prop} (c : Bool) (hb : b = c) (h : vcIf c X Y) : vcIf b X Y := by rw [hb]; exact h

/-- A slot known anew. -/
def setL (t : Nat) (v : Value) : Fm → Fm
  | [] => [(t, v)]
  | (d, u) :: r => match Nat.beq d t with
    | true => (d, v) :: r
    | false => (d, u) :: setL t v r
def setK (t : Nat) (v : Value) : Fm → (Fm → Prop) → Prop
  | [], k => k [(t, v)]
  | (d, u) :: r, k => match Nat.beq d t with
    | true => k ((d, v) :: r)
    | false => setK t v r fun r => k ((d, u) :: r)
theorem setK_eq {t : Nat} {v : Value} : ∀ {fm : Fm} {k : Fm → Prop}, setK t v fm k = k (setL t v fm)
  | [], _ => rfl
  | (d, u) :: r, k => by
    unfold setK setL
    split
    · rfl
    · exact setK_eq
theorem setL_same {t : Nat} {v : Value} : ∀ {fm : Fm}, look fm t = some v → setL t v fm = fm
  | [], h => by cases h
  | (d, u) :: r, h => by
    unfold look at h
    unfold setL
    split at h
    · cases h; rfl
    · exact congrArg _ (setL_same h)

/-- A whole number's operation: as it is if it fits, else wrapped round. -/
structure vcFit (kd : IntKind) (e : Int) (X : Int → Prop) : Prop where
  intro ::
  out : X (kd.wrap e)
theorem wrap_in (kd : IntKind) (e : Int) (h : kd.min ≤ e) (h' : e ≤ kd.max) : kd.wrap e = e := by
  cases kd <;> simp only [IntKind.min, IntKind.max, IntKind.wrap, IntKind.signed, IntKind.bits, Bool.false_eq_true, if_true, if_false, Bool.true_and, Bool.false_and] at * <;> (try split) <;> simp_all <;> omega
theorem vcFit_in {kd : IntKind} {e : Int} {X : Int → Prop} (h : kd.min ≤ e ∧ e ≤ kd.max) (k : X e) : vcFit kd e X := by
  refine ⟨?_⟩; rw [wrap_in kd e h.1 h.2]; exact k
theorem vcFit_i64 {e : Int} {X : Int → Prop} (h : -9223372036854775808 ≤ e ∧ e ≤ 9223372036854775807) (k : X e) : vcFit .i64 e X :=
  vcFit_in (by simpa [IntKind.min, IntKind.max, IntKind.signed, IntKind.bits] using h) k
theorem vcFit_u64 {e : Int} {X : Int → Prop} (k : X (e % 18446744073709551616)) : vcFit .u64 e X := by
  exact ⟨by simpa [IntKind.wrap, IntKind.signed, IntKind.bits] using k⟩
theorem vcFit_u64_in {e : Int} {X : Int → Prop} (h : 0 ≤ e ∧ e ≤ 18446744073709551615) (k : X e) : vcFit .u64 e X :=
  vcFit_in (by simpa [IntKind.min, IntKind.max, IntKind.signed, IntKind.bits] using h) k
theorem vcFit_u32 {e : Int} {X : Int → Prop} (k : X (e % 4294967296)) : vcFit .u32 e X := by
  exact ⟨by simpa [IntKind.wrap, IntKind.signed, IntKind.bits] using k⟩
theorem vcFit_u8 {e : Int} {X : Int → Prop} (k : X (e % 256)) : vcFit .u8 e X := by
  exact ⟨by simpa [IntKind.wrap, IntKind.signed, IntKind.bits] using k⟩
theorem vcFit_u8_in {e : Int} {X : Int → Prop} (h : 0 ≤ e ∧ e ≤ 255) (k : X e) : vcFit .u8 e X :=
  vcFit_in (by simpa [IntKind.min, IntKind.max, IntKind.signed, IntKind.bits] using h) k

structure vcQuo (kd : IntKind) (a b : Int) (X : Int → Prop) : Prop where
  intro ::
  ne : b ≠ 0
  out : X (kd.wrap (a.tdiv b))
structure vcRem (a b : Int) (X : Int → Prop) : Prop where
  intro ::
  ne : b ≠ 0
  out : X (a.tmod b)
theorem vcQuo_pos {kd : IntKind} {a b : Int} {X : Int → Prop} (h : 0 ≤ a ∧ a ≤ kd.max ∧ 0 < b) (k : X (a / b)) : vcQuo kd a b X := by
  refine ⟨by omega, ?_⟩
  have h1 : a.tdiv b = a / b := Int.tdiv_eq_ediv_of_nonneg h.1
  have h2 : 0 ≤ a / b := Int.ediv_nonneg h.1 (by omega)
  have h3 : a / b ≤ a := Int.ediv_le_self _ h.1
  have hmin : kd.min ≤ 0 := by cases kd <;> simp [IntKind.min, IntKind.signed, IntKind.bits]
  rw [h1, wrap_in kd _ (by omega) (by omega)]
  exact k
theorem vcQuo_i64 {a b : Int} {X : Int → Prop} (h : 0 ≤ a ∧ a ≤ 9223372036854775807 ∧ 0 < b) (k : X (a / b)) : vcQuo .i64 a b X :=
  vcQuo_pos (by simpa [IntKind.max, IntKind.signed, IntKind.bits] using h) k
theorem vcQuo_u64 {a b : Int} {X : Int → Prop} (h : 0 ≤ a ∧ a ≤ 18446744073709551615 ∧ 0 < b) (k : X (a / b)) : vcQuo .u64 a b X :=
  vcQuo_pos (by simpa [IntKind.max, IntKind.signed, IntKind.bits] using h) k
theorem vcQuo_u8 {a b : Int} {X : Int → Prop} (h : 0 ≤ a ∧ a ≤ 255 ∧ 0 < b) (k : X (a / b)) : vcQuo .u8 a b X :=
  vcQuo_pos (by simpa [IntKind.max, IntKind.signed, IntKind.bits] using h) k
theorem vcRem_pos {a b : Int} {X : Int → Prop} (h : 0 ≤ a ∧ 0 < b) (k : X (a % b)) : vcRem a b X := by
  refine ⟨by omega, ?_⟩
  rw [Int.tmod_eq_emod_of_nonneg h.1]
  exact k

structure vcShl (kd : IntKind) (a b : Int) (X : Int → Prop) : Prop where
  intro ::
  nn : 0 ≤ b
  out : X (kd.wrap (a * 2 ^ (min b.toNat kd.bits)))
structure vcShr (kd : IntKind) (a b : Int) (X : Int → Prop) : Prop where
  intro ::
  nn : 0 ≤ b
  out : X (a.fdiv (2 ^ (min b.toNat kd.bits)))
theorem vcShl_nat {kd : IntKind} {a : Int} {n : Nat} {X : Int → Prop} (h : n ≤ kd.bits) (k : vcFit kd (a * 2 ^ n) X) : vcShl kd a n X := by
  refine ⟨by omega, ?_⟩
  rw [Int.toNat_natCast, Nat.min_eq_left h]
  exact k.out
theorem vcShr_nat {kd : IntKind} {a : Int} {n : Nat} {X : Int → Prop} (h : n ≤ kd.bits) (k : X (a / 2 ^ n)) : vcShr kd a n X := by
  refine ⟨by omega, ?_⟩
  rw [Int.toNat_natCast, Nat.min_eq_left h, Int.fdiv_eq_ediv_of_nonneg _ (Int.le_of_lt (Int.pow_pos (by omega)))]
  exact k

/-- The whole number behind a bit operation. -/
def bitI (op : BinOp) (kd : IntKind) (x y : Int) : Int :=
  let a := BitVec.ofInt kd.bits x
  let b := BitVec.ofInt kd.bits y
  match op with
  | .and => kd.wrap (a &&& b).toNat
  | .or => kd.wrap (a ||| b).toNat
  | .xor => kd.wrap (a ^^^ b).toNat
  | .andNot => kd.wrap (a &&& ~~~b).toNat
  | _ => 0

/-- A bit operation. -/
structure vcBit (e : Int) (X : Int → Prop) : Prop where
  intro ::
  out : X e
theorem vcBit_as {e : Int} {X : Int → Prop} (e' : Int) (h : e = e') (k : X e') : vcBit e X := by subst h; exact ⟨k⟩

def vcInt (op : BinOp) (kd : IntKind) (a b : Int) (k : Value → Prop) : Prop :=
  match op with
  | .add => vcFit kd (a + b) fun e => k (.int kd e)
  | .sub => vcFit kd (a - b) fun e => k (.int kd e)
  | .mul => vcFit kd (a * b) fun e => k (.int kd e)
  | .quo => vcQuo kd a b fun e => k (.int kd e)
  | .rem => vcRem a b fun e => k (.int kd e)
  | .and => vcBit (bitI .and kd a b) fun e => k (.int kd e)
  | .or => vcBit (bitI .or kd a b) fun e => k (.int kd e)
  | .xor => vcBit (bitI .xor kd a b) fun e => k (.int kd e)
  | .andNot => vcBit (bitI .andNot kd a b) fun e => k (.int kd e)
  | .shl => False
  | .shr => False
  | .eql => k (.bool (decide (a = b)))
  | .neq => k (.bool (!decide (a = b)))
  | .lss => k (.bool (decide (a < b)))
  | .leq => k (.bool (decide (a ≤ b)))
  | .gtr => k (.bool (decide (b < a)))
  | .geq => k (.bool (decide (b ≤ a)))

/-- Where a slice begins behind 'x[l:..]'. -/
def cutA (A : Option Addr) (cap l size : Nat) : Option Addr := if cap = l then A else A.map (·.add (l * size))

def vcStrOp (op : BinOp) (a b : ByteArray) (k : Value → Prop) : Prop :=
  match op with
  | .eql => k (.bool (a.toList == b.toList))
  | .neq => k (.bool (!(a.toList == b.toList)))
  | .add => ((a.size + b.size : Nat) : Int) ≤ IntKind.i64.max ∧ k (.string (a ++ b))
  | _ => False

/-- Equality of values that are no whole numbers or texts. -/
def vcEql (P : Program) (t : TypeId) (x y : Value) (k : Bool → Prop) : Prop :=
  match x, y with
  | .bool a, .bool b => match P.underlying t with
    | some .bool => k (a == b)
    | _ => False
  | .slice A _ _, .slice none _ _ => match P.underlying t with
    | some (.slice _) => k A.isNone
    | _ => False
  | .pointer A, .pointer none => match P.underlying t with
    | some (.pointer _) => k A.isNone
    | _ => False
  | .map A, .map none => match P.underlying t with
    | some (.map _ _) => k A.isNone
    | _ => False
  | .func _ _ _, .nilFunc => match P.underlying t with
    | some (.func _ _ _) => k false
    | _ => False
  | .nilFunc, .nilFunc => match P.underlying t with
    | some (.func _ _ _) => k true
    | _ => False
  | _, _ => False

/-- The kinds of the cells of a type whose values can be compared cell by cell. -/
inductive LK where
  | b
  | s
  | i (k : IntKind)
deriving DecidableEq
def LK.fit : LK → Value → Bool
  | .b, .bool _ => true
  | .s, .string _ => true
  | .i k, .int k' _ => k == k'
  | _, _ => false
def fitsL : List LK → List Value → Bool
  | [], [] => true
  | k :: l, v :: xs => k.fit v && fitsL l xs
  | _, _ => false
def leavesF (P : Program) (lv : TypeId → Option (List LK)) : Nat → List Field → Option (List LK)
  | _, [] => some []
  | off, f :: r => match lv f.type with
    | none => none
    | some l => match f.offset == off && decide (f.name ≠ "_") && (P.info? f.type).any (fun i => i.size == l.length) && Nat.blt 0 l.length with
      | false => none
      | true => match leavesF P lv (off + l.length) r with
        | none => none
        | some m => some (l ++ m)
def leaves (P : Program) : Nat → TypeId → Option (List LK)
  | 0, _ => none
  | d + 1, t => match P.underlying t with
    | some .bool => some [.b]
    | some .string => some [.s]
    | some (.int k) => some [.i k]
    | some (.struct fs) => match P.stoodInHeld t with
      | true => none
      | false => leavesF P (leaves P d) 0 fs.toList
    | some (.array n e) => match leaves P d e with
      | none => none
      | some l => match (P.info? e).any (fun i => i.size == l.length) with
        | true => some (List.replicate n l).flatten
        | false => none
    | _ => none
def isAggT (P : Program) (t : TypeId) : Bool := match P.underlying t with
  | some (.struct _) | some (.array _ _) => true
  | _ => false
def eqType (P : Program) (t : TypeId) (l : List LK) : Bool := decide (leaves P 8 t = some l) && !P.eqGuardType P.depth t && isAggT P t
/-- Equality of two aggregates. -/
inductive vcEqA (P : Program) (t : TypeId) (xs ys : List Value) (X : Bool → Prop) : Prop
  | intro (l : List LK) (hl : eqType P t l = true) (hx : fitsL l xs = true) (hy : fitsL l ys = true) (b : Bool) (hb : b = true ↔ xs = ys) (k : X b)

def kindEq (a b : IntKind) : Bool := match a, b with
  | .i8, .i8 | .i16, .i16 | .i32, .i32 | .i64, .i64 | .u8, .u8 | .u16, .u16 | .u32, .u32 | .u64, .u64 => true
  | _, _ => false
theorem kindEq_eq {a b : IntKind} (h : kindEq a b = true) : a = b := by cases a <;> cases b <;> first | rfl | cases h

def vcBin (P : Program) (op : BinOp) (t : TypeId) (x y : Value) (k : Value → Prop) : Prop :=
  match x, y with
  | .int kx a, .int ky b => match op with
    | .shl => vcShl kx a b fun e => k (.int kx e)
    | .shr => vcShr kx a b fun e => k (.int kx e)
    | _ => match kindEq kx ky with
      | true => vcInt op kx a b k
      | false => False
  | .string a, .string b => vcStrOp op a b k
  | .agg xs, .agg ys => match op with
    | .eql => vcEqA P t xs.toList ys.toList fun b => k (.bool b)
    | .neq => vcEqA P t xs.toList ys.toList fun b => k (.bool (!b))
    | _ => False
  | x, y => match op with
    | .eql => vcEql P t x y fun b => k (.bool b)
    | .neq => vcEql P t x y fun b => k (.bool (!b))
    | _ => False

def vcUn (op : UnOp) (x : Value) (k : Value → Prop) : Prop :=
  match op, x with
  | .not, .bool b => k (.bool !b)
  | .neg, .int kd n => vcFit kd (0 - n) fun e => k (.int kd e)
  | .xor, .int kd n => vcBit (bitI .xor kd (if kd.signed then -1 else kd.max) n) fun e => k (.int kd e)
  | _, _ => False

/-- A number written out, if it is small. -/
def natK (n : Nat) (k : Nat → Prop) : Prop :=
  match n with
  | 0 => k 0
  | 1 => k 1
  | 2 => k 2
  | 3 => k 3
  | 4 => k 4
  | 5 => k 5
  | 6 => k 6
  | 7 => k 7
  | 8 => k 8
  | 9 => k 9
  | 10 => k 10
  | 11 => k 11
  | 12 => k 12
  | 13 => k 13
  | 14 => k 14
  | 15 => k 15
  | 16 => k 16
  | 17 => k 17
  | 18 => k 18
  | 19 => k 19
  | 20 => k 20
  | 21 => k 21
  | 22 => k 22
  | 23 => k 23
  | 24 => k 24
  | 32 => k 32
  | 36 => k 36
  | 40 => k 40
  | 48 => k 48
  | 49 => k 49
  | 56 => k 56
  | 64 => k 64
  | 72 => k 72
  | 80 => k 80
  | 88 => k 88
  | 96 => k 96
  | 104 => k 104
  | 112 => k 112
  | 120 => k 120
  | 128 => k 128
  | 136 => k 136
  | 144 => k 144
  | 152 => k 152
  | 160 => k 160
  | n => k n
theorem natK_eq {n : Nat} {k : Nat → Prop} : natK n k = k n := by unfold natK; split <;> rfl
/-- The place of an element. -/
def atK (n size : Nat) (k : Nat → Prop) : Prop := match size with
  | 1 => k n
  | s => k (n * s)
theorem atK_eq (n size : Nat) (k : Nat → Prop) : atK n size k = k (n * size) := by unfold atK; split <;> simp

/-- A read. -/
inductive vcLoad1 (M : Mp) (a : Addr) (X : Value → Prop) : Prop
  | intro (v : Value) (h : Ent M (fun w => w.cell? a = some v)) (k : X v)
inductive vcLoadN (M : Mp) (a : Addr) (n : Nat) (X : List Value → Prop) : Prop
  | intro (vs : List Value) (hl : vs.length = n) (h : Ent M (fun w => ∀ i, i < n → w.cell? (a.add i) = vs[i]?)) (k : X vs)
def vcLoad (P : Program) (M : Mp) (t : TypeId) (x : Value) (k : Value → Prop) : Prop :=
  match x with
  | .pointer (some a) => match P.underlying t with
    | some (.struct _) | some (.array _ _) => match P.info? t with
      | some i => natK i.size fun s => vcLoadN M a s fun vs => k (.agg vs.toArray)
      | none => False
    | some _ => vcLoad1 M a k
    | none => False
  | _ => False

/-- An index into a slice. -/
structure vcIdx (M : Mp) (A : Option Addr) (n : Nat) (i : Int) (X : Addr → Nat → Prop) : Prop where
  intro ::
  out : (∃ w, M w) → ∃ a, A = some a ∧ 0 ≤ i ∧ i < n ∧ X a i.toNat
/-- Where a row lies. -/
structure vcPtr (M : Mp) (A : Option Addr) (X : Option Addr → Prop) : Prop where
  intro ::
  out : (∃ w, M w) → X A
/-- An index into an array that lies in memory. -/
structure vcAt (n : Nat) (i : Int) (X : Nat → Prop) : Prop where
  intro ::
  bounds : 0 ≤ i ∧ i < n
  out : X i.toNat
/-- Bounds of a slice. -/
structure vcRange (l h m : Int) (X : Prop) : Prop where
  intro ::
  bounds : 0 ≤ l ∧ l ≤ h ∧ h ≤ m
  out : X

def valI (fm : Fm) (x : Option Operand) (d : Int) (k : Int → Prop) : Prop :=
  match x with
  | none => k d
  | some x => match ev fm x with
    | some (.int _ n) => k n
    | _ => False

def isNoneB {α : Type} : Option α → Bool
  | none => true
  | some _ => false

structure vcSlice3 (A : Option Addr) (size : Nat) (lim : Int) (l h m : Int) (k : Value → Prop) : Prop where
  intro ::
  bounds : 0 ≤ l ∧ l ≤ h ∧ h ≤ m
  out : m ≤ lim ∧ k (.slice (cutA A m.toNat l.toNat size) (h.toNat - l.toNat) (m.toNat - l.toNat))
def vcSlice (P : Program) (t : TypeId) (fm : Fm) (x : Operand) (lo hi mx : Option Operand) (k : Value → Prop) : Prop :=
  match ev fm x with
  | some (.slice A len cap) => match P.underlying t with
    | some (.slice e) => match P.info? e with
      | some i => match isNoneB hi && !isNoneB mx with
        | true => False
        | false => valI fm mx cap fun m => valI fm hi len fun h => valI fm lo 0 fun l => natK i.size fun s => vcSlice3 A s cap l h m k
      | none => False
    | _ => False
  | some (.pointer (some a)) => match P.underlying t with
    | some (.array n e) => match P.info? e with
      | some i => match isNoneB mx with
        | false => False
        | true => valI fm hi n fun h => valI fm lo 0 fun l => natK i.size fun s => vcRange l h n (k (.slice (cutA (some a) n l.toNat s) (h.toNat - l.toNat) (n - l.toNat)))
      | none => False
    | _ => False
  | some (.string s) => match P.underlying t with
    | some .string => match isNoneB mx with
      | false => False
      | true => valI fm hi s.size fun h => valI fm lo 0 fun l => vcRange l h s.size (k (.string (s.extract l.toNat h.toNat)))
    | _ => False
  | _ => False

def vcField (P : Program) (t : TypeId) (x : Value) (f : Nat) (k : Value → Prop) : Prop :=
  match x with
  | .agg cs => match P.underlying t with
    | some (.struct fields) => match fields[f]? with
      | some fd => match P.underlying fd.type with
        | some (.struct _) | some (.array _ _) => match P.info? fd.type with
          | some i => k (.agg (cs.extract fd.offset (fd.offset + i.size)))
          | none => False
        | some _ => match cs[fd.offset]? with
          | some v => k v
          | none => False
        | none => False
      | none => False
    | _ => False
  | _ => False

def vcFieldAddr (P : Program) (t : TypeId) (x : Value) (f : Nat) (k : Value → Prop) : Prop :=
  match x with
  | .pointer (some a) => match P.underlying t with
    | some (.struct fields) => match fields[f]? with
      | some fd => match P.info? fd.type with
        | some i => match Nat.beq i.size 0 with
          | true => False
          | false => k (.pointer (some (a.add fd.offset)))
        | none => False
      | none => False
    | _ => False
  | _ => False

def vcIndexAddr (P : Program) (M : Mp) (t : TypeId) (x i : Value) (k : Value → Prop) : Prop :=
  match x, i with
  | .slice A len _, .int _ n => match P.underlying t with
    | some (.slice e) => match P.info? e with
      | some inf => natK inf.size fun s => vcIdx M A len n fun a m => atK m s fun j => k (.pointer (some (a.add j)))
      | none => False
    | _ => False
  | .pointer (some a), .int _ n => match P.underlying t with
    | some (.array len e) => match P.info? e with
      | some inf => natK inf.size fun s => vcAt len n fun m => atK m s fun j => k (.pointer (some (a.add j)))
      | none => False
    | _ => False
  | _, _ => False

def vcIndex (P : Program) (t : TypeId) (x i : Value) (k : Value → Prop) : Prop :=
  match x, i with
  | .agg cs, .int _ n => match P.underlying t with
    | some (.array len e) => match P.underlying e with
      | some (.struct _) | some (.array _ _) => False
      | some _ => match P.info? e with
        | some inf => match Nat.beq inf.size 1 with
          | true => (0 ≤ n ∧ n < len) ∧ ∃ v, cs[n.toNat]? = some v ∧ k v
          | false => False
        | none => False
      | none => False
    | _ => False
  | .string s, .int _ n => match P.underlying t with
    | some .string => (0 ≤ n ∧ n < s.size) ∧ ∃ b : UInt8, s[n.toNat]? = some b ∧ k (.int .u8 b.toNat)
    | _ => False
  | _, _ => False

def vcLen (P : Program) (t : TypeId) (x : Value) (k : Value → Prop) : Prop :=
  match P.underlying t, x with
  | some (.slice _), .slice _ n _ => k (.int .i64 n)
  | some .string, .string s => k (.int .i64 s.size)
  | some (.array n _), _ => k (.int .i64 n)
  | some (.map _ _), .map none => k (.int .i64 0)
  | _, _ => False
def vcCap (P : Program) (t : TypeId) (x : Value) (k : Value → Prop) : Prop :=
  match P.underlying t, x with
  | some (.slice _), .slice _ _ n => k (.int .i64 n)
  | _, _ => False

def foldMin : Int → List Value → Option Int
  | x, [] => some x
  | x, .int _ y :: r => foldMin (if y < x then y else x) r
  | _, _ => none
def foldMax : Int → List Value → Option Int
  | x, [] => some x
  | x, .int _ y :: r => foldMax (if x < y then y else x) r
  | _, _ => none

/-- A row of cells from an address on. -/
def RowAt (A : Option Addr) (xs : List Value) : Mp := fun w => ∀ (i : Nat) (u : Value), xs[i]? = some u → ∃ a, A = some a ∧ w.cell? (a.add i) = some u
/-- Bytes as values. -/
def B (b : UInt8) : Value := .int .u8 b.toNat
def Bs (l : List UInt8) : List Value := l.map B
/-- Bytes read as a text. -/
inductive vcBytesStr (M : Mp) (A : Option Addr) (n : Nat) (X : ByteArray → Prop) : Prop
  | intro (bs : List UInt8) (hl : n = bs.length) (h : Ent M (RowAt A (Bs bs))) (k : X ⟨bs.toArray⟩)
def vcConv (P : Program) (M : Mp) (src dst : TypeId) (x : Value) (k : Value → Prop) : Prop :=
  match P.underlying src, P.underlying dst, x with
  | some _, some (.int kd), .int _ n => vcFit kd n fun e => k (.int kd e)
  | some _, some .string, .string s => k (.string s)
  | some (.slice e), some .string, .slice A n _ => match P.underlying e with
    | some (.int .u8) => vcBytesStr M A n fun s => k (.string s)
    | _ => False
  | _, _, _ => False

/-- The places and sizes of a struct's fields. -/
def fieldSizes (P : Program) : List Field → Option (List (Nat × Nat))
  | [] => some []
  | f :: r => match P.info? f.type with
    | some i => match fieldSizes P r with
      | some l => some ((f.offset, i.size) :: l)
      | none => none
    | none => none
def setAll : List Value → Nat → List Value → List Value
  | cs, _, [] => cs
  | cs, i, v :: r => setAll (cs.set i v) (i + 1) r
/-- The same in one pass. -/
def layO : List Value → List Value → List Value
  | [], cs => cs
  | v :: r, _ :: cs => v :: layO r cs
  | _ :: _, [] => []
def layL : Nat → List Value → List Value → List Value
  | 0, vs, cs => layO vs cs
  | n + 1, vs, c :: cs => c :: layL n vs cs
  | _ + 1, _, [] => []
theorem setAll_cons (c : Value) : ∀ (vs cs : List Value) (i : Nat), setAll (c :: cs) (i + 1) vs = c :: setAll cs i vs
  | [], _, _ => rfl
  | v :: r, cs, i => by simp only [setAll, List.set_cons_succ]; exact setAll_cons c r (cs.set i v) (i + 1)
theorem layO_eq : ∀ (vs cs : List Value), vs.length ≤ cs.length → layO vs cs = setAll cs 0 vs
  | [], _, _ => rfl
  | v :: r, [], h => by cases h
  | v :: r, c :: cs, h => by
    simp only [layO, setAll, List.set_cons_zero]
    rw [setAll_cons, layO_eq r cs (by simpa using h)]
theorem layL_eq : ∀ (n : Nat) (vs cs : List Value), n + vs.length ≤ cs.length → layL n vs cs = setAll cs n vs
  | 0, vs, cs, h => layO_eq vs cs (by simpa using h)
  | n + 1, vs, [], h => by simp at h
  | n + 1, vs, c :: cs, h => by
    rw [setAll_cons]
    simp only [layL]
    rw [layL_eq n vs cs (by simp at h; omega)]
theorem layO_length : ∀ (vs cs : List Value), (layO vs cs).length = cs.length
  | [], _ => rfl
  | _ :: _, [] => rfl
  | v :: r, c :: cs => by simp only [layO, List.length_cons, layO_length r cs]
theorem layL_length : ∀ (n : Nat) (vs cs : List Value), (layL n vs cs).length = cs.length
  | 0, vs, cs => layO_length vs cs
  | _ + 1, _, [] => rfl
  | n + 1, vs, c :: cs => by simp only [layL, List.length_cons, layL_length n vs cs]
def fillL (place : Nat → Option (Nat × Nat)) (cells : List Value) : List (Nat × Value) → Option (List Value)
  | [] => some cells
  | (i, v) :: rest => match place i with
    | none => none
    | some (off, size) => match Nat.beq v.cells.size size && Nat.ble (off + v.cells.size) cells.length with
      | true => fillL place (layL off v.cells.toList cells) rest
      | false => none
/-- A list written out, cell by cell. -/
def forced : List Value → (List Value → Prop) → Prop
  | [], k => k []
  | v :: r, k => match v with
    | .bool b => forced r fun l => k (.bool b :: l)
    | .int kd n => forced r fun l => k (.int kd n :: l)
    | .string s => forced r fun l => k (.string s :: l)
    | .pointer a => forced r fun l => k (.pointer a :: l)
    | .slice a n c => forced r fun l => k (.slice a n c :: l)
    | .map a => forced r fun l => k (.map a :: l)
    | .func f a b => forced r fun l => k (.func f a b :: l)
    | v => forced r fun l => k (v :: l)
theorem forced_eq (l : List Value) : ∀ (k : List Value → Prop), forced l k → k l := by
  induction l with
  | nil => exact fun _ h => h
  | cons v r ih => intro k h; cases v <;> exact ih _ h

def partVals (fm : Fm) : List (Nat × Operand) → Option (List (Nat × Value))
  | [] => some []
  | (i, x) :: r => match ev fm x with
    | some v => match partVals fm r with
      | some l => some ((i, v) :: l)
      | none => none
    | none => none

def vcBuild (P : Program) (t : TypeId) (fm : Fm) (parts : List (Nat × Operand)) (k : Value → Prop) : Prop :=
  match partVals fm parts with
  | some vs => match P.info? t with
    | some i => match i.zero with
      | some z => match P.underlying t with
        | some (.struct fields) => match fieldSizes P fields.toList with
          | some pl => match fillL (fun j => pl[j]?) z.cells.toList vs with
            | some cs => forced cs fun cs => k (.agg cs.toArray)
            | none => False
          | none => False
        | some (.array _ e) => match P.info? e with
          | some ie => match fillL (fun j => some (j * ie.size, ie.size)) z.cells.toList vs with
            | some cs => forced cs fun cs => k (.agg cs.toArray)
            | none => False
          | none => False
        | _ => False
      | none => False
    | none => False
  | none => False

def evK (fm : Fm) (x : Operand) (k : Value → Prop) : Prop := match ev fm x with
  | some v => k v
  | none => False

def isPure : Op → Bool
  | .move _ | .assign _ | .pick _ _ _ | .load _ _ | .nilCheck _ | .binOp _ _ _ _ _ | .unOp _ _ _ | .slice _ _ _ _ _ | .fieldAddr _ _ _ | .field _ _ _ | .indexAddr _ _ _ | .index _ _ _ | .extract _ _ | .build _ _ | .makeFunc _ _ _ | .sliceToArrayPointer _ _ | .makeInterface _ _ | .typeAssert _ _ _ _ => true
  | .convert _ _ _ | .lookup _ _ _ _ | .entry _ => true
  | .call { callee := .builtin .len, .. } | .call { callee := .builtin .cap, .. } | .call { callee := .builtin .min, .. } | .call { callee := .builtin .max, .. } => true
  | _ => false

/-! ### Maps with whole numbers as keys: key, value, when it was stored. -/
abbrev Ents := List (Int × Value × Nat)
def mI (kd : IntKind) (l : Ents) : List (Value × Value × Nat) := l.map fun e => (.int kd e.1, e.2.1, e.2.2)
def getE (k : Int) : Ents → Option (Value × Nat)
  | [] => none
  | e :: r => if e.1 = k then some e.2 else getE k r
def setE (k : Int) (v : Value) : Ents → Ents
  | [] => []
  | e :: r => if e.1 = k then (e.1, v, e.2.2) :: r else e :: setE k v r
def delE (k : Int) : Ents → Ents
  | [] => []
  | e :: r => if e.1 = k then r else e :: delE k r
def setB (b : Nat) (v : Value) : Ents → Ents
  | [] => []
  | e :: r => if e.2.2 = b then (e.1, v, e.2.2) :: r else e :: setB b v r
def MapAt (kd : IntKind) (b : Nat) (l : Ents) (clock : Nat) : Mp := fun w => (Ob.map b (mI kd l) clock).is w
inductive vcLook (M : Mp) (kd kd' : IntKind) (b : Nat) (n : Int) (X : Option (Value × Nat) → Prop) : Prop
  | intro (hk : kd = kd') (l : Ents) (clock : Nat) (h : Ent M (MapAt kd b l clock)) (r : Option (Value × Nat)) (hr : getE n l = r) (k : X r)
def vcLookup (P : Program) (M : Mp) (t : TypeId) (x i : Value) (ok : Bool) (k : Value → Prop) : Prop :=
  match x, i with
  | .map (some b), .int kd n => match P.underlying t with
    | some (.map kt et) => match P.underlying kt with
      | some (.int kd') => match P.info? et with
        | some inf => match inf.zero with
          | some z => vcLook M kd kd' b n fun r => match ok with
            | true => (match r with
              | some e => k (.tuple #[e.1, .bool true])
              | none => k (.tuple #[z, .bool false]))
            | false => (match r with
              | some e => k e.1
              | none => k z)
          | none => False
        | none => False
      | _ => False
    | _ => False
  | _, _ => False

/-- The entry at which an iterator stands. -/
inductive vcEnt (M : Mp) (r : Nat) (k : Value → Prop) : Prop
  | intro (b since : Nat) (seen : List Nat) (s : Nat) (l : List (Value × Value × Nat)) (clock : Nat) (ht : Ent M (fun w => (Ob.iter r b since (seen ++ [s]) clock).is w)) (hm : Ent M (fun w => (Ob.map b l clock).is w)) (e : Value × Value × Nat) (he : e ∈ l) (hs : e.2.2 = s) (hk : k (.tuple #[e.1, e.2.1]))

def vcPure (P : Program) (M : Mp) (o : Op) (fm : Fm) (k : Value → Prop) : Prop :=
  match o with
  | .move x | .assign x => evK fm x k
  | .pick c a b => evK fm c fun cv => evK fm a fun va => evK fm b fun vb => (match cv with
    | .bool t => vcIf t (k va) (k vb)
    | _ => False)
  | .load t a => evK fm a fun v => vcLoad P M t v k
  | .nilCheck x => evK fm x fun v => (match v with
    | .pointer (some a) => k (.pointer (some a))
    | .func (.func f) u c => k (.func (.func f) u c)
    | _ => False)
  | .binOp op t x y _ => evK fm x fun vx => evK fm y fun vy => vcBin P op t vx vy k
  | .unOp op _ x => evK fm x fun v => vcUn op v k
  | .convert s d x => evK fm x fun v => vcConv P M s d v k
  | .slice t x lo hi mx => vcSlice P t fm x lo hi mx k
  | .fieldAddr t x f => evK fm x fun v => vcFieldAddr P t v f k
  | .field t x f => evK fm x fun v => vcField P t v f k
  | .indexAddr t x i => evK fm x fun vx => evK fm i fun vi => vcIndexAddr P M t vx vi k
  | .index t x i => evK fm x fun vx => evK fm i fun vi => vcIndex P t vx vi k
  | .lookup t x i ok => evK fm x fun vx => evK fm i fun vi => vcLookup P M t vx vi ok k
  | .entry x => evK fm x fun v => (match v with
    | .pointer (some ⟨r, 0, none⟩) => vcEnt M r k
    | _ => False)
  | .extract x i => evK fm x fun v => (match v with
    | .tuple vs => (match vs[i]? with
      | some u => k u
      | none => False)
    | _ => False)
  | .build t parts => vcBuild P t fm parts.toList k
  | .makeFunc f first cap => (match evs fm first.toList with
    | some u => (match evs fm cap.toList with
      | some c => k (.func f u.toArray c.toArray)
      | none => False)
    | none => False)
  | .sliceToArrayPointer t x => evK fm x fun v => (match v with
    | .slice A n _ => (match P.underlying t with
      | some (.array m _) => m ≤ n ∧ vcPtr M A fun A => k (.pointer A)
      | _ => False)
    | _ => False)
  | .makeInterface t x => evK fm x fun v => (match P.underlying t with
    | some (.interface _) => False
    | some _ => k (.iface t v)
    | none => False)
  | .typeAssert x _ t ok => evK fm x fun v => (match v, ok with
    | .iface u v, false => (match P.underlying t with
      | some (.interface _) => False
      | some _ => (match Nat.beq u t with
        | true => k v
        | false => False)
      | none => False)
    | _, _ => False)
  | .call { callee := .builtin .len, args, argTypes } => (match args.toList, argTypes.toList with
    | [x], [t] => evK fm x fun v => vcLen P t v k
    | _, _ => False)
  | .call { callee := .builtin .cap, args, argTypes } => (match args.toList, argTypes.toList with
    | [x], [t] => evK fm x fun v => vcCap P t v k
    | _, _ => False)
  | .call { callee := .builtin .min, args, .. } => (match evs fm args.toList with
    | some (.int kd x :: r) => (match foldMin x r with
      | some n => k (.int kd n)
      | none => False)
    | _ => False)
  | .call { callee := .builtin .max, args, .. } => (match evs fm args.toList with
    | some (.int kd x :: r) => (match foldMax x r with
      | some n => k (.int kd n)
      | none => False)
    | _ => False)
  | _ => False

/-! ### Reading objects -/
theorem add_add (a : Addr) (i j : Nat) : (a.add i).add j = a.add (i + j) := by
  unfold Addr.add
  by_cases hi : i = 0 <;> by_cases hj : j = 0 <;> simp [hi, hj, Nat.add_assoc]

theorem RowAt.nil {A : Option Addr} {w : World} : RowAt A [] w := fun i u h => by simp at h
theorem TailObj.at_ {w : World} {a : Addr} {ty : TypeId} {xs : List Value} {m : Nat} {o : Obj} (hs : a.spot = none) (ho : w.heap[a.block]? = some o) (h : TailObj a.off ty xs m o) : RowAt (some a) xs w := by
  obtain ⟨pre, sp, post, fz, hp, hl, rfl, hf⟩ := h
  obtain ⟨bb, off, spot⟩ := a
  simp only at hs hp ho
  subst hs
  intro i u hi
  refine ⟨_, rfl, ?_⟩
  have hlt : i < xs.length := (List.getElem?_eq_some_iff.1 hi).1
  have hadd : (⟨bb, off, none⟩ : Addr).add i = ⟨bb, off + i, none⟩ := by unfold Addr.add; split <;> simp_all
  rw [hadd]
  simp only [World.cell?, ho, Option.isSome_none, Bool.false_eq_true, if_false, List.getElem?_toArray]
  rw [List.getElem?_append_right (by omega), hp, Nat.add_sub_cancel_left, List.getElem?_append_left hlt]
  exact hi
theorem Ob.row_at {w : World} {b : Nat} {ty : TypeId} {xs : List Value} {m : Nat} (h : (Ob.row b ty xs m).is w) : RowAt (some ⟨b, 0, none⟩) xs w := by
  obtain ⟨o, ho, h⟩ := h
  exact TailObj.at_ rfl ho h
theorem Ob.sl_at {w : World} {A : Option Addr} {cap : Nat} {ty : TypeId} {size : Nat} {xs : List Value} (h : (Ob.sl A cap ty size xs).is w) : RowAt A xs w := by
  cases A with
  | none => obtain ⟨_, rfl⟩ := h; exact RowAt.nil
  | some a =>
    obtain ⟨h2, o, ho, hr⟩ := h
    exact TailObj.at_ h2 ho hr
theorem Ob.sl_len {w : World} {A : Option Addr} {cap : Nat} {ty : TypeId} {size : Nat} {xs : List Value} (h : (Ob.sl A cap ty size xs).is w) : xs.length ≤ cap * size := by
  cases A with
  | none => obtain ⟨rfl, rfl⟩ := h; simp
  | some a => obtain ⟨_, o, _, pre, sp, post, fz, _, hl, _⟩ := h; omega
end Go.Proofs.Yticllmnblcjjcaa
