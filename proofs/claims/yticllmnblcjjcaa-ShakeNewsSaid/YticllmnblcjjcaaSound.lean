/- The operations that only read do in the model what they are said to do. -/
import Derived.Test.YticllmnblcjjcaaEq
import Derived.Laws.IdiomStrings
import Derived.MapKept
namespace Go.Proofs.Yticllmnblcjjcaa

section
variable {P : Program} {M : Mp}

theorem run_under {t : TypeId} {d : TypeDesc} (h : P.underlying t = some d) (w : World) : (underlying t).run P w = .ok d w := by
  simp [underlying, h]
theorem run_info {t : TypeId} {i : TypeInfo} (h : P.info? t = some i) (w : World) : (typeInfo t).run P w = .ok i w := by
  simp [typeInfo, h]
theorem run_size {t : TypeId} {i : TypeInfo} (h : P.info? t = some i) (w : World) : (sizeOf t).run P w = .ok i.size w := by
  simp [sizeOf, run_info h]
theorem run_zero {t : TypeId} {i : TypeInfo} {z : Value} (h : P.info? t = some i) (hz : i.zero = some z) (w : World) : (zeroValue t).run P w = .ok z w := by
  simp [zeroValue, run_info h, hz]

def IsAgg : TypeDesc → Bool
  | .struct _ | .array _ _ => true
  | _ => false
theorem run_isAgg {t : TypeId} {d : TypeDesc} (h : P.underlying t = some d) (w : World) : (isAgg t).run P w = .ok (IsAgg d) w := by
  simp only [isAgg, Sem.run_bind, run_under h, Result.andThen_ok]
  cases d <;> rfl

/-- What a pure operation owes. -/
def Gives (P : Program) (M : Mp) (s : Sem Value) (k : Value → Prop) : Prop := ∃ v, k v ∧ ∀ w, M w → s.run P w = .ok v w

theorem Gives.pure {v : Value} {k : Value → Prop} (h : k v) : Gives P M (pure v) k := ⟨v, h, fun _ _ => rfl⟩

theorem vcInt_gives {op : BinOp} {kd : IntKind} {a b : Int} {k : Value → Prop} (h : vcInt op kd a b k) (t : TypeId) : Gives P M (binOp op t (.int kd a) (.int kd b)) k := by
  cases op with
  | add => exact ⟨_, vcFit.out h, fun w _ => by simp [binOp, Op.intArith]⟩
  | sub => exact ⟨_, vcFit.out h, fun w _ => by simp [binOp, Op.intArith]⟩
  | mul => exact ⟨_, vcFit.out h, fun w _ => by simp [binOp, Op.intArith]⟩
  | quo => exact ⟨_, vcQuo.out h, fun w _ => by simp [binOp, Op.intDiv, vcQuo.ne h]⟩
  | rem => exact ⟨_, vcRem.out h, fun w _ => by simp [binOp, Op.intDiv, vcRem.ne h]⟩
  | and => exact ⟨_, vcBit.out h, fun w _ => by simp [binOp, Op.intBits, bitI]⟩
  | or => exact ⟨_, vcBit.out h, fun w _ => by simp [binOp, Op.intBits, bitI]⟩
  | xor => exact ⟨_, vcBit.out h, fun w _ => by simp [binOp, Op.intBits, bitI]⟩
  | andNot => exact ⟨_, vcBit.out h, fun w _ => by simp [binOp, Op.intBits, bitI]⟩
  | shl => exact h.elim
  | shr => exact h.elim
  | eql => exact ⟨_, h, fun w _ => by simp [binOp, Op.intCmp]; rfl⟩
  | neq => exact ⟨_, h, fun w _ => by simp [binOp, Op.intCmp]; rfl⟩
  | lss => exact ⟨_, h, fun w _ => by simp [binOp, Op.intCmp]⟩
  | leq => exact ⟨_, h, fun w _ => by simp [binOp, Op.intCmp]⟩
  | gtr => exact ⟨_, h, fun w _ => by simp [binOp, Op.intCmp]⟩
  | geq => exact ⟨_, h, fun w _ => by simp [binOp, Op.intCmp]⟩

theorem vcStr_gives {op : BinOp} {a b : ByteArray} {k : Value → Prop} (h : vcStrOp op a b k) (t : TypeId) : Gives P M (binOp op t (.string a) (.string b)) k := by
  cases op with
  | eql => exact ⟨_, h, fun w _ => by simp [binOp, Op.stringOp]⟩
  | neq => exact ⟨_, h, fun w _ => by simp [binOp, Op.stringOp]⟩
  | add =>
    refine ⟨_, h.2, fun w _ => ?_⟩
    have := h.1
    simp only [binOp, Op.stringOp]
    rw [if_neg (by omega)]
    rfl
  | _ => exact h.elim

theorem eq_bool {t : TypeId} (h : P.underlying t = some .bool) (a b : Bool) (w : World) : (Op.equal t (.bool a) (.bool b)).run P w = .ok (a == b) w := by
  have k : ∀ d : Nat, (Op.equalIn (d + 1) t (.bool a) (.bool b)).run P w = .ok (a == b) w := fun d => by simp [Op.equalIn, run_under h]
  exact k 9999
theorem eq_slice_nil {t e : TypeId} (h : P.underlying t = some (.slice e)) (A : Option Addr) (n c n' c' : Nat) (w : World) : (Op.equal t (.slice A n c) (.slice none n' c')).run P w = .ok A.isNone w := by
  have k : ∀ d : Nat, (Op.equalIn (d + 1) t (.slice A n c) (.slice none n' c')).run P w = .ok A.isNone w := fun d => by cases A <;> simp [Op.equalIn, run_under h]
  exact k 9999
theorem eq_ptr_nil {t e : TypeId} (h : P.underlying t = some (.pointer e)) (A : Option Addr) (w : World) : (Op.equal t (.pointer A) (.pointer none)).run P w = .ok A.isNone w := by
  have k : ∀ d : Nat, (Op.equalIn (d + 1) t (.pointer A) (.pointer none)).run P w = .ok A.isNone w := fun d => by cases A <;> simp [Op.equalIn, run_under h]
  exact k 9999
theorem eq_map_nil {t k' e : TypeId} (h : P.underlying t = some (.map k' e)) (A : Option Nat) (w : World) : (Op.equal t (.map A) (.map none)).run P w = .ok A.isNone w := by
  have k : ∀ d : Nat, (Op.equalIn (d + 1) t (.map A) (.map none)).run P w = .ok A.isNone w := fun d => by cases A <;> simp [Op.equalIn, run_under h]
  exact k 9999
theorem eq_func_nil {t : TypeId} {a b : Array TypeId} {v : Bool} (h : P.underlying t = some (.func a b v)) (f : Fn) (x y : Array Value) (w : World) : (Op.equal t (.func f x y) .nilFunc).run P w = .ok false w := by
  have k : ∀ d : Nat, (Op.equalIn (d + 1) t (.func f x y) .nilFunc).run P w = .ok false w := fun d => by simp [Op.equalIn, run_under h]
  exact k 9999
theorem eq_nil_func {t : TypeId} {a b : Array TypeId} {v : Bool} (h : P.underlying t = some (.func a b v)) (w : World) : (Op.equal t .nilFunc .nilFunc).run P w = .ok true w := by
  have k : ∀ d : Nat, (Op.equalIn (d + 1) t .nilFunc .nilFunc).run P w = .ok true w := fun d => by simp [Op.equalIn, run_under h]
  exact k 9999

theorem vcEql_gives {t : TypeId} {x y : Value} {k : Bool → Prop} (h : vcEql P t x y k) :
    ∃ b, k b ∧ (∀ w, (Op.equal t x y).run P w = .ok b w) ∧ (x ≠ .nilIface ∧ ∀ c, x ≠ .agg c) ∧
      (binOp .eql t x y = (do pure (.bool (← Op.equal t x y)))) ∧ (binOp .neq t x y = (do pure (.bool (!(← Op.equal t x y))))) := by
  unfold vcEql at h
  split at h
  · split at h
    · rename_i hu; exact ⟨_, h, eq_bool hu _ _, ⟨nofun, nofun⟩, rfl, rfl⟩
    · exact h.elim
  · split at h
    · rename_i hu; exact ⟨_, h, eq_slice_nil hu _ _ _ _ _, ⟨nofun, nofun⟩, rfl, rfl⟩
    · exact h.elim
  · split at h
    · rename_i hu; exact ⟨_, h, eq_ptr_nil hu _, ⟨nofun, nofun⟩, rfl, rfl⟩
    · exact h.elim
  · split at h
    · rename_i hu; exact ⟨_, h, eq_map_nil hu _, ⟨nofun, nofun⟩, rfl, rfl⟩
    · exact h.elim
  · split at h
    · rename_i hu; exact ⟨_, h, eq_func_nil hu _ _ _, ⟨nofun, nofun⟩, rfl, rfl⟩
    · exact h.elim
  · split at h
    · rename_i hu; exact ⟨_, h, eq_nil_func hu, ⟨nofun, nofun⟩, rfl, rfl⟩
    · exact h.elim
  · exact h.elim

theorem shl_run {kx ky : IntKind} {a b : Int} (h : 0 ≤ b) (t : TypeId) (w : World) : (binOp .shl t (.int kx a) (.int ky b)).run P w = .ok (.int kx (kx.wrap (a * 2 ^ (min b.toNat kx.bits)))) w := by
  simp only [binOp, Op.shift]
  rw [if_neg (by omega)]
  rfl
theorem shr_run {kx ky : IntKind} {a b : Int} (h : 0 ≤ b) (t : TypeId) (w : World) : (binOp .shr t (.int kx a) (.int ky b)).run P w = .ok (.int kx (a.fdiv (2 ^ (min b.toNat kx.bits)))) w := by
  simp only [binOp, Op.shift]
  rw [if_neg (by omega)]
  rfl

theorem vcBin_gives {op : BinOp} {t : TypeId} {x y : Value} {k : Value → Prop} (h : vcBin P op t x y k) (X Y : Operand) :
    Gives P M (do eqGuard op t X Y x y; binOp op t x y) k := by
  have hg : ∀ w, x ≠ .nilIface → (∀ c, x ≠ .agg c) → (eqGuard op t X Y x y).run P w = .ok () w := by
    intro w h1 h2
    unfold eqGuard
    cases x <;> first | exact (h1 rfl).elim | exact (h2 _ rfl).elim | (cases op <;> rfl)
  have fin : ∀ (s : Sem Value), x ≠ .nilIface → (∀ c, x ≠ .agg c) → s = binOp op t x y → Gives P M s k → Gives P M (do eqGuard op t X Y x y; binOp op t x y) k := by
    rintro s h1 h2 rfl ⟨v, hv, hr⟩
    exact ⟨v, hv, fun w hw => by simp [hg w h1 h2, hr w hw]⟩
  unfold vcBin at h
  split at h
  · rename_i kx a ky b
    split at h
    · exact fin _ (by simp) (by simp) rfl ⟨_, h.2, fun w _ => shl_run h.1 t w⟩
    · exact fin _ (by simp) (by simp) rfl ⟨_, h.2, fun w _ => shr_run h.1 t w⟩
    · split at h
      · rename_i hk
        obtain rfl := kindEq_eq hk
        exact fin _ (by simp) (by simp) rfl (vcInt_gives h t)
      · exact h.elim
  · exact fin _ (by simp) (by simp) rfl (vcStr_gives h t)
  · rename_i xs ys
    split at h
    · obtain ⟨b, hb, hr, hg'⟩ := vcEqA_gives h
      refine ⟨.bool b, hb, fun w _ => ?_⟩
      simp only [Sem.run_bind, run_eqGuard_agg w _ _ _ _ _ _ hg', Result.andThen_ok]
      show (do pure (.bool (← Op.equal t (.agg xs) (.agg ys))) : Sem Value).run P w = _
      simp [hr w]
    · obtain ⟨b, hb, hr, hg'⟩ := vcEqA_gives h
      refine ⟨.bool (!b), hb, fun w _ => ?_⟩
      simp only [Sem.run_bind, run_eqGuard_agg w _ _ _ _ _ _ hg', Result.andThen_ok]
      show (do pure (.bool (!(← Op.equal t (.agg xs) (.agg ys)))) : Sem Value).run P w = _
      simp [hr w]
    · exact h.elim
  · split at h
    · obtain ⟨b, hb, hr, ⟨h1, h2⟩, e1, _⟩ := vcEql_gives h
      exact fin _ h1 h2 rfl ⟨.bool b, hb, fun w _ => by rw [e1]; simp [hr w]⟩
    · obtain ⟨b, hb, hr, ⟨h1, h2⟩, _, e2⟩ := vcEql_gives h
      exact fin _ h1 h2 rfl ⟨.bool (!b), hb, fun w _ => by rw [e2]; simp [hr w]⟩
    · exact h.elim

theorem vcUn_gives {op : UnOp} {x : Value} {k : Value → Prop} (h : vcUn op x k) : Gives P M (Op.unary op x) k := by
  unfold vcUn at h
  split at h
  · exact ⟨_, h, fun w _ => rfl⟩
  · exact ⟨_, h.out, fun w _ => by simp [Op.unary, Op.intArith]⟩
  · exact ⟨_, h.out, fun w _ => by simp [Op.unary, Op.intBits, bitI]⟩
  · exact h.elim

theorem run_load_cell {a : Addr} {v : Value} {w : World} (h : w.cell? a = some v) : (load a).run P w = .ok v w := by simp [h]
theorem loadCells_run {a : Addr} {w : World} : ∀ (vs : List Value) (i : Nat) (acc : Array Value), (∀ j, j < vs.length → w.cell? (a.add (i + j)) = vs[j]?) → (loadCellsFrom a i vs.length acc).run P w = .ok (acc ++ vs.toArray) w
  | [], i, acc, _ => by simp [loadCellsFrom]
  | v :: r, i, acc, h => by
    have h0 : w.cell? (a.add i) = some v := by simpa using h 0 (by simp)
    simp only [List.length_cons, loadCellsFrom, Sem.run_bind, run_load_cell h0, Result.andThen_ok]
    rw [loadCells_run r (i + 1) (acc.push v) (fun j hj => by
      have := h (j + 1) (by simp; omega)
      rw [show i + 1 + j = i + (j + 1) from by omega, this]
      simp)]
    have : acc.push v ++ r.toArray = acc ++ (v :: r).toArray := by apply Array.ext'; simp
    rw [this]

theorem vcLoad_gives {t : TypeId} {x : Value} {k : Value → Prop} (h : vcLoad P M t x k) : Gives P M (Instr.loadAt t x) k := by
  unfold vcLoad at h
  split at h
  · rename_i a
    have agg : ∀ d i, P.underlying t = some d → IsAgg d = true → P.info? t = some i → vcLoadN M a i.size (fun vs => k (.agg vs.toArray)) → Gives P M (Instr.loadAt t (.pointer (some a))) k := by
      rintro d i hd hagg hi ⟨vs, hl, hm, hk⟩
      refine ⟨_, hk, fun w hw => ?_⟩
      have hc := hm w hw
      simp only [Instr.loadAt, Instr.sureAddr, Sem.run_bind, Sem.run_pure, Result.andThen_ok, loadVar, run_isAgg hd, hagg, if_true, run_size hi, loadCells, ← hl]
      rw [loadCells_run vs 0 #[] (fun j hj => by simpa using hc j (by omega))]
      simp
    split at h
    · rename_i hu
      split at h
      · rename_i hi; rw [natK_eq] at h; exact agg _ _ hu rfl hi h
      · exact h.elim
    · rename_i hu
      split at h
      · rename_i hi; rw [natK_eq] at h; exact agg _ _ hu rfl hi h
      · exact h.elim
    · rename_i d n1 n2 hu
      obtain ⟨v, hm, hk⟩ := h
      refine ⟨v, hk, fun w hw => ?_⟩
      have hag : IsAgg d = false := by
        cases d <;> first | rfl | exact (n1 _ rfl).elim | exact (n2 _ _ rfl).elim
      simp only [Instr.loadAt, Instr.sureAddr, Sem.run_bind, Sem.run_pure, Result.andThen_ok, loadVar, run_isAgg hu, hag, Bool.false_eq_true, if_false]
      exact run_load_cell (hm w hw)
    · exact h.elim
  · exact h.elim

theorem valI_some {fm : Fm} {x : Option Operand} {d : Int} {k : Int → Prop} (h : valI fm x d k) : ∃ n, k n ∧ ((x = none ∧ n = d) ∨ ∃ y kd, x = some y ∧ ev fm y = some (.int kd n)) := by
  unfold valI at h
  split at h
  · exact ⟨d, h, .inl ⟨rfl, rfl⟩⟩
  · split at h
    · rename_i y _ kd n he; exact ⟨n, h, .inr ⟨y, kd, rfl, he⟩⟩
    · exact h.elim

theorem valI_none {fm : Fm} {d : Int} {K : Int → Prop} : valI fm none d K = K d := rfl
theorem valI_mono {fm : Fm} {x : Option Operand} {d : Int} {K K' : Int → Prop} (h : valI fm x d K) (h2 : ∀ z, K z → K' z) : valI fm x d K' := by
  unfold valI at h ⊢
  split
  · exact h2 _ h
  · rename_i y
    dsimp only at h
    generalize ev fm y = q at h ⊢
    split at h
    · exact h2 _ h
    · exact h.elim

theorem sliceBound_run {kd : IntKind} {n : Int} {y : Nat} {c : BoundsCode} (h : 0 ≤ n ∧ n ≤ y) (w : World) : (Instr.sliceBound (.int kd n) y c).run P w = .ok n.toNat w := by
  simp [Instr.sliceBound, asIntOf, h]

theorem sliceBounds_run {D : Env} {isS : Bool} {len cap : Nat} {fm : Fm} {n : Nat} {a : Act} (hf : FmOk D n fm a) {lo hi mx : Option Operand} {K : Int → Int → Int → Prop}
    (hmx : (isNoneB hi && !isNoneB mx) = false) (h : valI fm mx cap fun m => valI fm hi len fun h => valI fm lo 0 fun l => K l h m) (hK : ∀ l h m, K l h m → 0 ≤ l ∧ l ≤ h ∧ h ≤ m ∧ m ≤ cap) :
    ∃ l h m, K l h m ∧ ∀ w, (Instr.sliceBounds isS len cap (lo.map a.eval) (hi.map a.eval) (mx.map a.eval)).run P w = .ok (l.toNat, h.toNat, m.toNat) w := by
  obtain ⟨m, h, hm⟩ := valI_some h
  obtain ⟨hh, h, hhi⟩ := valI_some h
  obtain ⟨l, h, hl⟩ := valI_some h
  obtain ⟨k1, k2, k3, k4⟩ := hK l hh m h
  refine ⟨l, hh, m, h, fun w => ?_⟩
  have em : ∀ y, mx = some y → ∃ kd, a.eval y = .int kd m := fun y e => by
    rcases hm with ⟨e', _⟩ | ⟨y', kd, e', he⟩
    · rw [e] at e'; cases e'
    · rw [e] at e'; cases e'; exact ⟨kd, hf.eval_ he⟩
  have eh : ∀ y, hi = some y → ∃ kd, a.eval y = .int kd hh := fun y e => by
    rcases hhi with ⟨e', _⟩ | ⟨y', kd, e', he⟩
    · rw [e] at e'; cases e'
    · rw [e] at e'; cases e'; exact ⟨kd, hf.eval_ he⟩
  have el : ∀ y, lo = some y → ∃ kd, a.eval y = .int kd l := fun y e => by
    rcases hl with ⟨e', _⟩ | ⟨y', kd, e', he⟩
    · rw [e] at e'; cases e'
    · rw [e] at e'; cases e'; exact ⟨kd, hf.eval_ he⟩
  have dm : mx = none → m = cap := fun e => by
    rcases hm with ⟨_, e'⟩ | ⟨y', kd, e', he⟩
    · exact e'
    · rw [e] at e'; cases e'
  have dh : hi = none → hh = len := fun e => by
    rcases hhi with ⟨_, e'⟩ | ⟨y', kd, e', he⟩
    · exact e'
    · rw [e] at e'; cases e'
  have dl : lo = none → l = 0 := fun e => by
    rcases hl with ⟨_, e'⟩ | ⟨y', kd, e', he⟩
    · exact e'
    · rw [e] at e'; cases e'
  have hmn : ((m.toNat : Nat) : Int) = m := by omega
  have hhn : ((hh.toNat : Nat) : Int) = hh := by omega
  cases mx with
  | none =>
    have e1 := dm rfl
    cases hi with
    | none =>
      have e2 := dh rfl
      cases lo with
      | none =>
        have e3 := dl rfl
        subst e1; subst e2; subst e3
        simp [Instr.sliceBounds]
      | some y =>
        obtain ⟨kd, e3⟩ := el y rfl
        subst e1; subst e2
        simp only [Instr.sliceBounds, Option.map_none, Option.map_some, Sem.run_bind, Sem.run_pure, Result.andThen_ok, e3]
        rw [sliceBound_run (by omega)]
        simp
    | some x =>
      obtain ⟨kd', e2⟩ := eh x rfl
      cases lo with
      | none =>
        have e3 := dl rfl
        subst e1; subst e3
        simp only [Instr.sliceBounds, Option.map_none, Option.map_some, Sem.run_bind, Sem.run_pure, Result.andThen_ok, e2]
        rw [sliceBound_run (by omega)]
        simp
      | some y =>
        obtain ⟨kd, e3⟩ := el y rfl
        subst e1
        simp only [Instr.sliceBounds, Option.map_none, Option.map_some, Sem.run_bind, Sem.run_pure, Result.andThen_ok, e2, e3]
        rw [sliceBound_run (by omega)]
        simp only [Result.andThen_ok]
        rw [sliceBound_run (by omega)]
        simp
  | some z =>
    obtain ⟨kd'', e1⟩ := em z rfl
    cases hi with
    | none => simp [isNoneB] at hmx
    | some x =>
      obtain ⟨kd', e2⟩ := eh x rfl
      cases lo with
      | none =>
        have e3 := dl rfl
        subst e3
        simp only [Instr.sliceBounds, Option.map_none, Option.map_some, Sem.run_bind, Sem.run_pure, Result.andThen_ok, e1, e2]
        rw [sliceBound_run (by omega)]
        simp only [Result.andThen_ok]
        rw [sliceBound_run (by omega)]
        simp
      | some y =>
        obtain ⟨kd, e3⟩ := el y rfl
        simp only [Instr.sliceBounds, Option.map_some, Sem.run_bind, Sem.run_pure, e1, e2, e3]
        rw [sliceBound_run (by omega)]
        simp only [Result.andThen_ok]
        rw [sliceBound_run (by omega)]
        simp only [Result.andThen_ok]
        rw [sliceBound_run (by omega)]
        simp

theorem isNoneB_none {α : Type} {x : Option α} (h : isNoneB x = true) : x = none := by cases x <;> first | rfl | cases h

theorem vcSlice_gives {D : Env} {t : TypeId} {fm : Fm} {n : Nat} {a : Act} (hf : FmOk D n fm a) {x : Operand} {lo hi mx : Option Operand} {k : Value → Prop} (h : vcSlice P t fm x lo hi mx k) :
    Gives P M (Instr.sliceAt t (a.eval x) (lo.map a.eval) (hi.map a.eval) (mx.map a.eval)) k := by
  unfold vcSlice at h
  split at h
  · rename_i A len cap he
    have ex := hf.eval_ he
    split at h
    · rename_i e hu
      split at h
      · rename_i i hi'
        split at h
        · exact h.elim
        · rename_i hb
          simp only [natK_eq] at h
          obtain ⟨l, hh, m, hk, hr⟩ := sliceBounds_run (P := P) (isS := true) hf hb h (K := fun l h m => vcSlice3 A i.size cap l h m k) (fun l h m hk => ⟨hk.1.1, hk.1.2.1, hk.1.2.2, hk.2.1⟩)
          refine ⟨_, hk.2.2, fun w _ => ?_⟩
          simp only [Instr.sliceAt, Sem.run_bind, run_under hu, Result.andThen_ok, ex, Instr.slice, hr w, run_size hi', Sem.run_pure]
          rfl
      · exact h.elim
    · exact h.elim
  · rename_i ad he
    have ex := hf.eval_ he
    split at h
    · rename_i n' e hu
      split at h
      · rename_i i hi'
        split at h
        · exact h.elim
        · rename_i hb
          have hmx := isNoneB_none hb
          subst hmx
          simp only [natK_eq] at h
          obtain ⟨l, hh, m, hk, hr⟩ := sliceBounds_run (P := P) (isS := false) (len := n') (cap := n') (mx := none) hf (by simp [isNoneB]) (lo := lo) (hi := hi)
            (K := fun l h m => m = n' ∧ vcRange l h n' (k (.slice (cutA (some ad) n' l.toNat i.size) (h.toNat - l.toNat) (n' - l.toNat)))) (h := by
              obtain ⟨hh, h, e1⟩ := valI_some h
              obtain ⟨l, h, e2⟩ := valI_some h
              have f2 : valI fm lo 0 (fun l' => l' = l) := by
                rcases e2 with ⟨rfl, rfl⟩ | ⟨y, kd, rfl, he⟩
                · rfl
                · simp [valI, he]
              have f1 : valI fm hi n' (fun l' => l' = hh) := by
                rcases e1 with ⟨rfl, rfl⟩ | ⟨y, kd, rfl, he⟩
                · rfl
                · simp [valI, he]
              rw [valI_none]
              exact valI_mono f1 (fun z hz => by subst hz; exact valI_mono f2 (fun z hz => by subst hz; exact ⟨rfl, h⟩)))
            (fun l h m hk => ⟨hk.2.1.1, hk.2.1.2.1, by rw [hk.1]; exact hk.2.1.2.2, by omega⟩)
          obtain ⟨rfl, hk⟩ := hk
          refine ⟨_, hk.2, fun w _ => ?_⟩
          simp only [Instr.sliceAt, Sem.run_bind, run_under hu, Result.andThen_ok, ex, Instr.sureAddr, Sem.run_pure]
          rw [show (Option.map a.eval (none : Option Operand)) = none from rfl] at hr
          cases mx : (Option.map a.eval (none : Option Operand)) with
          | some _ => cases mx
          | none =>
            simp only [hr w, Result.andThen_ok, run_size hi', Int.toNat_natCast]
            congr 2
            unfold cutA
            split <;> rfl
      · exact h.elim
    · exact h.elim
  · rename_i s he
    have ex := hf.eval_ he
    split at h
    · rename_i hu
      split at h
      · exact h.elim
      · rename_i hb
        have hmx := isNoneB_none hb
        subst hmx
        obtain ⟨hh, h, e1⟩ := valI_some h
        obtain ⟨l, h, e2⟩ := valI_some h
        refine ⟨_, h.2, fun w _ => ?_⟩
        obtain ⟨hr1, hr2, hr3⟩ := h.1
        have hhn : ((hh.toNat : Nat) : Int) = hh := by omega
        simp only [Instr.sliceAt, Sem.run_bind, run_under hu, Result.andThen_ok, ex, Instr.slice, Option.map_none, Option.isSome_none, Bool.false_eq_true, if_false, Sem.run_pure]
        rcases e1 with ⟨rfl, rfl⟩ | ⟨y, kd, rfl, he1⟩ <;> rcases e2 with ⟨rfl, rfl⟩ | ⟨y', kd', rfl, he2⟩
        · simp [Instr.sliceBounds]
        · simp only [Instr.sliceBounds, Option.map_none, Option.map_some, Sem.run_bind, Sem.run_pure, Result.andThen_ok, hf.eval_ he2]
          rw [sliceBound_run (by omega)]; simp
        · simp only [Instr.sliceBounds, Option.map_none, Option.map_some, Sem.run_bind, Sem.run_pure, Result.andThen_ok, hf.eval_ he1]
          rw [sliceBound_run (by omega)]; simp
        · simp only [Instr.sliceBounds, Option.map_some, Sem.run_bind, Sem.run_pure, Result.andThen_ok, hf.eval_ he1, hf.eval_ he2]
          rw [sliceBound_run (by omega)]; simp only [Result.andThen_ok]; rw [sliceBound_run (by omega)]; simp
    · exact h.elim
  · exact h.elim

theorem vcField_gives {t : TypeId} {x : Value} {f : Nat} {k : Value → Prop} (h : vcField P t x f k) : Gives P M (Instr.field t x f) k := by
  unfold vcField at h
  split at h
  · rename_i cs
    split at h
    · rename_i fields hu
      split at h
      · rename_i fd hfd
        have agg : ∀ d i, P.underlying fd.type = some d → IsAgg d = true → P.info? fd.type = some i → k (.agg (cs.extract fd.offset (fd.offset + i.size))) → Gives P M (Instr.field t (.agg cs) f) k := by
          intro d i hd hagg hi hk
          exact ⟨_, hk, fun w _ => by simp [Instr.field, run_under hu, hfd, asAgg, part, run_isAgg hd, hagg, run_size hi]⟩
        split at h
        · rename_i hd
          split at h
          · rename_i hi; exact agg _ _ hd rfl hi h
          · exact h.elim
        · rename_i hd
          split at h
          · rename_i hi; exact agg _ _ hd rfl hi h
          · exact h.elim
        · rename_i d n1 n2 hd
          split at h
          · rename_i v hv
            have hag : IsAgg d = false := by
              cases d <;> first | rfl | exact (n1 _ rfl).elim | exact (n2 _ _ rfl).elim
            exact ⟨_, h, fun w _ => by simp [Instr.field, run_under hu, hfd, asAgg, part, run_isAgg hd, hag, hv]⟩
          · exact h.elim
        · exact h.elim
      · exact h.elim
    · exact h.elim
  · exact h.elim

theorem vcFieldAddr_gives {t : TypeId} {x : Value} {f : Nat} {k : Value → Prop} (h : vcFieldAddr P t x f k) : Gives P M (Instr.fieldAt t x f) k := by
  unfold vcFieldAddr at h
  split at h
  · split at h
    · rename_i fields hu
      split at h
      · rename_i fd hfd
        split at h
        · rename_i i hi
          split at h
          · exact h.elim
          · rename_i hb
            have hne : i.size ≠ 0 := Nat.ne_of_beq_eq_false hb
            exact ⟨_, h, fun w _ => by simp [Instr.fieldAt, run_under hu, hfd, Instr.sureAddr, fieldPlace, run_size hi, hne]⟩
        · exact h.elim
      · exact h.elim
    · exact h.elim
  · exact h.elim

theorem vcIndexAddr_gives (hM : ∃ w, M w) {t : TypeId} {x i : Value} {k : Value → Prop} (h : vcIndexAddr P M t x i k) : Gives P M (Instr.indexAt t x i) k := by
  unfold vcIndexAddr at h
  split at h
  · split at h
    · rename_i e hu
      split at h
      · rename_i inf hi
        rw [natK_eq] at h
        obtain ⟨a, rfl, h0, h1, hk⟩ := h.out hM
        rw [atK_eq] at hk
        exact ⟨_, hk, fun w _ => by simp [Instr.indexAt, asIntOf, run_under hu, run_size hi, h0, h1]⟩
      · exact h.elim
    · exact h.elim
  · split at h
    · rename_i len e hu
      split at h
      · rename_i inf hi
        rw [natK_eq] at h
        obtain ⟨⟨h0, h1⟩, hk⟩ := h
        rw [atK_eq] at hk
        exact ⟨_, hk, fun w _ => by simp [Instr.indexAt, asIntOf, Instr.sureAddr, run_under hu, run_size hi, h0, h1]⟩
      · exact h.elim
    · exact h.elim
  · exact h.elim

theorem vcIndex_gives {t : TypeId} {x i : Value} {k : Value → Prop} (h : vcIndex P t x i k) : Gives P M (Instr.index t x i) k := by
  unfold vcIndex at h
  split at h
  · rename_i cs _ n
    split at h
    · rename_i len e hu
      split at h
      · exact h.elim
      · exact h.elim
      · rename_i d n1 n2 hd
        split at h
        · rename_i inf hi
          split at h
          · rename_i hb
            obtain ⟨⟨h0, h1⟩, v, hv, hk⟩ := h
            have hs : inf.size = 1 := Nat.eq_of_beq_eq_true hb
            have hag : IsAgg d = false := by
              cases d <;> first | rfl | exact (n1 _ rfl).elim | exact (n2 _ _ rfl).elim
            exact ⟨v, hk, fun w _ => by simp [Instr.index, asIntOf, run_under hu, h0, h1, part, run_isAgg hd, hag, run_size hi, hs, hv]⟩
          · exact h.elim
        · exact h.elim
      · exact h.elim
    · exact h.elim
  · rename_i s _ n
    split at h
    · rename_i hu
      obtain ⟨⟨h0, h1⟩, b, hb, hk⟩ := h
      exact ⟨_, hk, fun w _ => by simp [Instr.index, asIntOf, run_under hu, h0, hb]⟩
    · exact h.elim
  · exact h.elim

theorem vcLen_gives {t : TypeId} {x : Value} {k : Value → Prop} (h : vcLen P t x k) (ty : TypeId) : Gives P M (Builtin.len_ #[t] ty #[x]) k := by
  unfold vcLen at h
  split at h
  · rename_i hu; exact ⟨_, h, fun w _ => by simp [Builtin.len_, run_under hu, goInt]⟩
  · rename_i hu; exact ⟨_, h, fun w _ => by simp [Builtin.len_, run_under hu, goInt]⟩
  · rename_i hu; exact ⟨_, h, fun w _ => by simp [Builtin.len_, run_under hu, goInt]⟩
  · rename_i hu; exact ⟨_, h, fun w _ => by simp [Builtin.len_, run_under hu, goInt]⟩
  · exact h.elim
theorem vcCap_gives {t : TypeId} {x : Value} {k : Value → Prop} (h : vcCap P t x k) (ty : TypeId) : Gives P M (Builtin.cap_ #[t] ty #[x]) k := by
  unfold vcCap at h
  split at h
  · rename_i hu; exact ⟨_, h, fun w _ => by simp [Builtin.cap_, run_under hu, goInt]⟩
  · exact h.elim

theorem foldMin_run {kd : IntKind} : ∀ (r : List Value) (x n : Int), foldMin x r = some n → ∀ w, (r.foldlM Builtin.min2 (.int kd x)).run P w = .ok (.int kd n) w
  | [], x, n, h, w => by simp [foldMin] at h; subst h; rfl
  | v :: r, x, n, h, w => by
    unfold foldMin at h
    split at h
    · rename_i e; cases e
    · rename_i e; cases e
      have := foldMin_run (kd := kd) r _ n h w
      simpa [Builtin.min2] using this
    · cases h
theorem foldMax_run {kd : IntKind} : ∀ (r : List Value) (x n : Int), foldMax x r = some n → ∀ w, (r.foldlM Builtin.max2 (.int kd x)).run P w = .ok (.int kd n) w
  | [], x, n, h, w => by simp [foldMax] at h; subst h; rfl
  | v :: r, x, n, h, w => by
    unfold foldMax at h
    split at h
    · rename_i e; cases e
    · rename_i e; cases e
      have := foldMax_run (kd := kd) r _ n h w
      simpa [Builtin.max2] using this
    · cases h

theorem vcConv_gives {s d : TypeId} {x : Value} {k : Value → Prop} (h : vcConv P M s d x k) : Gives P M (convert s d x) k := by
  unfold vcConv at h
  split at h
  · rename_i hs hd
    exact ⟨_, h.out, fun w _ => by simp [convert, run_under hs, run_under hd, Conv.intToInt]⟩
  · rename_i hs hd
    exact ⟨_, h, fun w _ => by simp [convert, run_under hs, run_under hd]⟩
  · rename_i e A n c hs hd
    split at h
    · rename_i he
      obtain ⟨bs, rfl, hr, hk⟩ := h
      refine ⟨_, hk, fun w hw => ?_⟩
      have hrow := hr w hw
      cases A with
      | none =>
        have : bs = [] := by
          cases bs with
          | nil => rfl
          | cons x r => obtain ⟨a, ha, _⟩ := hrow 0 (B x) (by simp [Bs]); cases ha
        subst this
        simp only [convert, Sem.run_bind, run_under hs, run_under hd, Result.andThen_ok, run_under he]
        rfl
      | some a =>
        exact run_convert_bytes_back w s d e a c bs hs he hd fun j hj => by
          obtain ⟨a', ha, hc⟩ := hrow j (B bs[j]) (by simp [Bs, hj])
          cases ha
          exact hc
    · exact h.elim
  · exact h.elim

/-! ### Maps -/
theorem mI_cons {kd : IntKind} {e : Int × Value × Nat} {l : Ents} : mI kd (e :: l) = (.int kd e.1, e.2.1, e.2.2) :: mI kd l := rfl
/-- Looking for a key among a map's entries. -/
theorem findNow_mI (kd : IntKind) (n : Int) : ∀ (es : List MapEntry) (l : Ents) (i : Nat), es.map (fun e => (e.key, e.val, e.born)) = mI kd l →
    (getE n l = none → Instr.findNow (.int kd) (.int kd n) es i = some none) ∧
    (∀ e, getE n l = some e → ∃ j m, Instr.findNow (.int kd) (.int kd n) es i = some (some (i + j, e.1)) ∧ es[j]? = some m ∧ m.key = .int kd n ∧ m.val = e.1 ∧ m.born = e.2 ∧
      (∀ v, (es.modify j fun m => { m with key := .int kd n, val := v }).map (fun e => (e.key, e.val, e.born)) = mI kd (setE n v l)) ∧ (es.eraseIdx j).map (fun e => (e.key, e.val, e.born)) = mI kd (delE n l))
  | [], l, i, h => by
    cases l with
    | nil => exact ⟨fun _ => rfl, fun e he => by cases he⟩
    | cons e r => cases h
  | m :: es, l, i, h => by
    cases l with
    | nil => cases h
    | cons e r =>
      rw [List.map_cons, mI_cons, List.cons.injEq] at h
      obtain ⟨h1, h2⟩ := h
      simp only [Prod.mk.injEq] at h1
      obtain ⟨hk, hv, hb⟩ := h1
      have ih := findNow_mI kd n es r (i + 1) h2
      by_cases hn : e.1 = n
      · refine ⟨fun hg => ?_, fun e' hg => ?_⟩
        · simp [getE, hn] at hg
        · simp only [getE, hn, if_true, Option.some.injEq] at hg
          subst hg
          refine ⟨0, m, ?_, rfl, by rw [hk, hn], hv, hb, fun v => ?_, ?_⟩
          · unfold Instr.findNow
            rw [hk, hn]
            simp [Instr.sameNow, hv]
          · simp only [List.modify_zero_cons, List.map_cons, setE, hn, if_true, mI_cons, h2, hb]
          · simp only [List.eraseIdx_cons_zero, delE, hn, if_true, h2]
      · have hs : Instr.findNow (.int kd) (.int kd n) (m :: es) i = Instr.findNow (.int kd) (.int kd n) es (i + 1) := by
          conv => lhs; unfold Instr.findNow
          rw [hk]
          have : (n == e.1) = false := by simpa using fun h => hn h.symm
          simp [Instr.sameNow, this]
        refine ⟨fun hg => ?_, fun e' hg => ?_⟩
        · rw [hs]
          exact ih.1 (by simpa [getE, hn] using hg)
        · obtain ⟨j, m', h3, h4, h5, h6, h7, h8, h9⟩ := ih.2 e' (by simpa [getE, hn] using hg)
          refine ⟨j + 1, m', by rw [hs, h3]; congr 3; omega, by simpa using h4, h5, h6, h7, fun v => ?_, ?_⟩
          · simp only [List.modify_succ_cons, List.map_cons, setE, hn, if_false, mI_cons, h8, hk, hv, hb]
          · simp only [List.eraseIdx_cons_succ, List.map_cons, delE, hn, if_false, mI_cons, h9, hk, hv, hb]
theorem isKey_int (kd : IntKind) (n : Int) : MapKept.IsKey (.int kd) (.int kd n) := by simp [MapKept.IsKey]

theorem vcLookup_gives {t : TypeId} {x i : Value} {ok : Bool} {k : Value → Prop} (h : vcLookup P M t x i ok k) : Gives P M (Instr.lookup t x i ok) k := by
  unfold vcLookup at h
  split at h
  · rename_i b kd n
    split at h
    · rename_i kt et hm
      split at h
      · rename_i kd' hd
        split at h
        · rename_i inf hi
          split at h
          · rename_i z hz
            obtain ⟨rfl, l, clock, hM, r, hr, h⟩ := h
            have key : ∀ w, M w → ∃ es : Array MapEntry, w.heap[b]? = some (.map es clock) ∧ es.toList.map (fun e => (e.key, e.val, e.born)) = mI kd l := fun w hw => by
              obtain ⟨o, ho, es, rfl, he, _⟩ := hM w hw
              exact ⟨es, ho, he⟩
            cases r with
            | none =>
              have hrun : ∀ w, M w → (Instr.lookup t (.map (some b)) (.int kd n) ok).run P w = .ok (if ok = true then .tuple #[z, .bool false] else z) w := fun w hw => by
                obtain ⟨es, hb, he⟩ := key w hw
                have hf := (findNow_mI kd n es.toList l 0 he).1 hr
                simp only [Instr.lookup, Sem.run_bind, run_under hm, Result.andThen_ok, MapKept.run_getObj_map hb, Sem.run_pure, MapKept.run_checkKey hd (isKey_int kd n), MapKept.run_findKey hd hf, run_zero hi hz]
              cases ok with
              | true => exact ⟨_, h, fun w hw => by rw [hrun w hw]; rfl⟩
              | false => exact ⟨_, h, fun w hw => by rw [hrun w hw]; rfl⟩
            | some e =>
              have hrun : ∀ w, M w → (Instr.lookup t (.map (some b)) (.int kd n) ok).run P w = .ok (if ok = true then .tuple #[e.1, .bool true] else e.1) w := fun w hw => by
                obtain ⟨es, hb, he⟩ := key w hw
                obtain ⟨j, m, hf, _⟩ := (findNow_mI kd n es.toList l 0 he).2 e hr
                simp only [Instr.lookup, Sem.run_bind, run_under hm, Result.andThen_ok, MapKept.run_getObj_map hb, Sem.run_pure, MapKept.run_checkKey hd (isKey_int kd n), MapKept.run_findKey hd hf]
              cases ok with
              | true => exact ⟨_, h, fun w hw => by rw [hrun w hw]; rfl⟩
              | false => exact ⟨_, h, fun w hw => by rw [hrun w hw]; rfl⟩
          · exact h.elim
        · exact h.elim
      · exact h.elim
    · exact h.elim
  · exact h.elim
theorem vcEnt_gives {r : Nat} {k : Value → Prop} (h : vcEnt M r k) : Gives P M (Instr.entry (.pointer (some ⟨r, 0, none⟩))) k := by
  obtain ⟨b, since, seen, s, l, clock, ht, hm, e, he, hs, hk⟩ := h
  refine ⟨_, hk, fun w hw => ?_⟩
  have h1 : w.heap[r]? = some (.mapIter (some b) since (seen ++ [s]).toArray clock) := ht w hw
  obtain ⟨o, ho, es, rfl, hl, _, hnd⟩ := hm w hw
  have g1 : (getObj r).run P w = .ok (.mapIter (some b) since (seen ++ [s]).toArray clock) w := by simp [getObj, Sem.run, h1]
  rw [← hl] at he
  obtain ⟨x, hx, rfl⟩ := List.mem_map.1 he
  have hfind : es.find? (fun y => y.born == s) = some x := by
    rw [← Array.find?_toList]
    have hnd' : (es.toList.map (·.born)).Nodup := by
      rw [← hl, List.map_map] at hnd
      exact hnd
    clear hl he g1 h1 ho hnd hm ht hk
    generalize es.toList = l at *
    induction l with
    | nil => cases hx
    | cons y r ih =>
      rw [List.map_cons, List.nodup_cons] at hnd'
      rw [List.find?_cons]
      rcases List.mem_cons.1 hx with rfl | hx
      · simp only at hs
        simp [hs]
      · have hne : y.born ≠ s := fun h => hnd'.1 (by rw [h, ← hs]; exact List.mem_map_of_mem hx)
        have : (y.born == s) = false := by simpa using hne
        rw [this]
        exact ih hx hnd'.2
  have hb : (seen ++ [s]).toArray.back? = some s := by simp
  simp only [Instr.entry, Sem.run_bind, Result.andThen_ok, g1, hb, MapKept.run_getObj_map ho]
  simp [hfind]
end
end Go.Proofs.Yticllmnblcjjcaa
