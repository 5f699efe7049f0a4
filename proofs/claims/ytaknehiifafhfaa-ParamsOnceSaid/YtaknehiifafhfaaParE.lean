/- Parameters by their ids, as the reference has them. -/
import Derived.Test.YtaknehiifafhfaaParD
namespace Go.Proofs.Ytaknehiifafhfaa
open Go.Proofs
set_option maxRecDepth 10000

def rN (p : Pm) (id : Int) : Int := match itemT id with
  | .num j _ _ => p.num j
  | _ => 0
def rH (p : Pm) (id : Int) : Bool := match itemT id with
  | .txt j _ _ _ => p.has j
  | _ => false
def rB (p : Pm) (id : Int) : List UInt8 := match itemT id with
  | .txt j _ _ _ => p.by_ j
  | _ => []
def rA (As : List SlA) (id : Int) : SlA := match itemT id with
  | .txt j _ _ _ => aAt As j
  | _ => (none, 0)
def r17 {α : Type} (f : Int → α) : List α := (List.range 17).map fun k : Nat => f k
theorem r17_len {α : Type} (f : Int → α) : (r17 f).length = 17 := by simp [r17]
theorem r17_get {α : Type} (f : Int → α) {k : Nat} (hk : k < 17) : (r17 f)[k]? = some (f k) := by simp [r17, hk]
theorem r17_set {α : Type} {f g : Int → α} {k : Nat} {v : α} (h1 : g k = v) (h2 : ∀ i : Nat, i < 17 → i ≠ k → g i = f i) : (r17 f).set k v = r17 g := by
  refine List.ext_getElem? fun i => ?_
  rw [List.getElem?_set]
  by_cases hi : i < 17
  · rw [r17_get g hi, r17_len]
    by_cases h : k = i
    · subst h; rw [if_pos rfl, if_pos hi, h1]
    · rw [if_neg h, r17_get f hi, h2 i hi (fun e => h e.symm)]
  · rw [List.getElem?_eq_none (by rw [r17_len]; omega), List.getElem?_eq_none (by rw [r17_len]; omega), r17_len]
    split
    · rename_i h; subst h; rw [if_neg hi]
    · rfl
def refC (As : List SlA) (p : Pm) : List Value := r17 (fun i => .int .i64 (rN p i)) ++ (r17 (fun i => .bool (rH p i)) ++ (r17 (fun i => .slice (rA As i).1 (rB p i).length (rA As i).2) ++ [.bool p.nm]))
theorem refC_len (As : List SlA) (p : Pm) : (refC As p).length = 52 := by
  unfold refC
  simp only [List.length_append, r17_len]; rfl
theorem refC_num (As : List SlA) (p : Pm) {k : Nat} (hk : k < 17) : (refC As p)[k]? = some (.int .i64 (rN p k)) := by
  unfold refC
  rw [List.getElem?_append_left (by rw [r17_len]; exact hk), r17_get _ hk]
theorem refC_has (As : List SlA) (p : Pm) {k : Nat} (hk : k < 17) : (refC As p)[17 + k]? = some (.bool (rH p k)) := by
  unfold refC
  rw [List.getElem?_append_right (by rw [r17_len]; omega), r17_len, Nat.add_sub_cancel_left, List.getElem?_append_left (by rw [r17_len]; exact hk), r17_get _ hk]
theorem refC_by (As : List SlA) (p : Pm) {k : Nat} (hk : k < 17) : (refC As p)[34 + k]? = some (.slice (rA As k).1 (rB p k).length (rA As k).2) := by
  unfold refC
  rw [List.getElem?_append_right (by rw [r17_len]; omega), r17_len, List.getElem?_append_right (by rw [r17_len]; omega), r17_len, show 34 + k - 17 - 17 = k from by omega, List.getElem?_append_left (by rw [r17_len]; exact hk), r17_get _ hk]
theorem refC_nm (As : List SlA) (p : Pm) : (refC As p)[51]? = some (.bool p.nm) := by
  unfold refC
  rw [List.getElem?_append_right (by rw [r17_len]; omega), r17_len, List.getElem?_append_right (by rw [r17_len]; omega), r17_len, List.getElem?_append_right (by rw [r17_len]; omega), r17_len]
  rfl
theorem refC_one (As : List SlA) (p : Pm) : ∀ v ∈ refC As p, oneCell v = true := by
  intro v hv
  unfold refC r17 at hv
  simp only [List.mem_append, List.mem_map, List.mem_singleton] at hv
  rcases hv with ⟨_, _, rfl⟩ | ⟨_, _, rfl⟩ | ⟨_, _, rfl⟩ | rfl <;> rfl

/-! ### The table is one to one -/
def It.key : It → Option (Bool × Nat)
  | .num j _ _ => some (false, j)
  | .txt j _ _ _ => some (true, j)
  | .none => Option.none
theorem itemT_inj {a b : Int} {x : Bool × Nat} (ha : (itemT a).key = some x) (hb : (itemT b).key = some x) : a = b := by
  have key : ∀ e ∈ itemTab, ∀ e' ∈ itemTab, e.2.key = e'.2.key → e.1 = e'.1 := by decide
  rcases lookI_mem a itemTab with h | h
  · unfold itemT at ha; rw [h] at ha; cases ha
  · rcases lookI_mem b itemTab with h' | h'
    · unfold itemT at hb; rw [h'] at hb; cases hb
    · exact key _ h _ h' (ha.trans hb.symm)
theorem refC_setNum {As : List SlA} {p : Pm} (hp : p.Ok) {k j : Nat} {lo hi : Int} (hk : k < 17) (h : itemT k = .num j lo hi) (n : Int) : (refC As p).set k (.int .i64 n) = refC As { p with nums := p.nums.set j n } := by
  have hj := itemT_num h
  unfold refC
  rw [List.set_append_left _ _ (by rw [r17_len]; exact hk), r17_set (g := fun i => .int .i64 (rN { p with nums := p.nums.set j n } i))]
  · rfl
  · simp only [rN, h]
    simp [Pm.num, hp.n, hj.1]
  · intro i hi hne
    simp only [rN]
    cases hit : itemT i with
    | num j' lo' hi' =>
      have : j' ≠ j := fun e => hne (by
        have := itemT_inj (a := i) (b := k) (x := (false, j)) (by rw [hit, e]; rfl) (by rw [h]; rfl)
        omega)
      simp only [Pm.num]
      rw [List.getElem?_set_ne (fun e => this e.symm)]
    | txt j' lo' hi' s' => rfl
    | none => rfl
theorem refC_setHas {As : List SlA} {p : Pm} (hp : p.Ok) {k j : Nat} {lo hi : Int} {s : Bool} (hk : k < 17) (h : itemT k = .txt j lo hi s) (b : Bool) : (refC As p).set (17 + k) (.bool b) = refC As { p with hs := p.hs.set j b } := by
  have hj := itemT_txt h
  unfold refC
  rw [List.set_append_right _ _ (by rw [r17_len]; omega), r17_len, Nat.add_sub_cancel_left, List.set_append_left _ _ (by rw [r17_len]; exact hk), r17_set (g := fun i => .bool (rH { p with hs := p.hs.set j b } i))]
  · rfl
  · simp only [rH, h]
    simp [Pm.has, hp.h, hj.1]
  · intro i hi hne
    simp only [rH]
    cases hit : itemT i with
    | txt j' lo' hi' s' =>
      have : j' ≠ j := fun e => hne (by
        have := itemT_inj (a := i) (b := k) (x := (true, j)) (by rw [hit, e]; rfl) (by rw [h]; rfl)
        omega)
      simp only [Pm.has]
      rw [List.getElem?_set_ne (fun e => this e.symm)]
    | num j' lo' hi' => rfl
    | none => rfl
theorem refC_setBy {As : List SlA} {p : Pm} (hp : p.Ok) (hA : As.length = 4) {k j : Nat} {lo hi : Int} {s : Bool} (hk : k < 17) (h : itemT k = .txt j lo hi s) (x : SlA) (y : List UInt8) : (refC As p).set (34 + k) (slV (x, y)) = refC (As.set j x) { p with bys := p.bys.set j y } := by
  have hj := itemT_txt h
  unfold refC
  rw [List.set_append_right _ _ (by rw [r17_len]; omega), r17_len, List.set_append_right _ _ (by rw [r17_len]; omega), r17_len, show 34 + k - 17 - 17 = k from by omega, List.set_append_left _ _ (by rw [r17_len]; exact hk),
    r17_set (g := fun i => .slice (rA (As.set j x) i).1 (rB { p with bys := p.bys.set j y } i).length (rA (As.set j x) i).2)]
  · rfl
  · simp only [rA, rB, h]
    simp [Pm.by_, aAt, hp.b, hA, hj.1, slV]
  · intro i hi hne
    simp only [rA, rB]
    cases hit : itemT i with
    | txt j' lo' hi' s' =>
      have : j' ≠ j := fun e => hne (by
        have := itemT_inj (a := i) (b := k) (x := (true, j)) (by rw [hit, e]; rfl) (by rw [h]; rfl)
        omega)
      simp only [Pm.by_, aAt]
      rw [List.getElem?_set_ne (fun e => this e.symm), List.getElem?_set_ne (fun e => this e.symm)]
    | num j' lo' hi' => rfl
    | none => rfl
theorem refC_setNm (As : List SlA) (p : Pm) (b : Bool) : (refC As p).set 51 (.bool b) = refC As { p with nm := b } := by
  unfold refC
  rw [List.set_append_right _ _ (by rw [r17_len]; omega), r17_len, List.set_append_right _ _ (by rw [r17_len]; omega), r17_len, List.set_append_right _ _ (by rw [r17_len]; omega), r17_len]
  rfl
theorem PmAt.byId {p : Pm} (hp : p.Ok) {As : List SlA} (hA : As.length = 4) {w : World} (h : PmAt As p w) (id : Int) : RowAt (rA As id).1 (Bs (rB p id)) w := by
  unfold rA rB
  cases hit : itemT id with
  | txt j lo hi s => exact h.at_ hp hA (itemT_txt hit).1
  | num j lo hi => exact RowAt.nil
  | none => exact RowAt.nil

/-! ### Kind, Usual -/
def kindB (id : Int) : Int := match itemT id with
  | .num _ _ _ => 110
  | .txt _ _ _ _ => 98
  | .none => if id = 12 then 48 else 32
def kindTab : ByteArray := ⟨#[98, 110, 98, 110, 110, 110, 110, 110, 110, 110, 110, 110, 48, 32, 110, 98, 98]⟩
theorem kindTab_get : ∀ k : Fin 17, kindTab[k.val]? = some (UInt8.ofNat (kindB k.val).toNat) ∧ 0 ≤ kindB k.val ∧ kindB k.val < 256 := by decide +kernel
theorem kind_spec (id : Int) (G : Mp) : Spec Try.prog 42 #[.int .i64 id] [] G (Ret (.int .u8 (kindB id))) := by
  refine Spec.intro (args := [_]) wide Try.func42 rfl Try.call42 (by rfl) (by rfl) (fun w0 hw0 => ?_)
  have out : ¬ (0 ≤ id ∧ id ≤ 16 ∧ id ≠ 13) → kindB id = 32 := fun h => by
    unfold kindB
    rcases itemT_range id with e | e
    · rw [e]; simp only; rw [if_neg (by rintro rfl; exact h (by decide))]
    · exact absurd ⟨e.1, e.2.1, e.2.2.2⟩ h
  refine vcIf_dec (fun h1 => ?_) (fun h1 => ?_)
  · rw [out (by omega)]; exact ⟨[], _, MT, .nil, fun _ _ _ => trivial, rfl, rfl, rfl⟩
  refine vcIf_dec (fun h2 => ?_) (fun h2 => ?_)
  · rw [out (by omega)]; exact ⟨[], _, MT, .nil, fun _ _ _ => trivial, rfl, rfl, rfl⟩
  refine vcIf_dec (fun h3 => ?_) (fun h3 => ?_)
  · rw [out (by omega)]; exact ⟨[], _, MT, .nil, fun _ _ _ => trivial, rfl, rfl, rfl⟩
  obtain ⟨k, rfl⟩ := Int.eq_ofNat_of_zero_le (show 0 ≤ id by omega)
  obtain ⟨e, e1, e2⟩ := kindTab_get ⟨k, by omega⟩
  simp only at e e1 e2
  refine ⟨⟨by omega, by show ((k : Nat) : Int) < 17; omega⟩, _, e, ?_⟩
  refine ⟨[], [], MT, .nil, fun _ _ _ => trivial, ?_, rfl, rfl⟩
  show Value.int .u8 _ = _
  congr 1
  rw [UInt8.toNat_ofNat']
  omega
theorem rusual_spec (G : Mp) : Spec Try.prog 21 #[] [] G (Ret (.agg (refC nilAs usualP).toArray)) := by
  refine Spec.intro (args := []) wide Try.func21 rfl Try.call21 (by rfl) (by rfl) (fun w0 hw0 => ?_)
  intro b0 b1
  refine ⟨rfl, vcStoreN_row _ .here rfl (refC_one nilAs zeroP) ?_⟩
  have st : ∀ (xs : List Value) (j : Nat) (v : Value) (k : List Ob → Prop), xs.length = 52 → j < 17 → oneCell v = true → k (.row b1 33 (xs.set (0 + j + 0) v) 52 :: [.row b0 33 (refC nilAs zeroP) 52]) → vcStore1 [.row b1 33 xs 52, .row b0 33 (refC nilAs zeroP) 52] ((((⟨b1, 0, none⟩ : Addr).add 0).add j).add 0) v k :=
    fun xs j v k hl hj h1 hk => vcStore1_2 (.row b1 _ xs 52) _ .here rfl (by show 0 + j + 0 < xs.length; omega) h1 hk
  refine vcAt_nat 3 rfl (by decide) ?_
  refine st (refC nilAs zeroP) 3 _ _ (refC_len _ _) (by decide) rfl ?_
  refine vcAt_nat 10 rfl (by decide) ?_
  refine st _ 10 _ _ (by rw [List.length_set]; exact refC_len _ _) (by decide) rfl ?_
  refine vcAt_nat 11 rfl (by decide) ?_
  refine st _ 11 _ _ (by rw [List.length_set, List.length_set]; exact refC_len _ _) (by decide) rfl ?_
  refine vcAt_nat 14 rfl (by decide) ?_
  refine st _ 14 _ _ (by rw [List.length_set, List.length_set, List.length_set]; exact refC_len _ _) (by decide) rfl ?_
  have e : (((((refC nilAs zeroP).set (0 + 3 + 0) (.int .i64 65527)).set (0 + 10 + 0) (.int .i64 3)).set (0 + 11 + 0) (.int .i64 25)).set (0 + 14 + 0) (.int .i64 2)) = refC nilAs usualP := by rfl
  rw [e]
  refine vcLoadN_0 (Ent.gnO .here (fun w hw => Ob.row_at hw)) rfl ?_
  refine ⟨rfl, vcStoreN_row (xs := refC nilAs zeroP) (m := 52) _ (.there .here) rfl (refC_one nilAs usualP) ?_⟩
  refine vcLoadN_0 (Ent.gnO .here (fun w hw => Ob.row_at hw)) rfl ?_
  exact ⟨[], _, MT, .nil, fun _ _ _ => trivial, rfl, rfl, rfl⟩

/-! ### right -/
theorem itemT_plain {id : Int} {j : Nat} {lo hi : Int} (h : itemT id = .num j lo hi) : (id = 3 ∧ lo = 1200 ∧ hi = 4611686018427387903) ∨ ((id = 8 ∨ id = 9) ∧ lo = 0 ∧ hi = 1152921504606846976) ∨ (id = 10 ∧ lo = 0 ∧ hi = 20) ∨ (id = 11 ∧ lo = 0 ∧ hi = 16383) ∨ (id = 14 ∧ lo = 2 ∧ hi = 4611686018427387903) ∨
    (id ≠ 3 ∧ id ≠ 8 ∧ id ≠ 9 ∧ id ≠ 10 ∧ id ≠ 11 ∧ id ≠ 14 ∧ lo = 0 ∧ hi = 4611686018427387903) := by
  have key : ∀ e ∈ itemTab, match e.2 with
      | .num _ lo hi => (e.1 = 3 ∧ lo = 1200 ∧ hi = 4611686018427387903) ∨ ((e.1 = 8 ∨ e.1 = 9) ∧ lo = 0 ∧ hi = 1152921504606846976) ∨ (e.1 = 10 ∧ lo = 0 ∧ hi = 20) ∨ (e.1 = 11 ∧ lo = 0 ∧ hi = 16383) ∨ (e.1 = 14 ∧ lo = 2 ∧ hi = 4611686018427387903) ∨
          (e.1 ≠ 3 ∧ e.1 ≠ 8 ∧ e.1 ≠ 9 ∧ e.1 ≠ 10 ∧ e.1 ≠ 11 ∧ e.1 ≠ 14 ∧ lo = 0 ∧ hi = 4611686018427387903)
      | _ => True := by
    intro e he
    simp only [itemTab, List.mem_cons, List.not_mem_nil, or_false] at he
    rcases he with rfl | rfl | rfl | rfl | rfl | rfl | rfl | rfl | rfl | rfl | rfl | rfl | rfl | rfl | rfl <;> simp
  rcases lookI_mem id itemTab with h' | h'
  · unfold itemT at h; rw [h'] at h; cases h
  · have := key _ h'
    unfold itemT at h
    rw [h] at this
    exact this
theorem itemT_text {id : Int} {j : Nat} {lo hi : Int} {s : Bool} (h : itemT id = .txt j lo hi s) : (id = 2 ∧ lo = 16 ∧ hi = 16 ∨ id ≠ 2 ∧ lo = 0 ∧ hi = 20) ∧ s = !decide (id = 15) := by
  have key : ∀ e ∈ itemTab, match e.2 with
      | .txt _ lo hi s => (e.1 = 2 ∧ lo = 16 ∧ hi = 16 ∨ e.1 ≠ 2 ∧ lo = 0 ∧ hi = 20) ∧ s = !decide (e.1 = 15)
      | _ => True := by
    intro e he
    simp only [itemTab, List.mem_cons, List.not_mem_nil, or_false] at he
    rcases he with rfl | rfl | rfl | rfl | rfl | rfl | rfl | rfl | rfl | rfl | rfl | rfl | rfl | rfl | rfl <;> simp
  rcases lookI_mem id itemTab with h' | h'
  · unfold itemT at h; rw [h'] at h; cases h
  · have := key _ h'
    unfold itemT at h
    rw [h] at this
    exact this
theorem rright_spec (As : List SlA) (p : Pm) (k : Nat) (server : Bool) (G : Mp) (hk : k < 17) :
    Spec Try.prog 47 #[.agg (refC As p).toArray, .int .i64 k, .bool server] [] G (Ret (.bool (okIt p server (itemT k)))) := by
  refine Spec.intro (args := [_, _, _]) wide Try.func47 rfl Try.call47 (by rfl) (by rfl) (fun w0 hw0 => ?_)
  intro b
  refine vcCall_of .nil (kind_spec k _) (fun v own' N' hv => ?_); obtain ⟨rfl, rfl, rfl⟩ := hv
  have fin : ∀ (u v : Bool) (own : List Ob) (N : Mp), u = v → ∃ (own' rest : List Ob) (N' : Mp), Pick own' own rest ∧ (∀ w, N w → Objs rest w → N' w) ∧ Ret (.bool u) (.bool v) own' N' := fun u v own N h => ⟨[], own, MT, .nil, fun _ _ _ => trivial, by rw [h], rfl, rfl⟩
  cases hit : itemT k with
  | num j lo hi =>
    have hkb : kindB k = 110 := by unfold kindB; rw [hit]
    have hn := refC_num As p hk
    rw [show rN p k = p.num j from by unfold rN; rw [hit]] at hn
    have e : okIt p server (.num j lo hi) = decide (lo ≤ p.num j ∧ p.num j ≤ hi) := rfl
    rw [e, hkb]
    generalize p.num j = n at *
    refine vcAt_nat k rfl hk ?_
    have hpl := itemT_plain hit
    have hn0 : (refC As p)[0 + k]? = some (.int .i64 n) := by rw [Nat.zero_add]; exact hn
    refine vcLoad1_2 (v := .int .i64 n) (Ent.gnO .here (fun w hw => Ob.row_at hw)) hn0 ?_
    refine vcIf_dec (fun h1 => ?_) (fun h1 => ?_)
    · refine fin _ _ _ _ (decide_eq_false ?_)
      omega
    refine vcIf_dec (fun h2 => ?_) (fun h2 => ?_)
    · refine fin _ _ _ _ (decide_eq_false ?_)
      omega
    refine vcIf_dec (fun h3 => ?_) (fun h3 => ?_)
    · refine fin _ _ _ _ (decide_eq_decide.2 ?_)
      omega
    refine vcIf_dec (fun h8 => ?_) (fun h8 => ?_)
    · refine vcIf_yes h8 ?_
      refine fin _ _ _ _ (decide_eq_decide.2 ?_)
      omega
    refine vcIf_dec (fun h9 => ?_) (fun h9 => ?_)
    · refine fin _ _ _ _ (decide_eq_decide.2 ?_)
      omega
    refine vcIf_dec (fun h10 => ?_) (fun h10 => ?_)
    · refine fin _ _ _ _ (decide_eq_decide.2 ?_)
      omega
    refine vcIf_dec (fun h11 => ?_) (fun h11 => ?_)
    · refine fin _ _ _ _ (decide_eq_decide.2 ?_)
      omega
    refine vcIf_dec (fun h14 => ?_) (fun h14 => ?_)
    · refine fin _ _ _ _ (decide_eq_decide.2 ?_)
      omega
    refine fin _ _ _ _ (decide_eq_true ?_)
    omega
  | txt j lo hi s =>
    have hkb : kindB k = 98 := by unfold kindB; rw [hit]
    have hh := refC_has As p hk
    rw [show rH p k = p.has j from by unfold rH; rw [hit]] at hh
    have hb := refC_by As p hk
    rw [show rB p k = p.by_ j from by unfold rB; rw [hit]] at hb
    have e : okIt p server (.txt j lo hi s) = (!p.has j || ((server || !s) && decide (lo ≤ (p.by_ j).length ∧ ((p.by_ j).length : Int) ≤ hi))) := rfl
    rw [e, hkb]
    generalize p.has j = hv at *
    generalize (p.by_ j).length = len at *
    obtain ⟨hlo, hs⟩ := itemT_text hit
    refine vcCall_of .nil (kind_spec k _) (fun v own' N' hv => ?_); obtain ⟨rfl, rfl, rfl⟩ := hv
    rw [hkb]
    refine vcAt_nat k rfl hk ?_
    refine vcLoad1_2 (v := .bool hv) (Ent.gnO .here (fun w hw => Ob.row_at hw)) hh ?_
    cases hv with
    | false => exact fin _ _ _ _ rfl
    | true =>
    refine vcIf_ndec (fun h15 => ?_) (fun h15 => ?_)
    · cases server with
      | false =>
        refine fin _ _ _ _ ?_
        rw [hs, decide_eq_false (by omega)]; rfl
      | true =>
        refine vcIf_dec (fun h2 => ?_) (fun h2 => ?_)
        · refine vcAt_nat k rfl hk ?_
          refine vcLoad1_2 (Ent.gnO .here (fun w hw => Ob.row_at hw)) hb ?_
          refine fin _ _ _ _ ?_
          rw [Bool.true_or, Bool.true_and]
          exact decide_eq_decide.2 (by omega)
        · refine vcAt_nat k rfl hk ?_
          refine vcLoad1_2 (Ent.gnO .here (fun w hw => Ob.row_at hw)) hb ?_
          refine fin _ _ _ _ ?_
          rw [Bool.true_or, Bool.true_and]
          exact decide_eq_decide.2 (by omega)
    · refine vcIf_dec (fun h2 => ?_) (fun h2 => ?_)
      · omega
      · refine vcAt_nat k rfl hk ?_
        refine vcLoad1_2 (Ent.gnO .here (fun w hw => Ob.row_at hw)) hb ?_
        refine fin _ _ _ _ ?_
        rw [hs, decide_eq_true h15]
        show (!true || ((server || !!true) && _)) = _
        rw [Bool.not_not, Bool.or_true, Bool.true_and]
        exact decide_eq_decide.2 (by omega)
  | none =>
    have e : okIt p server .none = true := rfl
    rw [e]
    have hkb : kindB k = 48 ∨ kindB k = 32 := by
      unfold kindB; rw [hit]; simp only; split <;> simp
    rcases hkb with hkb | hkb
    · rw [hkb]
      refine vcCall_of .nil (kind_spec k _) (fun v own' N' hv => ?_); obtain ⟨rfl, rfl, rfl⟩ := hv
      rw [hkb]
      exact fin _ _ _ _ rfl
    · rw [hkb]
      refine vcCall_of .nil (kind_spec k _) (fun v own' N' hv => ?_); obtain ⟨rfl, rfl, rfl⟩ := hv
      rw [hkb]
      exact fin _ _ _ _ rfl
end Go.Proofs.Ytaknehiifafhfaa
