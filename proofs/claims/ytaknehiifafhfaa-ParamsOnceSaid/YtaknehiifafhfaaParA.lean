/- Parameters in memory; the table of them; Usual, item, right. -/
import Derived.Test.YtaknehiifafhfaaVarP
import Derived.Test.YtaknehiifafhfaaFlat
namespace Go.Proofs.Ytaknehiifafhfaa
open Go.Proofs
set_option maxRecDepth 10000

/-- A parameter as one of the kinds. -/
inductive It where
  | num (j : Nat) (lo hi : Int)
  | txt (j : Nat) (lo hi : Int) (srv : Bool)
  | none
deriving DecidableEq
def lookI (id : Int) : List (Int × It) → It
  | [] => .none
  | e :: r => if id = e.1 then e.2 else lookI id r
def itemTab : List (Int × It) := [(0, .txt 0 0 20 true), (1, .num 0 0 4611686018427387903), (2, .txt 1 16 16 true), (3, .num 1 1200 4611686018427387903), (4, .num 2 0 4611686018427387903), (5, .num 3 0 4611686018427387903), (6, .num 4 0 4611686018427387903), (7, .num 5 0 4611686018427387903),
  (8, .num 6 0 1152921504606846976), (9, .num 7 0 1152921504606846976), (10, .num 8 0 20), (11, .num 9 0 16383), (14, .num 10 2 4611686018427387903), (15, .txt 2 0 20 false), (16, .txt 3 0 20 true)]
def itemT (id : Int) : It := lookI id itemTab
theorem lookI_mem (id : Int) : ∀ l : List (Int × It), lookI id l = .none ∨ (id, lookI id l) ∈ l
  | [] => .inl rfl
  | e :: r => by
    by_cases h : id = e.1
    · exact .inr (by unfold lookI; rw [if_pos h, h]; exact List.mem_cons_self ..)
    · unfold lookI
      rw [if_neg h]
      exact (lookI_mem id r).imp_right (List.mem_cons_of_mem _)
def It.sane : It → Bool
  | .num j lo hi => decide (j < 11 ∧ 0 ≤ lo ∧ hi ≤ 4611686018427387903)
  | .txt j lo hi _ => decide (j < 4 ∧ 0 ≤ lo ∧ hi ≤ 20)
  | .none => true
theorem itemT_sane (id : Int) : (itemT id).sane = true := by
  rcases lookI_mem id itemTab with h | h
  · unfold itemT; rw [h]; rfl
  · have : ∀ e ∈ itemTab, e.2.sane = true := by decide
    exact this _ h
theorem itemT_num {id : Int} {j : Nat} {lo hi : Int} (h : itemT id = .num j lo hi) : j < 11 ∧ 0 ≤ lo ∧ hi ≤ 4611686018427387903 := by
  have := itemT_sane id
  rw [h] at this
  exact of_decide_eq_true this
theorem itemT_txt {id : Int} {j : Nat} {lo hi : Int} {s : Bool} (h : itemT id = .txt j lo hi s) : j < 4 ∧ 0 ≤ lo ∧ hi ≤ 20 := by
  have := itemT_sane id
  rw [h] at this
  exact of_decide_eq_true this
theorem itemT_range (id : Int) : itemT id = .none ∨ (0 ≤ id ∧ id ≤ 16 ∧ id ≠ 12 ∧ id ≠ 13) := by
  rcases lookI_mem id itemTab with h | h
  · exact .inl h
  · have : ∀ e ∈ itemTab, 0 ≤ e.1 ∧ e.1 ≤ 16 ∧ e.1 ≠ 12 ∧ e.1 ≠ 13 := by decide
    exact .inr (this _ h)

/-- Parameters. -/
structure Pm where
  hs : List Bool
  bys : List (List UInt8)
  nums : List Int
  nm : Bool
structure Pm.Ok (p : Pm) : Prop where
  h : p.hs.length = 4
  b : p.bys.length = 4
  n : p.nums.length = 11
abbrev SlA := Option Addr × Nat
/-- A parameter's bytes in memory. -/
def slV (x : SlA × List UInt8) : Value := .slice x.1.1 x.2.length x.1.2
def pC (As : List SlA) (p : Pm) : List Value := p.hs.map .bool ++ ((As.zip p.bys).map slV ++ (p.nums.map (.int .i64) ++ [.bool p.nm]))
def PmAt (As : List SlA) (p : Pm) : Mp := fun w => ∀ x ∈ As.zip p.bys, RowAt x.1.1 (Bs x.2) w
theorem zip_len {As : List SlA} {p : Pm} (hp : p.Ok) (hA : As.length = 4) : ((As.zip p.bys).map slV).length = 4 := by
  rw [List.length_map, List.length_zip, hA, hp.b]; rfl
theorem pC_len {As : List SlA} {p : Pm} (hp : p.Ok) (hA : As.length = 4) : (pC As p).length = 20 := by
  unfold pC
  rw [List.length_append, List.length_append, List.length_append, zip_len hp hA, List.length_map, List.length_map, hp.h, hp.n]; rfl
theorem pC_has {As : List SlA} {p : Pm} {j : Nat} (hj : j < p.hs.length) : (pC As p)[j]? = some (.bool p.hs[j]) := by
  unfold pC
  rw [List.getElem?_append_left (by rw [List.length_map]; exact hj)]
  simp [hj]
theorem pC_by {As : List SlA} {p : Pm} (hp : p.Ok) (hA : As.length = 4) {j : Nat} (hj : j < 4) : (pC As p)[4 + j]? = some (slV (As[j]'(by omega), p.bys[j]'(by rw [hp.b]; omega))) := by
  unfold pC
  rw [List.getElem?_append_right (by rw [List.length_map, hp.h]; omega), List.length_map, hp.h, Nat.add_sub_cancel_left, List.getElem?_append_left (by rw [zip_len hp hA]; exact hj), List.getElem?_map]
  rw [List.getElem?_eq_getElem (by rw [List.length_zip, hA, hp.b]; exact hj)]
  simp
theorem pC_num {As : List SlA} {p : Pm} (hp : p.Ok) (hA : As.length = 4) {j : Nat} (hj : j < p.nums.length) : (pC As p)[8 + j]? = some (.int .i64 p.nums[j]) := by
  unfold pC
  rw [List.getElem?_append_right (by rw [List.length_map, hp.h]; omega), List.length_map, hp.h, show 8 + j - 4 = 4 + j from by omega, List.getElem?_append_right (by rw [zip_len hp hA]; omega), zip_len hp hA, Nat.add_sub_cancel_left, List.getElem?_append_left (by rw [List.length_map]; exact hj)]
  simp [hj]
theorem pC_nm {As : List SlA} {p : Pm} (hp : p.Ok) (hA : As.length = 4) : (pC As p)[19]? = some (.bool p.nm) := by
  unfold pC
  rw [List.getElem?_append_right (by rw [List.length_map, hp.h]; omega), List.length_map, hp.h, List.getElem?_append_right (by rw [zip_len hp hA]; omega), zip_len hp hA, List.getElem?_append_right (by rw [List.length_map, hp.n]; omega), List.length_map, hp.n]
  rfl
theorem pC_setHas {As : List SlA} {p : Pm} {j : Nat} (hj : j < p.hs.length) (b : Bool) : (pC As p).set j (.bool b) = pC As { p with hs := p.hs.set j b } := by
  unfold pC
  rw [List.set_append_left _ _ (by rw [List.length_map]; exact hj), List.map_set]
theorem zip_set (x : SlA) (y : List UInt8) : ∀ (As : List SlA) (bs : List (List UInt8)) (j : Nat), (As.set j x).zip (bs.set j y) = (As.zip bs).set j (x, y)
  | [], bs, j => by simp
  | a :: r, [], j => by cases j <;> simp
  | a :: r, b :: t, 0 => rfl
  | a :: r, b :: t, j + 1 => by simp [zip_set x y r t j]
theorem pC_setBy {As : List SlA} {p : Pm} (hp : p.Ok) (hA : As.length = 4) {j : Nat} (hj : j < 4) (x : SlA) (y : List UInt8) : (pC As p).set (4 + j) (slV (x, y)) = pC (As.set j x) { p with bys := p.bys.set j y } := by
  unfold pC
  rw [List.set_append_right _ _ (by rw [List.length_map, hp.h]; omega), List.length_map, hp.h, Nat.add_sub_cancel_left, List.set_append_left _ _ (by rw [zip_len hp hA]; exact hj)]
  show _ = p.hs.map .bool ++ (((As.set j x).zip (p.bys.set j y)).map slV ++ (p.nums.map (.int .i64) ++ [.bool p.nm]))
  rw [zip_set, List.map_set]
theorem pC_setNum {As : List SlA} {p : Pm} (hp : p.Ok) (hA : As.length = 4) {j : Nat} (hj : j < p.nums.length) (n : Int) : (pC As p).set (8 + j) (.int .i64 n) = pC As { p with nums := p.nums.set j n } := by
  unfold pC
  rw [List.set_append_right _ _ (by rw [List.length_map, hp.h]; omega), List.length_map, hp.h, show 8 + j - 4 = 4 + j from by omega, List.set_append_right _ _ (by rw [zip_len hp hA]; omega), zip_len hp hA, Nat.add_sub_cancel_left, List.set_append_left _ _ (by rw [List.length_map]; exact hj), List.map_set]
theorem pC_setNm {As : List SlA} {p : Pm} (hp : p.Ok) (hA : As.length = 4) (b : Bool) : (pC As p).set 19 (.bool b) = pC As { p with nm := b } := by
  unfold pC
  rw [List.set_append_right _ _ (by rw [List.length_map, hp.h]; omega), List.length_map, hp.h, List.set_append_right _ _ (by rw [zip_len hp hA]; omega), zip_len hp hA, List.set_append_right _ _ (by rw [List.length_map, hp.n]; omega), List.length_map, hp.n]
  rfl
theorem pC_one (As : List SlA) (p : Pm) : ∀ v ∈ pC As p, oneCell v = true := by
  intro v hv
  unfold pC at hv
  simp only [List.mem_append, List.mem_map, List.mem_singleton] at hv
  rcases hv with ⟨_, _, rfl⟩ | ⟨_, _, rfl⟩ | ⟨_, _, rfl⟩ | rfl <;> rfl

def nilAs : List SlA := [(none, 0), (none, 0), (none, 0), (none, 0)]
def zeroP : Pm := ⟨[false, false, false, false], [[], [], [], []], [0, 0, 0, 0, 0, 0, 0, 0, 0, 0, 0], false⟩
def usualP : Pm := ⟨[false, false, false, false], [[], [], [], []], [0, 65527, 0, 0, 0, 0, 0, 0, 3, 25, 2], false⟩
theorem zeroP_ok : zeroP.Ok := ⟨rfl, rfl, rfl⟩
theorem usualP_ok : usualP.Ok := ⟨rfl, rfl, rfl⟩
def pA (As : List SlA) (p : Pm) : Value := .agg (pC As p).toArray
theorem usual_spec (G : Mp) : Spec Try.prog 20 #[] [] G (Ret (pA nilAs usualP)) := by
  refine Spec.intro (args := []) wide Try.func20 rfl Try.call20 (by rfl) (by rfl) (fun w0 hw0 => ?_)
  intro b
  refine ⟨rfl, vcStoreN_row _ .here rfl (pC_one nilAs usualP) ?_⟩
  refine vcLoadN_0 (Ent.gnO .here (fun w hw => Ob.row_at hw)) rfl ?_
  exact ⟨[], _, MT, .nil, fun _ _ _ => trivial, rfl, rfl, rfl⟩

/-- What item gives. -/
def ItemPost (b : Nat) : It → Value → List Ob → Mp → Prop
  | .num j lo hi, v, own, N => N = MT ∧ ∃ q, v = .tuple #[.pointer (some ⟨q, 0, none⟩), .pointer none] ∧ own = [.row q 78 [.pointer (some ((⟨b, 0, none⟩ : Addr).add (8 + j))), .int .i64 lo, .int .i64 hi] 3]
  | .txt j lo hi s, v, own, N => N = MT ∧ ∃ q, v = .tuple #[.pointer none, .pointer (some ⟨q, 0, none⟩)] ∧ own = [.row q 82 [.pointer (some ((⟨b, 0, none⟩ : Addr).add j)), .pointer (some ((⟨b, 0, none⟩ : Addr).add (4 + j))), .int .i64 lo, .int .i64 hi, .bool s] 5]
  | .none, v, own, N => N = MT ∧ v = .tuple #[.pointer none, .pointer none] ∧ own = []
theorem item1_spec (A : Option Addr) (G : Mp) : Spec Try.prog 48 #[.pointer A] [] G (fun v own N => N = MT ∧ ∃ q, v = .tuple #[.pointer (some ⟨q, 0, none⟩), .pointer none] ∧ own = [.row q 78 [.pointer A, .int .i64 0, .int .i64 4611686018427387903] 3]) := by
  refine Spec.intro (args := [_]) wide Try.func48 rfl Try.call48 (by rfl) (by rfl) (fun w0 hw0 => ?_)
  intro q
  exact ⟨_, _, MT, .cons .here .nil, fun _ _ _ => trivial, rfl, q, rfl, rfl⟩
theorem itemNum {b : Nat} {id : Int} {j : Nat} {lo hi : Int} (h : itemT id = .num j lo hi) (q : Nat) (N : Mp) : ∃ (own' rest : List Ob) (N' : Mp), Pick own' [.row q 78 [.pointer (some ((⟨b, 0, none⟩ : Addr).add (8 + j))), .int .i64 lo, .int .i64 hi] 3] rest ∧ (∀ w, N w → Objs rest w → N' w) ∧ ItemPost b (itemT id) (.tuple #[.pointer (some ⟨q, 0, none⟩), .pointer none]) own' N' := by
  rw [h]
  exact ⟨_, _, MT, .cons .here .nil, fun _ _ _ => trivial, rfl, q, rfl, rfl⟩
theorem itemTxt {b : Nat} {id : Int} {j : Nat} {lo hi : Int} {s : Bool} (h : itemT id = .txt j lo hi s) (q : Nat) (N : Mp) : ∃ (own' rest : List Ob) (N' : Mp), Pick own' [.row q 82 [.pointer (some ((⟨b, 0, none⟩ : Addr).add j)), .pointer (some ((⟨b, 0, none⟩ : Addr).add (4 + j))), .int .i64 lo, .int .i64 hi, .bool s] 5] rest ∧ (∀ w, N w → Objs rest w → N' w) ∧ ItemPost b (itemT id) (.tuple #[.pointer none, .pointer (some ⟨q, 0, none⟩)]) own' N' := by
  rw [h]
  exact ⟨_, _, MT, .cons .here .nil, fun _ _ _ => trivial, rfl, q, rfl, rfl⟩
theorem item_spec (b : Nat) (id : Int) (G : Mp) : Spec Try.prog 35 #[.pointer (some ⟨b, 0, none⟩), .int .i64 id] [] G (ItemPost b (itemT id)) := by
  refine Spec.intro (args := [_, _]) wide Try.func35 rfl Try.call35 (by rfl) (by rfl) (fun w0 hw0 => ?_)
  refine vcIf_dec (fun h0 => ?_) (fun h0 => ?_)
  · subst h0
    refine vcDraw_mix [0,1,2,3,4,5,6,8,7,9] MT (by kernel_rfl) (fun _ _ => trivial) ?_
    intro q
    refine vcMix_same (fun _ _ => trivial) ?_
    exact itemTxt (b := b) (id := 0) rfl q _
  refine vcIf_dec (fun h1 => ?_) (fun h1 => ?_)
  · subst h1
    refine vcCall_of .nil (item1_spec _ _) (fun v own' N' hv => ?_)
    obtain ⟨rfl, q, rfl, rfl⟩ := hv
    exact itemNum (b := b) (id := 1) rfl q _
  refine vcIf_dec (fun h2 => ?_) (fun h2 => ?_)
  · subst h2
    refine vcDraw_mix [0,1,2,3,4,5,6,8,7,9] MT (by kernel_rfl) (fun _ _ => trivial) ?_
    intro q
    refine vcMix_same (fun _ _ => trivial) ?_
    exact itemTxt (b := b) (id := 2) rfl q _
  refine vcIf_dec (fun h3 => ?_) (fun h3 => ?_)
  · subst h3
    intro q
    exact itemNum (b := b) (id := 3) rfl q _
  refine vcIf_dec (fun h4 => ?_) (fun h4 => ?_)
  · subst h4
    refine vcCall_of .nil (item1_spec _ _) (fun v own' N' hv => ?_)
    obtain ⟨rfl, q, rfl, rfl⟩ := hv
    exact itemNum (b := b) (id := 4) rfl q _
  refine vcIf_dec (fun h5 => ?_) (fun h5 => ?_)
  · subst h5
    refine vcCall_of .nil (item1_spec _ _) (fun v own' N' hv => ?_)
    obtain ⟨rfl, q, rfl, rfl⟩ := hv
    exact itemNum (b := b) (id := 5) rfl q _
  refine vcIf_dec (fun h6 => ?_) (fun h6 => ?_)
  · subst h6
    refine vcCall_of .nil (item1_spec _ _) (fun v own' N' hv => ?_)
    obtain ⟨rfl, q, rfl, rfl⟩ := hv
    exact itemNum (b := b) (id := 6) rfl q _
  refine vcIf_dec (fun h7 => ?_) (fun h7 => ?_)
  · subst h7
    refine vcCall_of .nil (item1_spec _ _) (fun v own' N' hv => ?_)
    obtain ⟨rfl, q, rfl, rfl⟩ := hv
    exact itemNum (b := b) (id := 7) rfl q _
  refine vcIf_dec (fun h8 => ?_) (fun h8 => ?_)
  · subst h8
    intro q
    exact itemNum (b := b) (id := 8) rfl q _
  refine vcIf_dec (fun h9 => ?_) (fun h9 => ?_)
  · subst h9
    intro q
    exact itemNum (b := b) (id := 9) rfl q _
  refine vcIf_dec (fun h10 => ?_) (fun h10 => ?_)
  · subst h10
    intro q
    exact itemNum (b := b) (id := 10) rfl q _
  refine vcIf_dec (fun h11 => ?_) (fun h11 => ?_)
  · subst h11
    intro q
    exact itemNum (b := b) (id := 11) rfl q _
  refine vcIf_dec (fun h14 => ?_) (fun h14 => ?_)
  · subst h14
    intro q
    exact itemNum (b := b) (id := 14) rfl q _
  refine vcIf_dec (fun h15 => ?_) (fun h15 => ?_)
  · subst h15
    refine vcDraw_mix [0,1,2,3,4,5,6,8,7,9] MT (by kernel_rfl) (fun _ _ => trivial) ?_
    intro q
    refine vcMix_same (fun _ _ => trivial) ?_
    exact itemTxt (b := b) (id := 15) rfl q _
  refine vcIf_dec (fun h16 => ?_) (fun h16 => ?_)
  · subst h16
    refine vcDraw_mix [0,1,2,3,4,5,6,8,7,9] MT (by kernel_rfl) (fun _ _ => trivial) ?_
    intro q
    refine vcMix_same (fun _ _ => trivial) ?_
    exact itemTxt (b := b) (id := 16) rfl q _
  have e : itemT id = .none := by simp [itemT, itemTab, lookI, h0, h1, h2, h3, h4, h5, h6, h7, h8, h9, h10, h11, h14, h15, h16]
  rw [e]
  exact ⟨[], _, MT, .nil, fun _ _ _ => trivial, rfl, rfl, rfl⟩
end Go.Proofs.Ytaknehiifafhfaa
