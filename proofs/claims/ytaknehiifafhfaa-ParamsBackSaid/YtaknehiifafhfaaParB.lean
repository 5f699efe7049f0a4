/- Parameters: right, Check, take. -/
import Derived.Test.YtaknehiifafhfaaParA
import Derived.Test.YtaknehiifafhfaaDrp
namespace Go.Proofs.Ytaknehiifafhfaa
open Go.Proofs
set_option maxRecDepth 10000

def Pm.num (p : Pm) (j : Nat) : Int := p.nums[j]?.getD 0
def Pm.has (p : Pm) (j : Nat) : Bool := p.hs[j]?.getD false
def Pm.by_ (p : Pm) (j : Nat) : List UInt8 := p.bys[j]?.getD []
theorem Pm.Ok.num {p : Pm} (hp : p.Ok) {As : List SlA} (hA : As.length = 4) {j : Nat} (hj : j < 11) : (pC As p)[8 + j]? = some (.int .i64 (p.num j)) := by
  have h : j < p.nums.length := by rw [hp.n]; exact hj
  rw [pC_num hp hA h]; simp [Pm.num, h]
theorem Pm.Ok.has {p : Pm} (hp : p.Ok) {As : List SlA} {j : Nat} (hj : j < 4) : (pC As p)[j]? = some (.bool (p.has j)) := by
  have h : j < p.hs.length := by rw [hp.h]; exact hj
  rw [pC_has h]; simp [Pm.has, h]
def aAt (As : List SlA) (j : Nat) : SlA := As[j]?.getD (none, 0)
theorem Pm.Ok.by_ {p : Pm} (hp : p.Ok) {As : List SlA} (hA : As.length = 4) {j : Nat} (hj : j < 4) : (pC As p)[4 + j]? = some (.slice (aAt As j).1 (p.by_ j).length (aAt As j).2) := by
  have h1 : j < p.bys.length := by rw [hp.b]; exact hj
  have h2 : j < As.length := by rw [hA]; exact hj
  rw [pC_by hp hA hj]; simp [Pm.by_, aAt, slV, h1, h2]
theorem PmAt.at_ {p : Pm} (hp : p.Ok) {As : List SlA} (hA : As.length = 4) {j : Nat} (hj : j < 4) {w : World} (h : PmAt As p w) : RowAt (aAt As j).1 (Bs (p.by_ j)) w := by
  have h1 : j < p.bys.length := by rw [hp.b]; exact hj
  have h2 : j < As.length := by rw [hA]; exact hj
  have := h (As[j], p.bys[j]) (by
    rw [List.mem_iff_getElem]
    exact ⟨j, by rw [List.length_zip]; omega, by simp⟩)
  simpa [aAt, Pm.by_, h1, h2] using this

theorem nright_spec (q b j : Nat) (lo hi n : Int) (cs : List Value) (G : Mp) (h1 : Ent G (RowAt (some ⟨q, 0, none⟩) [.pointer (some ((⟨b, 0, none⟩ : Addr).add (8 + j))), .int .i64 lo, .int .i64 hi])) (h2 : Ent G (RowAt (some ⟨b, 0, none⟩) cs)) (hc : cs[8 + j]? = some (.int .i64 n)) :
    Spec Try.prog 36 #[.pointer (some ⟨q, 0, none⟩)] [] G (Ret (.bool (decide (lo ≤ n ∧ n ≤ hi)))) := by
  refine Spec.intro (args := [_]) wide Try.func36 rfl Try.call36 (by rfl) (by rfl) (fun w0 hw0 => ?_)
  refine vcDraw_quiet (by kernel_rfl) ?_
  refine vcLoad1_row (Ent.gnG h1) rfl ?_
  refine vcLoad1_row (Ent.gnG h2) hc ?_
  refine vcLoad1_row (Ent.gnG h1) rfl ?_
  refine vcIf_dec (fun hl => ?_) (fun hl => ?_)
  · refine vcLoad1_row (Ent.gnG h1) rfl ?_
    refine vcLoad1_row (Ent.gnG h2) hc ?_
    refine vcLoad1_row (Ent.gnG h1) rfl ?_
    refine ⟨[], _, MT, .nil, fun _ _ _ => trivial, ?_, rfl, rfl⟩
    exact congrArg Value.bool (decide_eq_decide.2 ⟨fun h => ⟨hl, h⟩, fun h => h.2⟩)
  · refine ⟨[], _, MT, .nil, fun _ _ _ => trivial, ?_, rfl, rfl⟩
    exact congrArg Value.bool (decide_eq_false fun h => hl h.1).symm
theorem tright_spec (q b j : Nat) (lo hi : Int) (s server hv : Bool) (A : Option Addr) (len c : Nat) (cs : List Value) (G : Mp) (h1 : Ent G (RowAt (some ⟨q, 0, none⟩) [.pointer (some ((⟨b, 0, none⟩ : Addr).add j)), .pointer (some ((⟨b, 0, none⟩ : Addr).add (4 + j))), .int .i64 lo, .int .i64 hi, .bool s]))
    (h2 : Ent G (RowAt (some ⟨b, 0, none⟩) cs)) (hc : cs[j]? = some (.bool hv)) (hc2 : cs[4 + j]? = some (.slice A len c)) :
    Spec Try.prog 37 #[.pointer (some ⟨q, 0, none⟩), .bool server] [] G (Ret (.bool (!hv || ((server || !s) && decide (lo ≤ len ∧ (len : Int) ≤ hi))))) := by
  refine Spec.intro (args := [_, _]) wide Try.func37 rfl Try.call37 (by rfl) (by rfl) (fun w0 hw0 => ?_)
  refine vcLoad1_row (Ent.gnG h1) rfl ?_
  refine vcLoad1_row (Ent.gnG h2) hc ?_
  cases hv with
  | false => exact ⟨[], _, MT, .nil, fun _ _ _ => trivial, rfl, rfl, rfl⟩
  | true =>
  have rest : ∀ (N : Mp), lo ≤ len → ∃ (own' rest : List Ob) (N' : Mp), Pick own' [] rest ∧ (∀ w, N w → Objs rest w → N' w) ∧ Ret (.bool (decide (lo ≤ len ∧ (len : Int) ≤ hi))) (.bool (decide ((len : Int) ≤ hi))) own' N' := fun N hl => by
    refine ⟨[], [], MT, .nil, fun _ _ _ => trivial, ?_, rfl, rfl⟩
    exact congrArg Value.bool (decide_eq_decide.2 ⟨fun h => ⟨hl, h⟩, fun h => h.2⟩)
  refine vcDraw_quiet (by kernel_rfl) ?_
  have go : True := trivial
  cases server with
  | true =>
    refine vcLoad1_row (Ent.gnG h1) rfl ?_
    refine vcLoad1_row (Ent.gnG h2) hc2 ?_
    refine vcLoad1_row (Ent.gnG h1) rfl ?_
    refine vcIf_dec (fun hl => ?_) (fun hl => ?_)
    · refine vcLoad1_row (Ent.gnG h1) rfl ?_
      refine vcLoad1_row (Ent.gnG h2) hc2 ?_
      refine vcLoad1_row (Ent.gnG h1) rfl ?_
      exact rest _ hl
    · refine ⟨[], _, MT, .nil, fun _ _ _ => trivial, ?_, rfl, rfl⟩
      exact congrArg Value.bool (decide_eq_false fun h => hl h.1).symm
  | false =>
    refine vcLoad1_row (Ent.gnG h1) rfl ?_
    cases s with
    | true => exact ⟨[], _, MT, .nil, fun _ _ _ => trivial, rfl, rfl, rfl⟩
    | false =>
      refine vcLoad1_row (Ent.gnG h1) rfl ?_
      refine vcLoad1_row (Ent.gnG h2) hc2 ?_
      refine vcLoad1_row (Ent.gnG h1) rfl ?_
      refine vcIf_dec (fun hl => ?_) (fun hl => ?_)
      · refine vcLoad1_row (Ent.gnG h1) rfl ?_
        refine vcLoad1_row (Ent.gnG h2) hc2 ?_
        refine vcLoad1_row (Ent.gnG h1) rfl ?_
        exact rest _ hl
      · refine ⟨[], _, MT, .nil, fun _ _ _ => trivial, ?_, rfl, rfl⟩
        exact congrArg Value.bool (decide_eq_false fun h => hl h.1).symm

/-- Is a parameter right? -/
def okIt (p : Pm) (server : Bool) : It → Bool
  | .num j lo hi => decide (lo ≤ p.num j ∧ p.num j ≤ hi)
  | .txt j lo hi s => !p.has j || ((server || !s) && decide (lo ≤ (p.by_ j).length ∧ ((p.by_ j).length : Int) ≤ hi))
  | .none => true
def checkN (p : Pm) (server : Bool) (k : Nat) : Bool := (List.range k).all fun i => okIt p server (itemT i)
theorem checkN_succ (p : Pm) (server : Bool) (k : Nat) : checkN p server (k + 1) = (checkN p server k && okIt p server (itemT k)) := by
  unfold checkN
  rw [List.range_succ, List.all_append]; simp
theorem checkN_mono {p : Pm} {server : Bool} {k m : Nat} (h : checkN p server m = true) (hk : k < m) : okIt p server (itemT k) = true := by
  unfold checkN at h
  rw [List.all_eq_true] at h
  exact h k (List.mem_range.2 hk)
def checkP (p : Pm) (server : Bool) : Int := if checkN p server 17 = true then 0 else 91
theorem check_spec (As : List SlA) (p : Pm) (server : Bool) (G : Mp) (hp : p.Ok) (hA : As.length = 4) :
    Spec Try.prog 17 #[pA As p, .bool server] [] G (Ret (.int .i64 (checkP p server))) := by
  refine Spec.intro (args := [_, _]) wide Try.func17 rfl Try.call17 (by rfl) (by rfl) (fun w0 hw0 => ?_)
  intro b
  refine vcLoop_of (fun k : Nat => 17 - k) (fun k => [(1, .bool server), (2, .pointer (some ⟨b, 0, none⟩)), (8, .int .i64 k)]) (fun _ => [.row b 25 (pC As p) (pC As p).length]) (fun _ => MT) (fun k => k ≤ 17 ∧ checkN p server k = true)
    0 ⟨by omega, rfl⟩ ⟨rfl, rfl, rfl, trivial⟩ ⟨_, .cons .here .nil⟩ Ent.refl ?_
  rintro k ⟨hk, hch⟩
  refine vcIf_dec (fun hlt => ?_) (fun hge => ?_)
  · have hk' : k < 17 := by omega
    have bad : okIt p server (itemT k) = false → ∀ (own : List Ob) (N : Mp), ∃ (own' rest : List Ob) (N' : Mp), Pick own' own rest ∧ (∀ w, N w → Objs rest w → N' w) ∧ Ret (.int .i64 (checkP p server)) (.int .i64 91) own' N' := fun h own N => by
      refine ⟨[], own, MT, .nil, fun _ _ _ => trivial, ?_, rfl, rfl⟩
      unfold checkP
      rw [if_neg (fun h' => by have := checkN_mono h' hk'; rw [h] at this; cases this)]
    have good : okIt p server (itemT k) = true → k + 1 ≤ 17 ∧ checkN p server (k + 1) = true := fun h => ⟨by omega, by rw [checkN_succ, hch, h]; rfl⟩
    refine vcCall_of .nil (item_spec b k _) (fun v own' N' hv => ?_)
    cases hit : itemT k with
    | num j lo hi =>
      rw [hit] at hv
      have hj := itemT_num hit
      obtain ⟨rfl, q, rfl, rfl⟩ := hv
      refine vcCall_of .nil (nright_spec q b j lo hi (p.num j) (pC As p) _ (Ent.gnO .here (fun w hw => Ob.row_at hw)) (Ent.gnO (.there .here) (fun w hw => Ob.row_at hw)) (hp.num hA hj.1)) (fun v own' N' hv => ?_)
      obtain ⟨rfl, rfl, rfl⟩ := hv
      rw [hit] at bad good
      refine vcIf_ndec (fun h => bad (decide_eq_false h) _ _) (fun h => ?_)
      refine vcFit_i64 (by omega) ?_
      exact ⟨k + 1, good (decide_eq_true h), by omega, ⟨rfl, rfl, rfl, trivial⟩, ⟨_, .cons (.there .here) .nil⟩, fun _ _ => trivial⟩
    | txt j lo hi s =>
      rw [hit] at hv
      have hj := itemT_txt hit
      obtain ⟨rfl, q, rfl, rfl⟩ := hv
      refine vcCall_of .nil (tright_spec q b j lo hi s server (p.has j) (aAt As j).1 (p.by_ j).length (aAt As j).2 (pC As p) _ (Ent.gnO .here (fun w hw => Ob.row_at hw)) (Ent.gnO (.there .here) (fun w hw => Ob.row_at hw)) (hp.has hj.1) (hp.by_ hA hj.1)) (fun v own' N' hv => ?_)
      obtain ⟨rfl, rfl, rfl⟩ := hv
      rw [hit] at bad good
      have e : okIt p server (.txt j lo hi s) = (!p.has j || ((server || !s) && decide (lo ≤ (p.by_ j).length ∧ ((p.by_ j).length : Int) ≤ hi))) := rfl
      rw [← e]
      generalize okIt p server (.txt j lo hi s) = r at bad good
      cases r with
      | false => exact bad rfl _ _
      | true =>
        refine vcFit_i64 (by omega) ?_
        exact ⟨k + 1, good rfl, by omega, ⟨rfl, rfl, rfl, trivial⟩, ⟨_, .cons (.there .here) .nil⟩, fun _ _ => trivial⟩
    | none =>
      rw [hit] at hv
      obtain ⟨rfl, rfl, rfl⟩ := hv
      rw [hit] at good
      refine vcFit_i64 (by omega) ?_
      exact ⟨k + 1, good rfl, by omega, ⟨rfl, rfl, rfl, trivial⟩, ⟨_, .cons .here .nil⟩, fun _ _ => trivial⟩
  · obtain rfl : k = 17 := by omega
    refine ⟨[], _, MT, .nil, fun _ _ _ => trivial, ?_, rfl, rfl⟩
    unfold checkP
    rw [if_pos hch]; rfl

/-! ### take -/
def takeP (p : Pm) (id : Int) (val : List UInt8) (server : Bool) : Pm × Bool := match itemT id with
  | .num j lo hi => ({ p with nums := p.nums.set j (vget val 0).1 }, decide ((vget val 0).2.2 = 0 ∧ (vget val 0).2.1 = val.length) && decide (lo ≤ (vget val 0).1 ∧ (vget val 0).1 ≤ hi))
  | .txt j lo hi s => ({ p with hs := p.hs.set j true, bys := p.bys.set j val }, (server || !s) && decide (lo ≤ val.length ∧ (val.length : Int) ≤ hi))
  | .none => if id = 12 then ({ p with nm := true }, decide (val.length = 0)) else (p, true)
def takeA (As : List SlA) (id : Int) (x : SlA) : List SlA := match itemT id with
  | .txt j _ _ _ => As.set j x
  | _ => As
theorem takeP_ok {p : Pm} (hp : p.Ok) (id : Int) (val : List UInt8) (server : Bool) : (takeP p id val server).1.Ok := by
  unfold takeP
  split
  · exact ⟨hp.h, hp.b, by simpa using hp.n⟩
  · exact ⟨by simpa using hp.h, by simpa using hp.b, hp.n⟩
  · split
    · exact ⟨hp.h, hp.b, hp.n⟩
    · exact hp
theorem takeA_len {As : List SlA} (hA : As.length = 4) (id : Int) (x : SlA) : (takeA As id x).length = 4 := by
  unfold takeA
  split
  · simpa using hA
  · exact hA
theorem take_spec (b : Nat) (As : List SlA) (p : Pm) (id : Int) (Av : Option Addr) (cv : Nat) (val : List UInt8) (server : Bool) (m : Nat) (G : Mp) (hp : p.Ok) (hA : As.length = 4) (h1 : Ent G (RowAt Av (Bs val))) (hc : val.length ≤ cv) (hm : val.length ≤ 9223372036854775799) :
    Spec Try.prog 29 #[.pointer (some ⟨b, 0, none⟩), .int .i64 id, .slice Av val.length cv, .bool server] [.row b 25 (pC As p) m] G
      (fun v own N => v = .bool (takeP p id val server).2 ∧ own = [.row b 25 (pC (takeA As id (Av, cv)) (takeP p id val server).1) m] ∧ N = MT) := by
  refine Spec.intro (args := [_, _, _, _]) wide Try.func29 rfl Try.call29 (by rfl) (by rfl) (fun w0 hw0 => ?_)
  have hl := pC_len hp hA
  refine vcCall_of .nil (item_spec b id _) (fun v own' N' hv => ?_)
  cases hit : itemT id with
  | num j lo hi =>
    rw [hit] at hv
    have hj := itemT_num hit
    obtain ⟨rfl, q, rfl, rfl⟩ := hv
    have e1 : takeA As id (Av, cv) = As := by unfold takeA; rw [hit]
    have e2 : takeP p id val server = ({ p with nums := p.nums.set j (vget val 0).1 }, decide ((vget val 0).2.2 = 0 ∧ (vget val 0).2.1 = val.length) && decide (lo ≤ (vget val 0).1 ∧ (vget val 0).1 ≤ hi)) := by unfold takeP; rw [hit]
    have hjl : j < p.nums.length := by rw [hp.n]; exact hj.1
    rw [e1, e2]
    refine vcCall_of .nil (get_spec Av cv val 0 _ (Ent.gnG h1) hc hm) (fun v own' N' hv => ?_)
    obtain ⟨rfl, rfl, rfl⟩ := hv
    generalize vget val 0 = g
    obtain ⟨n, en, e⟩ := g
    refine vcLoad1_row (Ent.gnO .here (fun w hw => Ob.row_at hw)) rfl ?_
    have hset := pC_setNum hp hA hjl n
    have hp' : Pm.Ok { p with nums := p.nums.set j n } := ⟨hp.h, hp.b, by simpa using hp.n⟩
    have hnum : Pm.num { p with nums := p.nums.set j n } j = n := by simp [Pm.num, hjl]
    refine vcStore1_1 (.row b _ (pC As p) m) _ (.there .here) rfl (by show 8 + j + 0 < (pC As p).length; omega) rfl ?_
    have fin : ∀ (u : Bool) (N : Mp), u = (decide (e = 0 ∧ en = val.length) && decide (lo ≤ n ∧ n ≤ hi)) → ∃ (own' rest : List Ob) (N' : Mp), Pick own' ((Ob.row b 25 (pC As p) m).set (8 + j + 0) (.int .i64 n) :: [.row q 78 [.pointer (some ((⟨b, 0, none⟩ : Addr).add (8 + j))), .int .i64 lo, .int .i64 hi] 3]) rest ∧ (∀ w, N w → Objs rest w → N' w) ∧
        (Value.bool u = .bool (decide (e = 0 ∧ en = val.length) && decide (lo ≤ n ∧ n ≤ hi)) ∧ own' = [.row b 25 (pC As { p with nums := p.nums.set j n }) m] ∧ N' = MT) := fun u N hu => by
      refine ⟨_, _, MT, .cons .here .nil, fun _ _ _ => trivial, by rw [hu], ?_, rfl⟩
      show [Ob.row b _ ((pC As p).set (8 + j) (.int .i64 n)) m] = _
      rw [hset]
    refine vcIf_dec (fun he => ?_) (fun he => ?_)
    · refine vcIf_dec (fun hen => ?_) (fun hen => ?_)
      · refine vcCall_of .nil (nright_spec q b j lo hi n (pC As { p with nums := p.nums.set j n }) _ (Ent.gnO (.there .here) (fun w hw => Ob.row_at hw)) (Ent.gnO .here (fun w hw => hset ▸ Ob.row_at hw)) (by rw [hp'.num hA hj.1, hnum])) (fun v own' N' hv => ?_)
        obtain ⟨rfl, rfl, rfl⟩ := hv
        exact fin _ _ (by rw [show decide (e = 0 ∧ en = (val.length : Int)) = true from decide_eq_true ⟨he, hen⟩, Bool.true_and])
      · exact fin _ _ (by rw [show decide (e = 0 ∧ en = (val.length : Int)) = false from decide_eq_false fun h => hen h.2, Bool.false_and])
    · exact fin _ _ (by rw [show decide (e = 0 ∧ en = (val.length : Int)) = false from decide_eq_false fun h => he h.1, Bool.false_and])
  | txt j lo hi s =>
    rw [hit] at hv
    have hj := itemT_txt hit
    obtain ⟨rfl, q, rfl, rfl⟩ := hv
    have e1 : takeA As id (Av, cv) = As.set j (Av, cv) := by unfold takeA; rw [hit]
    have e2 : takeP p id val server = ({ p with hs := p.hs.set j true, bys := p.bys.set j val }, (server || !s) && decide (lo ≤ val.length ∧ (val.length : Int) ≤ hi)) := by unfold takeP; rw [hit]
    rw [e1, e2]
    have hjh : j < p.hs.length := by rw [hp.h]; exact hj.1
    have hjb : j < p.bys.length := by rw [hp.b]; exact hj.1
    have hp1 : Pm.Ok { p with hs := p.hs.set j true } := ⟨by simpa using hp.h, hp.b, hp.n⟩
    have hp2 : Pm.Ok { p with hs := p.hs.set j true, bys := p.bys.set j val } := ⟨by simpa using hp.h, by simpa using hp.b, hp.n⟩
    have hA2 : (As.set j (Av, cv)).length = 4 := by simpa using hA
    have hset : ((pC As p).set j (.bool true)).set (4 + j) (.slice Av val.length cv) = pC (As.set j (Av, cv)) { p with hs := p.hs.set j true, bys := p.bys.set j val } := by
      rw [pC_setHas hjh]
      exact pC_setBy hp1 hA hj.1 (Av, cv) val
    refine vcDraw_mix [0,1,2,3,4,5,6,7,8,9,10,11,12] (RowAt (some ⟨q, 0, none⟩) [.pointer (some ((⟨b, 0, none⟩ : Addr).add j)), .pointer (some ((⟨b, 0, none⟩ : Addr).add (4 + j))), .int .i64 lo, .int .i64 hi, .bool s]) (by kernel_rfl) (Ent.gnO .here (fun w hw => Ob.row_at hw)) ?_
    refine vcLoad1_row Ent.refl rfl ?_
    refine vcLoad1_row Ent.refl rfl ?_
    refine vcStore1_1 (.row b _ (pC As p) m) _ (.there .here) rfl (by show j + 0 < (pC As p).length; omega) rfl ?_
    refine vcMix_same (Ent.gnO (.there .here) (fun w hw => Ob.row_at hw)) ?_
    refine vcStore1_1 (.row b _ ((pC As p).set (j + 0) (.bool true)) m) _ .here rfl (by show 4 + j + 0 < ((pC As p).set _ _).length; rw [List.length_set]; omega) rfl ?_
    refine vcMix_same (Ent.gnO (.there .here) (fun w hw => Ob.row_at hw)) ?_
    refine vcCall_of .nil (tright_spec q b j lo hi s server true Av val.length cv (pC (As.set j (Av, cv)) { p with hs := p.hs.set j true, bys := p.bys.set j val }) _ (Ent.gnO (.there .here) (fun w hw => Ob.row_at hw)) (Ent.gnO .here (fun w hw => hset ▸ Ob.row_at hw)) (by rw [hp2.has hj.1]; simp [Pm.has, hjh]) (by rw [hp2.by_ hA2 hj.1]; simp [Pm.by_, aAt, hjb, hA, hj.1])) (fun v own' N' hv => ?_)
    obtain ⟨rfl, rfl, rfl⟩ := hv
    refine ⟨_, _, MT, .cons .here .nil, fun _ _ _ => trivial, by simp [tupleOf], ?_, rfl⟩
    show [Ob.row b _ (((pC As p).set j (.bool true)).set (4 + j) (.slice Av val.length cv)) m] = _
    rw [hset]
  | none =>
    rw [hit] at hv
    obtain ⟨rfl, rfl, rfl⟩ := hv
    have e1 : takeA As id (Av, cv) = As := by unfold takeA; rw [hit]
    have e2 : takeP p id val server = if id = 12 then ({ p with nm := true }, decide (val.length = 0)) else (p, true) := by unfold takeP; rw [hit]
    rw [e1, e2]
    refine vcIf_dec (fun h12 => ?_) (fun h12 => ?_)
    · refine vcStore1_1 (.row b _ (pC As p) m) _ .here rfl (by show 19 + 0 < (pC As p).length; omega) rfl ?_
      refine ⟨_, _, MT, .cons .here .nil, fun _ _ _ => trivial, ?_, ?_, rfl⟩
      · rw [if_pos h12]
        exact congrArg Value.bool (decide_eq_decide.2 (by omega))
      · rw [if_pos h12]
        show [Ob.row b _ ((pC As p).set 19 (.bool true)) m] = _
        rw [pC_setNm hp hA]
    · rw [if_neg h12]
      exact ⟨_, _, MT, .cons .here .nil, fun _ _ _ => trivial, rfl, rfl, rfl⟩
end Go.Proofs.Ytaknehiifafhfaa
