/- Parameters: Encode. -/
import Derived.Test.YtaknehiifafhfaaParL
import Derived.Test.YtaknehiifafhfaaCnc
namespace Go.Proofs.Ytaknehiifafhfaa
open Go.Proofs
set_option maxRecDepth 20000

/-- What is told of a parameter. -/
def toldV (p : Pm) (id : Int) : Option (List UInt8) := match itemT id with
  | .num j _ _ => if p.num j = usualP.num j then none else some (vput (p.num j))
  | .txt j _ _ _ => if p.has j = true then some (p.by_ j) else none
  | .none => if id = 12 then (if p.nm = true then some [] else none) else none
def encI (id : Int) (v : List UInt8) : List UInt8 := vput id ++ (vput v.length ++ v)
def encO (p : Pm) (id : Int) : List UInt8 := match toldV p id with
  | some v => encI id v
  | none => []
def encN (p : Pm) (k : Nat) : List UInt8 := (List.range k).flatMap fun i : Nat => encO p i
theorem encN_succ (p : Pm) (k : Nat) : encN p (k + 1) = encN p k ++ encO p k := by
  unfold encN
  rw [List.range_succ, List.flatMap_append]; simp
def encodeP (p : Pm) (server : Bool) : List UInt8 × Int := if checkN p server 17 = true then (encN p 17, 0) else ([], 91)
theorem toldV_len {p : Pm} {server : Bool} {k : Nat} (h : checkN p server 17 = true) (hk : k < 17) {v : List UInt8} (hv : toldV p k = some v) : v.length ≤ 20 := by
  have hok := checkN_mono h hk
  unfold toldV at hv
  cases hit : itemT k with
  | num j lo hi =>
    rw [hit] at hv
    simp only at hv
    split at hv
    · cases hv
    · cases hv
      rw [vput_length]
      have := vsize_le (p.num j)
      omega
  | txt j lo hi s =>
    have hj := itemT_txt hit
    rw [hit] at hv hok
    simp only at hv
    split at hv
    · rename_i hh
      cases hv
      simp only [okIt, hh, Bool.not_true, Bool.false_or, Bool.and_eq_true, decide_eq_true_eq] at hok
      omega
    · cases hv
  | none =>
    rw [hit] at hv
    simp only at hv
    split at hv
    · split at hv
      · cases hv; simp
      · cases hv
    · cases hv
theorem encO_len {p : Pm} {server : Bool} {k : Nat} (h : checkN p server 17 = true) (hk : k < 17) : (encO p k).length ≤ 36 := by
  unfold encO
  split
  · rename_i v hv
    have := toldV_len h hk hv
    have h1 := vsize_le (k : Int)
    have h2 := vsize_le (v.length : Int)
    unfold encI
    simp only [List.length_append, vput_length]
    omega
  · simp
theorem encN_len {p : Pm} {server : Bool} (h : checkN p server 17 = true) : ∀ k, k ≤ 17 → (encN p k).length ≤ 36 * k
  | 0, _ => by simp [encN]
  | k + 1, hk => by
    have := encN_len h k (by omega)
    have := encO_len h (show k < 17 by omega)
    rw [encN_succ, List.length_append]
    omega
/-- A number that is right. -/
theorem num_range {p : Pm} {server : Bool} {k j : Nat} {lo hi : Int} (h : checkN p server 17 = true) (hk : k < 17) (hit : itemT k = .num j lo hi) : lo ≤ p.num j ∧ p.num j ≤ hi := by
  have hok := checkN_mono h hk
  rw [hit] at hok
  exact of_decide_eq_true hok

def BufO (b : Nat) (A : Option Addr) (c : Nat) (xs : List UInt8) : List Ob := [.row b 22 [.slice A xs.length c] 1, .sl A c 5 1 (Bs xs)]
theorem enc1_spec (b : Nat) (A : Option Addr) (c : Nat) (xs : List UInt8) (id : Int) (Av : Option Addr) (cv : Nat) (val : List UInt8) (G : Mp) (hid : 0 ≤ id ∧ id ≤ 16) (h1 : Ent G (RowAt Av (Bs val))) (hv : val.length ≤ 1000000) (hx : xs.length ≤ 1000000) :
    Spec Try.prog 38 #[.int .i64 id, .slice Av val.length cv, .pointer (some ⟨b, 0, none⟩)] (BufO b A c xs) G (fun v own N => ∃ A' c', v = .tuple #[] ∧ own = BufO b A' c' (xs ++ encI id val) ∧ N = MT) := by
  refine Spec.intro (args := [_, _, _]) wide Try.func38 rfl Try.call38 (by rfl) (by rfl) (fun w0 hw0 => ?_)
  have e1 := vsize_le id
  have e2 := vsize_le (val.length : Int)
  refine vcCall_of .nil (put_spec id (by omega) _) (fun v own' N' hv => ?_)
  obtain ⟨A1, c1, rfl, rfl, rfl, hc1⟩ := hv
  refine vcCall_of .nil (put_spec val.length (by omega) _) (fun v own' N' hv => ?_)
  obtain ⟨A2, c2, rfl, rfl, rfl, hc2⟩ := hv
  refine vcLoad1_0 (xs := [.slice A xs.length c]) (Ent.gnO (by first | ((repeat (first | exact .here | apply Take.there)); done) | exact .none_) (fun w hw => Ob.row_at hw)) rfl ?_
  intro bx
  have hp : pieces [(A, c, xs), (A1, c1, vput id), (A2, c2, vput val.length), (Av, cv, val)] = xs ++ encI id val := by simp [pieces, encI]
  have hl : (xs ++ encI id val).length = xs.length + (vsize id + (vsize val.length + val.length)) := by unfold encI; simp only [List.length_append, vput_length]
  refine vcCall_of .nil (concat_spec (some ⟨bx, 0, none⟩) 4 [(A, c, xs), (A1, c1, vput id), (A2, c2, vput val.length), (Av, cv, val)] _ (Ent.gnO .here (fun w hw => Ob.sl_at hw)) (fun p hp => by
    simp only [List.mem_cons, List.not_mem_nil, or_false] at hp
    rcases hp with rfl | rfl | rfl | rfl
    · exact Ent.gnO (by first | ((repeat (first | exact .here | apply Take.there)); done) | exact .none_) (fun w hw => Ob.sl_at hw)
    · exact Ent.gnO (by first | ((repeat (first | exact .here | apply Take.there)); done) | exact .none_) (fun w hw => Ob.sl_at hw)
    · exact Ent.gnO (by first | ((repeat (first | exact .here | apply Take.there)); done) | exact .none_) (fun w hw => Ob.sl_at hw)
    · exact Ent.gnG h1) (by rw [hp]; omega) (by simp)) (fun v own' N' hv => ?_)
  obtain ⟨A3, c3, rfl, rfl, rfl, hc3⟩ := hv
  rw [hp]
  refine vcStore1_0 (.row b _ [.slice A xs.length c] 1) _ (by first | ((repeat (first | exact .here | apply Take.there)); done) | exact .none_) rfl Nat.zero_lt_one rfl ?_
  exact ⟨BufO b A3 c3 (xs ++ encI id val), _, MT, .cons .here (.cons (by first | ((repeat (first | exact .here | apply Take.there)); done) | exact .none_) .nil), fun _ _ _ => trivial, A3, c3, rfl, rfl, rfl⟩

def EncPost (p : Pm) (server : Bool) (v : Value) (own : List Ob) (N : Mp) : Prop := ∃ A c, v = .tuple #[.slice A (encodeP p server).1.length c, .int .i64 (encodeP p server).2] ∧ own = [.sl A c 5 1 (Bs (encodeP p server).1)] ∧ N = MT
theorem encode_spec (As : List SlA) (p : Pm) (server : Bool) (G : Mp) (hp : p.Ok) (hA : As.length = 4) (h1 : Ent G (PmAt As p)) :
    Spec Try.prog 18 #[pA As p, .bool server] [] G (EncPost p server) := by
  refine Spec.intro (args := [_, _]) wide Try.func18 rfl Try.call18 (by rfl) (by rfl) (fun w0 hw0 => ?_)
  intro b2
  have hpl := pC_len hp hA
  refine vcLoadN_0 (xs := pC As p) (Ent.gnO .here (fun w hw => Ob.row_at hw)) hpl ?_
  refine vcCall_of .nil (check_spec As p server _ hp hA) (fun v own' N' hv => ?_)
  obtain ⟨rfl, rfl, rfl⟩ := hv
  cases hch : checkN p server 17 with
  | false =>
    have e1 : checkP p server = 91 := by unfold checkP; rw [hch]; rfl
    have e2 : encodeP p server = ([], 91) := by unfold encodeP; rw [hch]; rfl
    rw [e1]
    refine ⟨[.sl none 0 5 1 []], _, MT, .cons .none_ .nil, fun _ _ _ => trivial, none, 0, ?_, ?_, rfl⟩
    · rw [e2]; rfl
    · rw [e2]; rfl
  | true =>
  have e1 : checkP p server = 0 := by unfold checkP; rw [hch]; rfl
  have e2 : encodeP p server = (encN p 17, 0) := by unfold encodeP; rw [hch]; rfl
  rw [e1]
  refine vcCall_of .nil (usual_spec _) (fun v own' N' hv => ?_)
  obtain ⟨rfl, rfl, rfl⟩ := hv
  intro b7
  refine ⟨rfl, vcStoreN_row (xs := pC nilAs zeroP) (m := 20) _ .here rfl (pC_one _ _) ?_⟩
  intro b8
  refine vcLoop_of (fun g : Nat × Option Addr × Nat => 17 - g.1) (fun g => [(1, .bool server), (2, .pointer (some ⟨b2, 0, none⟩)), (7, .pointer (some ⟨b7, 0, none⟩)), (8, .pointer (some ⟨b8, 0, none⟩)), (9, .func (.func 38) #[] #[.pointer (some ⟨b8, 0, none⟩)]), (25, .int .i64 g.1)])
    (fun g => BufO b8 g.2.1 g.2.2 (encN p g.1) ++ [.row b7 25 (pC nilAs usualP) 20, .row b2 25 (pC As p) (pC As p).length]) (fun _ => MT) (fun g => g.1 ≤ 17)
    (0, none, 0) (by decide) ⟨rfl, rfl, rfl, rfl, rfl, rfl, trivial⟩ ⟨_, .cons .here (.cons .none_ (.cons (by first | ((repeat (first | exact .here | apply Take.there)); done) | exact .none_) (.cons (by first | ((repeat (first | exact .here | apply Take.there)); done) | exact .none_) .nil)))⟩ (fun _ _ => trivial) ?_
  rintro ⟨k, A, c⟩ hk
  simp only at hk
  refine vcIf_dec (fun hlt => ?_) (fun hge => ?_)
  · have hk' : k < 17 := (by first | omega | (simp only; omega))
    have hlen := encN_len hch k hk
    have go : ∀ (v : List UInt8), toldV p k = some v → encN p (k + 1) = encN p k ++ encI k v := fun v hv => by rw [encN_succ]; unfold encO; rw [hv]
    have stay : toldV p k = none → encN p (k + 1) = encN p k := fun hv => by rw [encN_succ]; unfold encO; rw [hv]; simp
    refine vcCall_of .nil (item_spec b2 k _) (fun v own' N' hv => ?_)
    cases hit : itemT k with
    | num j lo hi =>
      have hj := itemT_num hit
      have hnr := num_range hch hk' hit
      rw [hit] at hv
      obtain ⟨rfl, q1, rfl, rfl⟩ := hv
      refine vcCall_of .nil (item_spec b7 k _) (fun v own' N' hv => ?_)
      rw [hit] at hv
      obtain ⟨rfl, q2, rfl, rfl⟩ := hv
      have hval : toldV p k = if p.num j = usualP.num j then none else some (vput (p.num j)) := by unfold toldV; rw [hit]
      refine vcDraw_quiet (by kernel_rfl) ?_
      refine vcLoad1_row (xs := [.pointer (some ((⟨b2, 0, none⟩ : Addr).add (8 + j))), .int .i64 lo, .int .i64 hi]) (Ent.gnO (by first | ((repeat (first | exact .here | apply Take.there)); done) | exact .none_) (fun w hw => Ob.row_at hw)) rfl ?_
      refine vcLoad1_row (xs := pC As p) (Ent.gnO (by first | ((repeat (first | exact .here | apply Take.there)); done) | exact .none_) (fun w hw => Ob.row_at hw)) (hp.num hA hj.1) ?_
      refine vcLoad1_row (xs := [.pointer (some ((⟨b7, 0, none⟩ : Addr).add (8 + j))), .int .i64 lo, .int .i64 hi]) (Ent.gnO (by first | ((repeat (first | exact .here | apply Take.there)); done) | exact .none_) (fun w hw => Ob.row_at hw)) rfl ?_
      refine vcLoad1_row (xs := pC nilAs usualP) (Ent.gnO (by first | ((repeat (first | exact .here | apply Take.there)); done) | exact .none_) (fun w hw => Ob.row_at hw)) (usualP_ok.num (As := nilAs) rfl hj.1) ?_
      refine vcIf_ndec (fun hne => ?_) (fun heq => ?_)
      · rw [if_neg hne] at hval
        refine vcLoad1_row (xs := [.pointer (some ((⟨b2, 0, none⟩ : Addr).add (8 + j))), .int .i64 lo, .int .i64 hi]) (Ent.gnO (by first | ((repeat (first | exact .here | apply Take.there)); done) | exact .none_) (fun w hw => Ob.row_at hw)) rfl ?_
        refine vcLoad1_row (xs := pC As p) (Ent.gnO (by first | ((repeat (first | exact .here | apply Take.there)); done) | exact .none_) (fun w hw => Ob.row_at hw)) (hp.num hA hj.1) ?_
        refine vcCall_of .nil (put_spec (p.num j) (by omega) _) (fun v own' N' hv => ?_)
        obtain ⟨Av, cv, rfl, rfl, rfl, hcv⟩ := hv
        have h8 := vsize_le (p.num j)
        rw [← vput_length] at h8
        refine vcCall_of (A := BufO b8 A c (encN p k)) (.cons (by first | ((repeat (first | exact .here | apply Take.there)); done) | exact .none_) (.cons (by first | ((repeat (first | exact .here | apply Take.there)); done) | exact .none_) .nil)) (enc1_spec b8 A c (encN p k) k Av cv (vput (p.num j)) _ (by omega) (Ent.gnO .here (fun w hw => Ob.sl_at hw)) (by omega) (by omega)) (fun v own' N' hv => ?_)
        obtain ⟨A', c', rfl, rfl, rfl⟩ := hv
        rw [← go _ hval]
        refine vcFit_i64 (by first | omega | (simp only; omega)) ?_
        exact ⟨(k + 1, A', c'), (by first | omega | (simp only; omega)), (by first | omega | (simp only; omega)), ⟨rfl, rfl, rfl, rfl, rfl, rfl, trivial⟩, ⟨_, .cons (by first | ((repeat (first | exact .here | apply Take.there)); done) | exact .none_) (.cons (by first | ((repeat (first | exact .here | apply Take.there)); done) | exact .none_) (.cons (by first | ((repeat (first | exact .here | apply Take.there)); done) | exact .none_) (.cons (by first | ((repeat (first | exact .here | apply Take.there)); done) | exact .none_) .nil)))⟩, fun _ _ => trivial⟩
      · rw [if_pos heq] at hval
        have hk12 : (k : Int) ≠ 12 := fun h => by
          have := itemT_range k
          rw [hit] at this
          exact (this.resolve_left (by simp)).2.2.1 h
        refine vcIf_no hk12 ?_
        refine vcFit_i64 (by first | omega | (simp only; omega)) ?_
        exact ⟨(k + 1, A, c), (by first | omega | (simp only; omega)), (by first | omega | (simp only; omega)), ⟨rfl, rfl, rfl, rfl, rfl, rfl, trivial⟩, ⟨_, by rw [stay hval]; exact .cons (by first | ((repeat (first | exact .here | apply Take.there)); done) | exact .none_) (.cons (by first | ((repeat (first | exact .here | apply Take.there)); done) | exact .none_) (.cons (by first | ((repeat (first | exact .here | apply Take.there)); done) | exact .none_) (.cons (by first | ((repeat (first | exact .here | apply Take.there)); done) | exact .none_) .nil)))⟩, fun _ _ => trivial⟩
    | txt j lo hi s =>
      have hj := itemT_txt hit
      rw [hit] at hv
      obtain ⟨rfl, q1, rfl, rfl⟩ := hv
      refine vcCall_of .nil (item_spec b7 k _) (fun v own' N' hv => ?_)
      rw [hit] at hv
      obtain ⟨rfl, q2, rfl, rfl⟩ := hv
      have hval : toldV p k = if p.has j = true then some (p.by_ j) else none := by unfold toldV; rw [hit]
      refine vcDraw_quiet (by kernel_rfl) ?_
      refine vcLoad1_row (xs := [.pointer (some ((⟨b2, 0, none⟩ : Addr).add j)), .pointer (some ((⟨b2, 0, none⟩ : Addr).add (4 + j))), .int .i64 lo, .int .i64 hi, .bool s]) (Ent.gnO (by first | ((repeat (first | exact .here | apply Take.there)); done) | exact .none_) (fun w hw => Ob.row_at hw)) rfl ?_
      refine vcLoad1_row (xs := pC As p) (Ent.gnO (by first | ((repeat (first | exact .here | apply Take.there)); done) | exact .none_) (fun w hw => Ob.row_at hw)) (hp.has hj.1) ?_
      cases hh : p.has j with
      | true =>
        rw [hh, if_pos rfl] at hval
        have hvl := toldV_len hch hk' hval
        refine vcLoad1_row (xs := [.pointer (some ((⟨b2, 0, none⟩ : Addr).add j)), .pointer (some ((⟨b2, 0, none⟩ : Addr).add (4 + j))), .int .i64 lo, .int .i64 hi, .bool s]) (Ent.gnO (by first | ((repeat (first | exact .here | apply Take.there)); done) | exact .none_) (fun w hw => Ob.row_at hw)) rfl ?_
        refine vcLoad1_row (xs := pC As p) (Ent.gnO (by first | ((repeat (first | exact .here | apply Take.there)); done) | exact .none_) (fun w hw => Ob.row_at hw)) (hp.by_ hA hj.1) ?_
        refine vcCall_of (A := BufO b8 A c (encN p k)) (.cons (by first | ((repeat (first | exact .here | apply Take.there)); done) | exact .none_) (.cons (by first | ((repeat (first | exact .here | apply Take.there)); done) | exact .none_) .nil)) (enc1_spec b8 A c (encN p k) k (aAt As j).1 (aAt As j).2 (p.by_ j) _ (by omega) (Ent.gnG (h1.mono fun w h => h.at_ hp hA hj.1)) (by omega) (by omega)) (fun v own' N' hv => ?_)
        obtain ⟨A', c', rfl, rfl, rfl⟩ := hv
        rw [← go _ hval]
        refine vcFit_i64 (by first | omega | (simp only; omega)) ?_
        exact ⟨(k + 1, A', c'), (by first | omega | (simp only; omega)), (by first | omega | (simp only; omega)), ⟨rfl, rfl, rfl, rfl, rfl, rfl, trivial⟩, ⟨_, .cons (by first | ((repeat (first | exact .here | apply Take.there)); done) | exact .none_) (.cons (by first | ((repeat (first | exact .here | apply Take.there)); done) | exact .none_) (.cons (by first | ((repeat (first | exact .here | apply Take.there)); done) | exact .none_) (.cons (by first | ((repeat (first | exact .here | apply Take.there)); done) | exact .none_) .nil)))⟩, fun _ _ => trivial⟩
      | false =>
        rw [hh, if_neg (by simp)] at hval
        have hk12 : (k : Int) ≠ 12 := fun h => by
          have := itemT_range k
          rw [hit] at this
          exact (this.resolve_left (by simp)).2.2.1 h
        refine vcIf_no hk12 ?_
        refine vcFit_i64 (by first | omega | (simp only; omega)) ?_
        exact ⟨(k + 1, A, c), (by first | omega | (simp only; omega)), (by first | omega | (simp only; omega)), ⟨rfl, rfl, rfl, rfl, rfl, rfl, trivial⟩, ⟨_, by rw [stay hval]; exact .cons (by first | ((repeat (first | exact .here | apply Take.there)); done) | exact .none_) (.cons (by first | ((repeat (first | exact .here | apply Take.there)); done) | exact .none_) (.cons (by first | ((repeat (first | exact .here | apply Take.there)); done) | exact .none_) (.cons (by first | ((repeat (first | exact .here | apply Take.there)); done) | exact .none_) .nil)))⟩, fun _ _ => trivial⟩
    | none =>
      rw [hit] at hv
      obtain ⟨rfl, rfl, rfl⟩ := hv
      refine vcCall_of .nil (item_spec b7 k _) (fun v own' N' hv => ?_)
      rw [hit] at hv
      obtain ⟨rfl, rfl, rfl⟩ := hv
      have hval : toldV p k = if (k : Int) = 12 then (if p.nm = true then some [] else none) else none := by unfold toldV; rw [hit]
      refine vcDraw_quiet (by kernel_rfl) ?_
      refine vcIf_dec (fun h12 => ?_) (fun h12 => ?_)
      · rw [if_pos h12] at hval
        refine vcLoad1_row (xs := pC As p) (Ent.gnO (by first | ((repeat (first | exact .here | apply Take.there)); done) | exact .none_) (fun w hw => Ob.row_at hw)) (pC_nm hp hA) ?_
        cases hnm : p.nm with
        | true =>
          rw [hnm, if_pos rfl] at hval
          refine vcCall_of (A := BufO b8 A c (encN p k)) (.cons (by first | ((repeat (first | exact .here | apply Take.there)); done) | exact .none_) (.cons (by first | ((repeat (first | exact .here | apply Take.there)); done) | exact .none_) .nil)) (enc1_spec b8 A c (encN p k) k none 0 [] _ (by omega) (fun _ _ => RowAt.nil) (by decide) (by omega)) (fun v own' N' hv => ?_)
          obtain ⟨A', c', rfl, rfl, rfl⟩ := hv
          rw [← go _ hval]
          refine vcFit_i64 (by first | omega | (simp only; omega)) ?_
          exact ⟨(k + 1, A', c'), (by first | omega | (simp only; omega)), (by first | omega | (simp only; omega)), ⟨rfl, rfl, rfl, rfl, rfl, rfl, trivial⟩, ⟨_, .cons (by first | ((repeat (first | exact .here | apply Take.there)); done) | exact .none_) (.cons (by first | ((repeat (first | exact .here | apply Take.there)); done) | exact .none_) (.cons (by first | ((repeat (first | exact .here | apply Take.there)); done) | exact .none_) (.cons (by first | ((repeat (first | exact .here | apply Take.there)); done) | exact .none_) .nil)))⟩, fun _ _ => trivial⟩
        | false =>
          rw [hnm, if_neg (by simp)] at hval
          refine vcFit_i64 (by first | omega | (simp only; omega)) ?_
          exact ⟨(k + 1, A, c), (by first | omega | (simp only; omega)), (by first | omega | (simp only; omega)), ⟨rfl, rfl, rfl, rfl, rfl, rfl, trivial⟩, ⟨_, by rw [stay hval]; exact .cons (by first | ((repeat (first | exact .here | apply Take.there)); done) | exact .none_) (.cons (by first | ((repeat (first | exact .here | apply Take.there)); done) | exact .none_) (.cons (by first | ((repeat (first | exact .here | apply Take.there)); done) | exact .none_) (.cons (by first | ((repeat (first | exact .here | apply Take.there)); done) | exact .none_) .nil)))⟩, fun _ _ => trivial⟩
      · rw [if_neg h12] at hval
        refine vcFit_i64 (by first | omega | (simp only; omega)) ?_
        exact ⟨(k + 1, A, c), (by first | omega | (simp only; omega)), (by first | omega | (simp only; omega)), ⟨rfl, rfl, rfl, rfl, rfl, rfl, trivial⟩, ⟨_, by rw [stay hval]; exact .cons (by first | ((repeat (first | exact .here | apply Take.there)); done) | exact .none_) (.cons (by first | ((repeat (first | exact .here | apply Take.there)); done) | exact .none_) (.cons (by first | ((repeat (first | exact .here | apply Take.there)); done) | exact .none_) (.cons (by first | ((repeat (first | exact .here | apply Take.there)); done) | exact .none_) .nil)))⟩, fun _ _ => trivial⟩
  · obtain rfl : k = 17 := (by first | omega | (simp only; omega))
    refine vcLoad1_0 (xs := [.slice A (encN p 17).length c]) (Ent.gnO (by first | ((repeat (first | exact .here | apply Take.there)); done) | exact .none_) (fun w hw => Ob.row_at hw)) rfl ?_
    refine ⟨[.sl A c 5 1 (Bs (encN p 17))], _, MT, .cons (by first | ((repeat (first | exact .here | apply Take.there)); done) | exact .none_) .nil, fun _ _ _ => trivial, A, c, ?_, ?_, rfl⟩
    · rw [e2]; rfl
    · rw [e2]
end Go.Proofs.Ytaknehiifafhfaa
