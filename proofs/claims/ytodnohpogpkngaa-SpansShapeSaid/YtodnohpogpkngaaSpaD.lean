/- A set's Add. -/
import Derived.Test.YtodnohpogpkngaaSpaC
namespace Go.Proofs.Ytodnohpogpkngaa
open Go.Proofs
set_option maxRecDepth 10000

theorem add1_spec (x : Sp) (n : Int) (G : Mp) (hx : 0 ≤ x.2 ∧ x.2 ≤ 4611686018427387903) (hn : 0 ≤ n ∧ n ≤ 4611686018427387904) :
    Spec Try.prog 23 #[spA x, .int .i64 n] [] G (Ret (.int .i64 (x.2 + 1 - n))) := by
  refine Spec.intro (args := [_, _]) wide Try.func23 rfl Try.call23 (by rfl) (by rfl) (fun w0 hw0 => ?_)
  intro b
  refine vcLoad1_row (Ent.gnO .here (fun w hw => Ob.row_at hw)) rfl ?_
  refine vcFit_i64 (by omega) ?_
  refine vcFit_i64 (by omega) ?_
  exact ⟨[], _, MT, .nil, fun _ _ _ => trivial, rfl, rfl, rfl⟩

/-- The spans rise, lie apart and above the floor. -/
def Rise (floor : Int) (l : List Sp) : Prop := (∀ x ∈ l, floor ≤ x.1 ∧ x.1 ≤ x.2 ∧ x.2 ≤ 4611686018427387903) ∧ l.Pairwise fun x y => x.2 + 1 < y.1
theorem Rise.get {floor : Int} {l : List Sp} (h : Rise floor l) {i j : Nat} (hij : i < j) (hj : j < l.length) : (l[i]'(by omega)).2 + 1 < l[j].1 := List.pairwise_iff_getElem.1 h.2 i j (by omega) hj hij

theorem bsearch_spec (A : Option Addr) (c : Nat) (l : List Sp) (n : Int) (floor : Int) (G : Mp) (h1 : Ent G (RowAt A (spL l))) (hr : Rise floor l) (hf : 0 ≤ floor) (hn : 0 ≤ n ∧ n ≤ 4611686018427387904) (hl : l.length ≤ 1000000) :
    Spec Try.prog 22 #[.slice A l.length c, .int .i64 n, .func (.func 23) #[] #[]] [] G
      (fun v own N => ∃ (i : Nat) (ok : Bool), v = .tuple #[.int .i64 i, .bool ok] ∧ own = [] ∧ N = MT ∧ i ≤ l.length ∧ (∀ x ∈ l.take i, x.2 + 1 < n) ∧ (∀ x ∈ l.drop i, n ≤ x.2 + 1)) := by
  have hb : ∀ k (hk : k < l.length), 0 ≤ l[k].2 ∧ l[k].2 ≤ 4611686018427387903 := fun k hk => by
    have := hr.1 l[k] (List.getElem_mem hk)
    omega
  refine Spec.intro (args := [_, _, _]) wide Try.func22 rfl Try.call22 (by rfl) (by rfl) (fun w0 hw0 => ?_)
  refine vcLoop_of (fun g : Nat × Nat => g.2 - g.1) (fun g => [(0, .slice A l.length c), (1, .int .i64 n), (2, .func (.func 23) #[] #[]), (8, .int .i64 l.length), (9, .int .i64 g.1), (10, .int .i64 g.2)]) (fun _ => []) (fun _ => MT)
    (fun g => g.1 ≤ g.2 ∧ g.2 ≤ l.length ∧ (∀ k (hk : k < l.length), k < g.1 → l[k].2 + 1 < n) ∧ (∀ k (hk : k < l.length), g.2 ≤ k → n ≤ l[k].2 + 1))
    (0, l.length) ⟨by simp, by simp, fun k _ h => by simp at h, fun k h h' => by simp at h'; omega⟩ ⟨rfl, rfl, rfl, rfl, rfl, rfl, trivial⟩ ⟨_, .nil⟩ Ent.refl ?_
  rintro ⟨i, j⟩ ⟨hij, hj, hlo, hhi⟩
  simp only at hij hj hlo hhi
  refine vcIf_dec (fun hlt => ?_) (fun hge => ?_)
  · refine vcFit_i64 (by omega) ?_
    refine vcFit_u64_in (by omega) ?_
    refine vcShr_lit 1 rfl (by decide) ?_
    refine vcFit_i64 (by omega) ?_
    have hm : (i + j) / 2 < l.length := by omega
    refine vcIdx_nats (s := 2) ((i + j) / 2) (by omega) (Ent.gnG h1) hm (by rw [spL_len]; omega) (by omega) (fun a ha => ?_)
    subst ha
    refine vcLoadN_1 (spV l[(i + j) / 2]) (Ent.gnG h1) rfl (spL_chunk hm) ?_
    refine vcCall_of .nil (add1_spec l[(i + j) / 2] n _ (hb _ hm) hn) (fun v own' N' hv => ?_); obtain ⟨rfl, rfl, rfl⟩ := hv
    refine vcIf_dec (fun hq => ?_) (fun hq => ?_)
    · refine vcFit_i64 (by omega) ?_
      refine ⟨((i + j) / 2 + 1, j), ⟨by simp only; omega, hj, fun k hk hk' => ?_, hhi⟩, by simp only; omega, ⟨rfl, rfl, rfl, rfl, ?_, rfl, trivial⟩, ⟨_, .nil⟩, fun _ _ => trivial⟩
      · simp only at hk'
        rcases Nat.lt_or_ge k ((i + j) / 2) with h | h
        · have h3 := hr.get h hm
          have h4 := hr.1 _ (List.getElem_mem hm)
          omega
        · obtain rfl : k = (i + j) / 2 := by omega
          omega
      · exact congrArg (fun z => some (Value.int .i64 z)) (by omega)
    · refine ⟨(i, (i + j) / 2), ⟨by simp only; omega, by simp only; omega, hlo, fun k hk hk' => ?_⟩, by simp only; omega, ⟨rfl, rfl, rfl, rfl, rfl, ?_, trivial⟩, ⟨_, .nil⟩, fun _ _ => trivial⟩
      · simp only at hk'
        rcases Nat.lt_or_ge ((i + j) / 2) k with h | h
        · have h3 := hr.get h hk
          have h4 := hr.1 _ (List.getElem_mem hk)
          omega
        · obtain rfl : k = (i + j) / 2 := by omega
          omega
      · exact congrArg (fun z => some (Value.int .i64 z)) (by omega)
  obtain rfl : i = j := by omega
  have fin : ∀ ok : Bool, ∃ (i' : Nat) (ok' : Bool), Value.tuple #[.int .i64 i, .bool ok] = .tuple #[.int .i64 i', .bool ok'] ∧ ([] : List Ob) = [] ∧ MT = MT ∧ i' ≤ l.length ∧ (∀ x ∈ l.take i', x.2 + 1 < n) ∧ (∀ x ∈ l.drop i', n ≤ x.2 + 1) := fun ok => by
    refine ⟨i, ok, rfl, rfl, rfl, hj, fun x hx => ?_, fun x hx => ?_⟩
    · obtain ⟨k, hk, rfl⟩ := List.mem_take_iff_getElem.1 hx
      exact hlo k (by omega) (by omega)
    · obtain ⟨k, hk, rfl⟩ := List.mem_drop_iff_getElem.1 hx
      exact hhi _ (by omega) (by omega)
  refine vcIf_dec (fun hlt => ?_) (fun hge => ?_)
  · have hm : i < l.length := by omega
    refine vcIdx_nats (s := 2) i rfl (Ent.gnG h1) hm (by rw [spL_len]; omega) (by omega) (fun a ha => ?_)
    subst ha
    refine vcLoadN_1 (spV l[i]) (Ent.gnG h1) rfl (spL_chunk hm) ?_
    refine vcCall_of .nil (add1_spec l[i] n _ (hb _ hm) hn) (fun v own' N' hv => ?_); obtain ⟨rfl, rfl, rfl⟩ := hv
    exact ⟨[], _, MT, .nil, fun _ _ _ => trivial, fin _⟩
  · exact ⟨[], _, MT, .nil, fun _ _ _ => trivial, fin _⟩

/-! ### The set -/
def setR (b : Nat) (A : Option Addr) (n c : Nat) (most floor : Int) : Ob := .row b 54 [.int .i64 most, .int .i64 floor, .slice A n c] 3
def setO (b : Nat) (A : Option Addr) (c : Nat) (most floor : Int) (l : List Sp) : List Ob := [setR b A l.length c most floor, .sl A c 29 2 (spL l)]
structure SetOk (most floor : Int) (l : List Sp) : Prop where
  hm : 1 ≤ most ∧ most ≤ 64
  hf : 0 ≤ floor ∧ floor ≤ 4611686018427387904
  hl : l.length ≤ most
  hr : Rise floor l

theorem new_spec (most : Int) (G : Mp) : Spec Try.prog 8 #[.int .i64 most] [] G (fun v own N => N = MT ∧
    ((most < 1 ∨ 64 < most) ∧ v = .tuple #[.pointer none, .int .i64 20] ∧ own = [] ∨ (1 ≤ most ∧ most ≤ 64) ∧ ∃ b, v = .tuple #[.pointer (some ⟨b, 0, none⟩), .int .i64 0] ∧ own = setO b none 0 most 0 [])) := by
  refine Spec.intro (args := [_]) wide Try.func8 rfl Try.call8 (by rfl) (by rfl) (fun w0 hw0 => ?_)
  have bad : most < 1 ∨ 64 < most → ∃ (own' rest : List Ob) (N' : Mp), Pick own' [] rest ∧ (∀ w, MT w → Objs rest w → N' w) ∧ (N' = MT ∧
      ((most < 1 ∨ 64 < most) ∧ (Value.tuple #[.pointer none, .int .i64 20]) = .tuple #[.pointer none, .int .i64 20] ∧ own' = [] ∨ (1 ≤ most ∧ most ≤ 64) ∧ ∃ b, (Value.tuple #[.pointer none, .int .i64 20]) = .tuple #[.pointer (some ⟨b, 0, none⟩), .int .i64 0] ∧ own' = setO b none 0 most 0 [])) :=
    fun h => ⟨[], [], MT, .nil, fun _ _ _ => trivial, rfl, .inl ⟨h, rfl, rfl⟩⟩
  refine vcIf_dec (fun h1 => ?_) (fun h1 => ?_)
  · exact bad (.inl h1)
  refine vcIf_dec (fun h2 => ?_) (fun h2 => ?_)
  · exact bad (.inr h2)
  intro b
  exact ⟨_, _, MT, .cons .here (.cons .none_ .nil), fun _ _ _ => trivial, rfl, .inr ⟨⟨by omega, by omega⟩, b, rfl, rfl⟩⟩

/-! What Add computes. -/
def cutI (f t : Int) (x : Sp) : Int := if max x.1 f ≤ min x.2 t then min x.2 t - max x.1 f + 1 else 0
def oneS (o : Sp) (m : List Sp) : Sp := m.foldl (fun o x => (min o.1 x.1, max o.2 x.2)) o
def cuts (f t : Int) (m : List Sp) : Int := (m.map (cutI f t)).sum
end Go.Proofs.Ytodnohpogpkngaa
