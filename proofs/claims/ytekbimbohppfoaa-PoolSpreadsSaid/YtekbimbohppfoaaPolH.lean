/- PoolSpreads. -/
import Derived.Test.YtekbimbohppfoaaPolG
namespace Go.Proofs.Ytekbimbohppfoaa
open Go.Proofs
set_option maxRecDepth 10000

/-- Behind t = q * n + r tickets. -/
structure Spread (n : Int) (q r : Nat) (p : Pl) : Prop where
  ok : PlOk p
  cn : p.n = n
  L : p.L = 16
  qn : p.q = []
  bs : p.bs = List.replicate n.toNat (0, 0)
  st : ∀ x ∈ p.ls, x.st = 0
  last : p.last = (q : Int) * n + r
  len : (p.ls.length : Int) = (q : Int) * n + r
  turn : p.turn % p.n = r
  hr : (r : Int) < n
  cnt : ∀ b : Int, 0 ≤ b → b < n → p.ls.countP (isB b) = q + (if b < r then 1 else 0)
def nextQ (n : Int) (q r : Nat) : Nat × Nat := if (r : Int) + 1 = n then (q + 1, 0) else (q, r + 1)
theorem nextQ_eq {n : Int} {q r : Nat} : ((nextQ n q r).1 : Int) * n + (nextQ n q r).2 = (q : Int) * n + r + 1 := by
  unfold nextQ
  split
  · rename_i h
    simp only [Int.natCast_add, Int.natCast_one, Int.add_mul, Int.one_mul]; omega
  · simp only; omega
theorem Spread.next {n : Int} {q r : Nat} {p : Pl} (h : Spread n q r p) {blk : Nat} {p' : Pl} (hok : PlOk p') (he : p' = { p with ls := p.ls ++ [newLk p blk (p.turn % p.n)], clock := p.clock + 1, last := p.last + 1, turn := p.turn % p.n + 1 }) :
    Spread n (nextQ n q r).1 (nextQ n q r).2 p' := by
  subst he
  have hr := h.hr
  have h1 := h.turn
  refine ⟨hok, h.cn, h.L, h.qn, h.bs, fun x hx => ?_, ?_, ?_, ?_, ?_, fun b h0 hb => ?_⟩
  · rcases List.mem_append.1 hx with hx | hx
    · exact h.st x hx
    · rw [List.mem_singleton] at hx; subst hx; rfl
  · rw [nextQ_eq]
    show p.last + 1 = _
    rw [h.last]
  · rw [nextQ_eq]
    show ((p.ls ++ [_]).length : Int) = _
    rw [List.length_append]
    have := h.len
    simp only [List.length_cons, List.length_nil]
    omega
  · show (p.turn % p.n + 1) % p.n = _
    rw [h1, h.cn]
    unfold nextQ
    split
    · rename_i e
      rw [e]; simp
    · simp only [Int.natCast_add, Int.natCast_one]
      exact Int.emod_eq_of_lt (by omega) (by omega)
  · unfold nextQ
    split
    · simp only; omega
    · simp only; omega
  · show (p.ls ++ [newLk p blk (p.turn % p.n)]).countP (isB b) = _
    rw [List.countP_append, h.cnt b h0 hb, List.countP_cons, List.countP_nil, h1]
    have e : isB b (newLk p blk r) = decide ((r : Int) = b) := rfl
    rw [e]
    unfold nextQ
    split <;> simp only [decide_eq_true_eq] <;> split <;> split <;> (try split) <;> omega
theorem Spread.start {c : CfgI} (h : CfgOk c) (hL : c.L = 16) : Spread c.n 0 0 (newP c) := by
  have := h.1
  refine ⟨newP_ok h, rfl, hL, rfl, rfl, (fun _ h => by cases h), ?_, ?_, ?_, ?_, fun b h0 hb => ?_⟩
  · simp [newP]
  · simp [newP]
  · simp [newP]
  · simp only [Int.natCast_zero]; omega
  · simp [newP]; omega

theorem spreads_spec (n count : Int) (G : Mp) : Spec Try.prog 3 #[.int .i64 n, .int .i64 count] [] G (Ret (.bool true)) := by
  refine Spec.intro (args := [_, _]) wide Try.func3 rfl Try.call3 (by rfl) (by rfl) (fun w0 hw0 => ?_)
  intro b5
  refine ⟨rfl, vcStoreN_row _ .here rfl (by simp [oneCell, cellsL]) ?_⟩
  refine vcLoadN_0 (Ent.gnO .here (fun w hw => Ob.row_at hw)) rfl ?_
  refine vcCall_of .nil (new_spec ⟨n, 16, 0, 9, 9, 9⟩ _) (fun v own' N' hv => ?_)
  have hcf : CfgOk ⟨n, 16, 0, 9, 9, 9⟩ ↔ 1 ≤ n ∧ n ≤ 16 := by
    unfold CfgOk; simp only; omega
  obtain ⟨rfl, ⟨h, rfl, rfl⟩ | ⟨h, a, rfl, rfl⟩⟩ := hv
  · rw [hcf] at h
    refine vcIf_dec (fun h1 => ?_) (fun h1 => ?_)
    · refine vcCall_of .nil (awake_spec _) (fun v own' N' hv => ?_); obtain ⟨rfl, rfl, rfl⟩ := hv
      exact ⟨[], _, MT, .nil, fun _ _ _ => trivial, rfl, rfl, rfl⟩
    · refine vcIf_yes (by omega) ?_
      refine vcCall_of .nil (awake_spec _) (fun v own' N' hv => ?_); obtain ⟨rfl, rfl, rfl⟩ := hv
      exact ⟨[], _, MT, .nil, fun _ _ _ => trivial, rfl, rfl, rfl⟩
  have hn' := hcf.1 h
  refine vcLoop_of (fun g : Nat × Nat × Pl × PlA => (16 * n - (g.1 * n + g.2.1)).toNat) (fun g => [(0, .int .i64 n), (1, .int .i64 count), (6, .pointer (some ⟨g.2.2.2.b, 0, none⟩)), (8, .int .i64 (g.1 * n + g.2.1))])
    (fun g => plO g.2.2.2 g.2.2.1) (fun _ => MT) (fun g => Spread n g.1 g.2.1 g.2.2.1 ∧ (g.1 : Int) * n + g.2.1 ≤ 16 * n) (0, 0, newP ⟨n, 16, 0, 9, 9, 9⟩, a) ⟨Spread.start h rfl, by simp only [Int.natCast_zero]; omega⟩ ⟨rfl, rfl, rfl, congrArg (fun z => some (Value.int .i64 z)) (by simp), trivial⟩ ⟨_, Pick.front⟩ (fun _ _ => trivial) ?_
  rintro ⟨q, r, p, a'⟩ ⟨hs, hle⟩
  simp only at hs hle
  have hr := hs.hr
  have hp := hs.ok
  have ht0 : 0 ≤ (q : Int) * n := Int.mul_nonneg (by omega) (by omega)
  generalize hT : (q : Int) * n = T at *
  have fin : ∀ (own : List Ob) (N : Mp), ∃ (own' rest : List Ob) (N' : Mp), Pick own' own rest ∧ (∀ w, N w → Objs rest w → N' w) ∧ (Value.bool true = .bool true ∧ own' = [] ∧ N' = MT) := fun own N => ⟨[], own, MT, .nil, fun _ _ _ => trivial, rfl, rfl, rfl⟩
  refine vcIf_dec (fun h1 => ?_) (fun h1 => ?_)
  · refine vcFit_i64 (by first | omega | (simp only; omega)) ?_
    refine vcIf_dec (fun h2 => ?_) (fun h2 => ?_)
    · simp only at h1 h2
      have hq16 : q < 16 := by
        rcases Nat.lt_or_ge q 16 with h | h
        · exact h
        · have : 16 * n ≤ (q : Int) * n := Int.mul_le_mul_of_nonneg_right (by omega) (by omega)
          omega
      have hturn := hs.turn
      have hcn := hs.cn
      have hL := hs.L
      refine vcCall_of (by exact Pick.whole) (acquire_spec a' p (T + r) 0 _ hp (by rw [hs.last]; omega) (by have := hs.len; omega)) (fun v own' N' hv => ?_)
      obtain ⟨k, l, b, e, p', a2, rfl, rfl, rfl, hab, hA⟩ := hv
      obtain ⟨rfl, rfl, rfl, rfl, blk, hp'⟩ := acq_dial hA hs.qn (by omega) (by
        refine ⟨r, by rw [hs.bs, List.length_replicate]; omega, hturn, ?_⟩
        simp [hs.bs]) (fun x hx => by rw [hs.st x hx]; decide) (by
        rw [hturn, hs.cnt r (by omega) (by omega), hL]
        simp; omega)
      have hs' := hs.next (hA.ok hp) hp'
      intro b9
      refine ⟨rfl, vcStoreN_row _ .here rfl (int3 _ _ _) ?_⟩
      have hmod : (T + r) % n = r := by
        rw [← hT, Int.add_comm, Int.add_mul_emod_self_right]
        exact Int.emod_eq_of_lt (by omega) (by omega)
      refine vcDraw_mix [0,1,2,3,4,5,6,7,8,9,10,11] (RowAt (some ⟨b9, 0, none⟩) [.int .i64 1, .int .i64 (p.last + 1), .int .i64 (p.turn % p.n)]) (by kernel_rfl) (Ent.gnO .here (fun w hw => Ob.row_at hw)) ?_
      refine vcLoadN_0 Ent.refl rfl ?_
      refine vcFit_i64 (by first | omega | (simp only; omega)) ?_
      refine vcRem_pos (by first | omega | (simp only; omega)) ?_
      refine vcCall_of .nil (grant_spec 1 (T + r + 1) ((T + r) % n) _) (fun v own' N' hv => ?_); obtain ⟨rfl, rfl, rfl⟩ := hv
      refine vcMix_same (Ent.gnO .here (fun w hw => Ob.row_at hw)) ?_
      refine vcEqA_of [.i .i64, .i .i64, .i .i64] (by kernel_rfl) rfl rfl _ gr_inj ?_
      rw [decide_eq_true (show (1 : Int) = 1 ∧ p.last + 1 = T + r + 1 ∧ p.turn % p.n = (T + r) % n from ⟨rfl, by rw [hs.last, hT], by rw [hmod, hturn]⟩)]
      refine vcFit_i64 (by first | omega | (simp only; omega)) ?_
      have hnx := nextQ_eq (n := n) (q := q) (r := r)
      rw [hT] at hnx
      exact ⟨((nextQ n q r).1, (nextQ n q r).2, p', a2), ⟨hs', by simp only; omega⟩, by simp only; omega, ⟨rfl, rfl, by rw [← hab]; rfl, congrArg (fun z => some (Value.int .i64 z)) (by simp only; omega), trivial⟩, ⟨_, Pick.front.under⟩, fun _ _ => trivial⟩
    · refine vcCall_of .nil (awake_spec _) (fun v own' N' hv => ?_); obtain ⟨rfl, rfl, rfl⟩ := hv
      exact fin _ _
  · refine vcCall_of .nil (awake_spec _) (fun v own' N' hv => ?_); obtain ⟨rfl, rfl, rfl⟩ := hv
    exact fin _ _
end Go.Proofs.Ytekbimbohppfoaa
