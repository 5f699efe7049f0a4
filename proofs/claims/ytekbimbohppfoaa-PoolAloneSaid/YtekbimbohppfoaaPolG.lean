/- A pool stays right; the laws' helpers. -/
import Derived.Test.YtekbimbohppfoaaPolF
namespace Go.Proofs.Ytekbimbohppfoaa
open Go.Proofs
set_option maxRecDepth 10000

theorem upB_range {p : Pl} {now b : Int} (hp : PlOk p) (h : upB p now b) : 0 ≤ b ∧ b < p.n := by
  obtain ⟨k, hk, rfl, _⟩ := h
  have := hp.bl
  omega
theorem TakeTo.ok {p : Pl} {now k l b : Int} {up : Bool} {p' : Pl} (h : TakeTo p now k l b up p') (hp : PlOk p) : PlOk p' := by
  rcases h with ⟨_, _, _, rfl, _⟩ | ⟨j, hj, hb, _, _, hup, ⟨_, a, x, c, hls, hx, _, rfl⟩ | ⟨_, _, _, hc, blk, rfl⟩⟩
  · exact hp
  · have hbr := upB_range hp hup
    have hm : ∀ {β : Type} (f : Lk → β), f { x with st := 1 } = f x → (a ++ { x with st := 1 } :: c).map f = p.ls.map f := fun f hf => by
      rw [hls, List.map_append, List.map_append, List.map_cons, List.map_cons, hf]
    refine { hp with ls := fun y hy => ?_, born := ?_, nums := ?_, turn := ⟨by simp only; omega, by simp only; omega⟩, cnt := fun b' => ?_ }
    · rcases List.mem_append.1 hy with hy | hy
      · exact hp.ls y (by rw [hls]; exact List.mem_append_left _ hy)
      · rcases List.mem_cons.1 hy with rfl | hy
        · exact hp.ls x (by rw [hls]; simp)
        · exact hp.ls y (by rw [hls]; exact List.mem_append_right _ (List.mem_cons_of_mem _ hy))
    · show ((a ++ { x with st := 1 } :: c).map (·.born)).Nodup
      rw [hm (·.born) rfl]; exact hp.born
    · show ((a ++ { x with st := 1 } :: c).map (·.num)).Nodup
      rw [hm (·.num) rfl]; exact hp.nums
    · have := hp.cnt b'
      have e : (a ++ { x with st := 1 } :: c).countP (fun l => decide (l.b = b')) = p.ls.countP (fun l => decide (l.b = b')) := by
        rw [hls, List.countP_append, List.countP_append, List.countP_cons, List.countP_cons]
      show (((a ++ { x with st := 1 } :: c).countP (fun l => decide (l.b = b')) : Nat) : Int) ≤ p.L
      rw [e]; exact this
  · have hbr := upB_range hp hup
    have hl := hp.last
    refine { hp with ls := fun y hy => ?_, born := ?_, nums := ?_, turn := ⟨by simp only; omega, by simp only; omega⟩, last := by simp only; omega, cnt := fun b' => ?_ }
    · rcases List.mem_append.1 hy with hy | hy
      · have := hp.ls y hy
        exact ⟨this.1, ⟨this.2.1.1, by simp only; omega⟩, by simp only; omega, this.2.2.2⟩
      · rw [List.mem_singleton] at hy; subst hy
        exact ⟨hbr, ⟨by simp only [newLk]; omega, by simp [newLk]⟩, by simp [newLk], by simp [newLk]⟩
    · show ((p.ls ++ [newLk p blk b]).map (·.born)).Nodup
      rw [List.map_append, List.nodup_append]
      refine ⟨hp.born, by simp, fun u hu v hv e => ?_⟩
      simp only [List.map_cons, List.map_nil, List.mem_singleton, newLk] at hv
      obtain ⟨y, hy, rfl⟩ := List.mem_map.1 hu
      have := (hp.ls y hy).2.2.1
      omega
    · show ((p.ls ++ [newLk p blk b]).map (·.num)).Nodup
      rw [List.map_append, List.nodup_append]
      refine ⟨hp.nums, by simp, fun u hu v hv e => ?_⟩
      simp only [List.map_cons, List.map_nil, List.mem_singleton, newLk] at hv
      obtain ⟨y, hy, rfl⟩ := List.mem_map.1 hu
      have := (hp.ls y hy).2.1
      omega
    · have h1 := hp.cnt b'
      show (((p.ls ++ [newLk p blk b]).countP (fun l => decide (l.b = b')) : Nat) : Int) ≤ p.L
      rw [List.countP_append, List.countP_cons, List.countP_nil]
      by_cases hb' : b = b'
      · subst hb'
        have hc : ((p.ls.countP (fun l => decide (l.b = b)) : Nat) : Int) < p.L := hc
        simp only [newLk, decide_true, if_true]
        omega
      · have : decide ((newLk p blk b).b = b') = false := decide_eq_false hb'
        rw [this]
        simpa using h1
theorem AcqTo.ok {p : Pl} {t now k l b e : Int} {p' : Pl} (h : AcqTo p t now k l b e p') (hp : PlOk p) : PlOk p' := by
  rcases h with ⟨_, _, _, _, _, rfl⟩ | ⟨_, _, _, _, _, _, rfl⟩ | ⟨_, _, _, ⟨_, _, _, _, rfl⟩ | ⟨_, ⟨_, _, h⟩ | ⟨_, _, _, ⟨_, _, rfl⟩ | ⟨hl, _, rfl⟩⟩⟩⟩
  · exact hp
  · exact hp
  · exact hp
  · exact h.ok hp
  · exact hp
  · exact { hp with ql := by simp only [List.length_append, List.length_cons, List.length_nil]; omega }
theorem FailTo.ok {p : Pl} {n now e : Int} {p' : Pl} (h : FailTo p n now e p') (hp : PlOk p) : PlOk p' := by
  rcases h with ⟨_, _, rfl⟩ | ⟨a, x, c, hls, _, _, ⟨_, _, rfl⟩ | ⟨_, _, k, hk, _, rfl⟩⟩
  · exact hp
  · exact hp
  · have hsub : (a ++ c).Sublist p.ls := by rw [hls]; exact List.Sublist.append_left (List.sublist_cons_self ..) _
    refine { hp with bl := by simpa using hp.bl, bf := fun y hy => ?_, ls := fun y hy => hp.ls y (hsub.subset hy), born := hp.born.sublist (hsub.map _), nums := hp.nums.sublist (hsub.map _), cnt := fun b => ?_ }
    · rcases List.mem_or_eq_of_mem_set hy with hy | rfl
      · exact hp.bf y hy
      · have h1 := hp.bf _ (List.getElem_mem hk)
        have h2 := hp.F
        unfold failB
        split <;> simp only <;> omega
    · have := hp.cnt b
      have h2 := hsub.countP_le (p := fun l => decide (l.b = b))
      show (((a ++ c).countP (fun l => decide (l.b = b)) : Nat) : Int) ≤ p.L
      omega

theorem elig_new {p : Pl} {now b : Int} (h : upB p now b) (hc : (p.ls.countP (isB b) : Int) < p.L) : elig p now b := ⟨h, .inr hc⟩
/-- A link that is dialled, where nobody waits and no link is idle. -/
theorem acq_dial {p : Pl} {t now k l b e : Int} {p' : Pl} (h : AcqTo p t now k l b e p') (hq : p.q = []) (hnow : 0 ≤ now ∧ now ≤ 1099511627776) (hup : upB p now (p.turn % p.n)) (hidle : ∀ x ∈ p.ls, x.st ≠ 2) (hc : (p.ls.countP (isB (p.turn % p.n)) : Int) < p.L) :
    k = 1 ∧ l = p.last + 1 ∧ b = p.turn % p.n ∧ e = 0 ∧ ∃ blk, p' = { p with ls := p.ls ++ [newLk p blk (p.turn % p.n)], clock := p.clock + 1, last := p.last + 1, turn := p.turn % p.n + 1 } := by
  have hel := elig_new hup hc
  have hni : ∀ b x, x ∈ p.ls → isI b x = false := fun b x hx => by simp [isI, hidle x hx]
  rcases h with ⟨h, _⟩ | ⟨_, h, _⟩ | ⟨_, _, he, ⟨h, _⟩ | ⟨_, ⟨_, hk, h⟩ | ⟨h, _⟩⟩⟩
  · rw [hq] at h; cases h
  · exact absurd hnow h
  · rw [← Bool.not_eq_true] at h; exact absurd (anyU_iff.2 ⟨_, hup⟩) h
  · rcases h with ⟨h, _⟩ | ⟨j, hj, hb, hno, _, _, ⟨_, a, x, c, hls, hx, _⟩ | ⟨hk1, hl, _, _, blk, hp'⟩⟩
    · exact absurd h hk
    · rw [hni b x (by rw [hls]; simp)] at hx; cases hx
    · obtain rfl : j = 0 := by
        rcases Nat.eq_zero_or_pos j with h | h
        · exact h
        · exact absurd (by rw [Int.natCast_zero, Int.add_zero]; exact hel) (hno 0 h)
      rw [Int.natCast_zero, Int.add_zero] at hb
      subst hb
      exact ⟨hk1, hl, rfl, he, blk, hp'⟩
  · exact absurd hel (h hq _)

theorem grant_spec (k l b : Int) (G : Mp) : Spec Try.prog 10 #[.int .i64 k, .int .i64 l, .int .i64 b] [] G (Ret (.agg #[.int .i64 k, .int .i64 l, .int .i64 b])) := by
  refine Spec.intro (args := [_, _, _]) wide Try.func10 rfl Try.call10 (by rfl) (by rfl) (fun w0 hw0 => ?_)
  intro b6
  refine ⟨rfl, vcStoreN_row _ .here rfl (int3 k l b) ?_⟩
  refine vcLoadN_0 (Ent.gnO .here (fun w hw => Ob.row_at hw)) rfl ?_
  exact ⟨[], _, MT, .nil, fun _ _ _ => trivial, rfl, rfl, rfl⟩
theorem gr_inj {k l b k' l' b' : Int} : [Value.int .i64 k, .int .i64 l, .int .i64 b] = [.int .i64 k', .int .i64 l', .int .i64 b'] ↔ (k = k' ∧ l = l' ∧ b = b') := by simp

theorem awake_spec (G : Mp) : Spec Try.prog 8 #[] [] G (Ret (.bool true)) := by
  refine Spec.intro (args := []) wide Try.func8 rfl Try.call8 (by rfl) (by rfl) (fun w0 hw0 => ?_)
  have hc : CfgOk ⟨1, 1, 0, 9, 1, 9⟩ := by refine ⟨?_, ?_, ?_, ?_, ?_, ?_⟩ <;> decide
  refine vcCall_of .nil (new_spec ⟨1, 1, 0, 9, 1, 9⟩ _) (fun v own' N' hv => ?_)
  obtain ⟨rfl, ⟨h, _⟩ | ⟨_, a, rfl, rfl⟩⟩ := hv
  · exact absurd hc h
  have hp := newP_ok hc
  refine vcCall_of (by exact Pick.front) (acquire_spec a (newP ⟨1, 1, 0, 9, 1, 9⟩) 7 0 _ hp (by decide) (by decide)) (fun v own' N' hv => ?_)
  obtain ⟨k, l, b, e, p', a', rfl, rfl, rfl, _, h⟩ := hv
  obtain ⟨rfl, hl, hb, rfl, _⟩ := acq_dial h rfl (by decide) ⟨0, by decide, by decide, by decide⟩ (by simp [newP]) (by decide)
  obtain rfl : b = 0 := hb
  obtain rfl : l = 1 := hl
  intro b3
  refine ⟨rfl, vcStoreN_row _ .here rfl (int3 _ _ _) ?_⟩
  refine vcLoadN_0 (Ent.gnO .here (fun w hw => Ob.row_at hw)) rfl ?_
  refine vcEqA_of [.i .i64, .i .i64, .i .i64] (by kernel_rfl) rfl rfl _ gr_inj ?_
  exact ⟨[], _, MT, .nil, fun _ _ _ => trivial, congrArg Value.bool (decide_eq_true ⟨rfl, rfl, rfl⟩), rfl, rfl⟩
end Go.Proofs.Ytekbimbohppfoaa
