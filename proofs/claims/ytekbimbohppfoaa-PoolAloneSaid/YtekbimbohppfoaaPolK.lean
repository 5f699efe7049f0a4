/- PoolTurns. -/
import Derived.Test.YtekbimbohppfoaaPolJ
import Derived.Test.YtekbimbohppfoaaPolI
namespace Go.Proofs.Ytekbimbohppfoaa
open Go.Proofs
set_option maxRecDepth 10000

/-- One server, one link, in a state. -/
structure One (Q st : Int) (q : List Int) (p : Pl) : Prop where
  ok : PlOk p
  cn : p.n = 1
  cL : p.L = 1
  cQ : p.Q = Q
  bs : p.bs = [(0, 0)]
  qn : p.q = q
  last : p.last = 1
  ls : ∃ x, p.ls = [x] ∧ x.num = 1 ∧ x.b = 0 ∧ x.st = st
theorem One.up {Q st : Int} {q : List Int} {p : Pl} (h : One Q st q p) : upB p 0 0 := ⟨0, by rw [h.bs]; decide, rfl, by simp [h.bs]⟩
theorem One.zero {Q st : Int} {q : List Int} {p : Pl} (h : One Q st q p) {b now : Int} (hu : upB p now b) : b = 0 := by
  have := upB_range h.ok hu
  have := h.cn
  omega
theorem One.busy {Q st : Int} {q : List Int} {p : Pl} (h : One Q st q p) (hs : st ≠ 2) (now b : Int) : ¬ elig p now b := by
  intro he
  obtain ⟨x, hls, _, hb, hst⟩ := h.ls
  have h0 := h.zero he.1
  subst h0
  rcases he.2 with ⟨l, hl, hi⟩ | hc
  · rw [hls, List.mem_singleton] at hl
    subst hl
    simp [isI, hst, hs] at hi
  · rw [hls, h.cL] at hc
    simp [isB, hb] at hc
theorem One.take {Q st : Int} {q : List Int} {p : Pl} (h : One Q st q p) (hs : st ≠ 2) {k l b : Int} {up : Bool} {p' : Pl} (ht : TakeTo p 0 k l b up p') : k = 0 ∧ up = true := by
  rcases ht with ⟨h1, _, _, _, hu, _⟩ | ⟨j, hj, hb, _, _, hup, ⟨_, a, x, c, hls, hx, _, _⟩ | ⟨_, _, _, hc, _⟩⟩
  · exact ⟨h1, hu.2 ⟨0, h.up⟩⟩
  · exact absurd ⟨hup, .inl ⟨x, by rw [hls]; simp, hx⟩⟩ (h.busy hs 0 b)
  · exact absurd ⟨hup, .inr hc⟩ (h.busy hs 0 b)
theorem One.anyU {Q st : Int} {q : List Int} {p : Pl} (h : One Q st q p) : anyU p 0 = true := anyU_iff.2 ⟨0, h.up⟩
/-- A ticket comes while the link is busy. -/
theorem One.wait {Q : Int} {q : List Int} {p : Pl} (h : One Q 1 q p) {t k l b e : Int} {p' : Pl} (hA : AcqTo p t 0 k l b e p') (ht : t ∉ q) :
    e = 0 ∧ ((Q ≤ q.length ∧ k = 4 ∧ One Q 1 q p') ∨ ((q.length : Int) < Q ∧ k = 3 ∧ One Q 1 (q ++ [t]) p')) := by
  have hok := hA.ok h.ok
  have hq := h.qn
  rcases hA with ⟨h1, _⟩ | ⟨_, h1, _⟩ | ⟨_, _, he, ⟨h1, _⟩ | ⟨_, ⟨_, hk, h1⟩ | ⟨_, _, _, ⟨h1, hk, rfl⟩ | ⟨h1, hk, rfl⟩⟩⟩⟩
  · rw [hq] at h1; exact absurd h1 ht
  · exact absurd ⟨by omega, by omega⟩ h1
  · rw [h.anyU] at h1; cases h1
  · exact absurd (h.take (by decide) h1).1 hk
  · rw [hq, h.cQ] at h1
    exact ⟨he, .inl ⟨h1, hk, h⟩⟩
  · rw [hq, h.cQ] at h1
    exact ⟨he, .inr ⟨h1, hk, ⟨hok, h.cn, h.cL, h.cQ, h.bs, by show p.q ++ [t] = q ++ [t]; rw [hq], h.last, h.ls⟩⟩⟩
theorem One.serveNo {Q t : Int} {q : List Int} {p : Pl} (h : One Q 1 (t :: q) p) {u k l b : Int} {ok : Bool} {p' : Pl} (hS : ServeTo p 0 u k l b ok p') : ok = false ∧ p' = p := by
  rcases hS with ⟨_, _, _, _, h1, h2, _⟩ | ⟨_, p1, up, _, _, _, ht, hu, _⟩
  · exact ⟨h1, h2⟩
  · obtain ⟨h1, h2⟩ := h.take (by decide) ht
    exact absurd h1 (hu h2)
theorem one_split {x y : Lk} {a c : List Lk} (h : [x] = a ++ y :: c) : a = [] ∧ y = x ∧ c = [] := by
  cases a with
  | nil =>
    rw [List.nil_append] at h
    have h2 := List.cons.inj h
    exact ⟨rfl, h2.1.symm, h2.2.symm⟩
  | cons z r =>
    have := (List.cons.inj h).2
    simp at this
theorem One.release {Q : Int} {q : List Int} {p : Pl} (h : One Q 1 q p) {e : Int} {p' : Pl} (hok' : PlOk p') (hR : RelTo p 1 true 0 e p') : e = 0 ∧ One Q 2 q p' ∧ p'.order = p.order + 1 := by
  obtain ⟨x, hls, hn, hb, hst⟩ := h.ls
  rcases hR with ⟨h1, _⟩ | ⟨a, y, c, hls', hy, _, ⟨h1, _⟩ | ⟨_, he, k, hk, hkb, ⟨h1, _⟩ | ⟨_, rfl⟩⟩⟩
  · exact absurd hst (h1 x (by rw [hls]; simp) hn)
  · exact absurd ⟨by omega, by omega⟩ h1
  · cases h1
  · rw [hls] at hls'
    obtain ⟨rfl, rfl, rfl⟩ := one_split hls'
    have hk0 : k = 0 := by omega
    subst hk0
    refine ⟨he, ⟨hok', h.cn, h.cL, h.cQ, ?_, h.qn, h.last, _, rfl, hn, hb, rfl⟩, rfl⟩
    show p.bs.set 0 (0, p.bs[0].2) = _
    have hbs := h.bs
    simp [hbs]
theorem One.serveYes {Q t : Int} {q : List Int} {p : Pl} (h : One Q 2 (t :: q) p) {u k l b : Int} {ok : Bool} {p' : Pl} (hS : ServeTo p 0 u k l b ok p') (hok' : PlOk p') : ok = true ∧ u = t ∧ k = 2 ∧ l = 1 ∧ b = 0 ∧ One Q 1 q p' ∧ p'.order = p.order := by
  obtain ⟨x, hls, hn, hb, hst⟩ := h.ls
  have hel : elig p 0 0 := ⟨h.up, .inl ⟨x, by rw [hls]; simp, by simp [isI, hb, hst]⟩⟩
  rcases hS with ⟨_, _, _, _, _, _, h1 | h1 | ⟨_, h1⟩⟩ | ⟨q', p1, up, hq, _, h1, ht, hu, rfl⟩
  · rw [h.qn] at h1; cases h1
  · exact absurd ⟨by omega, by omega⟩ h1
  · exact absurd hel (h1 0)
  · rw [h.qn] at hq
    obtain ⟨rfl, rfl⟩ := List.cons.inj hq
    rcases ht with ⟨_, _, _, _, _, h2⟩ | ⟨j, hj, hbj, _, _, hup, ⟨hk, a, y, c, hls', hy, hl, rfl⟩ | ⟨_, _, hid, _⟩⟩
    · exact absurd hel (h2 0)
    · have hb0 := h.zero hup
      subst hb0
      rw [hls] at hls'
      obtain ⟨rfl, rfl, rfl⟩ := one_split hls'
      exact ⟨h1, rfl, hk, by rw [hl, hn], rfl, ⟨hok', h.cn, h.cL, h.cQ, h.bs, rfl, h.last, _, rfl, hn, hb, rfl⟩, rfl⟩
    · have hb0 := h.zero hup
      subst hb0
      have := hid x (by rw [hls]; simp)
      simp [isI, hb, hst] at this
theorem RelTo.ok {p : Pl} {n now e : Int} {again : Bool} {p' : Pl} (h : RelTo p n again now e p') (hp : PlOk p) : PlOk p' := by
  rcases h with ⟨_, _, rfl⟩ | ⟨a, x, c, hls, _, _, ⟨_, _, rfl⟩ | ⟨hnow, _, k, hk, _, ⟨_, rfl⟩ | ⟨_, rfl⟩⟩⟩
  · exact hp
  · exact hp
  · have hsub : (a ++ c).Sublist p.ls := by rw [hls]; exact List.Sublist.append_left (List.sublist_cons_self ..) _
    refine { hp with bl := by simpa using hp.bl, bf := fun y hy => ?_, ls := fun y hy => hp.ls y (hsub.subset hy), born := hp.born.sublist (hsub.map _), nums := hp.nums.sublist (hsub.map _), cnt := fun b => ?_ }
    · rcases List.mem_or_eq_of_mem_set hy with hy | rfl
      · exact hp.bf y hy
      · have h2 := hp.F
        exact ⟨Int.le_refl _, by simp only; omega⟩
    · have := hp.cnt b
      have h2 := hsub.countP_le (p := fun l => decide (l.b = b))
      show (((a ++ c).countP (fun l => decide (l.b = b)) : Nat) : Int) ≤ p.L
      omega
  · have hm : ∀ {β : Type} (f : Lk → β), f { x with st := 2, since := now, ord := p.order + 1 } = f x → (a ++ { x with st := 2, since := now, ord := p.order + 1 } :: c).map f = p.ls.map f := fun f hf => by
      rw [hls, List.map_append, List.map_append, List.map_cons, List.map_cons, hf]
    have ho := hp.ord
    refine { hp with bl := by simpa using hp.bl, bf := fun y hy => ?_, ls := fun y hy => ?_, born := ?_, nums := ?_, ord := by simp only; omega, cnt := fun b => ?_ }
    · rcases List.mem_or_eq_of_mem_set hy with hy | rfl
      · exact hp.bf y hy
      · have h2 := hp.F
        exact ⟨Int.le_refl _, by simp only; omega⟩
    · rcases List.mem_append.1 hy with hy | hy
      · exact hp.ls y (by rw [hls]; exact List.mem_append_left _ hy)
      · rcases List.mem_cons.1 hy with rfl | hy
        · have := hp.ls x (by rw [hls]; simp)
          exact ⟨this.1, this.2.1, this.2.2.1, hnow⟩
        · exact hp.ls y (by rw [hls]; exact List.mem_append_right _ (List.mem_cons_of_mem _ hy))
    · show ((a ++ { x with st := 2, since := now, ord := p.order + 1 } :: c).map (·.born)).Nodup
      rw [hm (·.born) rfl]; exact hp.born
    · show ((a ++ { x with st := 2, since := now, ord := p.order + 1 } :: c).map (·.num)).Nodup
      rw [hm (·.num) rfl]; exact hp.nums
    · have := hp.cnt b
      have e : (a ++ { x with st := 2, since := now, ord := p.order + 1 } :: c).countP (fun l => decide (l.b = b)) = p.ls.countP (fun l => decide (l.b = b)) := by
        rw [hls, List.countP_append, List.countP_append, List.countP_cons, List.countP_cons]
      show (((a ++ { x with st := 2, since := now, ord := p.order + 1 } :: c).countP (fun l => decide (l.b = b)) : Nat) : Int) ≤ p.L
      rw [e]; exact this
theorem OpenTo.ok {p : Pl} {n e : Int} {p' : Pl} (h : OpenTo p n e p') (hp : PlOk p) : PlOk p' := by
  rcases h with ⟨_, _, rfl⟩ | ⟨a, x, c, hls, _, _, _, rfl⟩
  · exact hp
  · have hm : ∀ {β : Type} (f : Lk → β), f { x with st := 1 } = f x → (a ++ { x with st := 1 } :: c).map f = p.ls.map f := fun f hf => by
      rw [hls, List.map_append, List.map_append, List.map_cons, List.map_cons, hf]
    refine { hp with ls := fun y hy => ?_, born := ?_, nums := ?_, cnt := fun b' => ?_ }
    · rcases List.mem_append.1 hy with hy | hy
      · exact hp.ls y (by rw [hls]; exact List.mem_append_left _ hy)
      · rcases List.mem_cons.1 hy with rfl | hy
        · exact hp.ls x (by rw [hls]; simp)
        · exact hp.ls y (by rw [hls]; exact List.mem_append_right _ (List.mem_cons_of_mem _ hy))
    · show ((a ++ { x with st := 1 } :: c).map (·.born)).Nodup
      rw [hm (·.born) rfl]; exact hp.born
    · show ((a ++ { x with st := 1 } :: c).map (·.num)).Nodup
      rw [hm (·.num) rfl]; exact hp.nums
    · have := hp.cnt b'
      have e : (a ++ { x with st := 1 } :: c).countP (fun l => decide (l.b = b')) = p.ls.countP (fun l => decide (l.b = b')) := by
        rw [hls, List.countP_append, List.countP_append, List.countP_cons, List.countP_cons]
      show (((a ++ { x with st := 1 } :: c).countP (fun l => decide (l.b = b')) : Nat) : Int) ≤ p.L
      rw [e]; exact this
end Go.Proofs.Ytekbimbohppfoaa
