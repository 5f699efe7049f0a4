/- PoolAlone: what is granted and not released; plain. -/
import Derived.Test.YtekbimbohppfoaaPolN
namespace Go.Proofs.Ytekbimbohppfoaa
open Go.Proofs
set_option maxRecDepth 10000

def busyB (l : Lk) : Bool := decide (l.st ≠ 2)
def heldN (ls : List Lk) : List Int := (ls.filter busyB).map (·.num)
theorem heldN_app (a c : List Lk) : heldN (a ++ c) = heldN a ++ heldN c := by simp [heldN]
theorem heldN_cons (x : Lk) (c : List Lk) : heldN (x :: c) = if x.st ≠ 2 then x.num :: heldN c else heldN c := by
  unfold heldN
  rw [List.filter_cons]
  by_cases h : x.st = 2
  · simp [busyB, h]
  · simp [busyB, h]
theorem heldN_mem {ls : List Lk} {n : Int} : n ∈ heldN ls ↔ ∃ l ∈ ls, l.num = n ∧ l.st ≠ 2 := by
  simp only [heldN, List.mem_map, List.mem_filter, busyB, decide_eq_true_eq]
  exact ⟨fun ⟨l, ⟨h1, h2⟩, h3⟩ => ⟨l, h1, h3, h2⟩, fun ⟨l, h1, h3, h2⟩ => ⟨l, ⟨h1, h2⟩, h3⟩⟩
theorem heldN_len (ls : List Lk) : (heldN ls).length = ls.countP busyB := by
  unfold heldN; rw [List.length_map, List.countP_eq_length_filter]
theorem heldN_free {n : Int} {ls : List Lk} (h : ∀ y ∈ ls, y.num ≠ n) : (heldN ls).filter (fun x => decide (x ≠ n)) = heldN ls := by
  refine List.filter_eq_self.2 fun x hx => ?_
  obtain ⟨l, hl, rfl, _⟩ := heldN_mem.1 hx
  simp [h l hl]
theorem nums_apart {a c : List Lk} {x : Lk} (h : ((a ++ x :: c).map (·.num)).Nodup) : (∀ y ∈ a, y.num ≠ x.num) ∧ (∀ y ∈ c, y.num ≠ x.num) := by
  rw [List.map_append, List.map_cons, List.nodup_append, List.nodup_cons] at h
  refine ⟨fun y hy e => h.2.2 _ (List.mem_map_of_mem hy) _ (List.mem_cons_self ..) e, fun y hy e => h.2.1.1 (by rw [← e]; exact List.mem_map_of_mem hy)⟩
theorem heldN_drop {a c : List Lk} {x : Lk} (h : ((a ++ x :: c).map (·.num)).Nodup) : (heldN (a ++ x :: c)).filter (fun y => decide (y ≠ x.num)) = heldN (a ++ c) := by
  obtain ⟨h1, h2⟩ := nums_apart h
  rw [heldN_app, heldN_app, List.filter_append, heldN_free h1, heldN_cons]
  split
  · rw [List.filter_cons, if_neg (by simp), heldN_free h2]
  · rw [heldN_free h2]

structure Al (n L : Int) (k : Nat) (p : Pl) (held : List Int) (last : Int) : Prop where
  ok : PlOk p
  cn : p.n = n
  cL : p.L = L
  hd : held.Perm (heldN p.ls)
  last : last = p.last
  lk : p.last ≤ k
  ok2 : p.order ≤ k
theorem Al.later {n L : Int} {k k' : Nat} {p : Pl} {held : List Int} {last : Int} (h : Al n L k p held last) (hk : k ≤ k') : Al n L k' p held last :=
  ⟨h.ok, h.cn, h.cL, h.hd, h.last, by have := h.lk; omega, by have := h.ok2; omega⟩
theorem Al.mem {n L : Int} {k : Nat} {p : Pl} {held : List Int} {last : Int} (h : Al n L k p held last) {x : Int} : x ∈ held ↔ ∃ l ∈ p.ls, l.num = x ∧ l.st ≠ 2 := (h.hd.mem_iff).trans heldN_mem
theorem filter_perm {q : Int → Bool} {a b : List Int} (h : a.Perm b) : (a.filter q).Perm (b.filter q) := h.filter q
/-- A link is gone, or idle again. -/
theorem Al.gone {n L : Int} {k k' : Nat} {p p' : Pl} {held : List Int} {last : Int} (h : Al n L k p held last) {a c : List Lk} {x : Lk} (hls : p.ls = a ++ x :: c) (hok : PlOk p') (h1 : p'.n = p.n) (h2 : p'.L = p.L) (h3 : heldN p'.ls = heldN (a ++ c)) (h4 : p'.last = p.last) (h5 : p'.order ≤ k') (hk : k ≤ k') : Al n L k' p' (held.filter fun y => decide (y ≠ x.num)) last := by
  refine ⟨hok, h1.trans h.cn, h2.trans h.cL, ?_, h.last.trans h4.symm, ?_, h5⟩
  · rw [h3, ← heldN_drop (hls ▸ h.ok.nums), ← hls]
    exact filter_perm h.hd
  · have := h.lk; omega
theorem Al.fail {n L : Int} {k : Nat} {p p' : Pl} {held : List Int} {last m now e : Int} (h : Al n L k p held last) (hF : FailTo p m now e p') : (e = 0 ∧ Al n L k p' (held.filter fun y => decide (y ≠ m)) last) ∨ (e ≠ 0 ∧ p' = p) := by
  have hok := hF.ok h.ok
  rcases hF with ⟨_, he, rfl⟩ | ⟨a, x, c, hls, rfl, _, ⟨_, he, rfl⟩ | ⟨_, he, j, hj, _, rfl⟩⟩
  · exact .inr ⟨by omega, rfl⟩
  · exact .inr ⟨by omega, rfl⟩
  · exact .inl ⟨he, h.gone hls hok rfl rfl rfl rfl h.ok2 (Nat.le_refl _)⟩
theorem Al.lost {n L : Int} {k : Nat} {p p' : Pl} {held : List Int} {last m e : Int} (h : Al n L k p held last) (hF : LostTo p m e p') : (e = 0 ∧ Al n L k p' (held.filter fun y => decide (y ≠ m)) last) ∨ (e ≠ 0 ∧ p' = p) := by
  rcases hF with ⟨_, he, rfl⟩ | ⟨a, x, c, hls, rfl, he, rfl⟩
  · exact .inr ⟨by omega, rfl⟩
  · have hp := h.ok
    have hsub : (a ++ c).Sublist p.ls := by rw [hls]; exact List.Sublist.append_left (List.sublist_cons_self ..) _
    have hok : PlOk { p with ls := a ++ c } := by
      refine { hp with ls := fun y hy => hp.ls y (hsub.subset hy), born := hp.born.sublist (hsub.map _), nums := hp.nums.sublist (hsub.map _), cnt := fun b => ?_ }
      have := hp.cnt b
      have h2 := hsub.countP_le (p := fun l => decide (l.b = b))
      show (((a ++ c).countP (fun l => decide (l.b = b)) : Nat) : Int) ≤ p.L
      omega
    exact .inl ⟨he, h.gone hls hok rfl rfl rfl rfl h.ok2 (Nat.le_refl _)⟩
theorem Al.rel {n L : Int} {k : Nat} {p p' : Pl} {held : List Int} {last m now e : Int} {again : Bool} (h : Al n L k p held last) (hF : RelTo p m again now e p') : (e = 0 ∧ Al n L (k + 1) p' (held.filter fun y => decide (y ≠ m)) last) ∨ (e ≠ 0 ∧ p' = p) := by
  have hok := hF.ok h.ok
  have ho := h.ok2
  rcases hF with ⟨_, he, rfl⟩ | ⟨a, x, c, hls, rfl, _, ⟨_, he, rfl⟩ | ⟨_, he, j, hj, _, ⟨_, rfl⟩ | ⟨_, rfl⟩⟩⟩
  · exact .inr ⟨by omega, rfl⟩
  · exact .inr ⟨by omega, rfl⟩
  · exact .inl ⟨he, h.gone hls hok rfl rfl rfl rfl (by simp only; omega) (Nat.le_succ _)⟩
  · refine .inl ⟨he, h.gone hls hok rfl rfl ?_ rfl (by simp only; omega) (Nat.le_succ _)⟩
    show heldN (a ++ { x with st := 2, since := now, ord := p.order + 1 } :: c) = _
    rw [heldN_app, heldN_cons, heldN_app]
    simp
theorem Al.opened {n L : Int} {k : Nat} {p p' : Pl} {held : List Int} {last m e : Int} (h : Al n L k p held last) (hF : OpenTo p m e p') : Al n L k p' held last := by
  have hok := hF.ok h.ok
  rcases hF with ⟨_, _, rfl⟩ | ⟨a, x, c, hls, _, hs, _, rfl⟩
  · exact h
  · refine ⟨hok, h.cn, h.cL, ?_, h.last, h.lk, h.ok2⟩
    have := h.hd
    rw [hls, heldN_app, heldN_cons, hs] at this
    show held.Perm (heldN (a ++ { x with st := 1 } :: c))
    rw [heldN_app, heldN_cons]
    simpa using this
theorem Al.cancel {n L : Int} {k : Nat} {p p' : Pl} {held : List Int} {last e : Int} (h : Al n L k p held last) (hF : CanTo p e p') : Al n L k p' held last := by
  have hok := hF.ok h.ok
  rcases hF with ⟨_, rfl⟩ | ⟨q, _, _, rfl⟩
  · exact h
  · exact ⟨hok, h.cn, h.cL, h.hd, h.last, h.lk, h.ok2⟩
theorem Al.expire {n L : Int} {k : Nat} {p p' : Pl} {held gone : List Int} {last : Int} (h : Al n L k p held last) (hF : ExpTo p gone p') : Al n L k p' held last ∧ ∀ x ∈ gone, x ∉ held := by
  have hok := hF.ok h.ok
  obtain ⟨rfl, hg⟩ := hF
  have hno : ∀ x ∈ gone, x ∉ held := by
    intro x hx hm
    obtain ⟨l, hl, rfl, hs⟩ := h.mem.1 hm
    obtain ⟨y, hy, he, hs2⟩ := hg _ hx
    rw [nodup_inj h.ok.nums hy hl he] at hs2
    exact hs hs2
  refine ⟨⟨hok, h.cn, h.cL, ?_, h.last, h.lk, h.ok2⟩, hno⟩
  have e : heldN (keepL gone p.ls) = heldN p.ls := by
    unfold heldN keepL
    rw [List.filter_filter]
    congr 1
    refine List.filter_congr fun l hl => ?_
    by_cases hb : busyB l = true
    · have : l.num ∉ gone := fun hm => hno _ hm (h.mem.2 ⟨l, hl, rfl, by simpa [busyB] using hb⟩)
      simp [hb, this]
    · simp [hb]
  show held.Perm (heldN (keepL gone p.ls))
  rw [e]; exact h.hd

/-- A grant: what it gives, and what it leaves. -/
def GrTo (p : Pl) (k l b : Int) (p' : Pl) : Prop :=
  (PlOk p' ∧ p'.n = p.n ∧ p'.L = p.L ∧ p'.order = p.order) ∧
  ((k ≠ 1 ∧ k ≠ 2 ∧ l = 0 ∧ b = 0 ∧ p'.ls = p.ls ∧ p'.last = p.last) ∨
   (k = 2 ∧ p'.last = p.last ∧ ∃ a x c, p.ls = a ++ x :: c ∧ x.st = 2 ∧ x.b = b ∧ x.num = l ∧ p'.ls = a ++ { x with st := 1 } :: c) ∨
   (k = 1 ∧ l = p.last + 1 ∧ p'.last = p.last + 1 ∧ ∃ y, y.st = 0 ∧ y.b = b ∧ y.num = l ∧ p'.ls = p.ls ++ [y]))
theorem TakeTo.gr {p p' : Pl} {now k l b : Int} {up : Bool} (h : TakeTo p now k l b up p') (hp : PlOk p) : GrTo p k l b p' := by
  have hok := h.ok hp
  rcases h with ⟨rfl, rfl, rfl, rfl, _⟩ | ⟨j, hj, hb, _, _, hup, ⟨rfl, a, x, c, hls, hx, rfl, rfl⟩ | ⟨rfl, rfl, _, hc, blk, rfl⟩⟩
  · exact ⟨⟨hok, rfl, rfl, rfl⟩, .inl ⟨by decide, by decide, rfl, rfl, rfl, rfl⟩⟩
  · simp only [isI, Bool.and_eq_true, decide_eq_true_eq] at hx
    exact ⟨⟨hok, rfl, rfl, rfl⟩, .inr (.inl ⟨rfl, rfl, a, x, c, hls, hx.2, hx.1, rfl, rfl⟩)⟩
  · exact ⟨⟨hok, rfl, rfl, rfl⟩, .inr (.inr ⟨rfl, rfl, rfl, newLk p blk b, rfl, rfl, rfl, rfl⟩)⟩
theorem AcqTo.gr {p p' : Pl} {t now k l b e : Int} (h : AcqTo p t now k l b e p') (hp : PlOk p) : GrTo p k l b p' := by
  have hok := h.ok hp
  rcases h with ⟨_, rfl, rfl, rfl, _, rfl⟩ | ⟨_, _, rfl, rfl, rfl, _, rfl⟩ | ⟨_, _, _, ⟨_, rfl, rfl, rfl, rfl⟩ | ⟨_, ⟨_, _, h⟩ | ⟨_, rfl, rfl, ⟨_, rfl, rfl⟩ | ⟨_, rfl, rfl⟩⟩⟩⟩
  · exact ⟨⟨hok, rfl, rfl, rfl⟩, .inl ⟨by decide, by decide, rfl, rfl, rfl, rfl⟩⟩
  · exact ⟨⟨hok, rfl, rfl, rfl⟩, .inl ⟨by decide, by decide, rfl, rfl, rfl, rfl⟩⟩
  · exact ⟨⟨hok, rfl, rfl, rfl⟩, .inl ⟨by decide, by decide, rfl, rfl, rfl, rfl⟩⟩
  · exact h.gr hp
  · exact ⟨⟨hok, rfl, rfl, rfl⟩, .inl ⟨by decide, by decide, rfl, rfl, rfl, rfl⟩⟩
  · exact ⟨⟨hok, rfl, rfl, rfl⟩, .inl ⟨by decide, by decide, rfl, rfl, rfl, rfl⟩⟩
theorem ServeTo.gr {p p' : Pl} {now t k l b : Int} {ok : Bool} (h : ServeTo p now t k l b ok p') (hp : PlOk p) : GrTo p k l b p' := by
  have hok := h.ok hp
  rcases h with ⟨_, rfl, rfl, rfl, _, rfl, _⟩ | ⟨q, p1, up, hq, _, _, ht, _, rfl⟩
  · exact ⟨⟨hok, rfl, rfl, rfl⟩, .inl ⟨by decide, by decide, rfl, rfl, rfl, rfl⟩⟩
  · obtain ⟨⟨_, h1, h2, h3⟩, h⟩ := ht.gr hp
    exact ⟨⟨hok, h1, h2, h3⟩, h⟩
/-- The one who holds what is granted. -/
theorem Al.grant {n L : Int} {m : Nat} {p p' : Pl} {held : List Int} {last k l b : Int} (h : Al n L m p held last) (hG : GrTo p k l b p') :
    (k ≠ 1 ∧ k ≠ 2 ∧ l = 0 ∧ b = 0 ∧ Al n L (m + 1) p' held last) ∨
    ((k = 1 ∨ k = 2) ∧ l ∉ held ∧ (k = 1 → l = last + 1) ∧ (k = 2 → l ≤ last) ∧ (0 ≤ b ∧ b < n) ∧ (1 ≤ (p'.ls.countP (isB b) : Int) ∧ (p'.ls.countP (isB b) : Int) ≤ L) ∧ Al n L (m + 1) p' (held ++ [l]) (if k = 1 then l else last)) := by
  obtain ⟨⟨hok, h1, h2, h3⟩, h4⟩ := hG
  have hlast := h.last
  have hlk := h.lk
  have ho := h.ok2
  have cn := h.cn
  have cL := h.cL
  rcases h4 with ⟨k1, k2, hl, hb, hls, hla⟩ | ⟨rfl, hla, a, x, c, hls, hst, hxb, hxn, hls'⟩ | ⟨rfl, hl, hla, y, hst, hyb, hyn, hls'⟩
  · exact .inl ⟨k1, k2, hl, hb, hok, h1.trans cn, h2.trans cL, by rw [hls]; exact h.hd, hlast.trans hla.symm, by omega, by omega⟩
  · have hxm : x ∈ p.ls := by rw [hls]; simp
    have hxr := h.ok.ls x hxm
    refine .inr ⟨.inr rfl, fun hm => ?_, fun e => absurd e (by decide), fun _ => by omega, by omega, ⟨?_, ?_⟩, ?_⟩
    · obtain ⟨z, hz, he, hs⟩ := h.mem.1 hm
      rw [nodup_inj h.ok.nums hz hxm (he.trans hxn.symm)] at hs
      exact hs hst
    · have : 0 < p'.ls.countP (isB b) := List.countP_pos_iff.2 ⟨{ x with st := 1 }, by rw [hls']; simp, by simp [isB, hxb]⟩
      omega
    · have := hok.cnt b
      rw [h2, cL] at this
      exact this
    · refine ⟨hok, h1.trans cn, h2.trans cL, ?_, by rw [if_neg (by decide)]; exact hlast.trans hla.symm, by omega, by omega⟩
      have := h.hd
      rw [hls, heldN_app, heldN_cons, if_neg (by simp [hst])] at this
      rw [hls', heldN_app, heldN_cons, if_pos (by simp)]
      refine (this.append_right [l]).trans ?_
      rw [List.append_assoc, ← hxn]
      exact (List.perm_append_comm (l₁ := heldN c) (l₂ := [x.num])).append_left _
  · have hym : y ∈ p'.ls := by rw [hls']; simp
    have hyr := hok.ls y hym
    refine .inr ⟨.inl rfl, fun hm => ?_, fun _ => by omega, fun e => absurd e (by decide), by omega, ⟨?_, ?_⟩, ?_⟩
    · obtain ⟨z, hz, he, hs⟩ := h.mem.1 hm
      have := (h.ok.ls z hz).2.1
      omega
    · have : 0 < p'.ls.countP (isB b) := List.countP_pos_iff.2 ⟨y, hym, by simp [isB, hyb]⟩
      omega
    · have := hok.cnt b
      rw [h2, cL] at this
      exact this
    · refine ⟨hok, h1.trans cn, h2.trans cL, ?_, by rw [if_pos rfl]; omega, by omega, by omega⟩
      rw [hls', heldN_app, heldN_cons, if_pos (by simp [hst]), hyn]
      exact h.hd.append_right [l]

/-! ### Counting over the servers -/
def below (n : Nat) (q : Lk → Bool) (ls : List Lk) : Nat := ls.countP fun l => decide (l.b < (n : Int)) && q l
theorem below_zero {q : Lk → Bool} {ls : List Lk} (h : ∀ l ∈ ls, 0 ≤ l.b) : below 0 q ls = 0 := by
  unfold below
  rw [List.countP_eq_zero]
  intro l hl
  have := h l hl
  simp; omega
theorem below_succ (n : Nat) (q : Lk → Bool) : ∀ (ls : List Lk), below (n + 1) q ls = below n q ls + ls.countP (fun l => decide (l.b = (n : Int)) && q l)
  | [] => rfl
  | l :: r => by
    have ih := below_succ n q r
    unfold below at *
    rw [List.countP_cons, List.countP_cons, List.countP_cons, ih]
    have key : ∀ (x y z : Bool), x = (y || z) → (y && z) = false → ∀ (a b : Nat), a + b + (if (x && q l) = true then 1 else 0) = a + (if (y && q l) = true then 1 else 0) + (b + (if (z && q l) = true then 1 else 0)) := by
      intro x y z hx hyz a b
      subst hx
      cases y <;> cases z <;> cases q l <;> simp_all <;> omega
    refine key _ _ _ ?_ ?_ _ _
    · by_cases h1 : l.b < (n : Int) <;> by_cases h2 : l.b = (n : Int) <;> simp [h1, h2] <;> omega
    · by_cases h1 : l.b < (n : Int) <;> by_cases h2 : l.b = (n : Int) <;> simp [h1, h2] <;> omega
theorem below_all {n : Nat} {q : Lk → Bool} {ls : List Lk} (h : ∀ l ∈ ls, l.b < n) : below n q ls = ls.countP q := by
  unfold below
  exact List.countP_congr fun l hl => by simp [h l hl]
theorem below_le {L : Nat} {ls : List Lk} (h : ∀ b : Int, ls.countP (fun l => decide (l.b = b)) ≤ L) (h0 : ∀ l ∈ ls, 0 ≤ l.b) : ∀ n : Nat, below n (fun _ => true) ls ≤ n * L
  | 0 => by rw [below_zero h0]; omega
  | n + 1 => by
    have ih := below_le h h0 n
    have := h n
    rw [below_succ, Nat.add_mul]
    simp only [Bool.and_true]
    omega
theorem PlOk.few {p : Pl} (hp : PlOk p) : p.ls.length ≤ 256 := by
  have hn := hp.n
  have hL := hp.L
  have h1 := below_le (L := p.L.toNat) (ls := p.ls) (fun b => by have := hp.cnt b; omega) (fun l hl => (hp.ls l hl).1.1) p.n.toNat
  rw [below_all (fun l hl => by have := (hp.ls l hl).1.2; omega)] at h1
  have h2 : p.n.toNat * p.L.toNat ≤ 16 * 16 := Nat.mul_le_mul (by omega) (by omega)
  have h3 : p.ls.countP (fun _ => true) = p.ls.length := by rw [List.countP_eq_length]; simp
  omega
theorem busy_diff (ls : List Lk) (b : Int) : ls.countP (isB b) = ls.countP (isI b) + ls.countP (fun l => decide (l.b = b) && busyB l) := by
  induction ls with
  | nil => rfl
  | cons l r ih =>
    rw [List.countP_cons, List.countP_cons, List.countP_cons, ih]
    by_cases h1 : l.b = b <;> by_cases h2 : l.st = 2 <;> simp [isB, isI, busyB, h1, h2] <;> omega
end Go.Proofs.Ytekbimbohppfoaa
