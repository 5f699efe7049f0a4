/- A pool: New, anyUp; the library's searches. -/
import Derived.Test.YtekbimbohppfoaaPolC
namespace Go.Proofs.Ytekbimbohppfoaa
open Go.Proofs
set_option maxRecDepth 10000

structure CfgI where
  n : Int
  L : Int
  Q : Int
  I : Int
  F : Int
  D : Int
def cfgV (c : CfgI) : List Value := [.int .i64 c.n, .int .i64 c.L, .int .i64 c.Q, .int .i64 c.I, .int .i64 c.F, .int .i64 c.D]
def cfgA (c : CfgI) : Value := .agg #[.int .i64 c.n, .int .i64 c.L, .int .i64 c.Q, .int .i64 c.I, .int .i64 c.F, .int .i64 c.D]
def CfgOk (c : CfgI) : Prop := (1 ≤ c.n ∧ c.n ≤ 16) ∧ (1 ≤ c.L ∧ c.L ≤ 16) ∧ (0 ≤ c.Q ∧ c.Q ≤ 256) ∧ (1 ≤ c.I ∧ c.I ≤ 1048576) ∧ (1 ≤ c.D ∧ c.D ≤ 1048576) ∧ (1 ≤ c.F ∧ c.F ≤ 100)
def newP (c : CfgI) : Pl := ⟨c.n, c.L, c.Q, c.I, c.F, c.D, List.replicate c.n.toNat (0, 0), [], 0, 0, 0, 0, []⟩
theorem newP_ok {c : CfgI} (h : CfgOk c) : PlOk (newP c) := by
  obtain ⟨h1, h2, h3, h4, h5, h6⟩ := h
  refine ⟨h1, h2, h3, h4, h6, h5, ?_, fun x hx => ?_, (fun _ h => by cases h), (by simp [newP]), (by simp [newP]), ⟨Int.le_refl _, (by show (0 : Int) ≤ c.n; omega)⟩, Int.le_refl _, Int.le_refl _, h3.1, fun b => ?_⟩
  · show ((List.replicate c.n.toNat ((0 : Int), (0 : Int))).length : Int) = c.n
    rw [List.length_replicate]; omega
  · obtain rfl := List.eq_of_mem_replicate hx
    exact ⟨Int.le_refl _, by show (0 : Int) < c.F; omega⟩
  · show ((0 : Nat) : Int) ≤ c.L
    omega
theorem zerosL_bk (n : Nat) : zerosL n [.int .i64 0, .int .i64 0] = bkL (List.replicate n (0, 0)) := by
  induction n with
  | zero => rfl
  | succ n ih =>
    show [Value.int .i64 0, .int .i64 0] ++ zerosL n [.int .i64 0, .int .i64 0] = bkV (0, 0) ++ bkL (List.replicate n (0, 0))
    rw [ih]; rfl
def NewPost (c : CfgI) (v : Value) (own : List Ob) (N : Mp) : Prop := N = MT ∧ ((¬ CfgOk c ∧ v = .tuple #[.pointer none, .int .i64 30] ∧ own = []) ∨ (CfgOk c ∧ ∃ a : PlA, v = .tuple #[.pointer (some ⟨a.b, 0, none⟩), .int .i64 0] ∧ own = plO a (newP c)))
theorem new_spec (c : CfgI) (G : Mp) : Spec Try.prog 7 #[cfgA c] [] G (NewPost c) := by
  refine Spec.intro (args := [_]) wide Try.func7 rfl Try.call7 (by rfl) (by rfl) (fun w0 hw0 => ?_)
  intro b1
  have bad : ¬ CfgOk c → ∀ (own : List Ob) (N : Mp), ∃ (own' rest : List Ob) (N' : Mp), Pick own' own rest ∧ (∀ w, N w → Objs rest w → N' w) ∧ NewPost c (.tuple #[.pointer none, .int .i64 30]) own' N' :=
    fun h own N => ⟨[], own, MT, .nil, fun _ _ _ => trivial, rfl, .inl ⟨h, rfl, rfl⟩⟩
  refine vcLoad1_row (Ent.gnO .here (fun w hw => Ob.row_at hw)) rfl ?_
  refine vcCall_of .nil (between_spec c.n 1 16 _) (fun v own' N' hv => ?_); obtain ⟨rfl, rfl, rfl⟩ := hv
  refine vcIf_ndec (fun h1 => bad (fun h => h1 h.1) _ _) (fun h1 => ?_)
  refine vcLoad1_row (Ent.gnO .here (fun w hw => Ob.row_at hw)) rfl ?_
  refine vcCall_of .nil (between_spec c.L 1 16 _) (fun v own' N' hv => ?_); obtain ⟨rfl, rfl, rfl⟩ := hv
  refine vcIf_ndec (fun h2 => bad (fun h => h2 h.2.1) _ _) (fun h2 => ?_)
  refine vcLoad1_row (Ent.gnO .here (fun w hw => Ob.row_at hw)) rfl ?_
  refine vcCall_of .nil (between_spec c.Q 0 256 _) (fun v own' N' hv => ?_); obtain ⟨rfl, rfl, rfl⟩ := hv
  refine vcIf_ndec (fun h3 => bad (fun h => h3 h.2.2.1) _ _) (fun h3 => ?_)
  refine vcLoad1_row (Ent.gnO .here (fun w hw => Ob.row_at hw)) rfl ?_
  refine vcCall_of .nil (between_spec c.I 1 1048576 _) (fun v own' N' hv => ?_); obtain ⟨rfl, rfl, rfl⟩ := hv
  refine vcIf_ndec (fun h4 => bad (fun h => h4 h.2.2.2.1) _ _) (fun h4 => ?_)
  refine vcLoad1_row (Ent.gnO .here (fun w hw => Ob.row_at hw)) rfl ?_
  refine vcCall_of .nil (between_spec c.D 1 1048576 _) (fun v own' N' hv => ?_); obtain ⟨rfl, rfl, rfl⟩ := hv
  refine vcIf_ndec (fun h5 => bad (fun h => h5 h.2.2.2.2.1) _ _) (fun h5 => ?_)
  refine vcLoad1_row (Ent.gnO .here (fun w hw => Ob.row_at hw)) rfl ?_
  refine vcCall_of .nil (between_spec c.F 1 100 _) (fun v own' N' hv => ?_); obtain ⟨rfl, rfl, rfl⟩ := hv
  refine vcIf_ndec (fun h6 => bad (fun h => h6 h.2.2.2.2.2) _ _) (fun h6 => ?_)
  have hok : CfgOk c := ⟨h1, h2, h3, h4, h5, h6⟩
  refine vcDraw_fork (.one 0 (.one 1 (.one 2 (.alt 3 (.one 4 (.one 5 (.one 6 (.one 7 (.one 8 .nil))))) (.one 4 (.one 3 (.one 5 (.one 6 (.one 7 (.one 8 .nil)))))))))) (RowAt (some ⟨b1, 0, none⟩) (cfgV c)) (by kernel_rfl) (Ent.gnO .here (fun w hw => Ob.row_at hw)) ?_
  refine vcLoadN_0 Ent.refl rfl ?_
  refine vcLoad1_row Ent.refl rfl ?_
  have hn : (c.n.toNat : Int) = c.n := by omega
  have fin : ∀ (b2 b3 b6 : Nat) (own : List Ob) (N : Mp), (∃ rest, Pick [plB ⟨b6, some ⟨b2, 0, none⟩, c.n.toNat, b3, none, 0⟩ (newP c), plM ⟨b6, some ⟨b2, 0, none⟩, c.n.toNat, b3, none, 0⟩ (newP c), .sl none 0 3 1 []] own rest) →
      ∃ (own' rest : List Ob) (N' : Mp), Pick own' (.row b6 57 [.int .i64 c.n, .int .i64 c.L, .int .i64 c.Q, .int .i64 c.I, .int .i64 c.F, .int .i64 c.D, .slice (some ⟨b2, 0, none⟩) c.n.toNat c.n.toNat, .map (some b3), .int .i64 0, .int .i64 0, .int .i64 0, .slice none 0 0] 12 :: own) rest ∧ (∀ w, N w → Objs rest w → N' w) ∧ NewPost c (.tuple #[.pointer (some ⟨b6, 0, none⟩), .int .i64 0]) own' N' := by
    intro b2 b3 b6 own N ⟨rest, hp⟩
    have hR : plR ⟨b6, some ⟨b2, 0, none⟩, c.n.toNat, b3, none, 0⟩ (newP c) = .row b6 57 [.int .i64 c.n, .int .i64 c.L, .int .i64 c.Q, .int .i64 c.I, .int .i64 c.F, .int .i64 c.D, .slice (some ⟨b2, 0, none⟩) c.n.toNat c.n.toNat, .map (some b3), .int .i64 0, .int .i64 0, .int .i64 0, .slice none 0 0] 12 := by
      unfold plR plV newP; simp
    exact ⟨plO ⟨b6, some ⟨b2, 0, none⟩, c.n.toNat, b3, none, 0⟩ (newP c), rest, MT, .cons (Take.eq hR) hp, fun _ _ _ => trivial, rfl, .inr ⟨hok, _, rfl, rfl⟩⟩
  (exact And.intro (by (refine vcMk_nat c.n.toNat hn.symm hn.symm (by omega) (by omega) (fun b2 => ?_); rw [zerosL_bk]; refine vcMix_same (by first | exact Ent.gnO (.there .here) (fun w hw => Ob.row_at hw) | exact Ent.gnO (.there (.there .here)) (fun w hw => Ob.row_at hw)) ?_; intro b3; refine vcMix_same (by first | exact Ent.gnO (.there .here) (fun w hw => Ob.row_at hw) | exact Ent.gnO (.there (.there .here)) (fun w hw => Ob.row_at hw)) ?_; intro b6; refine vcMix_last (by kernel_rfl) ?_; exact fin b2 b3 b6 _ _ ⟨_, .cons (by first | ((repeat (first | exact .here | apply Take.there)); done) | exact .none_) (.cons (by first | ((repeat (first | exact .here | apply Take.there)); done) | exact .none_) (.cons .none_ .nil))⟩)) (by (intro b3; refine vcMix_same (by first | exact Ent.gnO (.there .here) (fun w hw => Ob.row_at hw) | exact Ent.gnO (.there (.there .here)) (fun w hw => Ob.row_at hw)) ?_; refine vcMk_nat c.n.toNat hn.symm hn.symm (by omega) (by omega) (fun b2 => ?_); rw [zerosL_bk]; refine vcMix_same (by first | exact Ent.gnO (.there .here) (fun w hw => Ob.row_at hw) | exact Ent.gnO (.there (.there .here)) (fun w hw => Ob.row_at hw)) ?_; intro b6; refine vcMix_last (by kernel_rfl) ?_; exact fin b2 b3 b6 _ _ ⟨_, .cons (by first | ((repeat (first | exact .here | apply Take.there)); done) | exact .none_) (.cons (by first | ((repeat (first | exact .here | apply Take.there)); done) | exact .none_) (.cons .none_ .nil))⟩)))
end Go.Proofs.Ytekbimbohppfoaa
