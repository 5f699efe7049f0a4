/- Keys of a secret; its next. -/
import Derived.Test.YtlaelknibcehdaaGrdM
namespace Go.Proofs.Ytlaelknibcehdaa
open Go.Proofs
set_option maxRecDepth 10000

def kKey (s : List UInt8) : List UInt8 := (expandL s [107, 101, 121] 16).1
def kIv (s : List UInt8) : List UInt8 := (expandL s [105, 118] 12).1
def kHp (s : List UInt8) : List UInt8 := (expandL s [104, 112] 16).1
def makeL (s : List UInt8) : List UInt8 × List UInt8 × List UInt8 × Int := if s.length ≠ 16 then ([], [], [], 70) else (kKey s, kIv s, kHp s, 0)
def nextL (s : List UInt8) : List UInt8 × Int := if s.length ≠ 16 then ([], 70) else expandL s [107, 117] 16
theorem makeL_no {s : List UInt8} (h : s.length ≠ 16) : makeL s = ([], [], [], 70) := if_pos h
theorem makeL_ok {s : List UInt8} (h : s.length = 16) : makeL s = (kKey s, kIv s, kHp s, 0) := if_neg (by omega)
theorem nextL_no {s : List UInt8} (h : s.length ≠ 16) : nextL s = ([], 70) := if_pos h
theorem nextL_ok {s : List UInt8} (h : s.length = 16) : nextL s = expandL s [107, 117] 16 := if_neg (by omega)
theorem exp_len {s lab : List UInt8} {n : Nat} (h : s.length ≤ 255) (h2 : lab.length ≤ 255) (h3 : n ≤ 1024) : (expandL s lab n).1.length = n ∧ (expandL s lab n).2 = 0 := by
  rw [expandL_ok (by omega) (by omega)]; exact ⟨expandL_length, rfl⟩
theorem kKey_length {s : List UInt8} (h : s.length = 16) : (kKey s).length = 16 := (exp_len (n := 16) (by omega) (by decide) (by decide)).1
theorem kIv_length {s : List UInt8} (h : s.length = 16) : (kIv s).length = 12 := (exp_len (n := 12) (by omega) (by decide) (by decide)).1
theorem kHp_length {s : List UInt8} (h : s.length = 16) : (kHp s).length = 16 := (exp_len (n := 16) (by omega) (by decide) (by decide)).1

def GetKE (r : List UInt8 × List UInt8 × List UInt8 × Int) (v : Value) (own : List Ob) (N : Mp) : Prop := ∃ A1 c1 A2 c2 A3 c3, v = .tuple #[keysV (A1, c1, r.1) (A2, c2, r.2.1) (A3, c3, r.2.2.1), .int .i64 r.2.2.2] ∧ own = [] ∧
  Ent N (RowAt A1 (Bs r.1)) ∧ Ent N (RowAt A2 (Bs r.2.1)) ∧ Ent N (RowAt A3 (Bs r.2.2.1)) ∧ r.1.length ≤ c1 ∧ r.2.1.length ≤ c2 ∧ r.2.2.1.length ≤ c3
theorem retK {s r : List UInt8 × List UInt8 × List UInt8 × Int} (h : s = r) {v : Value} {own : List Ob} {N : Mp} (k : GetKE r v own N) : GetKE s v own N := by subst h; exact k
theorem retG {s : List UInt8 × Int} {bs : List UInt8} {e : Int} (h : s = (bs, e)) {v : Value} {own : List Ob} {N : Mp} (k : GetBE bs e v own N) : GetBE s.1 s.2 v own N := by subst h; exact k
theorem GetKE_nil (N : Mp) : GetKE ([], [], [], 70) (.tuple #[.agg #[.slice none 0 0, .slice none 0 0, .slice none 0 0], .int .i64 70]) [] N := ⟨none, 0, none, 0, none, 0, rfl, rfl, fun _ _ => RowAt.nil, fun _ _ => RowAt.nil, fun _ _ => RowAt.nil, Nat.le_refl _, Nat.le_refl _, Nat.le_refl _⟩

theorem next_spec (As : Option Addr) (cs : Nat) (s : List UInt8) (G : Mp) (hs : Ent G (RowAt As (Bs s))) :
    Spec Try.prog 23 #[.slice As s.length cs] [] G (GetBE (nextL s).1 (nextL s).2) := by
  refine Spec.intro (args := [_]) wide Try.func23 rfl Try.call23 (by rfl) (by rfl) (fun w0 hw0 => ?_)
  refine vcIf_ndec (fun h1 => ?_) (fun h1 => ?_)
  · exact ⟨_, _, MT, .nil, fun _ _ _ => trivial, retG (nextL_no (by omega)) ⟨none, 0, rfl, rfl, fun _ _ => RowAt.nil, Nat.le_refl _⟩⟩
  rw [nextL_ok (by omega)]
  refine vcCall_of .nil (expand_spec As cs s _ 16 _ (Ent.gnG hs)) (fun v own' N' hv => ?_)
  obtain ⟨A, c, rfl, rfl, hrow, hc⟩ := hv
  exact ⟨_, _, _, .nil, fun _ h _ => h, A, c, rfl, rfl, Ent.andR hrow, hc⟩
theorem rnext_spec (As : Option Addr) (cs : Nat) (s : List UInt8) (G : Mp) (hs : Ent G (RowAt As (Bs s))) :
    Spec Try.prog 24 #[.slice As s.length cs] [] G (OwnBE (nextL s).1 (nextL s).2) := by
  refine Spec.intro (args := [_]) wide Try.func24 rfl Try.call24 (by rfl) (by rfl) (fun w0 hw0 => ?_)
  refine vcIf_ndec (fun h1 => ?_) (fun h1 => ?_)
  · exact ⟨_, _, MT, .cons .none_ .nil, fun _ _ _ => trivial, retE (nextL_no (by omega)) (OwnBE_nil 70)⟩
  rw [nextL_ok (by omega)]
  refine vcCall_of .nil (rexpand_spec As cs s _ 16 _ (Ent.gnG hs)) (fun v own' N' hv => ?_)
  obtain ⟨A, c, rfl, rfl, rfl, hc⟩ := hv
  exact ⟨_, _, MT, .cons .here .nil, fun _ _ _ => trivial, A, c, rfl, rfl, rfl, hc⟩

theorem make_spec (As : Option Addr) (cs : Nat) (s : List UInt8) (G : Mp) (hs : Ent G (RowAt As (Bs s))) :
    Spec Try.prog 21 #[.slice As s.length cs] [] G (GetKE (makeL s)) := by
  refine Spec.intro (args := [_]) wide Try.func21 rfl Try.call21 (by rfl) (by rfl) (fun w0 hw0 => ?_)
  intro bo
  refine vcIf_ndec (fun h1 => ?_) (fun h1 => ?_)
  · refine ⟨rfl, vcStoreN_row _ .here rfl (by simp [oneCell, cellsL]) ?_⟩
    refine vcLoadN_0 (Ent.gnO .here (fun w hw => Ob.row_at hw)) rfl ?_
    exact ⟨[], _, MT, .nil, fun _ _ _ => trivial, retK (makeL_no (by omega)) (GetKE_nil _)⟩
  rw [makeL_ok (by omega)]
  intro bk
  refine vcCall_of .nil (expand_spec As cs s _ 16 _ (Ent.gnG hs)) (fun v own' N' hv => ?_)
  obtain ⟨A1, c1, rfl, rfl, hr1, hc1⟩ := hv
  rw [show (expandL s (ByteArray.mk #[107, 101, 121]).data.toList 16).1 = kKey s from rfl] at hr1 hc1 ⊢
  refine vcStore1_1 _ _ .here rfl (by show (0 : Nat) < 3; decide) rfl ?_
  refine vcCall_of .nil (expand_spec As cs s _ 12 _ (Ent.gnG hs)) (fun v own' N2 hv => ?_)
  obtain ⟨A2, c2, rfl, rfl, hr2, hc2⟩ := hv
  rw [show (expandL s (ByteArray.mk #[105, 118]).data.toList 12).1 = kIv s from rfl] at hr2 hc2 ⊢
  refine vcStore1_1 _ _ .here rfl (by show (1 : Nat) < 3; decide) rfl ?_
  refine vcCall_of .nil (expand_spec As cs s _ 16 _ (Ent.gnG hs)) (fun v own' N3 hv => ?_)
  obtain ⟨A3, c3, rfl, rfl, hr3, hc3⟩ := hv
  rw [show (expandL s (ByteArray.mk #[104, 112]).data.toList 16).1 = kHp s from rfl] at hr3 hc3 ⊢
  refine vcStore1_1 _ _ .here rfl (by show (2 : Nat) < 3; decide) rfl ?_
  refine vcLoadN_0 (Ent.gnO .here (fun w hw => Ob.row_at hw)) rfl ?_
  refine ⟨rfl, vcStoreN_row _ (.there .here) rfl (by simp [oneCell, cellsL]) ?_⟩
  refine vcLoadN_0 (Ent.gnO .here (fun w hw => Ob.row_at hw)) rfl ?_
  exact ⟨[], _, _, .nil, fun _ h _ => h, A1, c1, A2, c2, A3, c3, rfl, rfl, Ent.andL (Ent.andL (Ent.andR hr1)), Ent.andL (Ent.andR hr2), Ent.andR hr3, hc1, hc2, hc3⟩

/-- The same, with bytes of the call's own. -/
def OwnKE (r : List UInt8 × List UInt8 × List UInt8 × Int) (v : Value) (own : List Ob) (N : Mp) : Prop := ∃ A1 c1 A2 c2 A3 c3, v = .tuple #[keysV (A1, c1, r.1) (A2, c2, r.2.1) (A3, c3, r.2.2.1), .int .i64 r.2.2.2] ∧
  own = [.sl A1 c1 5 1 (Bs r.1), .sl A2 c2 5 1 (Bs r.2.1), .sl A3 c3 5 1 (Bs r.2.2.1)] ∧ N = MT ∧ r.1.length ≤ c1 ∧ r.2.1.length ≤ c2 ∧ r.2.2.1.length ≤ c3
theorem retO {s r : List UInt8 × List UInt8 × List UInt8 × Int} (h : s = r) {v : Value} {own : List Ob} {N : Mp} (k : OwnKE r v own N) : OwnKE s v own N := by subst h; exact k
theorem OwnKE_nil : OwnKE ([], [], [], 70) (.tuple #[.agg #[.slice none 0 0, .slice none 0 0, .slice none 0 0], .int .i64 70]) [.sl none 0 5 1 [], .sl none 0 5 1 [], .sl none 0 5 1 []] MT := ⟨none, 0, none, 0, none, 0, rfl, rfl, rfl, Nat.le_refl _, Nat.le_refl _, Nat.le_refl _⟩
theorem rmake_spec (As : Option Addr) (cs : Nat) (s : List UInt8) (G : Mp) (hs : Ent G (RowAt As (Bs s))) :
    Spec Try.prog 22 #[.slice As s.length cs] [] G (OwnKE (makeL s)) := by
  refine Spec.intro (args := [_]) wide Try.func22 rfl Try.call22 (by rfl) (by rfl) (fun w0 hw0 => ?_)
  intro bo
  refine vcIf_ndec (fun h1 => ?_) (fun h1 => ?_)
  · refine ⟨rfl, vcStoreN_row _ .here rfl (by simp [oneCell, cellsL]) ?_⟩
    refine vcLoadN_0 (Ent.gnO .here (fun w hw => Ob.row_at hw)) rfl ?_
    exact ⟨_, _, MT, .cons .none_ (.cons .none_ (.cons .none_ .nil)), fun _ _ _ => trivial, retO (makeL_no (by omega)) OwnKE_nil⟩
  rw [makeL_ok (by omega)]
  refine vcCall_of .nil (rexpand_spec As cs s _ 16 _ (Ent.gnG hs)) (fun v own' N' hv => ?_)
  obtain ⟨A1, c1, rfl, rfl, rfl, hc1⟩ := hv
  rw [show (expandL s (ByteArray.mk #[107, 101, 121]).data.toList 16).1 = kKey s from rfl] at hc1 ⊢
  refine vcCall_of .nil (rexpand_spec As cs s _ 12 _ (Ent.gnG hs)) (fun v own' N2 hv => ?_)
  obtain ⟨A2, c2, rfl, rfl, rfl, hc2⟩ := hv
  rw [show (expandL s (ByteArray.mk #[105, 118]).data.toList 12).1 = kIv s from rfl] at hc2 ⊢
  refine vcCall_of .nil (rexpand_spec As cs s _ 16 _ (Ent.gnG hs)) (fun v own' N3 hv => ?_)
  obtain ⟨A3, c3, rfl, rfl, rfl, hc3⟩ := hv
  rw [show (expandL s (ByteArray.mk #[104, 112]).data.toList 16).1 = kHp s from rfl] at hc3 ⊢
  refine ⟨rfl, vcStoreN_row _ (.there (.there (.there .here))) rfl (by simp [oneCell, cellsL]) ?_⟩
  refine vcLoadN_0 (Ent.gnO .here (fun w hw => Ob.row_at hw)) rfl ?_
  exact ⟨_, _, MT, .cons (by first | exact .here | exact (.there .here) | exact (.there (.there .here)) | exact (.there (.there (.there .here))) | exact (.there (.there (.there (.there .here)))) | exact (.there (.there (.there (.there (.there .here))))) | exact (.there (.there (.there (.there (.there (.there .here)))))) | exact (.there (.there (.there (.there (.there (.there (.there .here))))))) | exact (.there (.there (.there (.there (.there (.there (.there (.there .here)))))))) | exact (.there (.there (.there (.there (.there (.there (.there (.there (.there .here))))))))) | exact (.there (.there (.there (.there (.there (.there (.there (.there (.there (.there .here)))))))))) | exact (.there (.there (.there (.there (.there (.there (.there (.there (.there (.there (.there .here))))))))))) | exact (.there (.there (.there (.there (.there (.there (.there (.there (.there (.there (.there (.there .here)))))))))))) | exact (.there (.there (.there (.there (.there (.there (.there (.there (.there (.there (.there (.there (.there .here))))))))))))) | exact (.there (.there (.there (.there (.there (.there (.there (.there (.there (.there (.there (.there (.there (.there .here)))))))))))))) | exact (.there (.there (.there (.there (.there (.there (.there (.there (.there (.there (.there (.there (.there (.there (.there .here))))))))))))))) | exact (.there (.there (.there (.there (.there (.there (.there (.there (.there (.there (.there (.there (.there (.there (.there (.there .here)))))))))))))))) | exact (.there (.there (.there (.there (.there (.there (.there (.there (.there (.there (.there (.there (.there (.there (.there (.there (.there .here))))))))))))))))) | exact .none_) (.cons (by first | exact .here | exact (.there .here) | exact (.there (.there .here)) | exact (.there (.there (.there .here))) | exact (.there (.there (.there (.there .here)))) | exact (.there (.there (.there (.there (.there .here))))) | exact (.there (.there (.there (.there (.there (.there .here)))))) | exact (.there (.there (.there (.there (.there (.there (.there .here))))))) | exact (.there (.there (.there (.there (.there (.there (.there (.there .here)))))))) | exact (.there (.there (.there (.there (.there (.there (.there (.there (.there .here))))))))) | exact (.there (.there (.there (.there (.there (.there (.there (.there (.there (.there .here)))))))))) | exact (.there (.there (.there (.there (.there (.there (.there (.there (.there (.there (.there .here))))))))))) | exact (.there (.there (.there (.there (.there (.there (.there (.there (.there (.there (.there (.there .here)))))))))))) | exact (.there (.there (.there (.there (.there (.there (.there (.there (.there (.there (.there (.there (.there .here))))))))))))) | exact (.there (.there (.there (.there (.there (.there (.there (.there (.there (.there (.there (.there (.there (.there .here)))))))))))))) | exact (.there (.there (.there (.there (.there (.there (.there (.there (.there (.there (.there (.there (.there (.there (.there .here))))))))))))))) | exact (.there (.there (.there (.there (.there (.there (.there (.there (.there (.there (.there (.there (.there (.there (.there (.there .here)))))))))))))))) | exact (.there (.there (.there (.there (.there (.there (.there (.there (.there (.there (.there (.there (.there (.there (.there (.there (.there .here))))))))))))))))) | exact .none_) (.cons (by first | exact .here | exact (.there .here) | exact (.there (.there .here)) | exact (.there (.there (.there .here))) | exact (.there (.there (.there (.there .here)))) | exact (.there (.there (.there (.there (.there .here))))) | exact (.there (.there (.there (.there (.there (.there .here)))))) | exact (.there (.there (.there (.there (.there (.there (.there .here))))))) | exact (.there (.there (.there (.there (.there (.there (.there (.there .here)))))))) | exact (.there (.there (.there (.there (.there (.there (.there (.there (.there .here))))))))) | exact (.there (.there (.there (.there (.there (.there (.there (.there (.there (.there .here)))))))))) | exact (.there (.there (.there (.there (.there (.there (.there (.there (.there (.there (.there .here))))))))))) | exact (.there (.there (.there (.there (.there (.there (.there (.there (.there (.there (.there (.there .here)))))))))))) | exact (.there (.there (.there (.there (.there (.there (.there (.there (.there (.there (.there (.there (.there .here))))))))))))) | exact (.there (.there (.there (.there (.there (.there (.there (.there (.there (.there (.there (.there (.there (.there .here)))))))))))))) | exact (.there (.there (.there (.there (.there (.there (.there (.there (.there (.there (.there (.there (.there (.there (.there .here))))))))))))))) | exact (.there (.there (.there (.there (.there (.there (.there (.there (.there (.there (.there (.there (.there (.there (.there (.there .here)))))))))))))))) | exact (.there (.there (.there (.there (.there (.there (.there (.there (.there (.there (.there (.there (.there (.there (.there (.there (.there .here))))))))))))))))) | exact .none_) .nil)), fun _ _ _ => trivial, A1, c1, A2, c2, A3, c3, rfl, rfl, rfl, hc1, hc2, hc3⟩

theorem fixed_spec (G : Mp) : Spec Try.prog 42 #[] [] G (OwnB [48, 49, 50, 51, 52, 53, 54, 55, 56, 57, 97, 98, 99, 100, 101, 102]) := by
  refine Spec.intro (args := []) wide Try.func42 rfl Try.call42 (by rfl) (by rfl) (fun w0 hw0 => ?_)
  intro b
  refine vcMark_of .here ?_
  exact ⟨_, _, MT, .cons .here .nil, fun _ _ _ => trivial, some ⟨b, 0, none⟩, 16, rfl, rfl, rfl, by decide⟩
end Go.Proofs.Ytlaelknibcehdaa
