/- Openers: the plain part; a secret tried. -/
import Derived.Test.YtlaelknibcehdaaGrdU
namespace Go.Proofs.Ytlaelknibcehdaa
open Go.Proofs
set_option maxRecDepth 10000

/-- What a secret makes of a bare packet. -/
def tryL (s : List UInt8) (b : BareL) : List UInt8 × Int := if s.length ≠ 16 then ([], 71) else unsealL (kKey s) (kIv s) b
theorem tryL_no {s : List UInt8} {b : BareL} (h : s.length ≠ 16) : tryL s b = ([], 71) := if_pos h
theorem tryL_ok {s : List UInt8} {b : BareL} (h : s.length = 16) : tryL s b = unsealL (kKey s) (kIv s) b := if_neg (by omega)
/-- An opener: the header's key, the present secret, the former one, the phase. -/
structure OpL where
  hp : List UInt8
  now : List UInt8
  old : List UInt8
  phase : Nat
def ansL (b : BareL) (r : List UInt8 × Int) : Int × List UInt8 × Int := if r.2 ≠ 0 then (0, [], r.2) else (b.number, r.1, 0)
def openB (o : OpL) (b : BareL) : OpL × Int × List UInt8 × Int :=
  if b.first.toNat / 4 % 2 = o.phase then (o, ansL b (tryL o.now b))
  else if (tryL (nextL o.now).1 b).2 = 0 then ({ o with now := (nextL o.now).1, old := o.now, phase := b.first.toNat / 4 % 2 }, ansL b (tryL (nextL o.now).1 b))
  else if (tryL (nextL o.now).1 b).2 = 71 then (o, ansL b (tryL o.old b)) else (o, ansL b (tryL (nextL o.now).1 b))
def openS (o : OpL) (P : List UInt8) (a high : Int) : OpL × Int × List UInt8 × Int :=
  if checkI P.length a high ≠ 0 then (o, 0, [], checkI P.length a high) else openB o (bareL o.hp P a.toNat high)

theorem try_spec (Ao : Option Addr) (b : BareL) (A1 A2 : Option Addr) (c1 c2 : Nat) (As : Option Addr) (cs : Nat) (s : List UInt8) (G : Mp) (hs : Ent G (RowAt As (Bs s))) (h1 : Ent G (RowAt A1 (Bs b.bound))) (h2 : Ent G (RowAt A2 (Bs b.sealed))) (hc2 : b.sealed.length ≤ c2) :
    Spec Try.prog 53 #[.pointer Ao, bareV b A1 c1 A2 c2, .slice As s.length cs] [] G (OwnBE (tryL s b).1 (tryL s b).2) := by
  refine Spec.intro (args := [_, _, _]) wide Try.func53 rfl Try.call53 (by rfl) (by rfl) (fun w0 hw0 => ?_)
  intro bx
  refine vcCall_of .nil (make_spec As cs s _ (Ent.gnG hs)) (fun v own' N1 hv => ?_)
  by_cases hl : s.length = 16
  · rw [makeL_ok hl] at hv
    obtain ⟨A3, c3, A4, c4, A5, c5, rfl, rfl, hr3, hr4, hr5, _, _, _⟩ := hv
    rw [tryL_ok hl]
    have hi12 := kIv_length hl
    intro bk
    refine ⟨rfl, vcStoreN_row _ .here rfl (by simp [keysV, pieceV, oneCell, cellsL]) ?_⟩
    refine vcLoadN_0 (xs := bareVL b A1 c1 A2 c2) (Ent.gnO (.there .here) (fun w hw => Ob.row_at hw)) rfl ?_
    refine vcLoadN_0 (xs := keysL (A3, c3, kKey s) (A4, c4, kIv s) (A5, c5, kHp s)) (Ent.gnO .here (fun w hw => Ob.row_at hw)) rfl ?_
    refine vcCall_of .nil (unseal_spec b A1 A2 c1 c2 (A3, c3, kKey s) (A4, c4, kIv s) (A5, c5, kHp s) _ hi12 (Ent.gnN (by repeat first | exact Ent.andR hr3 | refine Ent.andL ?_)) (Ent.gnN (by repeat first | exact Ent.andR hr4 | refine Ent.andL ?_)) (Ent.gnG h1) (Ent.gnG h2) hc2) (fun v own' N2 hv => ?_)
    obtain ⟨A6, c6, rfl, rfl, rfl, hc6⟩ := hv
    exact ⟨_, _, MT, .cons (by first | exact .here | exact (.there .here) | exact (.there (.there .here)) | exact (.there (.there (.there .here))) | exact (.there (.there (.there (.there .here)))) | exact (.there (.there (.there (.there (.there .here))))) | exact (.there (.there (.there (.there (.there (.there .here)))))) | exact (.there (.there (.there (.there (.there (.there (.there .here))))))) | exact (.there (.there (.there (.there (.there (.there (.there (.there .here)))))))) | exact (.there (.there (.there (.there (.there (.there (.there (.there (.there .here))))))))) | exact (.there (.there (.there (.there (.there (.there (.there (.there (.there (.there .here)))))))))) | exact (.there (.there (.there (.there (.there (.there (.there (.there (.there (.there (.there .here))))))))))) | exact (.there (.there (.there (.there (.there (.there (.there (.there (.there (.there (.there (.there .here)))))))))))) | exact (.there (.there (.there (.there (.there (.there (.there (.there (.there (.there (.there (.there (.there .here))))))))))))) | exact (.there (.there (.there (.there (.there (.there (.there (.there (.there (.there (.there (.there (.there (.there .here)))))))))))))) | exact (.there (.there (.there (.there (.there (.there (.there (.there (.there (.there (.there (.there (.there (.there (.there .here))))))))))))))) | exact (.there (.there (.there (.there (.there (.there (.there (.there (.there (.there (.there (.there (.there (.there (.there (.there .here)))))))))))))))) | exact (.there (.there (.there (.there (.there (.there (.there (.there (.there (.there (.there (.there (.there (.there (.there (.there (.there .here))))))))))))))))) | exact .none_) .nil, fun _ _ _ => trivial, A6, c6, rfl, rfl, rfl, hc6⟩
  · rw [makeL_no hl] at hv
    obtain ⟨A3, c3, A4, c4, A5, c5, rfl, rfl, hr3, hr4, hr5, _, _, _⟩ := hv
    rw [tryL_no hl]
    intro bk
    refine ⟨rfl, vcStoreN_row _ .here rfl (by simp [keysV, pieceV, oneCell, cellsL]) ?_⟩
    exact ⟨_, _, MT, .cons .none_ .nil, fun _ _ _ => trivial, OwnBE_nil 71⟩
end Go.Proofs.Ytlaelknibcehdaa
