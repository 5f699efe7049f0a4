/- Contracts that keep what they drop as facts. -/
import Derived.Test.YticllmnblcjjcaaLib
namespace Go.Proofs.Yticllmnblcjjcaa
open Go.Proofs

/-- A contract that keeps what it drops as facts. -/
theorem Spec.drop {P : Program} {f : FuncId} {args : Array Value} {A : List Ob} {G : Mp} {Post Post' : Value → List Ob → Mp → Prop} (h : Spec P f args A G Post)
    (hp : ∀ v own N, Post v own N → ∃ own' rest N', own = own' ++ rest ∧ (∀ w, N w → Objs rest w → N' w) ∧ Post' v own' N') : Spec P f args A G Post' :=
  ⟨h.1, fun w hw => (h.2 w hw).mono fun _ _ ⟨v, own, N, he, hP, hi⟩ => by
    obtain ⟨own', rest, N', rfl, hN, hP'⟩ := hp _ _ _ hP
    exact ⟨v, own', N', he, hP', Inv.drop hi hN⟩⟩
/-- Bytes that stay as they are. -/
def GetB (bs : List UInt8) (v : Value) (own : List Ob) (N : Mp) : Prop := ∃ A c, v = .slice A bs.length c ∧ own = [] ∧ Ent N (RowAt A (Bs bs)) ∧ bs.length ≤ c
theorem Spec.getB {P : Program} {f : FuncId} {args : Array Value} {A : List Ob} {G : Mp} {bs : List UInt8} (h : Spec P f args A G (OwnB bs)) : Spec P f args A G (GetB bs) :=
  h.drop fun v own N hv => by
    obtain ⟨A', c', rfl, rfl, rfl, hc⟩ := hv
    exact ⟨[], _, RowAt A' (Bs bs), rfl, fun w _ ho => Ob.sl_at (ho _ (List.mem_singleton.2 rfl)), A', c', rfl, rfl, Ent.refl, hc⟩
theorem copyG_spec (A : Option Addr) (c : Nat) (xs : List UInt8) (G : Mp) (h1 : Ent G (RowAt A (Bs xs))) (hx : xs.length ≤ 281474976710656) :
    Spec Try.prog 20 #[.slice A xs.length c] [] G (GetB xs) := (copy_spec A c xs G h1 hx).getB
theorem cutA_0 (A : Option Addr) (cap size : Nat) : cutA A cap 0 size = A := by
  unfold cutA
  split
  · rfl
  · cases A with
    | none => rfl
    | some a => simp [Addr.add]
end Go.Proofs.Yticllmnblcjjcaa
