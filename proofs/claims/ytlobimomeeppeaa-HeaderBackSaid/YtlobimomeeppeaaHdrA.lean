/- Headers: what reading them gives; items of a source. -/
import Derived.Test.YtlobimomeeppeaaVarP
import Derived.Test.YtlobimomeeppeaaDrp
import Derived.Test.YtlobimomeeppeaaByt
namespace Go.Proofs.Ytlobimomeeppeaa
open Go.Proofs
set_option maxRecDepth 10000

/-- So many bytes from a place on. -/
def takeP (bs : List UInt8) (n p : Nat) : Except Int (List UInt8 × Nat) := if bs.length < p + n then .error 12 else .ok ((bs.drop p).take n, p + n)
/-- A number from a place on. -/
def numP (bs : List UInt8) (p : Nat) : Except Int (Nat × Nat) := if (vget bs p).2.2 ≠ 0 then .error 12 else .ok ((vget bs p).1.toNat, (vget bs p).2.1.toNat)
/-- A connection id with its length ahead. -/
def cidP (bs : List UInt8) (p : Nat) : Except Int (List UInt8 × Nat) :=
  match takeP bs 1 p with
  | .error e => .error e
  | .ok (x, q) => if 20 < beval 0 x then .error 61 else takeP bs (beval 0 x) q
theorem takeP_ok {bs : List UInt8} {n p q : Nat} {xs : List UInt8} (h : takeP bs n p = .ok (xs, q)) : xs = (bs.drop p).take n ∧ q = p + n ∧ p + n ≤ bs.length ∧ xs.length = n := by
  unfold takeP at h
  split at h
  · cases h
  · cases h
    refine ⟨rfl, rfl, by omega, ?_⟩
    rw [List.length_take, List.length_drop]; omega
theorem takeP_err {bs : List UInt8} {n p : Nat} {e : Int} (h : takeP bs n p = .error e) : e = 12 ∧ bs.length < p + n := by
  unfold takeP at h
  split at h
  · cases h; exact ⟨rfl, by omega⟩
  · cases h
theorem numP_ok {bs : List UInt8} {n p q : Nat} (hp : p ≤ bs.length) (h : numP bs p = .ok (n, q)) : vget bs p = ((n : Int), (q : Int), 0) ∧ q ≤ bs.length := by
  unfold numP at h
  rcases vget_cases bs p hp with ⟨e, hv, he⟩ | ⟨m, en, hv, hen⟩
  · rw [hv, if_pos he] at h; cases h
  · rw [hv, if_neg (fun h => h rfl)] at h
    cases h
    exact ⟨by rw [hv]; simp, by simpa using hen⟩
theorem numP_err {bs : List UInt8} {p : Nat} {e : Int} (hp : p ≤ bs.length) (h : numP bs p = .error e) : e = 12 ∧ ∃ e', vget bs p = (0, 0, e') ∧ e' ≠ 0 := by
  unfold numP at h
  rcases vget_cases bs p hp with ⟨e', hv, he⟩ | ⟨m, en, hv, hen⟩
  · rw [hv, if_pos he] at h; cases h; exact ⟨rfl, e', hv, he⟩
  · rw [hv, if_neg (fun h => h rfl)] at h; cases h

def srcV (b : Nat) : Value := .agg #[.pointer (some ⟨b, 0, none⟩)]
def srcC (b : Nat) : List Value := [.pointer (some ⟨b, 0, none⟩)]
/-- What ends the reading. -/
def pE (e : Int) : PanicEntry := { v := .iface 60 (.agg #[.int .i64 e]), recovered := false }
def brk (e : Int) : XK := fun ch own N => ch = [pE e] ∧ own = [] ∧ N = MT
def rdO (b : Nat) (A : Option Addr) (c n p : Nat) (f : Int) : Ob := .row b 84 (rdV A c n p f) 3

theorem must_spec (b : Nat) (A : Option Addr) (c n p : Nat) (f : Int) (ok : Bool) (e : Int) (G : Mp) :
    SpecE Try.prog 30 #[srcV b, .bool ok, .int .i64 e] [rdO b A c n p f] G (fun v own N => (f = 0 ∧ ok = true) ∧ v = .tuple #[] ∧ own = [rdO b A c n p f] ∧ N = MT)
      (fun ch own N => (f ≠ 0 ∨ ok = false) ∧ brk (if f ≠ 0 then 12 else e) ch own N) := by
  refine SpecE.intro (args := [_, _, _]) wide Try.func30 rfl Try.call30 (by rfl) (by rfl) (fun w0 hw0 => ?_)
  intro bx
  refine vcLoad1_row (j := 0) (v := .pointer (some ⟨b, 0, none⟩)) ((Ent.gnO .here (fun w hw => Ob.row_at hw)) : Ent _ (RowAt (some ⟨bx, 0, none⟩) (srcC b))) rfl ?_
  refine vcCall_of (.cons (by first | ((repeat (first | exact .here | apply Take.there)); done) | exact .none_) .nil) (fault_spec b A c n p f _) (fun v own' N' hv => ?_)
  obtain ⟨rfl, rfl, rfl⟩ := hv
  refine vcIf_ndec (fun hf => ?_) (fun hf => ?_)
  · exact ⟨[], _, MT, .nil, fun _ _ _ => trivial, .inl hf, by rw [if_pos hf]; rfl, rfl, rfl⟩
  · cases ok with
    | true => exact ⟨_, _, MT, .cons (by first | ((repeat (first | exact .here | apply Take.there)); done) | exact .none_) .nil, fun _ _ _ => trivial, ⟨hf, rfl⟩, rfl, rfl, rfl⟩
    | false => exact ⟨[], _, MT, .nil, fun _ _ _ => trivial, .inr rfl, by rw [if_neg (by omega)]; rfl, rfl, rfl⟩
end Go.Proofs.Ytlobimomeeppeaa
