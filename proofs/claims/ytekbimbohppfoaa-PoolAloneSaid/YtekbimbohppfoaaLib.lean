/- Copying and comparing bytes: what the reference's functions do. -/
import Derived.Test.YtekbimbohppfoaaUse
import Derived.Test.YtekbimbohppfoaaProg
namespace Go.Proofs.Ytekbimbohppfoaa
open Go.Proofs
set_option maxRecDepth 10000

theorem wide : Try.prog.follows .mixedOrders = true := by kernel_rfl

theorem set_rep (k : Nat) (T : List UInt8) (y : UInt8) : (Bs (List.replicate (k + 1) 0 ++ T)).set k (B y) = Bs (List.replicate k 0 ++ y :: T) := by
  simp only [Bs, List.map_append, List.map_replicate, List.map_cons]
  rw [List.set_append_left _ _ (by simp), List.replicate_succ', List.set_append_right _ _ (by simp)]
  simp
theorem Bs_zeros (n : Nat) : zerosL n [.int .u8 0] = Bs (List.replicate n 0) := by
  rw [zerosL_one, Bs, List.map_replicate]; rfl

/-- A call that makes a slice of bytes. -/
def OwnB (bs : List UInt8) : Value → List Ob → Mp → Prop := Own1 bs.length 5 1 (Bs bs)
end Go.Proofs.Ytekbimbohppfoaa
