/- From a contract to a row: what a law's proof needs of memory. -/
import Derived.Test.YticllmnblcjjcaaUse
import Derived.Test.YticllmnblcjjcaaRows
import Derived.WalkKit
import Derived.ProofKit
import Derived.OpenShut
import Derived.ShutString
import Derived.ChangeOld
import Derived.Below
import Derived.SizedLaws
namespace Go.Proofs.Yticllmnblcjjcaa
open Go.ChangeShapes Go.WideShapes Go.ChangeAt Go.RowKit
set_option maxRecDepth 20000

theorem ownK : ownKnob Try.prog.godebug = none := by kernel_rfl
theorem laidOutK : laidOutB Try.prog = true := by kernel_rfl

theorem Spec.law {P : Program} {f : FuncId} {args : Array Value} {G : Mp} {u : Value} (h : Spec P f args [] G (Ret u)) (w : World) (hG : ∀ w', Fr w w' [] → G w') :
    Calls P f args w fun e w' => e = .returned u ∧ Below w.heap.size w w' := by
  have hE : Entry w [] G := ⟨fun _ ho => (by cases ho), List.nodup_nil, hG⟩
  refine (h.nil w hE).mono ?_
  rintro e w' ⟨v, own, N, rfl, ⟨rfl, rfl, rfl⟩, hi⟩
  exact ⟨rfl, hi.fr.below⟩

theorem cell_block {w : World} {p : Addr} {v : Value} (h : w.cell? p = some v) : p.block < w.heap.size := by
  unfold World.cell? at h
  split at h
  · rename_i hx; exact (Array.getElem?_eq_some_iff.1 hx).1
  · cases h
theorem RowAt.fr {A : Option Addr} {xs : List Value} {w w' : World} (h : RowAt A xs w) (hf : Fr w w' []) : RowAt A xs w' := by
  intro i u hi
  obtain ⟨a, ha, hc⟩ := h i u hi
  exact ⟨a, ha, (hf.below.cell (cell_block hc)).trans hc⟩

theorem wf_u8 {n : Int} (h : (Lit.int .u8 n).wf = true) : 0 ≤ n ∧ n ≤ 255 := by
  simpa [Lit.wf, IntKind.min, IntKind.max, IntKind.signed, IntKind.bits] using h
theorem wf_i64 {n : Int} (h : (Lit.int .i64 n).wf = true) : -9223372036854775808 ≤ n ∧ n ≤ 9223372036854775807 := by
  simpa [Lit.wf, IntKind.min, IntKind.max, IntKind.signed, IntKind.bits] using h

theorem bulk_one {H : Type} (d : DataW H) : 1 ≤ Rows.uptoBulk d := by
  cases d with
  | lit l => cases l <;> simp [Rows.uptoBulk]
  | _ => simp [Rows.uptoBulk]
theorem bulk_len {H : Type} (l : List (DataW H)) : l.length ≤ Rows.uptoBulkAll l := by
  induction l with
  | nil => simp [Rows.uptoBulkAll]
  | cons x r ih => have := bulk_one x; simp only [Rows.uptoBulkAll, List.length_cons]; omega

/-- A slice of bytes that came in. -/
theorem bytes_bulk {H : Type} {enc : TypeId × Value → H} {W : World} {sp : Nat → Bool} {held : Bool} {t e : TypeId} {a : Option Addr} {len cap : Nat} {d : DataW H} {p : List MemPlace} (hall : ∀ b, sp b = true) (ht : Try.prog.underlying t = some (.slice e)) (he : Try.prog.underlying e = some (.int .u8))
    (hc : Try.prog.cellsOf e = 1) (hb : Try.prog.bytesOf e = 1) (h0 : DataW.Trod enc Try.prog W 0 sp held t (.slice a len cap) d p)
    (hsz : ∀ el spare, d = .slice el spare → (el.length + spare.length) * Try.prog.bytesOf e ≤ reachBytes) : ∃ bs : List UInt8, len = bs.length ∧ len ≤ cap ∧ cap ≤ 140737488351232 ∧ RowAt a (Bs bs) W ∧ bs.length ≤ Rows.uptoBulk d := by
  obtain ⟨fuel, hf⟩ := h0
  rcases open_ints ht he hc hf with ⟨hcs, _⟩ | ⟨x, l, c, zs, hcs, _, hl, _, hz, hx, hcell, hwz⟩
  · simp [Value.cells] at hcs
    obtain ⟨rfl, rfl, rfl⟩ := hcs
    exact ⟨[], rfl, Nat.le_refl _, by omega, RowAt.nil, Nat.zero_le _⟩
  · simp [Value.cells] at hcs
    obtain ⟨rfl, rfl, rfl⟩ := hcs
    simp only [Prod.mk.injEq] at hx
    obtain ⟨rfl, rfl⟩ := hx
    rw [hall, if_pos rfl] at hz
    have hcap := hsz _ _ rfl
    rw [hb] at hcap
    simp only [lits, List.length_map, List.length_take, List.length_drop, reachBytes] at hcap
    refine ⟨(zs.take len).map fun z => UInt8.ofNat z.toNat, by simp; omega, hl, by omega, ?_, ?_⟩
    rotate_left
    · have := bulk_len (lits (H := H) .u8 (zs.take len))
      simp only [Rows.uptoBulk]
      simp only [lits, List.length_map] at this ⊢
      omega
    intro i u hi
    simp only [Bs, List.map_map, List.getElem?_map, Option.map_eq_some_iff] at hi
    obtain ⟨z, hz', rfl⟩ := hi
    rw [List.getElem?_take] at hz'
    split at hz'
    · have hlt := (List.getElem?_eq_some_iff.1 hz').1
      refine ⟨x, rfl, ?_⟩
      rw [hcell i hlt]
      have hw := wf_u8 (hwz z (List.mem_of_getElem? hz'))
      have e : zs.getD i 0 = z := by simp [List.getD_eq_getElem?_getD, hz']
      rw [e]
      simp only [Function.comp, B]
      rw [UInt8.toNat_ofNat']
      congr 2
      omega
    · cases hz'
/-- A slice of bytes that came in. -/
theorem bytes_in {H : Type} {enc : TypeId × Value → H} {W : World} {sp : Nat → Bool} {held : Bool} {t e : TypeId} {a : Option Addr} {len cap : Nat} {d : DataW H} {p : List MemPlace} (hall : ∀ b, sp b = true) (ht : Try.prog.underlying t = some (.slice e)) (he : Try.prog.underlying e = some (.int .u8))
    (hc : Try.prog.cellsOf e = 1) (hb : Try.prog.bytesOf e = 1) (h0 : DataW.Trod enc Try.prog W 0 sp held t (.slice a len cap) d p)
    (hsz : ∀ el spare, d = .slice el spare → (el.length + spare.length) * Try.prog.bytesOf e ≤ reachBytes) : ∃ bs : List UInt8, len = bs.length ∧ len ≤ cap ∧ cap ≤ 140737488351232 ∧ RowAt a (Bs bs) W := by
  obtain ⟨bs, h1, h2, h3, h4, _⟩ := bytes_bulk hall ht he hc hb h0 hsz
  exact ⟨bs, h1, h2, h3, h4⟩
end Go.Proofs.Yticllmnblcjjcaa
