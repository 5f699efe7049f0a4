/- slices.Sort on ints, by the library's contract. -/
import Derived.Test.YtekbimbohppfoaaPolN
import Derived.Shelf.Slices.In.SortNone
import Derived.Shelf.Sort.Plain
namespace Go.Proofs.Ytekbimbohppfoaa
open Go.Proofs
set_option maxRecDepth 10000

theorem putCells_at {enc : Int → Value} {pre r : List Value} {zs ys : List Int} (hl : ys.length = zs.length) : Go.Sort.putCells enc pre.length ys.toArray (pre ++ (zs.map enc ++ r)).toArray = (pre ++ (ys.map enc ++ r)).toArray := by
  apply Array.ext_getElem?
  intro k
  simp only [Go.Sort.putCells, Array.getElem?_mapIdx, List.getElem?_toArray, List.size_toArray]
  rcases Nat.lt_or_ge k pre.length with h | h
  · rw [List.getElem?_append_left h, List.getElem?_append_left h]
    simp [show ¬ pre.length ≤ k from by omega, h]
  · rw [List.getElem?_append_right h, List.getElem?_append_right h]
    rcases Nat.lt_or_ge (k - pre.length) zs.length with h2 | h2
    · rw [List.getElem?_append_left (by simpa using h2), List.getElem?_append_left (by simp; omega)]
      have h3 : k - pre.length < ys.length := by omega
      simp [h, h2, h3, show k < pre.length + ys.length from by omega]
    · rw [List.getElem?_append_right (by simpa using h2), List.getElem?_append_right (by simp; omega)]
      simp only [List.length_map, hl]
      cases r[k - pre.length - zs.length]? with
      | none => rfl
      | some v => simp [show ¬ k < pre.length + zs.length from by omega]

theorem sl_holds {w : World} {a : Addr} {cap : Nat} {zs : List Int} (h : (Ob.sl (some a) cap 3 1 (intL zs)).is w) : Go.Sort.Holds (Value.int .i64) w a.block a.off zs.toArray ∧ a.block < w.heap.size ∧ a.spot = none := by
  have hlt := Ob.lt h a.block (by simp [Ob.blks])
  obtain ⟨h2, o, ho, pre, sp, post, fz, hp, hl, rfl, hf⟩ := h
  refine ⟨fun j hj => ?_, hlt, h2⟩
  have hj' : j < zs.length := by simpa using hj
  have hf' : fz.1 = fz.2 := hf.resolve_right fun h => absurd h.2 (by decide)
  constructor
  · simp only [World.cell?, ho, Option.isSome_none, Bool.false_eq_true, if_false, List.getElem?_toArray]
    rw [← hp, List.getElem?_append_right (by omega), show pre.length + j - pre.length = j from by omega, List.getElem?_append_left (by simpa using hj')]
    simp [hj']
  · have : ¬ (fz.1 ≤ a.off + j ∧ a.off + j < fz.2) := by omega
    simp only [World.frozen?, ho]
    simpa using this
theorem sl_sorted {w : World} {a : Addr} {cap n : Nat} {zs ys : List Int} {os : Array Obj} (h : (Ob.sl (some a) cap 3 1 (intL zs)).is w) (hl : ys.length = zs.length) :
    Inv w [a.block] (Go.Sort.grow (Go.Sort.putRow (Value.int .i64) (Go.Sort.ahead w n) a.block a.off ys.toArray) os) [.sl (some a) cap 3 1 (intL ys)] MT := by
  have hlt := Ob.lt h a.block (by simp [Ob.blks])
  obtain ⟨h2, o, ho, pre, sp, post, fz, hp, hl2, rfl, hf⟩ := h
  have hh : (Go.Sort.grow (Go.Sort.putRow (Value.int .i64) (Go.Sort.ahead w n) a.block a.off ys.toArray) os).heap[a.block]? = some (.cells (pre ++ (intL ys ++ (sp ++ post))).toArray 3 fz) := by
    rw [Go.Sort.heap_grow_old _ _ (by simpa using hlt)]
    simp only [Go.Sort.putRow, Go.Sort.mapBlock, Go.Sort.ahead, Array.getElem?_modify, if_true, ho, Option.map_some, Go.Sort.onCells, ← hp]
    rw [putCells_at hl]
  refine ⟨fun x hx => ?_, by simp [blksOf, Ob.blks], ⟨rfl, rfl, rfl, by simp, fun k hk hne => ?_⟩, fun b hb => .inl (by simpa [blksOf, Ob.blks] using hb), fun _ _ _ => trivial⟩
  · rw [List.mem_singleton] at hx
    subst hx
    exact ⟨h2, _, hh, pre, sp, post, fz, hp, by simp only [List.length_map] at hl2 ⊢; omega, rfl, hf⟩
  · rw [Go.Sort.heap_grow_old _ _ (by simpa using hk)]
    have : a.block ≠ k := fun e => hne (by simp [e])
    simp [Go.Sort.putRow, Go.Sort.mapBlock, Go.Sort.ahead, Array.getElem?_modify, this]

theorem sorts_of {f : FuncId} (hcall : ∀ (args : Array Value) (w : World), (callFunc f args).run Try.prog w = .ok (.enter f args) w)
    (h0 : ∀ (p : Option Addr) (cap : Nat) (w : World), Calls Try.prog f #[.slice p 0 cap] w fun e w' => e = .returned (.tuple #[]) ∧ w' = w)
    (h1 : ∀ (blk off cap : Nat) (zs : List Int) (w : World), Go.Sort.Holds (Value.int .i64) w blk off zs.toArray → blk < w.heap.size → zs.length < 4611686018427387904 →
      Calls Try.prog f #[.slice (some ⟨blk, off, none⟩) zs.length cap] w fun e w' => e = .returned (.tuple #[]) ∧ ∃ n os, w' = Go.Sort.grow (Go.Sort.putRow (Value.int .i64) (Go.Sort.ahead w n) blk off (zs.mergeSort fun x y => decide (x ≤ y)).toArray) os) : Sorts f := by
  intro A cap zs G hz
  refine ⟨hcall, fun w hw => ?_⟩
  have hob := hw.objs _ (List.mem_cons_self ..)
  cases A with
  | none =>
    obtain ⟨h1', h2⟩ := hob
    obtain rfl : zs = [] := List.map_eq_nil_iff.1 h2
    subst h1'
    refine (h0 none 0 w).mono fun e w' ⟨he, hw'⟩ => ?_
    subst hw'
    exact ⟨_, _, MT, he, ⟨rfl, ⟨[], .refl _, rfl⟩, rfl⟩, ⟨hw.objs, hw.nodup, Fr.refl _ _, fun _ hb => .inl hb, fun _ _ _ => trivial⟩⟩
  | some a =>
    obtain ⟨bb, off, spot⟩ := a
    obtain ⟨hh, hlt, hs⟩ := sl_holds hob
    simp only at hs hh hlt
    subst hs
    refine (h1 bb off cap zs w hh hlt hz).mono fun e w' ⟨he, n, os, hw'⟩ => ?_
    subst hw'
    have hp : (zs.mergeSort fun x y => decide (x ≤ y)).Perm zs := List.mergeSort_perm _ _
    exact ⟨_, _, MT, he, ⟨rfl, ⟨_, hp, rfl⟩, rfl⟩, sl_sorted hob hp.length_eq⟩
end Go.Proofs.Ytekbimbohppfoaa
