/- slices.SortFunc on pieces, by the library's contract. -/
import Derived.Test.YteomgafghiockaaReaA
import Derived.Shelf.SlSortCmp.NoneTotal
namespace Go.Proofs.Yteomgafghiockaa
open Go.Proofs Go.RowKit
set_option maxRecDepth 10000

theorem sl_cells {w : World} {a : Addr} {cap size : Nat} {ty : TypeId} {xs : List Value} (h : (Ob.sl (some a) cap ty size xs).is w) (hty : ty ≠ 5) : Go.Sort.Holds (id : Value → Value) w a.block a.off xs.toArray ∧ a.block < w.heap.size ∧ a.spot = none := by
  have hlt := Ob.lt h a.block (by simp [Ob.blks])
  obtain ⟨h2, o, ho, pre, sp, post, fz, hp, hl, rfl, hf⟩ := h
  refine ⟨fun j hj => ?_, hlt, h2⟩
  have hj' : j < xs.length := by simpa using hj
  have hf' : fz.1 = fz.2 := hf.resolve_right fun h => hty h.2
  constructor
  · simp only [World.cell?, ho, Option.isSome_none, Bool.false_eq_true, if_false, List.getElem?_toArray]
    rw [← hp, List.getElem?_append_right (by omega), show pre.length + j - pre.length = j from by omega, List.getElem?_append_left (by simpa using hj')]
    simp [hj']
  · have : ¬ (fz.1 ≤ a.off + j ∧ a.off + j < fz.2) := by omega
    simp only [World.frozen?, ho]
    simpa using this
theorem putCells_id {pre r xs ys : List Value} (hl : ys.length = xs.length) : Go.Sort.putCells (id : Value → Value) pre.length ys.toArray (pre ++ (xs ++ r)).toArray = (pre ++ (ys ++ r)).toArray := by
  apply Array.ext_getElem?
  intro k
  simp only [Go.Sort.putCells, Array.getElem?_mapIdx, List.getElem?_toArray, List.size_toArray]
  rcases Nat.lt_or_ge k pre.length with h | h
  · rw [List.getElem?_append_left h, List.getElem?_append_left h]
    simp [show ¬ pre.length ≤ k from by omega, h]
  · rw [List.getElem?_append_right h, List.getElem?_append_right h]
    rcases Nat.lt_or_ge (k - pre.length) xs.length with h2 | h2
    · rw [List.getElem?_append_left (by simpa using h2), List.getElem?_append_left (by omega)]
      have h3 : k - pre.length < ys.length := by omega
      simp [h, h2, h3, show k < pre.length + ys.length from by omega]
    · rw [List.getElem?_append_right (by simpa using h2), List.getElem?_append_right (by omega)]
      simp only [hl]
      cases r[k - pre.length - xs.length]? with
      | none => rfl
      | some v => simp [show ¬ k < pre.length + xs.length from by omega]
theorem sl_put {w : World} {a : Addr} {cap size n : Nat} {ty : TypeId} {xs ys : List Value} {os : Array Obj} (h : (Ob.sl (some a) cap ty size xs).is w) (hl : ys.length = xs.length) :
    Inv w [a.block] (Go.Sort.grow (Go.Sort.putRow (id : Value → Value) (Go.Sort.ahead w n) a.block a.off ys.toArray) os) [.sl (some a) cap ty size ys] MT := by
  have hlt := Ob.lt h a.block (by simp [Ob.blks])
  obtain ⟨h2, o, ho, pre, sp, post, fz, hp, hl2, rfl, hf⟩ := h
  have hh : (Go.Sort.grow (Go.Sort.putRow (id : Value → Value) (Go.Sort.ahead w n) a.block a.off ys.toArray) os).heap[a.block]? = some (.cells (pre ++ (ys ++ (sp ++ post))).toArray ty fz) := by
    rw [Go.Sort.heap_grow_old _ _ (by simpa using hlt)]
    simp only [Go.Sort.putRow, Go.Sort.mapBlock, Go.Sort.ahead, Array.getElem?_modify, if_true, ho, Option.map_some, Go.Sort.onCells, ← hp]
    rw [putCells_id hl]
  refine ⟨fun x hx => ?_, by simp [blksOf, Ob.blks], ⟨rfl, rfl, rfl, by simp, fun k hk hne => ?_⟩, fun b hb => .inl (by simpa [blksOf, Ob.blks] using hb), fun _ _ _ => trivial⟩
  · rw [List.mem_singleton] at hx
    subst hx
    exact ⟨h2, _, hh, pre, sp, post, fz, hp, by omega, rfl, hf⟩
  · rw [Go.Sort.heap_grow_old _ _ (by simpa using hk)]
    have : a.block ≠ k := fun e => hne (by simp [e])
    simp [Go.Sort.putRow, Go.Sort.mapBlock, Go.Sort.ahead, Array.getElem?_modify, this]
theorem flatK_flat {α : Type} [Inhabited α] {enc : α → List Value} {k : Nat} (hk : ∀ x, (enc x).length = k) (hk0 : 0 < k) (d : Array α) : Go.Sort.flatK enc k d = (d.toList.flatMap enc).toArray := by
  have hlen : (d.toList.flatMap enc).length = d.size * k := by rw [flatMap_len hk]; simp
  refine Go.Sort.ext_get! (by simp [hlen]) fun t ht => ?_
  have ht' : t < d.size * k := by simpa using ht
  have hq : t / k < d.size := by rw [Nat.div_lt_iff_lt_mul hk0]; exact ht'
  have hr : t % k < k := Nat.mod_lt _ hk0
  rw [Go.Sort.get_flatK _ _ _ _ ht']
  have hc := flatMap_chunk hk d.toList (t / k) (by simpa using hq)
  have h1 : ((d.toList.flatMap enc).drop (t / k * k)).take k = enc d[t / k] := by simpa using hc
  have h2 : (((d.toList.flatMap enc).drop (t / k * k)).take k)[t % k]? = (enc d[t / k])[t % k]? := by rw [h1]
  rw [List.getElem?_take_of_lt hr, List.getElem?_drop, Nat.div_add_mod' t k] at h2
  rw [getElem!_pos d _ hq, getElem!_pos (enc d[t / k]) _ (by rw [hk]; exact hr), getElem!_pos _ t (by simpa [hlen] using ht')]
  rw [List.getElem?_eq_getElem (by rw [hlen]; exact ht'), List.getElem?_eq_getElem (by rw [hk]; exact hr)] at h2
  simpa using (Option.some.inj h2).symm

/-! ### Pieces -/
abbrev PcS := { p : PcM // 0 ≤ p.at_ ∧ p.at_ ≤ 4611686018427387904 }
instance : Inhabited PcS := ⟨⟨⟨0, none, 0, []⟩, by decide⟩⟩
def pcE (p : PcS) : List Value := pcV p.1
def pcC (x y : PcS) : Int := x.1.at_ - y.1.at_
theorem pcC_lt (x y : PcS) : Go.Proofs.ltOf pcC x y = decide (x.1.at_ < y.1.at_) := by
  unfold Go.Proofs.ltOf pcC
  exact decide_eq_decide.2 ⟨fun h => by omega, fun h => by omega⟩
theorem pcC_swo : Go.Sort.SWO (Go.Proofs.ltOf pcC) where
  irrefl x := by rw [pcC_lt]; simp
  trans x y z h1 h2 := by rw [pcC_lt] at *; simp at *; omega
  ntrans x y z h1 h2 := by rw [pcC_lt] at *; simp at *; omega
set_option maxHeartbeats 1000000 in
theorem cmp_calls (x y : PcS) (W : World) : Calls Try.prog 32 #[.agg #[.int .i64 x.1.at_, .slice x.1.A x.1.d.length x.1.c], .agg #[.int .i64 y.1.at_, .slice y.1.A y.1.d.length y.1.c]] W fun e w' => e = .returned (.int .i64 (pcC x y)) ∧ ∃ q os', w' = Go.Sort.grow (W.drewN q) os' := by
  obtain ⟨x, hx⟩ := x
  obtain ⟨y, hy⟩ := y
  unfold pcC
  simp only
  go_enter Try.func32, Try.ntmps32
  go_wp2
  go_ret
  exact ⟨rfl, 0, _, by rw [Go.Sort.alloc_eq_grow, Go.Sort.alloc_eq_grow, Go.Sort.grow_grow]; rfl⟩
def sortPL_ren : Go.Shelf.Ren := ⟨fun | 6 => 31 | 15 => 35 | 14 => 34 | 28 => 44 | 29 => 45 | 20 => 36 | 21 => 37 | 22 => 38 | 23 => 39 | 24 => 40 | 25 => 41 | 26 => 42 | 27 => 43 | 46 => 46 | 47 => 47 | 48 => 48 | 49 => 49 | 50 => 50 | 57 => 51 | n => n, fun | 22 => 58 | 24 => 64 | 25 => 68 | 3 => 3 | 39 => 73 | 0 => 0 | 53 => 82 | 55 => 84 | 4 => 4 | 46 => 76 | 45 => 75 | 50 => 50 | 5 => 5 | 9 => 9 | 66 => 85 | 70 => 89 | 76 => 91 | 77 => 55 | n => n, fun | n => n⟩
theorem sortPL : Go.Proofs.SlLaysF0.n6 Try.prog sortPL_ren := {
  mixed := by kernel_rfl
  f6 := ⟨Try.f31.name, by decide, Try.func31.trans (congrArg some (by kernel_rfl))⟩
  f14 := ⟨Try.f34.name, by decide, Try.func34.trans (congrArg some (by kernel_rfl))⟩
  f15 := Try.func35.trans (congrArg some (by kernel_rfl))
  f20 := ⟨Try.f36.name, by decide, Try.func36.trans (congrArg some (by kernel_rfl))⟩
  f21 := ⟨Try.f37.name, by decide, Try.func37.trans (congrArg some (by kernel_rfl))⟩
  f22 := ⟨Try.f38.name, by decide, Try.func38.trans (congrArg some (by kernel_rfl))⟩
  f23 := ⟨Try.f39.name, by decide, Try.func39.trans (congrArg some (by kernel_rfl))⟩
  f24 := ⟨Try.f40.name, by decide, Try.func40.trans (congrArg some (by kernel_rfl))⟩
  f25 := ⟨Try.f41.name, by decide, Try.func41.trans (congrArg some (by kernel_rfl))⟩
  f26 := ⟨Try.f42.name, by decide, Try.func42.trans (congrArg some (by kernel_rfl))⟩
  f27 := ⟨Try.f43.name, by decide, Try.func43.trans (congrArg some (by kernel_rfl))⟩
  f28 := Try.func44.trans (congrArg some (by kernel_rfl))
  f29 := Try.func45.trans (congrArg some (by kernel_rfl))
  f46 := ⟨Try.f46.name, by decide, Try.func46.trans (congrArg some (by kernel_rfl))⟩
  f47 := Try.func47.trans (congrArg some (by kernel_rfl))
  f48 := Try.func48.trans (congrArg some (by kernel_rfl))
  f49 := ⟨Try.f49.name, by decide, Try.func49.trans (congrArg some (by kernel_rfl))⟩
  f50 := ⟨Try.f50.name, by decide, Try.func50.trans (congrArg some (by kernel_rfl))⟩
  f57 := ⟨Try.f51.name, by decide, Try.func51.trans (congrArg some (by kernel_rfl))⟩
  t0 := Try.underlying0
  a0 := Try.isAgg0
  z0 := Try.sizeOf0
  v0 := Try.zeroValue0
  t3 := Try.underlying3
  a3 := Try.isAgg3
  z3 := Try.sizeOf3
  v3 := Try.zeroValue3
  t4 := Try.underlying4
  a4 := Try.isAgg4
  z4 := Try.sizeOf4
  v4 := Try.zeroValue4
  t5 := Try.underlying5
  a5 := Try.isAgg5
  z5 := Try.sizeOf5
  v5 := Try.zeroValue5
  t9 := Try.underlying9
  a9 := Try.isAgg9
  z9 := Try.sizeOf9
  v9 := Try.zeroValue9
  t22 := Try.underlying58
  a22 := Try.isAgg58
  z22 := Try.sizeOf58
  v22 := Try.zeroValue58
  t25 := Try.underlying68
  a25 := Try.isAgg68
  z25 := Try.sizeOf68
  v25 := Try.zeroValue68
  t39 := Try.underlying73
  a39 := Try.isAgg73
  z39 := Try.sizeOf73
  v39 := Try.zeroValue73
  t45 := Try.underlying75
  a45 := Try.isAgg75
  z45 := Try.sizeOf75
  v45 := Try.zeroValue75
  t46 := Try.underlying76
  a46 := Try.isAgg76
  z46 := Try.sizeOf76
  v46 := Try.zeroValue76
  t50 := Try.underlying50
  a50 := Try.isAgg50
  z50 := Try.sizeOf50
  v50 := Try.zeroValue50
  t53 := Try.underlying82
  a53 := Try.isAgg82
  z53 := Try.sizeOf82
  v53 := Try.zeroValue82
  t55 := Try.underlying84
  a55 := Try.isAgg84
  z55 := Try.sizeOf84
  v55 := Try.zeroValue84
  t66 := Try.underlying85
  a66 := Try.isAgg85
  z66 := Try.sizeOf85
  v66 := Try.zeroValue85
  t70 := Try.underlying89
  a70 := Try.isAgg89
  z70 := Try.sizeOf89
  v70 := Try.zeroValue89
  t76 := Try.underlying91
  a76 := Try.isAgg91
  z76 := Try.sizeOf91
  v76 := Try.zeroValue91
  t77 := Try.underlying55
  a77 := Try.isAgg55
  z77 := Try.sizeOf55
  v77 := Try.zeroValue55 }

def SortTo (A : Option Addr) (cap : Nat) (l : List PcM) (v : Value) (own : List Ob) (N : Mp) : Prop := v = .tuple #[] ∧ (∃ l' : List PcM, l'.Perm l ∧ l'.Pairwise (fun x y => x.at_ ≤ y.at_) ∧ own = [rbS A cap l']) ∧ N = MT
theorem lift_pcs : ∀ {l : List PcM}, (∀ p ∈ l, 0 ≤ p.at_ ∧ p.at_ ≤ 4611686018427387904) → ∃ d : List PcS, d.map (·.1) = l
  | [], _ => ⟨[], rfl⟩
  | p :: r, h => by
    obtain ⟨d, hd⟩ := lift_pcs fun q hq => h q (List.mem_cons_of_mem _ hq)
    exact ⟨⟨p, h p (List.mem_cons_self ..)⟩ :: d, by rw [List.map_cons, hd]⟩
theorem pcE_flat (d : List PcS) : d.flatMap pcE = pcL (d.map (·.1)) := by
  unfold pcL
  rw [List.flatMap_map]; rfl
theorem sortP_spec (A : Option Addr) (cap : Nat) (l : List PcM) (G : Mp) (hl : ∀ p ∈ l, 0 ≤ p.at_ ∧ p.at_ ≤ 4611686018427387904) (hz : l.length < 4611686018427387904) :
    Spec Try.prog 31 #[.slice A l.length cap, .func (.func 32) #[] #[]] [rbS A cap l] G (SortTo A cap l) := by
  refine ⟨Try.call31, fun w hw => ?_⟩
  have hob := hw.objs _ (List.mem_cons_self ..)
  cases A with
  | none =>
    obtain ⟨h1', h2⟩ := hob
    obtain rfl : l = [] := by
      cases l with
      | nil => rfl
      | cons p r => cases h2
    subst h1'
    refine (AnyF.slices_SortFunc_none (P := Try.prog) (ρ := sortPL_ren) sortPL none 0 (.func (.func 32) #[] #[]) w).mono fun e w' ⟨he, hw'⟩ => ?_
    subst hw'
    exact ⟨_, _, MT, he, ⟨rfl, ⟨[], .refl _, .nil, rfl⟩, rfl⟩, ⟨hw.objs, hw.nodup, Fr.refl _ _, fun _ hb => .inl hb, fun _ _ _ => trivial⟩⟩
  | some a =>
    obtain ⟨bb, off, spot⟩ := a
    obtain ⟨hh, hlt, hs⟩ := sl_cells hob (by decide)
    simp only at hs hh hlt
    subst hs
    obtain ⟨d, rfl⟩ := lift_pcs hl
    have e1 : Go.Sort.flatK pcE 2 d.toArray = (pcL (d.map (·.1))).toArray := by
      rw [flatK_flat (enc := pcE) (k := 2) (fun _ => rfl) (by decide), pcE_flat]
    have hH : Go.Sort.HoldsK pcE 2 w bb off d.toArray := by
      unfold Go.Sort.HoldsK
      rw [e1]; exact hh
    have hc := AnyQ.slices_SortFunc (P := Try.prog) (ρ := sortPL_ren) sortPL 2 Try.isAgg64 Try.sizeOf64 pcE (fun _ => rfl) (fun x v hv => by
        simp only [pcE, pcV, List.mem_cons, List.not_mem_nil, or_false] at hv
        rcases hv with rfl | rfl <;> rfl) pcC pcC_swo 32 #[] bb off cap d.toArray w Try.call32
        (fun _ _ _ _ x y => cmp_calls x y _) hH hlt (by simpa using hz)
    rw [show d.toArray.size = (d.map (·.1)).length from by simp] at hc
    refine hc.mono fun e w' ⟨he, d', n, os, hp, hsrt, hw'⟩ => ?_
    subst hw'
    obtain ⟨hp1, _, hp3⟩ := hp
    have hperm : d'.toList.Perm d := by
      rw [Array.extract_eq_self_of_le (by simp [hp1]), Array.extract_eq_self_of_le (by simp)] at hp3
      exact hp3
    have e2 : Go.Sort.flatK pcE 2 d' = (pcL (d'.toList.map (·.1))).toArray := by
      rw [flatK_flat (enc := pcE) (k := 2) (fun _ => rfl) (by decide), pcE_flat]
    refine ⟨_, [rbS (some ⟨bb, off, none⟩) cap (d'.toList.map (·.1))], MT, he, ⟨rfl, ⟨_, hperm.map _, ?_, rfl⟩, rfl⟩, ?_⟩
    · rw [List.pairwise_map, List.pairwise_iff_getElem]
      intro i j hi hj hij
      have := hsrt i j (Nat.zero_le _) hij (by have : d'.size = d.toArray.size := hp1; simp at hj this; simp; omega)
      rw [pcC_lt] at this
      rw [getElem!_pos d' i (by simpa using hi), getElem!_pos d' j (by simpa using hj)] at this
      simp at this
      simpa using this
    · unfold Go.Proofs.sortWorldK Go.Sort.putRowK
      rw [e2]
      exact sl_put hob (by rw [pcL_len, pcL_len, List.length_map, List.length_map, hperm.length_eq])
end Go.Proofs.Yteomgafghiockaa
