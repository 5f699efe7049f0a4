/- A reassembly buffer: its pure form, its memory, the small functions. -/
import Derived.Test.YteomgafghiockaaVarB
import Derived.Test.YteomgafghiockaaFlat
import Derived.Test.YteomgafghiockaaDrp
import Derived.Test.YteomgafghiockaaPik
namespace Go.Proofs.Yteomgafghiockaa
open Go.Proofs
set_option maxRecDepth 10000

/-! ### Pure -/
abbrev Pc := Int × List UInt8
def pEnd (p : Pc) : Int := p.1 + p.2.length
/-- Rising pieces within lo .. hi. -/
def Chain (hi : Int) : Int → List Pc → Prop
  | lo, [] => lo ≤ hi
  | lo, p :: r => lo ≤ p.1 ∧ 0 < p.2.length ∧ Chain hi (pEnd p) r
theorem Chain.le {hi : Int} : ∀ {lo : Int} {ps : List Pc}, Chain hi lo ps → lo ≤ hi
  | _, [], h => h
  | _, p :: r, ⟨h1, h2, h3⟩ => by have := Chain.le h3; unfold pEnd at this; omega
theorem Chain.weak {hi : Int} : ∀ {lo lo' : Int} {ps : List Pc}, Chain hi lo ps → lo' ≤ lo → Chain hi lo' ps
  | _, _, [], h, h' => Int.le_trans h' h
  | _, _, _ :: _, ⟨h1, h2, h3⟩, h' => ⟨Int.le_trans h' h1, h2, h3⟩
theorem Chain.up {hi hi' : Int} (hh : hi ≤ hi') : ∀ {lo : Int} {ps : List Pc}, Chain hi lo ps → Chain hi' lo ps
  | _, [], h => Int.le_trans h hh
  | _, _ :: _, ⟨h1, h2, h3⟩ => ⟨h1, h2, Chain.up hh h3⟩
def total (ps : List Pc) : Nat := (ps.map fun p => p.2.length).sum
theorem total_cons (p : Pc) (r : List Pc) : total (p :: r) = p.2.length + total r := rfl
theorem total_app (a b : List Pc) : total (a ++ b) = total a + total b := by simp [total]
theorem Chain.total {hi : Int} : ∀ {lo : Int} {ps : List Pc}, Chain hi lo ps → lo + total ps ≤ hi
  | lo, [], h => by
    have h' : lo ≤ hi := h
    have e : Proofs.Yteomgafghiockaa.total [] = 0 := rfl
    omega
  | _, p :: r, ⟨h1, h2, h3⟩ => by
    have := Chain.total h3
    rw [total_cons]
    unfold pEnd at this
    omega
theorem Chain.len {hi : Int} : ∀ {lo : Int} {ps : List Pc}, Chain hi lo ps → ps.length ≤ Proofs.Yteomgafghiockaa.total ps
  | _, [], _ => Nat.le_refl _
  | _, p :: r, ⟨_, h2, h3⟩ => by
    have := Chain.len h3
    rw [total_cons, List.length_cons]
    omega
theorem Chain.mem {hi : Int} {p : Pc} : ∀ {lo : Int} {ps : List Pc}, Chain hi lo ps → p ∈ ps → lo ≤ p.1 ∧ 0 < p.2.length ∧ pEnd p ≤ hi
  | _, q :: r, ⟨h1, h2, h3⟩, h => by
    rcases List.mem_cons.1 h with rfl | h
    · exact ⟨h1, h2, h3.le⟩
    · have := Chain.mem h3 h
      unfold pEnd at *
      omega
def readyP : Int → List Pc → Int
  | at_, [] => at_
  | at_, p :: r => if p.1 = at_ then readyP (pEnd p) r else at_
theorem readyP_bound {hi : Int} : ∀ {at_ : Int} {ps : List Pc}, Chain hi at_ ps → at_ ≤ readyP at_ ps ∧ readyP at_ ps ≤ hi
  | _, [], h => ⟨Int.le_refl _, h⟩
  | _, p :: r, ⟨h1, h2, h3⟩ => by
    unfold readyP
    have := readyP_bound h3
    have h4 := h3.le
    unfold pEnd at *
    split <;> omega
/-- Reading n bytes: the bytes, the new offset, what is left. -/
def readP (n : Int) (off : Int) : List Pc → List UInt8 × Int × List Pc
  | [] => ([], off, [])
  | p :: r => if 0 < n ∧ p.1 = off then
      if (p.2.length : Int) ≤ n then (p.2 ++ (readP (n - p.2.length) (off + p.2.length) r).1, (readP (n - p.2.length) (off + p.2.length) r).2.1, (readP (n - p.2.length) (off + p.2.length) r).2.2)
      else (p.2.take n.toNat, off + n, (p.1 + n, p.2.drop n.toNat) :: r)
    else ([], off, p :: r)
def cutD (at_ : Int) (d : List UInt8) (lo hi : Int) : Pc := (lo, (d.drop (lo - at_).toNat).take (hi - lo).toNat)
def gap1 (at_ : Int) (d : List UInt8) (lo hi : Int) : List Pc := if lo < hi then [cutD at_ d lo hi] else []
/-- The pieces of a new one that were not there yet. -/
def gapsP (at_ : Int) (d : List UInt8) (e : Int) : Int → List Pc → List Pc
  | place, [] => gap1 at_ d place e
  | place, p :: r => if e ≤ p.1 then gap1 at_ d place e else gap1 at_ d place p.1 ++ gapsP at_ d e (max place (pEnd p)) r
/-- .. and in their places. -/
def insP (at_ : Int) (d : List UInt8) (e : Int) : Int → List Pc → List Pc
  | place, [] => gap1 at_ d place e
  | place, p :: r => if e ≤ p.1 then gap1 at_ d place e ++ p :: r else gap1 at_ d place p.1 ++ p :: insP at_ d e (max place (pEnd p)) r

structure Rb where
  room : Int
  off : Int
  high : Int
  final : Int
  ps : List Pc
structure RbOk (r : Rb) : Prop where
  room : 1 ≤ r.room ∧ r.room ≤ 65536
  off : 0 ≤ r.off
  hi : r.high ≤ r.off + r.room ∧ r.high ≤ 4611686018427387903
  fin : r.final = -1 ∨ (r.high ≤ r.final ∧ r.final ≤ 4611686018427387903)
  chain : Chain r.high r.off r.ps
def newR (room : Int) : Rb := ⟨room, 0, 0, -1, []⟩
theorem newR_ok {room : Int} (h : 1 ≤ room ∧ room ≤ 65536) : RbOk (newR room) := ⟨h, Int.le_refl _, ⟨by show (0 : Int) ≤ 0 + room; omega, by show (0 : Int) ≤ 4611686018427387903; decide⟩, .inl rfl, Int.le_refl _⟩
def checkP (r : Rb) (e : Int) (fin : Bool) : Int :=
  if 0 ≤ r.final ∧ (r.final < e ∨ (fin = true ∧ e ≠ r.final)) then 31
  else if r.final < 0 ∧ fin = true ∧ e < r.high then 31
  else if r.off + r.room < e then 32 else 0
def putP (r : Rb) (at_ : Int) (d : List UInt8) (fin : Bool) : Int × Int × Rb :=
  if at_ < 0 ∨ 4611686018427387903 - (d.length : Int) < at_ then (0, 30, r)
  else if checkP r (at_ + d.length) fin ≠ 0 then (0, checkP r (at_ + d.length) fin, r)
  else ((total (gapsP at_ d (at_ + d.length) (max at_ r.off) r.ps) : Int), 0,
    { r with final := if fin then at_ + d.length else r.final, high := max r.high (at_ + d.length), ps := insP at_ d (at_ + d.length) (max at_ r.off) r.ps })
def readR (r : Rb) (n : Int) : List UInt8 × Bool × Rb :=
  ((readP n r.off r.ps).1, decide ((readP n r.off r.ps).2.1 = r.final), { r with off := (readP n r.off r.ps).2.1, ps := (readP n r.off r.ps).2.2 })

/-! ### Memory -/
structure PcM where
  at_ : Int
  A : Option Addr
  c : Nat
  d : List UInt8
def pu (p : PcM) : Pc := (p.at_, p.d)
def pcV (p : PcM) : List Value := [.int .i64 p.at_, .slice p.A p.d.length p.c]
def pcL (l : List PcM) : List Value := l.flatMap pcV
theorem pcV_len (p : PcM) : (pcV p).length = 2 := rfl
theorem pcL_len (l : List PcM) : (pcL l).length = l.length * 2 := flatMap_len pcV_len l
theorem pcL_chunk {l : List PcM} {k : Nat} (hk : k < l.length) : ((pcL l).drop (k * 2)).take 2 = pcV l[k] := flatMap_chunk pcV_len l k hk
theorem pcV_one (p : PcM) : ∀ v ∈ pcV p, oneCell v = true := by
  intro v hv
  simp only [pcV, List.mem_cons, List.not_mem_nil, or_false] at hv
  rcases hv with rfl | rfl <;> rfl
theorem pcL_one (l : List PcM) : ∀ v ∈ pcL l, oneCell v = true := by
  intro v hv
  obtain ⟨p, _, hv⟩ := List.mem_flatMap.1 hv
  exact pcV_one p v hv
theorem pcL_app (a b : List PcM) : pcL (a ++ b) = pcL a ++ pcL b := List.flatMap_append
def rbR (b : Nat) (A : Option Addr) (len c : Nat) (room off high final : Int) : Ob := .row b 60 [.int .i64 room, .int .i64 off, .int .i64 high, .int .i64 final, .slice A len c] 5
def rbS (A : Option Addr) (c : Nat) (l : List PcM) : Ob := .sl A c 64 2 (pcL l)
def PcsAt (l : List PcM) : Mp := fun w => ∀ p ∈ l, RowAt p.A (Bs p.d) w ∧ p.d.length ≤ p.c
/-- A buffer in memory. -/
structure RbM where
  A : Option Addr
  c : Nat
  l : List PcM
def rbO (b : Nat) (m : RbM) (r : Rb) : List Ob := [rbR b m.A m.l.length m.c r.room r.off r.high r.final, rbS m.A m.c m.l]
def RbAt (m : RbM) (r : Rb) : Prop := m.l.map pu = r.ps

theorem rnew_spec (room : Int) (G : Mp) : Spec Try.prog 8 #[.int .i64 room] [] G (fun v own N => N = MT ∧ ((¬ (1 ≤ room ∧ room ≤ 65536) ∧ v = .tuple #[.pointer none, .int .i64 20] ∧ own = []) ∨ ((1 ≤ room ∧ room ≤ 65536) ∧ ∃ b, v = .tuple #[.pointer (some ⟨b, 0, none⟩), .int .i64 0] ∧ own = rbO b ⟨none, 0, []⟩ (newR room)))) := by
  refine Spec.intro (args := [_]) wide Try.func8 rfl Try.call8 (by rfl) (by rfl) (fun w0 hw0 => ?_)
  refine vcIf_dec (fun h1 => ?_) (fun h1 => ?_)
  · exact ⟨[], _, MT, .nil, fun _ _ _ => trivial, rfl, .inl ⟨by omega, rfl, rfl⟩⟩
  refine vcIf_dec (fun h2 => ?_) (fun h2 => ?_)
  · exact ⟨[], _, MT, .nil, fun _ _ _ => trivial, rfl, .inl ⟨by omega, rfl, rfl⟩⟩
  intro b
  exact ⟨rbO b ⟨none, 0, []⟩ (newR room), _, MT, .cons .here (.cons .none_ .nil), fun _ _ _ => trivial, rfl, .inr ⟨by omega, b, rfl, rfl⟩⟩

theorem check_spec (b : Nat) (A : Option Addr) (len c : Nat) (r : Rb) (e : Int) (fin : Bool) (G : Mp) (hr : RbOk r) (hR : Ent G (RowAt (some ⟨b, 0, none⟩) [.int .i64 r.room, .int .i64 r.off, .int .i64 r.high, .int .i64 r.final, .slice A len c])) :
    Spec Try.prog 26 #[.pointer (some ⟨b, 0, none⟩), .int .i64 e, .bool fin] [] G (Ret (.int .i64 (checkP r e fin))) := by
  refine Spec.intro (args := [_, _, _]) wide Try.func26 rfl Try.call26 (by rfl) (by rfl) (fun w0 hw0 => ?_)
  have h0 := hr.off
  have h1 := hr.room
  have h2 := hr.hi
  have h3 := hr.chain.le
  have tail : ¬ (0 ≤ r.final ∧ (r.final < e ∨ (fin = true ∧ e ≠ r.final))) → ¬ (r.final < 0 ∧ fin = true ∧ e < r.high) → checkP r e fin = if r.off + r.room < e then 32 else 0 := fun h h' => by
    unfold checkP; rw [if_neg h, if_neg h']
  have e31 : (0 ≤ r.final ∧ (r.final < e ∨ (fin = true ∧ e ≠ r.final))) ∨ (r.final < 0 ∧ fin = true ∧ e < r.high) → checkP r e fin = 31 := fun h => by
    unfold checkP
    rcases h with h | h
    · rw [if_pos h]
    · rw [if_neg (by omega), if_pos h]
  have bad : ∀ (own : List Ob) (N : Mp), checkP r e fin = 31 → ∃ (own' rest : List Ob) (N' : Mp), Pick own' own rest ∧ (∀ w, N w → Objs rest w → N' w) ∧ Ret (.int .i64 (checkP r e fin)) (.int .i64 31) own' N' := fun own N h => ⟨[], own, MT, .nil, fun _ _ _ => trivial, by rw [h], rfl, rfl⟩
  refine vcLoad1_row (j := 3) (Ent.gnG hR) rfl ?_
  refine vcIf_dec (fun hf => ?_) (fun hf => ?_)
  · refine vcLoad1_row (j := 3) (Ent.gnG hR) rfl ?_
    refine vcIf_dec (fun hg => ?_) (fun hg => ?_)
    · exact bad _ _ (e31 (.inl ⟨hf, .inl hg⟩))
    refine vcIf_split (fun hp => ?_) (fun hp => ?_)
    · subst hp
      refine vcLoad1_row (j := 3) (Ent.gnG hR) rfl ?_
      refine vcIf_ndec (fun hn => ?_) (fun hn => ?_)
      · exact bad _ _ (e31 (.inl ⟨hf, .inr ⟨rfl, hn⟩⟩))
      refine vcLoad1_row (j := 3) (Ent.gnG hR) rfl ?_
      refine vcIf_no (by omega) ?_
      refine vcDraw_quiet (by kernel_rfl) ?_
      refine vcLoad1_row (j := 1) (Ent.gnG hR) rfl ?_
      refine vcLoad1_row (j := 0) (Ent.gnG hR) rfl ?_
      refine vcFit_i64 (by first | omega | (simp only; omega)) ?_
      rw [tail (by omega) (by omega)]
      refine vcIf_dec (fun ho => ?_) (fun ho => ?_)
      · rw [if_pos ho]; exact ⟨[], _, MT, .nil, fun _ _ _ => trivial, rfl, rfl, rfl⟩
      · rw [if_neg ho]; exact ⟨[], _, MT, .nil, fun _ _ _ => trivial, rfl, rfl, rfl⟩
    · subst hp
      refine vcLoad1_row (j := 3) (Ent.gnG hR) rfl ?_
      refine vcIf_no (by omega) ?_
      refine vcDraw_quiet (by kernel_rfl) ?_
      refine vcLoad1_row (j := 1) (Ent.gnG hR) rfl ?_
      refine vcLoad1_row (j := 0) (Ent.gnG hR) rfl ?_
      refine vcFit_i64 (by first | omega | (simp only; omega)) ?_
      rw [tail (fun h => h.2.elim hg (fun h => by cases h.1)) (by rintro ⟨_, h, _⟩; cases h)]
      refine vcIf_dec (fun ho => ?_) (fun ho => ?_)
      · rw [if_pos ho]; exact ⟨[], _, MT, .nil, fun _ _ _ => trivial, rfl, rfl, rfl⟩
      · rw [if_neg ho]; exact ⟨[], _, MT, .nil, fun _ _ _ => trivial, rfl, rfl, rfl⟩
  · refine vcLoad1_row (j := 3) (Ent.gnG hR) rfl ?_
    refine vcIf_yes (by omega) ?_
    refine vcIf_split (fun hp => ?_) (fun hp => ?_)
    · subst hp
      refine vcLoad1_row (j := 2) (Ent.gnG hR) rfl ?_
      refine vcIf_dec (fun hn => ?_) (fun hn => ?_)
      · exact bad _ _ (e31 (.inr ⟨by omega, rfl, hn⟩))
      refine vcDraw_quiet (by kernel_rfl) ?_
      refine vcLoad1_row (j := 1) (Ent.gnG hR) rfl ?_
      refine vcLoad1_row (j := 0) (Ent.gnG hR) rfl ?_
      refine vcFit_i64 (by first | omega | (simp only; omega)) ?_
      rw [tail (fun h => hf h.1) (by rintro ⟨_, _, h⟩; exact hn h)]
      refine vcIf_dec (fun ho => ?_) (fun ho => ?_)
      · rw [if_pos ho]; exact ⟨[], _, MT, .nil, fun _ _ _ => trivial, rfl, rfl, rfl⟩
      · rw [if_neg ho]; exact ⟨[], _, MT, .nil, fun _ _ _ => trivial, rfl, rfl, rfl⟩
    · subst hp
      refine vcDraw_quiet (by kernel_rfl) ?_
      refine vcLoad1_row (j := 1) (Ent.gnG hR) rfl ?_
      refine vcLoad1_row (j := 0) (Ent.gnG hR) rfl ?_
      refine vcFit_i64 (by first | omega | (simp only; omega)) ?_
      rw [tail (fun h => hf h.1) (by rintro ⟨_, h, _⟩; cases h)]
      refine vcIf_dec (fun ho => ?_) (fun ho => ?_)
      · rw [if_pos ho]; exact ⟨[], _, MT, .nil, fun _ _ _ => trivial, rfl, rfl, rfl⟩
      · rw [if_neg ho]; exact ⟨[], _, MT, .nil, fun _ _ _ => trivial, rfl, rfl, rfl⟩
theorem pend_spec (p : PcM) (G : Mp) (h : -9223372036854775808 ≤ p.at_ + p.d.length ∧ p.at_ + p.d.length ≤ 9223372036854775807) : Spec Try.prog 30 #[.agg #[.int .i64 p.at_, .slice p.A p.d.length p.c]] [] G (Ret (.int .i64 (pEnd (pu p)))) := by
  refine Spec.intro (args := [_]) wide Try.func30 rfl Try.call30 (by rfl) (by rfl) (fun w0 hw0 => ?_)
  intro b
  refine vcLoad1_row (j := 0) (Ent.gnO .here (fun w hw => Ob.row_at hw)) rfl ?_
  refine vcLoad1_row (j := 1) (Ent.gnO .here (fun w hw => Ob.row_at hw)) rfl ?_
  refine vcFit_i64 (by first | omega | (simp only; omega)) ?_
  exact ⟨[], _, MT, .nil, fun _ _ _ => trivial, rfl, rfl, rfl⟩
end Go.Proofs.Yteomgafghiockaa
