/- A reassembly buffer: the functions that only look. -/
import Derived.Test.YteomgafghiockaaReaA
namespace Go.Proofs.Yteomgafghiockaa
open Go.Proofs
set_option maxRecDepth 10000

theorem map_drop_get {α β : Type} {f : α → β} {l : List α} {k : Nat} (h : k < l.length) : (l.map f).drop k = f l[k] :: (l.map f).drop (k + 1) := by
  rw [List.drop_eq_getElem_cons (by simpa using h)]; simp
theorem RbAt.mem {m : RbM} {r : Rb} (h : RbAt m r) {k : Nat} (hk : k < m.l.length) : pu m.l[k] ∈ r.ps := by
  rw [← h]; exact List.mem_map_of_mem (List.getElem_mem hk)
theorem RbOk.few {r : Rb} (h : RbOk r) : r.ps.length ≤ 65536 ∧ total r.ps ≤ 65536 := by
  have h1 := h.chain.len
  have h2 := h.chain.total
  have h3 := h.room
  have h4 := h.hi
  omega
theorem RbAt.few {m : RbM} {r : Rb} (h : RbAt m r) (hr : RbOk r) : m.l.length ≤ 65536 := by
  have := hr.few.1
  rw [← h, List.length_map] at this
  exact this
def Look (b : Nat) (m : RbM) (r : Rb) (u : Value) (v : Value) (own : List Ob) (N : Mp) : Prop := v = u ∧ own = rbO b m r ∧ N = MT
theorem offset_spec (b : Nat) (m : RbM) (r : Rb) (G : Mp) : Spec Try.prog 13 #[.pointer (some ⟨b, 0, none⟩)] (rbO b m r) G (Look b m r (.int .i64 r.off)) := by
  refine Spec.intro (args := [_]) wide Try.func13 rfl Try.call13 (by rfl) (by rfl) (fun w0 hw0 => ?_)
  refine vcLoad1_row (j := 1) (Ent.gnO .here (fun w hw => Ob.row_at hw)) rfl ?_
  exact ⟨rbO b m r, _, MT, Pick.cons .here (.cons .here .nil), fun _ _ _ => trivial, rfl, rfl, rfl⟩
theorem high_spec (b : Nat) (m : RbM) (r : Rb) (G : Mp) : Spec Try.prog 20 #[.pointer (some ⟨b, 0, none⟩)] (rbO b m r) G (Look b m r (.int .i64 r.high)) := by
  refine Spec.intro (args := [_]) wide Try.func20 rfl Try.call20 (by rfl) (by rfl) (fun w0 hw0 => ?_)
  refine vcLoad1_row (j := 2) (Ent.gnO .here (fun w hw => Ob.row_at hw)) rfl ?_
  exact ⟨rbO b m r, _, MT, Pick.cons .here (.cons .here .nil), fun _ _ _ => trivial, rfl, rfl, rfl⟩
def finV (r : Rb) : Value := if r.final < 0 then .tuple #[.int .i64 0, .bool false] else .tuple #[.int .i64 r.final, .bool true]
theorem final_spec (b : Nat) (m : RbM) (r : Rb) (G : Mp) : Spec Try.prog 19 #[.pointer (some ⟨b, 0, none⟩)] (rbO b m r) G (Look b m r (finV r)) := by
  refine Spec.intro (args := [_]) wide Try.func19 rfl Try.call19 (by rfl) (by rfl) (fun w0 hw0 => ?_)
  refine vcLoad1_row (j := 3) (Ent.gnO .here (fun w hw => Ob.row_at hw)) rfl ?_
  refine vcIf_dec (fun h => ?_) (fun h => ?_)
  · exact ⟨rbO b m r, _, MT, Pick.cons .here (.cons .here .nil), fun _ _ _ => trivial, by unfold finV; rw [if_pos h]; rfl, rfl, rfl⟩
  · refine vcLoad1_row (j := 3) (Ent.gnO .here (fun w hw => Ob.row_at hw)) rfl ?_
    exact ⟨rbO b m r, _, MT, Pick.cons .here (.cons .here .nil), fun _ _ _ => trivial, by unfold finV; rw [if_neg h]; rfl, rfl, rfl⟩
theorem held_spec (b : Nat) (m : RbM) (r : Rb) (G : Mp) (hr : RbOk r) (hm : RbAt m r) : Spec Try.prog 17 #[.pointer (some ⟨b, 0, none⟩)] (rbO b m r) G (Look b m r (.int .i64 (total r.ps))) := by
  refine Spec.intro (args := [_]) wide Try.func17 rfl Try.call17 (by rfl) (by rfl) (fun w0 hw0 => ?_)
  have hfew := hm.few hr
  have htot := hr.few.2
  refine vcLoad1_row (j := 4) (Ent.gnO .here (fun w hw => Ob.row_at hw)) rfl ?_
  refine vcLoop_of (fun k : Nat => m.l.length - k) (fun k => [(0, .pointer (some ⟨b, 0, none⟩)), (3, .int .i64 (total ((m.l.take k).map pu))), (9, .slice m.A m.l.length m.c), (10, .int .i64 m.l.length), (11, .int .i64 k)]) (fun _ => rbO b m r) (fun _ => MT) (fun k => k ≤ m.l.length)
    0 (Nat.zero_le _) ⟨rfl, rfl, rfl, rfl, rfl, trivial⟩ ⟨_, Pick.cons .here (.cons .here .nil)⟩ (fun _ _ => trivial) ?_
  intro k hk
  refine vcIf_dec (fun hlt => ?_) (fun hge => ?_)
  · have hk' : k < m.l.length := by omega
    have hs : total ((m.l.take (k + 1)).map pu) = total ((m.l.take k).map pu) + m.l[k].d.length := by
      rw [take_snoc_get hk', List.map_append, total_app]; rfl
    have hle : total ((m.l.take (k + 1)).map pu) ≤ total r.ps := by
      rw [← hm, ← List.take_append_drop (k + 1) (m.l.map pu), total_app, List.map_take]; omega
    refine vcIdx_nats (s := 2) k rfl (Ent.gnO (.there .here) (fun w hw => Ob.sl_at hw)) hk' (by rw [pcL_len]; exact Nat.le_refl _) (by omega) (fun a ha => ?_)
    refine vcLoadN_1 (pcV m.l[k]) (Ent.gnO (.there .here) (fun w hw => ha ▸ Ob.sl_at hw)) rfl (pcL_chunk hk') ?_
    intro b5
    refine ⟨rfl, vcStoreN_row _ .here rfl (pcV_one m.l[k]) ?_⟩
    refine vcLoad1_row (j := 1) (Ent.gnO .here (fun w hw => Ob.row_at hw)) rfl ?_
    refine vcFit_i64 (by first | omega | (simp only; omega)) ?_
    refine vcFit_i64 (by first | omega | (simp only; omega)) ?_
    exact ⟨k + 1, by omega, by omega, ⟨rfl, by rw [hs]; rfl, rfl, rfl, rfl, trivial⟩, ⟨_, Pick.cons (.there .here) (.cons (.there .here) .nil)⟩, fun _ _ => trivial⟩
  · obtain rfl : k = m.l.length := by omega
    rw [List.take_length, hm]
    exact ⟨rbO b m r, _, MT, Pick.cons .here (.cons .here .nil), fun _ _ _ => trivial, rfl, rfl, rfl⟩
theorem readyP_end {at_ : Int} : readyP at_ [] = at_ := rfl
theorem ready_spec (b : Nat) (m : RbM) (r : Rb) (G : Mp) (hr : RbOk r) (hm : RbAt m r) : Spec Try.prog 16 #[.pointer (some ⟨b, 0, none⟩)] (rbO b m r) G (Look b m r (.int .i64 (readyP r.off r.ps - r.off))) := by
  refine Spec.intro (args := [_]) wide Try.func16 rfl Try.call16 (by rfl) (by rfl) (fun w0 hw0 => ?_)
  have hfew := hm.few hr
  have h0 := hr.off
  have h1 := hr.hi
  have hrd := readyP_bound hr.chain
  refine vcLoad1_row (j := 1) (Ent.gnO .here (fun w hw => Ob.row_at hw)) rfl ?_
  refine vcLoad1_row (j := 4) (Ent.gnO .here (fun w hw => Ob.row_at hw)) rfl ?_
  have fin : ∀ (x : Int) (own : List Ob) (N : Mp), x = readyP r.off r.ps - r.off → (∃ rest, Pick (rbO b m r) own rest) → ∃ (own' rest : List Ob) (N' : Mp), Pick own' own rest ∧ (∀ w, N w → Objs rest w → N' w) ∧ Look b m r (.int .i64 (readyP r.off r.ps - r.off)) (.int .i64 x) own' N' :=
    fun x own N hx ⟨rest, hp⟩ => ⟨rbO b m r, rest, MT, hp, fun _ _ _ => trivial, by rw [hx], rfl, rfl⟩
  refine vcLoop_of (fun g : Nat × Int => m.l.length - g.1) (fun g => [(0, .pointer (some ⟨b, 0, none⟩)), (3, .int .i64 g.2), (13, .slice m.A m.l.length m.c), (14, .int .i64 m.l.length), (15, .int .i64 g.1)]) (fun _ => rbO b m r) (fun _ => MT) (fun g => g.1 ≤ m.l.length ∧ readyP g.2 ((m.l.map pu).drop g.1) = readyP r.off r.ps)
    (0, r.off) ⟨Nat.zero_le _, by rw [List.drop_zero, hm]⟩ ⟨rfl, rfl, rfl, rfl, rfl, trivial⟩ ⟨_, Pick.cons .here (.cons .here .nil)⟩ (fun _ _ => trivial) ?_
  rintro ⟨k, x⟩ ⟨hk, hx⟩
  simp only at hk hx
  refine vcIf_dec (fun hlt => ?_) (fun hge => ?_)
  · have hk' : k < m.l.length := (by first | omega | (simp only; omega))
    rw [map_drop_get hk'] at hx
    have hmem : r.off ≤ m.l[k].at_ ∧ 0 < m.l[k].d.length ∧ m.l[k].at_ + m.l[k].d.length ≤ r.high := hr.chain.mem (hm.mem hk')
    have he : pEnd (pu m.l[k]) = m.l[k].at_ + m.l[k].d.length := rfl
    refine vcIdx_nats (s := 2) k rfl (Ent.gnO (.there .here) (fun w hw => Ob.sl_at hw)) hk' (by rw [pcL_len]; exact Nat.le_refl _) (by omega) (fun a ha => ?_)
    refine vcLoadN_1 (pcV m.l[k]) (Ent.gnO (.there .here) (fun w hw => ha ▸ Ob.sl_at hw)) rfl (pcL_chunk hk') ?_
    intro b5
    refine ⟨rfl, vcStoreN_row _ .here rfl (pcV_one m.l[k]) ?_⟩
    refine vcLoad1_row (j := 0) (Ent.gnO .here (fun w hw => Ob.row_at hw)) rfl ?_
    refine vcIf_ndec (fun hne => ?_) (fun heq => ?_)
    · have hx' : x = readyP r.off r.ps := by rw [← hx]; exact (if_neg hne).symm
      refine vcLoad1_row (j := 1) (Ent.gnO (.there .here) (fun w hw => Ob.row_at hw)) rfl ?_
      refine vcFit_i64 (by first | omega | (simp only; omega)) ?_
      exact fin _ _ _ (by simp only; omega) ⟨_, Pick.cons (.there .here) (.cons (.there .here) .nil)⟩
    · refine vcLoadN_0 (xs := pcV m.l[k]) (Ent.gnO .here (fun w hw => Ob.row_at hw)) rfl ?_
      refine vcCall_of .nil (pend_spec m.l[k] _ (by omega)) (fun v own' N' hv => ?_)
      obtain ⟨rfl, rfl, rfl⟩ := hv
      refine vcFit_i64 (by first | omega | (simp only; omega)) ?_
      exact ⟨(k + 1, pEnd (pu m.l[k])), ⟨by omega, by rw [← hx]; exact (if_pos heq).symm⟩, (by first | omega | (simp only; omega)), ⟨rfl, rfl, rfl, rfl, rfl, trivial⟩, ⟨_, Pick.cons (.there .here) (.cons (.there .here) .nil)⟩, fun _ _ => trivial⟩
  · obtain rfl : k = m.l.length := (by first | omega | (simp only; omega))
    rw [List.drop_eq_nil_of_le (by simp), readyP_end] at hx
    refine vcLoad1_row (j := 1) (Ent.gnO .here (fun w hw => Ob.row_at hw)) rfl ?_
    refine vcFit_i64 (by first | omega | (simp only; omega)) ?_
    exact fin _ _ _ (by simp only; omega) ⟨_, Pick.cons .here (.cons .here .nil)⟩
end Go.Proofs.Yteomgafghiockaa
