/- A reassembly buffer: Read. -/
import Derived.Test.YteomgafghiockaaReaC
namespace Go.Proofs.Yteomgafghiockaa
open Go.Proofs
set_option maxRecDepth 10000

theorem readP_none {n off : Int} {ps : List Pc} (h : ¬ 0 < n) : readP n off ps = ([], off, ps) := by
  cases ps with
  | nil => rfl
  | cons p r => unfold readP; rw [if_neg (by omega)]
theorem readP_off {n off : Int} {p : Pc} {r : List Pc} (h : p.1 ≠ off) : readP n off (p :: r) = ([], off, p :: r) := by
  unfold readP; rw [if_neg (by omega)]
theorem readP_all {n off : Int} {p : Pc} {r : List Pc} (h : 0 < n) (h1 : p.1 = off) (h2 : (p.2.length : Int) ≤ n) : readP n off (p :: r) = (p.2 ++ (readP (n - p.2.length) (off + p.2.length) r).1, (readP (n - p.2.length) (off + p.2.length) r).2) := by
  rw [readP, if_pos ⟨h, h1⟩, if_pos h2]
theorem readP_part {n off : Int} {p : Pc} {r : List Pc} (h : 0 < n) (h1 : p.1 = off) (h2 : ¬ (p.2.length : Int) ≤ n) : readP n off (p :: r) = (p.2.take n.toNat, off + n, (p.1 + n, p.2.drop n.toNat) :: r) := by
  rw [readP, if_pos ⟨h, h1⟩, if_neg h2]
/-- What reading leaves is right. -/
theorem readP_chain {hi : Int} : ∀ {ps : List Pc} {n off : Int}, Chain hi off ps → Chain hi (readP n off ps).2.1 (readP n off ps).2.2 ∧ (readP n off ps).2.1 = off + (readP n off ps).1.length
  | [], n, off, h => ⟨h, by simp [readP]⟩
  | p :: r, n, off, ⟨h1, h2, h3⟩ => by
    by_cases hn : 0 < n
    · by_cases ho : p.1 = off
      · by_cases hl : (p.2.length : Int) ≤ n
        · rw [readP_all hn ho hl]
          have e : pEnd p = off + p.2.length := by unfold pEnd; omega
          rw [e] at h3
          obtain ⟨h4, h5⟩ := readP_chain (n := n - p.2.length) h3
          exact ⟨h4, by rw [h5, List.length_append]; omega⟩
        · rw [readP_part hn ho hl]
          refine ⟨⟨by show off + n ≤ p.1 + n; omega, by show 0 < (p.2.drop n.toNat).length; rw [List.length_drop]; omega, ?_⟩, ?_⟩
          · have : pEnd (p.1 + n, p.2.drop n.toNat) = pEnd p := by unfold pEnd; simp only [List.length_drop]; omega
            rw [this]; exact h3
          · simp only [List.length_take]; omega
      · rw [readP_off ho]; exact ⟨⟨h1, h2, h3⟩, by simp⟩
    · rw [readP_none hn]; exact ⟨⟨h1, h2, h3⟩, by simp⟩
theorem readR_ok {r : Rb} (n : Int) (h : RbOk r) : RbOk (readR r n).2.2 := by
  obtain ⟨h1, h2⟩ := readP_chain (n := n) h.chain
  have h3 := h1.le
  have h4 := h.hi
  have h5 := h.off
  exact ⟨h.room, by show 0 ≤ (readP n r.off r.ps).2.1; omega, ⟨by show r.high ≤ (readP n r.off r.ps).2.1 + r.room; omega, h4.2⟩, h.fin, h1⟩

def ReadTo (b : Nat) (m : RbM) (r : Rb) (n : Int) (v : Value) (own : List Ob) (N : Mp) : Prop :=
  ∃ A c m', v = .tuple #[.slice A (readR r n).1.length c, .bool (readR r n).2.1] ∧ own = .sl A c 5 1 (Bs (readR r n).1) :: rbO b m' (readR r n).2.2 ∧ N = MT ∧ RbAt m' (readR r n).2.2 ∧ Ent (PcsAt m.l) (PcsAt m'.l)
structure RdS where
  n : Int
  off : Int
  D : List UInt8
  m : RbM
  A : Option Addr
  c : Nat
theorem read_spec (b : Nat) (m : RbM) (r : Rb) (n : Int) (G : Mp) (hr : RbOk r) (hm : RbAt m r) (hp : Ent G (PcsAt m.l)) (hnn : n ≤ 9223372036854775807) :
    Spec Try.prog 11 #[.pointer (some ⟨b, 0, none⟩), .int .i64 n] (rbO b m r) G (ReadTo b m r n) := by
  refine Spec.intro (args := [_, _]) wide Try.func11 rfl Try.call11 (by rfl) (by rfl) (fun w0 hw0 => ?_)
  have hfew := hm.few hr
  have h0 := hr.off
  have h1 := hr.hi
  have hroom := hr.room
  refine vcLoop_of (fun g : RdS => 2 * g.m.l.length + (if 0 < g.n then 1 else 0)) (fun g => [(0, .pointer (some ⟨b, 0, none⟩)), (1, .int .i64 g.n), (4, .slice g.A g.D.length g.c)])
    (fun g => [rbR b g.m.A g.m.l.length g.m.c r.room g.off r.high r.final, rbS g.m.A g.m.c g.m.l, .sl g.A g.c 5 1 (Bs g.D)]) (fun _ => MT)
    (fun g => r.off ≤ g.off ∧ Chain r.high g.off (g.m.l.map pu) ∧ g.D.length = g.off - r.off ∧ (g.D ++ (readP g.n g.off (g.m.l.map pu)).1, (readP g.n g.off (g.m.l.map pu)).2) = readP n r.off r.ps ∧ Ent (PcsAt m.l) (PcsAt g.m.l) ∧ g.n ≤ n)
    ⟨n, r.off, [], m, none, 0⟩ ⟨Int.le_refl _, by rw [hm]; exact hr.chain, by simp, by rw [hm]; rfl, Ent.refl, Int.le_refl _⟩ ⟨rfl, rfl, rfl, trivial⟩ ⟨_, Pick.cons .here (.cons .here (.cons .none_ .nil))⟩ (fun _ _ => trivial) ?_
  rintro ⟨n', off, D, ⟨A, c, l⟩, Ad, cd⟩ ⟨h2, hch, hD, hrd, hps, hn2⟩
  simp only at h2 hch hD hrd hps hn2
  have hle := hch.le
  have hpG : Ent G (PcsAt l) := fun w hw => hps w (hp w hw)
  have fin : ∀ (u : Value) (N : Mp), readP n' off (l.map pu) = ([], off, l.map pu) → u = .bool (decide (off = r.final)) →
      ∃ (own' rest : List Ob) (N' : Mp), Pick own' [rbR b A l.length c r.room off r.high r.final, rbS A c l, .sl Ad cd 5 1 (Bs D)] rest ∧ (∀ w, N w → Objs rest w → N' w) ∧ ReadTo b m r n (.tuple #[.slice Ad D.length cd, u]) own' N' := by
    intro u N h hu
    rw [h, List.append_nil] at hrd
    have e : readR r n = (D, decide (off = r.final), { r with off := off, ps := l.map pu }) := by unfold readR; rw [← hrd]
    exact ⟨.sl Ad cd 5 1 (Bs D) :: rbO b ⟨A, c, l⟩ { r with off := off, ps := l.map pu }, [], MT, .cons (.there (.there .here)) (.cons .here (.cons .here .nil)), fun _ _ _ => trivial, Ad, cd, ⟨A, c, l⟩, by rw [e, hu], by rw [e], rfl, by rw [e]; rfl, hps⟩
  refine vcDraw_quiet (by kernel_rfl) ?_
  refine vcIf_dec (fun hn => ?_) (fun hn => ?_)
  · simp only at hn
    refine vcLoad1_row (j := 4) (Ent.gnO .here (fun w hw => Ob.row_at hw)) rfl ?_
    cases l with
    | nil =>
      refine vcDraw_quiet (by kernel_rfl) ?_
      refine vcLoad1_row (j := 1) (Ent.gnO .here (fun w hw => Ob.row_at hw)) rfl ?_
      refine vcLoad1_row (j := 3) (Ent.gnO .here (fun w hw => Ob.row_at hw)) rfl ?_
      exact fin _ _ rfl rfl
    | cons p l =>
      have hmem : off ≤ p.at_ ∧ 0 < p.d.length ∧ p.at_ + p.d.length ≤ r.high := hch.mem (List.mem_cons_self ..)
      refine vcIf_yes (by show (0 : Int) < ((l.length + 1 : Nat) : Int); omega) ?_
      refine vcLoad1_row (j := 4) (Ent.gnO .here (fun w hw => Ob.row_at hw)) rfl ?_
      refine vcIdx_nats (s := 2) 0 rfl (Ent.gnO (.there .here) (fun w hw => Ob.sl_at hw)) (by simp) (by rw [pcL_len]; exact Nat.le_refl _) (by omega) (fun a ha => ?_)
      simp only at ha
      subst ha
      refine vcLoad1_2 (v := .int .i64 p.at_) (Ent.gnO (.there .here) (fun w hw => Ob.sl_at hw)) rfl ?_
      refine vcLoad1_row (j := 1) (Ent.gnO .here (fun w hw => Ob.row_at hw)) rfl ?_
      refine vcIf_dec (fun ho => ?_) (fun ho => ?_)
      · refine vcLoad1_row (j := 4) (Ent.gnO .here (fun w hw => Ob.row_at hw)) rfl ?_
        refine vcIdx_nats (s := 2) 0 rfl (Ent.gnO (.there .here) (fun w hw => Ob.sl_at hw)) (by simp) (by rw [pcL_len]; exact Nat.le_refl _) (by omega) (fun a' ha => ?_)
        obtain rfl : a' = a := by simpa using ha.symm
        refine vcLoad1_2 (v := .slice p.A p.d.length p.c) (Ent.gnO (.there .here) (fun w hw => Ob.sl_at hw)) rfl ?_
        have hpm : p ∈ p :: l := List.mem_cons_self ..
        have hcap : p.d.length ≤ p.c := (hpG w0 (hw0.pers w0 (Fr.refl _ _)) p hpm).2
        obtain ⟨K, hK⟩ : ∃ K : Nat, K = min n'.toNat p.d.length := ⟨_, rfl⟩
        have hKn : K ≤ p.d.length := by omega
        have hKK : (if (p.d.length : Int) < n' then (p.d.length : Int) else n') = (K : Int) := by split <;> omega
        refine vcLoad1_2 (v := .slice p.A p.d.length p.c) (Ent.gnO (.there .here) (fun w hw => Ob.sl_at hw)) rfl ?_
        refine vcSlP0 K p.c hKK rfl (by omega) (by omega) ?_
        refine vcApp_of (Bs D) _ (Bs (p.d.take K)) (.there (.there .here)) (by rw [Bs_length, Nat.mul_one]) (by rw [Bs_length, Nat.mul_one, List.length_take]; omega) (by omega) (Bs_one _) (Ent.gnG fun w hw => ?_) (by first | omega | (simp only; omega)) (by first | omega | (simp only; omega)) (fun A2 c2 hc2 => ?_)
        · exact ((hpG w hw) p hpm).1.bytes (cap := p.c) (l := 0) (cutA_0 ..).symm hcap (by rw [List.drop_zero, List.length_take, Nat.min_eq_left hKn])
        rw [← Bs_append]
        refine vcDraw_mixD [0,1,2,3,4,5,6,7,8,9,10,11,12,13,14,15,16,17,18,19] [5] (GN _ _ _) (fun w => ∃ u, RowAt (some a') (u :: .slice p.A p.d.length p.c :: pcL l) w) (by kernel_rfl) Ent.refl (fun w hw => ⟨.int .i64 p.at_, Ob.sl_at (hw.2 _ (.tail _ (.tail _ (.head _))))⟩) ?_
        refine vcLoad1_2 (v := .int .i64 p.at_) (Ent.gnO (.there (.there .here)) (fun w hw => Ob.sl_at hw)) rfl ?_
        refine vcFit_i64 (by show -9223372036854775808 ≤ p.at_ + (if (p.d.length : Int) < n' then (p.d.length : Int) else n') ∧ p.at_ + (if (p.d.length : Int) < n' then (p.d.length : Int) else n') ≤ 9223372036854775807; rw [hKK]; omega) ?_
        refine vcLoad1_of (v := .slice p.A p.d.length p.c) (fun w hw => by
          obtain ⟨u, hu⟩ := hw
          obtain ⟨a2, ha2, hc⟩ := hu 1 _ rfl
          cases ha2
          rw [add_add]; exact hc) ?_
        refine vcSlPE K (p.d.length - K) (p.c - K) hKK (by omega) (by omega) (by omega) (by omega) ?_
        rw [show K + (p.c - K) = p.c from by omega]
        refine vcStore1_2 (rbS (some a') c (p :: l)) _ (.there (.there .here)) rfl (by show 0 * 2 + 0 + 0 < (pcL (p :: l)).length; rw [pcL_len]; simp) rfl ?_
        refine vcMix_drop (by kernel_rfl) (fun w hw => ⟨_, Ob.sl_at (hw.2 _ (.head _))⟩) ?_
        refine vcStore1_2 (.sl (some a') c 64 2 ((pcL (p :: l)).set (0 * 2 + 0 + 0) _)) _ .here rfl (by show 0 * 2 + 1 + 0 < ((pcL (p :: l)).set _ _).length; rw [List.length_set, pcL_len]; simp; omega) rfl ?_
        refine vcMix_last (by kernel_rfl) ?_
        refine vcLoad1_row (j := 1) (Ent.gnO (.there (.there .here)) (fun w hw => Ob.row_at hw)) rfl ?_
        refine vcFit_i64 (by show -9223372036854775808 ≤ off + (if (p.d.length : Int) < n' then (p.d.length : Int) else n') ∧ off + (if (p.d.length : Int) < n' then (p.d.length : Int) else n') ≤ 9223372036854775807; rw [hKK]; omega) ?_
        refine vcStore1_1 (rbR b (some a') (l.length + 1) c r.room off r.high r.final) _ (.there (.there .here)) rfl (by show (1 : Nat) < 5; decide) rfl ?_
        refine vcFit_i64 (by show -9223372036854775808 ≤ n' - (if (p.d.length : Int) < n' then (p.d.length : Int) else n') ∧ n' - (if (p.d.length : Int) < n' then (p.d.length : Int) else n') ≤ 9223372036854775807; rw [hKK]; omega) ?_
        have hP : ∀ q : PcM, q = ⟨p.at_ + (if (p.d.length : Int) < n' then (p.d.length : Int) else n'), cutA p.A p.c K 1, p.c - K, p.d.drop K⟩ → rbS (some a') c (q :: l) = .sl (some a') c 64 2 (((pcL (p :: l)).set (0 * 2 + 0 + 0) (.int .i64 (p.at_ + (if (p.d.length : Int) < n' then (p.d.length : Int) else n')))).set (0 * 2 + 1 + 0) (.slice (cutA p.A p.c K 1) (p.d.length - K) (p.c - K))) := by
          rintro q rfl
          unfold rbS pcL
          rw [List.flatMap_cons, List.flatMap_cons]
          unfold pcV
          rw [List.length_drop]
          rfl
        refine vcLoad1_2 (v := .slice (cutA p.A p.c K 1) (p.d.length - K) (p.c - K)) (Ent.gnO (.there .here) (fun w hw => Ob.sl_at hw)) rfl ?_
        have hlen : some (Value.slice A2 (D.length + K) c2) = some (.slice A2 (D ++ p.d.take K).length c2) := by rw [List.length_append, List.length_take, Nat.min_eq_left hKn]
        have ho' : p.at_ = off := ho
        have hoff : K = p.d.length → off + (K : Int) = pEnd (pu p) := fun h => by unfold pEnd pu; simp only; omega
        have hroom2 := hch
        obtain ⟨_, _, hch3⟩ := hch
        refine vcIf_dec (fun hz => ?_) (fun hz => ?_)
        · have hKl : K = p.d.length := by omega
          refine vcLoad1_row (j := 4) (Ent.gnO .here (fun w hw => Ob.row_at hw)) rfl ?_
          refine vcCall_of (.cons (.there (Take.eq (hP _ rfl))) .nil) (delP_spec (some a') c _ l _ (by have h7 := (show Chain r.high off ((p :: l).map pu) from hroom2).len; have h8 := (show Chain r.high off ((p :: l).map pu) from hroom2).total; rw [List.length_map, List.length_cons] at h7; omega)) (fun v own' N' hv => ?_)
          obtain ⟨A3, c3, rfl, rfl, rfl, hc3⟩ := hv
          refine vcStore1_1 (rbR b (some a') (l.length + 1) c r.room (off + (if (p.d.length : Int) < n' then (p.d.length : Int) else n')) r.high r.final) _ (.there .here) rfl (by show (4 : Nat) < 5; decide) rfl ?_
          refine ⟨⟨n' - (if (p.d.length : Int) < n' then (p.d.length : Int) else n'), off + (if (p.d.length : Int) < n' then (p.d.length : Int) else n'), D ++ p.d.take K, ⟨A3, c3, l⟩, A2, c2⟩, ⟨?_, ?_, ?_, ?_, fun w hw q hq => hps w hw q (List.mem_cons_of_mem _ hq), ?_⟩, ?_, ⟨rfl, rfl, hlen, trivial⟩, ⟨_, .cons .here (.cons .here (.cons .here .nil))⟩, fun _ _ => trivial⟩
          · simp only; rw [hKK]; omega
          · simp only; rw [hKK, hoff hKl]; exact hch3
          · simp only; rw [hKK, List.length_append, List.length_take]; omega
          · rw [List.map_cons, readP_all (p := pu p) hn ho' (by show (p.d.length : Int) ≤ n'; omega)] at hrd
            simp only
            rw [hKK, hKl, List.take_length, List.append_assoc]
            exact hrd
          · simp only; rw [hKK]; omega
          · simp only [List.length_cons]
            split <;> split <;> omega
        · have hKl : (K : Int) = n' := by omega
          have hKlt : K < p.d.length := by omega
          refine ⟨⟨n' - (if (p.d.length : Int) < n' then (p.d.length : Int) else n'), off + (if (p.d.length : Int) < n' then (p.d.length : Int) else n'), D ++ p.d.take K, ⟨some a', c, ⟨p.at_ + (if (p.d.length : Int) < n' then (p.d.length : Int) else n'), cutA p.A p.c K 1, p.c - K, p.d.drop K⟩ :: l⟩, A2, c2⟩, ⟨?_, ?_, ?_, ?_, ?_, ?_⟩, ?_, ⟨rfl, rfl, hlen, trivial⟩, ⟨_, .cons .here (.cons (Take.eq (hP _ rfl)) (.cons .here .nil))⟩, fun _ _ => trivial⟩
          · simp only; rw [hKK]; omega
          · simp only; rw [hKK]
            refine ⟨by show off + (K : Int) ≤ p.at_ + K; omega, by show 0 < (p.d.drop K).length; rw [List.length_drop]; omega, ?_⟩
            have : pEnd (pu ⟨p.at_ + (K : Int), cutA p.A p.c K 1, p.c - K, p.d.drop K⟩) = pEnd (pu p) := by unfold pEnd pu; simp only [List.length_drop]; omega
            show Chain r.high (pEnd (pu ⟨p.at_ + (K : Int), cutA p.A p.c K 1, p.c - K, p.d.drop K⟩)) (l.map pu)
            rw [this]; exact hch3
          · simp only; rw [hKK, List.length_append, List.length_take]; omega
          · rw [List.map_cons, readP_part (p := pu p) hn ho' (by show ¬ (p.d.length : Int) ≤ n'; omega)] at hrd
            simp only
            rw [hKK, readP_none (by omega), List.append_nil]
            rw [← hrd, ← hKl, Int.toNat_natCast]
            rfl
          · intro w hw q hq
            rcases List.mem_cons.1 hq with rfl | hq
            · obtain ⟨e1, e2⟩ := hps w hw p hpm
              exact ⟨e1.bytes rfl e2 (by rw [List.take_length]), by simp only [List.length_drop]; omega⟩
            · exact hps w hw q (List.mem_cons_of_mem _ hq)
          · simp only; rw [hKK]; omega
          · simp only [List.length_cons]
            rw [hKK, if_neg (by omega), if_pos hn]; omega
      · refine vcDraw_quiet (by kernel_rfl) ?_
        refine vcLoad1_row (j := 1) (Ent.gnO .here (fun w hw => Ob.row_at hw)) rfl ?_
        refine vcLoad1_row (j := 3) (Ent.gnO .here (fun w hw => Ob.row_at hw)) rfl ?_
        exact fin _ _ (readP_off ho) rfl
  · refine vcDraw_quiet (by kernel_rfl) ?_
    refine vcLoad1_row (j := 1) (Ent.gnO .here (fun w hw => Ob.row_at hw)) rfl ?_
    refine vcLoad1_row (j := 3) (Ent.gnO .here (fun w hw => Ob.row_at hw)) rfl ?_
    exact fin _ _ (readP_none hn) rfl
end Go.Proofs.Yteomgafghiockaa
