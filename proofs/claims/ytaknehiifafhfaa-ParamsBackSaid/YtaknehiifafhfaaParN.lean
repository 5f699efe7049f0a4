/- Parameters: the reference's Check and Encode. -/
import Derived.Test.YtaknehiifafhfaaParM
namespace Go.Proofs.Ytaknehiifafhfaa
open Go.Proofs
set_option maxRecDepth 20000

theorem rcheck_spec (As : List SlA) (p : Pm) (server : Bool) (G : Mp) : Spec Try.prog 41 #[.agg (refC As p).toArray, .bool server] [] G (Ret (.int .i64 (checkP p server))) := by
  refine Spec.intro (args := [_, _]) wide Try.func41 rfl Try.call41 (by rfl) (by rfl) (fun w0 hw0 => ?_)
  intro b
  refine vcLoop_of (fun k : Nat => 17 - k) (fun k => [(1, .bool server), (2, .pointer (some ⟨b, 0, none⟩)), (5, .int .i64 k)]) (fun _ => [.row b 33 (refC As p) (refC As p).length]) (fun _ => MT) (fun k => k ≤ 17 ∧ checkN p server k = true)
    0 ⟨by omega, rfl⟩ ⟨rfl, rfl, rfl, trivial⟩ ⟨_, .cons .here .nil⟩ Ent.refl ?_
  rintro k ⟨hk, hch⟩
  refine vcIf_dec (fun hlt => ?_) (fun hge => ?_)
  · have hk' : k < 17 := by omega
    refine vcLoadN_0 (xs := refC As p) (Ent.gnO .here (fun w hw => Ob.row_at hw)) (refC_len _ _) ?_
    refine vcCall_of .nil (rright_spec As p k server _ hk') (fun v own' N' hv => ?_); obtain ⟨rfl, rfl, rfl⟩ := hv
    cases hok : okIt p server (itemT k) with
    | false =>
      refine ⟨[], _, MT, .nil, fun _ _ _ => trivial, ?_, rfl, rfl⟩
      unfold checkP
      rw [if_neg (fun h' => by have := checkN_mono h' hk'; rw [hok] at this; cases this)]
      rfl
    | true =>
      refine vcFit_i64 (by omega) ?_
      exact ⟨k + 1, ⟨by omega, by rw [checkN_succ, hch, hok]; rfl⟩, by omega, ⟨rfl, rfl, rfl, trivial⟩, ⟨_, .cons (by first | ((repeat (first | exact .here | apply Take.there)); done) | exact .none_) .nil⟩, fun _ _ => trivial⟩
  · obtain rfl : k = 17 := by omega
    refine ⟨[], _, MT, .nil, fun _ _ _ => trivial, ?_, rfl, rfl⟩
    unfold checkP
    rw [if_pos hch]; rfl

def REncPost (p : Pm) (server : Bool) (v : Value) (own : List Ob) (N : Mp) : Prop := ∃ A c, v = .tuple #[.slice A (encodeP p server).1.length c, .int .i64 (encodeP p server).2] ∧ own = [.sl A c 5 1 (Bs (encodeP p server).1)] ∧ N = MT
theorem rencode_spec (As : List SlA) (p : Pm) (server : Bool) (G : Mp) (hp : p.Ok) (hA : As.length = 4) (h1 : Ent G (PmAt As p)) :
    Spec Try.prog 19 #[.agg (refC As p).toArray, .bool server] [] G (REncPost p server) := by
  refine Spec.intro (args := [_, _]) wide Try.func19 rfl Try.call19 (by rfl) (by rfl) (fun w0 hw0 => ?_)
  intro b2
  refine vcLoadN_0 (xs := refC As p) (Ent.gnO .here (fun w hw => Ob.row_at hw)) (refC_len _ _) ?_
  refine vcCall_of .nil (rcheck_spec As p server _) (fun v own' N' hv => ?_); obtain ⟨rfl, rfl, rfl⟩ := hv
  cases hch : checkN p server 17 with
  | false =>
    have e1 : checkP p server = 91 := by unfold checkP; rw [hch]; rfl
    have e2 : encodeP p server = ([], 91) := by unfold encodeP; rw [hch]; rfl
    rw [e1]
    refine ⟨[.sl none 0 5 1 []], _, MT, .cons .none_ .nil, fun _ _ _ => trivial, none, 0, ?_, ?_, rfl⟩
    · rw [e2]; rfl
    · rw [e2]; rfl
  | true =>
  have e1 : checkP p server = 0 := by unfold checkP; rw [hch]; rfl
  have e2 : encodeP p server = (encN p 17, 0) := by unfold encodeP; rw [hch]; rfl
  rw [e1]
  refine vcCall_of .nil (rusual_spec _) (fun v own' N' hv => ?_)
  obtain ⟨rfl, rfl, rfl⟩ := hv
  intro b7
  refine ⟨rfl, vcStoreN_row (xs := refC nilAs zeroP) (m := 52) _ .here rfl (refC_one _ _) ?_⟩
  intro bo
  refine vcLoop_of (fun g : Nat × Option Addr × Nat => 17 - g.1) (fun g => [(2, .pointer (some ⟨b2, 0, none⟩)), (7, .pointer (some ⟨b7, 0, none⟩)), (8, .slice g.2.1 (encN p g.1).length g.2.2), (9, .int .i64 g.1)])
    (fun g => [.sl g.2.1 g.2.2 5 1 (Bs (encN p g.1)), .row b7 33 (refC nilAs usualP) 52, .row b2 33 (refC As p) (refC As p).length]) (fun _ => MT) (fun g => g.1 ≤ 17)
    (0, some ⟨bo, 0, none⟩, 0) (Nat.zero_le _) ⟨rfl, rfl, rfl, rfl, trivial⟩ ⟨_, .cons .here (.cons (by first | ((repeat (first | exact .here | apply Take.there)); done) | exact .none_) (.cons (by first | ((repeat (first | exact .here | apply Take.there)); done) | exact .none_) .nil))⟩ (fun _ _ => trivial) ?_
  rintro ⟨k, A, c⟩ hk
  simp only at hk
  refine vcIf_dec (fun hlt => ?_) (fun hge => ?_)
  · have hk' : k < 17 := (by first | omega | (simp only; omega))
    have hlen := encN_len hch k hk
    have go : ∀ (v : List UInt8), toldV p k = some v → encN p (k + 1) = encN p k ++ encI k v := fun v hv => by rw [encN_succ]; unfold encO; rw [hv]
    have stay : toldV p k = none → encN p (k + 1) = encN p k := fun hv => by rw [encN_succ]; unfold encO; rw [hv]; simp
    have s1 := vsize_le (k : Int)
    have m1 : Ent (MpAnd (RowAt (some ⟨b2, 0, none⟩) (refC As p)) (RowAt (some ⟨b7, 0, none⟩) (refC nilAs usualP))) (RowAt (some ⟨b2, 0, none⟩) (refC As p)) := fun _ h => h.1
    have m2 : Ent (MpAnd (RowAt (some ⟨b2, 0, none⟩) (refC As p)) (RowAt (some ⟨b7, 0, none⟩) (refC nilAs usualP))) (RowAt (some ⟨b7, 0, none⟩) (refC nilAs usualP)) := fun _ h => h.2
    have g1 : (refC As p)[0 + k]? = some (.int .i64 (rN p k)) := by rw [Nat.zero_add]; exact refC_num As p hk'
    have g2 : (refC nilAs usualP)[0 + k]? = some (.int .i64 (rN usualP k)) := by rw [Nat.zero_add]; exact refC_num nilAs usualP hk'
    refine vcDraw_mix [0,1,2,3,4,5,6,7,8,9,10,11,12,13] (MpAnd (RowAt (some ⟨b2, 0, none⟩) (refC As p)) (RowAt (some ⟨b7, 0, none⟩) (refC nilAs usualP))) (by kernel_rfl) (Ent.both (Ent.gnO (by first | ((repeat (first | exact .here | apply Take.there)); done) | exact .none_) (fun w hw => Ob.row_at hw)) (Ent.gnO (by first | ((repeat (first | exact .here | apply Take.there)); done) | exact .none_) (fun w hw => Ob.row_at hw))) ?_
    refine vcCall_of .nil (kind_spec k _) (fun v own' N' hv => ?_); obtain ⟨rfl, rfl, rfl⟩ := hv
    refine vcMix_same (Ent.both (Ent.gnO (by first | ((repeat (first | exact .here | apply Take.there)); done) | exact .none_) (fun w hw => Ob.row_at hw)) (Ent.gnO (by first | ((repeat (first | exact .here | apply Take.there)); done) | exact .none_) (fun w hw => Ob.row_at hw))) ?_
    cases hit : itemT k with
    | num j lo hi =>
      have hkb : kindB k = 110 := by unfold kindB; rw [hit]
      have hnr := num_range hch hk' hit
      have hk12 : (k : Int) ≠ 12 := fun h => by
        have := itemT_range k
        rw [hit] at this
        exact (this.resolve_left (by simp)).2.2.1 h
      rw [show rN p k = p.num j from by unfold rN; rw [hit]] at g1
      rw [show rN usualP k = usualP.num j from by unfold rN; rw [hit]] at g2
      have hval : toldV p k = if p.num j = usualP.num j then none else some (vput (p.num j)) := by unfold toldV; rw [hit]
      rw [hkb]
      refine vcAt_nat k rfl hk' ?_
      refine vcLoad1_2 m1 g1 ?_
      refine vcAt_nat k rfl hk' ?_
      refine vcLoad1_2 m2 g2 ?_
      refine vcIf_ndec (fun hne => ?_) (fun heq => ?_)
      · rw [if_neg hne] at hval
        have hvl := toldV_len hch hk' hval
        have s2 := vsize_le ((vput (p.num j)).length : Int)
        refine vcAt_nat k rfl hk' ?_
        refine vcLoad1_2 (Ent.gnO (by first | ((repeat (first | exact .here | apply Take.there)); done) | exact .none_) (fun w hw => Ob.row_at hw)) g1 ?_
        refine vcCall_of .nil (rput_spec (p.num j) _) (fun v own' N' hv => ?_)
        obtain ⟨Av, cv, rfl, rfl, rfl, hcv⟩ := hv
        refine vcCall_of .nil (kind_spec k _) (fun v own' N' hv => ?_); obtain ⟨rfl, rfl, rfl⟩ := hv
        rw [hkb]
        refine vcCall_of .nil (rput_spec k _) (fun v own' N' hv => ?_)
        obtain ⟨A1, c1, rfl, rfl, rfl, hc1⟩ := hv
        refine vcCall_of .nil (rput_spec (vput (p.num j)).length _) (fun v own' N' hv => ?_)
        obtain ⟨A2, c2, rfl, rfl, rfl, hc2⟩ := hv
        intro bx
        have hpc : pieces [(A, c, encN p k), (A1, c1, vput k), (A2, c2, vput (vput (p.num j)).length), (Av, cv, vput (p.num j))] = encN p (k + 1) := by rw [go _ hval]; simp [pieces, encI]
        have hl1 := encN_len hch (k + 1) (by omega)
        refine vcCall_of .nil (join_spec (some ⟨bx, 0, none⟩) 4 [(A, c, encN p k), (A1, c1, vput k), (A2, c2, vput (vput (p.num j)).length), (Av, cv, vput (p.num j))] _ (Ent.gnO .here (fun w hw => Ob.sl_at hw)) (fun q hq => by
          simp only [List.mem_cons, List.not_mem_nil, or_false] at hq
          rcases hq with rfl | rfl | rfl | rfl
          · exact Ent.gnO (by first | ((repeat (first | exact .here | apply Take.there)); done) | exact .none_) (fun w hw => Ob.sl_at hw)
          · exact Ent.gnO (by first | ((repeat (first | exact .here | apply Take.there)); done) | exact .none_) (fun w hw => Ob.sl_at hw)
          · exact Ent.gnO (by first | ((repeat (first | exact .here | apply Take.there)); done) | exact .none_) (fun w hw => Ob.sl_at hw)
          · exact Ent.gnO (by first | ((repeat (first | exact .here | apply Take.there)); done) | exact .none_) (fun w hw => Ob.sl_at hw)) (by rw [hpc]; omega) (by simp)) (fun v own' N' hv => ?_)
        obtain ⟨A3, c3, rfl, rfl, rfl, hc3⟩ := hv
        rw [hpc]
        refine vcFit_i64 (by first | omega | (simp only; omega)) ?_
        exact ⟨(k + 1, A3, c3), (by first | omega | (simp only; omega)), (by first | omega | (simp only; omega)), ⟨rfl, rfl, rfl, rfl, trivial⟩, ⟨_, .cons (by first | ((repeat (first | exact .here | apply Take.there)); done) | exact .none_) (.cons (by first | ((repeat (first | exact .here | apply Take.there)); done) | exact .none_) (.cons (by first | ((repeat (first | exact .here | apply Take.there)); done) | exact .none_) .nil))⟩, fun _ _ => trivial⟩
      · rw [if_pos heq] at hval
        refine vcCall_of .nil (kind_spec k _) (fun v own' N' hv => ?_); obtain ⟨rfl, rfl, rfl⟩ := hv
        rw [hkb]
        refine vcIf_no hk12 ?_
        refine vcFit_i64 (by first | omega | (simp only; omega)) ?_
        exact ⟨(k + 1, A, c), (by first | omega | (simp only; omega)), (by first | omega | (simp only; omega)), ⟨rfl, rfl, by rw [stay hval]; rfl, rfl, trivial⟩, ⟨_, by rw [stay hval]; exact .cons (by first | ((repeat (first | exact .here | apply Take.there)); done) | exact .none_) (.cons (by first | ((repeat (first | exact .here | apply Take.there)); done) | exact .none_) (.cons (by first | ((repeat (first | exact .here | apply Take.there)); done) | exact .none_) .nil))⟩, fun _ _ => trivial⟩
    | txt j lo hi s =>
      have hkb : kindB k = 98 := by unfold kindB; rw [hit]
      have hk12 : (k : Int) ≠ 12 := fun h => by
        have := itemT_range k
        rw [hit] at this
        exact (this.resolve_left (by simp)).2.2.1 h
      have hval : toldV p k = if p.has j = true then some (p.by_ j) else none := by unfold toldV; rw [hit]
      have hh2 := refC_has As p hk'
      rw [show rH p k = p.has j from by unfold rH; rw [hit]] at hh2
      have hb2 := refC_by As p hk'
      rw [show rB p k = p.by_ j from by unfold rB; rw [hit]] at hb2
      have hrow : Ent G (RowAt (rA As k).1 (Bs (p.by_ j))) := h1.mono fun w h => by
        have := h.byId hp hA k
        rwa [show rB p k = p.by_ j from by unfold rB; rw [hit]] at this
      rw [hkb]
      refine vcCall_of .nil (kind_spec k _) (fun v own' N' hv => ?_); obtain ⟨rfl, rfl, rfl⟩ := hv
      rw [hkb]
      refine vcAt_nat k rfl hk' ?_
      refine vcLoad1_2 (Ent.gnO (by first | ((repeat (first | exact .here | apply Take.there)); done) | exact .none_) (fun w hw => Ob.row_at hw)) hh2 ?_
      cases hh : p.has j with
      | true =>
        rw [hh, if_pos rfl] at hval
        have hvl := toldV_len hch hk' hval
        have s2 := vsize_le ((p.by_ j).length : Int)
        refine vcAt_nat k rfl hk' ?_
        refine vcLoad1_2 (Ent.gnO (by first | ((repeat (first | exact .here | apply Take.there)); done) | exact .none_) (fun w hw => Ob.row_at hw)) hb2 ?_
        refine vcCall_of .nil (rput_spec k _) (fun v own' N' hv => ?_)
        obtain ⟨A1, c1, rfl, rfl, rfl, hc1⟩ := hv
        refine vcCall_of .nil (rput_spec (p.by_ j).length _) (fun v own' N' hv => ?_)
        obtain ⟨A2, c2, rfl, rfl, rfl, hc2⟩ := hv
        intro bx
        have hpc : pieces [(A, c, encN p k), (A1, c1, vput k), (A2, c2, vput (p.by_ j).length), ((rA As k).1, (rA As k).2, p.by_ j)] = encN p (k + 1) := by rw [go _ hval]; simp [pieces, encI]
        have hl1 := encN_len hch (k + 1) (by omega)
        refine vcCall_of .nil (join_spec (some ⟨bx, 0, none⟩) 4 [(A, c, encN p k), (A1, c1, vput k), (A2, c2, vput (p.by_ j).length), ((rA As k).1, (rA As k).2, p.by_ j)] _ (Ent.gnO .here (fun w hw => Ob.sl_at hw)) (fun q hq => by
          simp only [List.mem_cons, List.not_mem_nil, or_false] at hq
          rcases hq with rfl | rfl | rfl | rfl
          · exact Ent.gnO (by first | ((repeat (first | exact .here | apply Take.there)); done) | exact .none_) (fun w hw => Ob.sl_at hw)
          · exact Ent.gnO (by first | ((repeat (first | exact .here | apply Take.there)); done) | exact .none_) (fun w hw => Ob.sl_at hw)
          · exact Ent.gnO (by first | ((repeat (first | exact .here | apply Take.there)); done) | exact .none_) (fun w hw => Ob.sl_at hw)
          · exact Ent.gnG hrow) (by rw [hpc]; omega) (by simp)) (fun v own' N' hv => ?_)
        obtain ⟨A3, c3, rfl, rfl, rfl, hc3⟩ := hv
        rw [hpc]
        refine vcFit_i64 (by first | omega | (simp only; omega)) ?_
        exact ⟨(k + 1, A3, c3), (by first | omega | (simp only; omega)), (by first | omega | (simp only; omega)), ⟨rfl, rfl, rfl, rfl, trivial⟩, ⟨_, .cons (by first | ((repeat (first | exact .here | apply Take.there)); done) | exact .none_) (.cons (by first | ((repeat (first | exact .here | apply Take.there)); done) | exact .none_) (.cons (by first | ((repeat (first | exact .here | apply Take.there)); done) | exact .none_) .nil))⟩, fun _ _ => trivial⟩
      | false =>
        rw [hh, if_neg (by simp)] at hval
        refine vcIf_no hk12 ?_
        refine vcFit_i64 (by first | omega | (simp only; omega)) ?_
        exact ⟨(k + 1, A, c), (by first | omega | (simp only; omega)), (by first | omega | (simp only; omega)), ⟨rfl, rfl, by rw [stay hval]; rfl, rfl, trivial⟩, ⟨_, by rw [stay hval]; exact .cons (by first | ((repeat (first | exact .here | apply Take.there)); done) | exact .none_) (.cons (by first | ((repeat (first | exact .here | apply Take.there)); done) | exact .none_) (.cons (by first | ((repeat (first | exact .here | apply Take.there)); done) | exact .none_) .nil))⟩, fun _ _ => trivial⟩
    | none =>
      have hval : toldV p k = if (k : Int) = 12 then (if p.nm = true then some [] else none) else none := by unfold toldV; rw [hit]
      have hkb : kindB k = if (k : Int) = 12 then 48 else 32 := by unfold kindB; rw [hit]
      by_cases h12 : (k : Int) = 12
      · rw [if_pos h12] at hval hkb
        rw [hkb]
        refine vcCall_of .nil (kind_spec k _) (fun v own' N' hv => ?_); obtain ⟨rfl, rfl, rfl⟩ := hv
        rw [hkb]
        refine vcIf_yes h12 ?_
        refine vcLoad1_row (xs := refC As p) (Ent.gnO (by first | ((repeat (first | exact .here | apply Take.there)); done) | exact .none_) (fun w hw => Ob.row_at hw)) (refC_nm As p) ?_
        cases hnm : p.nm with
        | true =>
          rw [hnm, if_pos rfl] at hval
          refine vcCall_of .nil (rput_spec k _) (fun v own' N' hv => ?_)
          obtain ⟨A1, c1, rfl, rfl, rfl, hc1⟩ := hv
          refine vcCall_of .nil (rput_spec (([] : List UInt8).length : Nat) _) (fun v own' N' hv => ?_)
          obtain ⟨A2, c2, rfl, rfl, rfl, hc2⟩ := hv
          intro bx
          have hpc : pieces [(A, c, encN p k), (A1, c1, vput k), (A2, c2, vput (([] : List UInt8).length : Nat)), ((none : Option Addr), 0, ([] : List UInt8))] = encN p (k + 1) := by rw [go _ hval]; simp [pieces, encI]
          have hl1 := encN_len hch (k + 1) (by omega)
          refine vcCall_of .nil (join_spec (some ⟨bx, 0, none⟩) 4 [(A, c, encN p k), (A1, c1, vput k), (A2, c2, vput (([] : List UInt8).length : Nat)), ((none : Option Addr), 0, ([] : List UInt8))] _ (Ent.gnO .here (fun w hw => Ob.sl_at hw)) (fun q hq => by
            simp only [List.mem_cons, List.not_mem_nil, or_false] at hq
            rcases hq with rfl | rfl | rfl | rfl
            · exact Ent.gnO (by first | ((repeat (first | exact .here | apply Take.there)); done) | exact .none_) (fun w hw => Ob.sl_at hw)
            · exact Ent.gnO (by first | ((repeat (first | exact .here | apply Take.there)); done) | exact .none_) (fun w hw => Ob.sl_at hw)
            · exact Ent.gnO (by first | ((repeat (first | exact .here | apply Take.there)); done) | exact .none_) (fun w hw => Ob.sl_at hw)
            · exact fun _ _ => RowAt.nil) (by rw [hpc]; omega) (by simp)) (fun v own' N' hv => ?_)
          obtain ⟨A3, c3, rfl, rfl, rfl, hc3⟩ := hv
          rw [hpc]
          refine vcFit_i64 (by first | omega | (simp only; omega)) ?_
          exact ⟨(k + 1, A3, c3), (by first | omega | (simp only; omega)), (by first | omega | (simp only; omega)), ⟨rfl, rfl, rfl, rfl, trivial⟩, ⟨_, .cons (by first | ((repeat (first | exact .here | apply Take.there)); done) | exact .none_) (.cons (by first | ((repeat (first | exact .here | apply Take.there)); done) | exact .none_) (.cons (by first | ((repeat (first | exact .here | apply Take.there)); done) | exact .none_) .nil))⟩, fun _ _ => trivial⟩
        | false =>
          rw [hnm, if_neg (by simp)] at hval
          refine vcFit_i64 (by first | omega | (simp only; omega)) ?_
          exact ⟨(k + 1, A, c), (by first | omega | (simp only; omega)), (by first | omega | (simp only; omega)), ⟨rfl, rfl, by rw [stay hval]; rfl, rfl, trivial⟩, ⟨_, by rw [stay hval]; exact .cons (by first | ((repeat (first | exact .here | apply Take.there)); done) | exact .none_) (.cons (by first | ((repeat (first | exact .here | apply Take.there)); done) | exact .none_) (.cons (by first | ((repeat (first | exact .here | apply Take.there)); done) | exact .none_) .nil))⟩, fun _ _ => trivial⟩
      · rw [if_neg h12] at hval hkb
        rw [hkb]
        refine vcCall_of .nil (kind_spec k _) (fun v own' N' hv => ?_); obtain ⟨rfl, rfl, rfl⟩ := hv
        rw [hkb]
        refine vcIf_no h12 ?_
        refine vcFit_i64 (by first | omega | (simp only; omega)) ?_
        exact ⟨(k + 1, A, c), (by first | omega | (simp only; omega)), (by first | omega | (simp only; omega)), ⟨rfl, rfl, by rw [stay hval]; rfl, rfl, trivial⟩, ⟨_, by rw [stay hval]; exact .cons (by first | ((repeat (first | exact .here | apply Take.there)); done) | exact .none_) (.cons (by first | ((repeat (first | exact .here | apply Take.there)); done) | exact .none_) (.cons (by first | ((repeat (first | exact .here | apply Take.there)); done) | exact .none_) .nil))⟩, fun _ _ => trivial⟩
  · obtain rfl : k = 17 := (by first | omega | (simp only; omega))
    refine ⟨[.sl A c 5 1 (Bs (encN p 17))], _, MT, .cons (by first | ((repeat (first | exact .here | apply Take.there)); done) | exact .none_) .nil, fun _ _ _ => trivial, A, c, ?_, ?_, rfl⟩
    · rw [e2]; rfl
    · rw [e2]
end Go.Proofs.Ytaknehiifafhfaa
