/- ParamsOnce, ParamsBack. -/
import Derived.Test.YtaknehiifafhfaaParP
namespace Go.Proofs.Ytaknehiifafhfaa
open Go.Proofs
set_option maxRecDepth 20000

theorem small_zero : Small zeroP := by
  intro y hy
  simp only [zeroP, List.mem_cons, List.not_mem_nil, or_false, or_self] at hy
  subst hy; exact Nat.zero_le _
theorem once_spec (A : Option Addr) (c : Nat) (bs : List UInt8) (server : Bool) (G : Mp) (h1 : Ent G (RowAt A (Bs bs))) (hx : bs.length ≤ 140737488355328) :
    Spec Try.prog 7 #[.slice A bs.length c, .bool server] [] G (Ret (.bool true)) := by
  refine Spec.intro (args := [_, _]) wide Try.func7 rfl Try.call7 (by rfl) (by rfl) (fun w0 hw0 => ?_)
  refine vcCall_of .nil (copyG_spec A c bs _ (Ent.gnG h1) (by omega)) (fun v own' N0 hv => ?_)
  obtain ⟨A0, c0, rfl, rfl, k0, _⟩ := hv
  refine vcCall_of .nil (decode_spec A0 c0 bs server _ (Ent.gnN (Ent.andR k0)) hx) (fun v own' N1 hv => ?_)
  obtain ⟨As, r, rfl, rfl, hm, hA, hok, hd⟩ := hv
  intro b6
  refine ⟨(pC_len hok hA).trans (by rfl), vcStoreN_row (xs := pC nilAs zeroP) (m := 20) _ .here (by exact pC_len hok hA) (pC_one _ _) ?_⟩
  refine vcIf_ndec (fun he => ?_) (fun he => ?_)
  · obtain ⟨hz, hat0, hat1⟩ := hd.bad he
    refine vcLoadN_0 (xs := pC As r.1) (Ent.gnO (by first | ((repeat (first | exact .here | apply Take.there)); done) | exact .none_) (fun w hw => Ob.row_at hw)) (pC_len hok hA) ?_
    refine vcCall_of .nil (of_spec As r.1 _ hok hA) (fun v own' N' hv => ?_); obtain ⟨rfl, rfl, rfl⟩ := hv
    refine vcCall_of .nil (samep_spec As nilAs r.1 zeroP _ hok zeroP_ok hA rfl (Ent.gnN (by repeat first | exact hm | exact Ent.andR hm | refine Ent.andL ?_)) (fun w _ => PmAt.zero w _ rfl) (by rw [hz]; exact small_zero)) (fun v own' N' hv => ?_)
    obtain ⟨rfl, rfl, rfl⟩ := hv
    rw [hz, sameP_refl]
    refine vcIf_yes hat0 ?_
    refine vcIf_yes hat1 ?_
    refine vcCall_of .nil (awake9_spec _) (fun v own' N' hv => ?_); obtain ⟨rfl, rfl, rfl⟩ := hv
    exact ⟨[], _, MT, .nil, fun _ _ _ => trivial, rfl, rfl, rfl⟩
  have hch := hd.right he
  have hsm := hd.small
  refine vcLoadN_0 (xs := pC As r.1) (Ent.gnO (by first | ((repeat (first | exact .here | apply Take.there)); done) | exact .none_) (fun w hw => Ob.row_at hw)) (pC_len hok hA) ?_
  refine vcCall_of .nil (copied_spec As r.1 _ hok hA (Ent.gnN (by repeat first | exact hm | exact Ent.andR hm | refine Ent.andL ?_)) hsm) (fun v own' N0 hv => ?_)
  obtain ⟨As1, rfl, rfl, hm1, hA1⟩ := hv
  refine vcCall_of .nil (encode_spec As1 r.1 server _ hok hA1 (Ent.gnN (by repeat first | exact hm1 | exact Ent.andR hm1 | refine Ent.andL ?_))) (fun v own' N' hv => ?_)
  obtain ⟨Ae, ce, rfl, rfl, rfl⟩ := hv
  have hen : encodeP r.1 server = (encN r.1 17, 0) := if_pos hch
  rw [hen]
  have hel := encN_len hch 17 (Nat.le_refl _)
  refine vcCall_of .nil (decode_spec Ae ce (encN r.1 17) server _ (Ent.gnO (by first | ((repeat (first | exact .here | apply Take.there)); done) | exact .none_) (fun w hw => Ob.sl_at hw)) (by omega)) (fun v own' N1 hv => ?_)
  obtain ⟨Bs', r', rfl, rfl, hm', hB, hok', hd'⟩ := hv
  obtain ⟨q, hq, hsame⟩ := back hch (X := []) (.inl rfl)
  rw [List.append_nil] at hq
  obtain rfl := hd'.unique hq
  intro b11
  refine ⟨(pC_len hok' hB).trans (by rfl), vcStoreN_row (xs := pC nilAs zeroP) (m := 20) _ .here (by exact pC_len hok' hB) (pC_one _ _) ?_⟩
  refine vcDraw_mix [0,1,2,3,4,5,6,7,9,8,10,11,12,13,14,16,15,17,18,19,20,21,22,23] (MpAnd (RowAt (some ⟨b6, 0, none⟩) (pC As r.1)) (RowAt (some ⟨b11, 0, none⟩) (pC Bs' q))) (by kernel_rfl) (Ent.both (Ent.gnO (by first | ((repeat (first | exact .here | apply Take.there)); done) | exact .none_) (fun w hw => Ob.row_at hw)) (Ent.gnO (by first | ((repeat (first | exact .here | apply Take.there)); done) | exact .none_) (fun w hw => Ob.row_at hw))) ?_
  have keep : ∀ {G N : Mp} {own : List Ob}, (∃ r', Take (.row b6 25 (pC As r.1) 20) own r') → (∃ r', Take (.row b11 25 (pC Bs' q) 20) own r') → Ent (GN G own N) (MpAnd (RowAt (some ⟨b6, 0, none⟩) (pC As r.1)) (RowAt (some ⟨b11, 0, none⟩) (pC Bs' q))) :=
    fun ⟨_, t1⟩ ⟨_, t2⟩ => Ent.both (Ent.gnO t1 (fun w hw => Ob.row_at hw)) (Ent.gnO t2 (fun w hw => Ob.row_at hw))
  refine vcLoadN_0 (xs := pC As r.1) (fun _ h => h.1) (pC_len hok hA) ?_
  refine vcCall_of .nil (copied_spec As r.1 _ hok hA (Ent.gnN (by repeat first | exact hm | exact Ent.andR hm | refine Ent.andL ?_)) hsm) (fun v own' N2 hv => ?_)
  obtain ⟨As2, rfl, rfl, hm2, hA2⟩ := hv
  refine vcMix_same (keep ⟨_, (by first | ((repeat (first | exact .here | apply Take.there)); done) | exact .none_)⟩ ⟨_, (by first | ((repeat (first | exact .here | apply Take.there)); done) | exact .none_)⟩) ?_
  refine vcCall_of .nil (check_spec As2 r.1 server _ hok hA2) (fun v own' N' hv => ?_); obtain ⟨rfl, rfl, rfl⟩ := hv
  refine vcMix_same (keep ⟨_, (by first | ((repeat (first | exact .here | apply Take.there)); done) | exact .none_)⟩ ⟨_, (by first | ((repeat (first | exact .here | apply Take.there)); done) | exact .none_)⟩) ?_
  refine vcIf_yes (show checkP r.1 server = 0 from if_pos hch) ?_
  refine vcLoadN_0 (xs := pC As r.1) (fun _ h => h.1) (pC_len hok hA) ?_
  refine vcLoadN_0 (xs := pC Bs' q) (fun _ h => h.2) (pC_len hok' hB) ?_
  refine vcCall_of .nil (of_spec As r.1 _ hok hA) (fun v own' N' hv => ?_); obtain ⟨rfl, rfl, rfl⟩ := hv
  refine vcMix_same (keep ⟨_, (by first | ((repeat (first | exact .here | apply Take.there)); done) | exact .none_)⟩ ⟨_, (by first | ((repeat (first | exact .here | apply Take.there)); done) | exact .none_)⟩) ?_
  refine vcCall_of .nil (of_spec Bs' q _ hok' hB) (fun v own' N' hv => ?_); obtain ⟨rfl, rfl, rfl⟩ := hv
  refine vcMix_same (keep ⟨_, (by first | ((repeat (first | exact .here | apply Take.there)); done) | exact .none_)⟩ ⟨_, (by first | ((repeat (first | exact .here | apply Take.there)); done) | exact .none_)⟩) ?_
  refine vcCall_of .nil (samep_spec As Bs' r.1 q _ hok hok' hA hB (Ent.gnN (by repeat first | exact hm | exact Ent.andR hm | refine Ent.andL ?_)) (Ent.gnN (by repeat first | exact hm' | exact Ent.andR hm' | refine Ent.andL ?_)) hsm) (fun v own' N' hv => ?_)
  obtain ⟨rfl, rfl, rfl⟩ := hv
  rw [sameP_comm hsame]
  refine vcMix_same (keep ⟨_, (by first | ((repeat (first | exact .here | apply Take.there)); done) | exact .none_)⟩ ⟨_, (by first | ((repeat (first | exact .here | apply Take.there)); done) | exact .none_)⟩) ?_
  refine vcCall_of .nil (awake9_spec _) (fun v own' N' hv => ?_); obtain ⟨rfl, rfl, rfl⟩ := hv
  refine vcMix_same (keep ⟨_, (by first | ((repeat (first | exact .here | apply Take.there)); done) | exact .none_)⟩ ⟨_, (by first | ((repeat (first | exact .here | apply Take.there)); done) | exact .none_)⟩) ?_
  exact ⟨[], _, MT, .nil, fun _ _ _ => trivial, rfl, rfl, rfl⟩

def toldC (As : List SlA) (p : Pm) (server : Bool) (id : Int) (V : Option Addr) (cv n : Nat) : List Value := pC As p ++ [Value.bool server, Value.int .i64 id, Value.slice V n cv]
theorem toldC_one (As : List SlA) (p : Pm) (server : Bool) (id : Int) (V : Option Addr) (cv n : Nat) : ∀ v ∈ toldC As p server id V cv n, oneCell v = true := by
  intro v hv
  rcases List.mem_append.1 hv with hv | hv
  · exact pC_one As p v hv
  · simp only [List.mem_cons, List.not_mem_nil, or_false] at hv
    rcases hv with rfl | rfl | rfl <;> rfl
theorem toldC_len {As : List SlA} {p : Pm} (hp : p.Ok) (hA : As.length = 4) (server : Bool) (id : Int) (V : Option Addr) (cv n : Nat) : (toldC As p server id V cv n).length = 23 := by
  unfold toldC
  rw [List.length_append, pC_len hp hA]; rfl
theorem toldC_at {As : List SlA} {p : Pm} (hp : p.Ok) (hA : As.length = 4) (server : Bool) (id : Int) (V : Option Addr) (cv n j : Nat) : (toldC As p server id V cv n)[20 + j]? = [Value.bool server, Value.int .i64 id, Value.slice V n cv][j]? := by
  unfold toldC
  rw [List.getElem?_append_right (by rw [pC_len hp hA]; omega), pC_len hp hA, Nat.add_sub_cancel_left]
attribute [local irreducible] Nat.sub
theorem backs_spec (As : List SlA) (p : Pm) (server : Bool) (id : Int) (V : Option Addr) (cv : Nat) (val : List UInt8) (G : Mp) (hp : p.Ok) (hA : As.length = 4) (h1 : Ent G (PmAt As p)) (hs : Small p) (h2 : Ent G (RowAt V (Bs val))) :
    Spec Try.prog 6 #[.agg (toldC As p server id V cv val.length).toArray] [] G (Ret (.bool true)) := by
  refine Spec.introC (args := [_]) wide Try.func6 rfl Try.call6 (by rfl) (by rfl) [7] (fun w0 hw0 => ?_)
  have fin : ∀ (b : Bool) (own : List Ob) (N : Mp), b = true → ∃ (own' rest : List Ob) (N' : Mp), Pick own' own rest ∧ (∀ w, N w → Objs rest w → N' w) ∧ Ret (.bool true) (.bool b) own' N' := fun b own N h => ⟨[], own, MT, .nil, fun _ _ _ => trivial, by rw [h], rfl, rfl⟩
  intro b1
  have hl := toldC_len hp hA server id V cv val.length
  refine vcDraw_mix [0,1,2,3,4,5,6,7,8,9,10,11,12] (RowAt (some ⟨b1, 0, none⟩) (toldC As p server id V cv val.length)) (by kernel_rfl) (Ent.gnO (by first | ((repeat (first | exact .here | apply Take.there)); done) | exact .none_) (fun w hw => Ob.row_at hw)) ?_
  refine vcLoadN_1 (xs := toldC As p server id V cv val.length) (pC As p) Ent.refl (pC_len hp hA) (by
    show ((toldC As p server id V cv val.length).drop 0).take 20 = _
    unfold toldC
    rw [List.drop_zero, ← pC_len hp hA, List.take_left]) ?_
  refine vcLoad1_row (j := 20 + 0) Ent.refl (toldC_at hp hA _ _ _ _ _ 0) ?_
  refine vcLoad1_row (j := 20 + 1) Ent.refl (toldC_at hp hA _ _ _ _ _ 1) ?_
  refine vcLoad1_row (j := 20 + 2) Ent.refl (toldC_at hp hA _ _ _ _ _ 2) ?_
  intro b3
  refine vcMix_same (Ent.gnO (by first | ((repeat (first | exact .here | apply Take.there)); done) | exact .none_) (fun w hw => Ob.row_at hw)) ?_
  refine ⟨(pC_len hp hA).trans (by rfl), vcStoreN_row (xs := pC nilAs zeroP) (m := 20) _ .here (by exact pC_len hp hA) (pC_one _ _) ?_⟩
  refine vcMix_same (Ent.gnO (by first | ((repeat (first | exact .here | apply Take.there)); done) | exact .none_) (fun w hw => Ob.row_at hw)) ?_
  refine vcLoadN_0 (xs := pC As p) (Ent.gnO (by first | ((repeat (first | exact .here | apply Take.there)); done) | exact .none_) (fun w hw => Ob.row_at hw)) (pC_len hp hA) ?_
  refine vcCall_of .nil (copied_spec As p _ hp hA (Ent.gnG h1) hs) (fun v own' N0 hv => ?_)
  obtain ⟨As1, rfl, rfl, hm1, hA1⟩ := hv
  refine vcCall_of .nil (encode_spec As1 p server _ hp hA1 (Ent.gnN (by repeat first | exact hm1 | exact Ent.andR hm1 | refine Ent.andL ?_))) (fun v own' N' hv => ?_)
  obtain ⟨Ae, ce, rfl, rfl, rfl⟩ := hv
  by_cases hch : checkN p server 17 = true
  · have hen : encodeP p server = (encN p 17, 0) := if_pos hch
    rw [hen]
    have hel := encN_len hch 17 (Nat.le_refl _)
    refine vcCut_of (fun g : Nat × Option Addr × Nat × List UInt8 => [(3, .pointer (some ⟨g.1, 0, none⟩)), (4, .bool server), (7, .slice g.2.1 (encN p 17 ++ g.2.2.2).length g.2.2.1)])
      (fun g => [.row g.1 25 (pC As p) 20, .sl g.2.1 g.2.2.1 5 1 (Bs (encN p 17 ++ g.2.2.2))]) (fun _ => MT)
      (fun g => checkN p server 17 = true ∧ (g.2.2.2 = [] ∨ ∃ id v, g.2.2.2 = encI id v ∧ 16 < id ∧ hasForm id ∧ v.length < 8192)) ?_ ?_
    rotate_left
    · rintro ⟨b3, Ae, ce, X⟩ ⟨hch, hX⟩
      simp only at hX
      obtain ⟨q, hq, hsame⟩ := back hch hX
      have hbl : (encN p 17 ++ X).length ≤ 16384 := by
        rcases hq with ⟨_, h⟩ | ⟨h, _⟩
        · cases h
        · exact h
      refine vcCall_of .nil (decode_spec Ae ce (encN p 17 ++ X) server _ (Ent.gnO (by first | ((repeat (first | exact .here | apply Take.there)); done) | exact .none_) (fun w hw => Ob.sl_at hw)) (by omega)) (fun v own' N1 hv => ?_)
      obtain ⟨Bs', r', rfl, rfl, hm', hB, hok', hd'⟩ := hv
      obtain rfl := hd'.unique hq
      intro b9
      refine ⟨(pC_len hok' hB).trans (by rfl), vcStoreN_row (xs := pC nilAs zeroP) (m := 20) _ .here (by exact pC_len hok' hB) (pC_one _ _) ?_⟩
      refine vcDraw_mix [0,1,2,3,4,5,6,7,9,8,10,11,12,13,14,15,16] (MpAnd (RowAt (some ⟨b3, 0, none⟩) (pC As p)) (RowAt (some ⟨b9, 0, none⟩) (pC Bs' q))) (by kernel_rfl) (Ent.both (Ent.gnO (by first | ((repeat (first | exact .here | apply Take.there)); done) | exact .none_) (fun w hw => Ob.row_at hw)) (Ent.gnO (by first | ((repeat (first | exact .here | apply Take.there)); done) | exact .none_) (fun w hw => Ob.row_at hw))) ?_
      have keep : ∀ {G N : Mp} {own : List Ob}, (∃ r', Take (.row b3 25 (pC As p) 20) own r') → (∃ r', Take (.row b9 25 (pC Bs' q) 20) own r') → Ent (GN G own N) (MpAnd (RowAt (some ⟨b3, 0, none⟩) (pC As p)) (RowAt (some ⟨b9, 0, none⟩) (pC Bs' q))) :=
        fun ⟨_, t1⟩ ⟨_, t2⟩ => Ent.both (Ent.gnO t1 (fun w hw => Ob.row_at hw)) (Ent.gnO t2 (fun w hw => Ob.row_at hw))
      refine vcLoadN_0 (xs := pC Bs' q) (fun _ h => h.2) (pC_len hok' hB) ?_
      refine vcLoadN_0 (xs := pC As p) (fun _ h => h.1) (pC_len hp hA) ?_
      refine vcCall_of .nil (of_spec Bs' q _ hok' hB) (fun v own' N' hv => ?_); obtain ⟨rfl, rfl, rfl⟩ := hv
      refine vcMix_same (keep ⟨_, (by first | ((repeat (first | exact .here | apply Take.there)); done) | exact .none_)⟩ ⟨_, (by first | ((repeat (first | exact .here | apply Take.there)); done) | exact .none_)⟩) ?_
      refine vcCall_of .nil (of_spec As p _ hp hA) (fun v own' N' hv => ?_); obtain ⟨rfl, rfl, rfl⟩ := hv
      refine vcMix_same (keep ⟨_, (by first | ((repeat (first | exact .here | apply Take.there)); done) | exact .none_)⟩ ⟨_, (by first | ((repeat (first | exact .here | apply Take.there)); done) | exact .none_)⟩) ?_
      refine vcCall_of .nil (samep_spec Bs' As q p _ hok' hp hB hA (Ent.gnN (by repeat first | exact hm' | exact Ent.andR hm' | refine Ent.andL ?_)) (Ent.gnG h1) hq.small) (fun v own' N' hv => ?_)
      obtain ⟨rfl, rfl, rfl⟩ := hv
      rw [hsame]
      refine vcMix_same (keep ⟨_, (by first | ((repeat (first | exact .here | apply Take.there)); done) | exact .none_)⟩ ⟨_, (by first | ((repeat (first | exact .here | apply Take.there)); done) | exact .none_)⟩) ?_
      refine vcCall_of .nil (awake9_spec _) (fun v own' N' hv => ?_); obtain ⟨rfl, rfl, rfl⟩ := hv
      refine vcMix_same (keep ⟨_, (by first | ((repeat (first | exact .here | apply Take.there)); done) | exact .none_)⟩ ⟨_, (by first | ((repeat (first | exact .here | apply Take.there)); done) | exact .none_)⟩) ?_
      exact fin _ _ _ rfl
    refine vcIf_dec (fun hid => ?_) (fun hid => ?_)
    · refine vcIf_dec (fun hid2 => ?_) (fun hid2 => ?_)
      · refine vcIf_dec (fun hvl => ?_) (fun hvl => ?_)
        · have hf : hasForm id := ⟨by omega, by omega⟩
          have s1 := vsize_le id
          have s2 := vsize_le (val.length : Int)
          rw [← vput_length] at s1 s2
          refine vcCall_of .nil (rput_spec id _) (fun v own' N' hv => ?_)
          obtain ⟨A1, c1, rfl, rfl, rfl, hc1⟩ := hv
          refine vcCall_of .nil (rput_spec val.length _) (fun v own' N' hv => ?_)
          obtain ⟨A2, c2, rfl, rfl, rfl, hc2⟩ := hv
          intro bx
          have hpc : pieces [(Ae, ce, encN p 17), (A1, c1, vput id), (A2, c2, vput val.length), (V, cv, val)] = encN p 17 ++ encI id val := by simp [pieces, encI]
          refine vcCall_of .nil (join_spec (some ⟨bx, 0, none⟩) 4 [(Ae, ce, encN p 17), (A1, c1, vput id), (A2, c2, vput val.length), (V, cv, val)] _ (Ent.gnO .here (fun w hw => Ob.sl_at hw)) (fun q hq => by
            simp only [List.mem_cons, List.not_mem_nil, or_false] at hq
            rcases hq with rfl | rfl | rfl | rfl
            · exact Ent.gnO (by first | ((repeat (first | exact .here | apply Take.there)); done) | exact .none_) (fun w hw => Ob.sl_at hw)
            · exact Ent.gnO (by first | ((repeat (first | exact .here | apply Take.there)); done) | exact .none_) (fun w hw => Ob.sl_at hw)
            · exact Ent.gnO (by first | ((repeat (first | exact .here | apply Take.there)); done) | exact .none_) (fun w hw => Ob.sl_at hw)
            · exact Ent.gnG h2) (by rw [hpc]; simp only [List.length_append, encI]; omega) (by simp)) (fun v own' N' hv => ?_)
          obtain ⟨A3, c3, rfl, rfl, rfl, hc3⟩ := hv
          rw [hpc]
          exact ⟨(b3, A3, c3, encI id val), ⟨hch, .inr ⟨id, val, rfl, hid, hf, by omega⟩⟩, ⟨rfl, rfl, rfl, trivial⟩, ⟨_, .cons (by first | ((repeat (first | exact .here | apply Take.there)); done) | exact .none_) (.cons (by first | ((repeat (first | exact .here | apply Take.there)); done) | exact .none_) .nil)⟩, fun _ _ => trivial⟩
        · exact ⟨(b3, Ae, ce, []), ⟨hch, .inl rfl⟩, ⟨rfl, rfl, by rw [List.append_nil]; rfl, trivial⟩, ⟨_, by rw [List.append_nil]; exact .cons (by first | ((repeat (first | exact .here | apply Take.there)); done) | exact .none_) (.cons (by first | ((repeat (first | exact .here | apply Take.there)); done) | exact .none_) .nil)⟩, fun _ _ => trivial⟩
      · exact ⟨(b3, Ae, ce, []), ⟨hch, .inl rfl⟩, ⟨rfl, rfl, by rw [List.append_nil]; rfl, trivial⟩, ⟨_, by rw [List.append_nil]; exact .cons (by first | ((repeat (first | exact .here | apply Take.there)); done) | exact .none_) (.cons (by first | ((repeat (first | exact .here | apply Take.there)); done) | exact .none_) .nil)⟩, fun _ _ => trivial⟩
    · exact ⟨(b3, Ae, ce, []), ⟨hch, .inl rfl⟩, ⟨rfl, rfl, by rw [List.append_nil]; rfl, trivial⟩, ⟨_, by rw [List.append_nil]; exact .cons (by first | ((repeat (first | exact .here | apply Take.there)); done) | exact .none_) (.cons (by first | ((repeat (first | exact .here | apply Take.there)); done) | exact .none_) .nil)⟩, fun _ _ => trivial⟩
  · have hen : encodeP p server = ([], 91) := if_neg hch
    rw [hen]
    refine vcLoadN_0 (xs := pC As p) (Ent.gnO (by first | ((repeat (first | exact .here | apply Take.there)); done) | exact .none_) (fun w hw => Ob.row_at hw)) (pC_len hp hA) ?_
    refine vcCall_of .nil (copied_spec As p _ hp hA (Ent.gnG h1) hs) (fun v own' N2 hv => ?_)
    obtain ⟨As2, rfl, rfl, hm2, hA2⟩ := hv
    refine vcCall_of .nil (check_spec As2 p server _ hp hA2) (fun v own' N' hv => ?_); obtain ⟨rfl, rfl, rfl⟩ := hv
    refine vcIf_nyes (show checkP p server ≠ 0 by unfold checkP; rw [if_neg hch]; decide) ?_
    refine vcCall_of .nil (awake9_spec _) (fun v own' N' hv => ?_); obtain ⟨rfl, rfl, rfl⟩ := hv
    exact fin _ _ _ rfl
end Go.Proofs.Ytaknehiifafhfaa
