/- Headers: HeaderBack, the walk. -/
import Derived.Test.YtlobimomeeppeaaHdrW
namespace Go.Proofs.Ytlobimomeeppeaa
open Go.Proofs
set_option maxRecDepth 10000

theorem and3 : ∀ x, x < 256 → bitI .and .u8 ((x : Nat) : Int) 3 = ((x % 4 : Nat) : Int) := by decide +kernel
theorem byteI_small (e : Int) (h0 : 0 ≤ e) (h1 : e < 256) : ((byteI e).toNat : Int) = e := by
  obtain ⟨n, rfl⟩ := Int.eq_ofNat_of_zero_le h0
  rw [byteI_nat, ofNat_toNat _ (by omega)]
  omega
set_option maxHeartbeats 4000000 in
theorem back_spec (h : HdrI) (d s t v : Pl) (w : Int) (A : Option Addr) (c : Nat) (rest : List UInt8) (G : Mp) (hm : HdrIM h d s t v G) (hl : HdrIB h) (h1 : Ent G (RowAt A (Bs rest))) (hr : rest.length ≤ 140737488351232) :
    Spec Try.prog 9 #[.agg (hdrIC h d s t v).toArray, .int .i64 w, .slice A rest.length c] [] G (Ret (.bool true)) := by
  obtain ⟨hl1, hl2, hl3, hl4⟩ := hl
  refine Spec.introC (args := [_, _, _]) wide Try.func9 rfl Try.call9 (by rfl) (by rfl) [6, 7] (fun w0 hw0 => ?_)
  intro b3
  refine vcLoadN_0 (xs := hdrIC h d s t v) (by first | exact Ent.gnO (by repeat first | exact .here | apply Take.there) (fun w hw => Ob.sl_at hw) | exact Ent.gnO (by repeat first | exact .here | apply Take.there) (fun w hw => Ob.row_at hw)) rfl ?_
  refine vcCall_of .nil (copied_spec h d s t v _ (hm.of (Ent.gnG Ent.refl)) ⟨hl1, hl2, hl3, hl4⟩) (fun v' own' N1 hv => ?_)
  obtain ⟨d', s', t', v', rfl, rfl, hm1⟩ := hv
  refine vcCall_of .nil (build_spec h d' s' t' v' w _ (hm1.of (Ent.gnN (by repeat first | exact Ent.refl | exact Ent.andR Ent.refl | refine Ent.andL ?_)))) (fun v'' own' N2 hv => ?_)
  obtain ⟨A1, c1, rfl, rfl, hr1, hc1⟩ := hv
  have hblen := buildI_len (h := h) w
  by_cases hr0 : rightI h w = 0
  rotate_left
  · have hB : buildI h w = ([], rightI h w) := if_pos hr0
    rw [hB]
    refine vcIf_nyes hr0 ?_
    refine vcCall_of .nil (hawake_spec _) (fun v' own' N' hv => ?_)
    obtain ⟨rfl, rfl, rfl⟩ := hv
    exact ⟨[], _, MT, .nil, fun _ _ _ => trivial, rfl, rfl, rfl⟩
  have hB2 : (buildI h w).2 = 0 := by unfold buildI; rw [if_neg (by simpa using hr0)]
  rw [hB2]
  refine vcCut_of (fun _ : Unit => [(1, .int .i64 w), (2, .slice A rest.length c), (3, .pointer (some ⟨b3, 0, none⟩)), (7, .slice A1 (buildI h w).1.length c1)]) (fun _ => [.row b3 26 (hdrIC h d s t v) 7]) (fun _ => RowAt A1 (Bs (buildI h w).1)) (fun _ => h.kind ≠ 6 → h.len ≤ rest.length) ?_ ?_
  · refine vcLoad1_row (j := 0) (v := .int .i64 h.kind) ((by first | exact Ent.gnO (by repeat first | exact .here | apply Take.there) (fun w hw => Ob.sl_at hw) | exact Ent.gnO (by repeat first | exact .here | apply Take.there) (fun w hw => Ob.row_at hw)) : Ent _ (RowAt (some ⟨b3, 0, none⟩) (hdrIC h d s t v))) rfl ?_
    refine vcIf_ndec (fun g6 => ?_) (fun g6 => ?_)
    · repeat (first | refine vcIf_yes (by rfl) ?_ | refine vcIf_no (by rfl) ?_)
      refine vcLoad1_row (j := 6) (v := .int .i64 h.len) ((by first | exact Ent.gnO (by repeat first | exact .here | apply Take.there) (fun w hw => Ob.sl_at hw) | exact Ent.gnO (by repeat first | exact .here | apply Take.there) (fun w hw => Ob.row_at hw)) : Ent _ (RowAt (some ⟨b3, 0, none⟩) (hdrIC h d s t v))) rfl ?_
      repeat (first | refine vcIf_yes (by rfl) ?_ | refine vcIf_no (by rfl) ?_)
      refine vcIf_dec (fun glt => ?_) (fun glt => ?_)
      · repeat (first | refine vcIf_yes (by rfl) ?_ | refine vcIf_no (by rfl) ?_)
        refine vcCall_of .nil (hawake_spec _) (fun v' own' N' hv => ?_)
        obtain ⟨rfl, rfl, rfl⟩ := hv
        exact ⟨[], _, MT, .nil, fun _ _ _ => trivial, rfl, rfl, rfl⟩
      · repeat (first | refine vcIf_yes (by rfl) ?_ | refine vcIf_no (by rfl) ?_)
        exact ⟨(), fun _ => by omega, ⟨rfl, rfl, rfl, rfl, trivial⟩, ⟨_, .cons (by first | ((repeat (first | exact .here | apply Take.there)); done) | exact .none_) .nil⟩, by repeat first | exact Ent.andR hr1 | refine Ent.andL ?_⟩
    · repeat (first | refine vcIf_yes (by rfl) ?_ | refine vcIf_no (by rfl) ?_)
      exact ⟨(), fun g => absurd g6 g, ⟨rfl, rfl, rfl, rfl, trivial⟩, ⟨_, .cons (by first | ((repeat (first | exact .here | apply Take.there)); done) | exact .none_) .nil⟩, by repeat first | exact Ent.andR hr1 | refine Ent.andL ?_⟩
  intro _ hlen
  obtain ⟨g, en, hk⟩ := back_is hr0 rest hlen
  have hT := parseT_ok hk.parse
  have htl := hk.tl
  have hsl := hk.sl
  have hdl := (right_ok hr0).dl
  refine vcCut_of (fun x : Nat × Pl × Pl × Pl × Pl => [(1, .int .i64 w), (2, .slice A rest.length c), (3, .pointer (some ⟨b3, 0, none⟩)), (7, .slice A1 (buildI h w).1.length c1), (9, .pointer (some ⟨x.1, 0, none⟩)), (10, .int .i64 (buildI h w).1.length), (11, .int .i64 en), (12, .int .i64 0)])
    (fun x => [.row b3 26 (hdrIC h d s t v) 7, hdrO x.1 (hdrOf g x.2.1 x.2.2.1 x.2.2.2.1 x.2.2.2.2)]) (fun x => MpAnd (RowAt A1 (Bs (buildI h w).1)) (MpAnd (RowAt x.2.1.1 (Bs g.dst)) (MpAnd (RowAt x.2.2.1.1 (Bs g.src)) (RowAt x.2.2.2.1.1 (Bs g.tok))))) (fun _ => True) ?_ ?_
  · refine vcDraw_fork (.one 0 (.one 1 (.one 4 (.one 5 (.one 6 (.alt 2 (.alt 3 (.alt 7 (.one 8 (.one 9 (.one 10 (.one 11 (.one 12 (.one 13 (.one 14 (.one 15 (.one 16 (.one 17 .nil)))))))))) (.one 13 (.one 7 (.one 8 (.one 9 (.one 10 (.one 11 (.one 12 (.one 14 (.one 15 (.one 16 (.one 17 .nil)))))))))))) (.one 13 (.one 3 (.one 7 (.one 8 (.one 9 (.one 10 (.one 11 (.one 12 (.one 14 (.one 15 (.one 16 (.one 17 .nil))))))))))))) (.one 13 (.one 2 (.one 3 (.one 7 (.one 8 (.one 9 (.one 10 (.one 11 (.one 12 (.one 14 (.one 15 (.one 16 (.one 17 .nil))))))))))))))))))) (RowAt (some ⟨b3, 0, none⟩) (hdrIC h d s t v)) (by kernel_rfl) (by first | exact Ent.gnO (by repeat first | exact .here | apply Take.there) (fun w hw => Ob.sl_at hw) | exact Ent.gnO (by repeat first | exact .here | apply Take.there) (fun w hw => Ob.row_at hw)) ?_
    refine vcLoad1_row (j := 2) (v := .slice d.1 h.dst.length d.2) Ent.refl rfl ?_
    have ej : pieces [(A1, c1, (buildI h w).1), (A, c, rest)] = (buildI h w).1 ++ rest := by simp [pieces]
    have ejl : ((buildI h w).1 ++ rest).length = (buildI h w).1.length + rest.length := List.length_append
    (exact And.intro (by (intro bj; refine vcMix_same (by first | exact Ent.gnO (by repeat first | exact .here | apply Take.there) (fun w hw => Ob.sl_at hw) | exact Ent.gnO (by repeat first | exact .here | apply Take.there) (fun w hw => Ob.row_at hw)) ?_; exact And.intro (by (refine vcCall_of .nil (ej ▸ join_spec (some ⟨bj, 0, none⟩) 2 [(A1, c1, (buildI h w).1), (A, c, rest)] _ (by first | exact Ent.gnO (by repeat first | exact .here | apply Take.there) (fun w hw => Ob.sl_at hw) | exact Ent.gnO (by repeat first | exact .here | apply Take.there) (fun w hw => Ob.row_at hw)) (fun p hp => by rcases List.mem_cons.1 hp with rfl | hp; (exact (Ent.gnN (by repeat first | exact Ent.refl | exact Ent.andR Ent.refl | refine Ent.andL ?_))); (obtain rfl := List.mem_singleton.1 hp; exact Ent.gnG h1)) (by rw [ej]; omega) (by simp)) (fun v' own' N' hv => ?_); obtain ⟨Aj, cj, rfl, rfl, rfl, hcj⟩ := hv; refine vcMix_same (by first | exact Ent.gnO (by repeat first | exact .here | apply Take.there) (fun w hw => Ob.sl_at hw) | exact Ent.gnO (by repeat first | exact .here | apply Take.there) (fun w hw => Ob.row_at hw)) ?_; exact And.intro (by (refine vcCall_of .nil (parse_spec Aj cj ((buildI h w).1 ++ rest) h.dst.length _ (by first | exact Ent.gnO (by repeat first | exact .here | apply Take.there) (fun w hw => Ob.sl_at hw) | exact Ent.gnO (by repeat first | exact .here | apply Take.there) (fun w hw => Ob.row_at hw)) (by omega) (.inr hk.size)) (fun v' own' N3 hv => ?_); rw [hT] at hv; obtain ⟨d2, s2, t2, v2, rfl, rfl, hm2⟩ := hv; refine vcMix_same (by first | exact Ent.gnO (by repeat first | exact .here | apply Take.there) (fun w hw => Ob.sl_at hw) | exact Ent.gnO (by repeat first | exact .here | apply Take.there) (fun w hw => Ob.row_at hw)) ?_; intro b9; refine vcMix_same (by first | exact Ent.gnO (by repeat first | exact .here | apply Take.there) (fun w hw => Ob.sl_at hw) | exact Ent.gnO (by repeat first | exact .here | apply Take.there) (fun w hw => Ob.row_at hw)) ?_; refine ⟨rfl, vcStoreN_row _ (by first | ((repeat (first | exact .here | apply Take.there)); done) | exact .none_) (by rfl) (by simp [oneCell, cellsL, hdrOf, hdrC]) ?_⟩; refine vcMix_same (by first | exact Ent.gnO (by repeat first | exact .here | apply Take.there) (fun w hw => Ob.sl_at hw) | exact Ent.gnO (by repeat first | exact .here | apply Take.there) (fun w hw => Ob.row_at hw)) ?_; exact ⟨(b9, d2, s2, t2, v2), trivial, ⟨rfl, rfl, rfl, rfl, rfl, rfl, rfl, rfl, trivial⟩, ⟨_, .cons (by first | ((repeat (first | exact .here | apply Take.there)); done) | exact .none_) (.cons (by first | ((repeat (first | exact .here | apply Take.there)); done) | exact .none_) .nil)⟩, fun w hw => ⟨(by repeat first | exact Ent.refl | refine Ent.andL ?_ : Ent _ (RowAt A1 (Bs (buildI h _).1))) w hw, (by repeat first | exact Ent.andR hm2.dst | refine Ent.andL ?_ : Ent _ (RowAt d2.1 (Bs g.dst))) w hw, (by repeat first | exact Ent.andR hm2.src | refine Ent.andL ?_ : Ent _ (RowAt s2.1 (Bs g.src))) w hw, (by repeat first | exact Ent.andR hm2.tok | refine Ent.andL ?_ : Ent _ (RowAt t2.1 (Bs g.tok))) w hw⟩⟩)) (by (intro b9; refine vcMix_same (by first | exact Ent.gnO (by repeat first | exact .here | apply Take.there) (fun w hw => Ob.sl_at hw) | exact Ent.gnO (by repeat first | exact .here | apply Take.there) (fun w hw => Ob.row_at hw)) ?_; refine vcCall_of .nil (parse_spec Aj cj ((buildI h w).1 ++ rest) h.dst.length _ (by first | exact Ent.gnO (by repeat first | exact .here | apply Take.there) (fun w hw => Ob.sl_at hw) | exact Ent.gnO (by repeat first | exact .here | apply Take.there) (fun w hw => Ob.row_at hw)) (by omega) (.inr hk.size)) (fun v' own' N3 hv => ?_); rw [hT] at hv; obtain ⟨d2, s2, t2, v2, rfl, rfl, hm2⟩ := hv; refine vcMix_same (by first | exact Ent.gnO (by repeat first | exact .here | apply Take.there) (fun w hw => Ob.sl_at hw) | exact Ent.gnO (by repeat first | exact .here | apply Take.there) (fun w hw => Ob.row_at hw)) ?_; refine ⟨rfl, vcStoreN_row _ (by first | ((repeat (first | exact .here | apply Take.there)); done) | exact .none_) (by rfl) (by simp [oneCell, cellsL, hdrOf, hdrC]) ?_⟩; refine vcMix_same (by first | exact Ent.gnO (by repeat first | exact .here | apply Take.there) (fun w hw => Ob.sl_at hw) | exact Ent.gnO (by repeat first | exact .here | apply Take.there) (fun w hw => Ob.row_at hw)) ?_; exact ⟨(b9, d2, s2, t2, v2), trivial, ⟨rfl, rfl, rfl, rfl, rfl, rfl, rfl, rfl, trivial⟩, ⟨_, .cons (by first | ((repeat (first | exact .here | apply Take.there)); done) | exact .none_) (.cons (by first | ((repeat (first | exact .here | apply Take.there)); done) | exact .none_) .nil)⟩, fun w hw => ⟨(by repeat first | exact Ent.refl | refine Ent.andL ?_ : Ent _ (RowAt A1 (Bs (buildI h _).1))) w hw, (by repeat first | exact Ent.andR hm2.dst | refine Ent.andL ?_ : Ent _ (RowAt d2.1 (Bs g.dst))) w hw, (by repeat first | exact Ent.andR hm2.src | refine Ent.andL ?_ : Ent _ (RowAt s2.1 (Bs g.src))) w hw, (by repeat first | exact Ent.andR hm2.tok | refine Ent.andL ?_ : Ent _ (RowAt t2.1 (Bs g.tok))) w hw⟩⟩)))) (by (intro b9; refine vcMix_same (by first | exact Ent.gnO (by repeat first | exact .here | apply Take.there) (fun w hw => Ob.sl_at hw) | exact Ent.gnO (by repeat first | exact .here | apply Take.there) (fun w hw => Ob.row_at hw)) ?_; refine vcCall_of .nil (ej ▸ join_spec (some ⟨bj, 0, none⟩) 2 [(A1, c1, (buildI h w).1), (A, c, rest)] _ (by first | exact Ent.gnO (by repeat first | exact .here | apply Take.there) (fun w hw => Ob.sl_at hw) | exact Ent.gnO (by repeat first | exact .here | apply Take.there) (fun w hw => Ob.row_at hw)) (fun p hp => by rcases List.mem_cons.1 hp with rfl | hp; (exact (Ent.gnN (by repeat first | exact Ent.refl | exact Ent.andR Ent.refl | refine Ent.andL ?_))); (obtain rfl := List.mem_singleton.1 hp; exact Ent.gnG h1)) (by rw [ej]; omega) (by simp)) (fun v' own' N' hv => ?_); obtain ⟨Aj, cj, rfl, rfl, rfl, hcj⟩ := hv; refine vcMix_same (by first | exact Ent.gnO (by repeat first | exact .here | apply Take.there) (fun w hw => Ob.sl_at hw) | exact Ent.gnO (by repeat first | exact .here | apply Take.there) (fun w hw => Ob.row_at hw)) ?_; refine vcCall_of .nil (parse_spec Aj cj ((buildI h w).1 ++ rest) h.dst.length _ (by first | exact Ent.gnO (by repeat first | exact .here | apply Take.there) (fun w hw => Ob.sl_at hw) | exact Ent.gnO (by repeat first | exact .here | apply Take.there) (fun w hw => Ob.row_at hw)) (by omega) (.inr hk.size)) (fun v' own' N3 hv => ?_); rw [hT] at hv; obtain ⟨d2, s2, t2, v2, rfl, rfl, hm2⟩ := hv; refine vcMix_same (by first | exact Ent.gnO (by repeat first | exact .here | apply Take.there) (fun w hw => Ob.sl_at hw) | exact Ent.gnO (by repeat first | exact .here | apply Take.there) (fun w hw => Ob.row_at hw)) ?_; refine ⟨rfl, vcStoreN_row _ (by first | ((repeat (first | exact .here | apply Take.there)); done) | exact .none_) (by rfl) (by simp [oneCell, cellsL, hdrOf, hdrC]) ?_⟩; refine vcMix_same (by first | exact Ent.gnO (by repeat first | exact .here | apply Take.there) (fun w hw => Ob.sl_at hw) | exact Ent.gnO (by repeat first | exact .here | apply Take.there) (fun w hw => Ob.row_at hw)) ?_; exact ⟨(b9, d2, s2, t2, v2), trivial, ⟨rfl, rfl, rfl, rfl, rfl, rfl, rfl, rfl, trivial⟩, ⟨_, .cons (by first | ((repeat (first | exact .here | apply Take.there)); done) | exact .none_) (.cons (by first | ((repeat (first | exact .here | apply Take.there)); done) | exact .none_) .nil)⟩, fun w hw => ⟨(by repeat first | exact Ent.refl | refine Ent.andL ?_ : Ent _ (RowAt A1 (Bs (buildI h _).1))) w hw, (by repeat first | exact Ent.andR hm2.dst | refine Ent.andL ?_ : Ent _ (RowAt d2.1 (Bs g.dst))) w hw, (by repeat first | exact Ent.andR hm2.src | refine Ent.andL ?_ : Ent _ (RowAt s2.1 (Bs g.src))) w hw, (by repeat first | exact Ent.andR hm2.tok | refine Ent.andL ?_ : Ent _ (RowAt t2.1 (Bs g.tok))) w hw⟩⟩)))) (by (intro b9; refine vcMix_same (by first | exact Ent.gnO (by repeat first | exact .here | apply Take.there) (fun w hw => Ob.sl_at hw) | exact Ent.gnO (by repeat first | exact .here | apply Take.there) (fun w hw => Ob.row_at hw)) ?_; intro bj; refine vcMix_same (by first | exact Ent.gnO (by repeat first | exact .here | apply Take.there) (fun w hw => Ob.sl_at hw) | exact Ent.gnO (by repeat first | exact .here | apply Take.there) (fun w hw => Ob.row_at hw)) ?_; refine vcCall_of .nil (ej ▸ join_spec (some ⟨bj, 0, none⟩) 2 [(A1, c1, (buildI h w).1), (A, c, rest)] _ (by first | exact Ent.gnO (by repeat first | exact .here | apply Take.there) (fun w hw => Ob.sl_at hw) | exact Ent.gnO (by repeat first | exact .here | apply Take.there) (fun w hw => Ob.row_at hw)) (fun p hp => by rcases List.mem_cons.1 hp with rfl | hp; (exact (Ent.gnN (by repeat first | exact Ent.refl | exact Ent.andR Ent.refl | refine Ent.andL ?_))); (obtain rfl := List.mem_singleton.1 hp; exact Ent.gnG h1)) (by rw [ej]; omega) (by simp)) (fun v' own' N' hv => ?_); obtain ⟨Aj, cj, rfl, rfl, rfl, hcj⟩ := hv; refine vcMix_same (by first | exact Ent.gnO (by repeat first | exact .here | apply Take.there) (fun w hw => Ob.sl_at hw) | exact Ent.gnO (by repeat first | exact .here | apply Take.there) (fun w hw => Ob.row_at hw)) ?_; refine vcCall_of .nil (parse_spec Aj cj ((buildI h w).1 ++ rest) h.dst.length _ (by first | exact Ent.gnO (by repeat first | exact .here | apply Take.there) (fun w hw => Ob.sl_at hw) | exact Ent.gnO (by repeat first | exact .here | apply Take.there) (fun w hw => Ob.row_at hw)) (by omega) (.inr hk.size)) (fun v' own' N3 hv => ?_); rw [hT] at hv; obtain ⟨d2, s2, t2, v2, rfl, rfl, hm2⟩ := hv; refine vcMix_same (by first | exact Ent.gnO (by repeat first | exact .here | apply Take.there) (fun w hw => Ob.sl_at hw) | exact Ent.gnO (by repeat first | exact .here | apply Take.there) (fun w hw => Ob.row_at hw)) ?_; refine ⟨rfl, vcStoreN_row _ (by first | ((repeat (first | exact .here | apply Take.there)); done) | exact .none_) (by rfl) (by simp [oneCell, cellsL, hdrOf, hdrC]) ?_⟩; refine vcMix_same (by first | exact Ent.gnO (by repeat first | exact .here | apply Take.there) (fun w hw => Ob.sl_at hw) | exact Ent.gnO (by repeat first | exact .here | apply Take.there) (fun w hw => Ob.row_at hw)) ?_; exact ⟨(b9, d2, s2, t2, v2), trivial, ⟨rfl, rfl, rfl, rfl, rfl, rfl, rfl, rfl, trivial⟩, ⟨_, .cons (by first | ((repeat (first | exact .here | apply Take.there)); done) | exact .none_) (.cons (by first | ((repeat (first | exact .here | apply Take.there)); done) | exact .none_) .nil)⟩, fun w hw => ⟨(by repeat first | exact Ent.refl | refine Ent.andL ?_ : Ent _ (RowAt A1 (Bs (buildI h _).1))) w hw, (by repeat first | exact Ent.andR hm2.dst | refine Ent.andL ?_ : Ent _ (RowAt d2.1 (Bs g.dst))) w hw, (by repeat first | exact Ent.andR hm2.src | refine Ent.andL ?_ : Ent _ (RowAt s2.1 (Bs g.src))) w hw, (by repeat first | exact Ent.andR hm2.tok | refine Ent.andL ?_ : Ent _ (RowAt t2.1 (Bs g.tok))) w hw⟩⟩)))
  · rintro ⟨b9, d2, s2, t2, v2⟩ _
    simp only
    obtain ⟨hw1, hw4, _, _⟩ := right_ok hr0
    obtain ⟨x0, r0, hb0, hx0⟩ := hk.first
    have hx := x0.toNat_lt
    have hF : ∀ w', (MpAnd (RowAt A1 (Bs (buildI h w).1)) (MpAnd (RowAt d2.1 (Bs g.dst)) (MpAnd (RowAt s2.1 (Bs g.src)) (RowAt t2.1 (Bs g.tok))))) w' → RowAt A1 (Bs (buildI h w).1) w' ∧ RowAt d2.1 (Bs h.dst) w' ∧ RowAt s2.1 (Bs g.src) w' ∧ RowAt t2.1 (Bs g.tok) w' := fun w' hw => ⟨hw.1, hk.dst ▸ hw.2.1, hw.2.2.1, hw.2.2.2⟩
    refine vcIf_nno rfl ?_
    repeat (first | refine vcIf_yes (by rfl) ?_ | refine vcIf_no (by rfl) ?_)
    refine vcLoad1_row (j := 0) (v := .int .i64 h.kind) ((by first | exact Ent.gnO (by repeat first | exact .here | apply Take.there) (fun w hw => Ob.sl_at hw) | exact Ent.gnO (by repeat first | exact .here | apply Take.there) (fun w hw => Ob.row_at hw)) : Ent _ (RowAt (some ⟨b9, 0, none⟩) (hdrOf g d2 s2 t2 v2))) (by show some (Value.int .i64 g.kind) = _; rw [hk.kind]) ?_
    repeat (first | refine vcIf_yes (by rfl) ?_ | refine vcIf_no (by rfl) ?_)
    refine vcLoad1_row (j := 0) (v := .int .i64 h.kind) ((by first | exact Ent.gnO (by repeat first | exact .here | apply Take.there) (fun w hw => Ob.sl_at hw) | exact Ent.gnO (by repeat first | exact .here | apply Take.there) (fun w hw => Ob.row_at hw)) : Ent _ (RowAt (some ⟨b3, 0, none⟩) (hdrIC h d s t v))) rfl ?_
    repeat (first | refine vcIf_yes (by rfl) ?_ | refine vcIf_no (by rfl) ?_)
    refine vcIf_nno rfl ?_
    repeat (first | refine vcIf_yes (by rfl) ?_ | refine vcIf_no (by rfl) ?_)
    refine vcLoad1_row (j := 2) (v := .slice d2.1 h.dst.length d2.2) ((by first | exact Ent.gnO (by repeat first | exact .here | apply Take.there) (fun w hw => Ob.sl_at hw) | exact Ent.gnO (by repeat first | exact .here | apply Take.there) (fun w hw => Ob.row_at hw)) : Ent _ (RowAt (some ⟨b9, 0, none⟩) (hdrOf g d2 s2 t2 v2))) (by show some (Value.slice d2.1 g.dst.length d2.2) = _; rw [hk.dst]) ?_
    repeat (first | refine vcIf_yes (by rfl) ?_ | refine vcIf_no (by rfl) ?_)
    refine vcLoad1_row (j := 2) (v := .slice d.1 h.dst.length d.2) ((by first | exact Ent.gnO (by repeat first | exact .here | apply Take.there) (fun w hw => Ob.sl_at hw) | exact Ent.gnO (by repeat first | exact .here | apply Take.there) (fun w hw => Ob.row_at hw)) : Ent _ (RowAt (some ⟨b3, 0, none⟩) (hdrIC h d s t v))) rfl ?_
    repeat (first | refine vcIf_yes (by rfl) ?_ | refine vcIf_no (by rfl) ?_)
    refine vcCall_of .nil (same_spec d2.1 d.1 d2.2 d.2 h.dst h.dst _ (Ent.gnN fun w' hw => (hF w' hw).2.1) (Ent.gnG hm.dst) (by omega)) (fun v' own' N' hv => ?_)
    rw [decide_eq_true (rfl : h.dst = h.dst)] at hv
    obtain ⟨rfl, rfl, rfl⟩ := hv
    repeat (first | refine vcIf_yes (by rfl) ?_ | refine vcIf_no (by rfl) ?_)
    refine vcIdx_nat (xs := Bs (buildI h w).1) 0 rfl (Ent.gnN fun w' hw => (hF w' hw.1).1) (by rw [hb0]; simp) (by rw [Bs_length]; exact Nat.le_refl _) (fun ax hax => ?_)
    subst hax
    repeat (first | refine vcIf_yes (by rfl) ?_ | refine vcIf_no (by rfl) ?_)
    refine vcLoad1_row (v := .int .u8 x0.toNat) (Ent.gnN fun w' hw => (hF w' hw.1).1) (by rw [hb0]; rfl) ?_
    repeat (first | refine vcIf_yes (by rfl) ?_ | refine vcIf_no (by rfl) ?_)
    refine vcBit_as _ (and3 _ hx) ?_
    repeat (first | refine vcIf_yes (by rfl) ?_ | refine vcIf_no (by rfl) ?_)
    refine vcFit_i64 (by omega) ?_
    repeat (first | refine vcIf_yes (by rfl) ?_ | refine vcIf_no (by rfl) ?_)
    refine vcFit_byte ?_
    repeat (first | refine vcIf_yes (by rfl) ?_ | refine vcIf_no (by rfl) ?_)
    refine vcIf_nno (by rw [hx0]; exact (byteI_small (w - 1) (by omega) (by omega)).symm) ?_
    repeat (first | refine vcIf_yes (by rfl) ?_ | refine vcIf_no (by rfl) ?_)
    refine vcLoad1_row (j := 0) (v := .int .i64 h.kind) ((by first | exact Ent.gnO (by repeat first | exact .here | apply Take.there) (fun w hw => Ob.sl_at hw) | exact Ent.gnO (by repeat first | exact .here | apply Take.there) (fun w hw => Ob.row_at hw)) : Ent _ (RowAt (some ⟨b3, 0, none⟩) (hdrIC h d s t v))) rfl ?_
    repeat (first | refine vcIf_yes (by rfl) ?_ | refine vcIf_no (by rfl) ?_)
    refine vcIf_dec (fun g6 => ?_) (fun g6 => ?_)
    · obtain ⟨hen, hgl⟩ := hk.short g6
      refine vcFit_i64 (by omega) ?_
      refine vcIf_yes (by omega) ?_
      repeat (first | refine vcIf_yes (by rfl) ?_ | refine vcIf_no (by rfl) ?_)
      refine vcLoad1_row (j := 6) (v := .int .i64 g.len) ((by first | exact Ent.gnO (by repeat first | exact .here | apply Take.there) (fun w hw => Ob.sl_at hw) | exact Ent.gnO (by repeat first | exact .here | apply Take.there) (fun w hw => Ob.row_at hw)) : Ent _ (RowAt (some ⟨b9, 0, none⟩) (hdrOf g d2 s2 t2 v2))) rfl ?_
      repeat (first | refine vcIf_yes (by rfl) ?_ | refine vcIf_no (by rfl) ?_)
      refine vcIf_yes (by omega) ?_
      repeat (first | refine vcIf_yes (by rfl) ?_ | refine vcIf_no (by rfl) ?_)
      refine vcCall_of .nil (hawake_spec _) (fun v' own' N' hv => ?_)
      obtain ⟨rfl, rfl, rfl⟩ := hv
      exact ⟨[], _, MT, .nil, fun _ _ _ => trivial, rfl, rfl, rfl⟩
    obtain ⟨_, _, hk1, hk3⟩ := right_ok hr0
    obtain ⟨_, _, hsl2, hln1, hln2, htl2⟩ := hk3.resolve_left g6
    refine vcLoad1_row (j := 0) (v := .int .i64 h.kind) ((by first | exact Ent.gnO (by repeat first | exact .here | apply Take.there) (fun w hw => Ob.sl_at hw) | exact Ent.gnO (by repeat first | exact .here | apply Take.there) (fun w hw => Ob.row_at hw)) : Ent _ (RowAt (some ⟨b3, 0, none⟩) (hdrIC h d s t v))) rfl ?_
    repeat (first | refine vcIf_yes (by rfl) ?_ | refine vcIf_no (by rfl) ?_)
    refine vcIf_dec (fun g1 => ?_) (fun g1 => ?_)
    · repeat (first | refine vcIf_yes (by rfl) ?_ | refine vcIf_no (by rfl) ?_)
      refine vcLoad1_row (j := 4) (v := .slice t2.1 h.tok.length t2.2) ((by first | exact Ent.gnO (by repeat first | exact .here | apply Take.there) (fun w hw => Ob.sl_at hw) | exact Ent.gnO (by repeat first | exact .here | apply Take.there) (fun w hw => Ob.row_at hw)) : Ent _ (RowAt (some ⟨b9, 0, none⟩) (hdrOf g d2 s2 t2 v2))) (by show some (Value.slice t2.1 g.tok.length t2.2) = _; rw [hk.tok g1]) ?_
      repeat (first | refine vcIf_yes (by rfl) ?_ | refine vcIf_no (by rfl) ?_)
      refine vcLoad1_row (j := 4) (v := .slice t.1 h.tok.length t.2) ((by first | exact Ent.gnO (by repeat first | exact .here | apply Take.there) (fun w hw => Ob.sl_at hw) | exact Ent.gnO (by repeat first | exact .here | apply Take.there) (fun w hw => Ob.row_at hw)) : Ent _ (RowAt (some ⟨b3, 0, none⟩) (hdrIC h d s t v))) rfl ?_
      repeat (first | refine vcIf_yes (by rfl) ?_ | refine vcIf_no (by rfl) ?_)
      refine vcCall_of .nil (same_spec t2.1 t.1 t2.2 t.2 h.tok h.tok _ (Ent.gnN fun w' hw => hk.tok g1 ▸ (hF w' ((by repeat first | exact Ent.refl | refine Ent.andL ?_ : Ent _ (MpAnd (RowAt (some ax) (Bs (buildI h w).1)) (MpAnd (RowAt d2.1 (Bs g.dst)) (MpAnd (RowAt s2.1 (Bs g.src)) (RowAt t2.1 (Bs g.tok)))))) w' hw)).2.2.2) (Ent.gnG hm.tok) (by omega)) (fun v' own' N' hv => ?_)
      rw [decide_eq_true (rfl : h.tok = h.tok)] at hv
      obtain ⟨rfl, rfl, rfl⟩ := hv
      repeat (first | refine vcIf_yes (by rfl) ?_ | refine vcIf_no (by rfl) ?_)
      refine vcLoad1_row (j := 1) (v := .int .i64 1) ((by first | exact Ent.gnO (by repeat first | exact .here | apply Take.there) (fun w hw => Ob.sl_at hw) | exact Ent.gnO (by repeat first | exact .here | apply Take.there) (fun w hw => Ob.row_at hw)) : Ent _ (RowAt (some ⟨b9, 0, none⟩) (hdrOf g d2 s2 t2 v2))) (by show some (Value.int .i64 g.ver) = _; rw [(hk.long g6).1]) ?_
      repeat (first | refine vcIf_yes (by rfl) ?_ | refine vcIf_no (by rfl) ?_)
      refine vcLoad1_row (j := 3) (v := .slice s2.1 h.src.length s2.2) ((by first | exact Ent.gnO (by repeat first | exact .here | apply Take.there) (fun w hw => Ob.sl_at hw) | exact Ent.gnO (by repeat first | exact .here | apply Take.there) (fun w hw => Ob.row_at hw)) : Ent _ (RowAt (some ⟨b9, 0, none⟩) (hdrOf g d2 s2 t2 v2))) (by show some (Value.slice s2.1 g.src.length s2.2) = _; rw [(hk.long g6).2.1]) ?_
      repeat (first | refine vcIf_yes (by rfl) ?_ | refine vcIf_no (by rfl) ?_)
      refine vcLoad1_row (j := 3) (v := .slice s.1 h.src.length s.2) ((by first | exact Ent.gnO (by repeat first | exact .here | apply Take.there) (fun w hw => Ob.sl_at hw) | exact Ent.gnO (by repeat first | exact .here | apply Take.there) (fun w hw => Ob.row_at hw)) : Ent _ (RowAt (some ⟨b3, 0, none⟩) (hdrIC h d s t v))) rfl ?_
      repeat (first | refine vcIf_yes (by rfl) ?_ | refine vcIf_no (by rfl) ?_)
      refine vcCall_of .nil (same_spec s2.1 s.1 s2.2 s.2 h.src h.src _ (Ent.gnN fun w' hw => (hk.long g6).2.1 ▸ (hF w' ((by repeat first | exact Ent.refl | refine Ent.andL ?_ : Ent _ (MpAnd (RowAt (some ax) (Bs (buildI h w).1)) (MpAnd (RowAt d2.1 (Bs g.dst)) (MpAnd (RowAt s2.1 (Bs g.src)) (RowAt t2.1 (Bs g.tok)))))) w' hw)).2.2.1) (Ent.gnG hm.src) (by omega)) (fun v' own' N' hv => ?_)
      rw [decide_eq_true (rfl : h.src = h.src)] at hv
      obtain ⟨rfl, rfl, rfl⟩ := hv
      repeat (first | refine vcIf_yes (by rfl) ?_ | refine vcIf_no (by rfl) ?_)
      refine vcLoad1_row (j := 6) (v := .int .i64 h.len) ((by first | exact Ent.gnO (by repeat first | exact .here | apply Take.there) (fun w hw => Ob.sl_at hw) | exact Ent.gnO (by repeat first | exact .here | apply Take.there) (fun w hw => Ob.row_at hw)) : Ent _ (RowAt (some ⟨b9, 0, none⟩) (hdrOf g d2 s2 t2 v2))) (by show some (Value.int .i64 g.len) = _; rw [(hk.long g6).2.2.1]) ?_
      repeat (first | refine vcIf_yes (by rfl) ?_ | refine vcIf_no (by rfl) ?_)
      refine vcLoad1_row (j := 6) (v := .int .i64 h.len) ((by first | exact Ent.gnO (by repeat first | exact .here | apply Take.there) (fun w hw => Ob.sl_at hw) | exact Ent.gnO (by repeat first | exact .here | apply Take.there) (fun w hw => Ob.row_at hw)) : Ent _ (RowAt (some ⟨b3, 0, none⟩) (hdrIC h d s t v))) rfl ?_
      repeat (first | refine vcIf_yes (by rfl) ?_ | refine vcIf_no (by rfl) ?_)
      refine vcLoad1_row (j := 6) (v := .int .i64 h.len) ((by first | exact Ent.gnO (by repeat first | exact .here | apply Take.there) (fun w hw => Ob.sl_at hw) | exact Ent.gnO (by repeat first | exact .here | apply Take.there) (fun w hw => Ob.row_at hw)) : Ent _ (RowAt (some ⟨b3, 0, none⟩) (hdrIC h d s t v))) rfl ?_
      repeat (first | refine vcIf_yes (by rfl) ?_ | refine vcIf_no (by rfl) ?_)
      refine vcFit_i64 (by omega) ?_
      repeat (first | refine vcIf_yes (by rfl) ?_ | refine vcIf_no (by rfl) ?_)
      refine vcIf_yes (hk.long g6).2.2.2 ?_
      repeat (first | refine vcIf_yes (by rfl) ?_ | refine vcIf_no (by rfl) ?_)
      refine vcCall_of .nil (hawake_spec _) (fun v' own' N' hv => ?_)
      obtain ⟨rfl, rfl, rfl⟩ := hv
      exact ⟨[], _, MT, .nil, fun _ _ _ => trivial, rfl, rfl, rfl⟩
    · repeat (first | refine vcIf_yes (by rfl) ?_ | refine vcIf_no (by rfl) ?_)
      refine vcLoad1_row (j := 1) (v := .int .i64 1) ((by first | exact Ent.gnO (by repeat first | exact .here | apply Take.there) (fun w hw => Ob.sl_at hw) | exact Ent.gnO (by repeat first | exact .here | apply Take.there) (fun w hw => Ob.row_at hw)) : Ent _ (RowAt (some ⟨b9, 0, none⟩) (hdrOf g d2 s2 t2 v2))) (by show some (Value.int .i64 g.ver) = _; rw [(hk.long g6).1]) ?_
      repeat (first | refine vcIf_yes (by rfl) ?_ | refine vcIf_no (by rfl) ?_)
      refine vcLoad1_row (j := 3) (v := .slice s2.1 h.src.length s2.2) ((by first | exact Ent.gnO (by repeat first | exact .here | apply Take.there) (fun w hw => Ob.sl_at hw) | exact Ent.gnO (by repeat first | exact .here | apply Take.there) (fun w hw => Ob.row_at hw)) : Ent _ (RowAt (some ⟨b9, 0, none⟩) (hdrOf g d2 s2 t2 v2))) (by show some (Value.slice s2.1 g.src.length s2.2) = _; rw [(hk.long g6).2.1]) ?_
      repeat (first | refine vcIf_yes (by rfl) ?_ | refine vcIf_no (by rfl) ?_)
      refine vcLoad1_row (j := 3) (v := .slice s.1 h.src.length s.2) ((by first | exact Ent.gnO (by repeat first | exact .here | apply Take.there) (fun w hw => Ob.sl_at hw) | exact Ent.gnO (by repeat first | exact .here | apply Take.there) (fun w hw => Ob.row_at hw)) : Ent _ (RowAt (some ⟨b3, 0, none⟩) (hdrIC h d s t v))) rfl ?_
      repeat (first | refine vcIf_yes (by rfl) ?_ | refine vcIf_no (by rfl) ?_)
      refine vcCall_of .nil (same_spec s2.1 s.1 s2.2 s.2 h.src h.src _ (Ent.gnN fun w' hw => (hk.long g6).2.1 ▸ (hF w' ((by repeat first | exact Ent.refl | refine Ent.andL ?_ : Ent _ (MpAnd (RowAt (some ax) (Bs (buildI h w).1)) (MpAnd (RowAt d2.1 (Bs g.dst)) (MpAnd (RowAt s2.1 (Bs g.src)) (RowAt t2.1 (Bs g.tok)))))) w' hw)).2.2.1) (Ent.gnG hm.src) (by omega)) (fun v' own' N' hv => ?_)
      rw [decide_eq_true (rfl : h.src = h.src)] at hv
      obtain ⟨rfl, rfl, rfl⟩ := hv
      repeat (first | refine vcIf_yes (by rfl) ?_ | refine vcIf_no (by rfl) ?_)
      refine vcLoad1_row (j := 6) (v := .int .i64 h.len) ((by first | exact Ent.gnO (by repeat first | exact .here | apply Take.there) (fun w hw => Ob.sl_at hw) | exact Ent.gnO (by repeat first | exact .here | apply Take.there) (fun w hw => Ob.row_at hw)) : Ent _ (RowAt (some ⟨b9, 0, none⟩) (hdrOf g d2 s2 t2 v2))) (by show some (Value.int .i64 g.len) = _; rw [(hk.long g6).2.2.1]) ?_
      repeat (first | refine vcIf_yes (by rfl) ?_ | refine vcIf_no (by rfl) ?_)
      refine vcLoad1_row (j := 6) (v := .int .i64 h.len) ((by first | exact Ent.gnO (by repeat first | exact .here | apply Take.there) (fun w hw => Ob.sl_at hw) | exact Ent.gnO (by repeat first | exact .here | apply Take.there) (fun w hw => Ob.row_at hw)) : Ent _ (RowAt (some ⟨b3, 0, none⟩) (hdrIC h d s t v))) rfl ?_
      repeat (first | refine vcIf_yes (by rfl) ?_ | refine vcIf_no (by rfl) ?_)
      refine vcLoad1_row (j := 6) (v := .int .i64 h.len) ((by first | exact Ent.gnO (by repeat first | exact .here | apply Take.there) (fun w hw => Ob.sl_at hw) | exact Ent.gnO (by repeat first | exact .here | apply Take.there) (fun w hw => Ob.row_at hw)) : Ent _ (RowAt (some ⟨b3, 0, none⟩) (hdrIC h d s t v))) rfl ?_
      repeat (first | refine vcIf_yes (by rfl) ?_ | refine vcIf_no (by rfl) ?_)
      refine vcFit_i64 (by omega) ?_
      repeat (first | refine vcIf_yes (by rfl) ?_ | refine vcIf_no (by rfl) ?_)
      refine vcIf_yes (hk.long g6).2.2.2 ?_
      repeat (first | refine vcIf_yes (by rfl) ?_ | refine vcIf_no (by rfl) ?_)
      refine vcCall_of .nil (hawake_spec _) (fun v' own' N' hv => ?_)
      obtain ⟨rfl, rfl, rfl⟩ := hv
      exact ⟨[], _, MT, .nil, fun _ _ _ => trivial, rfl, rfl, rfl⟩
end Go.Proofs.Ytlobimomeeppeaa
