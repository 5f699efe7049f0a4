/- Tokens and proofs. -/
import Derived.Test.YtnhkeghahiedfaaRteF
import Derived.Test.YtnhkeghahiedfaaSbk
namespace Go.Proofs.Ytnhkeghahiedfaa
open Go.Proofs
set_option maxRecDepth 10000

def GetB16 (bs : List UInt8) (v : Value) (own : List Ob) (N : Mp) : Prop := ∃ A, v = .slice A 16 16 ∧ own = [] ∧ Ent N (RowAt A (Bs bs))
theorem digest16_spec (A : Option Addr) (c : Nat) (ps : List Piece) (G : Mp) (h1 : Ent G (RowAt A (ps.map pieceV))) (h2 : ∀ p ∈ ps, Ent G (RowAt p.1 (Bs p.2.2))) (hb : (pieces ps).length ≤ 140737488355328) (hl : ps.length ≤ 4611686018427387904) :
    Spec Try.prog 29 #[.slice A ps.length c] [] G (GetB16 (dig (pieces ps))) := by
  refine Spec.intro (args := [_]) wide Try.func29 rfl Try.call29 (by rfl) (by rfl) (fun w0 hw0 => ?_)
  refine vcCall_of .nil (concat_spec A c ps _ (Ent.gnG h1) (fun p hp => Ent.gnG (h2 p hp)) hb hl) (fun v own' N' hv => ?_); obtain ⟨A1, c1, rfl, rfl, rfl, hc1⟩ := hv
  refine vcCall_of .nil (pdig_spec A1 c1 (pieces ps) _ (Ent.gnO .here (fun w hw => Ob.sl_at hw)) (by omega)) (fun v own' N' hv => ?_); obtain ⟨rfl, rfl, rfl⟩ := hv
  intro b
  have htl : (Bs (dig (pieces ps))).length = 16 := by rw [Bs_length, dig_length]
  refine ⟨htl, vcStoreN_row _ .here htl (Bs_one _) ?_⟩
  refine vcRange_of (by omega) ?_
  exact ⟨[], _, RowAt (some ⟨b, 0, none⟩) (Bs (dig (pieces ps))), .nil, fun w _ ho => Ob.row_at (ho (.row b 82 (Bs (dig (pieces ps))) 16) (.head _)), some ⟨b, 0, none⟩, rfl, rfl, Ent.refl⟩

def tokD (s : List UInt8) : List UInt8 := dig ([116, 111, 107, 101, 110] ++ s)
def nonD (addr until_ : Nat) (id : List UInt8) : List UInt8 := dig ([110, 111, 110, 99, 101] ++ be 4 addr ++ be 8 until_ ++ id)
def nonT (addr until_ : Nat) (id : List UInt8) : List UInt8 := (nonD addr until_ id).take 12
theorem nonT_length (addr u : Nat) (id : List UInt8) : (nonT addr u id).length = 12 := by unfold nonT nonD; rw [List.length_take, dig_length]; rfl
theorem tokD_length (s : List UInt8) : (tokD s).length = 16 := dig_length _
def sealT (s : List UInt8) (addr u : Nat) (id : List UInt8) : List UInt8 := (sealL (tokD s) (nonT addr u id) (be 4 addr) (be 8 u ++ id)).1
def tokB (s : List UInt8) (addr u : Nat) (id : List UInt8) : List UInt8 := nonT addr u id ++ sealT s addr u id
theorem sealT_length {s : List UInt8} {addr u : Nat} {id : List UInt8} (h : id.length ≤ 20) : (sealT s addr u id).length = id.length + 24 := by
  unfold sealT
  rw [sealL_length (by rw [tokD_length, nonT_length]; omega) (by rw [be_length, List.length_append, be_length]; omega), List.length_append, be_length]; omega
theorem tokB_length {s : List UInt8} {addr u : Nat} {id : List UInt8} (h : id.length ≤ 20) : (tokB s addr u id).length = id.length + 36 := by
  unfold tokB; rw [List.length_append, nonT_length, sealT_length h]; omega

theorem tokenKey_spec (As : Option Addr) (cs : Nat) (s : List UInt8) (G : Mp) (hs : Ent G (RowAt As (Bs s))) (hl : s.length ≤ 1000000000) : Spec Try.prog 33 #[.slice As s.length cs] [] G (GetB16 (tokD s)) := by
  refine Spec.intro (args := [_]) wide Try.func33 rfl Try.call33 (by rfl) (by rfl) (fun w0 hw0 => ?_)
  intro b5
  refine vcMark_of .here ?_
  intro bp
  have e : pieces [(some ⟨b5, 0, none⟩, 5, [116, 111, 107, 101, 110]), (As, cs, s)] = [116, 111, 107, 101, 110] ++ s := by simp [pieces]
  refine vcCall_of .nil (e ▸ digest16_spec (some ⟨bp, 0, none⟩) 2 [(some ⟨b5, 0, none⟩, 5, [116, 111, 107, 101, 110]), (As, cs, s)] _ (Ent.gnO .here (fun w hw => Ob.sl_at hw)) (fun p hp => by
    simp only [List.mem_cons, List.not_mem_nil, or_false] at hp
    rcases hp with rfl | rfl
    · exact (Ent.gnO (.there .here) (fun w hw => Ob.sl_at hw))
    · exact Ent.gnG hs) (by rw [e]; simp; omega) (by simp)) (fun v own' N1 hv => ?_)
  obtain ⟨Am, rfl, rfl, hrm⟩ := hv
  exact ⟨[], _, _, .nil, fun _ h _ => h, Am, rfl, rfl, Ent.andR hrm⟩
theorem tokenNonce_spec (Ai : Option Addr) (ci : Nat) (addr u : Nat) (id : List UInt8) (G : Mp) (hi : Ent G (RowAt Ai (Bs id))) (hl : id.length ≤ 1000000000) (ha : addr < 4611686018427387904) (hu : u < 4611686018427387904) :
    Spec Try.prog 31 #[.int .i64 addr, .int .i64 u, .slice Ai id.length ci] [] G (fun v own N => ∃ A, v = .slice A 12 16 ∧ own = [] ∧ Ent N (RowAt A (Bs (nonT addr u id)))) := by
  refine Spec.intro (args := [_, _, _]) wide Try.func31 rfl Try.call31 (by rfl) (by rfl) (fun w0 hw0 => ?_)
  intro b5
  refine vcMark_of .here ?_
  refine vcCall_of .nil (number_spec addr 4 ha (by decide) (by decide) _) (fun v own' N' hv => ?_); obtain ⟨A1, c1, rfl, rfl, rfl, hc1⟩ := hv
  refine vcCall_of .nil (number_spec u 8 hu (by decide) (by decide) _) (fun v own' N' hv => ?_); obtain ⟨A2, c2, rfl, rfl, rfl, hc2⟩ := hv
  rw [be_length] at *
  intro bp
  have e : pieces [(some ⟨b5, 0, none⟩, 5, [110, 111, 110, 99, 101]), (A1, c1, be 4 addr), (A2, c2, be 8 u), (Ai, ci, id)] = [110, 111, 110, 99, 101] ++ be 4 addr ++ be 8 u ++ id := by simp [pieces]
  have hv1 : [(some ⟨b5, 0, none⟩, 5, [110, 111, 110, 99, 101]), (A1, c1, be 4 addr), (A2, c2, be 8 u), (Ai, ci, id)].map pieceV = [.slice (some ⟨b5, 0, none⟩) 5 5, .slice A1 4 c1, .slice A2 8 c2, .slice Ai id.length ci] := by simp [pieceV, be_length]
  refine vcCall_of .nil (e ▸ digest16_spec (some ⟨bp, 0, none⟩) 4 [(some ⟨b5, 0, none⟩, 5, [110, 111, 110, 99, 101]), (A1, c1, be 4 addr), (A2, c2, be 8 u), (Ai, ci, id)] _ (by rw [hv1]; exact (Ent.gnO .here (fun w hw => Ob.sl_at hw))) (fun p hp => by
    simp only [List.mem_cons, List.not_mem_nil, or_false] at hp
    rcases hp with rfl | rfl | rfl | rfl
    · exact (Ent.gnO (.there (.there (.there .here))) (fun w hw => Ob.sl_at hw))
    · exact (Ent.gnO (.there (.there .here)) (fun w hw => Ob.sl_at hw))
    · exact (Ent.gnO (.there .here) (fun w hw => Ob.sl_at hw))
    · exact Ent.gnG hi) (by rw [e]; simp [be_length]; omega) (by simp)) (fun v own' N1 hv => ?_)
  obtain ⟨Am, rfl, rfl, hrm⟩ := hv
  refine vcSlice3_as 0 12 16 rfl rfl rfl (by omega) (by omega) (fun A' hA' => ?_)
  rw [cutA_0] at hA'
  subst hA'
  refine ⟨[], _, _, .nil, fun _ h _ => h, A', rfl, rfl, Ent.andR (hrm.mono fun w hw => ?_)⟩
  rw [nonT, Bs_take]
  exact hw.take 12

theorem sealQ_spec (Ak An Aa Ap : Option Addr) (ck cn ca cp lk ln la lp : Nat) (key nonce ad plain : List UInt8) (G : Mp) (hk : Ent G (RowAt Ak (Bs key))) (hn : Ent G (RowAt An (Bs nonce))) (ha : Ent G (RowAt Aa (Bs ad))) (hp : Ent G (RowAt Ap (Bs plain))) (ek : lk = key.length) (en : ln = nonce.length) (ea : la = ad.length) (ep : lp = plain.length) :
    Spec Try.prog 32 #[.slice Ak lk ck, .slice An ln cn, .slice Aa la ca, .slice Ap lp cp] [] G (OwnBE (sealL key nonce ad plain).1 (sealL key nonce ad plain).2) := by
  subst ek; subst en; subst ea; subst ep
  exact seal_spec Ak An Aa Ap ck cn ca cp key nonce ad plain G hk hn ha hp
theorem openQ_spec (Ak An Aa As : Option Addr) (ck cn ca cs lk ln la ls : Nat) (key nonce ad s : List UInt8) (G : Mp) (hk : Ent G (RowAt Ak (Bs key))) (hn : Ent G (RowAt An (Bs nonce))) (ha : Ent G (RowAt Aa (Bs ad))) (hs : Ent G (RowAt As (Bs s))) (hcs : s.length ≤ cs) (ek : lk = key.length) (en : ln = nonce.length) (ea : la = ad.length) (es : ls = s.length) :
    Spec Try.prog 34 #[.slice Ak lk ck, .slice An ln cn, .slice Aa la ca, .slice As ls cs] [] G (OwnBE (openL key nonce ad s).1 (openL key nonce ad s).2) := by
  subst ek; subst en; subst ea; subst es
  exact open_spec Ak An Aa As ck cn ca cs key nonce ad s G hk hn ha hs hcs
def tokE (sl : Nat) (addr u : Int) (il : Nat) : Int := if sl ≠ 16 then 70 else if addr < 0 ∨ 4294967295 < addr then 131 else if u < 0 ∨ 4611686018427387903 < u then 10 else if 20 < il then 61 else 0
def tokenL (s : List UInt8) (addr u : Int) (id : List UInt8) : List UInt8 × Int := if tokE s.length addr u id.length ≠ 0 then ([], tokE s.length addr u id.length) else (tokB s addr.toNat u.toNat id, 0)
theorem tokE_0 {sl : Nat} {addr u : Int} {il : Nat} (h : tokE sl addr u il = 0) : sl = 16 ∧ (0 ≤ addr ∧ addr ≤ 4294967295) ∧ (0 ≤ u ∧ u ≤ 4611686018427387903) ∧ il ≤ 20 := by
  unfold tokE at h
  split at h
  · exact absurd h (by decide)
  split at h
  · exact absurd h (by decide)
  split at h
  · exact absurd h (by decide)
  split at h
  · exact absurd h (by decide)
  omega
theorem tokenL_e {s : List UInt8} {addr u : Int} {id : List UInt8} {e : Int} (h : tokE s.length addr u id.length = e) (he : e ≠ 0) : tokenL s addr u id = ([], e) := by subst h; exact if_pos he

theorem token_spec (As Ai : Option Addr) (cs ci : Nat) (s id : List UInt8) (addr u : Int) (G : Mp) (hs : Ent G (RowAt As (Bs s))) (hi : Ent G (RowAt Ai (Bs id))) :
    Spec Try.prog 16 #[.slice As s.length cs, .int .i64 addr, .int .i64 u, .slice Ai id.length ci] [] G (OwnBE (tokenL s addr u id).1 (tokenL s addr u id).2) := by
  refine Spec.introC (args := [_, _, _, _]) wide Try.func16 rfl Try.call16 (by rfl) (by rfl) [9] (fun w0 hw0 => ?_)
  refine vcCut_of (fun _ : Unit => [(0, .slice As s.length cs), (1, .int .i64 addr), (2, .int .i64 u), (3, .slice Ai id.length ci)]) (fun _ => []) (fun _ => MT) (fun _ => tokE s.length addr u id.length = 0) ?_ ?_
  · refine vcIf_ndec (fun h1 => ?_) (fun h1 => ?_)
    · exact ⟨_, _, MT, .cons .none_ .nil, fun _ _ _ => trivial, retE (tokenL_e (e := 70) (if_pos (by omega)) (by decide)) (OwnBE_nil 70)⟩
    have e131 := fun (h : addr < 0 ∨ 4294967295 < addr) => @tokenL_e s addr u id 131 (by unfold tokE; rw [if_neg (by omega), if_pos h]) (by decide)
    refine vcIf_dec (fun h2 => ?_) (fun h2 => ?_)
    · repeat (refine vcIf_yes (by rfl) ?_)
      exact ⟨_, _, MT, .cons .none_ .nil, fun _ _ _ => trivial, retE (e131 (by omega)) (OwnBE_nil 131)⟩
    repeat (refine vcIf_no (by rfl) ?_)
    refine vcIf_dec (fun h3 => ?_) (fun h3 => ?_)
    · exact ⟨_, _, MT, .cons .none_ .nil, fun _ _ _ => trivial, retE (e131 (by omega)) (OwnBE_nil 131)⟩
    have e10 := fun (h : u < 0 ∨ 4611686018427387903 < u) => @tokenL_e s addr u id 10 (by unfold tokE; rw [if_neg (by omega), if_neg (by omega), if_pos h]) (by decide)
    refine vcIf_dec (fun h4 => ?_) (fun h4 => ?_)
    · repeat (refine vcIf_yes (by rfl) ?_)
      exact ⟨_, _, MT, .cons .none_ .nil, fun _ _ _ => trivial, retE (e10 (by omega)) (OwnBE_nil 10)⟩
    repeat (refine vcIf_no (by rfl) ?_)
    refine vcIf_dec (fun h5 => ?_) (fun h5 => ?_)
    · exact ⟨_, _, MT, .cons .none_ .nil, fun _ _ _ => trivial, retE (e10 (by omega)) (OwnBE_nil 10)⟩
    refine vcIf_dec (fun h6 => ?_) (fun h6 => ?_)
    · exact ⟨_, _, MT, .cons .none_ .nil, fun _ _ _ => trivial, retE (tokenL_e (e := 61) (by unfold tokE; rw [if_neg (by omega), if_neg (by omega), if_neg (by omega), if_pos (by omega)]) (by decide)) (OwnBE_nil 61)⟩
    exact ⟨(), by unfold tokE; rw [if_neg (by omega), if_neg (by omega), if_neg (by omega), if_neg (by omega)], ⟨rfl, rfl, rfl, rfl, trivial⟩, ⟨_, .nil⟩, fun _ _ => trivial⟩
  rintro ⟨⟩ he
  obtain ⟨h16, ha, hu, hl⟩ := tokE_0 he
  obtain ⟨addr, rfl⟩ := Int.eq_ofNat_of_zero_le ha.1
  obtain ⟨u, rfl⟩ := Int.eq_ofNat_of_zero_le hu.1
  rw [show tokenL s addr u id = (tokB s addr u id, 0) from if_neg (by omega)]
  refine vcCall_of .nil (tokenNonce_spec Ai ci addr u id _ (Ent.gnG hi) (by omega) (by omega) (by omega)) (fun v own' N1 hv => ?_)
  obtain ⟨An, rfl, rfl, hrn⟩ := hv
  refine vcCall_of .nil (tokenKey_spec As cs s _ (Ent.gnG hs) (by omega)) (fun v own' N2 hv => ?_)
  obtain ⟨Ak, rfl, rfl, hrk⟩ := hv
  refine vcCall_of .nil (number_spec addr 4 (by omega) (by decide) (by decide) _) (fun v own' N' hv => ?_); obtain ⟨A1, c1, rfl, rfl, rfl, hc1⟩ := hv
  refine vcCall_of .nil (number_spec u 8 (by omega) (by decide) (by decide) _) (fun v own' N' hv => ?_); obtain ⟨A2, c2, rfl, rfl, rfl, hc2⟩ := hv
  have hl8 := be_length 8 u
  have hl4 := be_length 4 addr
  refine vcApp_of (Bs (be 8 u)) _ (Bs id) (by first | exact .here | exact (.there .here) | exact (.there (.there .here)) | exact (.there (.there (.there .here))) | exact (.there (.there (.there (.there .here)))) | exact (.there (.there (.there (.there (.there .here))))) | exact (.there (.there (.there (.there (.there (.there .here)))))) | exact (.there (.there (.there (.there (.there (.there (.there .here))))))) | exact (.there (.there (.there (.there (.there (.there (.there (.there .here)))))))) | exact (.there (.there (.there (.there (.there (.there (.there (.there (.there .here))))))))) | exact (.there (.there (.there (.there (.there (.there (.there (.there (.there (.there .here)))))))))) | exact (.there (.there (.there (.there (.there (.there (.there (.there (.there (.there (.there .here))))))))))) | exact (.there (.there (.there (.there (.there (.there (.there (.there (.there (.there (.there (.there .here)))))))))))) | exact (.there (.there (.there (.there (.there (.there (.there (.there (.there (.there (.there (.there (.there .here))))))))))))) | exact (.there (.there (.there (.there (.there (.there (.there (.there (.there (.there (.there (.there (.there (.there .here)))))))))))))) | exact (.there (.there (.there (.there (.there (.there (.there (.there (.there (.there (.there (.there (.there (.there (.there .here))))))))))))))) | exact (.there (.there (.there (.there (.there (.there (.there (.there (.there (.there (.there (.there (.there (.there (.there (.there .here)))))))))))))))) | exact (.there (.there (.there (.there (.there (.there (.there (.there (.there (.there (.there (.there (.there (.there (.there (.there (.there .here))))))))))))))))) | exact .none_) (by rw [Bs_length, Nat.mul_one]) (by rw [Bs_length, Nat.mul_one]) (by decide) (Bs_one _) (Ent.gnG hi) (by omega) (by omega) (fun A3 c3 hc3 => ?_)
  rw [← Bs_append, show (be 8 u).length + id.length = (be 8 u ++ id).length from (List.length_append ..).symm]
  have hsl := sealT_length (s := s) (addr := addr) (u := u) hl
  have hnl := nonT_length addr u id
  have htl := tokD_length s
  refine vcCall_of .nil (sealQ_spec Ak An A1 A3 16 16 c1 c3 16 12 (be 4 addr).length (be 8 u ++ id).length (tokD s) (nonT addr u id) (be 4 addr) (be 8 u ++ id) _ (Ent.gnN (by repeat first | exact Ent.andR hrk | refine Ent.andL ?_)) (Ent.gnN (by repeat first | exact Ent.andR hrn | refine Ent.andL ?_)) (Ent.gnO (.there .here) (fun w hw => Ob.sl_at hw)) (Ent.gnO .here (fun w hw => Ob.sl_at hw)) htl.symm hnl.symm rfl rfl) (fun v own' N3 hv => ?_)
  rw [show (sealL (tokD s) (nonT addr u id) (be 4 addr) (be 8 u ++ id)).1 = sealT s addr u id from rfl] at hv
  generalize (sealL (tokD s) (nonT addr u id) (be 4 addr) (be 8 u ++ id)).2 = e2 at hv
  obtain ⟨A4, c4, rfl, rfl, rfl, hc4⟩ := hv
  refine vcApp_far (Bs (nonT addr u id)) (Bs (sealT s addr u id)) (by omega) (Ent.gnN (by repeat first | exact Ent.andR hrn | refine Ent.andL ?_)) (by rw [Bs_length, hnl]) (by rw [Bs_length, Nat.mul_one]) (Bs_one _) (Ent.gnO .here (fun w hw => Ob.sl_at hw)) (by omega) (by omega) (fun b5 c5 hc5 => ?_)
  rw [← Bs_append, show 12 + (sealT s addr u id).length = (tokB s addr u id).length from by unfold tokB; rw [List.length_append, hnl]] at *
  exact ⟨_, _, MT, .cons (by first | exact .here | exact (.there .here) | exact (.there (.there .here)) | exact (.there (.there (.there .here))) | exact (.there (.there (.there (.there .here)))) | exact (.there (.there (.there (.there (.there .here))))) | exact (.there (.there (.there (.there (.there (.there .here)))))) | exact (.there (.there (.there (.there (.there (.there (.there .here))))))) | exact (.there (.there (.there (.there (.there (.there (.there (.there .here)))))))) | exact (.there (.there (.there (.there (.there (.there (.there (.there (.there .here))))))))) | exact (.there (.there (.there (.there (.there (.there (.there (.there (.there (.there .here)))))))))) | exact (.there (.there (.there (.there (.there (.there (.there (.there (.there (.there (.there .here))))))))))) | exact (.there (.there (.there (.there (.there (.there (.there (.there (.there (.there (.there (.there .here)))))))))))) | exact (.there (.there (.there (.there (.there (.there (.there (.there (.there (.there (.there (.there (.there .here))))))))))))) | exact (.there (.there (.there (.there (.there (.there (.there (.there (.there (.there (.there (.there (.there (.there .here)))))))))))))) | exact (.there (.there (.there (.there (.there (.there (.there (.there (.there (.there (.there (.there (.there (.there (.there .here))))))))))))))) | exact (.there (.there (.there (.there (.there (.there (.there (.there (.there (.there (.there (.there (.there (.there (.there (.there .here)))))))))))))))) | exact (.there (.there (.there (.there (.there (.there (.there (.there (.there (.there (.there (.there (.there (.there (.there (.there (.there .here))))))))))))))))) | exact .none_) .nil, fun _ _ _ => trivial, some ⟨b5, 0, none⟩, c5, rfl, rfl, rfl, hc5⟩
end Go.Proofs.Ytnhkeghahiedfaa
