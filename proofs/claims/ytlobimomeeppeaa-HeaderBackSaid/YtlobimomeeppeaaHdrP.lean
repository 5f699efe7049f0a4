/- Headers: HeaderSplits. -/
import Derived.Test.YtlobimomeeppeaaHdrO
namespace Go.Proofs.Ytlobimomeeppeaa
open Go.Proofs
set_option maxRecDepth 10000

theorem piece_get {l : List PP} {k : Nat} (hk : k < l.length) (j : Nat) (hj : j < 10) : (l.flatMap pieceC)[k * 10 + j]? = (pieceC l[k])[j]? := by
  rw [← flatMap_chunk pieceC_length l k hk, List.getElem?_take, if_pos hj, List.getElem?_drop]
theorem piece_hdr {l : List PP} {k : Nat} (hk : k < l.length) : ((l.flatMap pieceC).drop (k * 10 + 0)).take 7 = l[k].hdr := by
  have h := flatMap_chunk pieceC_length l k hk
  have h2 : ((l.flatMap pieceC).drop (k * 10)).take 7 = (((l.flatMap pieceC).drop (k * 10)).take 10).take 7 := by rw [List.take_take]; rfl
  rw [Nat.add_zero, h2, h]
  rfl
theorem PP.hdrM {l : List PP} {x : PP} {N : Mp} (hN : Ent N (lMem l)) (hx : x ∈ l) (hc : x.cap) : HdrM x.1.h x.2.1 x.2.2.1 x.2.2.2.1 x.2.2.2.2 N :=
  ⟨fun w hw => (hN w hw x hx).1, fun w hw => (hN w hw x hx).2.1, fun w hw => (hN w hw x hx).2.2.1, fun w hw => (hN w hw x hx).2.2.2, hc.cd, hc.cs, hc.ct, hc.cv⟩
theorem piecesL_lens (bs : List UInt8) (cid : Int) (p : Nat) : ∀ x ∈ piecesL bs cid p, x.h.dst.length ≤ 20 ∧ x.h.src.length ≤ 20 ∧ x.h.tok.length ≤ bs.length ∧ x.h.vers.length ≤ bs.length := by
  induction h : bs.length - p using Nat.strongRecOn generalizing p with
  | ind n ih =>
    intro x hx
    rw [piecesL] at hx
    split at hx
    · rename_i hp
      split at hx
      · cases hx
      · rename_i hd a e hpp
        rcases List.mem_cons.1 hx with rfl | hx
        · have hT := parseT_lens (bs.drop p) cid
          rw [parseT_ok hpp] at hT
          simp only [List.length_drop] at hT ⊢
          omega
        · exact ih (bs.length - (p + max 1 e)) (by omega) _ rfl x hx
    · cases hx
theorem splitT_lens (bs : List UInt8) (cid : Int) : ∀ x ∈ (splitT bs cid).1, x.h.dst.length ≤ 20 ∧ x.h.src.length ≤ 20 ∧ x.h.tok.length ≤ bs.length ∧ x.h.vers.length ≤ bs.length := by
  intro x hx
  unfold splitT at hx
  split at hx
  · cases hx
  · split at hx
    · cases hx
    · split at hx
      · cases hx
      · exact piecesL_lens _ _ _ x hx
theorem piecesL_count (bs : List UInt8) (cid : Int) (p : Nat) : (piecesL bs cid p).length ≤ bs.length - p := by
  induction h : bs.length - p using Nat.strongRecOn generalizing p with
  | ind n ih =>
    rw [piecesL]
    split
    · rename_i hp
      split
      · exact Nat.zero_le _
      · rename_i hd a e hpp
        have := ih (bs.length - (p + max 1 e)) (by omega) (p + max 1 e) rfl
        simp only [List.length_cons]
        omega
    · exact Nat.zero_le _
theorem splitT_count (bs : List UInt8) (cid : Int) : (splitT bs cid).1.length ≤ bs.length := by
  unfold splitT
  split
  · exact Nat.zero_le _
  · split
    · exact Nat.zero_le _
    · split
      · exact Nat.zero_le _
      · exact piecesL_count bs cid 0

set_option maxHeartbeats 1000000 in
theorem splits_spec (A : Option Addr) (c : Nat) (bs : List UInt8) (cid : Int) (G : Mp) (h1 : Ent G (RowAt A (Bs bs))) (hc : bs.length ≤ c) (hm : bs.length ≤ 140737488351232) : Spec Try.prog 6 #[.slice A bs.length c, .int .i64 cid] [] G (Ret (.bool true)) := by
  refine Spec.intro (args := [_, _]) wide Try.func6 rfl Try.call6 (by rfl) (by rfl) (fun w0 hw0 => ?_)
  refine vcCall_of .nil (copy_spec A c bs _ (Ent.gnG h1) (by omega)) (fun v own' N' hv => ?_)
  obtain ⟨A0, c0, rfl, rfl, rfl, hc0⟩ := hv
  refine vcCall_of .nil (split_spec A0 c0 bs cid _ (by first | exact Ent.gnO (by repeat first | exact .here | apply Take.there) (fun w hw => Ob.sl_at hw) | exact Ent.gnO (by repeat first | exact .here | apply Take.there) (fun w hw => Ob.row_at hw)) (by omega) hm) (fun v own' N1 hv => ?_)
  obtain ⟨A1, c1, l1, hl1, rfl, rfl, hr1, hm1, hcap1⟩ := hv
  refine vcCall_of .nil (rsplit_spec A c bs cid _ (Ent.gnG h1) hc hm) (fun v own' N2 hv => ?_)
  obtain ⟨A2, c2, l2, hl2, rfl, rfl, hr2, hm2, hcap2⟩ := hv
  have hlen : l1.length = l2.length := by rw [← List.length_map (f := fun x : PP => x.1), hl1, ← hl2, List.length_map]
  have hcnt : l1.length ≤ bs.length := by rw [← List.length_map (f := fun x : PP => x.1), hl1]; exact splitT_count bs cid
  refine vcIf_nno rfl ?_
  repeat (refine vcIf_no (by rfl) ?_)
  refine vcIf_nno (by rw [hlen]) ?_
  repeat (refine vcIf_no (by rfl) ?_)
  refine vcLoop_of (fun k : Nat => l1.length - k) (fun k => [(5, .slice A1 l1.length c1), (7, .slice A2 l2.length c2), (34, .int .i64 l1.length), (35, .int .i64 k)]) (fun _ => [])
    (fun _ => MpAnd (MpAnd (RowAt A1 (l1.flatMap pieceC)) (lMem l1)) (MpAnd (RowAt A2 (l2.flatMap pieceC)) (lMem l2))) (fun k => k ≤ l1.length) 0 (Nat.zero_le _)
    ⟨rfl, rfl, rfl, rfl, trivial⟩ ⟨_, .nil⟩ (fun w hw => ⟨⟨(by repeat first | exact Ent.andR hr1 | refine Ent.andL ?_ : Ent _ (RowAt A1 (l1.flatMap pieceC))) w hw, (by repeat first | exact Ent.andR hm1 | refine Ent.andL ?_ : Ent _ (lMem l1)) w hw⟩, (by repeat first | exact Ent.andR hr2 | refine Ent.andL ?_ : Ent _ (RowAt A2 (l2.flatMap pieceC))) w hw, (by repeat first | exact Ent.andR hm2 | refine Ent.andL ?_ : Ent _ (lMem l2)) w hw⟩) ?_
  intro k hk
  refine vcIf_dec (fun hlt => ?_) (fun hge => ?_)
  · have hk1 : k < l1.length := by omega
    have hk2 : k < l2.length := by omega
    have hx : l1[k].1 = l2[k].1 := by
      have e1 : (l1.map (·.1))[k]? = some l1[k].1 := by simp [hk1]
      have e2 : (l2.map (·.1))[k]? = some l2[k].1 := by simp [hk2]
      rw [hl1, ← hl2, e2] at e1
      exact (Option.some.inj e1).symm
    have hlens := splitT_lens bs cid l1[k].1 (by rw [← hl1]; exact List.mem_map.2 ⟨_, List.getElem_mem hk1, rfl⟩)
    have hm2' : ∀ N, Ent N (lMem l2) → HdrM l1[k].1.h l2[k].2.1 l2[k].2.2.1 l2[k].2.2.2.1 l2[k].2.2.2.2 N := fun N hN => by rw [hx]; exact PP.hdrM hN (List.getElem_mem hk2) (hcap2 _ (List.getElem_mem hk2))
    have hfl1 := flatMap_len pieceC_length l1
    have hfl2 := flatMap_len pieceC_length l2
    have hH1 : Ent (GN G [] (MpAnd (MpAnd (RowAt A1 (l1.flatMap pieceC)) (lMem l1)) (MpAnd (RowAt A2 (l2.flatMap pieceC)) (lMem l2)))) (fun w => RowAt A1 (l1.flatMap pieceC) w ∧ RowAt A2 (l2.flatMap pieceC) w) := Ent.gnN fun w hw => ⟨hw.1.1, hw.2.1⟩
    have hdr2 : ((l2.flatMap pieceC).drop (k * 10 + 0)).take 7 = hdrOf l1[k].1.h l2[k].2.1 l2[k].2.2.1 l2[k].2.2.2.1 l2[k].2.2.2.2 := (piece_hdr hk2).trans (by unfold PP.hdr; rw [hx])
    refine vcDraw_mix [0,1,2,3,4,6,7,8,9,10,5,11,12,13,14,15,16,17,18,19,20,21,22,23,24,25,26,27,28,29,30,31,32,33,34,35,36,37,38,39,40,41,42,43,44,45,46,47,48,49,50,51] (fun w => RowAt A1 (l1.flatMap pieceC) w ∧ RowAt A2 (l2.flatMap pieceC) w) (by kernel_rfl) hH1 ?_
    refine vcIdx_nats (s := 10) k rfl (fun w hw => hw.1) hk1 (by rw [hfl1]; exact Nat.le_refl _) (by decide) (fun a1 ha1 => ?_)
    subst ha1
    refine vcLoadN_2 (i := k * 10) (j := 0) l1[k].hdr (fun w hw => hw.1) rfl (piece_hdr hk1) ?_
    refine vcIdx_nats (s := 10) k rfl (fun w hw => hw.2) hk2 (by rw [hfl2]; exact Nat.le_refl _) (by decide) (fun a2 ha2 => ?_)
    subst ha2
    refine vcLoadN_2 (i := k * 10) (j := 0) (hdrOf l1[k].1.h l2[k].2.1 l2[k].2.2.1 l2[k].2.2.2.1 l2[k].2.2.2.2) (fun w hw => hw.2) rfl hdr2 ?_
    refine vcCall_of .nil (of_spec l1[k].1.h l1[k].2.1 l1[k].2.2.1 l1[k].2.2.2.1 l1[k].2.2.2.2 _) (fun v own' N' hv => ?_)
    obtain ⟨rfl, rfl, rfl⟩ := hv
    refine vcMix_same (Ent.gnN fun w hw => ⟨hw.1.1.1, hw.1.2.1⟩) ?_
    refine vcCall_of .nil (same06_spec l1[k].1.h l1[k].2.1 l1[k].2.2.1 l1[k].2.2.2.1 l1[k].2.2.2.2 l2[k].2.1 l2[k].2.2.1 l2[k].2.2.2.1 l2[k].2.2.2.2 _ (PP.hdrM (Ent.gnN fun w hw => hw.1.1.2) (List.getElem_mem hk1) (hcap1 _ (List.getElem_mem hk1))) (hm2' _ (Ent.gnN fun w hw => hw.1.2.2)) (by omega)) (fun v own' N' hv => ?_)
    obtain ⟨rfl, rfl, rfl⟩ := hv
    refine vcMix_same (Ent.gnN fun w hw => ⟨hw.1.1.1.1, hw.1.1.2.1⟩) ?_
    repeat (refine vcIf_no (by rfl) ?_)
    refine vcIdx_some k rfl hk1 ?_
    repeat (refine vcIf_no (by rfl) ?_)
    refine vcLoad1_2 (i := k * 10) (j := 7) (v := .int .i64 l1[k].1.from_) (fun w hw => hw.1) (piece_get hk1 7 (by decide)) ?_
    repeat (refine vcIf_no (by rfl) ?_)
    refine vcIdx_some k rfl hk2 ?_
    repeat (refine vcIf_no (by rfl) ?_)
    refine vcLoad1_2 (i := k * 10) (j := 7) (v := .int .i64 l1[k].1.from_) (fun w hw => hw.2) ((piece_get hk2 7 (by decide)).trans (by show some (Value.int .i64 l2[k].1.from_) = _; rw [← hx])) ?_
    repeat (refine vcIf_no (by rfl) ?_)
    refine vcIf_nno rfl ?_
    repeat (refine vcIf_no (by rfl) ?_)
    refine vcIdx_some k rfl hk1 ?_
    repeat (refine vcIf_no (by rfl) ?_)
    refine vcLoad1_2 (i := k * 10) (j := 8) (v := .int .i64 l1[k].1.at_) (fun w hw => hw.1) (piece_get hk1 8 (by decide)) ?_
    repeat (refine vcIf_no (by rfl) ?_)
    refine vcIdx_some k rfl hk2 ?_
    repeat (refine vcIf_no (by rfl) ?_)
    refine vcLoad1_2 (i := k * 10) (j := 8) (v := .int .i64 l1[k].1.at_) (fun w hw => hw.2) ((piece_get hk2 8 (by decide)).trans (by show some (Value.int .i64 l2[k].1.at_) = _; rw [← hx])) ?_
    repeat (refine vcIf_no (by rfl) ?_)
    refine vcIf_nno rfl ?_
    repeat (refine vcIf_no (by rfl) ?_)
    refine vcIdx_some k rfl hk1 ?_
    repeat (refine vcIf_no (by rfl) ?_)
    refine vcLoad1_2 (i := k * 10) (j := 9) (v := .int .i64 l1[k].1.end_) (fun w hw => hw.1) (piece_get hk1 9 (by decide)) ?_
    repeat (refine vcIf_no (by rfl) ?_)
    refine vcIdx_some k rfl hk2 ?_
    repeat (refine vcIf_no (by rfl) ?_)
    refine vcLoad1_2 (i := k * 10) (j := 9) (v := .int .i64 l1[k].1.end_) (fun w hw => hw.2) ((piece_get hk2 9 (by decide)).trans (by show some (Value.int .i64 l2[k].1.end_) = _; rw [← hx])) ?_
    repeat (refine vcIf_no (by rfl) ?_)
    refine vcIf_nno rfl ?_
    repeat (refine vcIf_no (by rfl) ?_)
    refine vcFit_i64 (by omega) ?_
    exact ⟨k + 1, by omega, by omega, ⟨rfl, rfl, rfl, rfl, trivial⟩, ⟨_, .nil⟩, fun w hw => hw.1.1⟩
  · refine vcCall_of .nil (hawake_spec _) (fun v own' N' hv => ?_)
    obtain ⟨rfl, rfl, rfl⟩ := hv
    exact ⟨[], _, MT, .nil, fun _ _ _ => trivial, rfl, rfl, rfl⟩
end Go.Proofs.Ytlobimomeeppeaa
