/- Headers: the reference's Build. -/
import Derived.Test.YtlobimomeeppeaaHdrT
import Derived.Test.YtlobimomeeppeaaVarH
import Derived.Test.YtlobimomeeppeaaJoin
namespace Go.Proofs.Ytlobimomeeppeaa
open Go.Proofs
set_option maxRecDepth 10000

theorem buildI_err {h : HdrI} {w e : Int} (hr : rightI h w = e) (he : e ≠ 0) : buildI h w = ([], e) := by
  unfold buildI; rw [hr, if_pos he]
theorem lenB_short {n : Nat} (h : n < 64) : lenB n = [64, byteI n] := by
  unfold lenB
  rw [if_pos (by omega), show (n : Int) / 2 ^ 8 = 0 from by omega]
  rfl
theorem lenB_long {n : Nat} (h : 64 ≤ n) (h2 : n ≤ 16384) : lenB n = vput n := by
  unfold lenB
  split
  · rename_i hlt
    have hc : cls n = 1 := by unfold cls; rw [if_neg (by omega), if_pos (by omega)]
    have hf : hasForm (n : Int) := ⟨by omega, by omega⟩
    unfold vput
    rw [if_pos hf, Int.toNat_natCast]
    unfold vputN
    rw [hc]
    show _ = match be 2 n with
      | [] => []
      | b :: r => UInt8.ofNat (b.toNat + 64 * 1) :: r
    simp only [be, List.nil_append, List.singleton_append]
    rw [ofNat_toNat _ (by omega), show (n : Int) / 2 ^ 8 + 64 = ((n / 256 + 64 : Nat) : Int) from by omega, byteI_nat, byteI_nat, Nat.mod_eq_of_lt (show n / 256 + 64 < 256 by omega), Nat.mod_eq_of_lt (show n / 256 < 256 by omega)]
  · rfl

set_option maxHeartbeats 4000000 in
theorem rbuild_spec (h : HdrI) (d s t v : Pl) (w : Int) (G : Mp) (hm : HdrIM h d s t v G) : Spec Try.prog 25 #[.agg (hdrIC h d s t v).toArray, .int .i64 w] [] G (GetBE (buildI h w).1 (buildI h w).2) := by
  refine Spec.introC (args := [_, _]) wide Try.func25 rfl Try.call25 (by rfl) (by rfl) [3, 7, 9, 11, 16] (fun w0 hw0 => ?_)
  intro b
  refine vcCut_of (fun _ : Unit => [(1, .int .i64 w), (2, .pointer (some ⟨b, 0, none⟩))]) (fun _ => [.row b 30 (hdrIC h d s t v) 7]) (fun _ => MT) (fun _ => h.kind = 1 ∨ h.kind = 2 ∨ h.kind = 3 ∨ h.kind = 6) ?_ ?_
  · skip
    refine vcLoad1_row (j := 0) (v := .int .i64 h.kind) ((by first | exact Ent.gnO (by repeat first | exact .here | apply Take.there) (fun w hw => Ob.sl_at hw) | exact Ent.gnO (by repeat first | exact .here | apply Take.there) (fun w hw => Ob.row_at hw)) : Ent _ (RowAt (some ⟨b, 0, none⟩) (hdrIC h d s t v))) rfl ?_
    repeat (first | refine vcIf_yes (by rfl) ?_ | refine vcIf_no (by rfl) ?_)
    refine vcIf_ndec (fun k1 => ?_) (fun k1 => ?_)
    rotate_left
    · repeat (first | refine vcIf_yes (by rfl) ?_ | refine vcIf_no (by rfl) ?_)
      exact ⟨(), by omega, ⟨rfl, rfl, trivial⟩, ⟨_, .cons (by first | ((repeat (first | exact .here | apply Take.there)); done) | exact .none_) .nil⟩, fun _ _ => trivial⟩
    repeat (first | refine vcIf_yes (by rfl) ?_ | refine vcIf_no (by rfl) ?_)
    refine vcLoad1_row (j := 0) (v := .int .i64 h.kind) ((by first | exact Ent.gnO (by repeat first | exact .here | apply Take.there) (fun w hw => Ob.sl_at hw) | exact Ent.gnO (by repeat first | exact .here | apply Take.there) (fun w hw => Ob.row_at hw)) : Ent _ (RowAt (some ⟨b, 0, none⟩) (hdrIC h d s t v))) rfl ?_
    repeat (first | refine vcIf_yes (by rfl) ?_ | refine vcIf_no (by rfl) ?_)
    refine vcIf_ndec (fun k2 => ?_) (fun k2 => ?_)
    rotate_left
    · repeat (first | refine vcIf_yes (by rfl) ?_ | refine vcIf_no (by rfl) ?_)
      exact ⟨(), by omega, ⟨rfl, rfl, trivial⟩, ⟨_, .cons (by first | ((repeat (first | exact .here | apply Take.there)); done) | exact .none_) .nil⟩, fun _ _ => trivial⟩
    repeat (first | refine vcIf_yes (by rfl) ?_ | refine vcIf_no (by rfl) ?_)
    refine vcLoad1_row (j := 0) (v := .int .i64 h.kind) ((by first | exact Ent.gnO (by repeat first | exact .here | apply Take.there) (fun w hw => Ob.sl_at hw) | exact Ent.gnO (by repeat first | exact .here | apply Take.there) (fun w hw => Ob.row_at hw)) : Ent _ (RowAt (some ⟨b, 0, none⟩) (hdrIC h d s t v))) rfl ?_
    repeat (first | refine vcIf_yes (by rfl) ?_ | refine vcIf_no (by rfl) ?_)
    refine vcIf_ndec (fun k3 => ?_) (fun k3 => ?_)
    rotate_left
    · repeat (first | refine vcIf_yes (by rfl) ?_ | refine vcIf_no (by rfl) ?_)
      exact ⟨(), by omega, ⟨rfl, rfl, trivial⟩, ⟨_, .cons (by first | ((repeat (first | exact .here | apply Take.there)); done) | exact .none_) .nil⟩, fun _ _ => trivial⟩
    repeat (first | refine vcIf_yes (by rfl) ?_ | refine vcIf_no (by rfl) ?_)
    refine vcLoad1_row (j := 0) (v := .int .i64 h.kind) ((by first | exact Ent.gnO (by repeat first | exact .here | apply Take.there) (fun w hw => Ob.sl_at hw) | exact Ent.gnO (by repeat first | exact .here | apply Take.there) (fun w hw => Ob.row_at hw)) : Ent _ (RowAt (some ⟨b, 0, none⟩) (hdrIC h d s t v))) rfl ?_
    repeat (first | refine vcIf_yes (by rfl) ?_ | refine vcIf_no (by rfl) ?_)
    refine vcIf_ndec (fun k6 => ?_) (fun k6 => ?_)
    rotate_left
    · repeat (first | refine vcIf_yes (by rfl) ?_ | refine vcIf_no (by rfl) ?_)
      exact ⟨(), by omega, ⟨rfl, rfl, trivial⟩, ⟨_, .cons (by first | ((repeat (first | exact .here | apply Take.there)); done) | exact .none_) .nil⟩, fun _ _ => trivial⟩
    repeat (first | refine vcIf_yes (by rfl) ?_ | refine vcIf_no (by rfl) ?_)
    rw [buildI_err (e := 50) (by unfold rightI rightN; rw [if_pos (by omega)]) (by decide)]
    exact ⟨[], _, MT, .nil, fun _ _ _ => trivial, none, 0, rfl, rfl, fun _ _ => RowAt.nil, Nat.le_refl _⟩
  intro _ hk
  refine vcIf_dec (fun g1 => ?_) (fun g1 => ?_)
  · repeat (first | refine vcIf_yes (by rfl) ?_ | refine vcIf_no (by rfl) ?_)
    rw [buildI_err (e := 10) (by unfold rightI rightN; rw [if_neg (by omega), if_pos (by omega)]) (by decide)]
    exact ⟨[], _, MT, .nil, fun _ _ _ => trivial, none, 0, rfl, rfl, fun _ _ => RowAt.nil, Nat.le_refl _⟩
  repeat (first | refine vcIf_yes (by rfl) ?_ | refine vcIf_no (by rfl) ?_)
  refine vcIf_dec (fun g2 => ?_) (fun g2 => ?_)
  · repeat (first | refine vcIf_yes (by rfl) ?_ | refine vcIf_no (by rfl) ?_)
    rw [buildI_err (e := 10) (by unfold rightI rightN; rw [if_neg (by omega), if_pos (by omega)]) (by decide)]
    exact ⟨[], _, MT, .nil, fun _ _ _ => trivial, none, 0, rfl, rfl, fun _ _ => RowAt.nil, Nat.le_refl _⟩
  repeat (first | refine vcIf_yes (by rfl) ?_ | refine vcIf_no (by rfl) ?_)
  refine vcCut_of (fun _ : Unit => [(1, .int .i64 w), (2, .pointer (some ⟨b, 0, none⟩))]) (fun _ => [.row b 30 (hdrIC h d s t v) 7]) (fun _ => MT) (fun _ => (h.kind = 1 ∨ h.kind = 2 ∨ h.kind = 3 ∨ h.kind = 6) ∧ ¬ (w < 1 ∨ 4 < w) ∧ ¬ (20 < h.dst.length ∨ (h.kind ≠ 6 ∧ 20 < h.src.length))) ?_ ?_
  · refine vcLoad1_row (j := 2) (v := .slice d.1 h.dst.length d.2) ((by first | exact Ent.gnO (by repeat first | exact .here | apply Take.there) (fun w hw => Ob.sl_at hw) | exact Ent.gnO (by repeat first | exact .here | apply Take.there) (fun w hw => Ob.row_at hw)) : Ent _ (RowAt (some ⟨b, 0, none⟩) (hdrIC h d s t v))) rfl ?_
    repeat (first | refine vcIf_yes (by rfl) ?_ | refine vcIf_no (by rfl) ?_)
    refine vcIf_dec (fun g3 => ?_) (fun g3 => ?_)
    · repeat (first | refine vcIf_yes (by rfl) ?_ | refine vcIf_no (by rfl) ?_)
      rw [buildI_err (e := 61) (by unfold rightI rightN; rw [if_neg (by omega), if_neg (by omega), if_pos (by omega)]) (by decide)]
      exact ⟨[], _, MT, .nil, fun _ _ _ => trivial, none, 0, rfl, rfl, fun _ _ => RowAt.nil, Nat.le_refl _⟩
    repeat (first | refine vcIf_yes (by rfl) ?_ | refine vcIf_no (by rfl) ?_)
    refine vcLoad1_row (j := 0) (v := .int .i64 h.kind) ((by first | exact Ent.gnO (by repeat first | exact .here | apply Take.there) (fun w hw => Ob.sl_at hw) | exact Ent.gnO (by repeat first | exact .here | apply Take.there) (fun w hw => Ob.row_at hw)) : Ent _ (RowAt (some ⟨b, 0, none⟩) (hdrIC h d s t v))) rfl ?_
    repeat (first | refine vcIf_yes (by rfl) ?_ | refine vcIf_no (by rfl) ?_)
    refine vcIf_ndec (fun g4 => ?_) (fun g4 => ?_)
    · repeat (first | refine vcIf_yes (by rfl) ?_ | refine vcIf_no (by rfl) ?_)
      refine vcLoad1_row (j := 3) (v := .slice s.1 h.src.length s.2) ((by first | exact Ent.gnO (by repeat first | exact .here | apply Take.there) (fun w hw => Ob.sl_at hw) | exact Ent.gnO (by repeat first | exact .here | apply Take.there) (fun w hw => Ob.row_at hw)) : Ent _ (RowAt (some ⟨b, 0, none⟩) (hdrIC h d s t v))) rfl ?_
      repeat (first | refine vcIf_yes (by rfl) ?_ | refine vcIf_no (by rfl) ?_)
      refine vcIf_dec (fun g5 => ?_) (fun g5 => ?_)
      · repeat (first | refine vcIf_yes (by rfl) ?_ | refine vcIf_no (by rfl) ?_)
        rw [buildI_err (e := 61) (by unfold rightI rightN; rw [if_neg (by omega), if_neg (by omega), if_pos (by omega)]) (by decide)]
        exact ⟨[], _, MT, .nil, fun _ _ _ => trivial, none, 0, rfl, rfl, fun _ _ => RowAt.nil, Nat.le_refl _⟩
      repeat (first | refine vcIf_yes (by rfl) ?_ | refine vcIf_no (by rfl) ?_)
      exact ⟨(), by omega, ⟨rfl, rfl, trivial⟩, ⟨_, .cons (by first | ((repeat (first | exact .here | apply Take.there)); done) | exact .none_) .nil⟩, fun _ _ => trivial⟩
    repeat (first | refine vcIf_yes (by rfl) ?_ | refine vcIf_no (by rfl) ?_)
    exact ⟨(), by omega, ⟨rfl, rfl, trivial⟩, ⟨_, .cons (by first | ((repeat (first | exact .here | apply Take.there)); done) | exact .none_) .nil⟩, fun _ _ => trivial⟩
  rintro _ ⟨hk, hw, hl⟩
  refine vcCut_of (fun _ : Unit => [(1, .int .i64 w), (2, .pointer (some ⟨b, 0, none⟩))]) (fun _ => [.row b 30 (hdrIC h d s t v) 7]) (fun _ => MT) (fun _ => (h.kind = 1 ∨ h.kind = 2 ∨ h.kind = 3 ∨ h.kind = 6) ∧ ¬ (w < 1 ∨ 4 < w) ∧ ¬ (20 < h.dst.length ∨ (h.kind ≠ 6 ∧ 20 < h.src.length)) ∧ ¬ (h.kind = 1 ∧ 16384 < h.tok.length)) ?_ ?_
  · skip
    refine vcLoad1_row (j := 0) (v := .int .i64 h.kind) ((by first | exact Ent.gnO (by repeat first | exact .here | apply Take.there) (fun w hw => Ob.sl_at hw) | exact Ent.gnO (by repeat first | exact .here | apply Take.there) (fun w hw => Ob.row_at hw)) : Ent _ (RowAt (some ⟨b, 0, none⟩) (hdrIC h d s t v))) rfl ?_
    repeat (first | refine vcIf_yes (by rfl) ?_ | refine vcIf_no (by rfl) ?_)
    refine vcIf_dec (fun g1 => ?_) (fun g1 => ?_)
    · repeat (first | refine vcIf_yes (by rfl) ?_ | refine vcIf_no (by rfl) ?_)
      refine vcLoad1_row (j := 4) (v := .slice t.1 h.tok.length t.2) ((by first | exact Ent.gnO (by repeat first | exact .here | apply Take.there) (fun w hw => Ob.sl_at hw) | exact Ent.gnO (by repeat first | exact .here | apply Take.there) (fun w hw => Ob.row_at hw)) : Ent _ (RowAt (some ⟨b, 0, none⟩) (hdrIC h d s t v))) rfl ?_
      repeat (first | refine vcIf_yes (by rfl) ?_ | refine vcIf_no (by rfl) ?_)
      refine vcIf_dec (fun g2 => ?_) (fun g2 => ?_)
      · repeat (first | refine vcIf_yes (by rfl) ?_ | refine vcIf_no (by rfl) ?_)
        rw [buildI_err (e := 52) (by unfold rightI rightN; rw [if_neg (by omega), if_neg (by omega), if_neg (by omega), if_pos (by omega)]) (by decide)]
        exact ⟨[], _, MT, .nil, fun _ _ _ => trivial, none, 0, rfl, rfl, fun _ _ => RowAt.nil, Nat.le_refl _⟩
      repeat (first | refine vcIf_yes (by rfl) ?_ | refine vcIf_no (by rfl) ?_)
      exact ⟨(), by omega, ⟨rfl, rfl, trivial⟩, ⟨_, .cons (by first | ((repeat (first | exact .here | apply Take.there)); done) | exact .none_) .nil⟩, fun _ _ => trivial⟩
    repeat (first | refine vcIf_yes (by rfl) ?_ | refine vcIf_no (by rfl) ?_)
    exact ⟨(), by omega, ⟨rfl, rfl, trivial⟩, ⟨_, .cons (by first | ((repeat (first | exact .here | apply Take.there)); done) | exact .none_) .nil⟩, fun _ _ => trivial⟩
  rintro _ ⟨hk, hw, hl, ht⟩
  refine vcCut_of (fun _ : Unit => [(1, .int .i64 w), (2, .pointer (some ⟨b, 0, none⟩))]) (fun _ => [.row b 30 (hdrIC h d s t v) 7]) (fun _ => MT) (fun _ => (h.kind = 1 ∨ h.kind = 2 ∨ h.kind = 3 ∨ h.kind = 6) ∧ ¬ (w < 1 ∨ 4 < w) ∧ ¬ (20 < h.dst.length ∨ (h.kind ≠ 6 ∧ 20 < h.src.length)) ∧ ¬ (h.kind = 1 ∧ 16384 < h.tok.length) ∧ ¬ (h.kind ≠ 6 ∧ (h.len < 1 ∨ 16384 < h.len))) ?_ ?_
  · skip
    refine vcLoad1_row (j := 0) (v := .int .i64 h.kind) ((by first | exact Ent.gnO (by repeat first | exact .here | apply Take.there) (fun w hw => Ob.sl_at hw) | exact Ent.gnO (by repeat first | exact .here | apply Take.there) (fun w hw => Ob.row_at hw)) : Ent _ (RowAt (some ⟨b, 0, none⟩) (hdrIC h d s t v))) rfl ?_
    repeat (first | refine vcIf_yes (by rfl) ?_ | refine vcIf_no (by rfl) ?_)
    refine vcIf_ndec (fun g1 => ?_) (fun g1 => ?_)
    · repeat (first | refine vcIf_yes (by rfl) ?_ | refine vcIf_no (by rfl) ?_)
      refine vcLoad1_row (j := 6) (v := .int .i64 h.len) ((by first | exact Ent.gnO (by repeat first | exact .here | apply Take.there) (fun w hw => Ob.sl_at hw) | exact Ent.gnO (by repeat first | exact .here | apply Take.there) (fun w hw => Ob.row_at hw)) : Ent _ (RowAt (some ⟨b, 0, none⟩) (hdrIC h d s t v))) rfl ?_
      repeat (first | refine vcIf_yes (by rfl) ?_ | refine vcIf_no (by rfl) ?_)
      refine vcIf_dec (fun g2 => ?_) (fun g2 => ?_)
      · repeat (first | refine vcIf_yes (by rfl) ?_ | refine vcIf_no (by rfl) ?_)
        rw [buildI_err (e := 54) (by unfold rightI rightN; rw [if_neg (by omega), if_neg (by omega), if_neg (by omega), if_neg (by omega), if_pos (by omega)]) (by decide)]
        exact ⟨[], _, MT, .nil, fun _ _ _ => trivial, none, 0, rfl, rfl, fun _ _ => RowAt.nil, Nat.le_refl _⟩
      repeat (first | refine vcIf_yes (by rfl) ?_ | refine vcIf_no (by rfl) ?_)
      refine vcLoad1_row (j := 6) (v := .int .i64 h.len) ((by first | exact Ent.gnO (by repeat first | exact .here | apply Take.there) (fun w hw => Ob.sl_at hw) | exact Ent.gnO (by repeat first | exact .here | apply Take.there) (fun w hw => Ob.row_at hw)) : Ent _ (RowAt (some ⟨b, 0, none⟩) (hdrIC h d s t v))) rfl ?_
      repeat (first | refine vcIf_yes (by rfl) ?_ | refine vcIf_no (by rfl) ?_)
      refine vcIf_dec (fun g3 => ?_) (fun g3 => ?_)
      · repeat (first | refine vcIf_yes (by rfl) ?_ | refine vcIf_no (by rfl) ?_)
        rw [buildI_err (e := 54) (by unfold rightI rightN; rw [if_neg (by omega), if_neg (by omega), if_neg (by omega), if_neg (by omega), if_pos (by omega)]) (by decide)]
        exact ⟨[], _, MT, .nil, fun _ _ _ => trivial, none, 0, rfl, rfl, fun _ _ => RowAt.nil, Nat.le_refl _⟩
      repeat (first | refine vcIf_yes (by rfl) ?_ | refine vcIf_no (by rfl) ?_)
      exact ⟨(), by omega, ⟨rfl, rfl, trivial⟩, ⟨_, .cons (by first | ((repeat (first | exact .here | apply Take.there)); done) | exact .none_) .nil⟩, fun _ _ => trivial⟩
    repeat (first | refine vcIf_yes (by rfl) ?_ | refine vcIf_no (by rfl) ?_)
    exact ⟨(), by omega, ⟨rfl, rfl, trivial⟩, ⟨_, .cons (by first | ((repeat (first | exact .here | apply Take.there)); done) | exact .none_) .nil⟩, fun _ _ => trivial⟩
  rintro _ ⟨hk, hw, hl, ht, hn⟩
  have he : rightI h w = 0 := by unfold rightI rightN; rw [if_neg (by omega), if_neg (by omega), if_neg (by omega), if_neg (by omega), if_neg (by omega)]
  have hB : buildI h w = (if h.kind = 6 then [byteI (63 + w)] ++ h.dst else (headB h w ++ tokB h) ++ lenB h.len, 0) := if_neg (by simpa using he)
  rw [hB]
  clear hB
  refine vcLoad1_row (j := 0) (v := .int .i64 h.kind) ((by first | exact Ent.gnO (by repeat first | exact .here | apply Take.there) (fun w hw => Ob.sl_at hw) | exact Ent.gnO (by repeat first | exact .here | apply Take.there) (fun w hw => Ob.row_at hw)) : Ent _ (RowAt (some ⟨b, 0, none⟩) (hdrIC h d s t v))) rfl ?_
  refine vcIf_dec (fun h6 => ?_) (fun h6 => ?_)
  · rw [if_pos h6]
    refine vcFit_i64 (by omega) ?_
    refine vcFit_i64 (by omega) ?_
    refine vcFit_byte ?_
    rw [show 64 + w - 1 = 63 + w from by omega]
    intro b1
    refine vcLoad1_row (j := 2) (v := .slice d.1 h.dst.length d.2) ((by first | exact Ent.gnO (by repeat first | exact .here | apply Take.there) (fun w hw => Ob.sl_at hw) | exact Ent.gnO (by repeat first | exact .here | apply Take.there) (fun w hw => Ob.row_at hw)) : Ent _ (RowAt (some ⟨b, 0, none⟩) (hdrIC h d s t v))) rfl ?_
    intro b2
    have ej : pieces [(some ⟨b1, 0, none⟩, 1, [byteI (63 + w)]), (d.1, d.2, h.dst)] = [byteI (63 + w)] ++ h.dst := by simp [pieces]
    refine vcCall_of .nil (ej ▸ join_spec (some ⟨b2, 0, none⟩) 2 [(some ⟨b1, 0, none⟩, 1, [byteI (63 + w)]), (d.1, d.2, h.dst)] _ (by first | exact Ent.gnO (by repeat first | exact .here | apply Take.there) (fun w hw => Ob.sl_at hw) | exact Ent.gnO (by repeat first | exact .here | apply Take.there) (fun w hw => Ob.row_at hw)) (fun p hp => by
      rcases List.mem_cons.1 hp with rfl | hp
      · exact (by first | exact Ent.gnO (by repeat first | exact .here | apply Take.there) (fun w hw => Ob.sl_at hw) | exact Ent.gnO (by repeat first | exact .here | apply Take.there) (fun w hw => Ob.row_at hw))
      · obtain rfl := List.mem_singleton.1 hp
        exact Ent.gnG hm.dst) (by rw [ej]; simp only [List.length_append, List.length_cons, List.length_nil]; omega) (by simp)) (fun v' own' N' hv => ?_)
    obtain ⟨Aj, cj, rfl, rfl, rfl, hcj⟩ := hv
    exact ⟨[], _, RowAt Aj (Bs ([byteI (63 + w)] ++ h.dst)), .nil, fun _ _ ho => Ob.sl_at (ho (.sl Aj cj 5 1 (Bs ([byteI (63 + w)] ++ h.dst))) (by simp)), Aj, cj, rfl, rfl, Ent.refl, hcj⟩
  rw [if_neg h6]
  have hhl : (headB h w).length = 7 + h.dst.length + h.src.length := by simp only [headB, List.length_append, List.length_cons, List.length_nil]; omega
  have htk : (tokB h).length ≤ 16400 := by
    unfold tokB
    split
    · rename_i h1
      rw [List.length_append, vput_length]
      have := vsize_le h.tok.length
      omega
    · exact Nat.zero_le _
  refine vcLoad1_row (j := 0) (v := .int .i64 h.kind) ((by first | exact Ent.gnO (by repeat first | exact .here | apply Take.there) (fun w hw => Ob.sl_at hw) | exact Ent.gnO (by repeat first | exact .here | apply Take.there) (fun w hw => Ob.row_at hw)) : Ent _ (RowAt (some ⟨b, 0, none⟩) (hdrIC h d s t v))) rfl ?_
  refine vcFit_i64 (by omega) ?_
  refine vcFit_i64 (by omega) ?_
  refine vcFit_i64 (by omega) ?_
  refine vcFit_i64 (by omega) ?_
  refine vcFit_i64 (by omega) ?_
  refine vcFit_byte ?_
  rw [show 192 + 16 * (h.kind - 1) + w - 1 = 191 + 16 * (h.kind - 1) + w from by omega]
  intro b1
  refine vcLoad1_row (j := 2) (v := .slice d.1 h.dst.length d.2) ((by first | exact Ent.gnO (by repeat first | exact .here | apply Take.there) (fun w hw => Ob.sl_at hw) | exact Ent.gnO (by repeat first | exact .here | apply Take.there) (fun w hw => Ob.row_at hw)) : Ent _ (RowAt (some ⟨b, 0, none⟩) (hdrIC h d s t v))) rfl ?_
  refine vcFit_byte ?_
  intro b2
  refine vcLoad1_row (j := 2) (v := .slice d.1 h.dst.length d.2) ((by first | exact Ent.gnO (by repeat first | exact .here | apply Take.there) (fun w hw => Ob.sl_at hw) | exact Ent.gnO (by repeat first | exact .here | apply Take.there) (fun w hw => Ob.row_at hw)) : Ent _ (RowAt (some ⟨b, 0, none⟩) (hdrIC h d s t v))) rfl ?_
  refine vcLoad1_row (j := 3) (v := .slice s.1 h.src.length s.2) ((by first | exact Ent.gnO (by repeat first | exact .here | apply Take.there) (fun w hw => Ob.sl_at hw) | exact Ent.gnO (by repeat first | exact .here | apply Take.there) (fun w hw => Ob.row_at hw)) : Ent _ (RowAt (some ⟨b, 0, none⟩) (hdrIC h d s t v))) rfl ?_
  refine vcFit_byte ?_
  intro b3
  refine vcLoad1_row (j := 3) (v := .slice s.1 h.src.length s.2) ((by first | exact Ent.gnO (by repeat first | exact .here | apply Take.there) (fun w hw => Ob.sl_at hw) | exact Ent.gnO (by repeat first | exact .here | apply Take.there) (fun w hw => Ob.row_at hw)) : Ent _ (RowAt (some ⟨b, 0, none⟩) (hdrIC h d s t v))) rfl ?_
  intro b4
  have ej : pieces [(some ⟨b1, 0, none⟩, 5, [byteI (191 + 16 * (h.kind - 1) + w), 0, 0, 0, 1]), (some ⟨b2, 0, none⟩, 1, [byteI h.dst.length]), (d.1, d.2, h.dst), (some ⟨b3, 0, none⟩, 1, [byteI h.src.length]), (s.1, s.2, h.src)] = headB h w := by simp [pieces, headB]
  refine vcCall_of .nil (ej ▸ join_spec (some ⟨b4, 0, none⟩) 5 [(some ⟨b1, 0, none⟩, 5, [byteI (191 + 16 * (h.kind - 1) + w), 0, 0, 0, 1]), (some ⟨b2, 0, none⟩, 1, [byteI h.dst.length]), (d.1, d.2, h.dst), (some ⟨b3, 0, none⟩, 1, [byteI h.src.length]), (s.1, s.2, h.src)] _ (by first | exact Ent.gnO (by repeat first | exact .here | apply Take.there) (fun w hw => Ob.sl_at hw) | exact Ent.gnO (by repeat first | exact .here | apply Take.there) (fun w hw => Ob.row_at hw)) (fun p hp => by
      rcases List.mem_cons.1 hp with rfl | hp
      · exact (by first | exact Ent.gnO (by repeat first | exact .here | apply Take.there) (fun w hw => Ob.sl_at hw) | exact Ent.gnO (by repeat first | exact .here | apply Take.there) (fun w hw => Ob.row_at hw))
      rcases List.mem_cons.1 hp with rfl | hp
      · exact (by first | exact Ent.gnO (by repeat first | exact .here | apply Take.there) (fun w hw => Ob.sl_at hw) | exact Ent.gnO (by repeat first | exact .here | apply Take.there) (fun w hw => Ob.row_at hw))
      rcases List.mem_cons.1 hp with rfl | hp
      · exact Ent.gnG hm.dst
      rcases List.mem_cons.1 hp with rfl | hp
      · exact (by first | exact Ent.gnO (by repeat first | exact .here | apply Take.there) (fun w hw => Ob.sl_at hw) | exact Ent.gnO (by repeat first | exact .here | apply Take.there) (fun w hw => Ob.row_at hw))
      · obtain rfl := List.mem_singleton.1 hp
        exact Ent.gnG hm.src) (by rw [ej, hhl]; omega) (by simp)) (fun v' own' N' hv => ?_)
  obtain ⟨A1, c1, rfl, rfl, rfl, hc1⟩ := hv
  refine vcCut_of (fun g : List UInt8 × Pl => [(2, .pointer (some ⟨b, 0, none⟩)), (6, .slice g.2.1 g.1.length g.2.2)]) (fun g => [.row b 30 (hdrIC h d s t v) 7, .sl g.2.1 g.2.2 5 1 (Bs g.1)]) (fun _ => MT) (fun g => g.1 = headB h w ++ tokB h ∧ g.1.length ≤ g.2.2) ?_ ?_
  · refine vcLoad1_row (j := 0) (v := .int .i64 h.kind) ((by first | exact Ent.gnO (by repeat first | exact .here | apply Take.there) (fun w hw => Ob.sl_at hw) | exact Ent.gnO (by repeat first | exact .here | apply Take.there) (fun w hw => Ob.row_at hw)) : Ent _ (RowAt (some ⟨b, 0, none⟩) (hdrIC h d s t v))) rfl ?_
    refine vcIf_dec (fun k1 => ?_) (fun k1 => ?_)
    · have hv8 := vsize_le h.tok.length
      have hvl := vput_length h.tok.length
      refine vcDraw_mix [0,1,2,3,5,6,4,7,8,9] (RowAt (some ⟨b, 0, none⟩) (hdrIC h d s t v)) (by kernel_rfl) (by first | exact Ent.gnO (by repeat first | exact .here | apply Take.there) (fun w hw => Ob.sl_at hw) | exact Ent.gnO (by repeat first | exact .here | apply Take.there) (fun w hw => Ob.row_at hw)) ?_
      refine vcLoad1_row (j := 4) (v := .slice t.1 h.tok.length t.2) Ent.refl rfl ?_
      refine vcLoad1_row (j := 4) (v := .slice t.1 h.tok.length t.2) Ent.refl rfl ?_
      refine vcCall_of .nil (rput_spec h.tok.length _) (fun v' own' N' hv => ?_)
      obtain ⟨A4, c4, rfl, rfl, rfl, hc4⟩ := hv
      refine vcMix_same (by first | exact Ent.gnO (by repeat first | exact .here | apply Take.there) (fun w hw => Ob.sl_at hw) | exact Ent.gnO (by repeat first | exact .here | apply Take.there) (fun w hw => Ob.row_at hw)) ?_
      intro b5
      refine vcMix_same (by first | exact Ent.gnO (by repeat first | exact .here | apply Take.there) (fun w hw => Ob.sl_at hw) | exact Ent.gnO (by repeat first | exact .here | apply Take.there) (fun w hw => Ob.row_at hw)) ?_
      have ek : pieces [(A1, c1, headB h w), (A4, c4, vput h.tok.length), (t.1, t.2, h.tok)] = headB h w ++ tokB h := by simp [pieces, show tokB h = vput h.tok.length ++ h.tok from if_pos k1]
      refine vcCall_of .nil (ek ▸ join_spec (some ⟨b5, 0, none⟩) 3 [(A1, c1, headB h w), (A4, c4, vput h.tok.length), (t.1, t.2, h.tok)] _ (by first | exact Ent.gnO (by repeat first | exact .here | apply Take.there) (fun w hw => Ob.sl_at hw) | exact Ent.gnO (by repeat first | exact .here | apply Take.there) (fun w hw => Ob.row_at hw)) (fun p hp => by
        rcases List.mem_cons.1 hp with rfl | hp
        · exact (by first | exact Ent.gnO (by repeat first | exact .here | apply Take.there) (fun w hw => Ob.sl_at hw) | exact Ent.gnO (by repeat first | exact .here | apply Take.there) (fun w hw => Ob.row_at hw))
        rcases List.mem_cons.1 hp with rfl | hp
        · exact (by first | exact Ent.gnO (by repeat first | exact .here | apply Take.there) (fun w hw => Ob.sl_at hw) | exact Ent.gnO (by repeat first | exact .here | apply Take.there) (fun w hw => Ob.row_at hw))
        · obtain rfl := List.mem_singleton.1 hp
          exact Ent.gnG hm.tok) (by rw [ek, List.length_append, hhl]; omega) (by simp)) (fun v' own' N' hv => ?_)
      obtain ⟨A6, c6, rfl, rfl, rfl, hc6⟩ := hv
      refine vcMix_same (by first | exact Ent.gnO (by repeat first | exact .here | apply Take.there) (fun w hw => Ob.sl_at hw) | exact Ent.gnO (by repeat first | exact .here | apply Take.there) (fun w hw => Ob.row_at hw)) ?_
      exact ⟨(headB h w ++ tokB h, A6, c6), ⟨rfl, hc6⟩, ⟨rfl, rfl, trivial⟩, ⟨_, .cons (by first | ((repeat (first | exact .here | apply Take.there)); done) | exact .none_) (.cons (by first | ((repeat (first | exact .here | apply Take.there)); done) | exact .none_) .nil)⟩, fun _ _ => trivial⟩
    · exact ⟨(headB h w, A1, c1), ⟨by show headB h w = headB h w ++ tokB h; rw [show tokB h = [] from if_neg k1, List.append_nil], hc1⟩, ⟨rfl, rfl, trivial⟩, ⟨_, .cons (by first | ((repeat (first | exact .here | apply Take.there)); done) | exact .none_) (.cons (by first | ((repeat (first | exact .here | apply Take.there)); done) | exact .none_) .nil)⟩, fun _ _ => trivial⟩
  · rintro ⟨x, A2, c2⟩ ⟨hx, hc2⟩
    simp only at hx hc2
    have hxl : x.length ≤ 16500 := by rw [hx, List.length_append, hhl]; omega
    rw [← hx]
    clear hx ej
    obtain ⟨n, hnn⟩ : ∃ n : Nat, h.len = (n : Int) := ⟨h.len.toNat, by omega⟩
    have hv8 := vsize_le h.len
    have hvl := vput_length h.len
    refine vcLoad1_row (j := 6) (v := .int .i64 h.len) ((by first | exact Ent.gnO (by repeat first | exact .here | apply Take.there) (fun w hw => Ob.sl_at hw) | exact Ent.gnO (by repeat first | exact .here | apply Take.there) (fun w hw => Ob.row_at hw)) : Ent _ (RowAt (some ⟨b, 0, none⟩) (hdrIC h d s t v))) rfl ?_
    refine vcIf_dec (fun hlt => ?_) (fun hlt => ?_)
    · rw [show lenB h.len = [64, byteI h.len] from by rw [hnn]; exact lenB_short (by omega)]
      refine vcLoad1_row (j := 6) (v := .int .i64 h.len) ((by first | exact Ent.gnO (by repeat first | exact .here | apply Take.there) (fun w hw => Ob.sl_at hw) | exact Ent.gnO (by repeat first | exact .here | apply Take.there) (fun w hw => Ob.row_at hw)) : Ent _ (RowAt (some ⟨b, 0, none⟩) (hdrIC h d s t v))) rfl ?_
      refine vcFit_byte ?_
      intro b5
      intro b7
      have ek : pieces [(A2, c2, x), (some ⟨b5, 0, none⟩, 2, [64, byteI h.len])] = x ++ [64, byteI h.len] := by simp [pieces]
      refine vcCall_of .nil (ek ▸ join_spec (some ⟨b7, 0, none⟩) 2 [(A2, c2, x), (some ⟨b5, 0, none⟩, 2, [64, byteI h.len])] _ (by first | exact Ent.gnO (by repeat first | exact .here | apply Take.there) (fun w hw => Ob.sl_at hw) | exact Ent.gnO (by repeat first | exact .here | apply Take.there) (fun w hw => Ob.row_at hw)) (fun p hp => by
        rcases List.mem_cons.1 hp with rfl | hp
        · exact (by first | exact Ent.gnO (by repeat first | exact .here | apply Take.there) (fun w hw => Ob.sl_at hw) | exact Ent.gnO (by repeat first | exact .here | apply Take.there) (fun w hw => Ob.row_at hw))
        · obtain rfl := List.mem_singleton.1 hp
          exact (by first | exact Ent.gnO (by repeat first | exact .here | apply Take.there) (fun w hw => Ob.sl_at hw) | exact Ent.gnO (by repeat first | exact .here | apply Take.there) (fun w hw => Ob.row_at hw))) (by rw [ek]; simp only [List.length_append, List.length_cons, List.length_nil]; omega) (by simp)) (fun v' own' N' hv => ?_)
      obtain ⟨Aj, cj, rfl, rfl, rfl, hcj⟩ := hv
      exact ⟨[], _, RowAt Aj (Bs (x ++ [64, byteI h.len])), .nil, fun _ _ ho => Ob.sl_at (ho (.sl Aj cj 5 1 (Bs (x ++ [64, byteI h.len]))) (by simp)), Aj, cj, rfl, rfl, Ent.refl, hcj⟩
    · rw [show lenB h.len = vput h.len from by rw [hnn]; exact lenB_long (by omega) (by omega)]
      refine vcLoad1_row (j := 6) (v := .int .i64 h.len) ((by first | exact Ent.gnO (by repeat first | exact .here | apply Take.there) (fun w hw => Ob.sl_at hw) | exact Ent.gnO (by repeat first | exact .here | apply Take.there) (fun w hw => Ob.row_at hw)) : Ent _ (RowAt (some ⟨b, 0, none⟩) (hdrIC h d s t v))) rfl ?_
      refine vcCall_of .nil (rput_spec h.len _) (fun v' own' N' hv => ?_)
      obtain ⟨A4, c4, rfl, rfl, rfl, hc4⟩ := hv
      intro b7
      have ek : pieces [(A2, c2, x), (A4, c4, vput h.len)] = x ++ vput h.len := by simp [pieces]
      refine vcCall_of .nil (ek ▸ join_spec (some ⟨b7, 0, none⟩) 2 [(A2, c2, x), (A4, c4, vput h.len)] _ (by first | exact Ent.gnO (by repeat first | exact .here | apply Take.there) (fun w hw => Ob.sl_at hw) | exact Ent.gnO (by repeat first | exact .here | apply Take.there) (fun w hw => Ob.row_at hw)) (fun p hp => by
        rcases List.mem_cons.1 hp with rfl | hp
        · exact (by first | exact Ent.gnO (by repeat first | exact .here | apply Take.there) (fun w hw => Ob.sl_at hw) | exact Ent.gnO (by repeat first | exact .here | apply Take.there) (fun w hw => Ob.row_at hw))
        · obtain rfl := List.mem_singleton.1 hp
          exact (by first | exact Ent.gnO (by repeat first | exact .here | apply Take.there) (fun w hw => Ob.sl_at hw) | exact Ent.gnO (by repeat first | exact .here | apply Take.there) (fun w hw => Ob.row_at hw))) (by rw [ek]; simp only [List.length_append]; omega) (by simp)) (fun v' own' N' hv => ?_)
      obtain ⟨Aj, cj, rfl, rfl, rfl, hcj⟩ := hv
      exact ⟨[], _, RowAt Aj (Bs (x ++ vput h.len)), .nil, fun _ _ ho => Ob.sl_at (ho (.sl Aj cj 5 1 (Bs (x ++ vput h.len))) (by simp)), Aj, cj, rfl, rfl, Ent.refl, hcj⟩
end Go.Proofs.Ytlobimomeeppeaa
