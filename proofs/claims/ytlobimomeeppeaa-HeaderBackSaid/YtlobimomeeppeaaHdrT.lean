/- Headers: Build. -/
import Derived.Test.YtlobimomeeppeaaHdrS
namespace Go.Proofs.Ytlobimomeeppeaa
open Go.Proofs
set_option maxRecDepth 10000

def headB (h : HdrI) (w : Int) : List UInt8 := (([byteI (191 + 16 * (h.kind - 1) + w), 0, 0, 0, 1, byteI h.dst.length] ++ h.dst) ++ [byteI h.src.length]) ++ h.src
def tokB (h : HdrI) : List UInt8 := if h.kind = 1 then vput h.tok.length ++ h.tok else []
def lenB (n : Int) : List UInt8 := if n < 16384 then [byteI (n / 2 ^ 8 + 64), byteI n] else vput n
def buildI (h : HdrI) (w : Int) : List UInt8 × Int := if rightI h w ≠ 0 then ([], rightI h w) else (if h.kind = 6 then [byteI (63 + w)] ++ h.dst else (headB h w ++ tokB h) ++ lenB h.len, 0)
structure RightOk (h : HdrI) (w : Int) : Prop where
  w1 : 1 ≤ w
  w4 : w ≤ 4
  dl : h.dst.length ≤ 20
  kd : h.kind = 6 ∨ (1 ≤ h.kind ∧ h.kind ≤ 3 ∧ h.src.length ≤ 20 ∧ 1 ≤ h.len ∧ h.len ≤ 16384 ∧ (h.kind = 1 → h.tok.length ≤ 16384))
theorem right_ok {h : HdrI} {w : Int} (hr : rightI h w = 0) : RightOk h w := by
  unfold rightI rightN at hr
  split at hr
  · exact absurd hr (by decide)
  · split at hr
    · exact absurd hr (by decide)
    · split at hr
      · exact absurd hr (by decide)
      · split at hr
        · exact absurd hr (by decide)
        · split at hr
          · exact absurd hr (by decide)
          · exact ⟨by omega, by omega, by omega, by omega⟩
theorem or128 : ∀ v, v < 4 → bitI .or .u8 ((byteI (64 + (((v : Nat) : Int) + 1) - 1)).toNat : Int) 128 = ((192 + v : Nat) : Int) := by decide +kernel
theorem firstB_or : ∀ k, k < 3 → ∀ v, v < 4 → bitI .or .u8 ((192 + v : Nat) : Int) ((byteI (((byteI (((k : Nat) : Int) + 1 - 1)).toNat : Int) * 2 ^ 4)).toNat : Int) = ((byteI (191 + 16 * (((k : Nat) : Int) + 1 - 1) + (((v : Nat) : Int) + 1))).toNat : Int) := by decide +kernel
theorem or64 : ∀ x, x < 64 → bitI .or .u8 ((byteI ((x : Nat) : Int)).toNat : Int) 64 = ((byteI (((x : Nat) : Int) + 64)).toNat : Int) := by decide +kernel

set_option maxHeartbeats 2000000 in
theorem build_spec (h : HdrI) (d s t v : Pl) (w : Int) (G : Mp) (hm : HdrIM h d s t v G) : Spec Try.prog 24 #[.agg (hdrIC h d s t v).toArray, .int .i64 w] [] G (GetBE (buildI h w).1 (buildI h w).2) := by
  refine Spec.introC (args := [_, _]) wide Try.func24 rfl Try.call24 (by rfl) (by rfl) [13] (fun w0 hw0 => ?_)
  intro b
  refine vcLoadN_0 (xs := hdrIC h d s t v) (by first | exact Ent.gnO (by repeat first | exact .here | apply Take.there) (fun w hw => Ob.sl_at hw) | exact Ent.gnO (by repeat first | exact .here | apply Take.there) (fun w hw => Ob.row_at hw)) rfl ?_
  refine vcCall_of .nil (right_spec h d s t v w _) (fun v' own' N' hv => ?_)
  obtain ⟨rfl, rfl, rfl⟩ := hv
  refine vcIf_ndec (fun he => ?_) (fun he => ?_)
  · rw [show buildI h w = ([], rightI h w) from if_pos he]
    exact ⟨[], _, MT, .nil, fun _ _ _ => trivial, none, 0, rfl, rfl, fun _ _ => RowAt.nil, Nat.le_refl _⟩
  have hB : buildI h w = (if h.kind = 6 then [byteI (63 + w)] ++ h.dst else (headB h w ++ tokB h) ++ lenB h.len, 0) := if_neg (by simpa using he)
  rw [hB]
  obtain ⟨hw1, hw4, hdl, hkd⟩ := right_ok he
  clear hB he
  refine vcFit_i64 (by omega) ?_
  refine vcFit_i64 (by omega) ?_
  refine vcFit_byte ?_
  refine vcLoad1_row (j := 0) (v := .int .i64 h.kind) ((by first | exact Ent.gnO (by repeat first | exact .here | apply Take.there) (fun w hw => Ob.sl_at hw) | exact Ent.gnO (by repeat first | exact .here | apply Take.there) (fun w hw => Ob.row_at hw)) : Ent _ (RowAt (some ⟨b, 0, none⟩) (hdrIC h d s t v))) rfl ?_
  refine vcIf_dec (fun h6 => ?_) (fun h6 => ?_)
  · rw [if_pos h6]
    intro bn
    refine vcLoad1_row (j := 2) (v := .slice d.1 h.dst.length d.2) ((by first | exact Ent.gnO (by repeat first | exact .here | apply Take.there) (fun w hw => Ob.sl_at hw) | exact Ent.gnO (by repeat first | exact .here | apply Take.there) (fun w hw => Ob.row_at hw)) : Ent _ (RowAt (some ⟨b, 0, none⟩) (hdrIC h d s t v))) rfl ?_
    refine vcApp_of (Bs [byteI (64 + w - 1)]) _ (Bs h.dst) (by first | ((repeat (first | exact .here | apply Take.there)); done) | exact .none_) rfl (by rw [Bs_length, Nat.mul_one]) (by omega) (Bs_one _) (Ent.gnG hm.dst) (by omega) (by omega) (fun A' cap' hcap => ?_)
    rw [← Bs_append, show 64 + w - 1 = 63 + w from by omega, show 1 + h.dst.length = ([byteI (63 + w)] ++ h.dst).length from by simp [Nat.add_comm]]
    exact ⟨[], _, RowAt A' (Bs ([byteI (63 + w)] ++ h.dst)), .nil, fun x _ ho => Ob.sl_at (ho (.sl A' cap' 5 1 (Bs ([byteI (63 + w)] ++ h.dst))) (by simp)), A', cap', rfl, rfl, Ent.refl, by simp only [List.length_append, List.length_cons, List.length_nil]; omega⟩
  rw [if_neg h6]
  obtain ⟨hk1, hk3, hsl, hl1, hl2, htl⟩ : 1 ≤ h.kind ∧ h.kind ≤ 3 ∧ h.src.length ≤ 20 ∧ 1 ≤ h.len ∧ h.len ≤ 16384 ∧ (h.kind = 1 → h.tok.length ≤ 16384) := hkd.resolve_left h6
  obtain ⟨k, hk⟩ : ∃ k : Nat, h.kind = (k : Int) + 1 := ⟨(h.kind - 1).toNat, by omega⟩
  obtain ⟨u, hu⟩ : ∃ u : Nat, w = (u : Int) + 1 := ⟨(w - 1).toNat, by omega⟩
  have e1 : bitI .or .u8 ((byteI (64 + w - 1)).toNat : Int) 128 = ((192 + u : Nat) : Int) := by rw [hu]; exact or128 u (by omega)
  have e2 : bitI .or .u8 ((192 + u : Nat) : Int) ((byteI (((byteI (h.kind - 1)).toNat : Int) * 2 ^ 4)).toNat : Int) = ((byteI (191 + 16 * (h.kind - 1) + w)).toNat : Int) := by rw [hk, hu]; exact firstB_or k (by omega) u (by omega)
  have hhl : (headB h w).length = 7 + h.dst.length + h.src.length := by simp only [headB, List.length_append, List.length_cons, List.length_nil]; omega
  have htk : (tokB h).length ≤ 16400 := by
    unfold tokB
    split
    · rename_i h1
      have := htl h1
      rw [List.length_append, vput_length]
      have := vsize_le h.tok.length
      omega
    · exact Nat.zero_le _
  refine vcBit_as _ e1 ?_
  refine vcLoad1_row (j := 0) (v := .int .i64 h.kind) ((by first | exact Ent.gnO (by repeat first | exact .here | apply Take.there) (fun w hw => Ob.sl_at hw) | exact Ent.gnO (by repeat first | exact .here | apply Take.there) (fun w hw => Ob.row_at hw)) : Ent _ (RowAt (some ⟨b, 0, none⟩) (hdrIC h d s t v))) rfl ?_
  refine vcFit_i64 (by omega) ?_
  refine vcFit_byte ?_
  refine vcShl_lit 4 rfl (by decide) ?_
  refine vcFit_byte ?_
  refine vcBit_as _ e2 ?_
  refine vcLoad1_row (j := 2) (v := .slice d.1 h.dst.length d.2) ((by first | exact Ent.gnO (by repeat first | exact .here | apply Take.there) (fun w hw => Ob.sl_at hw) | exact Ent.gnO (by repeat first | exact .here | apply Take.there) (fun w hw => Ob.row_at hw)) : Ent _ (RowAt (some ⟨b, 0, none⟩) (hdrIC h d s t v))) rfl ?_
  refine vcFit_byte ?_
  intro bn
  refine vcLoad1_row (j := 2) (v := .slice d.1 h.dst.length d.2) ((by first | exact Ent.gnO (by repeat first | exact .here | apply Take.there) (fun w hw => Ob.sl_at hw) | exact Ent.gnO (by repeat first | exact .here | apply Take.there) (fun w hw => Ob.row_at hw)) : Ent _ (RowAt (some ⟨b, 0, none⟩) (hdrIC h d s t v))) rfl ?_
  refine vcApp_of (Bs [byteI (191 + 16 * (h.kind - 1) + w), 0, 0, 0, 1, byteI h.dst.length]) _ (Bs h.dst) (by first | ((repeat (first | exact .here | apply Take.there)); done) | exact .none_) rfl (by rw [Bs_length, Nat.mul_one]) (by omega) (Bs_one _) (Ent.gnG hm.dst) (by omega) (by omega) (fun A1 c1 hc1 => ?_)
  rw [← Bs_append]
  refine vcDraw_mix [0,1,2,3,4,7,8,5,6,9,10] (RowAt (some ⟨b, 0, none⟩) (hdrIC h d s t v)) (by kernel_rfl) (by first | exact Ent.gnO (by repeat first | exact .here | apply Take.there) (fun w hw => Ob.sl_at hw) | exact Ent.gnO (by repeat first | exact .here | apply Take.there) (fun w hw => Ob.row_at hw)) ?_
  refine vcLoad1_row (j := 3) (v := .slice s.1 h.src.length s.2) Ent.refl rfl ?_
  refine vcFit_byte ?_
  refine vcLoad1_row (j := 3) (v := .slice s.1 h.src.length s.2) Ent.refl rfl ?_
  intro bm
  refine vcMix_same (by first | exact Ent.gnO (by repeat first | exact .here | apply Take.there) (fun w hw => Ob.sl_at hw) | exact Ent.gnO (by repeat first | exact .here | apply Take.there) (fun w hw => Ob.row_at hw)) ?_
  refine vcApp_of (Bs ([byteI (191 + 16 * (h.kind - 1) + w), 0, 0, 0, 1, byteI h.dst.length] ++ h.dst)) _ (Bs [byteI h.src.length]) (by first | ((repeat (first | exact .here | apply Take.there)); done) | exact .none_) (by simp only [Bs_length, List.length_append, List.length_cons, List.length_nil]; omega) rfl (by omega) (Bs_one _) (by first | exact Ent.gnO (by repeat first | exact .here | apply Take.there) (fun w hw => Ob.sl_at hw) | exact Ent.gnO (by repeat first | exact .here | apply Take.there) (fun w hw => Ob.row_at hw)) (by omega) (by omega) (fun A2 c2 hc2 => ?_)
  rw [← Bs_append]
  refine vcMix_same (by first | exact Ent.gnO (by repeat first | exact .here | apply Take.there) (fun w hw => Ob.sl_at hw) | exact Ent.gnO (by repeat first | exact .here | apply Take.there) (fun w hw => Ob.row_at hw)) ?_
  refine vcApp_of (Bs (([byteI (191 + 16 * (h.kind - 1) + w), 0, 0, 0, 1, byteI h.dst.length] ++ h.dst) ++ [byteI h.src.length])) _ (Bs h.src) (by first | ((repeat (first | exact .here | apply Take.there)); done) | exact .none_) (by simp only [Bs_length, List.length_append, List.length_cons, List.length_nil]; omega) (by rw [Bs_length, Nat.mul_one]) (by omega) (Bs_one _) (Ent.gnG hm.src) (by omega) (by omega) (fun A3 c3 hc3 => ?_)
  rw [← Bs_append]
  refine vcMix_same (by first | exact Ent.gnO (by repeat first | exact .here | apply Take.there) (fun w hw => Ob.sl_at hw) | exact Ent.gnO (by repeat first | exact .here | apply Take.there) (fun w hw => Ob.row_at hw)) ?_
  refine vcCut_of (fun g : List UInt8 × Pl => [(2, .pointer (some ⟨b, 0, none⟩)), (8, .slice g.2.1 g.1.length g.2.2)]) (fun g => [.row b 26 (hdrIC h d s t v) 7, .sl g.2.1 g.2.2 5 1 (Bs g.1)]) (fun _ => MT) (fun g => g.1 = headB h w ++ tokB h ∧ g.1.length ≤ g.2.2) ?_ ?_
  · refine vcLoad1_row (j := 0) (v := .int .i64 h.kind) ((by first | exact Ent.gnO (by repeat first | exact .here | apply Take.there) (fun w hw => Ob.sl_at hw) | exact Ent.gnO (by repeat first | exact .here | apply Take.there) (fun w hw => Ob.row_at hw)) : Ent _ (RowAt (some ⟨b, 0, none⟩) (hdrIC h d s t v))) rfl ?_
    refine vcIf_dec (fun h1 => ?_) (fun h1 => ?_)
    · have htl := htl h1
      have hv8 := vsize_le h.tok.length
      have hvl := vput_length h.tok.length
      refine vcLoad1_row (j := 4) (v := .slice t.1 h.tok.length t.2) ((by first | exact Ent.gnO (by repeat first | exact .here | apply Take.there) (fun w hw => Ob.sl_at hw) | exact Ent.gnO (by repeat first | exact .here | apply Take.there) (fun w hw => Ob.row_at hw)) : Ent _ (RowAt (some ⟨b, 0, none⟩) (hdrIC h d s t v))) rfl ?_
      refine vcCall_of .nil (put_spec h.tok.length (by omega) _) (fun v' own' N' hv => ?_)
      obtain ⟨A4, c4, rfl, rfl, rfl, hc4⟩ := hv
      refine vcDraw_mix [0,1,3,4,2,5,6] (RowAt (some ⟨b, 0, none⟩) (hdrIC h d s t v)) (by kernel_rfl) (by first | exact Ent.gnO (by repeat first | exact .here | apply Take.there) (fun w hw => Ob.sl_at hw) | exact Ent.gnO (by repeat first | exact .here | apply Take.there) (fun w hw => Ob.row_at hw)) ?_
      refine vcLoad1_row (j := 4) (v := .slice t.1 h.tok.length t.2) Ent.refl rfl ?_
      refine vcApp_of (Bs (headB h w)) _ (Bs (vput h.tok.length)) (by first | ((repeat (first | exact .here | apply Take.there)); done) | exact .none_) (by rw [Bs_length, hhl]; omega) (by rw [Bs_length, Nat.mul_one]) (by omega) (Bs_one _) (by first | exact Ent.gnO (by repeat first | exact .here | apply Take.there) (fun w hw => Ob.sl_at hw) | exact Ent.gnO (by repeat first | exact .here | apply Take.there) (fun w hw => Ob.row_at hw)) (by omega) (by omega) (fun A5 c5 hc5 => ?_)
      rw [← Bs_append]
      refine vcMix_same (by first | exact Ent.gnO (by repeat first | exact .here | apply Take.there) (fun w hw => Ob.sl_at hw) | exact Ent.gnO (by repeat first | exact .here | apply Take.there) (fun w hw => Ob.row_at hw)) ?_
      refine vcApp_of (Bs (headB h w ++ vput h.tok.length)) _ (Bs h.tok) (by first | ((repeat (first | exact .here | apply Take.there)); done) | exact .none_) (by rw [Bs_length, List.length_append, hhl]; omega) (by rw [Bs_length, Nat.mul_one]) (by omega) (Bs_one _) (Ent.gnG hm.tok) (by omega) (by omega) (fun A6 c6 hc6 => ?_)
      rw [← Bs_append]
      refine vcMix_same (by first | exact Ent.gnO (by repeat first | exact .here | apply Take.there) (fun w hw => Ob.sl_at hw) | exact Ent.gnO (by repeat first | exact .here | apply Take.there) (fun w hw => Ob.row_at hw)) ?_
      have hlen : (headB h w ++ vput h.tok.length ++ h.tok).length = 6 + h.dst.length + 1 + h.src.length + (vput h.tok.length).length + h.tok.length := by simp only [List.length_append, hhl]; omega
      refine ⟨(headB h w ++ vput h.tok.length ++ h.tok, A6, c6), ⟨by show headB h w ++ vput h.tok.length ++ h.tok = headB h w ++ tokB h; rw [show tokB h = vput h.tok.length ++ h.tok from if_pos h1, List.append_assoc], by show (headB h w ++ vput h.tok.length ++ h.tok).length ≤ c6; omega⟩, ⟨rfl, by show some (Value.slice A6 _ c6) = some (Value.slice A6 (headB h w ++ vput h.tok.length ++ h.tok).length c6); rw [hlen], trivial⟩, ⟨_, .cons (by first | ((repeat (first | exact .here | apply Take.there)); done) | exact .none_) (.cons (by first | ((repeat (first | exact .here | apply Take.there)); done) | exact .none_) .nil)⟩, fun _ _ => trivial⟩
    · refine ⟨(headB h w, A3, c3), ⟨by show headB h w = headB h w ++ tokB h; rw [show tokB h = [] from if_neg h1, List.append_nil], by show (headB h w).length ≤ c3; omega⟩, ⟨rfl, by show some (Value.slice A3 _ c3) = some (Value.slice A3 (headB h w).length c3); rw [hhl, show 6 + h.dst.length + 1 + h.src.length = 7 + h.dst.length + h.src.length from by omega], trivial⟩, ⟨_, .cons (by first | ((repeat (first | exact .here | apply Take.there)); done) | exact .none_) (.cons (by first | ((repeat (first | exact .here | apply Take.there)); done) | exact .none_) .nil)⟩, fun _ _ => trivial⟩
  · rintro ⟨x, A1, c1⟩ ⟨hx, hc1⟩
    simp only at hx hc1
    have hxl : x.length ≤ 16500 := by rw [hx, List.length_append, hhl]; omega
    rw [← hx]
    clear hx
    refine vcLoad1_row (j := 6) (v := .int .i64 h.len) ((by first | exact Ent.gnO (by repeat first | exact .here | apply Take.there) (fun w hw => Ob.sl_at hw) | exact Ent.gnO (by repeat first | exact .here | apply Take.there) (fun w hw => Ob.row_at hw)) : Ent _ (RowAt (some ⟨b, 0, none⟩) (hdrIC h d s t v))) rfl ?_
    refine vcIf_dec (fun hlt => ?_) (fun hlt => ?_)
    · obtain ⟨n, hn⟩ : ∃ n : Nat, h.len = (n : Int) := ⟨h.len.toNat, by omega⟩
      have e3 : bitI .or .u8 ((byteI (h.len / 2 ^ 8)).toNat : Int) 64 = ((byteI (h.len / 2 ^ 8 + 64)).toNat : Int) := by
        rw [show h.len / 2 ^ 8 = ((n / 256 : Nat) : Int) from by omega]
        exact or64 (n / 256) (by omega)
      rw [show lenB h.len = [byteI (h.len / 2 ^ 8 + 64), byteI h.len] from if_pos hlt]
      refine vcLoad1_row (j := 6) (v := .int .i64 h.len) ((by first | exact Ent.gnO (by repeat first | exact .here | apply Take.there) (fun w hw => Ob.sl_at hw) | exact Ent.gnO (by repeat first | exact .here | apply Take.there) (fun w hw => Ob.row_at hw)) : Ent _ (RowAt (some ⟨b, 0, none⟩) (hdrIC h d s t v))) rfl ?_
      refine vcShr_lit 8 rfl (by decide) ?_
      refine vcFit_byte ?_
      refine vcBit_as _ e3 ?_
      refine vcLoad1_row (j := 6) (v := .int .i64 h.len) ((by first | exact Ent.gnO (by repeat first | exact .here | apply Take.there) (fun w hw => Ob.sl_at hw) | exact Ent.gnO (by repeat first | exact .here | apply Take.there) (fun w hw => Ob.row_at hw)) : Ent _ (RowAt (some ⟨b, 0, none⟩) (hdrIC h d s t v))) rfl ?_
      refine vcFit_byte ?_
      intro bn
      refine vcApp_of (Bs x) _ (Bs [byteI (h.len / 2 ^ 8 + 64), byteI h.len]) (by first | ((repeat (first | exact .here | apply Take.there)); done) | exact .none_) (by rw [Bs_length, Nat.mul_one]) rfl (by omega) (Bs_one _) (by first | exact Ent.gnO (by repeat first | exact .here | apply Take.there) (fun w hw => Ob.sl_at hw) | exact Ent.gnO (by repeat first | exact .here | apply Take.there) (fun w hw => Ob.row_at hw)) (by simp only; omega) (by simp only; omega) (fun A' cap' hcap => ?_)
      simp only at hcap
      rw [← Bs_append]
      exact ⟨[], _, RowAt A' (Bs (x ++ [byteI (h.len / 2 ^ 8 + 64), byteI h.len])), .nil, fun _ _ ho => Ob.sl_at (ho (.sl A' cap' 5 1 (Bs (x ++ [byteI (h.len / 2 ^ 8 + 64), byteI h.len]))) (by simp)), A', cap', by simp only [List.length_append, List.length_cons, List.length_nil]; rfl, rfl, Ent.refl, by simp only [List.length_append, List.length_cons, List.length_nil]; omega⟩
    · have hv8 := vsize_le h.len
      have hvl := vput_length h.len
      rw [show lenB h.len = vput h.len from if_neg hlt]
      refine vcLoad1_row (j := 6) (v := .int .i64 h.len) ((by first | exact Ent.gnO (by repeat first | exact .here | apply Take.there) (fun w hw => Ob.sl_at hw) | exact Ent.gnO (by repeat first | exact .here | apply Take.there) (fun w hw => Ob.row_at hw)) : Ent _ (RowAt (some ⟨b, 0, none⟩) (hdrIC h d s t v))) rfl ?_
      refine vcCall_of .nil (put_spec h.len (by omega) _) (fun v' own' N' hv => ?_)
      obtain ⟨A4, c4, rfl, rfl, rfl, hc4⟩ := hv
      refine vcApp_of (Bs x) _ (Bs (vput h.len)) (by first | ((repeat (first | exact .here | apply Take.there)); done) | exact .none_) (by rw [Bs_length, Nat.mul_one]) (by rw [Bs_length, Nat.mul_one]) (by omega) (Bs_one _) (by first | exact Ent.gnO (by repeat first | exact .here | apply Take.there) (fun w hw => Ob.sl_at hw) | exact Ent.gnO (by repeat first | exact .here | apply Take.there) (fun w hw => Ob.row_at hw)) (by simp only; omega) (by simp only; omega) (fun A' cap' hcap => ?_)
      simp only at hcap
      rw [← Bs_append]
      exact ⟨[], _, RowAt A' (Bs (x ++ vput h.len)), .nil, fun _ _ ho => Ob.sl_at (ho (.sl A' cap' 5 1 (Bs (x ++ vput h.len))) (by simp)), A', cap', by simp only [List.length_append]; rfl, rfl, Ent.refl, by simp only [List.length_append]; omega⟩
end Go.Proofs.Ytlobimomeeppeaa
