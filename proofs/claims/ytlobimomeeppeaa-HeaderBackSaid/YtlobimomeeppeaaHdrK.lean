/- Headers: the law's helpers. -/
import Derived.Test.YtlobimomeeppeaaHdrI
import Derived.Test.YtlobimomeeppeaaHdrJ
namespace Go.Proofs.Ytlobimomeeppeaa
open Go.Proofs
set_option maxRecDepth 10000

theorem hawake_spec (G : Mp) : Spec Try.prog 13 #[] [] G (Ret (.bool true)) := by
  refine Spec.intro (args := []) wide Try.func13 rfl Try.call13 (by rfl) (by rfl) (fun w0 hw0 => ?_)
  intro b
  refine vcCall_of .nil (parse_spec (some ⟨b, 0, none⟩) 2 [64, 7] 1 _ (by first | exact Ent.gnO (by repeat first | exact .here | apply Take.there) (fun w hw => Ob.sl_at hw) | exact Ent.gnO (by repeat first | exact .here | apply Take.there) (fun w hw => Ob.row_at hw)) (by decide) (.inl (by decide))) (fun v own' N' hv => ?_)
  rw [show parseT [64, 7] 1 = (⟨6, 0, [7], [], [], [], 0⟩, 2, 2, 0) from by rfl] at hv
  obtain ⟨d, s, t, vs, rfl, rfl, _⟩ := hv
  intro bh
  refine ⟨rfl, vcStoreN_row _ (by first | ((repeat (first | exact .here | apply Take.there)); done) | exact .none_) (by rfl) (by simp [oneCell, cellsL, hdrOf, hdrC]) ?_⟩
  refine vcLoad1_row (j := 0) (v := .int .i64 6) ((by first | exact Ent.gnO (by repeat first | exact .here | apply Take.there) (fun w hw => Ob.sl_at hw) | exact Ent.gnO (by repeat first | exact .here | apply Take.there) (fun w hw => Ob.row_at hw)) : Ent _ (RowAt (some ⟨bh, 0, none⟩) (hdrOf ⟨6, 0, [7], [], [], [], 0⟩ d s t vs))) rfl ?_
  refine vcCall_of .nil (width_spec 1000 9 (by decide) (by decide) _) (fun v own' N' hv => ?_)
  rw [show widthI 1000 9 = 2 from by rfl] at hv
  obtain ⟨rfl, rfl, rfl⟩ := hv
  refine vcCall_of .nil (hexpand_spec 2821665002 39730 2 (by decide) (by decide) _) (fun v own' N' hv => ?_)
  rw [show expandI 2821665002 39730 2 = 2821692210 from by decide] at hv
  obtain ⟨rfl, rfl, rfl⟩ := hv
  exact ⟨[], _, MT, .nil, fun _ _ _ => trivial, rfl, rfl, rfl⟩

theorem of_spec (h : HdrL) (d s t v : Pl) (G : Mp) : Spec Try.prog 15 #[.agg (hdrOf h d s t v).toArray] [] G (Ret (.agg (hdrOf h d s t v).toArray)) := by
  refine Spec.intro (args := [_]) wide Try.func15 rfl Try.call15 (by rfl) (by rfl) (fun w0 hw0 => ?_)
  intro b
  intro b2
  refine vcLoad1_row (j := 0) (v := .int .i64 h.kind) ((by first | exact Ent.gnO (by repeat first | exact .here | apply Take.there) (fun w hw => Ob.sl_at hw) | exact Ent.gnO (by repeat first | exact .here | apply Take.there) (fun w hw => Ob.row_at hw)) : Ent _ (RowAt (some ⟨b, 0, none⟩) (hdrOf h d s t v))) rfl ?_
  refine vcLoad1_row (j := 1) (v := .int .i64 h.ver) ((by first | exact Ent.gnO (by repeat first | exact .here | apply Take.there) (fun w hw => Ob.sl_at hw) | exact Ent.gnO (by repeat first | exact .here | apply Take.there) (fun w hw => Ob.row_at hw)) : Ent _ (RowAt (some ⟨b, 0, none⟩) (hdrOf h d s t v))) rfl ?_
  refine vcLoad1_row (j := 2) (v := .slice d.1 h.dst.length d.2) ((by first | exact Ent.gnO (by repeat first | exact .here | apply Take.there) (fun w hw => Ob.sl_at hw) | exact Ent.gnO (by repeat first | exact .here | apply Take.there) (fun w hw => Ob.row_at hw)) : Ent _ (RowAt (some ⟨b, 0, none⟩) (hdrOf h d s t v))) rfl ?_
  refine vcLoad1_row (j := 3) (v := .slice s.1 h.src.length s.2) ((by first | exact Ent.gnO (by repeat first | exact .here | apply Take.there) (fun w hw => Ob.sl_at hw) | exact Ent.gnO (by repeat first | exact .here | apply Take.there) (fun w hw => Ob.row_at hw)) : Ent _ (RowAt (some ⟨b, 0, none⟩) (hdrOf h d s t v))) rfl ?_
  refine vcLoad1_row (j := 4) (v := .slice t.1 h.tok.length t.2) ((by first | exact Ent.gnO (by repeat first | exact .here | apply Take.there) (fun w hw => Ob.sl_at hw) | exact Ent.gnO (by repeat first | exact .here | apply Take.there) (fun w hw => Ob.row_at hw)) : Ent _ (RowAt (some ⟨b, 0, none⟩) (hdrOf h d s t v))) rfl ?_
  refine vcLoad1_row (j := 5) (v := .slice v.1 h.vers.length v.2) ((by first | exact Ent.gnO (by repeat first | exact .here | apply Take.there) (fun w hw => Ob.sl_at hw) | exact Ent.gnO (by repeat first | exact .here | apply Take.there) (fun w hw => Ob.row_at hw)) : Ent _ (RowAt (some ⟨b, 0, none⟩) (hdrOf h d s t v))) rfl ?_
  refine vcLoad1_row (j := 6) (v := .int .i64 h.len) ((by first | exact Ent.gnO (by repeat first | exact .here | apply Take.there) (fun w hw => Ob.sl_at hw) | exact Ent.gnO (by repeat first | exact .here | apply Take.there) (fun w hw => Ob.row_at hw)) : Ent _ (RowAt (some ⟨b, 0, none⟩) (hdrOf h d s t v))) rfl ?_
  refine ⟨rfl, vcStoreN_row _ (by first | ((repeat (first | exact .here | apply Take.there)); done) | exact .none_) (by rfl) (by simp [oneCell, cellsL]) ?_⟩
  refine vcLoadN_0 (xs := (hdrOf h d s t v)) ((by first | exact Ent.gnO (by repeat first | exact .here | apply Take.there) (fun w hw => Ob.sl_at hw) | exact Ent.gnO (by repeat first | exact .here | apply Take.there) (fun w hw => Ob.row_at hw)) : Ent _ (RowAt (some ⟨b2, 0, none⟩) (hdrOf h d s t v))) rfl ?_
  exact ⟨[], _, MT, .nil, fun _ _ _ => trivial, rfl, rfl, rfl⟩

set_option maxHeartbeats 2000000 in
theorem same06_spec (h : HdrL) (d s t v d' s' t' v' : Pl) (G : Mp) (hm : HdrM h d s t v G) (hm' : HdrM h d' s' t' v' G) (hl : h.dst.length ≤ 9223372036854775807 ∧ h.src.length ≤ 9223372036854775807 ∧ h.tok.length ≤ 9223372036854775807 ∧ h.vers.length ≤ 4611686018427387903) :
    Spec Try.prog 14 #[.agg (hdrOf h d s t v).toArray, .agg (hdrOf h d' s' t' v').toArray] [] G (Ret (.bool true)) := by
  refine Spec.intro (args := [_, _]) wide Try.func14 rfl Try.call14 (by rfl) (by rfl) (fun w0 hw0 => ?_)
  intro b
  intro b2
  refine vcLoad1_row (j := 0) (v := .int .i64 h.kind) ((by first | exact Ent.gnO (by repeat first | exact .here | apply Take.there) (fun w hw => Ob.sl_at hw) | exact Ent.gnO (by repeat first | exact .here | apply Take.there) (fun w hw => Ob.row_at hw)) : Ent _ (RowAt (some ⟨b, 0, none⟩) (hdrOf h d s t v))) rfl ?_
  repeat (refine vcIf_no (by rfl) ?_)
  refine vcLoad1_row (j := 0) (v := .int .i64 h.kind) ((by first | exact Ent.gnO (by repeat first | exact .here | apply Take.there) (fun w hw => Ob.sl_at hw) | exact Ent.gnO (by repeat first | exact .here | apply Take.there) (fun w hw => Ob.row_at hw)) : Ent _ (RowAt (some ⟨b2, 0, none⟩) (hdrOf h d' s' t' v'))) rfl ?_
  repeat (refine vcIf_no (by rfl) ?_)
  refine vcIf_nno rfl ?_
  repeat (refine vcIf_no (by rfl) ?_)
  refine vcLoad1_row (j := 1) (v := .int .i64 h.ver) ((by first | exact Ent.gnO (by repeat first | exact .here | apply Take.there) (fun w hw => Ob.sl_at hw) | exact Ent.gnO (by repeat first | exact .here | apply Take.there) (fun w hw => Ob.row_at hw)) : Ent _ (RowAt (some ⟨b, 0, none⟩) (hdrOf h d s t v))) rfl ?_
  repeat (refine vcIf_no (by rfl) ?_)
  refine vcLoad1_row (j := 1) (v := .int .i64 h.ver) ((by first | exact Ent.gnO (by repeat first | exact .here | apply Take.there) (fun w hw => Ob.sl_at hw) | exact Ent.gnO (by repeat first | exact .here | apply Take.there) (fun w hw => Ob.row_at hw)) : Ent _ (RowAt (some ⟨b2, 0, none⟩) (hdrOf h d' s' t' v'))) rfl ?_
  repeat (refine vcIf_no (by rfl) ?_)
  refine vcIf_nno rfl ?_
  repeat (refine vcIf_no (by rfl) ?_)
  refine vcLoad1_row (j := 6) (v := .int .i64 h.len) ((by first | exact Ent.gnO (by repeat first | exact .here | apply Take.there) (fun w hw => Ob.sl_at hw) | exact Ent.gnO (by repeat first | exact .here | apply Take.there) (fun w hw => Ob.row_at hw)) : Ent _ (RowAt (some ⟨b, 0, none⟩) (hdrOf h d s t v))) rfl ?_
  repeat (refine vcIf_no (by rfl) ?_)
  refine vcLoad1_row (j := 6) (v := .int .i64 h.len) ((by first | exact Ent.gnO (by repeat first | exact .here | apply Take.there) (fun w hw => Ob.sl_at hw) | exact Ent.gnO (by repeat first | exact .here | apply Take.there) (fun w hw => Ob.row_at hw)) : Ent _ (RowAt (some ⟨b2, 0, none⟩) (hdrOf h d' s' t' v'))) rfl ?_
  repeat (refine vcIf_no (by rfl) ?_)
  refine vcIf_nno rfl ?_
  repeat (refine vcIf_no (by rfl) ?_)
  refine vcLoad1_row (j := 5) (v := .slice v.1 h.vers.length v.2) ((by first | exact Ent.gnO (by repeat first | exact .here | apply Take.there) (fun w hw => Ob.sl_at hw) | exact Ent.gnO (by repeat first | exact .here | apply Take.there) (fun w hw => Ob.row_at hw)) : Ent _ (RowAt (some ⟨b, 0, none⟩) (hdrOf h d s t v))) rfl ?_
  repeat (refine vcIf_no (by rfl) ?_)
  refine vcLoad1_row (j := 5) (v := .slice v'.1 h.vers.length v'.2) ((by first | exact Ent.gnO (by repeat first | exact .here | apply Take.there) (fun w hw => Ob.sl_at hw) | exact Ent.gnO (by repeat first | exact .here | apply Take.there) (fun w hw => Ob.row_at hw)) : Ent _ (RowAt (some ⟨b2, 0, none⟩) (hdrOf h d' s' t' v'))) rfl ?_
  repeat (refine vcIf_no (by rfl) ?_)
  refine vcIf_nno rfl ?_
  repeat (refine vcIf_no (by rfl) ?_)
  refine vcLoop_of (fun k : Nat => h.vers.length - k) (fun k => [(2, .pointer (some ⟨b, 0, none⟩)), (3, .pointer (some ⟨b2, 0, none⟩)), (5, .int .i64 k)]) (fun _ => [.row b 30 (hdrOf h d s t v) 7, .row b2 30 (hdrOf h d' s' t' v') 7]) (fun _ => MT) (fun k => k ≤ h.vers.length) 0 (Nat.zero_le _)
    ⟨rfl, rfl, rfl, trivial⟩ ⟨_, .cons (by first | ((repeat (first | exact .here | apply Take.there)); done) | exact .none_) (.cons (by first | ((repeat (first | exact .here | apply Take.there)); done) | exact .none_) .nil)⟩ (fun _ _ => trivial) ?_
  intro k hk
  refine vcLoad1_row (j := 5) (v := .slice v.1 h.vers.length v.2) ((by first | exact Ent.gnO (by repeat first | exact .here | apply Take.there) (fun w hw => Ob.sl_at hw) | exact Ent.gnO (by repeat first | exact .here | apply Take.there) (fun w hw => Ob.row_at hw)) : Ent _ (RowAt (some ⟨b, 0, none⟩) (hdrOf h d s t v))) rfl ?_
  refine vcIf_dec (fun hlt => ?_) (fun hge => ?_)
  · have hk' : k < h.vers.length := by omega
    have hg : (h.vers.map nI)[k]? = some (nI h.vers[k]) := by simp [hk']
    refine vcDraw_quiet (by kernel_rfl) ?_
    refine vcLoad1_row (j := 5) (v := .slice v.1 h.vers.length v.2) ((by first | exact Ent.gnO (by repeat first | exact .here | apply Take.there) (fun w hw => Ob.sl_at hw) | exact Ent.gnO (by repeat first | exact .here | apply Take.there) (fun w hw => Ob.row_at hw)) : Ent _ (RowAt (some ⟨b, 0, none⟩) (hdrOf h d s t v))) rfl ?_
    refine vcIdx_nat k rfl (Ent.gnG hm.vers) hk' (by simp) (fun a ha => ?_)
    have hv1 : Ent G (RowAt (some a) (h.vers.map nI)) := ha ▸ hm.vers
    refine vcLoad1_row (v := nI h.vers[k]) (Ent.gnG hv1) hg ?_
    refine vcLoad1_row (j := 5) (v := .slice v'.1 h.vers.length v'.2) ((by first | exact Ent.gnO (by repeat first | exact .here | apply Take.there) (fun w hw => Ob.sl_at hw) | exact Ent.gnO (by repeat first | exact .here | apply Take.there) (fun w hw => Ob.row_at hw)) : Ent _ (RowAt (some ⟨b2, 0, none⟩) (hdrOf h d' s' t' v'))) rfl ?_
    refine vcIdx_nat k rfl (Ent.gnG hm'.vers) hk' (by simp) (fun a' ha' => ?_)
    have hv2 : Ent G (RowAt (some a') (h.vers.map nI)) := ha' ▸ hm'.vers
    refine vcLoad1_row (v := nI h.vers[k]) (Ent.gnG hv2) hg ?_
    refine vcIf_nno rfl ?_
    refine vcFit_i64 (by omega) ?_
    exact ⟨k + 1, by omega, by omega, ⟨rfl, rfl, rfl, trivial⟩, ⟨_, .cons (by first | ((repeat (first | exact .here | apply Take.there)); done) | exact .none_) (.cons (by first | ((repeat (first | exact .here | apply Take.there)); done) | exact .none_) .nil)⟩, fun _ _ => trivial⟩
  · refine vcLoad1_row (j := 2) (v := .slice d.1 h.dst.length d.2) ((by first | exact Ent.gnO (by repeat first | exact .here | apply Take.there) (fun w hw => Ob.sl_at hw) | exact Ent.gnO (by repeat first | exact .here | apply Take.there) (fun w hw => Ob.row_at hw)) : Ent _ (RowAt (some ⟨b, 0, none⟩) (hdrOf h d s t v))) rfl ?_
    repeat (refine vcIf_yes (by rfl) ?_)
    refine vcLoad1_row (j := 2) (v := .slice d'.1 h.dst.length d'.2) ((by first | exact Ent.gnO (by repeat first | exact .here | apply Take.there) (fun w hw => Ob.sl_at hw) | exact Ent.gnO (by repeat first | exact .here | apply Take.there) (fun w hw => Ob.row_at hw)) : Ent _ (RowAt (some ⟨b2, 0, none⟩) (hdrOf h d' s' t' v'))) rfl ?_
    repeat (refine vcIf_yes (by rfl) ?_)
    refine vcCall_of .nil (same_spec d.1 d'.1 d.2 d'.2 h.dst h.dst _ (Ent.gnG hm.dst) (Ent.gnG hm'.dst) (by omega)) (fun v own' N' hv => ?_)
    rw [decide_eq_true (rfl : h.dst = h.dst)] at hv
    obtain ⟨rfl, rfl, rfl⟩ := hv
    repeat (refine vcIf_yes (by rfl) ?_)
    refine vcLoad1_row (j := 3) (v := .slice s.1 h.src.length s.2) ((by first | exact Ent.gnO (by repeat first | exact .here | apply Take.there) (fun w hw => Ob.sl_at hw) | exact Ent.gnO (by repeat first | exact .here | apply Take.there) (fun w hw => Ob.row_at hw)) : Ent _ (RowAt (some ⟨b, 0, none⟩) (hdrOf h d s t v))) rfl ?_
    repeat (refine vcIf_yes (by rfl) ?_)
    refine vcLoad1_row (j := 3) (v := .slice s'.1 h.src.length s'.2) ((by first | exact Ent.gnO (by repeat first | exact .here | apply Take.there) (fun w hw => Ob.sl_at hw) | exact Ent.gnO (by repeat first | exact .here | apply Take.there) (fun w hw => Ob.row_at hw)) : Ent _ (RowAt (some ⟨b2, 0, none⟩) (hdrOf h d' s' t' v'))) rfl ?_
    repeat (refine vcIf_yes (by rfl) ?_)
    refine vcCall_of .nil (same_spec s.1 s'.1 s.2 s'.2 h.src h.src _ (Ent.gnG hm.src) (Ent.gnG hm'.src) (by omega)) (fun v own' N' hv => ?_)
    rw [decide_eq_true (rfl : h.src = h.src)] at hv
    obtain ⟨rfl, rfl, rfl⟩ := hv
    repeat (refine vcIf_yes (by rfl) ?_)
    refine vcLoad1_row (j := 4) (v := .slice t.1 h.tok.length t.2) ((by first | exact Ent.gnO (by repeat first | exact .here | apply Take.there) (fun w hw => Ob.sl_at hw) | exact Ent.gnO (by repeat first | exact .here | apply Take.there) (fun w hw => Ob.row_at hw)) : Ent _ (RowAt (some ⟨b, 0, none⟩) (hdrOf h d s t v))) rfl ?_
    repeat (refine vcIf_yes (by rfl) ?_)
    refine vcLoad1_row (j := 4) (v := .slice t'.1 h.tok.length t'.2) ((by first | exact Ent.gnO (by repeat first | exact .here | apply Take.there) (fun w hw => Ob.sl_at hw) | exact Ent.gnO (by repeat first | exact .here | apply Take.there) (fun w hw => Ob.row_at hw)) : Ent _ (RowAt (some ⟨b2, 0, none⟩) (hdrOf h d' s' t' v'))) rfl ?_
    repeat (refine vcIf_yes (by rfl) ?_)
    refine vcCall_of .nil (same_spec t.1 t'.1 t.2 t'.2 h.tok h.tok _ (Ent.gnG hm.tok) (Ent.gnG hm'.tok) (by omega)) (fun v own' N' hv => ?_)
    rw [decide_eq_true (rfl : h.tok = h.tok)] at hv
    obtain ⟨rfl, rfl, rfl⟩ := hv
    repeat (refine vcIf_yes (by rfl) ?_)
    exact ⟨[], _, MT, .nil, fun _ _ _ => trivial, rfl, rfl, rfl⟩
end Go.Proofs.Ytlobimomeeppeaa
