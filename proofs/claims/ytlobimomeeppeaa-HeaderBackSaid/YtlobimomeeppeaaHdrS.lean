/- Headers: what can be built. -/
import Derived.Test.YtlobimomeeppeaaHdrR
namespace Go.Proofs.Ytlobimomeeppeaa
open Go.Proofs
set_option maxRecDepth 10000

def rightN (kind w : Int) (dl sl tl : Nat) (len : Int) : Int :=
  if kind ≠ 1 ∧ kind ≠ 2 ∧ kind ≠ 3 ∧ kind ≠ 6 then 50 else if w < 1 ∨ 4 < w then 10 else if 20 < dl ∨ (kind ≠ 6 ∧ 20 < sl) then 61
  else if kind = 1 ∧ 16384 < tl then 52 else if kind ≠ 6 ∧ (len < 1 ∨ 16384 < len) then 54 else 0
def rightI (h : HdrI) (w : Int) : Int := rightN h.kind w h.dst.length h.src.length h.tok.length h.len

set_option maxHeartbeats 1000000 in
theorem right_spec (h : HdrI) (d s t v : Pl) (w : Int) (G : Mp) : Spec Try.prog 44 #[.agg (hdrIC h d s t v).toArray, .int .i64 w] [] G (Ret (.int .i64 (rightI h w))) := by
  obtain ⟨kind, ver, dst, src, tok, vers, len⟩ := h
  unfold rightI
  simp only
  generalize hR : rightN kind w dst.length src.length tok.length len = R
  refine Spec.intro (args := [_, _]) wide Try.func44 rfl Try.call44 (by rfl) (by rfl) (fun w0 hw0 => ?_)
  intro b
  by_cases h1 : kind = 1
  · subst h1
    refine vcLoad1_row (j := 0) (v := .int .i64 1) ((by first | exact Ent.gnO (by repeat first | exact .here | apply Take.there) (fun w hw => Ob.sl_at hw) | exact Ent.gnO (by repeat first | exact .here | apply Take.there) (fun w hw => Ob.row_at hw)) : Ent _ (RowAt (some ⟨b, 0, none⟩) (hdrIC ⟨1, ver, dst, src, tok, vers, len⟩ d s t v))) rfl ?_
    repeat (first | refine vcIf_yes (by rfl) ?_ | refine vcIf_no (by rfl) ?_)
    refine vcIf_dec (fun _ => ?_) (fun _ => ?_)
    · repeat (first | refine vcIf_yes (by rfl) ?_ | refine vcIf_no (by rfl) ?_)
      obtain rfl : R = 10 := by rw [← hR]; unfold rightN; rw [if_neg (by omega), if_pos (by omega)]
      exact ⟨[], _, MT, .nil, fun _ _ _ => trivial, rfl, rfl, rfl⟩
    repeat (first | refine vcIf_yes (by rfl) ?_ | refine vcIf_no (by rfl) ?_)
    refine vcIf_dec (fun _ => ?_) (fun _ => ?_)
    · repeat (first | refine vcIf_yes (by rfl) ?_ | refine vcIf_no (by rfl) ?_)
      obtain rfl : R = 10 := by rw [← hR]; unfold rightN; rw [if_neg (by omega), if_pos (by omega)]
      exact ⟨[], _, MT, .nil, fun _ _ _ => trivial, rfl, rfl, rfl⟩
    repeat (first | refine vcIf_yes (by rfl) ?_ | refine vcIf_no (by rfl) ?_)
    refine vcLoad1_row (j := 2) (v := .slice d.1 dst.length d.2) ((by first | exact Ent.gnO (by repeat first | exact .here | apply Take.there) (fun w hw => Ob.sl_at hw) | exact Ent.gnO (by repeat first | exact .here | apply Take.there) (fun w hw => Ob.row_at hw)) : Ent _ (RowAt (some ⟨b, 0, none⟩) (hdrIC ⟨1, ver, dst, src, tok, vers, len⟩ d s t v))) rfl ?_
    repeat (first | refine vcIf_yes (by rfl) ?_ | refine vcIf_no (by rfl) ?_)
    refine vcIf_dec (fun _ => ?_) (fun _ => ?_)
    · repeat (first | refine vcIf_yes (by rfl) ?_ | refine vcIf_no (by rfl) ?_)
      obtain rfl : R = 61 := by rw [← hR]; unfold rightN; rw [if_neg (by omega), if_neg (by omega), if_pos (by omega)]
      exact ⟨[], _, MT, .nil, fun _ _ _ => trivial, rfl, rfl, rfl⟩
    repeat (first | refine vcIf_yes (by rfl) ?_ | refine vcIf_no (by rfl) ?_)
    refine vcLoad1_row (j := 0) (v := .int .i64 1) ((by first | exact Ent.gnO (by repeat first | exact .here | apply Take.there) (fun w hw => Ob.sl_at hw) | exact Ent.gnO (by repeat first | exact .here | apply Take.there) (fun w hw => Ob.row_at hw)) : Ent _ (RowAt (some ⟨b, 0, none⟩) (hdrIC ⟨1, ver, dst, src, tok, vers, len⟩ d s t v))) rfl ?_
    repeat (first | refine vcIf_yes (by rfl) ?_ | refine vcIf_no (by rfl) ?_)
    refine vcLoad1_row (j := 3) (v := .slice s.1 src.length s.2) ((by first | exact Ent.gnO (by repeat first | exact .here | apply Take.there) (fun w hw => Ob.sl_at hw) | exact Ent.gnO (by repeat first | exact .here | apply Take.there) (fun w hw => Ob.row_at hw)) : Ent _ (RowAt (some ⟨b, 0, none⟩) (hdrIC ⟨1, ver, dst, src, tok, vers, len⟩ d s t v))) rfl ?_
    repeat (first | refine vcIf_yes (by rfl) ?_ | refine vcIf_no (by rfl) ?_)
    refine vcIf_dec (fun _ => ?_) (fun _ => ?_)
    · repeat (first | refine vcIf_yes (by rfl) ?_ | refine vcIf_no (by rfl) ?_)
      obtain rfl : R = 61 := by rw [← hR]; unfold rightN; rw [if_neg (by omega), if_neg (by omega), if_pos (by omega)]
      exact ⟨[], _, MT, .nil, fun _ _ _ => trivial, rfl, rfl, rfl⟩
    repeat (first | refine vcIf_yes (by rfl) ?_ | refine vcIf_no (by rfl) ?_)
    refine vcLoad1_row (j := 0) (v := .int .i64 1) ((by first | exact Ent.gnO (by repeat first | exact .here | apply Take.there) (fun w hw => Ob.sl_at hw) | exact Ent.gnO (by repeat first | exact .here | apply Take.there) (fun w hw => Ob.row_at hw)) : Ent _ (RowAt (some ⟨b, 0, none⟩) (hdrIC ⟨1, ver, dst, src, tok, vers, len⟩ d s t v))) rfl ?_
    repeat (first | refine vcIf_yes (by rfl) ?_ | refine vcIf_no (by rfl) ?_)
    refine vcLoad1_row (j := 4) (v := .slice t.1 tok.length t.2) ((by first | exact Ent.gnO (by repeat first | exact .here | apply Take.there) (fun w hw => Ob.sl_at hw) | exact Ent.gnO (by repeat first | exact .here | apply Take.there) (fun w hw => Ob.row_at hw)) : Ent _ (RowAt (some ⟨b, 0, none⟩) (hdrIC ⟨1, ver, dst, src, tok, vers, len⟩ d s t v))) rfl ?_
    repeat (first | refine vcIf_yes (by rfl) ?_ | refine vcIf_no (by rfl) ?_)
    refine vcIf_dec (fun _ => ?_) (fun _ => ?_)
    · repeat (first | refine vcIf_yes (by rfl) ?_ | refine vcIf_no (by rfl) ?_)
      obtain rfl : R = 52 := by rw [← hR]; unfold rightN; rw [if_neg (by omega), if_neg (by omega), if_neg (by omega), if_pos (by omega)]
      exact ⟨[], _, MT, .nil, fun _ _ _ => trivial, rfl, rfl, rfl⟩
    repeat (first | refine vcIf_yes (by rfl) ?_ | refine vcIf_no (by rfl) ?_)
    refine vcLoad1_row (j := 0) (v := .int .i64 1) ((by first | exact Ent.gnO (by repeat first | exact .here | apply Take.there) (fun w hw => Ob.sl_at hw) | exact Ent.gnO (by repeat first | exact .here | apply Take.there) (fun w hw => Ob.row_at hw)) : Ent _ (RowAt (some ⟨b, 0, none⟩) (hdrIC ⟨1, ver, dst, src, tok, vers, len⟩ d s t v))) rfl ?_
    repeat (first | refine vcIf_yes (by rfl) ?_ | refine vcIf_no (by rfl) ?_)
    refine vcLoad1_row (j := 6) (v := .int .i64 len) ((by first | exact Ent.gnO (by repeat first | exact .here | apply Take.there) (fun w hw => Ob.sl_at hw) | exact Ent.gnO (by repeat first | exact .here | apply Take.there) (fun w hw => Ob.row_at hw)) : Ent _ (RowAt (some ⟨b, 0, none⟩) (hdrIC ⟨1, ver, dst, src, tok, vers, len⟩ d s t v))) rfl ?_
    repeat (first | refine vcIf_yes (by rfl) ?_ | refine vcIf_no (by rfl) ?_)
    refine vcIf_dec (fun _ => ?_) (fun _ => ?_)
    · repeat (first | refine vcIf_yes (by rfl) ?_ | refine vcIf_no (by rfl) ?_)
      obtain rfl : R = 54 := by rw [← hR]; unfold rightN; rw [if_neg (by omega), if_neg (by omega), if_neg (by omega), if_neg (by omega), if_pos (by omega)]
      exact ⟨[], _, MT, .nil, fun _ _ _ => trivial, rfl, rfl, rfl⟩
    repeat (first | refine vcIf_yes (by rfl) ?_ | refine vcIf_no (by rfl) ?_)
    refine vcLoad1_row (j := 6) (v := .int .i64 len) ((by first | exact Ent.gnO (by repeat first | exact .here | apply Take.there) (fun w hw => Ob.sl_at hw) | exact Ent.gnO (by repeat first | exact .here | apply Take.there) (fun w hw => Ob.row_at hw)) : Ent _ (RowAt (some ⟨b, 0, none⟩) (hdrIC ⟨1, ver, dst, src, tok, vers, len⟩ d s t v))) rfl ?_
    repeat (first | refine vcIf_yes (by rfl) ?_ | refine vcIf_no (by rfl) ?_)
    refine vcIf_dec (fun _ => ?_) (fun _ => ?_)
    · repeat (first | refine vcIf_yes (by rfl) ?_ | refine vcIf_no (by rfl) ?_)
      obtain rfl : R = 54 := by rw [← hR]; unfold rightN; rw [if_neg (by omega), if_neg (by omega), if_neg (by omega), if_neg (by omega), if_pos (by omega)]
      exact ⟨[], _, MT, .nil, fun _ _ _ => trivial, rfl, rfl, rfl⟩
    repeat (first | refine vcIf_yes (by rfl) ?_ | refine vcIf_no (by rfl) ?_)
    obtain rfl : R = 0 := by rw [← hR]; unfold rightN; rw [if_neg (by omega), if_neg (by omega), if_neg (by omega), if_neg (by omega), if_neg (by omega)]
    exact ⟨[], _, MT, .nil, fun _ _ _ => trivial, rfl, rfl, rfl⟩
  by_cases h2 : kind = 2
  · subst h2
    refine vcLoad1_row (j := 0) (v := .int .i64 2) ((by first | exact Ent.gnO (by repeat first | exact .here | apply Take.there) (fun w hw => Ob.sl_at hw) | exact Ent.gnO (by repeat first | exact .here | apply Take.there) (fun w hw => Ob.row_at hw)) : Ent _ (RowAt (some ⟨b, 0, none⟩) (hdrIC ⟨2, ver, dst, src, tok, vers, len⟩ d s t v))) rfl ?_
    repeat (first | refine vcIf_yes (by rfl) ?_ | refine vcIf_no (by rfl) ?_)
    refine vcLoad1_row (j := 0) (v := .int .i64 2) ((by first | exact Ent.gnO (by repeat first | exact .here | apply Take.there) (fun w hw => Ob.sl_at hw) | exact Ent.gnO (by repeat first | exact .here | apply Take.there) (fun w hw => Ob.row_at hw)) : Ent _ (RowAt (some ⟨b, 0, none⟩) (hdrIC ⟨2, ver, dst, src, tok, vers, len⟩ d s t v))) rfl ?_
    repeat (first | refine vcIf_yes (by rfl) ?_ | refine vcIf_no (by rfl) ?_)
    refine vcIf_dec (fun _ => ?_) (fun _ => ?_)
    · repeat (first | refine vcIf_yes (by rfl) ?_ | refine vcIf_no (by rfl) ?_)
      obtain rfl : R = 10 := by rw [← hR]; unfold rightN; rw [if_neg (by omega), if_pos (by omega)]
      exact ⟨[], _, MT, .nil, fun _ _ _ => trivial, rfl, rfl, rfl⟩
    repeat (first | refine vcIf_yes (by rfl) ?_ | refine vcIf_no (by rfl) ?_)
    refine vcIf_dec (fun _ => ?_) (fun _ => ?_)
    · repeat (first | refine vcIf_yes (by rfl) ?_ | refine vcIf_no (by rfl) ?_)
      obtain rfl : R = 10 := by rw [← hR]; unfold rightN; rw [if_neg (by omega), if_pos (by omega)]
      exact ⟨[], _, MT, .nil, fun _ _ _ => trivial, rfl, rfl, rfl⟩
    repeat (first | refine vcIf_yes (by rfl) ?_ | refine vcIf_no (by rfl) ?_)
    refine vcLoad1_row (j := 2) (v := .slice d.1 dst.length d.2) ((by first | exact Ent.gnO (by repeat first | exact .here | apply Take.there) (fun w hw => Ob.sl_at hw) | exact Ent.gnO (by repeat first | exact .here | apply Take.there) (fun w hw => Ob.row_at hw)) : Ent _ (RowAt (some ⟨b, 0, none⟩) (hdrIC ⟨2, ver, dst, src, tok, vers, len⟩ d s t v))) rfl ?_
    repeat (first | refine vcIf_yes (by rfl) ?_ | refine vcIf_no (by rfl) ?_)
    refine vcIf_dec (fun _ => ?_) (fun _ => ?_)
    · repeat (first | refine vcIf_yes (by rfl) ?_ | refine vcIf_no (by rfl) ?_)
      obtain rfl : R = 61 := by rw [← hR]; unfold rightN; rw [if_neg (by omega), if_neg (by omega), if_pos (by omega)]
      exact ⟨[], _, MT, .nil, fun _ _ _ => trivial, rfl, rfl, rfl⟩
    repeat (first | refine vcIf_yes (by rfl) ?_ | refine vcIf_no (by rfl) ?_)
    refine vcLoad1_row (j := 0) (v := .int .i64 2) ((by first | exact Ent.gnO (by repeat first | exact .here | apply Take.there) (fun w hw => Ob.sl_at hw) | exact Ent.gnO (by repeat first | exact .here | apply Take.there) (fun w hw => Ob.row_at hw)) : Ent _ (RowAt (some ⟨b, 0, none⟩) (hdrIC ⟨2, ver, dst, src, tok, vers, len⟩ d s t v))) rfl ?_
    repeat (first | refine vcIf_yes (by rfl) ?_ | refine vcIf_no (by rfl) ?_)
    refine vcLoad1_row (j := 3) (v := .slice s.1 src.length s.2) ((by first | exact Ent.gnO (by repeat first | exact .here | apply Take.there) (fun w hw => Ob.sl_at hw) | exact Ent.gnO (by repeat first | exact .here | apply Take.there) (fun w hw => Ob.row_at hw)) : Ent _ (RowAt (some ⟨b, 0, none⟩) (hdrIC ⟨2, ver, dst, src, tok, vers, len⟩ d s t v))) rfl ?_
    repeat (first | refine vcIf_yes (by rfl) ?_ | refine vcIf_no (by rfl) ?_)
    refine vcIf_dec (fun _ => ?_) (fun _ => ?_)
    · repeat (first | refine vcIf_yes (by rfl) ?_ | refine vcIf_no (by rfl) ?_)
      obtain rfl : R = 61 := by rw [← hR]; unfold rightN; rw [if_neg (by omega), if_neg (by omega), if_pos (by omega)]
      exact ⟨[], _, MT, .nil, fun _ _ _ => trivial, rfl, rfl, rfl⟩
    repeat (first | refine vcIf_yes (by rfl) ?_ | refine vcIf_no (by rfl) ?_)
    refine vcLoad1_row (j := 0) (v := .int .i64 2) ((by first | exact Ent.gnO (by repeat first | exact .here | apply Take.there) (fun w hw => Ob.sl_at hw) | exact Ent.gnO (by repeat first | exact .here | apply Take.there) (fun w hw => Ob.row_at hw)) : Ent _ (RowAt (some ⟨b, 0, none⟩) (hdrIC ⟨2, ver, dst, src, tok, vers, len⟩ d s t v))) rfl ?_
    repeat (first | refine vcIf_yes (by rfl) ?_ | refine vcIf_no (by rfl) ?_)
    refine vcLoad1_row (j := 0) (v := .int .i64 2) ((by first | exact Ent.gnO (by repeat first | exact .here | apply Take.there) (fun w hw => Ob.sl_at hw) | exact Ent.gnO (by repeat first | exact .here | apply Take.there) (fun w hw => Ob.row_at hw)) : Ent _ (RowAt (some ⟨b, 0, none⟩) (hdrIC ⟨2, ver, dst, src, tok, vers, len⟩ d s t v))) rfl ?_
    repeat (first | refine vcIf_yes (by rfl) ?_ | refine vcIf_no (by rfl) ?_)
    refine vcLoad1_row (j := 6) (v := .int .i64 len) ((by first | exact Ent.gnO (by repeat first | exact .here | apply Take.there) (fun w hw => Ob.sl_at hw) | exact Ent.gnO (by repeat first | exact .here | apply Take.there) (fun w hw => Ob.row_at hw)) : Ent _ (RowAt (some ⟨b, 0, none⟩) (hdrIC ⟨2, ver, dst, src, tok, vers, len⟩ d s t v))) rfl ?_
    repeat (first | refine vcIf_yes (by rfl) ?_ | refine vcIf_no (by rfl) ?_)
    refine vcIf_dec (fun _ => ?_) (fun _ => ?_)
    · repeat (first | refine vcIf_yes (by rfl) ?_ | refine vcIf_no (by rfl) ?_)
      obtain rfl : R = 54 := by rw [← hR]; unfold rightN; rw [if_neg (by omega), if_neg (by omega), if_neg (by omega), if_neg (by omega), if_pos (by omega)]
      exact ⟨[], _, MT, .nil, fun _ _ _ => trivial, rfl, rfl, rfl⟩
    repeat (first | refine vcIf_yes (by rfl) ?_ | refine vcIf_no (by rfl) ?_)
    refine vcLoad1_row (j := 6) (v := .int .i64 len) ((by first | exact Ent.gnO (by repeat first | exact .here | apply Take.there) (fun w hw => Ob.sl_at hw) | exact Ent.gnO (by repeat first | exact .here | apply Take.there) (fun w hw => Ob.row_at hw)) : Ent _ (RowAt (some ⟨b, 0, none⟩) (hdrIC ⟨2, ver, dst, src, tok, vers, len⟩ d s t v))) rfl ?_
    repeat (first | refine vcIf_yes (by rfl) ?_ | refine vcIf_no (by rfl) ?_)
    refine vcIf_dec (fun _ => ?_) (fun _ => ?_)
    · repeat (first | refine vcIf_yes (by rfl) ?_ | refine vcIf_no (by rfl) ?_)
      obtain rfl : R = 54 := by rw [← hR]; unfold rightN; rw [if_neg (by omega), if_neg (by omega), if_neg (by omega), if_neg (by omega), if_pos (by omega)]
      exact ⟨[], _, MT, .nil, fun _ _ _ => trivial, rfl, rfl, rfl⟩
    repeat (first | refine vcIf_yes (by rfl) ?_ | refine vcIf_no (by rfl) ?_)
    obtain rfl : R = 0 := by rw [← hR]; unfold rightN; rw [if_neg (by omega), if_neg (by omega), if_neg (by omega), if_neg (by omega), if_neg (by omega)]
    exact ⟨[], _, MT, .nil, fun _ _ _ => trivial, rfl, rfl, rfl⟩
  by_cases h3 : kind = 3
  · subst h3
    refine vcLoad1_row (j := 0) (v := .int .i64 3) ((by first | exact Ent.gnO (by repeat first | exact .here | apply Take.there) (fun w hw => Ob.sl_at hw) | exact Ent.gnO (by repeat first | exact .here | apply Take.there) (fun w hw => Ob.row_at hw)) : Ent _ (RowAt (some ⟨b, 0, none⟩) (hdrIC ⟨3, ver, dst, src, tok, vers, len⟩ d s t v))) rfl ?_
    repeat (first | refine vcIf_yes (by rfl) ?_ | refine vcIf_no (by rfl) ?_)
    refine vcLoad1_row (j := 0) (v := .int .i64 3) ((by first | exact Ent.gnO (by repeat first | exact .here | apply Take.there) (fun w hw => Ob.sl_at hw) | exact Ent.gnO (by repeat first | exact .here | apply Take.there) (fun w hw => Ob.row_at hw)) : Ent _ (RowAt (some ⟨b, 0, none⟩) (hdrIC ⟨3, ver, dst, src, tok, vers, len⟩ d s t v))) rfl ?_
    repeat (first | refine vcIf_yes (by rfl) ?_ | refine vcIf_no (by rfl) ?_)
    refine vcLoad1_row (j := 0) (v := .int .i64 3) ((by first | exact Ent.gnO (by repeat first | exact .here | apply Take.there) (fun w hw => Ob.sl_at hw) | exact Ent.gnO (by repeat first | exact .here | apply Take.there) (fun w hw => Ob.row_at hw)) : Ent _ (RowAt (some ⟨b, 0, none⟩) (hdrIC ⟨3, ver, dst, src, tok, vers, len⟩ d s t v))) rfl ?_
    repeat (first | refine vcIf_yes (by rfl) ?_ | refine vcIf_no (by rfl) ?_)
    refine vcIf_dec (fun _ => ?_) (fun _ => ?_)
    · repeat (first | refine vcIf_yes (by rfl) ?_ | refine vcIf_no (by rfl) ?_)
      obtain rfl : R = 10 := by rw [← hR]; unfold rightN; rw [if_neg (by omega), if_pos (by omega)]
      exact ⟨[], _, MT, .nil, fun _ _ _ => trivial, rfl, rfl, rfl⟩
    repeat (first | refine vcIf_yes (by rfl) ?_ | refine vcIf_no (by rfl) ?_)
    refine vcIf_dec (fun _ => ?_) (fun _ => ?_)
    · repeat (first | refine vcIf_yes (by rfl) ?_ | refine vcIf_no (by rfl) ?_)
      obtain rfl : R = 10 := by rw [← hR]; unfold rightN; rw [if_neg (by omega), if_pos (by omega)]
      exact ⟨[], _, MT, .nil, fun _ _ _ => trivial, rfl, rfl, rfl⟩
    repeat (first | refine vcIf_yes (by rfl) ?_ | refine vcIf_no (by rfl) ?_)
    refine vcLoad1_row (j := 2) (v := .slice d.1 dst.length d.2) ((by first | exact Ent.gnO (by repeat first | exact .here | apply Take.there) (fun w hw => Ob.sl_at hw) | exact Ent.gnO (by repeat first | exact .here | apply Take.there) (fun w hw => Ob.row_at hw)) : Ent _ (RowAt (some ⟨b, 0, none⟩) (hdrIC ⟨3, ver, dst, src, tok, vers, len⟩ d s t v))) rfl ?_
    repeat (first | refine vcIf_yes (by rfl) ?_ | refine vcIf_no (by rfl) ?_)
    refine vcIf_dec (fun _ => ?_) (fun _ => ?_)
    · repeat (first | refine vcIf_yes (by rfl) ?_ | refine vcIf_no (by rfl) ?_)
      obtain rfl : R = 61 := by rw [← hR]; unfold rightN; rw [if_neg (by omega), if_neg (by omega), if_pos (by omega)]
      exact ⟨[], _, MT, .nil, fun _ _ _ => trivial, rfl, rfl, rfl⟩
    repeat (first | refine vcIf_yes (by rfl) ?_ | refine vcIf_no (by rfl) ?_)
    refine vcLoad1_row (j := 0) (v := .int .i64 3) ((by first | exact Ent.gnO (by repeat first | exact .here | apply Take.there) (fun w hw => Ob.sl_at hw) | exact Ent.gnO (by repeat first | exact .here | apply Take.there) (fun w hw => Ob.row_at hw)) : Ent _ (RowAt (some ⟨b, 0, none⟩) (hdrIC ⟨3, ver, dst, src, tok, vers, len⟩ d s t v))) rfl ?_
    repeat (first | refine vcIf_yes (by rfl) ?_ | refine vcIf_no (by rfl) ?_)
    refine vcLoad1_row (j := 3) (v := .slice s.1 src.length s.2) ((by first | exact Ent.gnO (by repeat first | exact .here | apply Take.there) (fun w hw => Ob.sl_at hw) | exact Ent.gnO (by repeat first | exact .here | apply Take.there) (fun w hw => Ob.row_at hw)) : Ent _ (RowAt (some ⟨b, 0, none⟩) (hdrIC ⟨3, ver, dst, src, tok, vers, len⟩ d s t v))) rfl ?_
    repeat (first | refine vcIf_yes (by rfl) ?_ | refine vcIf_no (by rfl) ?_)
    refine vcIf_dec (fun _ => ?_) (fun _ => ?_)
    · repeat (first | refine vcIf_yes (by rfl) ?_ | refine vcIf_no (by rfl) ?_)
      obtain rfl : R = 61 := by rw [← hR]; unfold rightN; rw [if_neg (by omega), if_neg (by omega), if_pos (by omega)]
      exact ⟨[], _, MT, .nil, fun _ _ _ => trivial, rfl, rfl, rfl⟩
    repeat (first | refine vcIf_yes (by rfl) ?_ | refine vcIf_no (by rfl) ?_)
    refine vcLoad1_row (j := 0) (v := .int .i64 3) ((by first | exact Ent.gnO (by repeat first | exact .here | apply Take.there) (fun w hw => Ob.sl_at hw) | exact Ent.gnO (by repeat first | exact .here | apply Take.there) (fun w hw => Ob.row_at hw)) : Ent _ (RowAt (some ⟨b, 0, none⟩) (hdrIC ⟨3, ver, dst, src, tok, vers, len⟩ d s t v))) rfl ?_
    repeat (first | refine vcIf_yes (by rfl) ?_ | refine vcIf_no (by rfl) ?_)
    refine vcLoad1_row (j := 0) (v := .int .i64 3) ((by first | exact Ent.gnO (by repeat first | exact .here | apply Take.there) (fun w hw => Ob.sl_at hw) | exact Ent.gnO (by repeat first | exact .here | apply Take.there) (fun w hw => Ob.row_at hw)) : Ent _ (RowAt (some ⟨b, 0, none⟩) (hdrIC ⟨3, ver, dst, src, tok, vers, len⟩ d s t v))) rfl ?_
    repeat (first | refine vcIf_yes (by rfl) ?_ | refine vcIf_no (by rfl) ?_)
    refine vcLoad1_row (j := 6) (v := .int .i64 len) ((by first | exact Ent.gnO (by repeat first | exact .here | apply Take.there) (fun w hw => Ob.sl_at hw) | exact Ent.gnO (by repeat first | exact .here | apply Take.there) (fun w hw => Ob.row_at hw)) : Ent _ (RowAt (some ⟨b, 0, none⟩) (hdrIC ⟨3, ver, dst, src, tok, vers, len⟩ d s t v))) rfl ?_
    repeat (first | refine vcIf_yes (by rfl) ?_ | refine vcIf_no (by rfl) ?_)
    refine vcIf_dec (fun _ => ?_) (fun _ => ?_)
    · repeat (first | refine vcIf_yes (by rfl) ?_ | refine vcIf_no (by rfl) ?_)
      obtain rfl : R = 54 := by rw [← hR]; unfold rightN; rw [if_neg (by omega), if_neg (by omega), if_neg (by omega), if_neg (by omega), if_pos (by omega)]
      exact ⟨[], _, MT, .nil, fun _ _ _ => trivial, rfl, rfl, rfl⟩
    repeat (first | refine vcIf_yes (by rfl) ?_ | refine vcIf_no (by rfl) ?_)
    refine vcLoad1_row (j := 6) (v := .int .i64 len) ((by first | exact Ent.gnO (by repeat first | exact .here | apply Take.there) (fun w hw => Ob.sl_at hw) | exact Ent.gnO (by repeat first | exact .here | apply Take.there) (fun w hw => Ob.row_at hw)) : Ent _ (RowAt (some ⟨b, 0, none⟩) (hdrIC ⟨3, ver, dst, src, tok, vers, len⟩ d s t v))) rfl ?_
    repeat (first | refine vcIf_yes (by rfl) ?_ | refine vcIf_no (by rfl) ?_)
    refine vcIf_dec (fun _ => ?_) (fun _ => ?_)
    · repeat (first | refine vcIf_yes (by rfl) ?_ | refine vcIf_no (by rfl) ?_)
      obtain rfl : R = 54 := by rw [← hR]; unfold rightN; rw [if_neg (by omega), if_neg (by omega), if_neg (by omega), if_neg (by omega), if_pos (by omega)]
      exact ⟨[], _, MT, .nil, fun _ _ _ => trivial, rfl, rfl, rfl⟩
    repeat (first | refine vcIf_yes (by rfl) ?_ | refine vcIf_no (by rfl) ?_)
    obtain rfl : R = 0 := by rw [← hR]; unfold rightN; rw [if_neg (by omega), if_neg (by omega), if_neg (by omega), if_neg (by omega), if_neg (by omega)]
    exact ⟨[], _, MT, .nil, fun _ _ _ => trivial, rfl, rfl, rfl⟩
  by_cases h6 : kind = 6
  · subst h6
    refine vcLoad1_row (j := 0) (v := .int .i64 6) ((by first | exact Ent.gnO (by repeat first | exact .here | apply Take.there) (fun w hw => Ob.sl_at hw) | exact Ent.gnO (by repeat first | exact .here | apply Take.there) (fun w hw => Ob.row_at hw)) : Ent _ (RowAt (some ⟨b, 0, none⟩) (hdrIC ⟨6, ver, dst, src, tok, vers, len⟩ d s t v))) rfl ?_
    repeat (first | refine vcIf_yes (by rfl) ?_ | refine vcIf_no (by rfl) ?_)
    refine vcLoad1_row (j := 0) (v := .int .i64 6) ((by first | exact Ent.gnO (by repeat first | exact .here | apply Take.there) (fun w hw => Ob.sl_at hw) | exact Ent.gnO (by repeat first | exact .here | apply Take.there) (fun w hw => Ob.row_at hw)) : Ent _ (RowAt (some ⟨b, 0, none⟩) (hdrIC ⟨6, ver, dst, src, tok, vers, len⟩ d s t v))) rfl ?_
    repeat (first | refine vcIf_yes (by rfl) ?_ | refine vcIf_no (by rfl) ?_)
    refine vcLoad1_row (j := 0) (v := .int .i64 6) ((by first | exact Ent.gnO (by repeat first | exact .here | apply Take.there) (fun w hw => Ob.sl_at hw) | exact Ent.gnO (by repeat first | exact .here | apply Take.there) (fun w hw => Ob.row_at hw)) : Ent _ (RowAt (some ⟨b, 0, none⟩) (hdrIC ⟨6, ver, dst, src, tok, vers, len⟩ d s t v))) rfl ?_
    repeat (first | refine vcIf_yes (by rfl) ?_ | refine vcIf_no (by rfl) ?_)
    refine vcLoad1_row (j := 0) (v := .int .i64 6) ((by first | exact Ent.gnO (by repeat first | exact .here | apply Take.there) (fun w hw => Ob.sl_at hw) | exact Ent.gnO (by repeat first | exact .here | apply Take.there) (fun w hw => Ob.row_at hw)) : Ent _ (RowAt (some ⟨b, 0, none⟩) (hdrIC ⟨6, ver, dst, src, tok, vers, len⟩ d s t v))) rfl ?_
    repeat (first | refine vcIf_yes (by rfl) ?_ | refine vcIf_no (by rfl) ?_)
    refine vcIf_dec (fun _ => ?_) (fun _ => ?_)
    · repeat (first | refine vcIf_yes (by rfl) ?_ | refine vcIf_no (by rfl) ?_)
      obtain rfl : R = 10 := by rw [← hR]; unfold rightN; rw [if_neg (by omega), if_pos (by omega)]
      exact ⟨[], _, MT, .nil, fun _ _ _ => trivial, rfl, rfl, rfl⟩
    repeat (first | refine vcIf_yes (by rfl) ?_ | refine vcIf_no (by rfl) ?_)
    refine vcIf_dec (fun _ => ?_) (fun _ => ?_)
    · repeat (first | refine vcIf_yes (by rfl) ?_ | refine vcIf_no (by rfl) ?_)
      obtain rfl : R = 10 := by rw [← hR]; unfold rightN; rw [if_neg (by omega), if_pos (by omega)]
      exact ⟨[], _, MT, .nil, fun _ _ _ => trivial, rfl, rfl, rfl⟩
    repeat (first | refine vcIf_yes (by rfl) ?_ | refine vcIf_no (by rfl) ?_)
    refine vcLoad1_row (j := 2) (v := .slice d.1 dst.length d.2) ((by first | exact Ent.gnO (by repeat first | exact .here | apply Take.there) (fun w hw => Ob.sl_at hw) | exact Ent.gnO (by repeat first | exact .here | apply Take.there) (fun w hw => Ob.row_at hw)) : Ent _ (RowAt (some ⟨b, 0, none⟩) (hdrIC ⟨6, ver, dst, src, tok, vers, len⟩ d s t v))) rfl ?_
    repeat (first | refine vcIf_yes (by rfl) ?_ | refine vcIf_no (by rfl) ?_)
    refine vcIf_dec (fun _ => ?_) (fun _ => ?_)
    · repeat (first | refine vcIf_yes (by rfl) ?_ | refine vcIf_no (by rfl) ?_)
      obtain rfl : R = 61 := by rw [← hR]; unfold rightN; rw [if_neg (by omega), if_neg (by omega), if_pos (by omega)]
      exact ⟨[], _, MT, .nil, fun _ _ _ => trivial, rfl, rfl, rfl⟩
    repeat (first | refine vcIf_yes (by rfl) ?_ | refine vcIf_no (by rfl) ?_)
    refine vcLoad1_row (j := 0) (v := .int .i64 6) ((by first | exact Ent.gnO (by repeat first | exact .here | apply Take.there) (fun w hw => Ob.sl_at hw) | exact Ent.gnO (by repeat first | exact .here | apply Take.there) (fun w hw => Ob.row_at hw)) : Ent _ (RowAt (some ⟨b, 0, none⟩) (hdrIC ⟨6, ver, dst, src, tok, vers, len⟩ d s t v))) rfl ?_
    repeat (first | refine vcIf_yes (by rfl) ?_ | refine vcIf_no (by rfl) ?_)
    refine vcLoad1_row (j := 0) (v := .int .i64 6) ((by first | exact Ent.gnO (by repeat first | exact .here | apply Take.there) (fun w hw => Ob.sl_at hw) | exact Ent.gnO (by repeat first | exact .here | apply Take.there) (fun w hw => Ob.row_at hw)) : Ent _ (RowAt (some ⟨b, 0, none⟩) (hdrIC ⟨6, ver, dst, src, tok, vers, len⟩ d s t v))) rfl ?_
    repeat (first | refine vcIf_yes (by rfl) ?_ | refine vcIf_no (by rfl) ?_)
    refine vcLoad1_row (j := 0) (v := .int .i64 6) ((by first | exact Ent.gnO (by repeat first | exact .here | apply Take.there) (fun w hw => Ob.sl_at hw) | exact Ent.gnO (by repeat first | exact .here | apply Take.there) (fun w hw => Ob.row_at hw)) : Ent _ (RowAt (some ⟨b, 0, none⟩) (hdrIC ⟨6, ver, dst, src, tok, vers, len⟩ d s t v))) rfl ?_
    repeat (first | refine vcIf_yes (by rfl) ?_ | refine vcIf_no (by rfl) ?_)
    obtain rfl : R = 0 := by rw [← hR]; unfold rightN; rw [if_neg (by omega), if_neg (by omega), if_neg (by omega), if_neg (by omega), if_neg (by omega)]
    exact ⟨[], _, MT, .nil, fun _ _ _ => trivial, rfl, rfl, rfl⟩
  refine vcLoad1_row (j := 0) (v := .int .i64 kind) ((by first | exact Ent.gnO (by repeat first | exact .here | apply Take.there) (fun w hw => Ob.sl_at hw) | exact Ent.gnO (by repeat first | exact .here | apply Take.there) (fun w hw => Ob.row_at hw)) : Ent _ (RowAt (some ⟨b, 0, none⟩) (hdrIC ⟨kind, ver, dst, src, tok, vers, len⟩ d s t v))) rfl ?_
  repeat (first | refine vcIf_yes (by rfl) ?_ | refine vcIf_no (by rfl) ?_)
  refine vcIf_nyes (by omega) ?_
  repeat (first | refine vcIf_yes (by rfl) ?_ | refine vcIf_no (by rfl) ?_)
  refine vcLoad1_row (j := 0) (v := .int .i64 kind) ((by first | exact Ent.gnO (by repeat first | exact .here | apply Take.there) (fun w hw => Ob.sl_at hw) | exact Ent.gnO (by repeat first | exact .here | apply Take.there) (fun w hw => Ob.row_at hw)) : Ent _ (RowAt (some ⟨b, 0, none⟩) (hdrIC ⟨kind, ver, dst, src, tok, vers, len⟩ d s t v))) rfl ?_
  repeat (first | refine vcIf_yes (by rfl) ?_ | refine vcIf_no (by rfl) ?_)
  refine vcIf_nyes (by omega) ?_
  repeat (first | refine vcIf_yes (by rfl) ?_ | refine vcIf_no (by rfl) ?_)
  refine vcLoad1_row (j := 0) (v := .int .i64 kind) ((by first | exact Ent.gnO (by repeat first | exact .here | apply Take.there) (fun w hw => Ob.sl_at hw) | exact Ent.gnO (by repeat first | exact .here | apply Take.there) (fun w hw => Ob.row_at hw)) : Ent _ (RowAt (some ⟨b, 0, none⟩) (hdrIC ⟨kind, ver, dst, src, tok, vers, len⟩ d s t v))) rfl ?_
  repeat (first | refine vcIf_yes (by rfl) ?_ | refine vcIf_no (by rfl) ?_)
  refine vcIf_nyes (by omega) ?_
  repeat (first | refine vcIf_yes (by rfl) ?_ | refine vcIf_no (by rfl) ?_)
  refine vcLoad1_row (j := 0) (v := .int .i64 kind) ((by first | exact Ent.gnO (by repeat first | exact .here | apply Take.there) (fun w hw => Ob.sl_at hw) | exact Ent.gnO (by repeat first | exact .here | apply Take.there) (fun w hw => Ob.row_at hw)) : Ent _ (RowAt (some ⟨b, 0, none⟩) (hdrIC ⟨kind, ver, dst, src, tok, vers, len⟩ d s t v))) rfl ?_
  repeat (first | refine vcIf_yes (by rfl) ?_ | refine vcIf_no (by rfl) ?_)
  refine vcIf_nyes (by omega) ?_
  repeat (first | refine vcIf_yes (by rfl) ?_ | refine vcIf_no (by rfl) ?_)
  obtain rfl : R = 50 := by rw [← hR]; unfold rightN; rw [if_pos (by omega)]
  exact ⟨[], _, MT, .nil, fun _ _ _ => trivial, rfl, rfl, rfl⟩
end Go.Proofs.Ytlobimomeeppeaa
