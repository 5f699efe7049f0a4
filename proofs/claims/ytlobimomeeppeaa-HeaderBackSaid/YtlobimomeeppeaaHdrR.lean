/- Headers: any header. -/
import Derived.Test.YtlobimomeeppeaaHdrQ
namespace Go.Proofs.Ytlobimomeeppeaa
open Go.Proofs
set_option maxRecDepth 10000

structure HdrI where
  kind : Int
  ver : Int
  dst : List UInt8
  src : List UInt8
  tok : List UInt8
  vers : List Int
  len : Int
def nJ (n : Int) : Value := .int .i64 n
def hdrIC (h : HdrI) (d s t v : Pl) : List Value := [.int .i64 h.kind, .int .i64 h.ver, .slice d.1 h.dst.length d.2, .slice s.1 h.src.length s.2, .slice t.1 h.tok.length t.2, .slice v.1 h.vers.length v.2, .int .i64 h.len]
structure HdrIM (h : HdrI) (d s t v : Pl) (N : Mp) : Prop where
  dst : Ent N (RowAt d.1 (Bs h.dst))
  src : Ent N (RowAt s.1 (Bs h.src))
  tok : Ent N (RowAt t.1 (Bs h.tok))
  vers : Ent N (RowAt v.1 (h.vers.map nJ))
theorem HdrIM.of {h : HdrI} {d s t v : Pl} {M N : Mp} (hm : HdrIM h d s t v N) (hM : Ent M N) : HdrIM h d s t v M :=
  ⟨fun w hw => hm.dst w (hM w hw), fun w hw => hm.src w (hM w hw), fun w hw => hm.tok w (hM w hw), fun w hw => hm.vers w (hM w hw)⟩

theorem of_specI (h : HdrI) (d s t v : Pl) (G : Mp) : Spec Try.prog 15 #[.agg (hdrIC h d s t v).toArray] [] G (Ret (.agg (hdrIC h d s t v).toArray)) := by
  refine Spec.intro (args := [_]) wide Try.func15 rfl Try.call15 (by rfl) (by rfl) (fun w0 hw0 => ?_)
  intro b
  intro b2
  refine vcLoad1_row (j := 0) (v := .int .i64 h.kind) ((by first | exact Ent.gnO (by repeat first | exact .here | apply Take.there) (fun w hw => Ob.sl_at hw) | exact Ent.gnO (by repeat first | exact .here | apply Take.there) (fun w hw => Ob.row_at hw)) : Ent _ (RowAt (some ⟨b, 0, none⟩) (hdrIC h d s t v))) rfl ?_
  refine vcLoad1_row (j := 1) (v := .int .i64 h.ver) ((by first | exact Ent.gnO (by repeat first | exact .here | apply Take.there) (fun w hw => Ob.sl_at hw) | exact Ent.gnO (by repeat first | exact .here | apply Take.there) (fun w hw => Ob.row_at hw)) : Ent _ (RowAt (some ⟨b, 0, none⟩) (hdrIC h d s t v))) rfl ?_
  refine vcLoad1_row (j := 2) (v := .slice d.1 h.dst.length d.2) ((by first | exact Ent.gnO (by repeat first | exact .here | apply Take.there) (fun w hw => Ob.sl_at hw) | exact Ent.gnO (by repeat first | exact .here | apply Take.there) (fun w hw => Ob.row_at hw)) : Ent _ (RowAt (some ⟨b, 0, none⟩) (hdrIC h d s t v))) rfl ?_
  refine vcLoad1_row (j := 3) (v := .slice s.1 h.src.length s.2) ((by first | exact Ent.gnO (by repeat first | exact .here | apply Take.there) (fun w hw => Ob.sl_at hw) | exact Ent.gnO (by repeat first | exact .here | apply Take.there) (fun w hw => Ob.row_at hw)) : Ent _ (RowAt (some ⟨b, 0, none⟩) (hdrIC h d s t v))) rfl ?_
  refine vcLoad1_row (j := 4) (v := .slice t.1 h.tok.length t.2) ((by first | exact Ent.gnO (by repeat first | exact .here | apply Take.there) (fun w hw => Ob.sl_at hw) | exact Ent.gnO (by repeat first | exact .here | apply Take.there) (fun w hw => Ob.row_at hw)) : Ent _ (RowAt (some ⟨b, 0, none⟩) (hdrIC h d s t v))) rfl ?_
  refine vcLoad1_row (j := 5) (v := .slice v.1 h.vers.length v.2) ((by first | exact Ent.gnO (by repeat first | exact .here | apply Take.there) (fun w hw => Ob.sl_at hw) | exact Ent.gnO (by repeat first | exact .here | apply Take.there) (fun w hw => Ob.row_at hw)) : Ent _ (RowAt (some ⟨b, 0, none⟩) (hdrIC h d s t v))) rfl ?_
  refine vcLoad1_row (j := 6) (v := .int .i64 h.len) ((by first | exact Ent.gnO (by repeat first | exact .here | apply Take.there) (fun w hw => Ob.sl_at hw) | exact Ent.gnO (by repeat first | exact .here | apply Take.there) (fun w hw => Ob.row_at hw)) : Ent _ (RowAt (some ⟨b, 0, none⟩) (hdrIC h d s t v))) rfl ?_
  refine ⟨rfl, vcStoreN_row _ (by first | ((repeat (first | exact .here | apply Take.there)); done) | exact .none_) (by rfl) (by simp [oneCell, cellsL]) ?_⟩
  refine vcLoadN_0 (xs := (hdrIC h d s t v)) ((by first | exact Ent.gnO (by repeat first | exact .here | apply Take.there) (fun w hw => Ob.sl_at hw) | exact Ent.gnO (by repeat first | exact .here | apply Take.there) (fun w hw => Ob.row_at hw)) : Ent _ (RowAt (some ⟨b2, 0, none⟩) (hdrIC h d s t v))) rfl ?_
  exact ⟨[], _, MT, .nil, fun _ _ _ => trivial, rfl, rfl, rfl⟩

set_option maxHeartbeats 2000000 in
theorem same06_specI (h : HdrI) (d s t v d' s' t' v' : Pl) (G : Mp) (hm : HdrIM h d s t v G) (hm' : HdrIM h d' s' t' v' G) (hl : h.dst.length ≤ 9223372036854775807 ∧ h.src.length ≤ 9223372036854775807 ∧ h.tok.length ≤ 9223372036854775807 ∧ h.vers.length ≤ 4611686018427387903) :
    Spec Try.prog 14 #[.agg (hdrIC h d s t v).toArray, .agg (hdrIC h d' s' t' v').toArray] [] G (Ret (.bool true)) := by
  refine Spec.intro (args := [_, _]) wide Try.func14 rfl Try.call14 (by rfl) (by rfl) (fun w0 hw0 => ?_)
  intro b
  intro b2
  refine vcLoad1_row (j := 0) (v := .int .i64 h.kind) ((by first | exact Ent.gnO (by repeat first | exact .here | apply Take.there) (fun w hw => Ob.sl_at hw) | exact Ent.gnO (by repeat first | exact .here | apply Take.there) (fun w hw => Ob.row_at hw)) : Ent _ (RowAt (some ⟨b, 0, none⟩) (hdrIC h d s t v))) rfl ?_
  repeat (refine vcIf_no (by rfl) ?_)
  refine vcLoad1_row (j := 0) (v := .int .i64 h.kind) ((by first | exact Ent.gnO (by repeat first | exact .here | apply Take.there) (fun w hw => Ob.sl_at hw) | exact Ent.gnO (by repeat first | exact .here | apply Take.there) (fun w hw => Ob.row_at hw)) : Ent _ (RowAt (some ⟨b2, 0, none⟩) (hdrIC h d' s' t' v'))) rfl ?_
  repeat (refine vcIf_no (by rfl) ?_)
  refine vcIf_nno rfl ?_
  repeat (refine vcIf_no (by rfl) ?_)
  refine vcLoad1_row (j := 1) (v := .int .i64 h.ver) ((by first | exact Ent.gnO (by repeat first | exact .here | apply Take.there) (fun w hw => Ob.sl_at hw) | exact Ent.gnO (by repeat first | exact .here | apply Take.there) (fun w hw => Ob.row_at hw)) : Ent _ (RowAt (some ⟨b, 0, none⟩) (hdrIC h d s t v))) rfl ?_
  repeat (refine vcIf_no (by rfl) ?_)
  refine vcLoad1_row (j := 1) (v := .int .i64 h.ver) ((by first | exact Ent.gnO (by repeat first | exact .here | apply Take.there) (fun w hw => Ob.sl_at hw) | exact Ent.gnO (by repeat first | exact .here | apply Take.there) (fun w hw => Ob.row_at hw)) : Ent _ (RowAt (some ⟨b2, 0, none⟩) (hdrIC h d' s' t' v'))) rfl ?_
  repeat (refine vcIf_no (by rfl) ?_)
  refine vcIf_nno rfl ?_
  repeat (refine vcIf_no (by rfl) ?_)
  refine vcLoad1_row (j := 6) (v := .int .i64 h.len) ((by first | exact Ent.gnO (by repeat first | exact .here | apply Take.there) (fun w hw => Ob.sl_at hw) | exact Ent.gnO (by repeat first | exact .here | apply Take.there) (fun w hw => Ob.row_at hw)) : Ent _ (RowAt (some ⟨b, 0, none⟩) (hdrIC h d s t v))) rfl ?_
  repeat (refine vcIf_no (by rfl) ?_)
  refine vcLoad1_row (j := 6) (v := .int .i64 h.len) ((by first | exact Ent.gnO (by repeat first | exact .here | apply Take.there) (fun w hw => Ob.sl_at hw) | exact Ent.gnO (by repeat first | exact .here | apply Take.there) (fun w hw => Ob.row_at hw)) : Ent _ (RowAt (some ⟨b2, 0, none⟩) (hdrIC h d' s' t' v'))) rfl ?_
  repeat (refine vcIf_no (by rfl) ?_)
  refine vcIf_nno rfl ?_
  repeat (refine vcIf_no (by rfl) ?_)
  refine vcLoad1_row (j := 5) (v := .slice v.1 h.vers.length v.2) ((by first | exact Ent.gnO (by repeat first | exact .here | apply Take.there) (fun w hw => Ob.sl_at hw) | exact Ent.gnO (by repeat first | exact .here | apply Take.there) (fun w hw => Ob.row_at hw)) : Ent _ (RowAt (some ⟨b, 0, none⟩) (hdrIC h d s t v))) rfl ?_
  repeat (refine vcIf_no (by rfl) ?_)
  refine vcLoad1_row (j := 5) (v := .slice v'.1 h.vers.length v'.2) ((by first | exact Ent.gnO (by repeat first | exact .here | apply Take.there) (fun w hw => Ob.sl_at hw) | exact Ent.gnO (by repeat first | exact .here | apply Take.there) (fun w hw => Ob.row_at hw)) : Ent _ (RowAt (some ⟨b2, 0, none⟩) (hdrIC h d' s' t' v'))) rfl ?_
  repeat (refine vcIf_no (by rfl) ?_)
  refine vcIf_nno rfl ?_
  repeat (refine vcIf_no (by rfl) ?_)
  refine vcLoop_of (fun k : Nat => h.vers.length - k) (fun k => [(2, .pointer (some ⟨b, 0, none⟩)), (3, .pointer (some ⟨b2, 0, none⟩)), (5, .int .i64 k)]) (fun _ => [.row b 30 (hdrIC h d s t v) 7, .row b2 30 (hdrIC h d' s' t' v') 7]) (fun _ => MT) (fun k => k ≤ h.vers.length) 0 (Nat.zero_le _)
    ⟨rfl, rfl, rfl, trivial⟩ ⟨_, .cons (by first | ((repeat (first | exact .here | apply Take.there)); done) | exact .none_) (.cons (by first | ((repeat (first | exact .here | apply Take.there)); done) | exact .none_) .nil)⟩ (fun _ _ => trivial) ?_
  intro k hk
  refine vcLoad1_row (j := 5) (v := .slice v.1 h.vers.length v.2) ((by first | exact Ent.gnO (by repeat first | exact .here | apply Take.there) (fun w hw => Ob.sl_at hw) | exact Ent.gnO (by repeat first | exact .here | apply Take.there) (fun w hw => Ob.row_at hw)) : Ent _ (RowAt (some ⟨b, 0, none⟩) (hdrIC h d s t v))) rfl ?_
  refine vcIf_dec (fun hlt => ?_) (fun hge => ?_)
  · have hk' : k < h.vers.length := by omega
    have hg : (h.vers.map nJ)[k]? = some (nJ h.vers[k]) := by simp [hk']
    refine vcDraw_quiet (by kernel_rfl) ?_
    refine vcLoad1_row (j := 5) (v := .slice v.1 h.vers.length v.2) ((by first | exact Ent.gnO (by repeat first | exact .here | apply Take.there) (fun w hw => Ob.sl_at hw) | exact Ent.gnO (by repeat first | exact .here | apply Take.there) (fun w hw => Ob.row_at hw)) : Ent _ (RowAt (some ⟨b, 0, none⟩) (hdrIC h d s t v))) rfl ?_
    refine vcIdx_nat k rfl (Ent.gnG hm.vers) hk' (by simp) (fun a ha => ?_)
    have hv1 : Ent G (RowAt (some a) (h.vers.map nJ)) := ha ▸ hm.vers
    refine vcLoad1_row (v := nJ h.vers[k]) (Ent.gnG hv1) hg ?_
    refine vcLoad1_row (j := 5) (v := .slice v'.1 h.vers.length v'.2) ((by first | exact Ent.gnO (by repeat first | exact .here | apply Take.there) (fun w hw => Ob.sl_at hw) | exact Ent.gnO (by repeat first | exact .here | apply Take.there) (fun w hw => Ob.row_at hw)) : Ent _ (RowAt (some ⟨b2, 0, none⟩) (hdrIC h d' s' t' v'))) rfl ?_
    refine vcIdx_nat k rfl (Ent.gnG hm'.vers) hk' (by simp) (fun a' ha' => ?_)
    have hv2 : Ent G (RowAt (some a') (h.vers.map nJ)) := ha' ▸ hm'.vers
    refine vcLoad1_row (v := nJ h.vers[k]) (Ent.gnG hv2) hg ?_
    refine vcIf_nno rfl ?_
    refine vcFit_i64 (by omega) ?_
    exact ⟨k + 1, by omega, by omega, ⟨rfl, rfl, rfl, trivial⟩, ⟨_, .cons (by first | ((repeat (first | exact .here | apply Take.there)); done) | exact .none_) (.cons (by first | ((repeat (first | exact .here | apply Take.there)); done) | exact .none_) .nil)⟩, fun _ _ => trivial⟩
  · refine vcLoad1_row (j := 2) (v := .slice d.1 h.dst.length d.2) ((by first | exact Ent.gnO (by repeat first | exact .here | apply Take.there) (fun w hw => Ob.sl_at hw) | exact Ent.gnO (by repeat first | exact .here | apply Take.there) (fun w hw => Ob.row_at hw)) : Ent _ (RowAt (some ⟨b, 0, none⟩) (hdrIC h d s t v))) rfl ?_
    repeat (refine vcIf_yes (by rfl) ?_)
    refine vcLoad1_row (j := 2) (v := .slice d'.1 h.dst.length d'.2) ((by first | exact Ent.gnO (by repeat first | exact .here | apply Take.there) (fun w hw => Ob.sl_at hw) | exact Ent.gnO (by repeat first | exact .here | apply Take.there) (fun w hw => Ob.row_at hw)) : Ent _ (RowAt (some ⟨b2, 0, none⟩) (hdrIC h d' s' t' v'))) rfl ?_
    repeat (refine vcIf_yes (by rfl) ?_)
    refine vcCall_of .nil (same_spec d.1 d'.1 d.2 d'.2 h.dst h.dst _ (Ent.gnG hm.dst) (Ent.gnG hm'.dst) (by omega)) (fun v own' N' hv => ?_)
    rw [decide_eq_true (rfl : h.dst = h.dst)] at hv
    obtain ⟨rfl, rfl, rfl⟩ := hv
    repeat (refine vcIf_yes (by rfl) ?_)
    refine vcLoad1_row (j := 3) (v := .slice s.1 h.src.length s.2) ((by first | exact Ent.gnO (by repeat first | exact .here | apply Take.there) (fun w hw => Ob.sl_at hw) | exact Ent.gnO (by repeat first | exact .here | apply Take.there) (fun w hw => Ob.row_at hw)) : Ent _ (RowAt (some ⟨b, 0, none⟩) (hdrIC h d s t v))) rfl ?_
    repeat (refine vcIf_yes (by rfl) ?_)
    refine vcLoad1_row (j := 3) (v := .slice s'.1 h.src.length s'.2) ((by first | exact Ent.gnO (by repeat first | exact .here | apply Take.there) (fun w hw => Ob.sl_at hw) | exact Ent.gnO (by repeat first | exact .here | apply Take.there) (fun w hw => Ob.row_at hw)) : Ent _ (RowAt (some ⟨b2, 0, none⟩) (hdrIC h d' s' t' v'))) rfl ?_
    repeat (refine vcIf_yes (by rfl) ?_)
    refine vcCall_of .nil (same_spec s.1 s'.1 s.2 s'.2 h.src h.src _ (Ent.gnG hm.src) (Ent.gnG hm'.src) (by omega)) (fun v own' N' hv => ?_)
    rw [decide_eq_true (rfl : h.src = h.src)] at hv
    obtain ⟨rfl, rfl, rfl⟩ := hv
    repeat (refine vcIf_yes (by rfl) ?_)
    refine vcLoad1_row (j := 4) (v := .slice t.1 h.tok.length t.2) ((by first | exact Ent.gnO (by repeat first | exact .here | apply Take.there) (fun w hw => Ob.sl_at hw) | exact Ent.gnO (by repeat first | exact .here | apply Take.there) (fun w hw => Ob.row_at hw)) : Ent _ (RowAt (some ⟨b, 0, none⟩) (hdrIC h d s t v))) rfl ?_
    repeat (refine vcIf_yes (by rfl) ?_)
    refine vcLoad1_row (j := 4) (v := .slice t'.1 h.tok.length t'.2) ((by first | exact Ent.gnO (by repeat first | exact .here | apply Take.there) (fun w hw => Ob.sl_at hw) | exact Ent.gnO (by repeat first | exact .here | apply Take.there) (fun w hw => Ob.row_at hw)) : Ent _ (RowAt (some ⟨b2, 0, none⟩) (hdrIC h d' s' t' v'))) rfl ?_
    repeat (refine vcIf_yes (by rfl) ?_)
    refine vcCall_of .nil (same_spec t.1 t'.1 t.2 t'.2 h.tok h.tok _ (Ent.gnG hm.tok) (Ent.gnG hm'.tok) (by omega)) (fun v own' N' hv => ?_)
    rw [decide_eq_true (rfl : h.tok = h.tok)] at hv
    obtain ⟨rfl, rfl, rfl⟩ := hv
    repeat (refine vcIf_yes (by rfl) ?_)
    exact ⟨[], _, MT, .nil, fun _ _ _ => trivial, rfl, rfl, rfl⟩

def CopiedPost (h : HdrI) (v : Value) (own : List Ob) (N : Mp) : Prop := ∃ d s t vs, v = .agg (hdrIC h d s t vs).toArray ∧ own = [] ∧ HdrIM h d s t vs N
theorem copied_spec (h : HdrI) (d s t v : Pl) (G : Mp) (hm : HdrIM h d s t v G) (hl : h.dst.length ≤ 140737488351232 ∧ h.src.length ≤ 140737488351232 ∧ h.tok.length ≤ 140737488351232 ∧ h.vers.length ≤ 17592186044416) :
    Spec Try.prog 23 #[.agg (hdrIC h d s t v).toArray] [] G (CopiedPost h) := by
  refine Spec.intro (args := [_]) wide Try.func23 rfl Try.call23 (by rfl) (by rfl) (fun w0 hw0 => ?_)
  intro b
  intro b2
  refine vcDraw_mix [0,1,3,4,6,7,2,9,5,8,10,11,12,13,14] (RowAt (some ⟨b, 0, none⟩) (hdrIC h d s t v)) (by kernel_rfl) (by first | exact Ent.gnO (by repeat first | exact .here | apply Take.there) (fun w hw => Ob.sl_at hw) | exact Ent.gnO (by repeat first | exact .here | apply Take.there) (fun w hw => Ob.row_at hw)) ?_
  refine vcLoad1_row (j := 2) (v := .slice d.1 h.dst.length d.2) Ent.refl rfl ?_
  refine vcLoad1_row (j := 3) (v := .slice s.1 h.src.length s.2) Ent.refl rfl ?_
  refine vcLoad1_row (j := 4) (v := .slice t.1 h.tok.length t.2) Ent.refl rfl ?_
  refine vcCall_of .nil (copy_spec d.1 d.2 h.dst _ (Ent.gnG hm.dst) (by omega)) (fun v' own' N' hv => ?_)
  obtain ⟨A1, c1, rfl, rfl, rfl, hc1⟩ := hv
  refine vcMix_same (by first | exact Ent.gnO (by repeat first | exact .here | apply Take.there) (fun w hw => Ob.sl_at hw) | exact Ent.gnO (by repeat first | exact .here | apply Take.there) (fun w hw => Ob.row_at hw)) ?_
  refine vcCall_of .nil (copy_spec s.1 s.2 h.src _ (Ent.gnG hm.src) (by omega)) (fun v' own' N' hv => ?_)
  obtain ⟨A2, c2, rfl, rfl, rfl, hc2⟩ := hv
  refine vcMix_same (by first | exact Ent.gnO (by repeat first | exact .here | apply Take.there) (fun w hw => Ob.sl_at hw) | exact Ent.gnO (by repeat first | exact .here | apply Take.there) (fun w hw => Ob.row_at hw)) ?_
  refine vcCall_of .nil (copy_spec t.1 t.2 h.tok _ (Ent.gnG hm.tok) (by omega)) (fun v' own' N' hv => ?_)
  obtain ⟨A3, c3, rfl, rfl, rfl, hc3⟩ := hv
  refine vcMix_same (by first | exact Ent.gnO (by repeat first | exact .here | apply Take.there) (fun w hw => Ob.sl_at hw) | exact Ent.gnO (by repeat first | exact .here | apply Take.there) (fun w hw => Ob.row_at hw)) ?_
  refine vcStore1_1 (.row b _ _ _) _ (by first | ((repeat (first | exact .here | apply Take.there)); done) | exact .none_) rfl (by show (2 : Nat) < 7; decide) rfl ?_
  refine vcMix_last (by kernel_rfl) ?_
  refine vcStore1_1 (.row b _ _ _) _ (by first | ((repeat (first | exact .here | apply Take.there)); done) | exact .none_) rfl (by show (3 : Nat) < 7; decide) rfl ?_
  refine vcMix_last (by kernel_rfl) ?_
  refine vcStore1_1 (.row b _ _ _) _ (by first | ((repeat (first | exact .here | apply Take.there)); done) | exact .none_) rfl (by show (4 : Nat) < 7; decide) rfl ?_
  refine vcMix_last (by kernel_rfl) ?_
  intro bn
  refine vcLoad1_row (j := 5) (v := .slice v.1 h.vers.length v.2) ((by first | exact Ent.gnO (by repeat first | exact .here | apply Take.there) (fun w hw => Ob.sl_at hw) | exact Ent.gnO (by repeat first | exact .here | apply Take.there) (fun w hw => Ob.row_at hw)) : Ent _ (RowAt (some ⟨b, 0, none⟩) (hdrIC { h with } (A1, c1) (A2, c2) (A3, c3) v))) rfl ?_
  refine vcApp_of [] _ (h.vers.map nJ) (by first | ((repeat (first | exact .here | apply Take.there)); done) | exact .none_) rfl (by simp) (by decide) (by simp [nJ, oneCell]) (Ent.gnG hm.vers) (by omega) (by omega) (fun A' cap' hcap => ?_)
  rw [Nat.zero_add, List.nil_append]
  refine vcStore1_1 (.row b _ _ _) _ (by first | ((repeat (first | exact .here | apply Take.there)); done) | exact .none_) rfl (by show (5 : Nat) < 7; decide) rfl ?_
  refine vcLoadN_0 (xs := hdrIC h (A1, c1) (A2, c2) (A3, c3) (A', cap')) (by first | exact Ent.gnO (by repeat first | exact .here | apply Take.there) (fun w hw => Ob.sl_at hw) | exact Ent.gnO (by repeat first | exact .here | apply Take.there) (fun w hw => Ob.row_at hw)) rfl ?_
  refine ⟨rfl, vcStoreN_row _ (by first | ((repeat (first | exact .here | apply Take.there)); done) | exact .none_) (by rfl) (by simp [oneCell, cellsL, hdrIC]) ?_⟩
  refine vcLoadN_0 (xs := hdrIC h (A1, c1) (A2, c2) (A3, c3) (A', cap')) ((by first | exact Ent.gnO (by repeat first | exact .here | apply Take.there) (fun w hw => Ob.sl_at hw) | exact Ent.gnO (by repeat first | exact .here | apply Take.there) (fun w hw => Ob.row_at hw)) : Ent _ (RowAt (some ⟨b2, 0, none⟩) (hdrIC h (A1, c1) (A2, c2) (A3, c3) (A', cap')))) rfl ?_
  exact ⟨[], _, MpAnd (MpAnd (RowAt A1 (Bs h.dst)) (RowAt A2 (Bs h.src))) (MpAnd (RowAt A3 (Bs h.tok)) (RowAt A' (h.vers.map nJ))), .nil, fun w _ ho => ⟨⟨Ob.sl_at (ho (.sl A1 c1 5 1 (Bs h.dst)) (by simp)), Ob.sl_at (ho (.sl A2 c2 5 1 (Bs h.src)) (by simp))⟩, Ob.sl_at (ho (.sl A3 c3 5 1 (Bs h.tok)) (by simp)), Ob.sl_at (ho (.sl A' cap' 3 1 (h.vers.map nJ)) (by simp))⟩, (A1, c1), (A2, c2), (A3, c3), (A', cap'), rfl, rfl, fun w hw => hw.1.1, fun w hw => hw.1.2, fun w hw => hw.2.1, fun w hw => hw.2.2⟩
end Go.Proofs.Ytlobimomeeppeaa
