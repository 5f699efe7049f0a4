/- PoolAlone: the law's hand. -/
import Derived.Test.YtekbimbohppfoaaPolO
namespace Go.Proofs.Ytekbimbohppfoaa
open Go.Proofs
set_option maxRecDepth 10000

def hdR (hb pb : Nat) (L n : Int) (A : Option Addr) (len c : Nat) (last : Int) : Ob := .row hb 45 [.pointer (some ⟨pb, 0, none⟩), .int .i64 L, .int .i64 n, .slice A len c, .int .i64 last] 5
def hdS (A : Option Addr) (c : Nat) (held : List Int) : Ob := .sl A c 3 1 (intL held)

theorem htake_spec (hb : Nat) (A : Option Addr) (c : Nat) (held : List Int) (last : Int) (a : PlA) (n L : Int) (m : Nat) (p p' : Pl) (k l b : Int) (G : Mp) (hal : Al n L m p held last) (hg : GrTo p k l b p') (hm : m ≤ 1000000000000000) :
    Spec Try.prog 16 #[.pointer (some ⟨hb, 0, none⟩), .agg #[.int .i64 k, .int .i64 l, .int .i64 b]] (hdR hb a.b L n A held.length c last :: hdS A c held :: plO a p') G
      (fun v own N => ∃ A' c' held' last', v = .bool true ∧ own = hdR hb a.b L n A' held'.length c' last' :: hdS A' c' held' :: plO a p' ∧ N = MT ∧ Al n L (m + 1) p' held' last') := by
  refine Spec.introC (args := [_, _]) wide Try.func16 rfl Try.call16 (by rfl) (by rfl) [3, 13] (fun w0 hw0 => ?_)
  have hok' := hg.1.1
  have hfew := hok'.few
  have hlk := hal.lk
  have hlast := hal.last
  have hlast0 := hal.ok.last
  have hheld : held.length ≤ 256 := by
    have h1 := hal.hd.length_eq
    rw [heldN_len] at h1
    have h2 := List.countP_le_length (p := busyB) (l := p.ls)
    have := hal.ok.few
    omega
  intro b3
  refine vcCut_of (fun _ : Unit => [(0, .pointer (some ⟨hb, 0, none⟩)), (3, .pointer (some ⟨b3, 0, none⟩))]) (fun _ => .row b3 30 [.int .i64 k, .int .i64 l, .int .i64 b] 3 :: hdR hb a.b L n A held.length c last :: hdS A c held :: plO a p') (fun _ => MT)
    (fun _ => (k = 1 ∨ k = 2) ∧ l ∉ held ∧ (k = 1 → l = last + 1) ∧ (k = 2 → l ≤ last) ∧ (0 ≤ b ∧ b < n) ∧ (1 ≤ (p'.ls.countP (isB b) : Int) ∧ (p'.ls.countP (isB b) : Int) ≤ L) ∧ Al n L (m + 1) p' (held ++ [l]) (if k = 1 then l else last)) ?_ ?_
  · refine vcLoad1_row (Ent.gnO .here (fun w hw => Ob.row_at hw)) rfl ?_
    rcases hal.grant hg with ⟨k1, k2, rfl, rfl, hal'⟩ | hgr
    · refine vcIf_nyes k1 ?_
      refine vcLoad1_row (Ent.gnO .here (fun w hw => Ob.row_at hw)) rfl ?_
      refine vcIf_nyes k2 ?_
      refine vcLoad1_row (Ent.gnO .here (fun w hw => Ob.row_at hw)) rfl ?_
      refine vcLoad1_row (Ent.gnO .here (fun w hw => Ob.row_at hw)) rfl ?_
      exact ⟨hdR hb a.b L n A held.length c last :: hdS A c held :: plO a p', _, MT, Pick.whole.under, fun _ _ _ => trivial, A, c, held, last, rfl, rfl, rfl, hal'⟩
    · refine vcIf_ndec (fun h1 => ?_) (fun h1 => ?_)
      · refine vcLoad1_row (Ent.gnO .here (fun w hw => Ob.row_at hw)) rfl ?_
        refine vcIf_nno (hgr.1.resolve_left h1) ?_
        exact ⟨(), hgr, ⟨rfl, rfl, trivial⟩, ⟨_, Pick.whole⟩, fun _ _ => trivial⟩
      · exact ⟨(), hgr, ⟨rfl, rfl, trivial⟩, ⟨_, Pick.whole⟩, fun _ _ => trivial⟩
  rintro _ ⟨hk, hl, hk1, hk2, hbb, hcnt, hal'⟩
  refine vcLoad1_row (Ent.gnO (.there .here) (fun w hw => Ob.row_at hw)) rfl ?_
  refine vcLoop_of (fun j : Nat => held.length - j) (fun j => [(0, .pointer (some ⟨hb, 0, none⟩)), (3, .pointer (some ⟨b3, 0, none⟩)), (28, .slice A held.length c), (29, .int .i64 held.length), (30, .int .i64 j)])
    (fun _ => .row b3 30 [.int .i64 k, .int .i64 l, .int .i64 b] 3 :: hdR hb a.b L n A held.length c last :: hdS A c held :: plO a p') (fun _ => MT) (fun j => j ≤ held.length) 0 (Nat.zero_le _) ⟨rfl, rfl, rfl, rfl, rfl, trivial⟩ ⟨_, Pick.whole⟩ (fun _ _ => trivial) ?_
  intro j hj
  refine vcIf_dec (fun hlt => ?_) (fun hge => ?_)
  · have hj' : j < held.length := by omega
    refine vcIdx_nat j rfl (Ent.gnO (.there (.there .here)) (fun w hw => Ob.sl_at hw)) hj' (by simp) (fun ad had => ?_)
    subst had
    refine vcLoad1_row (v := .int .i64 held[j]) (Ent.gnO (.there (.there .here)) (fun w hw => Ob.sl_at hw)) (by simp [hj']) ?_
    refine vcLoad1_row (Ent.gnO .here (fun w hw => Ob.row_at hw)) rfl ?_
    refine vcIf_no (fun e => hl (e ▸ List.getElem_mem hj')) ?_
    refine vcFit_i64 (by first | omega | (simp only; omega)) ?_
    exact ⟨j + 1, by omega, by omega, ⟨rfl, rfl, rfl, rfl, rfl, trivial⟩, ⟨_, Pick.whole⟩, fun _ _ => trivial⟩
  refine vcCut_of (fun _ : Unit => [(0, .pointer (some ⟨hb, 0, none⟩)), (3, .pointer (some ⟨b3, 0, none⟩))]) (fun _ => .row b3 30 [.int .i64 k, .int .i64 l, .int .i64 b] 3 :: hdR hb a.b L n A held.length c (if k = 1 then l else last) :: hdS A c held :: plO a p') (fun _ => MT) (fun _ => True) ?_ ?_
  · refine vcLoad1_row (Ent.gnO .here (fun w hw => Ob.row_at hw)) rfl ?_
    refine vcIf_dec (fun h1 => ?_) (fun h1 => ?_)
    · have := hk1 h1
      refine vcDraw_quiet (by kernel_rfl) ?_
      refine vcLoad1_row (Ent.gnO .here (fun w hw => Ob.row_at hw)) rfl ?_
      refine vcLoad1_row (Ent.gnO (.there .here) (fun w hw => Ob.row_at hw)) rfl ?_
      refine vcFit_i64 (by first | omega | (simp only; omega)) ?_
      refine vcIf_nno this ?_
      refine vcLoad1_row (Ent.gnO .here (fun w hw => Ob.row_at hw)) rfl ?_
      refine vcStore1_1 (hdR hb a.b L n A held.length c last) _ (.there .here) rfl (by show (4 : Nat) < 5; decide) rfl ?_
      exact ⟨(), trivial, ⟨rfl, rfl, trivial⟩, ⟨_, .cons (.there .here) (.cons (Take.eq (by rw [if_pos h1]; rfl)) Pick.whole)⟩, fun _ _ => trivial⟩
    · exact ⟨(), trivial, ⟨rfl, rfl, trivial⟩, ⟨_, .cons .here (.cons (Take.eq (by rw [if_neg h1])) Pick.whole)⟩, fun _ _ => trivial⟩
  intro _ _
  have hle : l ≤ (if k = 1 then l else last) := by
    split
    · omega
    · rename_i h; exact hk2 (hk.resolve_left h)
  generalize (if k = 1 then l else last) = last' at *
  refine vcDraw_mix [0,1,2,3,4,5,6,7,8,9,10,11] (MpAnd (RowAt (some ⟨hb, 0, none⟩) [.pointer (some ⟨a.b, 0, none⟩), .int .i64 L, .int .i64 n, .slice A held.length c, .int .i64 last']) (RowAt (some ⟨b3, 0, none⟩) [.int .i64 k, .int .i64 l, .int .i64 b])) (by kernel_rfl) (fun w hw => ⟨((by first | exact Ent.gnO (by repeat first | exact .here | apply Take.there) (fun w hw => Ob.sl_at hw) | exact Ent.gnO (by repeat first | exact .here | apply Take.there) (fun w hw => Ob.row_at hw)) : Ent _ (RowAt (some ⟨hb, 0, none⟩) [.pointer (some ⟨a.b, 0, none⟩), .int .i64 L, .int .i64 n, .slice A held.length c, .int .i64 last'])) w hw, ((by first | exact Ent.gnO (by repeat first | exact .here | apply Take.there) (fun w hw => Ob.sl_at hw) | exact Ent.gnO (by repeat first | exact .here | apply Take.there) (fun w hw => Ob.row_at hw)) : Ent _ (RowAt (some ⟨b3, 0, none⟩) [.int .i64 k, .int .i64 l, .int .i64 b])) w hw⟩) ?_
  refine vcLoad1_row (j := 3) (Ent.andL Ent.refl) rfl ?_
  refine vcLoad1_row (j := 1) (Ent.andR Ent.refl) rfl ?_
  intro bn
  refine vcMix_same (fun w hw => ⟨((by first | exact Ent.gnO (by repeat first | exact .here | apply Take.there) (fun w hw => Ob.sl_at hw) | exact Ent.gnO (by repeat first | exact .here | apply Take.there) (fun w hw => Ob.row_at hw)) : Ent _ (RowAt (some ⟨hb, 0, none⟩) [.pointer (some ⟨a.b, 0, none⟩), .int .i64 L, .int .i64 n, .slice A held.length c, .int .i64 last'])) w hw, ((by first | exact Ent.gnO (by repeat first | exact .here | apply Take.there) (fun w hw => Ob.sl_at hw) | exact Ent.gnO (by repeat first | exact .here | apply Take.there) (fun w hw => Ob.row_at hw)) : Ent _ (RowAt (some ⟨b3, 0, none⟩) [.int .i64 k, .int .i64 l, .int .i64 b])) w hw⟩) ?_
  refine vcApp_of (intL held) _ (intL [l]) (.there (.there (.there .here))) (by simp) rfl (by omega) (intL_one _) (Ent.gnO .here (fun w hw => Ob.sl_at hw)) (by first | omega | (simp only; omega)) (by first | omega | (simp only; omega)) (fun A2 c2 hc2 => ?_)
  rw [show intL held ++ intL [l] = intL (held ++ [l]) from (List.map_append ..).symm]
  refine vcMix_same (fun w hw => ⟨((by first | exact Ent.gnO (by repeat first | exact .here | apply Take.there) (fun w hw => Ob.sl_at hw) | exact Ent.gnO (by repeat first | exact .here | apply Take.there) (fun w hw => Ob.row_at hw)) : Ent _ (RowAt (some ⟨hb, 0, none⟩) [.pointer (some ⟨a.b, 0, none⟩), .int .i64 L, .int .i64 n, .slice A held.length c, .int .i64 last'])) w hw, ((by first | exact Ent.gnO (by repeat first | exact .here | apply Take.there) (fun w hw => Ob.sl_at hw) | exact Ent.gnO (by repeat first | exact .here | apply Take.there) (fun w hw => Ob.row_at hw)) : Ent _ (RowAt (some ⟨b3, 0, none⟩) [.int .i64 k, .int .i64 l, .int .i64 b])) w hw⟩) ?_
  refine vcStore1_1 (hdR hb a.b L n A held.length c last') _ (.there (.there (.there .here))) rfl (by show (3 : Nat) < 5; decide) rfl ?_
  refine vcMix_last (by kernel_rfl) ?_
  have hN : (held ++ [l]).length = held.length + 1 := by simp
  refine vcDraw_mix [0,1,2,3,4,5,6,7,8,9,10,11] (MpAnd (RowAt (some ⟨hb, 0, none⟩) [.pointer (some ⟨a.b, 0, none⟩), .int .i64 L, .int .i64 n, .slice A2 (held.length + 1) c2, .int .i64 last']) (RowAt (some ⟨b3, 0, none⟩) [.int .i64 k, .int .i64 l, .int .i64 b])) (by kernel_rfl) (fun w hw => ⟨?_, ?_⟩) ?_
  · exact Ent.gnO .here (fun w hw => Ob.row_at hw) w hw
  · exact Ent.gnO (.there (.there (.there .here))) (fun w hw => Ob.row_at hw) w hw
  refine vcLoad1_row (Ent.andL Ent.refl) rfl ?_
  refine vcLoad1_row (Ent.andR Ent.refl) rfl ?_
  have hb3 : 0 ≤ b := hbb.1
  refine vcCall_of (rest := _) (by exact Pick.whole.under.under.under.under) (count_spec a p' b _ hok' (by omega)) (fun v own' N' hv => ?_)
  obtain ⟨rfl, rfl, rfl⟩ := hv
  refine vcMix_last (by kernel_rfl) ?_
  refine vcDraw_quiet (by kernel_rfl) ?_
  refine vcIf_yes (by omega) ?_
  refine vcLoad1_row (j := 1) (Ent.gnO (.there (.there (.there (.there (Take.app .here))))) (fun w hw => Ob.row_at hw)) rfl ?_
  refine vcIf_yes (by omega) ?_
  refine vcLoad1_row (j := 1) (Ent.gnO (.there (.there (.there (.there (Take.app (.there (.there (.there .here)))))))) (fun w hw => Ob.row_at hw)) rfl ?_
  refine vcLoad1_row (j := 4) (Ent.gnO (.there (.there (.there (.there (Take.app .here))))) (fun w hw => Ob.row_at hw)) rfl ?_
  refine vcIf_yes hle ?_
  refine vcLoad1_row (j := 2) (Ent.gnO (.there (.there (.there (.there (Take.app (.there (.there (.there .here)))))))) (fun w hw => Ob.row_at hw)) rfl ?_
  refine vcIf_yes hb3 ?_
  refine vcLoad1_row (j := 2) (Ent.gnO (.there (.there (.there (.there (Take.app (.there (.there (.there .here)))))))) (fun w hw => Ob.row_at hw)) rfl ?_
  refine vcLoad1_row (j := 2) (Ent.gnO (.there (.there (.there (.there (Take.app .here))))) (fun w hw => Ob.row_at hw)) rfl ?_
  have hP : Pick (hdR hb a.b L n A2 (held ++ [l]).length c2 last' :: hdS A2 c2 (held ++ [l]) :: plO a p') (plO a p' ++ [hdR hb a.b L n A2 (held.length + 1) c2 last', hdS A2 c2 (held ++ [l]), .sl (some ⟨bn, 0, none⟩) 1 3 1 (intL [l]), .row b3 30 [.int .i64 k, .int .i64 l, .int .i64 b] 3]) [.sl (some ⟨bn, 0, none⟩) 1 3 1 (intL [l]), .row b3 30 [.int .i64 k, .int .i64 l, .int .i64 b] 3] := by
    rw [hN]
    exact .cons (Take.app .here) (.cons (Take.app .here) Pick.front)
  exact ⟨hdR hb a.b L n A2 (held ++ [l]).length c2 last' :: hdS A2 c2 (held ++ [l]) :: plO a p', _, MT, hP, fun _ _ _ => trivial, A2, c2, held ++ [l], last', congrArg Value.bool (decide_eq_true hbb.2), rfl, rfl, hal'⟩

theorem hdrop_spec (hb : Nat) (A : Option Addr) (c : Nat) (held : List Int) (last : Int) (pb : Nat) (n L l : Int) (G : Mp) (hh : held.length ≤ 1000000) :
    Spec Try.prog 18 #[.pointer (some ⟨hb, 0, none⟩), .int .i64 l] [hdR hb pb L n A held.length c last, hdS A c held] G
      (fun v own N => ∃ A' c', v = .tuple #[] ∧ own = [hdR hb pb L n A' (held.filter fun y => decide (y ≠ l)).length c' last, hdS A' c' (held.filter fun y => decide (y ≠ l))] ∧ N = MT) := by
  refine Spec.intro (args := [_, _]) wide Try.func18 rfl Try.call18 (by rfl) (by rfl) (fun w0 hw0 => ?_)
  refine vcLoad1_row (j := 3) (Ent.gnO .here (fun w hw => Ob.row_at hw)) rfl ?_
  refine vcLoop_of (fun g : Nat × Option Addr × Nat => held.length - g.1) (fun g => [(0, .pointer (some ⟨hb, 0, none⟩)), (1, .int .i64 l), (4, .slice g.2.1 ((held.take g.1).filter fun y => decide (y ≠ l)).length g.2.2), (10, .slice A held.length c), (11, .int .i64 held.length), (12, .int .i64 g.1)])
    (fun g => [hdR hb pb L n A held.length c last, hdS A c held, .sl g.2.1 g.2.2 3 1 (intL ((held.take g.1).filter fun y => decide (y ≠ l)))]) (fun _ => MT) (fun g => g.1 ≤ held.length) (0, none, 0) (Nat.zero_le _) ⟨rfl, rfl, rfl, rfl, rfl, rfl, trivial⟩ ⟨_, .cons .here (.cons .here (.cons .none_ .nil))⟩ (fun _ _ => trivial) ?_
  rintro ⟨j, B, d⟩ hj
  simp only at hj
  have hfl : ((held.take j).filter fun y => decide (y ≠ l)).length ≤ held.length := Nat.le_trans (List.length_filter_le _ _) (by rw [List.length_take]; omega)
  refine vcIf_dec (fun hlt => ?_) (fun hge => ?_)
  · have hj' : j < held.length := (by first | omega | (simp only; omega))
    refine vcIdx_nat j rfl (Ent.gnO (.there .here) (fun w hw => Ob.sl_at hw)) hj' (by simp) (fun ad had => ?_)
    subst had
    refine vcLoad1_row (v := .int .i64 held[j]) (Ent.gnO (.there .here) (fun w hw => Ob.sl_at hw)) (by simp [hj']) ?_
    have hs := take_snoc_get hj'
    refine vcIf_ndec (fun hne => ?_) (fun he => ?_)
    · intro bn
      refine vcApp_of (intL ((held.take j).filter fun y => decide (y ≠ l))) _ (intL [held[j]]) (.there (.there (.there .here))) (by simp) rfl (by omega) (intL_one _) (Ent.gnO .here (fun w hw => Ob.sl_at hw)) (by first | omega | (simp only; omega)) (by first | omega | (simp only; omega)) (fun A2 c2 hc2 => ?_)
      have hf : (held.take (j + 1)).filter (fun y => decide (y ≠ l)) = (held.take j).filter (fun y => decide (y ≠ l)) ++ [held[j]] := by
        rw [hs, List.filter_append, List.filter_cons, if_pos (by simpa using hne)]; rfl
      rw [show intL ((held.take j).filter fun y => decide (y ≠ l)) ++ intL [held[j]] = intL ((held.take (j + 1)).filter fun y => decide (y ≠ l)) from by rw [hf]; simp]
      refine vcFit_i64 (by first | omega | (simp only; omega)) ?_
      exact ⟨(j + 1, A2, c2), (by first | omega | (simp only; omega)), (by first | omega | (simp only; omega)), ⟨rfl, rfl, by rw [hf]; simp; rfl, rfl, rfl, rfl, trivial⟩, ⟨_, .cons (.there (.there .here)) (.cons (.there (.there .here)) (.cons .here .nil))⟩, fun _ _ => trivial⟩
    · have hf : (held.take (j + 1)).filter (fun y => decide (y ≠ l)) = (held.take j).filter (fun y => decide (y ≠ l)) := by
        rw [hs, List.filter_append, List.filter_cons, if_neg (by simpa using he)]; simp
      refine vcFit_i64 (by first | omega | (simp only; omega)) ?_
      exact ⟨(j + 1, B, d), (by first | omega | (simp only; omega)), (by first | omega | (simp only; omega)), ⟨rfl, rfl, by rw [hf]; rfl, rfl, rfl, rfl, trivial⟩, ⟨_, .cons .here (.cons .here (.cons (Take.eq (by rw [hf])) .nil))⟩, fun _ _ => trivial⟩
  · obtain rfl : j = held.length := (by first | omega | (simp only; omega))
    rw [List.take_length]
    refine vcStore1_1 (hdR hb pb L n A held.length c last) _ .here rfl (by show (3 : Nat) < 5; decide) rfl ?_
    exact ⟨_, _, MT, .cons .here (.cons (.there .here) .nil), fun _ _ _ => trivial, B, d, rfl, rfl, rfl⟩
end Go.Proofs.Ytekbimbohppfoaa
