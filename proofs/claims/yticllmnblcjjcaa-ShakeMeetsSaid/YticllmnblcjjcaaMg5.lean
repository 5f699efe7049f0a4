/- Layer 10: the law's rest. [ShkQ ShkR ShkS ShkT ShkU ShkV ShkW ShkX ShkY ShkF ShkG ShkH] -/
import Derived.Test.YticllmnblcjjcaaMg4
import Derived.Test.YticllmnblcjjcaaMg3
section
/- Layer 10: the taking of a client's hello: what it says, and reading it. -/
namespace Go.Proofs.Yticllmnblcjjcaa
open Go.Proofs
set_option maxRecDepth 10000

def protosR (bs : List UInt8) : Nat → (Nat × Int) → List ByteArray × (Nat × Int)
  | 0, s => ([], s)
  | k + 1, s => ((protosR bs k s).1 ++ [strB (shortR bs (protosR bs k s).2).1], (shortR bs (protosR bs k s).2).2)
theorem protosR_len (bs : List UInt8) (s : Nat × Int) : ∀ k, (protosR bs k s).1.length = k
  | 0 => rfl
  | k + 1 => by simp [protosR, protosR_len bs s k]
theorem protosR_le {bs : List UInt8} {s : Nat × Int} (h : s.1 ≤ bs.length) : ∀ k, (protosR bs k s).2.1 ≤ bs.length
  | 0 => h
  | k + 1 => shortR_le (protosR_le h k)
structure CH where
  pubn : Nat
  ps : List ByteArray
  peer : List UInt8
  st : Nat × Int
def parseCH (body : List UInt8) : CH :=
  ⟨(helloR body (0, 0)).1, (protosR body (rbyte body (helloR body (0, 0)).2).1.toNat (rbyte body (helloR body (0, 0)).2).2).1,
    (longR body (protosR body (rbyte body (helloR body (0, 0)).2).1.toNat (rbyte body (helloR body (0, 0)).2).2).2).1,
    (longR body (protosR body (rbyte body (helloR body (0, 0)).2).1.toNat (rbyte body (helloR body (0, 0)).2).2).2).2⟩
def goodCH (body : List UInt8) : Prop := okN (parseCH body).pubn ∧ wholeR body (parseCH body).st = true ∧ goodL (parseCH body).ps ∧ (parseCH body).peer.length ≤ 1024
instance (body : List UInt8) : Decidable (goodCH body) := inferInstanceAs (Decidable (_ ∧ _ ∧ _ ∧ _))
def choL (proto : ByteArray) (par : List UInt8) : List UInt8 := [byteI proto.size] ++ proto.data.toList ++ lng par
def ch1 (s : SP) (body : List UInt8) (x : ByteArray) : SP := { hearS s 1 body with proto := x, peer := (parseCH body).peer }
def ch2 (s : SP) (body : List UInt8) (x : ByteArray) : SP := agreeS (sayS (ch1 s body x) 2 0 (helloL s.rnd s.priv)) (pubN (parseCH body).pubn)
def ch3 (s : SP) (body : List UInt8) (x : ByteArray) : SP := sayS (ch2 s body x) 8 1 (choL x s.par)
def ch4 (s : SP) (body : List UInt8) (x : ByteArray) : SP := applyS (sayS (ch3 s body x) 20 1 (prfL (ch3 s body x).said (ch3 s body x).hs))
def pickP (s : SP) (body : List UInt8) : Option ByteArray := s.ps.find? fun x => (parseCH body).ps.any fun y => decide (x = y)
def takeCH (s : SP) (body : List UInt8) : SP × Int :=
  if goodCH body then match pickP s body with
    | some x => (ch4 s body x, 0)
    | none => (s, 102)
  else (s, 100)
theorem idxI_find {α : Type} (p : α → Bool) (l : List α) : (idxI p l = -1 ∧ l.find? p = none) ∨ ∃ k, ∃ h : k < l.length, idxI p l = k ∧ l.find? p = some l[k] := by
  cases h : l.findIdx? p with
  | none =>
    left
    refine ⟨by simp [idxI, h], ?_⟩
    rw [List.findIdx?_eq_none_iff] at h
    exact List.find?_eq_none.2 fun x hx => by simp [h x hx]
  | some k =>
    right
    rw [List.findIdx?_eq_some_iff_getElem] at h
    obtain ⟨hk, hp, hb⟩ := h
    refine ⟨k, hk, ?_, ?_⟩
    · simp only [idxI]
      rw [List.findIdx?_eq_some_iff_getElem.2 ⟨hk, hp, hb⟩]
    · rw [List.find?_eq_some_iff_getElem]
      exact ⟨hp, k, hk, rfl, fun j hj => by have := hb j hj; simpa using this⟩
theorem rbyte_bd (bs : List UInt8) (s : Nat × Int) : 0 ≤ (rbyte bs s).1 ∧ (rbyte bs s).1 < 256 := by
  unfold rbyte
  cases (rbytes bs 1 s).1 with
  | nil => exact ⟨Int.le_refl _, by simp only; omega⟩
  | cons x r => have := x.toNat_lt; exact ⟨by simp only; omega, by simp only; omega⟩
theorem chc_spec (b8 : Nat) (A : Option Addr) (c : Nat) (l : List ByteArray) (G : Mp) (h1 : Ent G (RowAt (some ⟨b8, 0, none⟩) [.slice A l.length c])) (h2 : Ent G (RowAt A (stL l))) (hl : l.length ≤ 1000) :
    PredS 57 #[.pointer (some ⟨b8, 0, none⟩)] (fun x => l.any fun y => decide (x = y)) G := by
  intro x
  refine Spec.intro (args := [_, _]) wide Try.func57 rfl Try.call57 (by rfl) (by rfl) (fun w0 hw0 => ?_)
  refine vcLoad1_0 (xs := [.slice A l.length c]) (Ent.gnG h1) rfl ?_
  refine vcCall_of .nil (scontains_spec A c l x _ (Ent.gnG h2) (by omega)) (fun v own' N' hv => ?_); obtain ⟨rfl, rfl, rfl⟩ := hv
  exact ⟨[], _, MT, .nil, fun _ _ _ => trivial, rfl, rfl, rfl⟩
theorem nb {b : Bool} (h : (!b) = false) : b = true := by cases b <;> simp_all
theorem vcMix_add {al : Nat → Bool} {M R : Mp} {G : Mp} {own : List Ob} {N : Mp} {X : (Nat → Mp) → Prop} (h : Ent (GN G own N) M) (h2 : Ent (GN G own N) R) (k : X (fun _ => MpAnd M R)) : ∃ S' : Nat → Mp, (∀ k, al k = true → ∀ w, S' k w → M w) ∧ (∀ k, Ent (GN G own N) (S' k)) ∧ X S' :=
  ⟨fun _ => MpAnd M R, fun _ _ _ h => h.1, fun _ w hw => ⟨h w hw, h2 w hw⟩, k⟩
set_option maxHeartbeats 2000000 in
theorem takeCH_spec (b : Nat) (s : Sk) (A : Option Addr) (c : Nat) (body : List UInt8) (G : Mp) (hf : Ent G (SkF s)) (hb : Ent G (RowAt A (Bs body))) (hbl : body.length ≤ 1000000) (hsz : szS (pu s) ≤ 1000000000000) (ok : OkP (pu s)) (hgp : goodL s.ps) :
    Spec Try.prog 28 #[.pointer (some ⟨b, 0, none⟩), .slice A body.length c] (skP b s) G (TakeTo b s (takeCH (pu s) body)) := by
  refine Spec.introC (args := [_, _]) wide Try.func28 rfl Try.call28 (by rfl) (by rfl) [14, 19] (fun w0 hw0 => ?_)
  have hsd := said_le hsz
  obtain ⟨H, hH⟩ : ∃ H, H = helloR body (0, 0) := ⟨_, rfl⟩
  obtain ⟨n, hn⟩ : ∃ n, n = (rbyte body H.2).1.toNat := ⟨_, rfl⟩
  obtain ⟨s0, hs0⟩ : ∃ s0, s0 = (rbyte body H.2).2 := ⟨_, rfl⟩
  have hpar : parseCH body = ⟨H.1, (protosR body n s0).1, (longR body (protosR body n s0).2).1, (longR body (protosR body n s0).2).2⟩ := by rw [hn, hs0, hH]; rfl
  have hle : H.2.1 ≤ body.length := by rw [hH]; exact helloR_le (Nat.zero_le _)
  have hle0 : s0.1 ≤ body.length := by rw [hs0]; exact rbyte_le hle
  have hbd := rbyte_bd body H.2
  have hnI : (rbyte body H.2).1 = (n : Int) := by rw [hn]; omega
  have hn256 : n < 256 := by omega
  refine vcCall_of .nil (vopen_spec A c body _ (Ent.gnG hb) (by omega)) (fun v own' N' hv => ?_)
  obtain ⟨br, Ar, cr, rfl, rfl, rfl, hcr⟩ := hv
  intro b5
  refine vcStore1_0 (.row b5 84 [.pointer none] 1) _ .here rfl Nat.zero_lt_one rfl ?_
  refine vcLoadN_0 (xs := [.pointer (some ⟨br, 0, none⟩)]) (Ent.gnO .here (fun w hw => Ob.row_at hw)) rfl ?_
  refine vcCall_of (.cons (.there .here) .nil) (helloR_spec br Ar cr body (0, 0) _ (Ent.gnO (.there .here) (fun w hw => Ob.sl_at hw)) hcr (by omega) (Nat.zero_le _)) (fun v own' N' hv => ?_)
  obtain ⟨rfl, rfl, rfl⟩ := hv
  rw [← hH]
  intro b8
  refine vcLoad1_0 (xs := [.pointer (some ⟨br, 0, none⟩)]) (Ent.gnO (o := .row b5 84 [.pointer (some ⟨br, 0, none⟩)] 1) (.there (.there .here)) (fun w hw => Ob.row_at hw)) rfl ?_
  refine vcCall_of (.cons (.there .here) .nil) (rbyte_spec br Ar cr body H.2 _ (Ent.gnO (.there (.there .here)) (fun w hw => Ob.sl_at hw)) hcr (by omega) hle) (fun v own' N' hv => ?_)
  obtain ⟨rfl, rfl, rfl⟩ := hv
  rw [← hs0, hnI]
  have hN0 : parseCH body = ⟨H.1, (protosR body n s0).1, (longR body (protosR body n s0).2).1, (longR body (protosR body n s0).2).2⟩ := hpar
  refine vcLoop_of (fun g : Nat × Option Addr × Nat => n - g.1) (fun g => [(0, .pointer (some ⟨b, 0, none⟩)), (1, .slice A body.length c), (5, .pointer (some ⟨b5, 0, none⟩)), (6, .int .i64 (H.1 % 4611686018427387904 : Nat)), (7, .bool (decide (1 ≤ H.1 ∧ H.1 ≤ 2305843009213693950))), (8, .pointer (some ⟨b8, 0, none⟩)), (21, .int .i64 n), (22, .int .i64 g.1)])
    (fun g => .row b8 23 [.slice g.2.1 g.1 g.2.2] 1 :: .sl g.2.1 g.2.2 9 1 (stL (protosR body g.1 s0).1) :: rdR br Ar cr body (protosR body g.1 s0).2 :: .row b5 84 [.pointer (some ⟨br, 0, none⟩)] 1 :: .sl Ar cr 5 1 (Bs body) :: skP b s)
    (fun _ => MT) (fun g => g.1 ≤ n) (0, none, 0) (Nat.zero_le _) ⟨rfl, rfl, rfl, rfl, rfl, rfl, rfl, rfl, trivial⟩
    ⟨_, .cons (.there .here) (.cons .none_ (.cons .here (.cons .here (.cons .here Pick.whole))))⟩ (fun _ _ => trivial) ?_
  rintro ⟨k, PA, pc⟩ hk
  simp only at hk
  have hplen := protosR_len body s0 k
  have hple := protosR_le (bs := body) (s := s0) hle0 k
  refine vcIf_dec (fun hlt => ?_) (fun hge => ?_)
  · have hk' : k < n := by simp only at hlt; omega
    simp only
    obtain ⟨ps, hps⟩ : ∃ ps, ps = (protosR body k s0).1 := ⟨_, rfl⟩
    obtain ⟨sk, hsk⟩ : ∃ sk, sk = (protosR body k s0).2 := ⟨_, rfl⟩
    have hnext : protosR body (k + 1) s0 = (ps ++ [strB (shortR body sk).1], (shortR body sk).2) := by rw [hps, hsk]; rfl
    rw [← hps] at hplen ⊢
    rw [← hsk] at hple ⊢
    have hMo : ∀ (own : List Ob) (N : Mp), Ob.row b8 23 [.slice PA k pc] 1 ∈ own → Ob.row b5 84 [.pointer (some ⟨br, 0, none⟩)] 1 ∈ own → Ent (GN G own N) (MpAnd (RowAt (some ⟨b8, 0, none⟩) [.slice PA k pc]) (RowAt (some ⟨b5, 0, none⟩) [.pointer (some ⟨br, 0, none⟩)])) :=
      fun own N h1 h2 => Ent.both (Ent.mem h1 (fun w hw => Ob.row_at hw)) (Ent.mem h2 (fun w hw => Ob.row_at hw))
    refine vcDraw_mix [0,1,2,3,4,5,6] (MpAnd (RowAt (some ⟨b8, 0, none⟩) [.slice PA k pc]) (RowAt (some ⟨b5, 0, none⟩) [.pointer (some ⟨br, 0, none⟩)])) (by kernel_rfl) (hMo _ _ (by simp) (by simp)) ?_
    refine vcLoad1_0 (xs := [.slice PA k pc]) (fun w hw => hw.1) rfl ?_
    refine vcLoadN_0 (xs := [.pointer (some ⟨br, 0, none⟩)]) (fun w hw => hw.2) rfl ?_
    refine vcCall_of (.cons (.there (.there .here)) .nil) (shortR_spec br Ar cr body sk _ (Ent.mem (o := .sl Ar cr 5 1 (Bs body)) (by simp) (fun w hw => Ob.sl_at hw)) hcr (by omega) hple) (fun v own' N1 hv => ?_)
    generalize shortR body sk = r1 at hv hnext ⊢
    obtain ⟨l1, s1⟩ := r1
    obtain ⟨⟨A1, c1, l⟩, hl, rfl, rfl, hN1⟩ := hv
    simp only at hl hN1 ⊢
    subst hl
    refine vcMix_add (R := RowAt A1 (Bs l)) (hMo _ _ (by simp) (by simp)) (fun w hw => hN1 w hw.1.2.2) ?_
    refine vcBytesStr.intro l rfl (fun w hw => hw.2) ?_
    intro b28
    refine vcMix_same (Ent.both (hMo _ _ (by simp) (by simp)) (fun w hw => hN1 w hw.1.2.2)) ?_
    refine vcApp_of (stL ps) _ [.string (strB l)] (.there (.there (.there .here))) (by rw [stL_len, hplen, Nat.mul_one]) rfl (by decide) (by intro v hv; rcases List.mem_singleton.1 hv with rfl; rfl) (Ent.gnO .here (fun w hw => Ob.sl_at hw)) (by omega) (by omega) (fun A2 c2 hc2 => ?_)
    refine vcMix_same (Ent.both (hMo _ _ (by simp) (by simp)) (fun w hw => hN1 w hw.1.2.2)) ?_
    refine vcStore1_0 (.row b8 23 [.slice PA k pc] 1) _ (by first | ((repeat (first | exact .here | apply Take.there)); done) | exact .none_) rfl Nat.zero_lt_one rfl ?_
    refine vcMix_last (by kernel_rfl) ?_
    refine vcFit_i64 (by omega) ?_
    have e1 : stL (protosR body (k + 1) s0).1 = stL ps ++ [.string (strB l)] := by rw [hnext]; simp [stL]
    refine ⟨(k + 1, A2, c2), by simp only; omega, by simp only; omega, ⟨rfl, rfl, rfl, rfl, rfl, rfl, rfl, rfl, trivial⟩, ⟨_, .cons .here (.cons (Take.eq (by simp only [e1])) (.cons (.there (Take.eq (by simp only [hnext]))) (.cons (.there .here) (.cons (.there .here) (Pick.under Pick.whole)))))⟩, fun _ _ => trivial⟩
  · obtain rfl : k = n := by simp only at hge; omega
    simp only
    obtain ⟨ps, hps⟩ : ∃ ps, ps = (protosR body k s0).1 := ⟨_, rfl⟩
    obtain ⟨sk, hsk⟩ : ∃ sk, sk = (protosR body k s0).2 := ⟨_, rfl⟩
    rw [← hps] at hplen ⊢
    rw [← hsk] at hple ⊢
    rw [← hps, ← hsk] at hN0
    refine vcLoadN_0 (xs := [.pointer (some ⟨br, 0, none⟩)]) (Ent.mem (o := .row b5 84 [.pointer (some ⟨br, 0, none⟩)] 1) (by simp) (fun w hw => Ob.row_at hw)) rfl ?_
    refine vcCall_of (.cons (.there (.there .here)) .nil) (longR_spec br Ar cr body sk _ (Ent.mem (o := .sl Ar cr 5 1 (Bs body)) (by simp) (fun w hw => Ob.sl_at hw)) hcr (by omega) hple) (fun v own' N2 hv => ?_)
    have hle2 := longR_le (bs := body) (s := sk) hple
    generalize longR body sk = r2 at hv hle2 hN0 ⊢
    obtain ⟨l2, s2⟩ := r2
    obtain ⟨⟨A2, c2, l'⟩, hl, rfl, rfl, hN2⟩ := hv
    simp only at hl hN2 hle2 hN0 ⊢
    subst hl
    have bad : ∀ (e : Int) (r : List Ob) (N : Mp) (t : SP × Int), t = (pu s, e) → (∃ rest, Pick (skP b s) r rest) → ∃ (own' rest : List Ob) (N' : Mp), Pick own' r rest ∧ (∀ w, N w → Objs rest w → N' w) ∧ TakeTo b s t (.int .i64 e) own' N' :=
      fun e r N t h ⟨rest, hp⟩ => ⟨skP b s, rest, MT, hp, fun _ _ _ => trivial, TakeTo.same h⟩
    have no : ¬ (okN H.1 ∧ wholeR body s2 = true ∧ goodL ps ∧ l'.length ≤ 1024) → takeCH (pu s) body = (pu s, 100) := fun h => by
      unfold takeCH
      refine if_neg (fun h' => h ?_)
      unfold goodCH at h'
      rw [hN0] at h'
      exact h'
    refine vcIf_ndec (fun hok => ?_) (fun hok => ?_)
    · exact bad _ _ _ _ (no (fun h => hok h.1)) ⟨_, (by first | exact Pick.front | exact Pick.whole | exact Pick.under (Pick.front) | exact Pick.under (Pick.whole) | exact Pick.under (Pick.under (Pick.front)) | exact Pick.under (Pick.under (Pick.whole)) | exact Pick.under (Pick.under (Pick.under (Pick.front))) | exact Pick.under (Pick.under (Pick.under (Pick.whole))) | exact Pick.under (Pick.under (Pick.under (Pick.under (Pick.front)))) | exact Pick.under (Pick.under (Pick.under (Pick.under (Pick.whole)))) | exact Pick.under (Pick.under (Pick.under (Pick.under (Pick.under (Pick.front))))) | exact Pick.under (Pick.under (Pick.under (Pick.under (Pick.under (Pick.whole))))) | exact Pick.under (Pick.under (Pick.under (Pick.under (Pick.under (Pick.under (Pick.front)))))) | exact Pick.under (Pick.under (Pick.under (Pick.under (Pick.under (Pick.under (Pick.whole)))))) | exact Pick.under (Pick.under (Pick.under (Pick.under (Pick.under (Pick.under (Pick.under (Pick.front))))))) | exact Pick.under (Pick.under (Pick.under (Pick.under (Pick.under (Pick.under (Pick.under (Pick.whole))))))))⟩
    refine vcLoadN_0 (xs := [.pointer (some ⟨br, 0, none⟩)]) (Ent.mem (o := .row b5 84 [.pointer (some ⟨br, 0, none⟩)] 1) (by simp) (fun w hw => Ob.row_at hw)) rfl ?_
    refine vcCall_of (.cons .here .nil) (wholeR_spec br Ar cr body s2 _ (by omega) hle2) (fun v own' N' hv => ?_)
    obtain ⟨rfl, rfl, rfl⟩ := hv
    refine vcIf_split (fun hw => ?_) (fun hw => ?_)
    · exact bad _ _ _ _ (no (fun h => by rw [h.2.1] at hw; cases hw)) ⟨_, (by first | exact Pick.front | exact Pick.whole | exact Pick.under (Pick.front) | exact Pick.under (Pick.whole) | exact Pick.under (Pick.under (Pick.front)) | exact Pick.under (Pick.under (Pick.whole)) | exact Pick.under (Pick.under (Pick.under (Pick.front))) | exact Pick.under (Pick.under (Pick.under (Pick.whole))) | exact Pick.under (Pick.under (Pick.under (Pick.under (Pick.front)))) | exact Pick.under (Pick.under (Pick.under (Pick.under (Pick.whole)))) | exact Pick.under (Pick.under (Pick.under (Pick.under (Pick.under (Pick.front))))) | exact Pick.under (Pick.under (Pick.under (Pick.under (Pick.under (Pick.whole))))) | exact Pick.under (Pick.under (Pick.under (Pick.under (Pick.under (Pick.under (Pick.front)))))) | exact Pick.under (Pick.under (Pick.under (Pick.under (Pick.under (Pick.under (Pick.whole)))))) | exact Pick.under (Pick.under (Pick.under (Pick.under (Pick.under (Pick.under (Pick.under (Pick.front))))))) | exact Pick.under (Pick.under (Pick.under (Pick.under (Pick.under (Pick.under (Pick.under (Pick.whole))))))))⟩
    have hwt : wholeR body s2 = true := nb hw
    refine vcLoad1_0 (xs := [.slice PA k pc]) (Ent.mem (o := .row b8 23 [.slice PA k pc] 1) (by simp) (fun w hw => Ob.row_at hw)) rfl ?_
    have hrp := fun G' h => right_spec PA pc ps G' h (by omega)
    rw [hplen] at hrp
    refine vcCall_of .nil (hrp _ (Ent.mem (o := .sl PA pc 9 1 (stL ps)) (by simp) (fun w hw => Ob.sl_at hw))) (fun v own' N' hv => ?_); obtain ⟨rfl, rfl, rfl⟩ := hv
    refine vcIf_ndec (fun hg => ?_) (fun hg => ?_)
    · exact bad _ _ _ _ (no (fun h => hg h.2.2.1)) ⟨_, (by first | exact Pick.front | exact Pick.whole | exact Pick.under (Pick.front) | exact Pick.under (Pick.whole) | exact Pick.under (Pick.under (Pick.front)) | exact Pick.under (Pick.under (Pick.whole)) | exact Pick.under (Pick.under (Pick.under (Pick.front))) | exact Pick.under (Pick.under (Pick.under (Pick.whole))) | exact Pick.under (Pick.under (Pick.under (Pick.under (Pick.front)))) | exact Pick.under (Pick.under (Pick.under (Pick.under (Pick.whole)))) | exact Pick.under (Pick.under (Pick.under (Pick.under (Pick.under (Pick.front))))) | exact Pick.under (Pick.under (Pick.under (Pick.under (Pick.under (Pick.whole))))) | exact Pick.under (Pick.under (Pick.under (Pick.under (Pick.under (Pick.under (Pick.front)))))) | exact Pick.under (Pick.under (Pick.under (Pick.under (Pick.under (Pick.under (Pick.whole)))))) | exact Pick.under (Pick.under (Pick.under (Pick.under (Pick.under (Pick.under (Pick.under (Pick.front))))))) | exact Pick.under (Pick.under (Pick.under (Pick.under (Pick.under (Pick.under (Pick.under (Pick.whole))))))))⟩
    refine vcIf_dec (fun hlong => ?_) (fun hlong => ?_)
    · simp only at hlong
      exact bad _ _ _ _ (no (fun h => by have := h.2.2.2; omega)) ⟨_, (by first | exact Pick.front | exact Pick.whole | exact Pick.under (Pick.front) | exact Pick.under (Pick.whole) | exact Pick.under (Pick.under (Pick.front)) | exact Pick.under (Pick.under (Pick.whole)) | exact Pick.under (Pick.under (Pick.under (Pick.front))) | exact Pick.under (Pick.under (Pick.under (Pick.whole))) | exact Pick.under (Pick.under (Pick.under (Pick.under (Pick.front)))) | exact Pick.under (Pick.under (Pick.under (Pick.under (Pick.whole)))) | exact Pick.under (Pick.under (Pick.under (Pick.under (Pick.under (Pick.front))))) | exact Pick.under (Pick.under (Pick.under (Pick.under (Pick.under (Pick.whole))))) | exact Pick.under (Pick.under (Pick.under (Pick.under (Pick.under (Pick.under (Pick.front)))))) | exact Pick.under (Pick.under (Pick.under (Pick.under (Pick.under (Pick.under (Pick.whole)))))) | exact Pick.under (Pick.under (Pick.under (Pick.under (Pick.under (Pick.under (Pick.under (Pick.front))))))) | exact Pick.under (Pick.under (Pick.under (Pick.under (Pick.under (Pick.under (Pick.under (Pick.whole))))))))⟩
    simp only at hlong
    have hgood : goodCH body := by unfold goodCH; rw [hN0]; exact ⟨hok, hwt, hg, by simp only; omega⟩
    have hsps : s.ps.length ≤ 8 := ok.ps
    refine vcLoad1_2 (v := .slice s.pA s.ps.length s.pc) (xs := skL s) (Ent.mem (o := skR b s) (by simp [skP]) (fun w hw => Ob.row_at hw)) rfl ?_
    have hcl := fun G' h1 h2 => chc_spec b8 PA pc ps G' h1 h2 (by omega)
    rw [hplen] at hcl
    refine vcCall_of .nil (indexf_spec s.pA s.pc s.ps 57 #[.pointer (some ⟨b8, 0, none⟩)] (fun x => ps.any fun y => decide (x = y)) _ (Ent.gnG (hf.mono fun w hw => hw.1)) (hcl _ (Ent.mem (o := .row b8 23 [.slice PA k pc] 1) (by simp) (fun w hw => Ob.row_at hw)) (Ent.mem (o := .sl PA pc 9 1 (stL ps)) (by simp) (fun w hw => Ob.sl_at hw))) (by omega)) (fun v own' N' hv => ?_); obtain ⟨rfl, rfl, rfl⟩ := hv
    have hpick : pickP (pu s) body = s.ps.find? fun x => ps.any fun y => decide (x = y) := by unfold pickP; rw [hN0]; rfl
    refine vcCut_of (fun g : Piece × Nat => [(0, .pointer (some ⟨b, 0, none⟩)), (1, .slice A body.length c), (6, .int .i64 (pubN (parseCH body).pubn)), (9, pieceV g.1), (10, .int .i64 g.2)]) (fun _ => skP b s) (fun g => RowAt g.1.1 (Bs g.1.2.2))
      (fun g => g.1.2.2 = (parseCH body).peer ∧ ∃ h : g.2 < s.ps.length, pickP (pu s) body = some s.ps[g.2]) ?_ ?_
    · rcases idxI_find (fun x => ps.any fun y => decide (x = y)) s.ps with ⟨h1, h2⟩ | ⟨j, hj, h1, h2⟩
      · rw [h1]
        refine bad _ _ _ _ ?_ ⟨_, (by first | exact Pick.front | exact Pick.whole | exact Pick.under (Pick.front) | exact Pick.under (Pick.whole) | exact Pick.under (Pick.under (Pick.front)) | exact Pick.under (Pick.under (Pick.whole)) | exact Pick.under (Pick.under (Pick.under (Pick.front))) | exact Pick.under (Pick.under (Pick.under (Pick.whole))) | exact Pick.under (Pick.under (Pick.under (Pick.under (Pick.front)))) | exact Pick.under (Pick.under (Pick.under (Pick.under (Pick.whole)))) | exact Pick.under (Pick.under (Pick.under (Pick.under (Pick.under (Pick.front))))) | exact Pick.under (Pick.under (Pick.under (Pick.under (Pick.under (Pick.whole))))) | exact Pick.under (Pick.under (Pick.under (Pick.under (Pick.under (Pick.under (Pick.front)))))) | exact Pick.under (Pick.under (Pick.under (Pick.under (Pick.under (Pick.under (Pick.whole)))))) | exact Pick.under (Pick.under (Pick.under (Pick.under (Pick.under (Pick.under (Pick.under (Pick.front))))))) | exact Pick.under (Pick.under (Pick.under (Pick.under (Pick.under (Pick.under (Pick.under (Pick.whole))))))))⟩
        unfold takeCH
        rw [if_pos hgood, hpick, h2]
      · rw [h1]
        refine ⟨((A2, c2, l'), j), ⟨by rw [hN0], hj, by rw [hpick, h2]⟩, ⟨rfl, rfl, ?_, rfl, rfl, trivial⟩, ⟨_, (by first | exact Pick.front | exact Pick.whole | exact Pick.under (Pick.front) | exact Pick.under (Pick.whole) | exact Pick.under (Pick.under (Pick.front)) | exact Pick.under (Pick.under (Pick.whole)) | exact Pick.under (Pick.under (Pick.under (Pick.front))) | exact Pick.under (Pick.under (Pick.under (Pick.whole))) | exact Pick.under (Pick.under (Pick.under (Pick.under (Pick.front)))) | exact Pick.under (Pick.under (Pick.under (Pick.under (Pick.whole)))) | exact Pick.under (Pick.under (Pick.under (Pick.under (Pick.under (Pick.front))))) | exact Pick.under (Pick.under (Pick.under (Pick.under (Pick.under (Pick.whole))))) | exact Pick.under (Pick.under (Pick.under (Pick.under (Pick.under (Pick.under (Pick.front)))))) | exact Pick.under (Pick.under (Pick.under (Pick.under (Pick.under (Pick.under (Pick.whole)))))) | exact Pick.under (Pick.under (Pick.under (Pick.under (Pick.under (Pick.under (Pick.under (Pick.front))))))) | exact Pick.under (Pick.under (Pick.under (Pick.under (Pick.under (Pick.under (Pick.under (Pick.whole))))))))⟩, (by repeat first | exact hN2 | exact Ent.andR hN2 | refine Ent.andL ?_)⟩
        rw [hN0]; rfl
    · rintro ⟨⟨A2', c2', l3⟩, j⟩ ⟨hpeer, hj, hpk⟩
      simp only at hpeer hj hpk
      have hpl3 : l3.length ≤ 1000000 := by
        rw [hpeer]; exact Nat.le_trans (longR_len body _) hbl
      refine vcCall_of (A := skP b s) Pick.whole (hear_spec b s 1 A c body _ (Ent.gnG hb) (by omega) (by omega)) (fun v own' N' hv => ?_)
      obtain ⟨A3, c3, rfl, rfl, rfl⟩ := hv
      obtain ⟨s1, hs1⟩ : ∃ s1, s1 = { s with said := (A3, c3, s.said.2.2 ++ msg 1 body) } := ⟨_, rfl⟩
      have hsps : s.ps.length ≤ 8 := ok.ps
      have hsp1 : s1.ps = s.ps := by rw [hs1]
      have hspA : s1.pA = s.pA := by rw [hs1]
      rw [← hs1]
      refine vcLoad1_2 (v := .slice s.pA s.ps.length s.pc) (xs := skL s1) (Ent.gnO .here (fun w hw => Ob.row_at hw)) (by rw [hs1]; rfl) ?_
      refine vcIdx_nat j rfl (Ent.gnG (hf.mono fun w hw => hw.1)) hj (by rw [stL_len]; exact Nat.le_refl _) (fun a ha => ?_)
      refine vcLoad1_row (xs := stL s.ps) (Ent.gnG (hf.mono fun w hw => by rw [← ha]; exact hw.1)) (stL_get hj) ?_
      obtain ⟨x, hx⟩ : ∃ x, x = s.ps[j] := ⟨_, rfl⟩
      have hxs : x.size ≤ 32 := by rw [hx]; exact (hgp.2.2 _ (List.getElem_mem hj)).2
      rw [← hx] at hpk ⊢
      refine vcStore1_eq (skR b s1) (skR b { s1 with proto := x }) _ .here rfl (by show (47 : Nat) < 49; decide) rfl rfl ?_
      refine vcStore1_eq (skR b { s1 with proto := x }) (skR b { s1 with proto := x, peer := (A2', c2', l3) }) _ .here rfl (by show (48 : Nat) < 49; decide) rfl rfl ?_
      obtain ⟨s2, hs2⟩ : ∃ s2, s2 = { s1 with proto := x, peer := (A2', c2', l3) } := ⟨_, rfl⟩
      have hpu2 : pu s2 = ch1 (pu s) body x := by rw [hs2, hs1]; unfold pu ch1 hearS; simp only [hpeer]
      have hown2 : skP b s2 = skR b s2 :: pO s1.said :: .sl s1.oA s1.oc 56 2 (flL s1.out) :: flO s1.out := by rw [hs2]; rfl
      rw [← hs2]
      have hpr2 : s2.priv = s.priv := by rw [hs2, hs1]
      have hrn2 : s2.rnd = s.rnd := by rw [hs2, hs1]
      have hp63 : s.priv ≤ 9223372036854775807 := ok.priv
      have hf2 : ∀ w, SkF s w → RowAt A2' (Bs l3) w → SkF s2 w := fun w h h2 => by
        rw [hs2, hs1]
        refine ⟨h.1, h.2.1, fun p hp => ?_⟩
        simp only [List.mem_cons, List.not_mem_nil, or_false] at hp
        rcases hp with rfl | rfl | rfl | rfl | rfl | rfl | rfl
        · exact h.piece (by simp)
        · exact h.piece (by simp)
        · exact h.piece (by simp)
        · exact h.piece (by simp)
        · exact h.piece (by simp)
        · exact h.piece (by simp)
        · exact h2
      refine vcCall_of .nil (hello_spec b s2 _ (Ent.gnO .here (fun w hw => Ob.row_at hw)) (by rw [hpr2]; exact hp63)) (fun v own' N' hv => ?_)
      obtain ⟨A4, c4, rfl, rfl, rfl, hc4⟩ := hv
      rw [hpr2, hrn2] at hc4 ⊢
      have hhl := helloL_len s.rnd s.priv
      have hsz2 : szS (pu s2) ≤ 1000001000100 := by rw [hpu2]; have := szS_hear (pu s) 1 body; have e : szS (ch1 (pu s) body x) = szS (hearS (pu s) 1 body) := rfl; omega
      have ho2 := out_le hsz2
      have hd2 := said_le hsz2
      refine vcCall_of (A := skP b s2) (by rw [hown2]; exact Pick.under Pick.front) (sayP_spec b s2 2 0 A4 c4 (helloL s.rnd s.priv) _ (Ent.gnO .here (fun w hw => Ob.sl_at hw)) (by omega) (by omega) (by omega) (fun f hf => by have := ho2.2 f hf; omega)) (fun v own' N4 hv => ?_)
      obtain ⟨A5, c5, oA, oc, out, rfl, rfl, rfl, hout⟩ := hv
      obtain ⟨s3, hs3⟩ : ∃ s3, s3 = { s2 with said := (A5, c5, s2.said.2.2 ++ msg 2 (helloL s.rnd s.priv)), oA := oA, oc := oc, out := out } := ⟨_, rfl⟩
      have hpu3 : pu s3 = sayS (pu s2) 2 0 (helloL s.rnd s.priv) := by rw [hs3]; unfold pu sayS; simp only [hout]
      have hsz3 : szS (pu s3) ≤ 1000001000300 := by rw [hpu3]; have := szS_say (pu s2) 2 0 (helloL s.rnd s.priv); omega
      have hpr3 : s3.priv = s.priv := by rw [hs3]; exact hpr2
      have hf3 : ∀ w, SkF s2 w → SkF s3 w := fun w h => by rw [hs3]; exact h
      have hd3 := said_le hsz3
      have hss3 : Same10 s s3 := by rw [hs3, hs2, hs1]; exact ⟨rfl, rfl, rfl, rfl, rfl, rfl⟩
      have hpp3 : s3.proto = x ∧ s3.par = s.par := by rw [hs3, hs2, hs1]; exact ⟨rfl, rfl⟩
      rw [← hs3]
      refine vcCall_of (.cons .here .nil) (agree10_spec b s3 (pubN (parseCH body).pubn) _ (Ent.gnO (o := pO s3.said) .here (fun w hw => Ob.sl_at hw)) (by omega) (by unfold pubN; omega) (by rw [hpr3]; exact hp63)) (fun v own' N5 hv => ?_)
      obtain ⟨pr, pc', ph, rfl, rfl, hpr, hpc, hph, hps', hN5⟩ := hv
      obtain ⟨s4, hs4⟩ : ∃ s4, s4 = { s3 with root := pr, hc := pc', hs := ph } := ⟨_, rfl⟩
      have hpu4 : pu s4 = ch2 (pu s) body x := by
        rw [hs4]; unfold ch2; rw [← hpu2]
        have e : agreeS (pu s3) (pubN (parseCH body).pubn) = agreeS (sayS (pu s2) 2 0 (helloL s.rnd s.priv)) (pubN (parseCH body).pubn) := by rw [hpu3]
        rw [show helloL (pu s).rnd (pu s).priv = helloL s.rnd s.priv from rfl, ← e]
        unfold pu agreeS; simp only [hpr, hpc, hph, hps']
      have hsz4 : szS (pu s4) ≤ 1000001000300 := by rw [hs4]; exact hsz3
      have hss4 : Same10 s s4 := by rw [hs4]; exact ⟨hss3.k0, hss3.k1, hss3.wA, hss3.wc, hss3.ws, hss3.failed⟩
      have hpp4 : s4.proto = x ∧ s4.par = s.par := by rw [hs4]; exact hpp3
      have hf4 : ∀ w, SkF s3 w → N5 w → SkF s4 w := fun w h h2 => by
        rw [hs4]
        refine ⟨h.1, h.2.1, fun p hp => ?_⟩
        simp only [List.mem_cons, List.not_mem_nil, or_false] at hp
        rcases hp with rfl | rfl | rfl | rfl | rfl | rfl | rfl
        · exact h.piece (by simp)
        · exact hN5 _ (by simp) w h2
        · exact hN5 _ (by simp) w h2
        · exact hN5 _ (by simp) w h2
        · exact h.piece (by simp)
        · exact h.piece (by simp)
        · exact h.piece (by simp)
      have hhs4 : s4.hs.2.2.length = 16 := by rw [hs4, hph]; exact secL_len (by unfold rootL; rw [dig_length]; omega) (by decide)
      have hrt4 : s4.root.2.2.length = 16 := by rw [hs4]; show pr.2.2.length = 16; rw [hpr]; exact dig_length _
      have hown4 : [skR b { s3 with root := pr, hc := pc', hs := ph }] = [skR b s4] := by rw [hs4]
      have hown4' : skP b s4 = skR b s4 :: pO s3.said :: .sl s3.oA s3.oc 56 2 (flL s3.out) :: flO s3.out := by rw [hs4]; rfl
      rw [hown4]
      have hparl : s.par.2.2.length ≤ 1024 := ok.par
      have hll : (lng s.par.2.2).length = s.par.2.2.length + 2 := by simp [lng]
      have hds : x.data.toList.length = x.size := by rw [Array.length_toList]; rfl
      have hcho : (choL x s.par.2.2).length = 1 + x.size + (s.par.2.2.length + 2) := by unfold choL; simp only [List.length_append, hll, hds, List.length_cons, List.length_nil]
      refine vcCut_of (fun g : Sk => [(0, .pointer (some ⟨b, 0, none⟩))]) (fun g => skP b g) (fun g w => SkF s w → SkF g w) (fun g => pu g = ch3 (pu s) body x ∧ Same10 s g) ?_ ?_
      · refine vcDraw_fork (.one 0 (.one 1 (.one 2 (.one 3 (.one 4 (.one 5 (.one 6 (.one 8 (.one 9 (.one 10 (.one 11 (.one 13 (.one 14 (.one 15 (.one 16 (.one 17 (.alt 7 (.alt 12 (.one 18 (.one 19 (.one 20 (.one 21 .nil)))) (.one 18 (.mem 12 (.one 19 (.one 20 (.one 21 .nil)))))) (.alt 12 (.alt 7 (.one 18 (.one 19 (.one 20 (.one 21 .nil)))) (.one 18 (.one 7 (.one 19 (.one 20 (.one 21 .nil)))))) (.one 18 (.alt 7 (.mem 12 (.one 19 (.one 20 (.one 21 .nil)))) (.mem 12 (.one 7 (.one 19 (.one 20 (.one 21 .nil))))))))))))))))))))))))) (RowAt (some ⟨b, 0, none⟩) (skL s4)) (by kernel_rfl) (Ent.gnO .here (fun w hw => Ob.row_at hw)) ?_
        refine vcLoad1_row (j := 47) (v := .string x) Ent.refl (by rw [← hpp4.1]; rfl) ?_
        refine vcFit_byte ?_
        refine vcLoad1_row (j := 47) (v := .string x) Ent.refl (by rw [← hpp4.1]; rfl) ?_
        refine vcLoad1_2 (v := pieceV s.par) (xs := skL s4) Ent.refl (by rw [← hpp4.2]; rfl) ?_
        have e2 : ∀ b7 b12 c12 A c, pieces [(some ⟨b7, 0, none⟩, 1, [byteI x.size]), (some ⟨b12, 0, none⟩, c12, x.data.toList), (A, c, lng s.par.2.2)] = choL x s.par.2.2 := fun _ _ _ _ _ => by simp [pieces, choL]
        have hcat : ∀ b19 b7 b12 c12 A c (G' : Mp), Ent G' (RowAt (some ⟨b19, 0, none⟩) ([(some ⟨b7, 0, none⟩, 1, [byteI x.size]), (some ⟨b12, 0, none⟩, c12, x.data.toList), (A, c, lng s.par.2.2)].map pieceV)) → Ent G' (RowAt (some ⟨b7, 0, none⟩) (Bs [byteI x.size])) → Ent G' (RowAt (some ⟨b12, 0, none⟩) (Bs x.data.toList)) → Ent G' (RowAt A (Bs (lng s.par.2.2))) →
            Spec Try.prog 61 #[.slice (some ⟨b19, 0, none⟩) 3 3] [] G' (OwnB (choL x s.par.2.2)) := fun b19 b7 b12 c12 A c G' k1 k2 k3 k4 => by
          have := concat_spec (some ⟨b19, 0, none⟩) 3 [(some ⟨b7, 0, none⟩, 1, [byteI x.size]), (some ⟨b12, 0, none⟩, c12, x.data.toList), (A, c, lng s.par.2.2)] G' k1 (fun p hp => by
            simp only [List.mem_cons, List.not_mem_nil, or_false] at hp
            rcases hp with rfl | rfl | rfl <;> assumption) (by rw [e2]; omega) (by simp)
          rw [e2] at this
          exact this
        have ho4 := out_le hsz4
        have hd4 := said_le hsz4
        have hsay : ∀ A c (G' : Mp), Ent G' (RowAt A (Bs (choL x s.par.2.2))) → Spec Try.prog 34 #[.pointer (some ⟨b, 0, none⟩), .int .i64 8, .int .i64 1, .slice A (choL x s.par.2.2).length c] (skP b s4) G' (SayPTo b s4 8 1 (choL x s.par.2.2)) := fun A c G' k =>
          sayP_spec b s4 8 1 A c (choL x s.par.2.2) G' k (by omega) (by omega) (by omega) (fun f hf => by have := ho4.2 f hf; omega)
        have hfin : ∀ (A9 : Option Addr) (c9 : Nat) (oA9 : Option Addr) (oc9 : Nat) (out9 : List Fl), outs out9 = sayL (outs s4.out) 1 (msg 8 (choL x s.par.2.2)) → pu { s4 with said := (A9, c9, s4.said.2.2 ++ msg 8 (choL x s.par.2.2)), oA := oA9, oc := oc9, out := out9 } = ch3 (pu s) body x := fun A9 c9 oA9 oc9 out9 ho => by
          unfold ch3
          rw [← hpu4, show choL x (pu s).par = choL x s.par.2.2 from rfl]
          unfold pu sayS
          simp only [ho]
        (exact And.intro (by (intro b7; refine vcMix_same (M := RowAt (some ⟨b, 0, none⟩) (skL s4)) (Ent.gnO (by first | ((repeat (first | exact .here | apply Take.there)); done) | exact .none_) (fun w hw => Ob.row_at hw)) ?_; exact And.intro (by (intro b12 c12 hc12; refine vcMix_same (M := RowAt (some ⟨b, 0, none⟩) (skL s4)) (Ent.gnO (by first | ((repeat (first | exact .here | apply Take.there)); done) | exact .none_) (fun w hw => Ob.row_at hw)) ?_; refine vcCall_of .nil (lng_spec s.par.1 s.par.2.1 s.par.2.2 _ (Ent.gnG (hf.mono fun w hw => hw.piece (by simp))) (by omega)) (fun v own' N' hv => ?_); obtain ⟨A7, c7, rfl, rfl, rfl, hc7⟩ := hv; refine vcMix_same (M := RowAt (some ⟨b, 0, none⟩) (skL s4)) (Ent.gnO (by first | ((repeat (first | exact .here | apply Take.there)); done) | exact .none_) (fun w hw => Ob.row_at hw)) ?_; intro b19; refine vcMix_same (M := RowAt (some ⟨b, 0, none⟩) (skL s4)) (Ent.gnO (by first | ((repeat (first | exact .here | apply Take.there)); done) | exact .none_) (fun w hw => Ob.row_at hw)) ?_; refine vcCall_of .nil (hcat b19 b7 b12 c12 A7 c7 _ (by first | exact Ent.gnO (by repeat first | exact .here | apply Take.there) (fun w hw => Ob.sl_at hw) | exact Ent.gnO (by repeat first | exact .here | apply Take.there) (fun w hw => Ob.row_at hw)) (Ent.mem (o := .sl (some ⟨b7, 0, none⟩) 1 5 1 (Bs [byteI x.size])) (by simp [Bs, B]) (fun w hw => Ob.sl_at hw)) (Ent.mem (o := .sl (some ⟨b12, 0, none⟩) c12 5 1 (Bs x.data.toList)) (by simp) (fun w hw => Ob.sl_at hw)) (Ent.mem (o := .sl A7 c7 5 1 (Bs (lng s.par.2.2))) (by simp) (fun w hw => Ob.sl_at hw))) (fun v own' N' hv => ?_); obtain ⟨A8, c8, rfl, rfl, rfl, hc8⟩ := hv; refine vcMix_same (M := RowAt (some ⟨b, 0, none⟩) (skL s4)) (Ent.gnO (by first | ((repeat (first | exact .here | apply Take.there)); done) | exact .none_) (fun w hw => Ob.row_at hw)) ?_; refine vcCall_of (A := skP b s4) (by rw [hown4']; exact Pick.under (Pick.under (Pick.under (Pick.under (Pick.under Pick.front))))) (hsay A8 c8 _ (Ent.mem (o := .sl A8 c8 5 1 (Bs (choL x s.par.2.2))) (by simp) (fun w hw => Ob.sl_at hw))) (fun v own' N6 hv => ?_); obtain ⟨A9, c9, oA9, oc9, out9, rfl, rfl, rfl, hout9⟩ := hv; refine vcMix_last (by kernel_rfl) ?_; exact ⟨_, ⟨hfin _ _ _ _ _ hout9, ⟨hss4.k0, hss4.k1, hss4.wA, hss4.wc, hss4.ws, hss4.failed⟩⟩, ⟨rfl, trivial⟩, ⟨_, Pick.front⟩, fun w hw h => hf4 w (hf3 w (hf2 w h (((by repeat first | exact Ent.refl | exact Ent.andR Ent.refl | refine Ent.andL ?_) : Ent _ (RowAt A2' (Bs l3))) w hw))) (((by repeat first | exact Ent.refl | exact Ent.andR Ent.refl | refine Ent.andL ?_) : Ent _ N5) w hw)⟩)) (by (refine vcCall_of .nil (lng_spec s.par.1 s.par.2.1 s.par.2.2 _ (Ent.gnG (hf.mono fun w hw => hw.piece (by simp))) (by omega)) (fun v own' N' hv => ?_); obtain ⟨A7, c7, rfl, rfl, rfl, hc7⟩ := hv; refine vcMix_same (M := RowAt (some ⟨b, 0, none⟩) (skL s4)) (Ent.gnO (by first | ((repeat (first | exact .here | apply Take.there)); done) | exact .none_) (fun w hw => Ob.row_at hw)) ?_; intro b12 c12 hc12; refine vcMix_same (M := RowAt (some ⟨b, 0, none⟩) (skL s4)) (Ent.gnO (by first | ((repeat (first | exact .here | apply Take.there)); done) | exact .none_) (fun w hw => Ob.row_at hw)) ?_; intro b19; refine vcMix_same (M := RowAt (some ⟨b, 0, none⟩) (skL s4)) (Ent.gnO (by first | ((repeat (first | exact .here | apply Take.there)); done) | exact .none_) (fun w hw => Ob.row_at hw)) ?_; refine vcCall_of .nil (hcat b19 b7 b12 c12 A7 c7 _ (by first | exact Ent.gnO (by repeat first | exact .here | apply Take.there) (fun w hw => Ob.sl_at hw) | exact Ent.gnO (by repeat first | exact .here | apply Take.there) (fun w hw => Ob.row_at hw)) (Ent.mem (o := .sl (some ⟨b7, 0, none⟩) 1 5 1 (Bs [byteI x.size])) (by simp [Bs, B]) (fun w hw => Ob.sl_at hw)) (Ent.mem (o := .sl (some ⟨b12, 0, none⟩) c12 5 1 (Bs x.data.toList)) (by simp) (fun w hw => Ob.sl_at hw)) (Ent.mem (o := .sl A7 c7 5 1 (Bs (lng s.par.2.2))) (by simp) (fun w hw => Ob.sl_at hw))) (fun v own' N' hv => ?_); obtain ⟨A8, c8, rfl, rfl, rfl, hc8⟩ := hv; refine vcMix_same (M := RowAt (some ⟨b, 0, none⟩) (skL s4)) (Ent.gnO (by first | ((repeat (first | exact .here | apply Take.there)); done) | exact .none_) (fun w hw => Ob.row_at hw)) ?_; refine vcCall_of (A := skP b s4) (by rw [hown4']; exact Pick.under (Pick.under (Pick.under (Pick.under (Pick.under Pick.front))))) (hsay A8 c8 _ (Ent.mem (o := .sl A8 c8 5 1 (Bs (choL x s.par.2.2))) (by simp) (fun w hw => Ob.sl_at hw))) (fun v own' N6 hv => ?_); obtain ⟨A9, c9, oA9, oc9, out9, rfl, rfl, rfl, hout9⟩ := hv; refine vcMix_last (by kernel_rfl) ?_; exact ⟨_, ⟨hfin _ _ _ _ _ hout9, ⟨hss4.k0, hss4.k1, hss4.wA, hss4.wc, hss4.ws, hss4.failed⟩⟩, ⟨rfl, trivial⟩, ⟨_, Pick.front⟩, fun w hw h => hf4 w (hf3 w (hf2 w h (((by repeat first | exact Ent.refl | exact Ent.andR Ent.refl | refine Ent.andL ?_) : Ent _ (RowAt A2' (Bs l3))) w hw))) (((by repeat first | exact Ent.refl | exact Ent.andR Ent.refl | refine Ent.andL ?_) : Ent _ N5) w hw)⟩)))) (by (exact And.intro (by (intro b12 c12 hc12; refine vcMix_same (M := RowAt (some ⟨b, 0, none⟩) (skL s4)) (Ent.gnO (by first | ((repeat (first | exact .here | apply Take.there)); done) | exact .none_) (fun w hw => Ob.row_at hw)) ?_; exact And.intro (by (intro b7; refine vcMix_same (M := RowAt (some ⟨b, 0, none⟩) (skL s4)) (Ent.gnO (by first | ((repeat (first | exact .here | apply Take.there)); done) | exact .none_) (fun w hw => Ob.row_at hw)) ?_; refine vcCall_of .nil (lng_spec s.par.1 s.par.2.1 s.par.2.2 _ (Ent.gnG (hf.mono fun w hw => hw.piece (by simp))) (by omega)) (fun v own' N' hv => ?_); obtain ⟨A7, c7, rfl, rfl, rfl, hc7⟩ := hv; refine vcMix_same (M := RowAt (some ⟨b, 0, none⟩) (skL s4)) (Ent.gnO (by first | ((repeat (first | exact .here | apply Take.there)); done) | exact .none_) (fun w hw => Ob.row_at hw)) ?_; intro b19; refine vcMix_same (M := RowAt (some ⟨b, 0, none⟩) (skL s4)) (Ent.gnO (by first | ((repeat (first | exact .here | apply Take.there)); done) | exact .none_) (fun w hw => Ob.row_at hw)) ?_; refine vcCall_of .nil (hcat b19 b7 b12 c12 A7 c7 _ (by first | exact Ent.gnO (by repeat first | exact .here | apply Take.there) (fun w hw => Ob.sl_at hw) | exact Ent.gnO (by repeat first | exact .here | apply Take.there) (fun w hw => Ob.row_at hw)) (Ent.mem (o := .sl (some ⟨b7, 0, none⟩) 1 5 1 (Bs [byteI x.size])) (by simp [Bs, B]) (fun w hw => Ob.sl_at hw)) (Ent.mem (o := .sl (some ⟨b12, 0, none⟩) c12 5 1 (Bs x.data.toList)) (by simp) (fun w hw => Ob.sl_at hw)) (Ent.mem (o := .sl A7 c7 5 1 (Bs (lng s.par.2.2))) (by simp) (fun w hw => Ob.sl_at hw))) (fun v own' N' hv => ?_); obtain ⟨A8, c8, rfl, rfl, rfl, hc8⟩ := hv; refine vcMix_same (M := RowAt (some ⟨b, 0, none⟩) (skL s4)) (Ent.gnO (by first | ((repeat (first | exact .here | apply Take.there)); done) | exact .none_) (fun w hw => Ob.row_at hw)) ?_; refine vcCall_of (A := skP b s4) (by rw [hown4']; exact Pick.under (Pick.under (Pick.under (Pick.under (Pick.under Pick.front))))) (hsay A8 c8 _ (Ent.mem (o := .sl A8 c8 5 1 (Bs (choL x s.par.2.2))) (by simp) (fun w hw => Ob.sl_at hw))) (fun v own' N6 hv => ?_); obtain ⟨A9, c9, oA9, oc9, out9, rfl, rfl, rfl, hout9⟩ := hv; refine vcMix_last (by kernel_rfl) ?_; exact ⟨_, ⟨hfin _ _ _ _ _ hout9, ⟨hss4.k0, hss4.k1, hss4.wA, hss4.wc, hss4.ws, hss4.failed⟩⟩, ⟨rfl, trivial⟩, ⟨_, Pick.front⟩, fun w hw h => hf4 w (hf3 w (hf2 w h (((by repeat first | exact Ent.refl | exact Ent.andR Ent.refl | refine Ent.andL ?_) : Ent _ (RowAt A2' (Bs l3))) w hw))) (((by repeat first | exact Ent.refl | exact Ent.andR Ent.refl | refine Ent.andL ?_) : Ent _ N5) w hw)⟩)) (by (refine vcCall_of .nil (lng_spec s.par.1 s.par.2.1 s.par.2.2 _ (Ent.gnG (hf.mono fun w hw => hw.piece (by simp))) (by omega)) (fun v own' N' hv => ?_); obtain ⟨A7, c7, rfl, rfl, rfl, hc7⟩ := hv; refine vcMix_same (M := RowAt (some ⟨b, 0, none⟩) (skL s4)) (Ent.gnO (by first | ((repeat (first | exact .here | apply Take.there)); done) | exact .none_) (fun w hw => Ob.row_at hw)) ?_; intro b7; refine vcMix_same (M := RowAt (some ⟨b, 0, none⟩) (skL s4)) (Ent.gnO (by first | ((repeat (first | exact .here | apply Take.there)); done) | exact .none_) (fun w hw => Ob.row_at hw)) ?_; intro b19; refine vcMix_same (M := RowAt (some ⟨b, 0, none⟩) (skL s4)) (Ent.gnO (by first | ((repeat (first | exact .here | apply Take.there)); done) | exact .none_) (fun w hw => Ob.row_at hw)) ?_; refine vcCall_of .nil (hcat b19 b7 b12 c12 A7 c7 _ (by first | exact Ent.gnO (by repeat first | exact .here | apply Take.there) (fun w hw => Ob.sl_at hw) | exact Ent.gnO (by repeat first | exact .here | apply Take.there) (fun w hw => Ob.row_at hw)) (Ent.mem (o := .sl (some ⟨b7, 0, none⟩) 1 5 1 (Bs [byteI x.size])) (by simp [Bs, B]) (fun w hw => Ob.sl_at hw)) (Ent.mem (o := .sl (some ⟨b12, 0, none⟩) c12 5 1 (Bs x.data.toList)) (by simp) (fun w hw => Ob.sl_at hw)) (Ent.mem (o := .sl A7 c7 5 1 (Bs (lng s.par.2.2))) (by simp) (fun w hw => Ob.sl_at hw))) (fun v own' N' hv => ?_); obtain ⟨A8, c8, rfl, rfl, rfl, hc8⟩ := hv; refine vcMix_same (M := RowAt (some ⟨b, 0, none⟩) (skL s4)) (Ent.gnO (by first | ((repeat (first | exact .here | apply Take.there)); done) | exact .none_) (fun w hw => Ob.row_at hw)) ?_; refine vcCall_of (A := skP b s4) (by rw [hown4']; exact Pick.under (Pick.under (Pick.under (Pick.under (Pick.under Pick.front))))) (hsay A8 c8 _ (Ent.mem (o := .sl A8 c8 5 1 (Bs (choL x s.par.2.2))) (by simp) (fun w hw => Ob.sl_at hw))) (fun v own' N6 hv => ?_); obtain ⟨A9, c9, oA9, oc9, out9, rfl, rfl, rfl, hout9⟩ := hv; refine vcMix_last (by kernel_rfl) ?_; exact ⟨_, ⟨hfin _ _ _ _ _ hout9, ⟨hss4.k0, hss4.k1, hss4.wA, hss4.wc, hss4.ws, hss4.failed⟩⟩, ⟨rfl, trivial⟩, ⟨_, Pick.front⟩, fun w hw h => hf4 w (hf3 w (hf2 w h (((by repeat first | exact Ent.refl | exact Ent.andR Ent.refl | refine Ent.andL ?_) : Ent _ (RowAt A2' (Bs l3))) w hw))) (((by repeat first | exact Ent.refl | exact Ent.andR Ent.refl | refine Ent.andL ?_) : Ent _ N5) w hw)⟩)))) (by (refine vcCall_of .nil (lng_spec s.par.1 s.par.2.1 s.par.2.2 _ (Ent.gnG (hf.mono fun w hw => hw.piece (by simp))) (by omega)) (fun v own' N' hv => ?_); obtain ⟨A7, c7, rfl, rfl, rfl, hc7⟩ := hv; refine vcMix_same (M := RowAt (some ⟨b, 0, none⟩) (skL s4)) (Ent.gnO (by first | ((repeat (first | exact .here | apply Take.there)); done) | exact .none_) (fun w hw => Ob.row_at hw)) ?_; exact And.intro (by (intro b7; refine vcMix_same (M := RowAt (some ⟨b, 0, none⟩) (skL s4)) (Ent.gnO (by first | ((repeat (first | exact .here | apply Take.there)); done) | exact .none_) (fun w hw => Ob.row_at hw)) ?_; intro b12 c12 hc12; refine vcMix_same (M := RowAt (some ⟨b, 0, none⟩) (skL s4)) (Ent.gnO (by first | ((repeat (first | exact .here | apply Take.there)); done) | exact .none_) (fun w hw => Ob.row_at hw)) ?_; intro b19; refine vcMix_same (M := RowAt (some ⟨b, 0, none⟩) (skL s4)) (Ent.gnO (by first | ((repeat (first | exact .here | apply Take.there)); done) | exact .none_) (fun w hw => Ob.row_at hw)) ?_; refine vcCall_of .nil (hcat b19 b7 b12 c12 A7 c7 _ (by first | exact Ent.gnO (by repeat first | exact .here | apply Take.there) (fun w hw => Ob.sl_at hw) | exact Ent.gnO (by repeat first | exact .here | apply Take.there) (fun w hw => Ob.row_at hw)) (Ent.mem (o := .sl (some ⟨b7, 0, none⟩) 1 5 1 (Bs [byteI x.size])) (by simp [Bs, B]) (fun w hw => Ob.sl_at hw)) (Ent.mem (o := .sl (some ⟨b12, 0, none⟩) c12 5 1 (Bs x.data.toList)) (by simp) (fun w hw => Ob.sl_at hw)) (Ent.mem (o := .sl A7 c7 5 1 (Bs (lng s.par.2.2))) (by simp) (fun w hw => Ob.sl_at hw))) (fun v own' N' hv => ?_); obtain ⟨A8, c8, rfl, rfl, rfl, hc8⟩ := hv; refine vcMix_same (M := RowAt (some ⟨b, 0, none⟩) (skL s4)) (Ent.gnO (by first | ((repeat (first | exact .here | apply Take.there)); done) | exact .none_) (fun w hw => Ob.row_at hw)) ?_; refine vcCall_of (A := skP b s4) (by rw [hown4']; exact Pick.under (Pick.under (Pick.under (Pick.under (Pick.under Pick.front))))) (hsay A8 c8 _ (Ent.mem (o := .sl A8 c8 5 1 (Bs (choL x s.par.2.2))) (by simp) (fun w hw => Ob.sl_at hw))) (fun v own' N6 hv => ?_); obtain ⟨A9, c9, oA9, oc9, out9, rfl, rfl, rfl, hout9⟩ := hv; refine vcMix_last (by kernel_rfl) ?_; exact ⟨_, ⟨hfin _ _ _ _ _ hout9, ⟨hss4.k0, hss4.k1, hss4.wA, hss4.wc, hss4.ws, hss4.failed⟩⟩, ⟨rfl, trivial⟩, ⟨_, Pick.front⟩, fun w hw h => hf4 w (hf3 w (hf2 w h (((by repeat first | exact Ent.refl | exact Ent.andR Ent.refl | refine Ent.andL ?_) : Ent _ (RowAt A2' (Bs l3))) w hw))) (((by repeat first | exact Ent.refl | exact Ent.andR Ent.refl | refine Ent.andL ?_) : Ent _ N5) w hw)⟩)) (by (intro b12 c12 hc12; refine vcMix_same (M := RowAt (some ⟨b, 0, none⟩) (skL s4)) (Ent.gnO (by first | ((repeat (first | exact .here | apply Take.there)); done) | exact .none_) (fun w hw => Ob.row_at hw)) ?_; intro b7; refine vcMix_same (M := RowAt (some ⟨b, 0, none⟩) (skL s4)) (Ent.gnO (by first | ((repeat (first | exact .here | apply Take.there)); done) | exact .none_) (fun w hw => Ob.row_at hw)) ?_; intro b19; refine vcMix_same (M := RowAt (some ⟨b, 0, none⟩) (skL s4)) (Ent.gnO (by first | ((repeat (first | exact .here | apply Take.there)); done) | exact .none_) (fun w hw => Ob.row_at hw)) ?_; refine vcCall_of .nil (hcat b19 b7 b12 c12 A7 c7 _ (by first | exact Ent.gnO (by repeat first | exact .here | apply Take.there) (fun w hw => Ob.sl_at hw) | exact Ent.gnO (by repeat first | exact .here | apply Take.there) (fun w hw => Ob.row_at hw)) (Ent.mem (o := .sl (some ⟨b7, 0, none⟩) 1 5 1 (Bs [byteI x.size])) (by simp [Bs, B]) (fun w hw => Ob.sl_at hw)) (Ent.mem (o := .sl (some ⟨b12, 0, none⟩) c12 5 1 (Bs x.data.toList)) (by simp) (fun w hw => Ob.sl_at hw)) (Ent.mem (o := .sl A7 c7 5 1 (Bs (lng s.par.2.2))) (by simp) (fun w hw => Ob.sl_at hw))) (fun v own' N' hv => ?_); obtain ⟨A8, c8, rfl, rfl, rfl, hc8⟩ := hv; refine vcMix_same (M := RowAt (some ⟨b, 0, none⟩) (skL s4)) (Ent.gnO (by first | ((repeat (first | exact .here | apply Take.there)); done) | exact .none_) (fun w hw => Ob.row_at hw)) ?_; refine vcCall_of (A := skP b s4) (by rw [hown4']; exact Pick.under (Pick.under (Pick.under (Pick.under (Pick.under Pick.front))))) (hsay A8 c8 _ (Ent.mem (o := .sl A8 c8 5 1 (Bs (choL x s.par.2.2))) (by simp) (fun w hw => Ob.sl_at hw))) (fun v own' N6 hv => ?_); obtain ⟨A9, c9, oA9, oc9, out9, rfl, rfl, rfl, hout9⟩ := hv; refine vcMix_last (by kernel_rfl) ?_; exact ⟨_, ⟨hfin _ _ _ _ _ hout9, ⟨hss4.k0, hss4.k1, hss4.wA, hss4.wc, hss4.ws, hss4.failed⟩⟩, ⟨rfl, trivial⟩, ⟨_, Pick.front⟩, fun w hw h => hf4 w (hf3 w (hf2 w h (((by repeat first | exact Ent.refl | exact Ent.andR Ent.refl | refine Ent.andL ?_) : Ent _ (RowAt A2' (Bs l3))) w hw))) (((by repeat first | exact Ent.refl | exact Ent.andR Ent.refl | refine Ent.andL ?_) : Ent _ N5) w hw)⟩)))))))
      · rintro s5 ⟨hpu5, hss5⟩
        have hsz5 : szS (pu s5) ≤ 1000001100000 := by
          rw [hpu5]
          have := szS_say (ch2 (pu s) body x) 8 1 (choL x (pu s).par)
          have e : choL x (pu s).par = choL x s.par.2.2 := rfl
          rw [hpu4] at hsz4
          rw [e] at this
          unfold ch3
          rw [e]
          omega
        have hhs5 : s5.hs.2.2.length = 16 := by
          have e : (pu s5).hs = (pu s4).hs := by rw [hpu5, hpu4]; rfl
          have e' : s5.hs.2.2 = s4.hs.2.2 := e
          rw [e']; exact hhs4
        have hrt5 : s5.root.2.2.length = 16 := by
          have e : (pu s5).root = (pu s4).root := by rw [hpu5, hpu4]; rfl
          have e' : s5.root.2.2 = s4.root.2.2 := e
          rw [e']; exact hrt4
        have hd5 := said_le hsz5
        have ho5 := out_le hsz5
        refine vcLoad1_2 (v := pieceV s5.hs) (xs := skL s5) (Ent.gnO .here (fun w hw => Ob.row_at hw)) rfl ?_
        have hF5 : ∀ (own : List Ob) (N' : Mp), Ent (GN G own (MpAnd (fun w => SkF s w → SkF s5 w) N')) (SkF s5) := fun own N' w hw => hw.1.2.1 (hf w hw.1.1)
        refine vcCall_of .nil (proof_spec b s5 s5.hs.1 s5.hs.2.1 s5.hs.2.2 _ (Ent.gnO .here (fun w hw => Ob.row_at hw)) (Ent.gnO (o := pO s5.said) (.there .here) (fun w hw => Ob.sl_at hw)) (fun w hw => (hw.1.2 (hf w hw.1.1)).piece (by simp)) (by omega) (by omega)) (fun v own' N7 hv => ?_)
        obtain ⟨A10, c10, rfl, rfl, hr10, hc10⟩ := hv
        have hprl : (prfL s5.said.2.2 s5.hs.2.2).length = 16 := dig_length _
        refine vcCall_of (A := skP b s5) Pick.whole (sayP_spec b s5 20 1 A10 c10 (prfL s5.said.2.2 s5.hs.2.2) _ (Ent.gnN (by repeat first | exact hr10 | exact Ent.andR hr10 | refine Ent.andL ?_)) (by omega) (by omega) (by omega) (fun f hf => by have := ho5.2 f hf; omega)) (fun v own' N8 hv => ?_)
        obtain ⟨A11, c11, oA11, oc11, out11, rfl, rfl, rfl, hout11⟩ := hv
        obtain ⟨s6, hs6⟩ : ∃ s6, s6 = { s5 with said := (A11, c11, s5.said.2.2 ++ msg 20 (prfL s5.said.2.2 s5.hs.2.2)), oA := oA11, oc := oc11, out := out11 } := ⟨_, rfl⟩
        have hpu6 : pu s6 = sayS (pu s5) 20 1 (prfL s5.said.2.2 s5.hs.2.2) := by rw [hs6]; unfold pu sayS; simp only [hout11]
        have hsz6 : szS (pu s6) ≤ 1000001200000 := by rw [hpu6]; have := szS_say (pu s5) 20 1 (prfL s5.said.2.2 s5.hs.2.2); omega
        have hrt6 : s6.root.2.2.length = 16 := by rw [hs6]; exact hrt5
        have hd6 := said_le hsz6
        have hf6 : ∀ w, SkF s5 w → SkF s6 w := fun w h => by rw [hs6]; exact h
        have hss6 : Same10 s s6 := by rw [hs6]; exact ⟨hss5.k0, hss5.k1, hss5.wA, hss5.wc, hss5.ws, hss5.failed⟩
        rw [← hs6]
        refine vcCall_of (.cons .here .nil) (apply_spec b s6 _ (Ent.gnO (o := pO s6.said) .here (fun w hw => Ob.sl_at hw)) (fun w hw => (hf6 w (hw.1.2.1.1 (hf w hw.1.1))).piece (by simp)) (by omega) (by omega)) (fun v own' N9 hv => ?_)
        obtain ⟨pc9, ph9, rfl, rfl, hpc9, hph9, hps9, hN9⟩ := hv
        have e : takeCH (pu s) body = (applyS (pu s6), 0) := by
          unfold takeCH
          rw [if_pos hgood, hpk]
          show (ch4 (pu s) body x, (0 : Int)) = _
          unfold ch4
          rw [← hpu5, hpu6]
          rfl
        rw [e]
        refine ⟨skP b { s6 with ac := pc9, as_ := ph9 }, _, _, Pick.front, fun w hw _ => hw, rfl, _, rfl, ?_, fun w hw => ?_, ⟨hss6.k0, hss6.k1, hss6.wA, hss6.wc, hss6.ws, hss6.failed⟩⟩
        · unfold pu applyS; simp only [hpc9, hph9, hps9]
        · have h : SkF s6 w := hf6 w (hw.2.1.1.1 hw.1)
          refine ⟨h.1, h.2.1, fun p hp => ?_⟩
          simp only [List.mem_cons, List.not_mem_nil, or_false] at hp
          rcases hp with rfl | rfl | rfl | rfl | rfl | rfl | rfl
          · exact h.piece (by simp)
          · exact h.piece (by simp)
          · exact h.piece (by simp)
          · exact h.piece (by simp)
          · exact hN9 _ (by simp) w hw.2.2
          · exact hN9 _ (by simp) w hw.2.2
          · exact h.piece (by simp)
end Go.Proofs.Yticllmnblcjjcaa
end

section
/- Layer 10: the next message, and feeding, as functions. -/
namespace Go.Proofs.Yticllmnblcjjcaa
open Go.Proofs
set_option maxRecDepth 10000

theorem Take.tailB {A : Option Addr} {cap : Nat} {bs : List UInt8} {l : List Ob} (m : Nat) (hm : m ≤ bs.length) (hc : bs.length ≤ cap) : Take (.sl (cutA A cap m 1) (cap - m) 5 1 (Bs (bs.drop m))) (.sl A cap 5 1 (Bs bs) :: l) l := by
  unfold cutA
  by_cases h : cap = m
  · subst h
    rw [if_pos rfl, List.drop_eq_nil_of_le (by omega), Nat.sub_self]
    exact Take.end_
  · rw [if_neg h]
    have := Take.drop (A := A) (cap := cap) (ty := 5) (size := 1) (xs := Bs bs) (l := l) m (by rw [Bs_length]; omega) (by omega)
    rw [Bs_drop]
    simp only [Nat.mul_one] at this ⊢
    exact this
theorem Take.in_ {o o' : Ob} {l l' : List Ob} (a : List Ob) (h : Take o (o' :: l) l') : Take o (a ++ o' :: l) (a ++ l') := Take.app h

def kepS (s : SP) : Nat → List UInt8
  | 0 => s.k0
  | _ => s.k1
def setKepS (s : SP) : Nat → List UInt8 → SP
  | 0, b => { s with k0 := b }
  | _, b => { s with k1 := b }
def fCH : FuncId := 28
def fSH : FuncId := 30
def fCho : FuncId := 31
def fSF : FuncId := 32
def fCF : FuncId := 29
def takes : List FuncId := [fCH, fSH, fCho, fSF, fCF]
def takeF (f : FuncId) (s : SP) (body : List UInt8) : SP × Int :=
  if f = fCH then takeCH s body else if f = fSH then takeSH s body else if f = fCho then takeCho s body else if f = fSF then takeSF s body else takeCF s body
theorem takeF_CH : takeF fCH = takeCH := by funext s b; exact if_pos rfl
theorem takeF_SH : takeF fSH = takeSH := by funext s b; unfold takeF; rw [if_neg (by decide), if_pos rfl]
theorem takeF_Cho : takeF fCho = takeCho := by funext s b; unfold takeF; rw [if_neg (by decide), if_neg (by decide), if_pos rfl]
theorem takeF_SF : takeF fSF = takeSF := by funext s b; unfold takeF; rw [if_neg (by decide), if_neg (by decide), if_neg (by decide), if_pos rfl]
theorem takeF_CF : takeF fCF = takeCF := by funext s b; unfold takeF; rw [if_neg (by decide), if_neg (by decide), if_neg (by decide), if_neg (by decide)]
/-- How long a message's body is, by its head. -/
def bodyN (b : List UInt8) : Nat := ((b[1]?.getD 0).toNat * 256 + (b[2]?.getD 0).toNat) * 256 + (b[3]?.getD 0).toNat
def nextP (s : SP) (j : Nat) : SP × Bool × Int :=
  if (kepS s j).length = 0 then (s, false, 0)
  else match s.ws with
    | [] => (s, false, 104)
    | w :: r =>
      if w.level ≠ (j : Int) ∨ 0 < (kepS s (1 - j)).length then (s, false, 101)
      else if (kepS s j).length < 4 then (s, false, 0)
      else if 4096 < bodyN (kepS s j) then (s, false, 52)
      else if (((kepS s j)[0]?.getD 0).toNat : Int) ≠ w.kind then (s, false, 100)
      else if (kepS s j).length < 4 + bodyN (kepS s j) then (s, false, 0)
      else if (takeF w.take s (((kepS s j).drop 4).take (bodyN (kepS s j)))).2 ≠ 0 then ((takeF w.take s (((kepS s j).drop 4).take (bodyN (kepS s j)))).1, false, (takeF w.take s (((kepS s j).drop 4).take (bodyN (kepS s j)))).2)
      else ({ setKepS (takeF w.take s (((kepS s j).drop 4).take (bodyN (kepS s j)))).1 j ((kepS s j).drop (4 + bodyN (kepS s j))) with ws := r }, true, 0)
/-- Messages are taken until none is there whole; an error ends it. -/
def loopP : Nat → SP → Nat → SP × Int
  | 0, s, _ => (s, 0)
  | n + 1, s, j => if (nextP s j).2.2 ≠ 0 then ({ (nextP s j).1 with failed := true }, (nextP s j).2.2) else if (nextP s j).2.1 = true then loopP n (nextP s j).1 j else ((nextP s j).1, 0)
def feedP (s : SP) (lv : Int) (data : List UInt8) : SP × Int :=
  if lv ≠ 0 ∧ lv ≠ 1 then (s, 101)
  else if s.failed = true ∨ (s.ws.length = 0 ∧ 0 < data.length) then ({ s with failed := true }, 104)
  else loopP (s.ws.length + 1) (setKepS s lv.toNat (kepS s lv.toNat ++ data)) lv.toNat

/-- What stays while messages are taken. -/
structure Inv10 (s : SP) : Prop where
  ok : OkP s
  ps : goodL s.ps
  sz : szS s + 20000 * s.ws.length ≤ 1000000000000
  ws : ∀ w ∈ s.ws, w.take ∈ takes
theorem rootL_len (a : List UInt8) (n : Nat) : (rootL a n).length = 16 := dig_length _
theorem szS_agree (s : SP) (p : Int) : szS (agreeS s p) = szS s := rfl
theorem szS_apply (s : SP) : szS (applyS s) = szS s := rfl
theorem szS_ch1 (s : SP) (body : List UInt8) (x : ByteArray) : szS (ch1 s body x) = szS s + body.length + 4 := szS_hear s 1 body
theorem szS_ch2 (s : SP) (body : List UInt8) (x : ByteArray) : szS (ch2 s body x) ≤ szS s + body.length + 100 := by
  have h1 := szS_ch1 s body x
  have h2 := szS_say (ch1 s body x) 2 0 (helloL s.rnd s.priv)
  have hhl := helloL_len s.rnd s.priv
  unfold ch2
  rw [szS_agree]
  omega
theorem szS_ch3 (s : SP) (body : List UInt8) (x : ByteArray) (hx : x.size ≤ 32) (hp : s.par.length ≤ 1024) : szS (ch3 s body x) ≤ szS s + body.length + 2500 := by
  have h2 := szS_ch2 s body x
  have h3 := szS_say (ch2 s body x) 8 1 (choL x s.par)
  have hds : x.data.toList.length = x.size := by rw [Array.length_toList]; rfl
  have hc : (choL x s.par).length = 1 + x.size + (s.par.length + 2) := by unfold choL lng; simp only [List.length_append, hds, List.length_cons, List.length_nil]; omega
  unfold ch3
  omega
theorem prfL_len (a b : List UInt8) : (prfL a b).length = 16 := dig_length _
theorem szS_ch4 (s : SP) (body : List UInt8) (x : ByteArray) (hx : x.size ≤ 32) (hp : s.par.length ≤ 1024) : szS (ch4 s body x) ≤ szS s + body.length + 3000 := by
  have h3 := szS_ch3 s body x hx hp
  unfold ch4
  rw [szS_apply]
  generalize ch3 s body x = t at h3 ⊢
  have h4 := szS_say t 20 1 (prfL t.said t.hs)
  have hpl := prfL_len t.said t.hs
  omega
theorem pickP_mem {s : SP} {body : List UInt8} {x : ByteArray} (h : pickP s body = some x) : x ∈ s.ps := List.mem_of_find?_eq_some h
/-- A taking changes nothing but what a side says, its secrets, the proto and the other's params. -/
structure Kept10 (s t : SP) : Prop where
  server : t.server = s.server
  rnd : t.rnd = s.rnd
  priv : t.priv = s.priv
  ps : t.ps = s.ps
  par : t.par = s.par
  ws : t.ws = s.ws
  k0 : t.k0 = s.k0
  k1 : t.k1 = s.k1
  failed : t.failed = s.failed
  ok : OkP s → OkP t
theorem Kept10.refl (s : SP) : Kept10 s s := ⟨rfl, rfl, rfl, rfl, rfl, rfl, rfl, rfl, rfl, id⟩
theorem Kept10.trans {s t u : SP} (h : Kept10 s t) (k : Kept10 t u) : Kept10 s u :=
  ⟨k.server.trans h.server, k.rnd.trans h.rnd, k.priv.trans h.priv, k.ps.trans h.ps, k.par.trans h.par, k.ws.trans h.ws, k.k0.trans h.k0, k.k1.trans h.k1, k.failed.trans h.failed, fun o => k.ok (h.ok o)⟩
theorem kept_hear (s : SP) (k : Int) (b : List UInt8) : Kept10 s (hearS s k b) := ⟨rfl, rfl, rfl, rfl, rfl, rfl, rfl, rfl, rfl, fun ok => ⟨ok.priv, ok.ps, ok.par, ok.root, ok.hc, ok.hs⟩⟩
theorem kept_say (s : SP) (k lv : Int) (b : List UInt8) : Kept10 s (sayS s k lv b) := ⟨rfl, rfl, rfl, rfl, rfl, rfl, rfl, rfl, rfl, fun ok => ⟨ok.priv, ok.ps, ok.par, ok.root, ok.hc, ok.hs⟩⟩
theorem kept_apply (s : SP) : Kept10 s (applyS s) := ⟨rfl, rfl, rfl, rfl, rfl, rfl, rfl, rfl, rfl, fun ok => ⟨ok.priv, ok.ps, ok.par, ok.root, ok.hc, ok.hs⟩⟩
theorem kept_agree (s : SP) (p : Int) : Kept10 s (agreeS s p) := ⟨rfl, rfl, rfl, rfl, rfl, rfl, rfl, rfl, rfl, fun ok => ⟨ok.priv, ok.ps, ok.par,
  Nat.le_trans (Nat.le_of_eq (rootL_len _ _)) (by decide), Nat.le_trans (Nat.le_of_eq (secL_len (Nat.le_trans (Nat.le_of_eq (rootL_len _ _)) (by decide)) (by decide))) (by decide), Nat.le_trans (Nat.le_of_eq (secL_len (Nat.le_trans (Nat.le_of_eq (rootL_len _ _)) (by decide)) (by decide))) (by decide)⟩⟩
theorem kept_peer (s : SP) (x : ByteArray) (p : List UInt8) : Kept10 s { s with proto := x, peer := p } := ⟨rfl, rfl, rfl, rfl, rfl, rfl, rfl, rfl, rfl, fun ok => ⟨ok.priv, ok.ps, ok.par, ok.root, ok.hc, ok.hs⟩⟩
theorem kept_ch4 (s : SP) (body : List UInt8) (x : ByteArray) : Kept10 s (ch4 s body x) := by
  have h1 : Kept10 s (ch1 s body x) := (kept_hear s 1 body).trans (kept_peer _ _ _)
  have h2 : Kept10 s (ch2 s body x) := h1.trans ((kept_say _ _ _ _).trans (kept_agree _ _))
  have h3 : Kept10 s (ch3 s body x) := h2.trans (kept_say _ _ _ _)
  exact h3.trans ((kept_say _ _ _ _).trans (kept_apply _))
def KeptN (s t : SP) (n : Nat) : Prop := Kept10 s t ∧ szS t ≤ szS s + n + 3000
theorem KeptN.refl (s : SP) (n : Nat) : KeptN s s n := ⟨Kept10.refl s, by omega⟩
theorem takeCH_kept (s : SP) (body : List UInt8) (hp : s.par.length ≤ 1024) (hg : goodL s.ps) : KeptN s (takeCH s body).1 body.length := by
  unfold takeCH
  split
  · split
    · rename_i x hx
      exact ⟨kept_ch4 s body x, szS_ch4 s body x (hg.2.2 x (pickP_mem hx)).2 hp⟩
    · exact KeptN.refl _ _
  · exact KeptN.refl _ _
theorem takeSH_kept (s : SP) (body : List UInt8) : KeptN s (takeSH s body).1 body.length := by
  unfold takeSH
  split
  · have := szS_hear s 2 body
    exact ⟨(kept_hear s 2 body).trans (kept_agree _ _), by rw [szS_agree]; omega⟩
  · exact KeptN.refl _ _
theorem takeCho_kept (s : SP) (body : List UInt8) : KeptN s (takeCho s body).1 body.length := by
  unfold takeCho
  split
  · split
    · have := szS_hear s 8 body
      exact ⟨(kept_hear s 8 body).trans (kept_peer _ _ _), by show szS (hearS s 8 body) ≤ _; omega⟩
    · exact KeptN.refl _ _
  · exact KeptN.refl _ _
theorem takeSF_kept (s : SP) (body : List UInt8) : KeptN s (takeSF s body).1 body.length := by
  unfold takeSF
  split
  · exact KeptN.refl _ _
  · have h1 := szS_hear s 20 body
    have h2 := szS_say (applyS (hearS s 20 body)) 20 1 (prfL (hearS s 20 body).said s.hc)
    have hpl := prfL_len (hearS s 20 body).said s.hc
    rw [szS_apply] at h2
    exact ⟨(kept_hear s 20 body).trans ((kept_apply _).trans (kept_say _ _ _ _)), by simp only; omega⟩
theorem takeCF_kept (s : SP) (body : List UInt8) : KeptN s (takeCF s body).1 body.length := by
  unfold takeCF
  split
  · exact KeptN.refl _ _
  · have := szS_hear s 20 body
    exact ⟨kept_hear s 20 body, by simp only; omega⟩
theorem takeF_kept {f : FuncId} (hf : f ∈ takes) (s : SP) (body : List UInt8) (hp : s.par.length ≤ 1024) (hg : goodL s.ps) : KeptN s (takeF f s body).1 body.length := by
  simp only [takes, List.mem_cons, List.not_mem_nil, or_false] at hf
  rcases hf with rfl | rfl | rfl | rfl | rfl
  · rw [takeF_CH]; exact takeCH_kept s body hp hg
  · rw [takeF_SH]; exact takeSH_kept s body
  · rw [takeF_Cho]; exact takeCho_kept s body
  · rw [takeF_SF]; exact takeSF_kept s body
  · rw [takeF_CF]; exact takeCF_kept s body
theorem takeF_err {f : FuncId} (s : SP) (body : List UInt8) (h : (takeF f s body).2 ≠ 0) : (takeF f s body).1 = s := by
  unfold takeF at h ⊢
  split at h
  · rename_i hf; rw [if_pos hf]; unfold takeCH at h ⊢; split at h
    · rename_i hg; rw [if_pos hg]; split at h
      · exact absurd rfl h
      · rename_i hn; simp only
    · rename_i hg; rw [if_neg hg]
  · rename_i hf; rw [if_neg hf]; split at h
    · rename_i hf; rw [if_pos hf]; unfold takeSH at h ⊢; split at h
      · exact absurd rfl h
      · rename_i hg; rw [if_neg hg]
    · rename_i hf; rw [if_neg hf]; split at h
      · rename_i hf; rw [if_pos hf]; unfold takeCho at h ⊢; split at h
        · rename_i hg; rw [if_pos hg]; split at h
          · exact absurd rfl h
          · rename_i hg; rw [if_neg hg]
        · rename_i hg; rw [if_neg hg]
      · rename_i hf; rw [if_neg hf]; split at h
        · rename_i hf; rw [if_pos hf]; unfold takeSF at h ⊢; split at h
          · rename_i hg; rw [if_pos hg]
          · exact absurd rfl h
        · rename_i hf; rw [if_neg hf]; unfold takeCF at h ⊢; split at h
          · rename_i hg; rw [if_pos hg]
          · exact absurd rfl h
theorem setKepS_sz (s : SP) (j : Nat) (b : List UInt8) : szS (setKepS s j b) = szS s := by cases j <;> rfl
theorem setKepS_ws (s : SP) (j : Nat) (b : List UInt8) : (setKepS s j b).ws = s.ws := by cases j <;> rfl
theorem setKepS_inv {s : SP} (h : Inv10 s) (j : Nat) (b : List UInt8) : Inv10 (setKepS s j b) := by
  cases j <;> exact ⟨⟨h.ok.priv, h.ok.ps, h.ok.par, h.ok.root, h.ok.hc, h.ok.hs⟩, h.ps, h.sz, h.ws⟩
theorem nextP_inv {s : SP} (h : Inv10 s) (j : Nat) : Inv10 (nextP s j).1 := by
  unfold nextP
  split
  · exact h
  split
  · exact h
  rename_i w r hws
  split
  · exact h
  split
  · exact h
  split
  · exact h
  rename_i hn
  split
  · exact h
  split
  · exact h
  have hk := takeF_kept (h.ws w (by rw [hws]; exact List.mem_cons_self ..)) s (((kepS s j).drop 4).take (bodyN (kepS s j))) h.ok.par h.ps
  have hl : (((kepS s j).drop 4).take (bodyN (kepS s j))).length ≤ 4096 := by rw [List.length_take]; omega
  have h0 := h.sz
  have he := takeF_err (f := w.take) s (((kepS s j).drop 4).take (bodyN (kepS s j)))
  generalize takeF w.take s (((kepS s j).drop 4).take (bodyN (kepS s j))) = t at hk he ⊢
  obtain ⟨hk, hsz⟩ := hk
  split
  · rename_i hne
    rw [he hne]
    exact h
  · have hok := hk.ok h.ok
    refine ⟨?_, ?_, ?_, fun w' hw' => h.ws w' (by rw [hws]; exact List.mem_cons_of_mem _ hw')⟩
    · cases j <;> exact ⟨hok.priv, hok.ps, hok.par, hok.root, hok.hc, hok.hs⟩
    · cases j <;> exact hk.ps ▸ h.ps
    · have e : szS { setKepS t.1 j ((kepS s j).drop (4 + bodyN (kepS s j))) with ws := r } = szS t.1 := by cases j <;> rfl
      rw [e]
      rw [hws] at h0
      simp only [List.length_cons] at h0 ⊢
      omega
end Go.Proofs.Yticllmnblcjjcaa
end

section
/- Layer 10: the next message. -/
namespace Go.Proofs.Yticllmnblcjjcaa
open Go.Proofs
set_option maxRecDepth 10000

def kp (s : Sk) : Nat → Piece
  | 0 => s.k0
  | _ => s.k1
def setKp (s : Sk) : Nat → Piece → Sk
  | 0, p => { s with k0 := p }
  | _, p => { s with k1 := p }
theorem two {j : Nat} (h : j < 2) : j = 0 ∨ j = 1 := by omega
theorem skL_kp (s : Sk) {j : Nat} (h : j < 2) : (skL s)[37 + j]? = some (pieceV (kp s j)) := by rcases two h with rfl | rfl <;> rfl
theorem skL_setKp (s : Sk) {j : Nat} (h : j < 2) (p : Piece) : (skL s).set (37 + j) (pieceV p) = skL (setKp s j p) := by rcases two h with rfl | rfl <;> rfl
theorem kepS_pu (s : Sk) (j : Nat) : kepS (pu s) j = (kp s j).2.2 := by cases j <;> rfl
theorem pu_setKp (s : Sk) (j : Nat) (p : Piece) : pu (setKp s j p) = setKepS (pu s) j p.2.2 := by cases j <;> rfl
theorem SkF_setKp {s : Sk} {w : World} (j : Nat) (p : Piece) : SkF (setKp s j p) w ↔ SkF s w := by cases j <;> exact Iff.rfl
theorem skO_mem (b : Nat) (s : Sk) (j : Nat) : pO (kp s j) ∈ skO b s := by cases j <;> simp [skO, kp]
theorem skO_skR (b : Nat) (s : Sk) : skR b s ∈ skO b s := by simp [skO]
theorem skP_of {b : Nat} {s : Sk} : ∃ r, r = [pO s.k0, pO s.k1] ∧ Pick (skP b s) (skO b s) r := ⟨_, rfl, .cons .here (.cons (.there (.there .here)) (.cons (.there (.there .here)) Pick.whole.under.under))⟩
theorem skO_pick {b : Nat} {s : Sk} {p q : Ob} (a r : List Ob) (h0 : ∀ l, Take (pO s.k0) (p :: l) l) (h1 : ∀ l, Take (pO s.k1) (q :: l) l) : ∃ rest, Pick (skO b s) (skP b s ++ (a ++ p :: q :: r)) rest := by
  refine ⟨a ++ r, .cons .here ?_⟩
  have e : (pO s.said :: .sl s.oA s.oc 56 2 (flL s.out) :: flO s.out) ++ (a ++ p :: q :: r) = ((pO s.said :: .sl s.oA s.oc 56 2 (flL s.out) :: flO s.out) ++ a) ++ p :: q :: r := by simp
  show Pick _ ((pO s.said :: .sl s.oA s.oc 56 2 (flL s.out) :: flO s.out) ++ (a ++ p :: q :: r)) _
  rw [e]
  refine .cons (Take.app (h0 _)) (.cons (Take.app (h1 _)) ?_)
  rw [List.append_assoc]
  exact Pick.front
/-- A side's own: its wants are known, and lie in memory as a slice. -/
structure KOk (s : Sk) : Prop where
  wc : s.ws.length ≤ s.wc
theorem take_spec {f : FuncId} (hf : f ∈ takes) (b : Nat) (s : Sk) (A : Option Addr) (c : Nat) (body : List UInt8) (G : Mp) (h : Ent G (SkF s)) (hb : Ent G (RowAt A (Bs body))) (hbl : body.length ≤ 1000000) (hi : Inv10 (pu s)) :
    Spec Try.prog f #[.pointer (some ⟨b, 0, none⟩), .slice A body.length c] (skP b s) G (TakeTo b s (takeF f (pu s) body)) := by
  have hsz := hi.sz
  simp only [takes, List.mem_cons, List.not_mem_nil, or_false] at hf
  rcases hf with rfl | rfl | rfl | rfl | rfl
  · rw [takeF_CH]; exact takeCH_spec b s A c body G h hb hbl (by omega) hi.ok hi.ps
  · rw [takeF_SH]; exact takeSH_spec b s A c body G hb hbl (by omega) hi.ok
  · rw [takeF_Cho]; exact takeCho_spec b s A c body G h hb hbl (by omega) hi.ok
  · rw [takeF_SF]; exact takeSF_spec b s A c body G h hb hbl (by omega) hi.ok
  · rw [takeF_CF]; exact takeCF_spec b s A c body G h hb hbl (by omega) hi.ok
def NextTo (b : Nat) (s : Sk) (r : SP × Bool × Int) (v : Value) (own : List Ob) (N : Mp) : Prop :=
  v = .tuple #[.bool r.2.1, .int .i64 r.2.2] ∧ ∃ s', own = skO b s' ∧ pu s' = r.1 ∧ Ent (MpAnd (SkF s) N) (SkF s') ∧ KOk s'
theorem wn_get {w : Wn} {r : List Wn} : wnL (w :: r) = .int .i64 w.kind :: .int .i64 w.level :: .func (.func w.take) #[] #[] :: wnL r := rfl
theorem wnL_len (l : List Wn) : (wnL l).length = l.length * 3 := by
  induction l with
  | nil => rfl
  | cons f r ih => rw [wn_get, List.length_cons, List.length_cons, List.length_cons, ih, List.length_cons]; omega
set_option maxHeartbeats 2000000 in
theorem next10_spec (b : Nat) (s : Sk) (j : Nat) (hj : j < 2) (G : Mp) (hf : Ent G (SkF s)) (hi : Inv10 (pu s)) (hk : KOk s) (hkl : (kp s j).2.2.length ≤ 1099511627776) :
    Spec Try.prog 68 #[.pointer (some ⟨b, 0, none⟩), .int .i64 j] (skO b s) G (NextTo b s (nextP (pu s) j)) := by
  refine Spec.intro (args := [_, _]) wide Try.func68 rfl Try.call68 (by rfl) (by rfl) (fun w0 hw0 => ?_)
  have hcap : (kp s j).2.2.length ≤ (kp s j).2.1 := by
    have := Ob.sl_len (hw0.objs _ (skO_mem b s j))
    simpa [Bs_length] using this
  obtain ⟨⟨KA, Kc, K⟩, hK⟩ : ∃ q, q = kp s j := ⟨_, rfl⟩
  have hkep : kepS (pu s) j = K := by rw [kepS_pu, ← hK]
  have stay : ∀ (t : Bool) (e : Int) (r : List Ob) (N : Mp), nextP (pu s) j = (pu s, t, e) → (∃ rest, Pick (skO b s) r rest) → ∃ (own' rest : List Ob) (N' : Mp), Pick own' r rest ∧ (∀ w, N w → Objs rest w → N' w) ∧ NextTo b s (nextP (pu s) j) (.tuple #[.bool t, .int .i64 e]) own' N' :=
    fun t e r N h ⟨rest, hp⟩ => ⟨skO b s, rest, MT, hp, fun _ _ _ => trivial, by rw [h], s, rfl, by rw [h], fun w hw => hw.1, hk⟩
  rw [← hK] at hcap hkl
  simp only at hcap hkl
  refine vcAt_nat j rfl hj ?_
  refine vcLoad1_2 (v := pieceV (KA, Kc, K)) (xs := skL s) (Ent.mem (skO_skR b s) (fun w hw => Ob.row_at hw)) (by rw [hK]; exact skL_kp s hj) ?_
  refine vcIf_dec (fun h0 => ?_) (fun h0 => ?_)
  · exact stay _ _ _ _ (if_pos (by rw [hkep]; simp only at h0; omega)) ⟨_, Pick.whole⟩
  simp only at h0
  refine vcCall_of .nil (done_spec b s _ (Ent.mem (skO_skR b s) (fun w hw => Ob.row_at hw))) (fun v own' N' hv => ?_); obtain ⟨rfl, rfl, rfl⟩ := hv
  refine vcIf_dec (fun hd => ?_) (fun hd => ?_)
  · refine stay _ _ _ _ ?_ ⟨_, Pick.whole⟩
    unfold nextP
    rw [if_neg (by rw [hkep]; omega)]
    have : (pu s).ws = [] := List.eq_nil_of_length_eq_zero hd
    rw [this]
  obtain ⟨w, r, hws⟩ : ∃ w r, s.ws = w :: r := by
    cases h : s.ws with
    | nil => rw [h] at hd; exact absurd rfl hd
    | cons w r => exact ⟨w, r, rfl⟩
  have hP : nextP (pu s) j = if w.level ≠ (j : Int) ∨ 0 < (kepS (pu s) (1 - j)).length then (pu s, false, 101)
      else if K.length < 4 then (pu s, false, 0)
      else if 4096 < bodyN K then (pu s, false, 52)
      else if ((K[0]?.getD 0).toNat : Int) ≠ w.kind then (pu s, false, 100)
      else if K.length < 4 + bodyN K then (pu s, false, 0)
      else if (takeF w.take (pu s) ((K.drop 4).take (bodyN K))).2 ≠ 0 then ((takeF w.take (pu s) ((K.drop 4).take (bodyN K))).1, false, (takeF w.take (pu s) ((K.drop 4).take (bodyN K))).2)
      else ({ setKepS (takeF w.take (pu s) ((K.drop 4).take (bodyN K))).1 j (K.drop (4 + bodyN K)) with ws := r }, true, 0) := by
    have e : (pu s).ws = w :: r := hws
    unfold nextP
    rw [hkep, if_neg (by omega), e]
  have hrow : Ent G (RowAt s.wA (wnL (w :: r))) := hf.mono fun w' h => by rw [← hws]; exact h.2.1
  refine vcLoad1_row (j := 36) (v := .slice s.wA s.ws.length s.wc) (xs := skL s) (Ent.mem (skO_skR b s) (fun w hw => Ob.row_at hw)) rfl ?_
  refine vcIdx_nats (s := 3) 0 rfl (Ent.gnG hrow) (by omega) (by rw [wnL_len, ← hws]; exact Nat.le_refl _) (by decide) (fun wa hwa => ?_)
  have hroww : Ent G (RowAt (some wa) (wnL (w :: r))) := by rw [← hwa]; exact hrow
  refine vcLoadN_at (j := 0) [.int .i64 w.kind, .int .i64 w.level, .func (.func w.take) #[] #[]] (Ent.gnG hroww) (add_zero wa).symm rfl (fun i hi => by rw [Nat.zero_add]; match i, hi with | 0, _ => rfl | 1, _ => rfl | 2, _ => rfl) ?_
  intro b7
  have w3 : ∀ v ∈ [Value.int .i64 w.kind, .int .i64 w.level, .func (.func w.take) #[] #[]], oneCell v = true := by
    intro v hv; simp only [List.mem_cons, List.not_mem_nil, or_false] at hv; rcases hv with rfl | rfl | rfl <;> rfl
  refine ⟨rfl, vcStoreN_row (xs := [.int .i64 0, .int .i64 0, .nilFunc]) _ .here rfl w3 ?_⟩
  refine vcLoad1_row (j := 1) (v := .int .i64 w.level) (xs := [.int .i64 w.kind, .int .i64 w.level, .func (.func w.take) #[] #[]]) (Ent.gnO .here (fun w hw => Ob.row_at hw)) rfl ?_
  refine vcIf_ndec (fun hlv => ?_) (fun hlv => ?_)
  · exact stay _ _ _ _ (by rw [hP]; exact if_pos (.inl hlv)) ⟨_, (by first | exact Pick.front | exact Pick.whole | exact Pick.under (Pick.front) | exact Pick.under (Pick.whole) | exact Pick.under (Pick.under (Pick.front)) | exact Pick.under (Pick.under (Pick.whole)) | exact Pick.under (Pick.under (Pick.under (Pick.front))) | exact Pick.under (Pick.under (Pick.under (Pick.whole))) | exact Pick.under (Pick.under (Pick.under (Pick.under (Pick.front)))) | exact Pick.under (Pick.under (Pick.under (Pick.under (Pick.whole)))) | exact Pick.under (Pick.under (Pick.under (Pick.under (Pick.under (Pick.front))))) | exact Pick.under (Pick.under (Pick.under (Pick.under (Pick.under (Pick.whole))))) | exact Pick.under (Pick.under (Pick.under (Pick.under (Pick.under (Pick.under (Pick.front)))))) | exact Pick.under (Pick.under (Pick.under (Pick.under (Pick.under (Pick.under (Pick.whole)))))) | exact Pick.under (Pick.under (Pick.under (Pick.under (Pick.under (Pick.under (Pick.under (Pick.front))))))) | exact Pick.under (Pick.under (Pick.under (Pick.under (Pick.under (Pick.under (Pick.under (Pick.whole))))))))⟩
  refine vcFit_i64 (by omega) ?_
  refine vcAt_nat (1 - j) (by omega) (by omega) ?_
  refine vcLoad1_2 (v := pieceV (kp s (1 - j))) (xs := skL s) (Ent.mem (List.mem_cons_of_mem _ (skO_skR b s)) (fun w hw => Ob.row_at hw)) (skL_kp s (by omega)) ?_
  refine vcIf_dec (fun hot => ?_) (fun hot => ?_)
  · exact stay _ _ _ _ (by rw [hP]; exact if_pos (.inr (by rw [kepS_pu]; omega))) ⟨_, (by first | exact Pick.front | exact Pick.whole | exact Pick.under (Pick.front) | exact Pick.under (Pick.whole) | exact Pick.under (Pick.under (Pick.front)) | exact Pick.under (Pick.under (Pick.whole)) | exact Pick.under (Pick.under (Pick.under (Pick.front))) | exact Pick.under (Pick.under (Pick.under (Pick.whole))) | exact Pick.under (Pick.under (Pick.under (Pick.under (Pick.front)))) | exact Pick.under (Pick.under (Pick.under (Pick.under (Pick.whole)))) | exact Pick.under (Pick.under (Pick.under (Pick.under (Pick.under (Pick.front))))) | exact Pick.under (Pick.under (Pick.under (Pick.under (Pick.under (Pick.whole))))) | exact Pick.under (Pick.under (Pick.under (Pick.under (Pick.under (Pick.under (Pick.front)))))) | exact Pick.under (Pick.under (Pick.under (Pick.under (Pick.under (Pick.under (Pick.whole)))))) | exact Pick.under (Pick.under (Pick.under (Pick.under (Pick.under (Pick.under (Pick.under (Pick.front))))))) | exact Pick.under (Pick.under (Pick.under (Pick.under (Pick.under (Pick.under (Pick.under (Pick.whole))))))))⟩
  rw [if_neg (by rw [kepS_pu]; intro h; rcases h with h | h; exact h hlv; omega)] at hP
  refine vcIf_dec (fun h4 => ?_) (fun h4 => ?_)
  · simp only at h4
    exact stay _ _ _ _ (by rw [hP]; exact if_pos (by omega)) ⟨_, (by first | exact Pick.front | exact Pick.whole | exact Pick.under (Pick.front) | exact Pick.under (Pick.whole) | exact Pick.under (Pick.under (Pick.front)) | exact Pick.under (Pick.under (Pick.whole)) | exact Pick.under (Pick.under (Pick.under (Pick.front))) | exact Pick.under (Pick.under (Pick.under (Pick.whole))) | exact Pick.under (Pick.under (Pick.under (Pick.under (Pick.front)))) | exact Pick.under (Pick.under (Pick.under (Pick.under (Pick.whole)))) | exact Pick.under (Pick.under (Pick.under (Pick.under (Pick.under (Pick.front))))) | exact Pick.under (Pick.under (Pick.under (Pick.under (Pick.under (Pick.whole))))) | exact Pick.under (Pick.under (Pick.under (Pick.under (Pick.under (Pick.under (Pick.front)))))) | exact Pick.under (Pick.under (Pick.under (Pick.under (Pick.under (Pick.under (Pick.whole)))))) | exact Pick.under (Pick.under (Pick.under (Pick.under (Pick.under (Pick.under (Pick.under (Pick.front))))))) | exact Pick.under (Pick.under (Pick.under (Pick.under (Pick.under (Pick.under (Pick.under (Pick.whole))))))))⟩
  simp only at h4
  rw [if_neg (by omega)] at hP
  obtain ⟨k0, k1, k2, k3, K', rfl⟩ : ∃ a b c d l, K = a :: b :: c :: d :: l := by
    match K, (show 4 ≤ K.length by omega) with
    | a :: b :: c :: d :: l, _ => exact ⟨a, b, c, d, l, rfl⟩
  have hbN : bodyN (k0 :: k1 :: k2 :: k3 :: K') = (k1.toNat * 256 + k2.toNat) * 256 + k3.toNat := rfl
  have hKr : ∀ (own : List Ob) (N : Mp), pO (KA, Kc, k0 :: k1 :: k2 :: k3 :: K') ∈ own → Ent (GN G own N) (RowAt KA (Bs (k0 :: k1 :: k2 :: k3 :: K'))) := fun own N h => Ent.mem h (fun w hw => Ob.sl_at hw)
  have hKm : pO (KA, Kc, k0 :: k1 :: k2 :: k3 :: K') ∈ skO b s := by rw [hK]; exact skO_mem b s j
  have hx1 := k1.toNat_lt
  have hx2 := k2.toNat_lt
  have hx3 := k3.toNat_lt
  refine vcDraw_quiet (by kernel_rfl) ?_
  refine vcIdx_nat 1 rfl (hKr _ _ (List.mem_cons_of_mem _ hKm)) (by simp) (by rw [Bs_length]; simp) (fun ka hka => ?_)
  have hKra : ∀ (own : List Ob) (N : Mp), pO (KA, Kc, k0 :: k1 :: k2 :: k3 :: K') ∈ own → Ent (GN G own N) (RowAt (some ka) (Bs (k0 :: k1 :: k2 :: k3 :: K'))) := fun own N h => by rw [← hka]; exact hKr own N h
  refine vcLoad1_row (v := .int .u8 k1.toNat) (hKra _ _ (List.mem_cons_of_mem _ hKm)) rfl ?_
  refine vcFit_i64 (by omega) ?_
  refine vcShl_lit 16 rfl (by decide) ?_
  refine vcFit_i64 (by omega) ?_
  have hka : KA = some ka := hka
  have idx : ∀ {own : List Ob} {N : Mp} {i : Int} {X : Addr → Nat → Prop} (n : Nat), i = n → n < 4 → pO (KA, Kc, k0 :: k1 :: k2 :: k3 :: K') ∈ own → X ka n → vcIdx (GN G own N) KA (k0 :: k1 :: k2 :: k3 :: K').length i X := fun n hi hn hm hX =>
    vcIdx_nat n hi (hKr _ _ hm) (by simp; omega) (by rw [Bs_length]; exact Nat.le_refl _) (fun a ha => by rw [hka] at ha; cases ha; exact hX)
  refine idx 2 rfl (by decide) (List.mem_cons_of_mem _ hKm) ?_
  refine vcLoad1_row (v := .int .u8 k2.toNat) (hKra _ _ (List.mem_cons_of_mem _ hKm)) rfl ?_
  refine vcFit_i64 (by omega) ?_
  refine vcShl_lit 8 rfl (by decide) ?_
  refine vcFit_i64 (by omega) ?_
  have hor1 : bitI .or .i64 ((k1.toNat : Int) * 2 ^ 16) ((k2.toNat : Int) * 2 ^ 8) = ((k1.toNat * 65536 + k2.toNat * 256 : Nat) : Int) := by
    rw [show ((k1.toNat : Int) * 2 ^ 16) = ((k1.toNat * 2 ^ 16 : Nat) : Int) from by omega, show ((k2.toNat : Int) * 2 ^ 8) = ((k2.toNat * 2 ^ 8 : Nat) : Int) from by omega, bitI_or (by rw [max_i64]; omega) (by rw [max_i64]; omega), or_low _ _ _ (by omega)]
  refine vcBit_as _ hor1 ?_
  refine idx 3 rfl (by decide) (List.mem_cons_of_mem _ hKm) ?_
  refine vcLoad1_row (v := .int .u8 k3.toNat) (hKra _ _ (List.mem_cons_of_mem _ hKm)) rfl ?_
  refine vcFit_i64 (by omega) ?_
  have hor2 : bitI .or .i64 ((k1.toNat * 65536 + k2.toNat * 256 : Nat) : Int) (k3.toNat : Int) = ((bodyN (k0 :: k1 :: k2 :: k3 :: K') : Nat) : Int) := by
    rw [hbN, bitI_or (by rw [max_i64]; omega) (by rw [max_i64]; omega), show k1.toNat * 65536 + k2.toNat * 256 = (k1.toNat * 256 + k2.toNat) * 2 ^ 8 from by omega, or_low _ _ _ (by omega)]
  refine vcBit_as _ hor2 ?_
  obtain ⟨n, hn⟩ : ∃ n, n = bodyN (k0 :: k1 :: k2 :: k3 :: K') := ⟨_, rfl⟩
  rw [← hn] at hP ⊢
  refine vcIf_dec (fun hg => ?_) (fun hg => ?_)
  · exact stay _ _ _ _ (by rw [hP]; exact if_pos (by omega)) ⟨_, (by first | exact Pick.front | exact Pick.whole | exact Pick.under (Pick.front) | exact Pick.under (Pick.whole) | exact Pick.under (Pick.under (Pick.front)) | exact Pick.under (Pick.under (Pick.whole)) | exact Pick.under (Pick.under (Pick.under (Pick.front))) | exact Pick.under (Pick.under (Pick.under (Pick.whole))) | exact Pick.under (Pick.under (Pick.under (Pick.under (Pick.front)))) | exact Pick.under (Pick.under (Pick.under (Pick.under (Pick.whole)))) | exact Pick.under (Pick.under (Pick.under (Pick.under (Pick.under (Pick.front))))) | exact Pick.under (Pick.under (Pick.under (Pick.under (Pick.under (Pick.whole))))) | exact Pick.under (Pick.under (Pick.under (Pick.under (Pick.under (Pick.under (Pick.front)))))) | exact Pick.under (Pick.under (Pick.under (Pick.under (Pick.under (Pick.under (Pick.whole)))))) | exact Pick.under (Pick.under (Pick.under (Pick.under (Pick.under (Pick.under (Pick.under (Pick.front))))))) | exact Pick.under (Pick.under (Pick.under (Pick.under (Pick.under (Pick.under (Pick.under (Pick.whole))))))))⟩
  rw [if_neg (by omega)] at hP
  have hx0 := k0.toNat_lt
  refine vcDraw_quiet (by kernel_rfl) ?_
  refine idx 0 rfl (by decide) (List.mem_cons_of_mem _ hKm) ?_
  refine vcLoad1_0 (v := .int .u8 k0.toNat) (hKra _ _ (List.mem_cons_of_mem _ hKm)) rfl ?_
  refine vcFit_i64 (by omega) ?_
  refine vcLoad1_row (j := 0) (v := .int .i64 w.kind) (xs := [.int .i64 w.kind, .int .i64 w.level, .func (.func w.take) #[] #[]]) (Ent.gnO .here (fun w hw => Ob.row_at hw)) rfl ?_
  refine vcIf_ndec (fun hkd => ?_) (fun hkd => ?_)
  · exact stay _ _ _ _ (by rw [hP]; exact if_pos hkd) ⟨_, (by first | exact Pick.front | exact Pick.whole | exact Pick.under (Pick.front) | exact Pick.under (Pick.whole) | exact Pick.under (Pick.under (Pick.front)) | exact Pick.under (Pick.under (Pick.whole)) | exact Pick.under (Pick.under (Pick.under (Pick.front))) | exact Pick.under (Pick.under (Pick.under (Pick.whole))) | exact Pick.under (Pick.under (Pick.under (Pick.under (Pick.front)))) | exact Pick.under (Pick.under (Pick.under (Pick.under (Pick.whole)))) | exact Pick.under (Pick.under (Pick.under (Pick.under (Pick.under (Pick.front))))) | exact Pick.under (Pick.under (Pick.under (Pick.under (Pick.under (Pick.whole))))) | exact Pick.under (Pick.under (Pick.under (Pick.under (Pick.under (Pick.under (Pick.front)))))) | exact Pick.under (Pick.under (Pick.under (Pick.under (Pick.under (Pick.under (Pick.whole)))))) | exact Pick.under (Pick.under (Pick.under (Pick.under (Pick.under (Pick.under (Pick.under (Pick.front))))))) | exact Pick.under (Pick.under (Pick.under (Pick.under (Pick.under (Pick.under (Pick.under (Pick.whole))))))))⟩
  rw [if_neg (fun h => h hkd)] at hP
  refine vcFit_i64 (by omega) ?_
  refine vcIf_dec (fun hsh => ?_) (fun hsh => ?_)
  · simp only at hsh
    exact stay _ _ _ _ (by rw [hP]; exact if_pos (by omega)) ⟨_, (by first | exact Pick.front | exact Pick.whole | exact Pick.under (Pick.front) | exact Pick.under (Pick.whole) | exact Pick.under (Pick.under (Pick.front)) | exact Pick.under (Pick.under (Pick.whole)) | exact Pick.under (Pick.under (Pick.under (Pick.front))) | exact Pick.under (Pick.under (Pick.under (Pick.whole))) | exact Pick.under (Pick.under (Pick.under (Pick.under (Pick.front)))) | exact Pick.under (Pick.under (Pick.under (Pick.under (Pick.whole)))) | exact Pick.under (Pick.under (Pick.under (Pick.under (Pick.under (Pick.front))))) | exact Pick.under (Pick.under (Pick.under (Pick.under (Pick.under (Pick.whole))))) | exact Pick.under (Pick.under (Pick.under (Pick.under (Pick.under (Pick.under (Pick.front)))))) | exact Pick.under (Pick.under (Pick.under (Pick.under (Pick.under (Pick.under (Pick.whole)))))) | exact Pick.under (Pick.under (Pick.under (Pick.under (Pick.under (Pick.under (Pick.under (Pick.front))))))) | exact Pick.under (Pick.under (Pick.under (Pick.under (Pick.under (Pick.under (Pick.under (Pick.whole))))))))⟩
  simp only at hsh
  rw [if_neg (by omega)] at hP
  generalize hKe : k0 :: k1 :: k2 :: k3 :: K' = K at *
  have hlen : ((K.drop 4).take n).length = n := by rw [List.length_take, List.length_drop]; omega
  obtain ⟨body, hbody⟩ : ∃ x, x = (K.drop 4).take n := ⟨_, rfl⟩
  rw [← hbody] at hlen hP
  refine vcDraw_mix [0,1,2,3,4,5,6,7,8] (RowAt (some ⟨b7, 0, none⟩) [.int .i64 w.kind, .int .i64 w.level, .func (.func w.take) #[] #[]]) (by kernel_rfl) (Ent.gnO .here (fun w hw => Ob.row_at hw)) ?_
  refine vcLoad1_row (j := 2) (v := .func (.func w.take) #[] #[]) (xs := [.int .i64 w.kind, .int .i64 w.level, .func (.func w.take) #[] #[]]) Ent.refl rfl ?_
  refine vcFit_i64 (by omega) ?_
  refine vcSlice3_as 4 body.length (Kc - 4) rfl (by omega) (by simp only; omega) (by simp only; omega) (by omega) (fun A1 hA1 => ?_)
  have hbr : ∀ w, (pO (KA, Kc, K)).is w → RowAt A1 (Bs body) w := fun w hw => (Ob.sl_at hw).bytes hA1 (by show K.length ≤ _; omega) (by rw [hlen, hbody])
  have hwt : w.take ∈ takes := hi.ws w (by show w ∈ s.ws; rw [hws]; exact List.mem_cons_self ..)
  have hkm2 : pO (KA, Kc, K) ∈ [Ob.row b7 71 [.int .i64 w.kind, .int .i64 w.level, .func (.func w.take) #[] #[]] 3, pO s.k0, pO s.k1] := by
    rcases two hj with rfl | rfl <;> (rw [hK]; simp [kp])
  refine vcCall_of (A := skP b s) (rest := [Ob.row b7 71 [.int .i64 w.kind, .int .i64 w.level, .func (.func w.take) #[] #[]] 3, pO s.k0, pO s.k1]) (.cons (.there .here) (.cons (.there (.there (.there .here))) (.cons (.there (.there (.there .here))) Pick.whole.under.under.under))) (take_spec hwt b s A1 (Kc - 4) body _ (Ent.gnG hf) (Ent.mem hkm2 hbr) (by omega) hi) (fun v own' N1 hv => ?_)
  obtain ⟨rfl, s1, rfl, hpu1, hf1, hs1⟩ := hv
  have hkept := takeF_kept hwt (pu s) body hi.ok.par hi.ps
  have herr := takeF_err (f := w.take) (pu s) body
  generalize takeF w.take (pu s) body = T at hpu1 hP hkept herr ⊢
  obtain ⟨T1, e⟩ := T
  simp only at hpu1 hP hkept herr ⊢
  refine vcMix_same (Ent.mem (o := Ob.row b7 71 [.int .i64 w.kind, .int .i64 w.level, .func (.func w.take) #[] #[]] 3) (by simp) (fun w hw => Ob.row_at hw)) ?_
  have fin : ∀ (s2 : Sk) (a rr : List Ob) (p q : Ob), (∀ l, Take (pO s2.k0) (p :: l) l) → (∀ l, Take (pO s2.k1) (q :: l) l) → ∃ rest, Pick (skO b s2) (skP b s2 ++ (a ++ p :: q :: rr)) rest := fun s2 a rr p q h0 h1 => skO_pick a rr h0 h1
  refine vcIf_ndec (fun he => ?_) (fun he => ?_)
  · rw [if_pos he] at hP
    obtain ⟨rest, hp⟩ := fin s1 [Ob.row b7 71 [.int .i64 w.kind, .int .i64 w.level, .func (.func w.take) #[] #[]] 3] [] (pO s.k0) (pO s.k1) (fun l => by rw [hs1.k0]; exact .here) (fun l => by rw [hs1.k1]; exact .here)
    refine ⟨skO b s1, rest, _, hp, fun w hw _ => hw, ?_⟩
    rw [hP]
    exact ⟨rfl, s1, rfl, hpu1, fun w hw => hf1 w ⟨hw.1, hw.2.2⟩, ⟨by rw [hs1.wc, hs1.ws]; exact hk.wc⟩⟩
  rw [if_neg (fun h => h he)] at hP
  refine vcDraw_mix [0,1,2,3,4,5,6,7,8,9] MT (by kernel_rfl) (fun _ _ => trivial) ?_
  refine vcFit_i64 (by omega) ?_
  have hsh' : 4 + n ≤ K.length := by omega
  have hdl : (K.drop (4 + n)).length = K.length - (4 + n) := List.length_drop
  refine vcSlice3_as (4 + n) (K.drop (4 + n)).length (Kc - (4 + n)) (by omega) (by show ((K.length : Nat) : Int) = _; omega) (by show ((Kc : Nat) : Int) = _; omega) (by show ((Kc : Nat) : Int) ≤ (Kc : Nat); omega) (by omega) (fun A2 hA2 => ?_)
  refine vcAt_nat j rfl hj ?_
  have hA2' : A2 = cutA KA Kc (4 + n) 1 := by rw [hA2]; congr 1; omega
  obtain ⟨s2, hs2⟩ : ∃ s2, s2 = setKp s1 j (A2, Kc - (4 + n), K.drop (4 + n)) := ⟨_, rfl⟩
  refine vcStore2_eq (skR b s1) (skR b s2) _ .here rfl (by show 37 + j + 0 < 49; omega) rfl (by rw [hs2]; show Ob.row b _ ((skL s1).set (37 + j) (pieceV (A2, Kc - (4 + n), K.drop (4 + n)))) 49 = _; rw [skL_setKp s1 hj]; rfl) ?_
  refine vcMix_last (by kernel_rfl) ?_
  have e2 : s2.wA = s.wA ∧ s2.ws = s.ws ∧ s2.wc = s.wc ∧ s2.said = s1.said ∧ s2.oA = s1.oA ∧ s2.oc = s1.oc ∧ s2.out = s1.out := by
    rw [hs2]; rcases two hj with rfl | rfl <;> exact ⟨hs1.wA, hs1.ws, hs1.wc, rfl, rfl, rfl, rfl⟩
  have hwc := hk.wc
  have hwl : s.ws.length = r.length + 1 := by rw [hws]; rfl
  refine vcLoad1_row (j := 36) (v := .slice s.wA s.ws.length s.wc) (xs := skL s2) (Ent.gnO .here (fun w hw => Ob.row_at hw)) (by rw [← e2.1, ← e2.2.1, ← e2.2.2.1]; rfl) ?_
  refine vcSlice3_as 1 r.length (s.wc - 1) rfl (by omega) (by omega) (by omega) (by omega) (fun A3 hA3 => ?_)
  obtain ⟨s3, hs3⟩ : ∃ s3, s3 = { s2 with wA := A3, wc := s.wc - 1, ws := r } := ⟨_, rfl⟩
  refine vcStore1_eq (skR b s2) (skR b s3) _ .here rfl (by show (36 : Nat) < 49; decide) rfl (by rw [hs3]; rfl) ?_
  have hF3 : ∀ W, SkF s W → SkF s1 W → SkF s3 W := fun W h h1 => by
    have h2 : SkF s2 W := by rw [hs2]; exact (SkF_setKp j _).2 h1
    rw [hs3]
    refine ⟨h2.1, ?_, h2.2.2⟩
    have hr0 : RowAt s.wA (wnL (w :: r)) W := by rw [← hws]; exact h.2.1
    refine RowAt.cut_eq (l := 1) (size := 3) hr0 hA3 (by rw [wnL_len]; simp only [List.length_cons]; omega) ?_
    rw [wn_get]
    simp
  have hpu3 : pu s3 = { setKepS T1 j (K.drop (4 + n)) with ws := r } := by
    have h2 : pu s2 = setKepS T1 j (K.drop (4 + n)) := by rw [hs2, pu_setKp, hpu1]
    rw [← h2, hs3]
    rfl
  have hk3 : s3.k0 = s2.k0 ∧ s3.k1 = s2.k1 := by rw [hs3]; exact ⟨rfl, rfl⟩
  have htl : ∀ l, Take (pO (A2, Kc - (4 + n), K.drop (4 + n))) (pO (KA, Kc, K) :: l) l := fun l => by
    have := Take.tailB (A := KA) (cap := Kc) (bs := K) (l := l) (4 + n) hsh' hcap
    rw [← hA2'] at this
    exact this
  have hown : ∀ (x : List Ob), skR b s3 :: (pO s1.said :: .sl s1.oA s1.oc 56 2 (flL s1.out) :: flO s1.out ++ x) = skP b s3 ++ x := fun x => by
    have e3 : s3.said = s2.said ∧ s3.oA = s2.oA ∧ s3.oc = s2.oc ∧ s3.out = s2.out := by rw [hs3]; exact ⟨rfl, rfl, rfl, rfl⟩
    unfold skP
    rw [e3.1, e3.2.1, e3.2.2.1, e3.2.2.2, e2.2.2.2.1, e2.2.2.2.2.1, e2.2.2.2.2.2.1, e2.2.2.2.2.2.2]
    rfl
  have hpick : ∃ rest, Pick (skO b s3) (skP b s3 ++ ([Ob.row b7 71 [.int .i64 w.kind, .int .i64 w.level, .func (.func w.take) #[] #[]] 3] ++ pO s.k0 :: pO s.k1 :: [])) rest := by
    refine fin s3 _ _ _ _ ?_ ?_
    · intro l
      rw [hk3.1, hs2]
      rcases two hj with rfl | rfl
      · have : pO s.k0 = pO (KA, Kc, K) := by rw [hK]; rfl
        rw [this]; exact htl l
      · show Take (pO s1.k0) _ _; rw [hs1.k0]; exact .here
    · intro l
      rw [hk3.2, hs2]
      rcases two hj with rfl | rfl
      · show Take (pO s1.k1) _ _; rw [hs1.k1]; exact .here
      · have : pO s.k1 = pO (KA, Kc, K) := by rw [hK]; rfl
        rw [this]; exact htl l
  obtain ⟨rest, hp⟩ := hpick
  rw [← hown] at hp
  refine ⟨skO b s3, rest, _, hp, fun w hw _ => hw, ?_⟩
  rw [hP]
  refine ⟨rfl, s3, rfl, hpu3, fun w hw => hF3 w hw.1 (hf1 w ⟨hw.1, ?_⟩), ⟨by rw [hs3]; show r.length ≤ s.wc - 1; omega⟩⟩
  exact hw.2.2
end Go.Proofs.Yticllmnblcjjcaa
end

section
/- Layer 10: feeding. -/
namespace Go.Proofs.Yticllmnblcjjcaa
open Go.Proofs
set_option maxRecDepth 10000

theorem kepS_set (s : SP) {j : Nat} (hj : j < 2) (b : List UInt8) (r : List Wn) : kepS { setKepS s j b with ws := r } j = b := by rcases two hj with rfl | rfl <;> rfl
theorem nextP_true {s : SP} {j : Nat} (hj : j < 2) (h : (nextP s j).2.1 = true) : (nextP s j).2.2 = 0 ∧ (nextP s j).1.ws.length + 1 = s.ws.length ∧ (kepS (nextP s j).1 j).length ≤ (kepS s j).length := by
  unfold nextP at h ⊢
  split at h
  · cases h
  rename_i h1; rw [if_neg h1]
  split at h
  · cases h
  rename_i w r hws
  simp only at h ⊢
  split at h
  · cases h
  rename_i h2; rw [if_neg h2]
  split at h
  · cases h
  rename_i h3; rw [if_neg h3]
  split at h
  · cases h
  rename_i h4; rw [if_neg h4]
  split at h
  · cases h
  rename_i h5; rw [if_neg h5]
  split at h
  · cases h
  rename_i h6; rw [if_neg h6]
  split at h
  · cases h
  rename_i h7; rw [if_neg h7]
  refine ⟨rfl, ?_, ?_⟩
  · rw [hws]; rfl
  · rw [kepS_set _ hj, List.length_drop]; omega
def FeedTo (b : Nat) (s : Sk) (r : SP × Int) (v : Value) (own : List Ob) (N : Mp) : Prop :=
  v = .int .i64 r.2 ∧ ∃ s', own = skO b s' ∧ pu s' = r.1 ∧ Ent (MpAnd (SkF s) N) (SkF s') ∧ KOk s'
theorem failed_set (b : Nat) (s : Sk) : (skR b s).set (39 + 0) (.bool true) = skR b { s with failed := true } := rfl
theorem ws_setKp (s : Sk) (j : Nat) (p : Piece) : (setKp s j p).ws = s.ws ∧ (setKp s j p).wc = s.wc ∧ (setKp s j p).failed = s.failed := by cases j <;> exact ⟨rfl, rfl, rfl⟩
theorem kp_setKp (s : Sk) {j : Nat} (hj : j < 2) (p : Piece) : kp (setKp s j p) j = p := by rcases two hj with rfl | rfl <;> rfl
theorem skO_take (b : Nat) (s : Sk) {j : Nat} (hj : j < 2) : ∃ t, Take (pO (kp s j)) (skO b s) (skR b s :: t) ∧ ∀ p, ∃ r, Pick (skO b (setKp s j p)) (skR b (setKp s j p) :: pO p :: t) r := by
  rcases two hj with rfl | rfl
  · exact ⟨_, .there .here, fun p => ⟨_, .cons .here (.cons .here (.cons .here Pick.whole))⟩⟩
  · exact ⟨_, .there (.there .here), fun p => ⟨_, .cons .here (.cons (.there .here) (.cons .here Pick.whole))⟩⟩
set_option maxHeartbeats 2000000 in
theorem feed_spec (b : Nat) (s : Sk) (lv : Int) (A : Option Addr) (c : Nat) (data : List UInt8) (G : Mp) (hf : Ent G (SkF s)) (hd : Ent G (RowAt A (Bs data))) (hi : Inv10 (pu s)) (hk : KOk s) (hkl : (kp s lv.toNat).2.2.length + data.length ≤ 1099511627776) :
    Spec Try.prog 36 #[.pointer (some ⟨b, 0, none⟩), .int .i64 lv, .slice A data.length c] (skO b s) G (FeedTo b s (feedP (pu s) lv data)) := by
  refine Spec.introC (args := [_, _, _]) wide Try.func36 rfl Try.call36 (by rfl) (by rfl) [6] (fun w0 hw0 => ?_)
  have stay : ∀ (r : List Ob) (N : Mp), feedP (pu s) lv data = (pu s, 101) → (∃ rest, Pick (skO b s) r rest) → ∃ (own' rest : List Ob) (N' : Mp), Pick own' r rest ∧ (∀ w, N w → Objs rest w → N' w) ∧ FeedTo b s (feedP (pu s) lv data) (.int .i64 101) own' N' :=
    fun r N h ⟨rest, hp⟩ => ⟨skO b s, rest, MT, hp, fun _ _ _ => trivial, by rw [h], s, rfl, by rw [h], fun w hw => hw.1, hk⟩
  have fl : ∀ (r : List Ob) (N : Mp), feedP (pu s) lv data = ({ pu s with failed := true }, 104) → (∃ rest, Pick (skO b { s with failed := true }) r rest) → ∃ (own' rest : List Ob) (N' : Mp), Pick own' r rest ∧ (∀ w, N w → Objs rest w → N' w) ∧ FeedTo b s (feedP (pu s) lv data) (.int .i64 104) own' N' :=
    fun r N h ⟨rest, hp⟩ => ⟨skO b { s with failed := true }, rest, MT, hp, fun _ _ _ => trivial, by rw [h], { s with failed := true }, rfl, by rw [h]; rfl, fun w hw => hw.1, ⟨hk.wc⟩⟩
  refine vcCut_of (fun _ : Unit => [(0, .pointer (some ⟨b, 0, none⟩)), (1, .int .i64 lv), (2, .slice A data.length c)]) (fun _ => skO b s) (fun _ => MT) (fun _ => (lv = 0 ∨ lv = 1) ∧ ¬ (s.failed = true ∨ (s.ws.length = 0 ∧ 0 < data.length))) ?_ ?_
  · have bad : lv ≠ 0 → lv ≠ 1 → feedP (pu s) lv data = (pu s, 101) := fun h1 h2 => if_pos ⟨h1, h2⟩
    have shut : (lv = 0 ∨ lv = 1) → (s.failed = true ∨ (s.ws.length = 0 ∧ 0 < data.length)) → feedP (pu s) lv data = ({ pu s with failed := true }, 104) := fun h1 h2 => by
      unfold feedP
      rw [if_neg (by omega)]
      exact if_pos h2
    refine vcIf_ndec (fun h0 => ?_) (fun h0 => ?_)
    · refine vcIf_ndec (fun h1 => ?_) (fun h1 => ?_)
      · exact stay _ _ (bad h0 h1) ⟨_, Pick.whole⟩
      · have hlv : lv = 0 ∨ lv = 1 := .inr h1
        refine vcLoad1_row (j := 39) (v := .bool s.failed) (xs := skL s) (Ent.gnO .here (fun w hw => Ob.row_at hw)) rfl ?_
        refine vcIf_split (fun hfl => ?_) (fun hfl => ?_)
        · refine vcStore1_eq (skR b s) (skR b { s with failed := true }) _ .here rfl (by show (39 : Nat) < 49; decide) rfl rfl ?_
          exact fl _ _ (shut hlv (.inl hfl)) ⟨_, .cons .here Pick.whole⟩
        · refine vcCall_of .nil (done_spec b s _ (Ent.gnO .here (fun w hw => Ob.row_at hw))) (fun v own' N' hv => ?_); obtain ⟨rfl, rfl, rfl⟩ := hv
          refine vcIf_dec (fun hdn => ?_) (fun hdn => ?_)
          · refine vcIf_dec (fun hlen => ?_) (fun hlen => ?_)
            · refine vcStore1_eq (skR b s) (skR b { s with failed := true }) _ .here rfl (by show (39 : Nat) < 49; decide) rfl rfl ?_
              exact fl _ _ (shut hlv (.inr ⟨hdn, by omega⟩)) ⟨_, .cons .here Pick.whole⟩
            · exact ⟨(), ⟨hlv, fun h => by rcases h with h | h; rw [hfl] at h; cases h; omega⟩, ⟨rfl, rfl, rfl, trivial⟩, ⟨_, Pick.whole⟩, fun _ _ => trivial⟩
          · exact ⟨(), ⟨hlv, fun h => by rcases h with h | h; rw [hfl] at h; cases h; omega⟩, ⟨rfl, rfl, rfl, trivial⟩, ⟨_, Pick.whole⟩, fun _ _ => trivial⟩
    · have hlv : lv = 0 ∨ lv = 1 := .inl h0
      refine vcLoad1_row (j := 39) (v := .bool s.failed) (xs := skL s) (Ent.gnO .here (fun w hw => Ob.row_at hw)) rfl ?_
      refine vcIf_split (fun hfl => ?_) (fun hfl => ?_)
      · refine vcStore1_eq (skR b s) (skR b { s with failed := true }) _ .here rfl (by show (39 : Nat) < 49; decide) rfl rfl ?_
        exact fl _ _ (shut hlv (.inl hfl)) ⟨_, .cons .here Pick.whole⟩
      · refine vcCall_of .nil (done_spec b s _ (Ent.gnO .here (fun w hw => Ob.row_at hw))) (fun v own' N' hv => ?_); obtain ⟨rfl, rfl, rfl⟩ := hv
        refine vcIf_dec (fun hdn => ?_) (fun hdn => ?_)
        · refine vcIf_dec (fun hlen => ?_) (fun hlen => ?_)
          · refine vcStore1_eq (skR b s) (skR b { s with failed := true }) _ .here rfl (by show (39 : Nat) < 49; decide) rfl rfl ?_
            exact fl _ _ (shut hlv (.inr ⟨hdn, by omega⟩)) ⟨_, .cons .here Pick.whole⟩
          · exact ⟨(), ⟨hlv, fun h => by rcases h with h | h; rw [hfl] at h; cases h; omega⟩, ⟨rfl, rfl, rfl, trivial⟩, ⟨_, Pick.whole⟩, fun _ _ => trivial⟩
        · exact ⟨(), ⟨hlv, fun h => by rcases h with h | h; rw [hfl] at h; cases h; omega⟩, ⟨rfl, rfl, rfl, trivial⟩, ⟨_, Pick.whole⟩, fun _ _ => trivial⟩
  · rintro ⟨⟩ ⟨hlv, hno⟩
    obtain ⟨j, rfl, hj⟩ : ∃ j : Nat, lv = j ∧ j < 2 := ⟨lv.toNat, by omega, by omega⟩
    rw [Int.toNat_natCast] at hkl
    have hfeed : feedP (pu s) j data = loopP (s.ws.length + 1) (setKepS (pu s) j (kepS (pu s) j ++ data)) j := by
      unfold feedP
      rw [if_neg (by omega), Int.toNat_natCast]
      exact if_neg hno
    rw [hfeed]
    obtain ⟨⟨KA, Kc, K⟩, hK⟩ : ∃ q, q = kp s j := ⟨_, rfl⟩
    have hkep : kepS (pu s) j = K := by rw [kepS_pu, ← hK]
    rw [← hK] at hkl
    simp only at hkl
    obtain ⟨l1, ht, hpk⟩ := skO_take b s hj
    rw [← hK] at ht
    refine vcDraw_mix [0,1,2,3,4,5,6,7,8,10,11,9,12,13] (RowAt (some ⟨b, 0, none⟩) (skL s)) (by kernel_rfl) (Ent.mem (skO_skR b s) (fun w hw => Ob.row_at hw)) ?_
    refine vcAt_nat j rfl hj ?_
    refine vcLoad1_2 (v := pieceV (KA, Kc, K)) (xs := skL s) Ent.refl (by rw [hK]; exact skL_kp s hj) ?_
    refine vcApp_big (Bs K) _ (Bs data) ht (by rw [Bs_length]; exact (Nat.mul_one _).symm) (by rw [Bs_length]; exact (Nat.mul_one _).symm) (by decide) (Bs_one _) (Ent.gnG hd) (by simp only; omega) (fun A2 c2 hc2 => ?_)
    rw [← Bs_append]
    obtain ⟨s1, hs1⟩ : ∃ s1, s1 = setKp s j (A2, c2, K ++ data) := ⟨_, rfl⟩
    have hlen : K.length + data.length = (K ++ data).length := by rw [List.length_append]
    refine vcMix_same (Ent.gnO (.there .here) (fun w hw => Ob.row_at hw)) ?_
    refine vcAt_nat j rfl hj ?_
    refine vcStore2_eq (skR b s) (skR b s1) _ (.there .here) rfl (by show 37 + j + 0 < 49; omega) rfl (by rw [hs1]; show Ob.row b _ ((skL s).set (37 + j) (.slice A2 (K.length + data.length) c2)) 49 = _; rw [hlen]; exact congrArg (fun l => Ob.row b _ l 49) (skL_setKp s hj (A2, c2, K ++ data))) ?_
    refine vcMix_last (by kernel_rfl) ?_
    obtain ⟨r1, hp1⟩ := hpk (A2, c2, K ++ data)
    rw [← hs1] at hp1
    have e1 := ws_setKp s j (A2, c2, K ++ data)
    rw [← hs1] at e1
    have hpu1 : pu s1 = setKepS (pu s) j (kepS (pu s) j ++ data) := by rw [hs1, pu_setKp, hkep]
    have hkl1 : (kp s1 j).2.2.length ≤ 1099511627776 := by rw [hs1, kp_setKp s hj]; simp only; omega
    have hi1 : Inv10 (pu s1) := by rw [hpu1]; exact setKepS_inv hi j _
    have hF1 : ∀ w, SkF s w → SkF s1 w := fun w h => by rw [hs1]; exact (SkF_setKp j _).2 h
    rw [← hpu1]
    refine vcLoop_of (fun g : Sk => g.ws.length) (fun g => [(0, .pointer (some ⟨b, 0, none⟩)), (1, .int .i64 j)]) (fun g => skO b g) (fun g w => SkF s w → SkF g w)
      (fun g => (∃ n, g.ws.length < n ∧ loopP n (pu g) j = loopP (s.ws.length + 1) (pu s1) j) ∧ Inv10 (pu g) ∧ KOk g ∧ (kp g j).2.2.length ≤ 1099511627776) s1
      ⟨⟨s.ws.length + 1, by rw [e1.1]; omega, rfl⟩, hi1, ⟨by rw [e1.1, e1.2.1]; exact hk.wc⟩, hkl1⟩ ⟨rfl, rfl, trivial⟩ ⟨_, hp1⟩ (fun w _ h => hF1 w h) ?_
    rintro g ⟨⟨n, hn, hloop⟩, hig, hkg, hklg⟩
    refine vcCall_of (A := skO b g) Pick.whole (next10_spec b g j hj _ (fun w hw => hw.1.2 (hf w hw.1.1)) hig hkg hklg) (fun v own' N' hv => ?_)
    obtain ⟨rfl, g', rfl, hpu', hF', hkg'⟩ := hv
    obtain ⟨m, rfl⟩ : ∃ m, n = m + 1 := ⟨n - 1, by omega⟩
    have hun : loopP (m + 1) (pu g) j = if (nextP (pu g) j).2.2 ≠ 0 then ({ (nextP (pu g) j).1 with failed := true }, (nextP (pu g) j).2.2) else if (nextP (pu g) j).2.1 = true then loopP m (nextP (pu g) j).1 j else ((nextP (pu g) j).1, 0) := rfl
    have hinv := nextP_inv hig j
    have htrue := nextP_true (s := pu g) hj
    rw [hun] at hloop
    generalize nextP (pu g) j = T at hpu' hloop hinv htrue ⊢
    obtain ⟨T1, t, e⟩ := T
    simp only at hpu' hloop hinv htrue ⊢
    have hFg : ∀ w, (SkF s w → SkF g w) → N' w → SkF s w → SkF g' w := fun w h1 h2 h3 => hF' w ⟨h1 h3, h2⟩
    refine vcIf_ndec (fun he => ?_) (fun he => ?_)
    · rw [if_pos he] at hloop
      refine vcStore1_eq (skR b g') (skR b { g' with failed := true }) _ .here rfl (by show (39 : Nat) < 49; decide) rfl rfl ?_
      refine ⟨skO b { g' with failed := true }, _, _, .cons .here (by first | exact Pick.front | exact Pick.whole | exact Pick.under (Pick.front) | exact Pick.under (Pick.whole) | exact Pick.under (Pick.under (Pick.front)) | exact Pick.under (Pick.under (Pick.whole)) | exact Pick.under (Pick.under (Pick.under (Pick.front))) | exact Pick.under (Pick.under (Pick.under (Pick.whole))) | exact Pick.under (Pick.under (Pick.under (Pick.under (Pick.front)))) | exact Pick.under (Pick.under (Pick.under (Pick.under (Pick.whole)))) | exact Pick.under (Pick.under (Pick.under (Pick.under (Pick.under (Pick.front))))) | exact Pick.under (Pick.under (Pick.under (Pick.under (Pick.under (Pick.whole))))) | exact Pick.under (Pick.under (Pick.under (Pick.under (Pick.under (Pick.under (Pick.front)))))) | exact Pick.under (Pick.under (Pick.under (Pick.under (Pick.under (Pick.under (Pick.whole)))))) | exact Pick.under (Pick.under (Pick.under (Pick.under (Pick.under (Pick.under (Pick.under (Pick.front))))))) | exact Pick.under (Pick.under (Pick.under (Pick.under (Pick.under (Pick.under (Pick.under (Pick.whole)))))))), fun w hw _ => hw, ?_⟩
      rw [← hloop]
      refine ⟨rfl, _, rfl, ?_, fun w hw => hFg w hw.2.1 hw.2.2 hw.1, ⟨hkg'.wc⟩⟩
      rw [← hpu']; rfl
    · rw [if_neg (fun h => h he)] at hloop
      refine vcIf_split (fun ht' => ?_) (fun ht' => ?_)
      · have htf : t = false := by
          cases t with
          | false => rfl
          | true => cases ht'
        subst htf
        rw [if_neg (by decide)] at hloop
        refine ⟨skO b g', _, _, (by first | exact Pick.front | exact Pick.whole | exact Pick.under (Pick.front) | exact Pick.under (Pick.whole) | exact Pick.under (Pick.under (Pick.front)) | exact Pick.under (Pick.under (Pick.whole)) | exact Pick.under (Pick.under (Pick.under (Pick.front))) | exact Pick.under (Pick.under (Pick.under (Pick.whole))) | exact Pick.under (Pick.under (Pick.under (Pick.under (Pick.front)))) | exact Pick.under (Pick.under (Pick.under (Pick.under (Pick.whole)))) | exact Pick.under (Pick.under (Pick.under (Pick.under (Pick.under (Pick.front))))) | exact Pick.under (Pick.under (Pick.under (Pick.under (Pick.under (Pick.whole))))) | exact Pick.under (Pick.under (Pick.under (Pick.under (Pick.under (Pick.under (Pick.front)))))) | exact Pick.under (Pick.under (Pick.under (Pick.under (Pick.under (Pick.under (Pick.whole)))))) | exact Pick.under (Pick.under (Pick.under (Pick.under (Pick.under (Pick.under (Pick.under (Pick.front))))))) | exact Pick.under (Pick.under (Pick.under (Pick.under (Pick.under (Pick.under (Pick.under (Pick.whole)))))))), fun w hw _ => hw, ?_⟩
        rw [← hloop]
        exact ⟨rfl, g', rfl, hpu', fun w hw => hFg w hw.2.1 hw.2.2 hw.1, hkg'⟩
      · have htt : t = true := nb ht'
        subst htt
        rw [if_pos rfl] at hloop
        obtain ⟨_, hw1, hk1⟩ := htrue rfl
        have hwg : g'.ws.length + 1 = g.ws.length := by rw [← hpu'] at hw1; exact hw1
        have hkk : (kp g' j).2.2.length ≤ (kp g j).2.2.length := by rw [← hpu', kepS_pu, kepS_pu] at hk1; exact hk1
        exact ⟨g', ⟨⟨m, by omega, by rw [hpu']; exact hloop⟩, by rw [hpu']; exact hinv, hkg', by omega⟩, by omega, ⟨rfl, rfl, trivial⟩, ⟨_, (by first | exact Pick.front | exact Pick.whole | exact Pick.under (Pick.front) | exact Pick.under (Pick.whole) | exact Pick.under (Pick.under (Pick.front)) | exact Pick.under (Pick.under (Pick.whole)) | exact Pick.under (Pick.under (Pick.under (Pick.front))) | exact Pick.under (Pick.under (Pick.under (Pick.whole))) | exact Pick.under (Pick.under (Pick.under (Pick.under (Pick.front)))) | exact Pick.under (Pick.under (Pick.under (Pick.under (Pick.whole)))) | exact Pick.under (Pick.under (Pick.under (Pick.under (Pick.under (Pick.front))))) | exact Pick.under (Pick.under (Pick.under (Pick.under (Pick.under (Pick.whole))))) | exact Pick.under (Pick.under (Pick.under (Pick.under (Pick.under (Pick.under (Pick.front)))))) | exact Pick.under (Pick.under (Pick.under (Pick.under (Pick.under (Pick.under (Pick.whole)))))) | exact Pick.under (Pick.under (Pick.under (Pick.under (Pick.under (Pick.under (Pick.under (Pick.front))))))) | exact Pick.under (Pick.under (Pick.under (Pick.under (Pick.under (Pick.under (Pick.under (Pick.whole))))))))⟩, fun w hw => hFg w hw.1 hw.2⟩
end Go.Proofs.Yticllmnblcjjcaa
end

section
/- Layer 10, plain: how the bytes of a flight are cut makes no difference. -/
namespace Go.Proofs.Yticllmnblcjjcaa
open Go.Proofs
set_option maxRecDepth 10000

theorem hear_set (s : SP) (j : Nat) (X : List UInt8) (k : Int) (b : List UInt8) : hearS (setKepS s j X) k b = setKepS (hearS s k b) j X := by cases j <;> rfl
theorem say_set (s : SP) (j : Nat) (X : List UInt8) (k lv : Int) (b : List UInt8) : sayS (setKepS s j X) k lv b = setKepS (sayS s k lv b) j X := by cases j <;> rfl
theorem agree_set (s : SP) (j : Nat) (X : List UInt8) (p : Int) : agreeS (setKepS s j X) p = setKepS (agreeS s p) j X := by cases j <;> rfl
theorem apply_set (s : SP) (j : Nat) (X : List UInt8) : applyS (setKepS s j X) = setKepS (applyS s) j X := by cases j <;> rfl
theorem peer_set (s : SP) (j : Nat) (X : List UInt8) (x : ByteArray) (p : List UInt8) : { setKepS s j X with proto := x, peer := p } = setKepS { s with proto := x, peer := p } j X := by cases j <;> rfl
/-- What of a side does not hang on what it keeps. -/
structure SameK (s t : SP) : Prop where
  ps : t.ps = s.ps
  rnd : t.rnd = s.rnd
  priv : t.priv = s.priv
  par : t.par = s.par
  said : t.said = s.said
  hc : t.hc = s.hc
  hs : t.hs = s.hs
  ws : t.ws = s.ws
theorem sameK (s : SP) (j : Nat) (X : List UInt8) : SameK s (setKepS s j X) := by cases j <;> exact ⟨rfl, rfl, rfl, rfl, rfl, rfl, rfl, rfl⟩
theorem ch1_set (s : SP) (j : Nat) (X body : List UInt8) (x : ByteArray) : ch1 (setKepS s j X) body x = setKepS (ch1 s body x) j X := by unfold ch1; rw [hear_set, peer_set]
theorem ch2_set (s : SP) (j : Nat) (X body : List UInt8) (x : ByteArray) : ch2 (setKepS s j X) body x = setKepS (ch2 s body x) j X := by
  unfold ch2; rw [ch1_set, (sameK s j X).rnd, (sameK s j X).priv, say_set, agree_set]
theorem ch3_set (s : SP) (j : Nat) (X body : List UInt8) (x : ByteArray) : ch3 (setKepS s j X) body x = setKepS (ch3 s body x) j X := by
  unfold ch3; rw [ch2_set, (sameK s j X).par, say_set]
theorem ch4_set (s : SP) (j : Nat) (X body : List UInt8) (x : ByteArray) : ch4 (setKepS s j X) body x = setKepS (ch4 s body x) j X := by
  unfold ch4; rw [ch3_set, (sameK _ j X).said, (sameK _ j X).hs, say_set, apply_set]
theorem takeF_set (f : FuncId) (s : SP) (j : Nat) (X body : List UInt8) : takeF f (setKepS s j X) body = (setKepS (takeF f s body).1 j X, (takeF f s body).2) := by
  have hcs : ∀ sec, checkS (setKepS s j X) body sec = checkS s body sec := fun sec => by unfold checkS; rw [(sameK s j X).said]
  unfold takeF
  split
  · unfold takeCH
    have hp : pickP (setKepS s j X) body = pickP s body := by unfold pickP; rw [(sameK s j X).ps]
    split
    · rw [hp]
      cases pickP s body with
      | none => rfl
      | some x => simp only; rw [ch4_set]
    · rfl
  split
  · unfold takeSH
    split
    · rw [hear_set, agree_set]
    · rfl
  split
  · unfold takeCho
    split
    · rw [(sameK s j X).ps]
      split
      · rw [hear_set, peer_set]
      · rfl
    · rfl
  split
  · unfold takeSF
    rw [(sameK s j X).hs, hcs]
    split
    · rfl
    · rw [hear_set, apply_set, say_set, (sameK _ j X).said, (sameK s j X).hc]
  · unfold takeCF
    rw [(sameK s j X).hc, hcs]
    split
    · rfl
    · rw [hear_set]
theorem kep_same (s : SP) {j : Nat} (hj : j < 2) (X : List UInt8) : kepS (setKepS s j X) j = X := by rcases two hj with rfl | rfl <;> rfl
theorem kep_other (s : SP) {j : Nat} (hj : j < 2) (X : List UInt8) : kepS (setKepS s j X) (1 - j) = kepS s (1 - j) := by rcases two hj with rfl | rfl <;> rfl
theorem set_set (s : SP) (j : Nat) (X Y : List UInt8) : setKepS (setKepS s j X) j Y = setKepS s j Y := by cases j <;> rfl
theorem set_ws (s : SP) (j : Nat) (X : List UInt8) (r : List Wn) : { setKepS s j X with ws := r } = setKepS { s with ws := r } j X := by cases j <;> rfl
theorem set_kep (s : SP) {j : Nat} (hj : j < 2) : setKepS s j (kepS s j) = s := by rcases two hj with rfl | rfl <;> rfl
/-- The next message of a side that keeps K. -/
theorem nextP_set (s : SP) {j : Nat} (hj : j < 2) (K : List UInt8) : nextP (setKepS s j K) j =
    if K.length = 0 then (setKepS s j K, false, 0)
    else match s.ws with
    | [] => (setKepS s j K, false, 104)
    | w :: r =>
      if w.level ≠ (j : Int) ∨ 0 < (kepS s (1 - j)).length then (setKepS s j K, false, 101)
      else if K.length < 4 then (setKepS s j K, false, 0)
      else if 4096 < bodyN K then (setKepS s j K, false, 52)
      else if ((K[0]?.getD 0).toNat : Int) ≠ w.kind then (setKepS s j K, false, 100)
      else if K.length < 4 + bodyN K then (setKepS s j K, false, 0)
      else if (takeF w.take s ((K.drop 4).take (bodyN K))).2 ≠ 0 then (setKepS (takeF w.take s ((K.drop 4).take (bodyN K))).1 j K, false, (takeF w.take s ((K.drop 4).take (bodyN K))).2)
      else (setKepS { (takeF w.take s ((K.drop 4).take (bodyN K))).1 with ws := r } j (K.drop (4 + bodyN K)), true, 0) := by
  unfold nextP
  rw [kep_same s hj, kep_other s hj, setKepS_ws]
  cases s.ws with
  | nil => rfl
  | cons w r =>
    simp only
    rw [takeF_set]
    simp only [set_set, set_ws]
theorem bodyN_app {K : List UInt8} (h : 4 ≤ K.length) (b : List UInt8) : bodyN (K ++ b) = bodyN K := by
  unfold bodyN
  rw [List.getElem?_append_left (by omega), List.getElem?_append_left (by omega), List.getElem?_append_left (by omega)]
/-- More bytes behind: an error stays one; a message that is there whole is taken just so. -/
theorem nextP_err {s : SP} {j : Nat} (hj : j < 2) {K : List UInt8} (b : List UInt8) (h : (nextP (setKepS s j K) j).2.2 ≠ 0) : (nextP (setKepS s j (K ++ b)) j).2.2 ≠ 0 := by
  rw [nextP_set s hj] at h ⊢
  have hl : (K ++ b).length = K.length + b.length := List.length_append
  by_cases h0 : K.length = 0
  · rw [if_pos h0] at h; exact absurd rfl h
  rw [if_neg h0] at h
  rw [if_neg (by omega)]
  cases hw : s.ws with
  | nil => simp
  | cons w r =>
    rw [hw] at h
    simp only at h ⊢
    by_cases h1 : w.level ≠ (j : Int) ∨ 0 < (kepS s (1 - j)).length
    · rw [if_pos h1]; simp
    rw [if_neg h1] at h
    rw [if_neg h1]
    by_cases h2 : K.length < 4
    · rw [if_pos h2] at h; exact absurd rfl h
    rw [if_neg h2] at h
    rw [if_neg (by omega), bodyN_app (by omega)]
    by_cases h3 : 4096 < bodyN K
    · rw [if_pos h3]; simp
    rw [if_neg h3] at h
    rw [if_neg h3, List.getElem?_append_left (by omega)]
    by_cases h4 : ((K[0]?.getD 0).toNat : Int) ≠ w.kind
    · rw [if_pos h4]; simp
    rw [if_neg h4] at h
    rw [if_neg h4]
    by_cases h5 : K.length < 4 + bodyN K
    · rw [if_pos h5] at h; exact absurd rfl h
    rw [if_neg h5] at h
    have hb : ((K ++ b).drop 4).take (bodyN K) = (K.drop 4).take (bodyN K) := by
      rw [List.drop_append_of_le_length (by omega), List.take_append_of_le_length (by rw [List.length_drop]; omega)]
    rw [if_neg (by omega), hb]
    split at h
    · rename_i h6; rw [if_pos h6]; exact h6
    · exact absurd rfl h
theorem nextP_tak {s : SP} {j : Nat} (hj : j < 2) {K : List UInt8} (b : List UInt8) (h : (nextP (setKepS s j K) j).2.1 = true) :
    ∃ s' K', nextP (setKepS s j K) j = (setKepS s' j K', true, 0) ∧ nextP (setKepS s j (K ++ b)) j = (setKepS s' j (K' ++ b), true, 0) ∧ s'.ws.length < s.ws.length := by
  rw [nextP_set s hj] at h ⊢
  rw [nextP_set s hj]
  have hl : (K ++ b).length = K.length + b.length := List.length_append
  by_cases h0 : K.length = 0
  · rw [if_pos h0] at h; cases h
  rw [if_neg h0] at h
  rw [if_neg h0, if_neg (show ¬ (K ++ b).length = 0 by omega)]
  cases hw : s.ws with
  | nil => rw [hw] at h; cases h
  | cons w r =>
    rw [hw] at h
    simp only at h ⊢
    by_cases h1 : w.level ≠ (j : Int) ∨ 0 < (kepS s (1 - j)).length
    · rw [if_pos h1] at h; cases h
    rw [if_neg h1] at h
    rw [if_neg h1, if_neg h1]
    by_cases h2 : K.length < 4
    · rw [if_pos h2] at h; cases h
    rw [if_neg h2] at h
    rw [if_neg h2, if_neg (show ¬ (K ++ b).length < 4 by omega), bodyN_app (by omega)]
    by_cases h3 : 4096 < bodyN K
    · rw [if_pos h3] at h; cases h
    rw [if_neg h3] at h
    rw [if_neg h3, if_neg h3, List.getElem?_append_left (by omega)]
    by_cases h4 : ((K[0]?.getD 0).toNat : Int) ≠ w.kind
    · rw [if_pos h4] at h; cases h
    rw [if_neg h4] at h
    rw [if_neg h4, if_neg h4]
    by_cases h5 : K.length < 4 + bodyN K
    · rw [if_pos h5] at h; cases h
    rw [if_neg h5] at h
    have hb : ((K ++ b).drop 4).take (bodyN K) = (K.drop 4).take (bodyN K) := by
      rw [List.drop_append_of_le_length (by omega), List.take_append_of_le_length (by rw [List.length_drop]; omega)]
    have hd : (K ++ b).drop (4 + bodyN K) = K.drop (4 + bodyN K) ++ b := List.drop_append_of_le_length (by omega)
    rw [if_neg h5, if_neg (show ¬ (K ++ b).length < 4 + bodyN K by omega), hb, hd]
    split at h
    · cases h
    · rename_i h6
      rw [if_neg h6, if_neg h6]
      exact ⟨_, _, rfl, rfl, by simp⟩
theorem loop_fuel : ∀ (n m : Nat) (s : SP) (j : Nat), j < 2 → s.ws.length < n → s.ws.length < m → loopP n s j = loopP m s j
  | 0, _, _, _, _, h, _ => by omega
  | _ + 1, 0, _, _, _, _, h => by omega
  | n + 1, m + 1, s, j, hj, h1, h2 => by
    unfold loopP
    split
    · rfl
    · split
      · rename_i ht
        have := (nextP_true hj ht).2.1
        exact loop_fuel n m _ j hj (by omega) (by omega)
      · rfl
theorem loop_split {j : Nat} (hj : j < 2) (b : List UInt8) : ∀ (n : Nat) (s t : SP) (K : List UInt8), s.ws.length < n → loopP n (setKepS s j (K ++ b)) j = (t, 0) →
    ∃ s1 K1, loopP n (setKepS s j K) j = (setKepS s1 j K1, 0) ∧ s1.ws.length ≤ s.ws.length ∧ loopP n (setKepS s1 j (K1 ++ b)) j = (t, 0)
  | 0, s, _, _, h, _ => by omega
  | n + 1, s, t, K, hn, h => by
    have hun : ∀ K, loopP (n + 1) (setKepS s j K) j = if (nextP (setKepS s j K) j).2.2 ≠ 0 then ({ (nextP (setKepS s j K) j).1 with failed := true }, (nextP (setKepS s j K) j).2.2) else if (nextP (setKepS s j K) j).2.1 = true then loopP n (nextP (setKepS s j K) j).1 j else ((nextP (setKepS s j K) j).1, 0) := fun _ => rfl
    by_cases he : (nextP (setKepS s j K) j).2.2 ≠ 0
    · have h2 := nextP_err hj b he
      rw [hun, if_pos h2] at h
      have := (Prod.mk.injEq .. ▸ h : _ ∧ _).2
      exact absurd this h2
    · by_cases ht : (nextP (setKepS s j K) j).2.1 = true
      · obtain ⟨s', K', e1, e2, hlt⟩ := nextP_tak hj b ht
        rw [hun, e2] at h
        simp only [ne_eq, not_true_eq_false, if_false, if_true] at h
        obtain ⟨s1, K1, h1, hle, h2⟩ := loop_split hj b n s' t K' (by omega) h
        refine ⟨s1, K1, ?_, by omega, ?_⟩
        · rw [hun, e1]; simp only [ne_eq, not_true_eq_false, if_false, if_true]; exact h1
        · rw [← h2]; exact loop_fuel _ _ _ j hj (by rw [setKepS_ws]; omega) (by rw [setKepS_ws]; omega)
      · refine ⟨s, K, ?_, Nat.le_refl _, h⟩
        have hst : (nextP (setKepS s j K) j).1 = setKepS s j K := by
          rw [nextP_set s hj] at he ht ⊢
          split
          · rfl
          · rename_i h0
            rw [if_neg h0] at he ht
            cases hw : s.ws with
            | nil => rfl
            | cons w r =>
              rw [hw] at he ht
              simp only at he ht ⊢
              split
              · rfl
              rename_i h1; rw [if_neg h1] at he ht
              split
              · rfl
              rename_i h2; rw [if_neg h2] at he ht
              split
              · rfl
              rename_i h3; rw [if_neg h3] at he ht
              split
              · rfl
              rename_i h4; rw [if_neg h4] at he ht
              split
              · rfl
              rename_i h5; rw [if_neg h5] at he ht
              split
              · rename_i h6; rw [if_pos h6] at he; exact absurd h6 he
              · rename_i h6; rw [if_neg h6] at ht; exact absurd rfl ht
        rw [hun, if_neg he, if_neg ht, hst]
end Go.Proofs.Yticllmnblcjjcaa
end

section
/- Layer 10, plain: feeding in pieces. -/
namespace Go.Proofs.Yticllmnblcjjcaa
open Go.Proofs
set_option maxRecDepth 10000

/-- What a side becomes that is fed some bytes piece by piece; the greatest error. -/
inductive Feeds (lv : Int) : SP → List UInt8 → SP → Int → Prop
  | nil (s : SP) : Feeds lv s [] s 0
  | cons (s t : SP) (p r : List UInt8) (w : Int) (hp : p ≠ []) (h : Feeds lv (feedP s lv p).1 r t w) : Feeds lv s (p ++ r) t (max (feedP s lv p).2 w)
theorem feeds_nil {lv : Int} {s s' : SP} {d : List UInt8} {w : Int} (H : Feeds lv s d s' w) (hd : d = []) : s' = s ∧ w = 0 := by
  cases H with
  | nil => exact ⟨rfl, rfl⟩
  | cons p r w hp h => exact absurd (List.append_eq_nil_iff.1 hd).1 (by assumption)
theorem takeF_k (f : FuncId) (s : SP) (body : List UInt8) : Kept10 s (takeF f s body).1 := by
  unfold takeF
  split
  · unfold takeCH
    split
    · split
      · exact kept_ch4 _ _ _
      · exact Kept10.refl _
    · exact Kept10.refl _
  split
  · exact (takeSH_kept s body).1
  split
  · exact (takeCho_kept s body).1
  split
  · exact (takeSF_kept s body).1
  · exact (takeCF_kept s body).1
theorem failed_set' (s : SP) (j : Nat) (X : List UInt8) : (setKepS s j X).failed = s.failed := by cases j <;> rfl
theorem nextP_failed (s : SP) {j : Nat} (hj : j < 2) : (nextP s j).1.failed = s.failed := by
  rw [← set_kep s hj, nextP_set s hj]
  have h := (takeF_k · s · |>.failed)
  split
  · rfl
  split
  · rfl
  split
  · rfl
  split
  · rfl
  split
  · rfl
  split
  · rfl
  split
  · rfl
  split
  · rw [failed_set', failed_set']; exact h _ _
  · rw [failed_set', failed_set']; exact h _ _
theorem loop_failed {j : Nat} (hj : j < 2) : ∀ (n : Nat) (s t : SP), loopP n s j = (t, 0) → t.failed = s.failed
  | 0, s, t, h => by have : s = t := congrArg Prod.fst h; rw [this]
  | n + 1, s, t, h => by
    unfold loopP at h
    split at h
    · rename_i he
      have := (Prod.mk.injEq .. ▸ h : _ ∧ _).2
      exact absurd this he
    · split at h
      · rw [loop_failed hj n _ t h]; exact nextP_failed s hj
      · have := (Prod.mk.injEq .. ▸ h : _ ∧ _).1
        rw [← this]; exact nextP_failed s hj
theorem loop_done {j : Nat} (hj : j < 2) {n : Nat} {s t : SP} {K : List UInt8} (hn : 0 < n) (hw : s.ws.length = 0) (hK : K ≠ []) (h : loopP n (setKepS s j K) j = (t, 0)) : False := by
  obtain ⟨m, rfl⟩ : ∃ m, n = m + 1 := ⟨n - 1, by omega⟩
  unfold loopP at h
  have e : nextP (setKepS s j K) j = (setKepS s j K, false, 104) := by
    rw [nextP_set s hj, if_neg (by cases K with | nil => exact absurd rfl hK | cons _ _ => simp), List.eq_nil_of_length_eq_zero hw]
  rw [e] at h
  simp at h
theorem feedP_loop {s : SP} {j : Nat} (hj : j < 2) {p : List UInt8} (hf : s.failed = false) (hw : ¬ (s.ws.length = 0 ∧ 0 < p.length)) {n : Nat} (hn : s.ws.length < n) : feedP s j p = loopP n (setKepS s j (kepS s j ++ p)) j := by
  unfold feedP
  rw [if_neg (by omega), if_neg (by rw [hf]; simpa using hw), Int.toNat_natCast]
  exact loop_fuel _ _ _ j hj (by rw [setKepS_ws]; omega) (by rw [setKepS_ws]; omega)
theorem feeds_ok {j : Nat} (hj : j < 2) {s s' : SP} {d : List UInt8} {w : Int} (H : Feeds j s d s' w) : ∀ {t : SP} {n : Nat}, s.failed = false → s.ws.length < n → d ≠ [] → loopP n (setKepS s j (kepS s j ++ d)) j = (t, 0) → s' = t ∧ w = 0 := by
  induction H with
  | nil s => intro t n _ _ hd; exact absurd rfl hd
  | cons s s' p r w hp H ih =>
    intro t n hf hn hd hl
    have hw : ¬ (s.ws.length = 0 ∧ 0 < p.length) := fun h => loop_done hj (by omega) h.1 (by simp [hp]) hl
    have hfp := feedP_loop hj hf hw hn (p := p)
    rw [← List.append_assoc] at hl
    by_cases hr : r = []
    · subst hr
      rw [List.append_nil] at hl
      rw [hl] at hfp
      obtain ⟨e1, e2⟩ := feeds_nil H rfl
      rw [e1, e2, hfp]; exact ⟨rfl, rfl⟩
    · obtain ⟨s1, K1, h1, hle, h2⟩ := loop_split hj r n s t (kepS s j ++ p) hn hl
      rw [h1] at hfp
      have hf1 : (setKepS s1 j K1).failed = false := by rw [loop_failed hj _ _ _ h1, failed_set']; exact hf
      rw [hfp] at ih ⊢
      obtain ⟨e1, e2⟩ := ih (t := t) (n := n) hf1 (by simp only [setKepS_ws]; omega) hr (by simp only [kep_same s1 hj, set_set]; exact h2)
      exact ⟨e1, by rw [e2]; rfl⟩
theorem msg_get {k : Int} {body : List UInt8} (hl : body.length < 16777216) : (msg k body).length = body.length + 4 ∧ bodyN (msg k body) = body.length ∧ (msg k body)[0]? = some (byteI k) ∧ ((msg k body).drop 4).take body.length = body ∧ (msg k body).drop (4 + body.length) = [] := by
  refine ⟨msg_length k body, ?_, rfl, ?_, ?_⟩
  · unfold bodyN msg
    simp only [List.cons_append, List.getElem?_cons_succ, List.getElem?_cons_zero, Option.getD_some, List.nil_append]
    rw [ofNat_toNat _ (by omega), ofNat_toNat _ (by omega), ofNat_toNat _ (by omega)]
    omega
  · simp [msg]
  · rw [List.drop_eq_nil_of_le]; rw [msg_length]; omega
theorem prefix_facts {k : Int} {body P r : List UInt8} (hl : body.length < 16777216) (h : P ++ r = msg k body) (h4 : 4 ≤ P.length) : bodyN P = body.length ∧ P[0]? = some (byteI k) := by
  obtain ⟨_, h2, h3, _, _⟩ := msg_get (k := k) hl
  rw [← h] at h2 h3
  rw [bodyN_app h4] at h2
  rw [List.getElem?_append_left (by omega)] at h3
  exact ⟨h2, h3⟩
/-- A side that waits for a message of one kind at one level. -/
structure WaitsFor (s : SP) (j : Nat) (k : Int) (f : FuncId) (r : List Wn) : Prop where
  ws : s.ws = ⟨k, j, f⟩ :: r
  other : kepS s (1 - j) = []
  failed : s.failed = false
theorem next_part {s : SP} {j : Nat} (hj : j < 2) {k : Int} {f : FuncId} {r : List Wn} (h : WaitsFor s j k f r) {body P q : List UInt8} (hk : ((byteI k).toNat : Int) = k) (hb : body.length ≤ 4096) (hP : P ++ q = msg k body) (hq : q ≠ []) :
    nextP (setKepS s j P) j = (setKepS s j P, false, 0) := by
  have hl := congrArg List.length hP
  rw [List.length_append, msg_length] at hl
  have hql : 0 < q.length := List.length_pos_iff.2 hq
  rw [nextP_set s hj, h.ws]
  split
  · rfl
  simp only
  rw [if_neg (by rw [h.other]; simp)]
  by_cases h4 : P.length < 4
  · rw [if_pos h4]
  obtain ⟨h1, h2⟩ := prefix_facts (by omega) hP (by omega)
  rw [if_neg h4, h1, h2, if_neg (by omega), if_neg (by simpa using hk), if_pos (by omega)]
theorem next_whole {s : SP} {j : Nat} (hj : j < 2) {k : Int} {f : FuncId} {r : List Wn} (h : WaitsFor s j k f r) {body q : List UInt8} (hk : ((byteI k).toNat : Int) = k) (hb : body.length ≤ 4096) :
    nextP (setKepS s j (msg k body ++ q)) j = if (takeF f s body).2 ≠ 0 then (setKepS (takeF f s body).1 j (msg k body ++ q), false, (takeF f s body).2) else (setKepS { (takeF f s body).1 with ws := r } j q, true, 0) := by
  obtain ⟨h1, h2, h3, h4, h5⟩ := msg_get (k := k) (body := body) (by omega)
  have hl : (msg k body ++ q).length = body.length + 4 + q.length := by rw [List.length_append, h1]
  have hb2 : ((msg k body ++ q).drop 4).take body.length = body := by
    rw [List.drop_append_of_le_length (by omega), List.take_append_of_le_length (by rw [List.length_drop]; omega), h4]
  have hd : (msg k body ++ q).drop (4 + body.length) = q := by rw [List.drop_append_of_le_length (by omega), h5, List.nil_append]
  rw [nextP_set s hj, h.ws, if_neg (by omega)]
  simp only
  rw [if_neg (by rw [h.other]; simp), if_neg (by omega), bodyN_app (by omega), h2, if_neg (by omega), List.getElem?_append_left (by omega), h3, if_neg (by simpa using hk), if_neg (by omega), hb2, hd]
/-- A message that is refused, in pieces. -/
theorem feeds_one {j : Nat} (hj : j < 2) {k : Int} {f : FuncId} {r : List Wn} {body : List UInt8} {e : Int} {s0 : SP} (hk : ((byteI k).toNat : Int) = k) (hb : body.length ≤ 4096) (h0 : WaitsFor s0 j k f r) (he : (takeF f s0 body).2 = e) (hpos : 0 < e)
    {s s' : SP} {d : List UInt8} {w : Int} (H : Feeds j s d s' w) : ∀ {K : List UInt8}, s = setKepS s0 j K → K ++ d = msg k body → d ≠ [] → w = e ∧ s'.ws = s0.ws := by
  induction H with
  | nil s => intro K _ _ hd; exact absurd rfl hd
  | cons s s' p q w hp H ih =>
    intro K hs hK hd
    subst hs
    have hfl : (setKepS s0 j K).failed = false := by rw [failed_set']; exact h0.failed
    have hwl : (setKepS s0 j K).ws.length = r.length + 1 := by rw [setKepS_ws, h0.ws]; rfl
    have hfp := feedP_loop hj hfl (p := p) (by rw [hwl]; omega) (n := r.length + 2) (by omega)
    rw [kep_same s0 hj, set_set] at hfp
    rw [← List.append_assoc] at hK
    by_cases hq : q = []
    · subst hq
      rw [List.append_nil] at hK
      have hn := next_whole hj h0 (q := []) hk hb
      rw [he, if_pos (by omega), List.append_nil, ← hK] at hn
      have hlp : loopP (r.length + 2) (setKepS s0 j (K ++ p)) j = ({ setKepS (takeF f s0 body).1 j (K ++ p) with failed := true }, e) := by
        unfold loopP
        rw [hn]
        exact if_pos (by simp only; omega)
      rw [hlp] at hfp
      obtain ⟨e1, e2⟩ := feeds_nil H rfl
      rw [e1, e2, hfp]
      refine ⟨by simp only; omega, ?_⟩
      show (setKepS (takeF f s0 body).1 j (K ++ p)).ws = _
      rw [setKepS_ws]
      exact (takeF_k f s0 body).ws
    · have hn := next_part hj h0 (P := K ++ p) (q := q) hk hb hK hq
      have hlp : loopP (r.length + 2) (setKepS s0 j (K ++ p)) j = (setKepS s0 j (K ++ p), 0) := by
        unfold loopP
        rw [hn]
        rfl
      rw [hlp] at hfp
      rw [hfp] at ih ⊢
      obtain ⟨e1, e2⟩ := ih (K := K ++ p) rfl hK hq
      exact ⟨by rw [e1]; simp only; omega, e2⟩
end Go.Proofs.Yticllmnblcjjcaa
end

section
/- Layer 10, plain: what is said is read as it was said. -/
namespace Go.Proofs.Yticllmnblcjjcaa
open Go.Proofs
set_option maxRecDepth 10000

theorem agreeN (a b : Nat) : powN (powN 37 b : Nat) a = powN (powN 37 a : Nat) b := by
  have h37 : (37 : Nat) < prm := by decide
  have e1 : ∀ n : Nat, powN 37 n = 37 ^ n % prm := fun n => powN_ok (b := 37) h37
  rw [e1, e1, powN_ok (Nat.mod_lt _ (by decide)), powN_ok (Nat.mod_lt _ (by decide)), ← Nat.pow_mod, ← Nat.pow_mod, ← Nat.pow_mul, ← Nat.pow_mul, Nat.mul_comm]
theorem inv37N : 37 * 2181202846553494278 % prm = 1 := by decide +kernel
theorem pow37N (a : Nat) : 0 < powN 37 a := by
  have h37 : (37 : Nat) < prm := by decide
  rw [show powN 37 a = 37 ^ a % prm from powN_ok (b := 37) h37]
  refine Nat.pos_of_ne_zero fun h => ?_
  have h1 : (37 ^ a * 2181202846553494278 ^ a) % prm = 1 := by
    rw [← Nat.mul_pow, Nat.pow_mod, inv37N, Nat.one_pow]; decide
  rw [Nat.mul_mod, h, Nat.zero_mul, Nat.zero_mod] at h1
  cases h1
theorem okPow {a : Int} (h : 0 ≤ a) : okN (powN 37 a) := by
  obtain ⟨n, rfl⟩ := Int.eq_ofNat_of_zero_le h
  have h1 := pow37N n
  have h2 := powN_lt 37 n
  rw [prm_eq] at h2
  exact ⟨h1, by omega⟩
theorem pubN_pow (a : Int) : pubN (powN 37 a) = (powN 37 a : Nat) := by
  have h2 := powN_lt 37 a
  rw [prm_eq] at h2
  unfold pubN
  rw [Nat.mod_eq_of_lt (by omega)]
theorem agreeI {a b : Int} (ha : 0 ≤ a) (hb : 0 ≤ b) : powN (pubN (powN 37 b)) a = powN (pubN (powN 37 a)) b := by
  obtain ⟨n, rfl⟩ := Int.eq_ofNat_of_zero_le ha
  obtain ⟨m, rfl⟩ := Int.eq_ofNat_of_zero_le hb
  rw [pubN_pow, pubN_pow]
  exact agreeN n m

/-- Reading at a place. -/
theorem rb_at {bs pre x rest : List UInt8} (h : bs = pre ++ (x ++ rest)) : rbytes bs x.length (pre.length, 0) = (x, ((pre ++ x).length, 0)) := by
  subst h
  rw [rbytes_ok (by simp only [List.length_append]; omega), List.drop_left, List.take_left, List.length_append]
theorem rb_one {bs pre rest : List UInt8} {x : UInt8} (h : bs = pre ++ (x :: rest)) : rbyte bs (pre.length, 0) = ((x.toNat : Int), ((pre ++ [x]).length, 0)) := by
  have := rb_at (bs := bs) (pre := pre) (x := [x]) (rest := rest) h
  unfold rbyte
  rw [show (1 : Int) = (([x] : List UInt8).length : Nat) from rfl, this]
theorem short_at {bs pre x rest : List UInt8} (h : bs = pre ++ (txt x ++ rest)) (hx : x.length < 256) : shortR bs (pre.length, 0) = (x, ((pre ++ txt x).length, 0)) := by
  have h1 := rb_one (bs := bs) (pre := pre) (x := UInt8.ofNat (x.length % 256)) (rest := x ++ rest) (by rw [h]; simp [txt])
  have h2 := rb_at (bs := bs) (pre := pre ++ [UInt8.ofNat (x.length % 256)]) (x := x) (rest := rest) (by rw [h]; simp [txt])
  unfold shortR
  rw [h1]
  simp only
  rw [ofNat_toNat _ (by omega), show ((x.length % 256 : Nat) : Int) = (x.length : Nat) from by rw [Nat.mod_eq_of_lt hx], h2]
  simp [txt]
theorem long_at {bs pre x rest : List UInt8} (h : bs = pre ++ (lng x ++ rest)) (hx : x.length < 65536) : longR bs (pre.length, 0) = (x, ((pre ++ lng x).length, 0)) := by
  have h1 := rb_at (bs := bs) (pre := pre) (x := [UInt8.ofNat (x.length / 256 % 256), UInt8.ofNat (x.length % 256)]) (rest := x ++ rest) (by rw [h]; simp [lng])
  have h2 := rb_at (bs := bs) (pre := pre ++ [UInt8.ofNat (x.length / 256 % 256), UInt8.ofNat (x.length % 256)]) (x := x) (rest := rest) (by rw [h]; simp [lng])
  have h1' : rbytes bs 2 (pre.length, 0) = ([UInt8.ofNat (x.length / 256 % 256), UInt8.ofNat (x.length % 256)], ((pre ++ [UInt8.ofNat (x.length / 256 % 256), UInt8.ofNat (x.length % 256)]).length, 0)) := h1
  unfold longR
  rw [h1']
  simp only
  rw [ofNat_toNat _ (by omega), ofNat_toNat _ (by omega), show x.length / 256 % 256 * 256 + x.length % 256 = x.length from by omega, h2]
  simp [lng]
theorem hello_at {bs rest : List UInt8} {r : Nat → UInt8} {a : Int} (h : bs = helloL r a ++ rest) : helloR bs (0, 0) = (powN 37 a, ((helloL r a).length, 0)) := by
  have h2 := powN_lt 37 a
  rw [prm_eq] at h2
  have e1 : rbytes bs 32 (0, 0) = (rn r, ((rn r).length, 0)) := rb_at (bs := bs) (pre := []) (x := rn r) (rest := be 8 (powN 37 a) ++ rest) (by rw [h]; simp [helloL])
  have e2 := rb_at (bs := bs) (pre := rn r) (x := be 8 (powN 37 a)) (rest := rest) (by rw [h]; simp [helloL])
  rw [be_length] at e2
  unfold helloR
  rw [e1]
  simp only
  rw [show (8 : Int) = ((8 : Nat) : Int) from rfl, e2, beval_be]
  simp only [helloL]
  rw [Nat.zero_mul, Nat.zero_add, Nat.mod_eq_of_lt (by rw [show (256 : Nat) ^ 8 = 18446744073709551616 from by decide]; omega)]
theorem strB_of (p : ByteArray) : strB p.data.toList = p := ba_ext (by simp [strB])
theorem protos_at {ps : List ByteArray} {bs pre rest : List UInt8} (h : bs = pre ++ (psL ps ++ rest)) (hp : ∀ p ∈ ps, p.size ≤ 32) : ∀ k ≤ ps.length, protosR bs k (pre.length, 0) = (ps.take k, ((pre ++ psL (ps.take k)).length, 0))
  | 0, _ => by simp [protosR, psL]
  | k + 1, hk => by
    have ih := protos_at h hp k (by omega)
    have h32 := hp ps[k] (List.getElem_mem (by omega))
    have hds : ps[k].data.toList.length = ps[k].size := by rw [Array.length_toList]; rfl
    have hsplit : psL ps = psL (ps.take k) ++ (txt ps[k].data.toList ++ psL (ps.drop (k + 1))) := by
      have e : ps = ps.take k ++ ps[k] :: ps.drop (k + 1) := by rw [← List.drop_eq_getElem_cons (by omega), List.take_append_drop]
      have e2 : psL ps = psL (ps.take k ++ ps[k] :: ps.drop (k + 1)) := congrArg psL e
      rw [e2]
      simp only [psL, List.flatMap_append, List.flatMap_cons]
    have hs := short_at (bs := bs) (pre := pre ++ psL (ps.take k)) (x := ps[k].data.toList) (rest := psL (ps.drop (k + 1)) ++ rest) (by rw [h, hsplit]; simp) (by omega)
    unfold protosR
    rw [ih]
    simp only
    have hsn := psL_snoc (ps := ps) (k := k) (by omega)
    rw [hs, strB_of, hsn, take_snoc_get (by omega)]
    simp only [List.append_assoc]
theorem parse_body {r : Nat → UInt8} {a : Int} {ps : List ByteArray} {par : List UInt8} (hg : goodC a ps par) : parseCH (bodyL r a ps par) = ⟨powN 37 a, ps, par, ((bodyL r a ps par).length, 0)⟩ := by
  obtain ⟨ha, _, ⟨h1, h8, hsz⟩, hpl⟩ := hg
  have e0 : bodyL r a ps par = helloL r a ++ (UInt8.ofNat (ps.length % 256) :: (psL ps ++ lng par)) := by simp [bodyL]
  have eh := hello_at (rest := UInt8.ofNat (ps.length % 256) :: (psL ps ++ lng par)) e0
  have eb := rb_one (bs := bodyL r a ps par) (pre := helloL r a) (x := UInt8.ofNat (ps.length % 256)) (rest := psL ps ++ lng par) e0
  rw [ofNat_toNat _ (by omega), Nat.mod_eq_of_lt (by omega)] at eb
  have ep := protos_at (ps := ps) (bs := bodyL r a ps par) (pre := helloL r a ++ [UInt8.ofNat (ps.length % 256)]) (rest := lng par) (by rw [e0]; simp) (fun p hp => (hsz p hp).2) ps.length (Nat.le_refl _)
  rw [Nat.mod_eq_of_lt (show ps.length < 256 by omega)] at ep
  rw [List.take_length] at ep
  have el := long_at (bs := bodyL r a ps par) (pre := helloL r a ++ [UInt8.ofNat ps.length] ++ psL ps) (x := par) (rest := []) (by unfold bodyL; rw [Nat.mod_eq_of_lt (show ps.length < 256 by omega)]; simp) (by omega)
  unfold parseCH
  rw [eh]
  simp only
  rw [eb]
  simp only
  rw [Int.toNat_natCast, ep]
  simp only
  rw [el]
  simp only [CH.mk.injEq, true_and]
  unfold bodyL
  rw [Nat.mod_eq_of_lt (show ps.length < 256 by omega)]
theorem whole_end (bs : List UInt8) : wholeR bs (bs.length, 0) = true := by simp [wholeR]
theorem good_body {r : Nat → UInt8} {a : Int} {ps : List ByteArray} {par : List UInt8} (hg : goodC a ps par) : goodCH (bodyL r a ps par) := by
  unfold goodCH
  rw [parse_body hg]
  exact ⟨okPow (by have := hg.1; omega), whole_end _, hg.2.2.1, hg.2.2.2⟩
theorem cho_read {x : ByteArray} {par : List UInt8} (hx : x.size ≤ 32) (hp : par.length ≤ 1024) : shortR (choL x par) (0, 0) = (x.data.toList, ((txt x.data.toList).length, 0)) ∧ longR (choL x par) ((txt x.data.toList).length, 0) = (par, ((choL x par).length, 0)) := by
  have hds : x.data.toList.length = x.size := by rw [Array.length_toList]; rfl
  have e : choL x par = txt x.data.toList ++ lng par := by unfold choL txt; rw [byteI_nat, hds]; simp
  constructor
  · exact short_at (bs := choL x par) (pre := []) (x := x.data.toList) (rest := lng par) (by rw [e]; simp) (by omega)
  · have := long_at (bs := choL x par) (pre := txt x.data.toList) (x := par) (rest := []) (by rw [e]; simp) (by omega)
    rw [this, e]
theorem hello_read {r : Nat → UInt8} {a : Int} : helloR (helloL r a) (0, 0) = (powN 37 a, ((helloL r a).length, 0)) := hello_at (rest := []) (by simp)
end Go.Proofs.Yticllmnblcjjcaa
end

section
/- Layer 10, plain: a client and a server meet. -/
namespace Go.Proofs.Yticllmnblcjjcaa
open Go.Proofs
set_option maxRecDepth 10000

def cli0 (r : Nat → UInt8) (a : Int) (p : List ByteArray) (par : List UInt8) (out : List (Int × List UInt8)) : SP := ⟨false, r, a, p, par, wsClient, [], [], false, msg 1 (bodyL r a p par), out, [], [], [], [], [], ⟨#[]⟩, [], false, false⟩
def srv0 (r : Nat → UInt8) (a : Int) (p : List ByteArray) (par : List UInt8) : SP := ⟨true, r, a, p, par, wsServer, [], [], false, [], [], [], [], [], [], [], ⟨#[]⟩, [], false, false⟩
theorem loop_stop {s : SP} {j : Nat} (hj : j < 2) (n : Nat) : loopP (n + 1) (setKepS s j []) j = (setKepS s j [], 0) := by
  have e : nextP (setKepS s j []) j = (setKepS s j [], false, 0) := by rw [nextP_set s hj]; rfl
  unfold loopP
  rw [e]
  rfl
theorem loop_msg {s : SP} {j : Nat} (hj : j < 2) {k : Int} {f : FuncId} {r : List Wn} (h : WaitsFor s j k f r) {body q : List UInt8} (hk : ((byteI k).toNat : Int) = k) (hb : body.length ≤ 4096) (ht : (takeF f s body).2 = 0) (n : Nat) :
    loopP (n + 1) (setKepS s j (msg k body ++ q)) j = loopP n (setKepS { (takeF f s body).1 with ws := r } j q) j := by
  have hn := next_whole hj h (q := q) hk hb
  rw [ht, if_neg (by decide)] at hn
  conv => lhs; unfold loopP
  rw [hn]
  rfl
theorem hear_said (s : SP) (k : Int) (b : List UInt8) : (hearS s k b).said = s.said ++ msg k b := rfl
theorem say_said (s : SP) (k lv : Int) (b : List UInt8) : (sayS s k lv b).said = s.said ++ msg k b := rfl
theorem say_out (s : SP) (k lv : Int) (b : List UInt8) : (sayS s k lv b).out = sayL s.out lv (msg k b) := rfl
/-- What the two have told each other, and their secrets. -/
structure Meet where
  t2 : List UInt8
  root : List UInt8
  t3 : List UInt8
  fin : List UInt8
  t4 : List UInt8
  cfin : List UInt8
def hcS (root : List UInt8) : List UInt8 := secL root (cLab ++ hsLab)
def hsS (root : List UInt8) : List UInt8 := secL root (sLab ++ hsLab)
def meetOf (t1 : List UInt8) (rs : Nat → UInt8) (as_ : Int) (n : Nat) (x : ByteArray) (pars : List UInt8) : Meet :=
  let t2 := t1 ++ msg 2 (helloL rs as_)
  let root := rootL t2 n
  let t3 := t2 ++ msg 8 (choL x pars)
  let fin := prfL t3 (hsS root)
  let t4 := t3 ++ msg 20 fin
  ⟨t2, root, t3, fin, t4, prfL t4 (hcS root)⟩
/-- The server behind the client's hello. -/
theorem srv_ch4 (rs : Nat → UInt8) (as_ : Int) (ps : List ByteArray) (pars body : List UInt8) (x : ByteArray) (M : Meet) (hM : M = meetOf (msg 1 body) rs as_ (powN (pubN (parseCH body).pubn) as_) x pars) :
    ch4 (srv0 rs as_ ps pars) body x = { srv0 rs as_ ps pars with said := M.t4, out := [(0, msg 2 (helloL rs as_)), (1, msg 8 (choL x pars) ++ msg 20 M.fin)], root := M.root, hc := hcS M.root, hs := hsS M.root, ac := secL (appL M.root M.t4) (cLab ++ apLab), as_ := secL (appL M.root M.t4) (sLab ++ apLab), proto := x, peer := (parseCH body).peer, hasH := true, hasA := true } := by
  subst hM
  have h1 : ch1 (srv0 rs as_ ps pars) body x = { srv0 rs as_ ps pars with said := msg 1 body, proto := x, peer := (parseCH body).peer } := rfl
  have h2 : ch2 (srv0 rs as_ ps pars) body x = { srv0 rs as_ ps pars with said := msg 1 body ++ msg 2 (helloL rs as_), out := [(0, msg 2 (helloL rs as_))], root := rootL (msg 1 body ++ msg 2 (helloL rs as_)) (powN (pubN (parseCH body).pubn) as_), hc := hcS (rootL (msg 1 body ++ msg 2 (helloL rs as_)) (powN (pubN (parseCH body).pubn) as_)), hs := hsS (rootL (msg 1 body ++ msg 2 (helloL rs as_)) (powN (pubN (parseCH body).pubn) as_)), proto := x, peer := (parseCH body).peer, hasH := true } := by
    unfold ch2
    rw [h1]
    rfl
  have h3 : ch3 (srv0 rs as_ ps pars) body x = { srv0 rs as_ ps pars with said := msg 1 body ++ msg 2 (helloL rs as_) ++ msg 8 (choL x pars), out := [(0, msg 2 (helloL rs as_)), (1, msg 8 (choL x pars))], root := rootL (msg 1 body ++ msg 2 (helloL rs as_)) (powN (pubN (parseCH body).pubn) as_), hc := hcS (rootL (msg 1 body ++ msg 2 (helloL rs as_)) (powN (pubN (parseCH body).pubn) as_)), hs := hsS (rootL (msg 1 body ++ msg 2 (helloL rs as_)) (powN (pubN (parseCH body).pubn) as_)), proto := x, peer := (parseCH body).peer, hasH := true } := by
    unfold ch3
    rw [h2]
    rfl
  unfold ch4
  rw [h3]
  rfl
def w2 : Wn := ⟨20, 1, fCF⟩
def w3 : Wn := ⟨8, 1, fCho⟩
def w4 : Wn := ⟨20, 1, fSF⟩
def srv1 (rs : Nat → UInt8) (as_ : Int) (ps : List ByteArray) (pars parc : List UInt8) (x : ByteArray) (M : Meet) (out : List (Int × List UInt8)) : SP :=
  { srv0 rs as_ ps pars with ws := [w2], said := M.t4, out := out, root := M.root, hc := hcS M.root, hs := hsS M.root, ac := secL (appL M.root M.t4) (cLab ++ apLab), as_ := secL (appL M.root M.t4) (sLab ++ apLab), proto := x, peer := parc, hasH := true, hasA := true }
def outS (rs : Nat → UInt8) (as_ : Int) (x : ByteArray) (pars : List UInt8) (M : Meet) : List (Int × List UInt8) := [(0, msg 2 (helloL rs as_)), (1, msg 8 (choL x pars) ++ msg 20 M.fin)]
def cli1 (rc : Nat → UInt8) (ac : Int) (pc : List ByteArray) (parc : List UInt8) (M : Meet) : SP :=
  { cli0 rc ac pc parc [] with ws := [w3, w4], said := M.t2, root := M.root, hc := hcS M.root, hs := hsS M.root, hasH := true }
def cli2 (rc : Nat → UInt8) (ac : Int) (pc : List ByteArray) (parc pars : List UInt8) (x : ByteArray) (M : Meet) : SP :=
  { cli1 rc ac pc parc M with ws := [w4], said := M.t3, proto := x, peer := pars }
def cli3 (rc : Nat → UInt8) (ac : Int) (pc : List ByteArray) (parc pars : List UInt8) (x : ByteArray) (M : Meet) (out : List (Int × List UInt8)) : SP :=
  { cli2 rc ac pc parc pars x M with ws := [], said := M.t4 ++ msg 20 M.cfin, out := out, ac := secL (appL M.root M.t4) (cLab ++ apLab), as_ := secL (appL M.root M.t4) (sLab ++ apLab), hasA := true }
theorem byteK {k : Nat} (h : k < 256) : ((byteI (k : Int)).toNat : Int) = k := by rw [byteI_nat, ofNat_toNat _ (by omega)]; omega
theorem bodyL_len {r : Nat → UInt8} {a : Int} {ps : List ByteArray} {par : List UInt8} (hg : goodC a ps par) : (bodyL r a ps par).length ≤ 4096 := by
  obtain ⟨_, _, ⟨_, h8, hsz⟩, hpl⟩ := hg
  have hp : ∀ l : List ByteArray, (∀ p ∈ l, 1 ≤ p.size ∧ p.size ≤ 32) → (psL l).length ≤ 33 * l.length := by
    intro l
    induction l with
    | nil => intro _; simp [psL]
    | cons p r ih =>
      intro h
      have h1 := (h p (List.mem_cons_self ..)).2
      have hds : p.data.toList.length = p.size := by rw [Array.length_toList]; rfl
      have := ih (fun q hq => h q (List.mem_cons_of_mem _ hq))
      simp only [psL, List.flatMap_cons, List.length_append, txt, List.length_cons] at this ⊢
      omega
  have := hp ps hsz
  have hh := helloL_len r a
  unfold bodyL lng
  simp only [List.length_append, List.length_cons, List.length_nil]
  omega
theorem choL_len {x : ByteArray} {par : List UInt8} (hx : x.size ≤ 32) (hp : par.length ≤ 1024) : (choL x par).length ≤ 4096 := by
  have hds : x.data.toList.length = x.size := by rw [Array.length_toList]; rfl
  unfold choL lng
  simp only [List.length_append, List.length_cons, List.length_nil]
  omega
section
variable {rc rs : Nat → UInt8} {ac as_ : Int} {pc ps : List ByteArray} {parc pars : List UInt8} {x : ByteArray} {M : Meet}
theorem sv1 (hc : goodC ac pc parc) (hx : pickP (srv0 rs as_ ps pars) (bodyL rc ac pc parc) = some x) (hM : M = meetOf (msg 1 (bodyL rc ac pc parc)) rs as_ (powN (pubN (powN 37 ac)) as_) x pars) (n : Nat) :
    loopP (n + 2) (setKepS (srv0 rs as_ ps pars) 0 (msg 1 (bodyL rc ac pc parc))) 0 = (srv1 rs as_ ps pars parc x M (outS rs as_ x pars M), 0) := by
  have hp := parse_body (r := rc) hc
  have ht : takeF fCH (srv0 rs as_ ps pars) (bodyL rc ac pc parc) = (ch4 (srv0 rs as_ ps pars) (bodyL rc ac pc parc) x, 0) := by
    rw [takeF_CH]; unfold takeCH; rw [if_pos (good_body hc), hx]
  have hch := srv_ch4 rs as_ ps pars (bodyL rc ac pc parc) x M (by rw [hM, hp])
  have hl := loop_msg (s := srv0 rs as_ ps pars) (j := 0) (by decide) (k := 1) (f := fCH) (r := [w2]) ⟨rfl, rfl, rfl⟩ (body := bodyL rc ac pc parc) (q := []) (byteK (k := 1) (by decide)) (bodyL_len hc) (by rw [ht]) (n + 1)
  rw [List.append_nil] at hl
  rw [hl, ht, loop_stop (by decide) n]
  simp only
  rw [hch, hp]
  rfl
theorem cl1 (hc : goodC ac pc parc) (hs : 1 ≤ as_) (hM : M = meetOf (msg 1 (bodyL rc ac pc parc)) rs as_ (powN (pubN (powN 37 ac)) as_) x pars) (n : Nat) :
    loopP (n + 2) (setKepS (cli0 rc ac pc parc []) 0 (msg 2 (helloL rs as_))) 0 = (cli1 rc ac pc parc M, 0) := by
  have hr : powN (pubN (powN 37 as_)) ac = powN (pubN (powN 37 ac)) as_ := agreeI (by have := hc.1; omega) (by omega)
  have hrd := hello_read (r := rs) (a := as_)
  have hcond : okN (helloR (helloL rs as_) (0, 0)).1 ∧ wholeR (helloL rs as_) (helloR (helloL rs as_) (0, 0)).2 = true := by
    rw [hrd]; exact ⟨okPow (by omega), whole_end _⟩
  have ht : takeF fSH (cli0 rc ac pc parc []) (helloL rs as_) = (agreeS (hearS (cli0 rc ac pc parc []) 2 (helloL rs as_)) (pubN (powN 37 as_)), 0) := by
    rw [takeF_SH]; unfold takeSH; rw [if_pos hcond, hrd]
  have hl := loop_msg (s := cli0 rc ac pc parc []) (j := 0) (by decide) (k := 2) (f := fSH) (r := [w3, w4]) ⟨rfl, rfl, rfl⟩ (body := helloL rs as_) (q := []) (byteK (k := 2) (by decide)) (by rw [helloL_len]; decide) (by rw [ht]) (n + 1)
  rw [List.append_nil] at hl
  rw [hl, ht, loop_stop (by decide) n]
  have e : agreeS (hearS (cli0 rc ac pc parc []) 2 (helloL rs as_)) (pubN (powN 37 as_)) = { cli0 rc ac pc parc [] with said := M.t2, root := M.root, hc := hcS M.root, hs := hsS M.root, hasH := true } := by
    subst hM
    unfold agreeS
    rw [show (hearS (cli0 rc ac pc parc []) 2 (helloL rs as_)).priv = ac from rfl, hr]
    rfl
  rw [e]
  rfl
theorem cl2 (hx : x ∈ pc) (hg : goodL pc) (hp : pars.length ≤ 1024) (hM : M = meetOf (msg 1 (bodyL rc ac pc parc)) rs as_ (powN (pubN (powN 37 ac)) as_) x pars) (n : Nat) :
    loopP (n + 3) (setKepS (cli1 rc ac pc parc M) 1 (msg 8 (choL x pars) ++ msg 20 M.fin)) 1 = (cli3 rc ac pc parc pars x M [(1, msg 20 M.cfin)], 0) := by
  have hxs := hg.2.2 x hx
  obtain ⟨h1, h2⟩ := cho_read (x := x) (par := pars) hxs.2 hp
  have ht : takeF fCho (cli1 rc ac pc parc M) (choL x pars) = ({ hearS (cli1 rc ac pc parc M) 8 (choL x pars) with proto := x, peer := pars }, 0) := by
    rw [takeF_Cho]
    unfold takeCho
    rw [h1]
    simp only
    rw [h2]
    simp only
    have hany : ((cli1 rc ac pc parc M).ps.any fun y => decide (x = y)) = true := List.any_eq_true.2 ⟨x, hx, decide_eq_true rfl⟩
    rw [strB_of, if_pos ⟨whole_end _, hp, by simp, by simp, fun p hp' => by obtain rfl := List.mem_singleton.1 hp'; exact hxs⟩, if_pos hany]
  have hl := loop_msg (s := cli1 rc ac pc parc M) (j := 1) (by decide) (k := 8) (f := fCho) (r := [w4]) ⟨rfl, rfl, rfl⟩ (body := choL x pars) (q := msg 20 M.fin) (byteK (k := 8) (by decide)) (choL_len hxs.2 hp) (by rw [ht]) (n + 2)
  rw [hl, ht]
  simp only
  have e2 : { hearS (cli1 rc ac pc parc M) 8 (choL x pars) with proto := x, peer := pars, ws := [w4] } = cli2 rc ac pc parc pars x M := by
    subst hM
    rfl
  rw [e2]
  have hfin : M.fin = prfL M.t3 (hsS M.root) := by subst hM; rfl
  have hfl : M.fin.length = 16 := by rw [hfin]; exact prfL_len _ _
  have hck : checkS (cli2 rc ac pc parc pars x M) M.fin (cli2 rc ac pc parc pars x M).hs = 0 := by
    unfold checkS
    rw [if_neg (by omega), if_neg (fun h => h hfin)]
  have ht2 : takeF fSF (cli2 rc ac pc parc pars x M) M.fin = (sayS (applyS (hearS (cli2 rc ac pc parc pars x M) 20 M.fin)) 20 1 (prfL (hearS (cli2 rc ac pc parc pars x M) 20 M.fin).said (cli2 rc ac pc parc pars x M).hc), 0) := by
    rw [takeF_SF]; unfold takeSF; rw [hck, if_neg (fun h => h rfl)]
  have hl2 := loop_msg (s := cli2 rc ac pc parc pars x M) (j := 1) (by decide) (k := 20) (f := fSF) (r := []) ⟨rfl, rfl, rfl⟩ (body := M.fin) (q := []) (byteK (k := 20) (by decide)) (by omega) (by rw [ht2]) (n + 1)
  rw [List.append_nil] at hl2
  rw [hl2, ht2, loop_stop (by decide) n]
  simp only
  have e3 : { sayS (applyS (hearS (cli2 rc ac pc parc pars x M) 20 M.fin)) 20 1 (prfL (hearS (cli2 rc ac pc parc pars x M) 20 M.fin).said (cli2 rc ac pc parc pars x M).hc) with ws := [] } = cli3 rc ac pc parc pars x M [(1, msg 20 M.cfin)] := by
    subst hM
    rfl
  rw [e3]
  rfl
theorem sv2 (hM : M = meetOf (msg 1 (bodyL rc ac pc parc)) rs as_ (powN (pubN (powN 37 ac)) as_) x pars) (n : Nat) :
    loopP (n + 2) (setKepS (srv1 rs as_ ps pars parc x M []) 1 (msg 20 M.cfin)) 1 = ({ srv1 rs as_ ps pars parc x M [] with ws := [], said := M.t4 ++ msg 20 M.cfin }, 0) := by
  have hfin : M.cfin = prfL M.t4 (hcS M.root) := by subst hM; rfl
  have hfl : M.cfin.length = 16 := by rw [hfin]; exact prfL_len _ _
  have hck : checkS (srv1 rs as_ ps pars parc x M []) M.cfin (srv1 rs as_ ps pars parc x M []).hc = 0 := by
    unfold checkS
    rw [if_neg (by omega), if_neg (fun h => h hfin)]
  have ht : takeF fCF (srv1 rs as_ ps pars parc x M []) M.cfin = (hearS (srv1 rs as_ ps pars parc x M []) 20 M.cfin, 0) := by
    rw [takeF_CF]; unfold takeCF; rw [hck, if_neg (fun h => h rfl)]
  have hl := loop_msg (s := srv1 rs as_ ps pars parc x M []) (j := 1) (by decide) (k := 20) (f := fCF) (r := []) ⟨rfl, rfl, rfl⟩ (body := M.cfin) (q := []) (byteK (k := 20) (by decide)) (by omega) (by rw [ht]) (n + 1)
  rw [List.append_nil] at hl
  rw [hl, ht, loop_stop (by decide) n]
  rfl
end
end Go.Proofs.Yticllmnblcjjcaa
end

section
/- Layer 10: what one side says, fed to the other one in pieces. -/
namespace Go.Proofs.Yticllmnblcjjcaa
open Go.Proofs
set_option maxRecDepth 10000

theorem Feeds.nn {lv : Int} {s t : SP} {d : List UInt8} {w : Int} (h : Feeds lv s d t w) : 0 ≤ w := by
  induction h with
  | nil => exact Int.le_refl _
  | cons _ _ _ _ _ _ _ ih => omega
theorem Feeds.snoc {lv : Int} {s t : SP} {d : List UInt8} {w : Int} (h : Feeds lv s d t w) {p : List UInt8} (hp : p ≠ []) : Feeds lv s (d ++ p) (feedP t lv p).1 (max w (feedP t lv p).2) := by
  induction h with
  | nil s =>
    have := Feeds.cons (lv := lv) s _ p [] 0 hp (.nil _)
    rw [List.append_nil] at this
    rw [List.nil_append, Int.max_comm]
    exact this
  | cons s t q r w hq h ih =>
    have := Feeds.cons s _ q _ _ hq ih
    rw [← Int.max_assoc] at this
    rw [List.append_assoc]
    exact this
inductive FeedsL : SP → List (Int × List UInt8) → SP → Int → Prop
  | nil (s : SP) : FeedsL s [] s 0
  | snoc {s t u : SP} {l : List (Int × List UInt8)} {w v : Int} (f : Int × List UInt8) (h : FeedsL s l t w) (k : Feeds f.1 t f.2 u v) : FeedsL s (l ++ [f]) u (max w v)
theorem FeedsL.nn {s t : SP} {l : List (Int × List UInt8)} {w : Int} (h : FeedsL s l t w) : 0 ≤ w := by
  induction h with
  | nil => exact Int.le_refl _
  | snoc f h k ih => have := k.nn; omega
/-- What is kept grows by no more than what is fed. -/
def kl (s : SP) : Nat := s.k0.length + s.k1.length
theorem kl_set (s : SP) {j : Nat} (hj : j < 2) (X : List UInt8) : kl (setKepS s j X) + (kepS s j).length = kl s + X.length := by
  rcases two hj with rfl | rfl <;> (simp only [kl, setKepS, kepS]; omega)
theorem kl_ws (s : SP) (r : List Wn) : kl { s with ws := r } = kl s := rfl
theorem nextP_kl (s : SP) {j : Nat} (hj : j < 2) : kl (nextP s j).1 ≤ kl s := by
  have hk : ∀ f body, kl (takeF f s body).1 = kl s ∧ (kepS (takeF f s body).1 j) = kepS s j := fun f body => by
    have := takeF_k f s body
    refine ⟨by unfold kl; rw [this.k0, this.k1], ?_⟩
    rcases two hj with rfl | rfl
    · exact this.k0
    · exact this.k1
  unfold nextP
  split
  · exact Nat.le_refl _
  split
  · exact Nat.le_refl _
  split
  · exact Nat.le_refl _
  split
  · exact Nat.le_refl _
  split
  · exact Nat.le_refl _
  split
  · exact Nat.le_refl _
  split
  · exact Nat.le_refl _
  split
  · exact Nat.le_of_eq (hk _ _).1
  · rename_i w r _ _ _ _ _ _ _
    have h1 := hk w.take (((kepS s j).drop 4).take (bodyN (kepS s j)))
    have h2 := kl_set (takeF w.take s (((kepS s j).drop 4).take (bodyN (kepS s j)))).1 hj ((kepS s j).drop (4 + bodyN (kepS s j)))
    rw [h1.1, h1.2, List.length_drop] at h2
    show kl (setKepS _ j _) ≤ _
    omega
theorem loop_kl {j : Nat} (hj : j < 2) : ∀ (n : Nat) (s : SP), kl (loopP n s j).1 ≤ kl s
  | 0, _ => Nat.le_refl _
  | n + 1, s => by
    have h1 := nextP_kl s hj
    unfold loopP
    split
    · exact h1
    · split
      · exact Nat.le_trans (loop_kl hj n _) h1
      · exact h1
theorem feedP_kl (s : SP) (lv : Int) (p : List UInt8) : kl (feedP s lv p).1 ≤ kl s + p.length := by
  unfold feedP
  split
  · simp only; omega
  · split
    · exact Nat.le_add_right _ _
    · have hj : lv.toNat < 2 := by omega
      have h1 := loop_kl hj (s.ws.length + 1) (setKepS s lv.toNat (kepS s lv.toNat ++ p))
      have h2 := kl_set s hj (kepS s lv.toNat ++ p)
      rw [List.length_append] at h2
      omega
theorem loop_inv {j : Nat} : ∀ (n : Nat) (s : SP), Inv10 s → Inv10 (loopP n s j).1
  | 0, _, h => h
  | n + 1, s, h => by
    have h1 := nextP_inv h j
    unfold loopP
    split
    · exact ⟨⟨h1.ok.priv, h1.ok.ps, h1.ok.par, h1.ok.root, h1.ok.hc, h1.ok.hs⟩, h1.ps, h1.sz, h1.ws⟩
    · split
      · exact loop_inv n _ h1
      · exact h1
theorem feedP_inv {s : SP} (h : Inv10 s) (lv : Int) (p : List UInt8) : Inv10 (feedP s lv p).1 := by
  unfold feedP
  split
  · exact h
  · split
    · exact ⟨⟨h.ok.priv, h.ok.ps, h.ok.par, h.ok.root, h.ok.hc, h.ok.hs⟩, h.ps, h.sz, h.ws⟩
    · exact loop_inv _ _ (setKepS_inv h _ _)
/-- A side's flights, as they are handed out. -/
def FlF (oA : Option Addr) (out : List Fl) : Mp := fun w => RowAt oA (flL out) w ∧ ∀ f ∈ out, RowAt f.2.1 (Bs f.2.2.2) w
theorem outF_spec (b : Nat) (s : Sk) (G : Mp) : Spec Try.prog 21 #[.pointer (some ⟨b, 0, none⟩)] (skO b s) G (fun v own N => v = .slice s.oA s.out.length s.oc ∧ own = skO b { s with oA := none, oc := 0, out := [] } ∧ Ent N (FlF s.oA s.out)) :=
  (out_spec b s G).drop fun v own N hv => by
    obtain ⟨rfl, rfl, rfl⟩ := hv
    refine ⟨_, _, FlF s.oA s.out, rfl, fun w _ ho => ⟨Ob.sl_at (ho _ (List.mem_cons_self ..)), fun f hf => Ob.sl_at (ho (pO f.2) (List.mem_cons_of_mem _ (List.mem_map.2 ⟨f, hf, rfl⟩)))⟩, rfl, rfl, Ent.refl⟩
theorem Pick.swap {s r : List Ob} {o : Ob} : ∃ q, Pick (s ++ o :: r) (o :: (s ++ r)) q := by
  obtain ⟨q, h, _⟩ := Pick.perm (s := s ++ o :: r) (l := o :: (s ++ r)) (r := []) (by rw [List.append_nil]; exact List.perm_middle)
  exact ⟨q, h⟩
def totL (out : List Fl) : Nat := (out.map fun f => f.2.2.2.length).sum
theorem Pick.rid {s r : List Ob} {o : Ob} : ∃ q, Pick (s ++ r) (s ++ o :: r) q := by
  obtain ⟨q, h, _⟩ := Pick.perm (s := s ++ r) (l := s ++ o :: r) (r := [o]) (by rw [List.append_assoc]; exact List.Perm.append_left _ List.perm_append_comm)
  exact ⟨q, h⟩
theorem totL_app (a b : List Fl) : totL (a ++ b) = totL a + totL b := by unfold totL; rw [List.map_append, List.sum_append]
theorem totL_split (l : List Fl) (k : Nat) : totL l = totL (l.take k) + totL (l.drop k) := by rw [← totL_app, List.take_append_drop]
theorem max_if (x y : Int) : (if x < y then y else x) = max x y := by split <;> omega
theorem kp_kl (s : Sk) {j : Nat} (hj : j < 2) : (kp s j).2.2.length ≤ kl (pu s) := by
  rcases two hj with rfl | rfl
  · exact Nat.le_add_right _ _
  · exact Nat.le_add_left _ _
def PassTo (bf bt : Nat) (sf st : Sk) (at0 : Int) (v : Value) (own : List Ob) (N : Mp) : Prop :=
  ∃ st' w at_, v = .tuple #[.int .i64 w, .int .i64 at_] ∧ own = skO bt st' ++ skO bf { sf with oA := none, oc := 0, out := [] } ∧ Ent (MpAnd (SkF st) N) (SkF st') ∧ FeedsL (pu st) (outs sf.out) (pu st') w ∧ Inv10 (pu st') ∧ KOk st' ∧ 0 ≤ at_ ∧ at_ ≤ at0 + totL sf.out ∧ kl (pu st') ≤ kl (pu st) + totL sf.out
set_option maxHeartbeats 2000000 in
theorem pass_spec (bf bt : Nat) (sf st : Sk) (cA : Option Addr) (cc : Nat) (cuts : List Int) (at0 : Int) (G : Mp) (hft : Ent G (SkF st)) (hcu : Ent G (RowAt cA (cuts.map (Value.int .i64)))) (h0 : 0 ≤ at0) (h1 : at0 ≤ 1000000000000000) (hi : Inv10 (pu st)) (hk : KOk st)
    (hkl : kl (pu st) + totL sf.out ≤ 1000000000000) (hol : sf.out.length ≤ 1000000000000) :
    Spec Try.prog 11 #[.pointer (some ⟨bf, 0, none⟩), .pointer (some ⟨bt, 0, none⟩), .slice cA cuts.length cc, .int .i64 at0] (skO bt st ++ skO bf sf) G (PassTo bf bt sf st at0) := by
  refine Spec.introC (args := [_, _, _, _]) wide Try.func11 rfl Try.call11 (by rfl) (by rfl) [9] (fun w0 hw0 => ?_)
  have hcap : ∀ f ∈ sf.out, f.2.2.2.length ≤ f.2.2.1 := fun f hf => by
    have := Ob.sl_len (hw0.objs (pO f.2) (List.mem_append_right _ (by simp only [skO, List.mem_cons]; exact .inr (.inr (.inr (.inr (.inr (List.mem_map.2 ⟨f, hf, rfl⟩))))))))
    simpa [Bs_length] using this
  obtain ⟨rr, hrr⟩ : ∃ r, Pick (skO bf sf) (skO bt st ++ skO bf sf) r ∧ (skO bt st).Perm r := by
    obtain ⟨r, h, hp⟩ := Pick.perm (s := skO bf sf) (l := skO bt st ++ skO bf sf) (r := skO bt st) List.perm_append_comm
    exact ⟨r, h, hp⟩
  refine vcCall_of hrr.1 (outF_spec bf sf _) (fun v own' N1 hv => ?_)
  obtain ⟨rfl, rfl, hN1⟩ := hv
  obtain ⟨sf', hsf'⟩ : ∃ x, x = { sf with oA := none, oc := 0, out := [] } := ⟨_, rfl⟩
  unfold PassTo
  rw [← hsf']
  obtain ⟨out, hout⟩ : ∃ x, x = sf.out := ⟨_, rfl⟩
  rw [← hout] at hN1 hol hkl hcap ⊢
  have tot_take : ∀ k ≤ out.length, totL (out.take k) ≤ totL out := fun k _ => by
    have : totL out = totL (out.take k) + totL (out.drop k) := totL_split out k
    omega
  have hstart : ∃ rest, Pick (skO bt st ++ skO bf sf') (skO bf sf' ++ rr) rest := by
    obtain ⟨r, h, _⟩ := Pick.perm (s := skO bt st ++ skO bf sf') (l := skO bf sf' ++ rr) (r := []) (by rw [List.append_nil]; exact List.perm_append_comm.trans (List.Perm.append_left _ hrr.2))
    exact ⟨r, h⟩
  refine vcLoop_of (fun g : Nat × Sk × Int × Int => out.length - g.1) (fun g => [(1, .pointer (some ⟨bt, 0, none⟩)), (2, .slice cA cuts.length cc), (3, .int .i64 g.2.2.2), (10, .int .i64 g.2.2.1), (15, .slice sf.oA out.length sf.oc), (16, .int .i64 out.length), (17, .int .i64 g.1)])
    (fun g => skO bt g.2.1 ++ skO bf sf') (fun g w => FlF sf.oA out w ∧ (SkF st w → SkF g.2.1 w))
    (fun g => g.1 ≤ out.length ∧ FeedsL (pu st) (outs (out.take g.1)) (pu g.2.1) g.2.2.1 ∧ Inv10 (pu g.2.1) ∧ KOk g.2.1 ∧ 0 ≤ g.2.2.2 ∧ g.2.2.2 ≤ at0 + totL (out.take g.1) ∧ kl (pu g.2.1) ≤ kl (pu st) + totL (out.take g.1)) (0, st, 0, at0)
    ⟨Nat.zero_le _, .nil _, hi, hk, h0, by simp [totL], by simp [totL]⟩ ⟨rfl, rfl, rfl, rfl, rfl, rfl, rfl, trivial⟩ hstart (fun w hw => ⟨hN1 w hw.2, id⟩) ?_
  rintro ⟨k, s1, w1, at1⟩ ⟨hkk, hfd, hi1, hk1, ha0, ha1, hkl1⟩
  simp only at hkk hfd hi1 hk1 ha0 ha1 hkl1 ⊢
  refine vcIf_dec (fun hlt => ?_) (fun hge => ?_)
  · have hk' : k < out.length := by omega
    obtain ⟨⟨lv, A, c, d⟩, hf⟩ : ∃ f, f = out[k] := ⟨_, rfl⟩
    have hfm : (lv, (A, c, d)) ∈ out := by rw [hf]; exact List.getElem_mem hk'
    have hdc : d.length ≤ c := hcap _ hfm
    have hts : totL (out.take (k + 1)) = totL (out.take k) + d.length := by rw [take_snoc_get hk', totL_app, ← hf]; simp [totL]
    have htt := tot_take (k + 1) (by omega)
    refine vcIdx_nats (s := 2) k rfl (fun w hw => hw.1.2.1.1) hk' (by rw [flL_len]; exact Nat.le_refl _) (by decide) (fun fa hfa => ?_)
    have hg0 := flL_get0 (l := out) hk'
    have hg1 := flL_get1 (l := out) hk'
    rw [← hf] at hg0 hg1
    refine vcLoadN_at (j := k * 2) [.int .i64 lv, pieceV (A, c, d)] (fun w hw => by rw [← hfa]; exact hw.1.2.1.1) rfl rfl (fun i hi => by match i, hi with | 0, _ => exact hg0 | 1, _ => exact hg1) ?_
    intro b12
    refine ⟨rfl, vcStoreN_row (vs := [.int .i64 lv, pieceV (A, c, d)]) _ .here rfl (two_one rfl rfl) ?_⟩
    obtain ⟨q0, hq0⟩ := Pick.swap (s := skO bt s1) (r := skO bf sf') (o := .row b12 56 [.int .i64 lv, pieceV (A, c, d)] 2)
    refine vcLoop_of (fun g : Sk × Piece × Int × Int => g.2.1.2.2.length) (fun g => [(1, .pointer (some ⟨bt, 0, none⟩)), (2, .slice cA cuts.length cc), (3, .int .i64 g.2.2.2), (10, .int .i64 (max w1 g.2.2.1)), (12, .pointer (some ⟨b12, 0, none⟩)), (15, .slice sf.oA out.length sf.oc), (16, .int .i64 out.length), (17, .int .i64 k)])
      (fun g => skO bt g.1 ++ .row b12 56 [.int .i64 lv, pieceV g.2.1] 2 :: skO bf sf') (fun g w => FlF sf.oA out w ∧ (SkF st w → SkF g.1 w) ∧ RowAt g.2.1.1 (Bs g.2.1.2.2) w)
      (fun g => (∃ pre, pre ++ g.2.1.2.2 = d ∧ Feeds lv (pu s1) pre (pu g.1) g.2.2.1 ∧ g.2.2.2 ≤ at1 + pre.length ∧ kl (pu g.1) ≤ kl (pu s1) + pre.length) ∧ Inv10 (pu g.1) ∧ KOk g.1 ∧ 0 ≤ g.2.2.2 ∧ g.2.1.2.2.length ≤ g.2.1.2.1) (s1, (A, c, d), 0, at1)
      ⟨⟨[], rfl, .nil _, by simp, by simp⟩, hi1, hk1, ha0, hdc⟩ ⟨rfl, rfl, rfl, ?_, rfl, rfl, rfl, rfl, trivial⟩ ⟨_, hq0⟩ (fun w hw => ⟨hw.1, hw.2, hw.1.2 _ hfm⟩) ?_
    · have := hfd.nn
      show some (Value.int .i64 w1) = some (Value.int .i64 (max w1 0))
      rw [Int.max_eq_left this]
    rintro ⟨s2, ⟨A2, c2, r⟩, w2, at2⟩ ⟨⟨pre, hpre, hfe, hat2, hkl2⟩, hi2, hk2, hat0, hrc⟩
    simp only at hpre hfe hat2 hkl2 hi2 hk2 hat0 hrc ⊢
    have hrow : ∀ (N : Mp), Ent (GN G (skO bt s2 ++ .row b12 56 [.int .i64 lv, pieceV (A2, c2, r)] 2 :: skO bf sf') N) (RowAt (some ⟨b12, 0, none⟩) [.int .i64 lv, pieceV (A2, c2, r)]) := fun N => Ent.mem (o := .row b12 56 [.int .i64 lv, pieceV (A2, c2, r)] 2) (List.mem_append_right _ (List.mem_cons_self ..)) (fun w hw => Ob.row_at hw)
    have hlen := congrArg List.length hpre
    rw [List.length_append] at hlen
    refine vcLoad1_row (j := 1) (v := pieceV (A2, c2, r)) (hrow _) rfl ?_
    refine vcIf_dec (fun hpos => ?_) (fun hnil => ?_)
    · simp only at hpos
      refine vcLoad1_row (j := 1) (v := pieceV (A2, c2, r)) (hrow _) rfl ?_
      have hgi : ∀ i, i < cuts.length → ∀ v, cuts[i]? = some v → (cuts.map (Value.int .i64))[i]? = some (.int .i64 v) := fun i hi v hv => by rw [List.getElem?_map, hv]; rfl
      refine vcCut_of (fun m : Nat => [(1, .pointer (some ⟨bt, 0, none⟩)), (2, .slice cA cuts.length cc), (3, .int .i64 at2), (10, .int .i64 (max w1 w2)), (12, .pointer (some ⟨b12, 0, none⟩)), (13, .int .i64 m), (15, .slice sf.oA out.length sf.oc), (16, .int .i64 out.length), (17, .int .i64 k)])
        (fun _ => skO bt s2 ++ .row b12 56 [.int .i64 lv, pieceV (A2, c2, r)] 2 :: skO bf sf') (fun _ w => FlF sf.oA out w ∧ (SkF st w → SkF s2 w) ∧ RowAt A2 (Bs r) w) (fun m => 0 < m ∧ m ≤ r.length) ?_ ?_
      · have stay : ∀ (fm : Fm) (N : Mp), fmLe [(1, .pointer (some ⟨bt, 0, none⟩)), (2, .slice cA cuts.length cc), (3, .int .i64 at2), (10, .int .i64 (max w1 w2)), (12, .pointer (some ⟨b12, 0, none⟩)), (13, .int .i64 r.length), (15, .slice sf.oA out.length sf.oc), (16, .int .i64 out.length), (17, .int .i64 k)] fm → Ent N (fun w => FlF sf.oA out w ∧ (SkF st w → SkF s2 w) ∧ RowAt A2 (Bs r) w) →
          ∃ g : Nat, (0 < g ∧ g ≤ r.length) ∧ fmLe [(1, .pointer (some ⟨bt, 0, none⟩)), (2, .slice cA cuts.length cc), (3, .int .i64 at2), (10, .int .i64 (max w1 w2)), (12, .pointer (some ⟨b12, 0, none⟩)), (13, .int .i64 g), (15, .slice sf.oA out.length sf.oc), (16, .int .i64 out.length), (17, .int .i64 k)] fm ∧ (∃ rest, Pick (skO bt s2 ++ .row b12 56 [.int .i64 lv, pieceV (A2, c2, r)] 2 :: skO bf sf') (skO bt s2 ++ .row b12 56 [.int .i64 lv, pieceV (A2, c2, r)] 2 :: skO bf sf') rest) ∧ Ent N (fun w => FlF sf.oA out w ∧ (SkF st w → SkF s2 w) ∧ RowAt A2 (Bs r) w) :=
          fun fm N h1 h2 => ⟨r.length, ⟨by omega, Nat.le_refl _⟩, h1, ⟨_, Pick.whole⟩, h2⟩
        refine vcIf_dec (fun hc => ?_) (fun hc => ?_)
        · obtain ⟨i, rfl⟩ := Int.eq_ofNat_of_zero_le hat0
          have hic : i < cuts.length := by omega
          have hci : (cuts.map (Value.int .i64))[i]? = some (.int .i64 cuts[i]) := hgi i hic _ (List.getElem?_eq_getElem hic)
          refine vcIdx_nat i rfl (Ent.gnG hcu) hic (by rw [List.length_map]; exact Nat.le_refl _) (fun ca hca => ?_)
          refine vcLoad1_row (xs := cuts.map (Value.int .i64)) (Ent.gnG (by rw [← hca]; exact hcu)) hci ?_
          refine vcIf_dec (fun hc1 => ?_) (fun hc1 => ?_)
          · refine vcIdx_nat i rfl (Ent.gnG hcu) hic (by rw [List.length_map]; exact Nat.le_refl _) (fun ca2 hca2 => ?_)
            refine vcLoad1_row (xs := cuts.map (Value.int .i64)) (Ent.gnG (by rw [← hca2]; exact hcu)) hci ?_
            refine vcIf_dec (fun hc2 => ?_) (fun hc2 => ?_)
            · refine vcIdx_nat i rfl (Ent.gnG hcu) hic (by rw [List.length_map]; exact Nat.le_refl _) (fun ca3 hca3 => ?_)
              refine vcLoad1_row (xs := cuts.map (Value.int .i64)) (Ent.gnG (by rw [← hca3]; exact hcu)) hci ?_
              have hc2 : cuts[i] < (r.length : Int) := hc2
              obtain ⟨m, hm⟩ := Int.eq_ofNat_of_zero_le (show 0 ≤ cuts[i] by omega)
              rw [hm] at hc1 hc2 ⊢
              exact ⟨m, ⟨by omega, by omega⟩, ⟨rfl, rfl, rfl, rfl, rfl, rfl, rfl, rfl, rfl, trivial⟩, ⟨_, Pick.whole⟩, Ent.refl⟩
            · exact stay _ _ ⟨rfl, rfl, rfl, rfl, rfl, rfl, rfl, rfl, rfl, trivial⟩ Ent.refl
          · exact stay _ _ ⟨rfl, rfl, rfl, rfl, rfl, rfl, rfl, rfl, rfl, trivial⟩ Ent.refl
        · exact stay _ _ ⟨rfl, rfl, rfl, rfl, rfl, rfl, rfl, rfl, rfl, trivial⟩ Ent.refl
      · rintro m ⟨hm0, hmr⟩
        refine vcFit_i64 (by omega) ?_
        refine vcDraw_mix [0,1,2,3,4,5,6,7,8,9,10] (RowAt (some ⟨b12, 0, none⟩) [.int .i64 lv, pieceV (A2, c2, r)]) (by kernel_rfl) (hrow _) ?_
        refine vcLoad1_row (j := 0) (v := .int .i64 lv) Ent.refl rfl ?_
        refine vcLoad1_row (j := 1) (v := pieceV (A2, c2, r)) Ent.refl rfl ?_
        obtain ⟨p, hp⟩ : ∃ p, p = r.take m := ⟨_, rfl⟩
        have hpl : p.length = m := by rw [hp, List.length_take]; omega
        have hdl : (r.drop m).length = r.length - m := List.length_drop
        refine vcSlice3_as 0 p.length c2 rfl (by first | omega | (simp only; omega)) (by first | omega | (simp only; omega)) (by first | omega | (simp only; omega)) (by omega) (fun A3 hA3 => ?_)
        have hA3' : A3 = A2 := by rw [hA3]; exact cutA_0 _ _ _
        subst hA3'
        have hpr : ∀ w, RowAt A3 (Bs r) w → RowAt A3 (Bs p) w := fun w h => by rw [hp, Bs_take]; exact h.take m
        have hpne : p ≠ [] := fun e => by rw [e] at hpl; simp at hpl; omega
        have hkl3 := feedP_kl (pu s2) lv p
        have hin3 := feedP_inv hi2 lv p
        have hsn := hfe.snoc hpne
        have hkp : (kp s2 lv.toNat).2.2.length ≤ kl (pu s2) := by
          by_cases h2 : lv.toNat < 2
          · exact kp_kl s2 h2
          · have : kp s2 lv.toNat = s2.k1 := by
              match lv.toNat, h2 with
              | n + 2, _ => rfl
            rw [this]; exact Nat.le_add_left _ _
        refine vcCall_of Pick.front (feed_spec bt s2 lv A3 c2 p _ (fun w hw => hw.1.2.2.1 (hft w hw.1.1)) (fun w hw => hpr w hw.1.2.2.2) hi2 hk2 (by omega)) (fun v own' N3 hv => ?_)
        obtain ⟨rfl, s3, rfl, hpu3, hF3, hk3⟩ := hv
        rw [← hpu3] at hkl3 hin3 hsn
        have hrow3 : ∀ (N : Mp), Ent (GN G (skO bt s3 ++ .row b12 56 [.int .i64 lv, pieceV (A3, c2, r)] 2 :: skO bf sf') N) (RowAt (some ⟨b12, 0, none⟩) [.int .i64 lv, pieceV (A3, c2, r)]) := fun N => Ent.mem (o := .row b12 56 [.int .i64 lv, pieceV (A3, c2, r)] 2) (List.mem_append_right _ (List.mem_cons_self ..)) (fun w hw => Ob.row_at hw)
        refine vcMix_same (hrow3 _) ?_
        refine vcLoad1_row (j := 1) (v := pieceV (A3, c2, r)) (hrow3 _) rfl ?_
        refine vcSlice3_as m (r.drop m).length (c2 - m) rfl (by show ((r.length : Nat) : Int) = _; omega) (by show ((c2 : Nat) : Int) = _; omega) (by show ((c2 : Nat) : Int) ≤ (c2 : Nat); omega) (by omega) (fun A4 hA4 => ?_)
        have hrest : ∀ w, RowAt A3 (Bs r) w → RowAt A4 (Bs (r.drop m)) w := fun w h => h.bytes hA4 (by omega) (by rw [List.take_of_length_le (Nat.le_refl _)])
        refine vcStore1_eq (.row b12 56 [.int .i64 lv, pieceV (A3, c2, r)] 2) (.row b12 56 [.int .i64 lv, pieceV (A4, c2 - m, r.drop m)] 2) _ Take.mid rfl (by show (1 : Nat) < 2; decide) rfl rfl ?_
        obtain ⟨q3, hq3⟩ := Pick.swap (s := skO bt s3) (r := skO bf sf') (o := .row b12 56 [.int .i64 lv, pieceV (A4, c2 - m, r.drop m)] 2)
        refine ⟨(s3, (A4, c2 - m, r.drop m), max w2 (feedP (pu s2) lv p).2, at2 + 1), ⟨⟨pre ++ p, by rw [List.append_assoc, hp, List.take_append_drop]; exact hpre, hsn, by rw [List.length_append]; simp only; omega, by rw [List.length_append]; simp only; omega⟩, hin3, hk3, by simp only; omega, by simp only; omega⟩, by simp only; omega,
          ⟨rfl, rfl, rfl, ?_, rfl, rfl, rfl, rfl, trivial⟩, ⟨_, hq3⟩, fun w hw => ⟨hw.1.1, fun h => hF3 w ⟨hw.1.2.1 h, hw.2⟩, hrest w hw.1.2.2⟩⟩
        show some (Value.int .i64 (if max w1 w2 < (feedP (pu s2) lv p).2 then (feedP (pu s2) lv p).2 else max w1 w2)) = _
        rw [max_if, Int.max_assoc]
    · simp only at hnil
      have hr0 : r = [] := List.eq_nil_of_length_eq_zero (by omega)
      subst hr0
      rw [List.append_nil] at hpre
      subst hpre
      refine vcFit_i64 (by omega) ?_
      have hfd' : FeedsL (pu st) (outs (out.take (k + 1))) (pu s2) (max w1 w2) := by
        have e : outs (out.take (k + 1)) = outs (out.take k) ++ [(lv, pre)] := by rw [take_snoc_get hk', ← hf]; simp [outs]
        rw [e]
        exact .snoc (lv, pre) hfd hfe
      exact ⟨(k + 1, s2, max w1 w2, at2), ⟨by simp only; omega, hfd', hi2, hk2, hat0, by simp only; omega, by simp only; omega⟩, by simp only; omega, ⟨rfl, rfl, rfl, rfl, rfl, rfl, rfl, trivial⟩, Pick.rid, fun w hw => ⟨hw.1, hw.2.1⟩⟩
  · obtain rfl : k = out.length := by omega
    rw [List.take_length] at hfd ha1 hkl1
    exact ⟨skO bt s1 ++ skO bf sf', _, _, Pick.whole, fun w hw _ => hw, s1, w1, at1, rfl, rfl, fun w hw => hw.2.2 hw.1, hfd, hi1, hk1, ha0, ha1, hkl1⟩
end Go.Proofs.Yticllmnblcjjcaa
end

section
/- Layer 10: the reference's side as it begins. -/
namespace Go.Proofs.Yticllmnblcjjcaa
open Go.Proofs
set_option maxRecDepth 10000

theorem good_spec (priv : Int) (pA : Option Addr) (pc : Nat) (ps : List ByteArray) (par : Piece) (G : Mp) (h1 : Ent G (RowAt pA (stL ps))) (hl : ps.length ≤ 9223372036854775807) :
    Spec Try.prog 18 #[.int .i64 priv, .slice pA ps.length pc, pieceV par] [] G (Ret (.bool (decide (goodC priv ps par.2.2)))) := by
  refine Spec.intro (args := [_, _, _]) wide Try.func18 rfl Try.call18 (by rfl) (by rfl) (fun w0 hw0 => ?_)
  have bad : ¬ goodC priv ps par.2.2 → Value.bool false = .bool (decide (goodC priv ps par.2.2)) := fun h => by simp [h]
  refine vcIf_dec (fun ha => ?_) (fun ha => ?_)
  · refine vcIf_dec (fun hb => ?_) (fun hb => ?_)
    · refine vcCall_of .nil (goodp_spec pA pc ps _ (Ent.gnG h1) hl) (fun v own' N' hv => ?_); obtain ⟨rfl, rfl, rfl⟩ := hv
      refine vcIf_dec (fun hg => ?_) (fun hg => ?_)
      · refine ⟨[], _, MT, .nil, fun _ _ _ => trivial, ?_, rfl, rfl⟩
        refine congrArg Value.bool (decide_eq_decide.2 ⟨fun h => ⟨by omega, by omega, hg, by omega⟩, fun h => ?_⟩)
        have := h.2.2.2
        omega
      · refine ⟨[], _, MT, .nil, fun _ _ _ => trivial, ?_, rfl, rfl⟩
        exact bad (fun h => hg h.2.2.1)
    · refine ⟨[], _, MT, .nil, fun _ _ _ => trivial, ?_, rfl, rfl⟩
      exact bad (fun h => hb (by have := h.2.1; omega))
  · refine ⟨[], _, MT, .nil, fun _ _ _ => trivial, ?_, rfl, rfl⟩
    exact bad (fun h => ha (by have := h.1; omega))

/-- The reference's side, where only what New lays is set. -/
def sdL (server : Bool) (rA : Option Addr) (rc : Nat) (priv : Int) (pA : Option Addr) (pc : Nat) (ps : List ByteArray) (par : Piece) (sA : Option Addr) (sc : Nat) (lA : Option Addr) (lc : Nat) (oA : Option Addr) (oc : Nat) (n : Nat) (nout : Nat) : List Value :=
  [.bool server, .slice rA 32 rc, .int .i64 priv, .slice pA ps.length pc, pieceV par, .slice sA n sc, .slice none 0 0, .slice none 0 0, .bool false, .slice lA nout lc, .slice oA nout oc, .string (ByteArray.mk #[]), .slice none 0 0, .int .i64 0]
def sdR (d : Nat) (server : Bool) (rA : Option Addr) (rc : Nat) (priv : Int) (pA : Option Addr) (pc : Nat) (ps : List ByteArray) (par : Piece) (sA : Option Addr) (sc : Nat) (lA : Option Addr) (lc : Nat) (oA : Option Addr) (oc : Nat) (n nout : Nat) : Ob :=
  .row d 60 (sdL server rA rc priv pA pc ps par sA sc lA lc oA oc n nout) 14
theorem rhello_spec (d : Nat) (r : Nat → UInt8) (server : Bool) (rA : Option Addr) (rc : Nat) (priv : Int) (pA : Option Addr) (pc : Nat) (ps : List ByteArray) (par : Piece) (G : Mp) (h : Ent G (RowAt (some ⟨d, 0, none⟩) (sdL server rA rc priv pA pc ps par none 0 none 0 none 0 0 0)))
    (h1 : Ent G (RowAt rA (Bs (rn r)))) (hp : priv ≤ 9223372036854775807) :
    Spec Try.prog 40 #[.pointer (some ⟨d, 0, none⟩)] [] G (OwnB (helloL r priv)) := by
  refine Spec.intro (args := [_]) wide Try.func40 rfl Try.call40 (by rfl) (by rfl) (fun w0 hw0 => ?_)
  refine vcDraw_mix [0,1,2,3,4,5,6,7,8,9,10,11,12] (RowAt (some ⟨d, 0, none⟩) (sdL server rA rc priv pA pc ps par none 0 none 0 none 0 0 0)) (by kernel_rfl) (Ent.gnG h) ?_
  refine vcLoad1_row (j := 1) (v := .slice rA 32 rc) Ent.refl rfl ?_
  refine vcLoad1_row (j := 2) (v := .int .i64 priv) Ent.refl rfl ?_
  refine vcCall_of .nil (rpower_spec 37 priv (by decide) hp _) (fun v own' N' hv => ?_); obtain ⟨rfl, rfl, rfl⟩ := hv
  refine vcMix_same (Ent.gnG h) ?_
  refine vcCall_of .nil (reight_spec (powN 37 priv) (by have := powN_lt 37 priv; rw [prm_eq] at this; omega) _) (fun v own' N' hv => ?_)
  obtain ⟨A2, c2, rfl, rfl, rfl, hc2⟩ := hv
  refine vcMix_same (Ent.gnG h) ?_
  intro b3
  refine vcMix_same (Ent.gnG h) ?_
  have e : pieces [(rA, rc, rn r), (A2, c2, be 8 (powN 37 priv))] = helloL r priv := by simp [pieces, helloL]
  refine vcCall_of .nil (join_spec (some ⟨b3, 0, none⟩) 2 [(rA, rc, rn r), (A2, c2, be 8 (powN 37 priv))] _ (Ent.gnO .here (fun w hw => Ob.sl_at hw)) (fun p hp => ?_) (by rw [e, helloL_len]; decide) (by simp)) (fun v own' N' hv => ?_)
  · simp only [List.mem_cons, List.not_mem_nil, or_false] at hp
    rcases hp with rfl | rfl
    · exact Ent.gnG h1
    · exact (Ent.gnO (.there .here) (fun w hw => Ob.sl_at hw))
  rw [e] at hv
  obtain ⟨A', c', rfl, rfl, rfl, hc⟩ := hv
  refine vcMix_same (Ent.gnG h) ?_
  exact ⟨_, _, MT, .cons .here .nil, fun _ _ _ => trivial, _, _, rfl, rfl, rfl, hc⟩
def RSayTo (d : Nat) (server : Bool) (rA : Option Addr) (rc : Nat) (priv : Int) (pA : Option Addr) (pc : Nat) (ps : List ByteArray) (par : Piece) (lv : Int) (m : List UInt8) (v : Value) (own : List Ob) (N : Mp) : Prop :=
  ∃ sA sc lA lc oA oc Am cm, v = .tuple #[] ∧ own = [sdR d server rA rc priv pA pc ps par sA sc lA lc oA oc 1 1] ∧ Ent N (RowAt lA [.int .i64 lv]) ∧ Ent N (RowAt oA [.slice Am m.length cm]) ∧ Ent N (RowAt Am (Bs m))
theorem rsay_spec (d : Nat) (server : Bool) (rA : Option Addr) (rc : Nat) (priv : Int) (pA : Option Addr) (pc : Nat) (ps : List ByteArray) (par : Piece) (lv k : Int) (A : Option Addr) (c : Nat) (xs : List UInt8) (G : Mp) (h1 : Ent G (RowAt A (Bs xs))) (hx : xs.length ≤ 1099511627776) :
    Spec Try.prog 42 #[.pointer (some ⟨d, 0, none⟩), .int .i64 lv, .int .i64 k, .slice A xs.length c] [sdR d server rA rc priv pA pc ps par none 0 none 0 none 0 0 0] G (RSayTo d server rA rc priv pA pc ps par lv (msg k xs)) := by
  refine Spec.intro (args := [_, _, _, _]) wide Try.func42 rfl Try.call42 (by rfl) (by rfl) (fun w0 hw0 => ?_)
  refine vcCall_of .nil (message_spec k A c xs _ (Ent.gnG h1) (by omega)) (fun v own' N' hv => ?_); obtain ⟨Am, cm, rfl, rfl, rfl, hcm⟩ := hv
  refine vcLoad1_row (j := 5) (v := .slice none 0 0) (Ent.gnO (by first | ((repeat (first | exact .here | apply Take.there)); done) | exact .none_) (fun w hw => Ob.row_at hw)) rfl ?_
  intro b1
  refine vcApp_of [] _ [.slice Am (msg k xs).length cm] .none_ rfl rfl (by decide) (by simp [oneCell]) (Ent.gnO .here (fun w hw => Ob.sl_at hw)) (by decide) (by decide) (fun sA sc hsc => ?_)
  refine vcStore1_eq (sdR d server rA rc priv pA pc ps par none 0 none 0 none 0 0 0) (sdR d server rA rc priv pA pc ps par sA sc none 0 none 0 1 0) _ (.there (.there (.there .here))) rfl (by show (5 : Nat) < 14; decide) rfl rfl ?_
  refine vcLoad1_row (j := 10) (v := .slice none 0 0) (xs := sdL server rA rc priv pA pc ps par sA sc none 0 none 0 1 0) (Ent.gnO .here (fun w hw => Ob.row_at hw)) rfl ?_
  refine vcLoad1_row (j := 10) (v := .slice none 0 0) (xs := sdL server rA rc priv pA pc ps par sA sc none 0 none 0 1 0) (Ent.gnO .here (fun w hw => Ob.row_at hw)) rfl ?_
  intro b2
  refine vcApp_of [] _ [.slice Am (msg k xs).length cm] .none_ rfl rfl (by decide) (by simp [oneCell]) (Ent.gnO .here (fun w hw => Ob.sl_at hw)) (by decide) (by decide) (fun oA oc hoc => ?_)
  refine vcStore1_eq (sdR d server rA rc priv pA pc ps par sA sc none 0 none 0 1 0) (.row d 60 ((sdL server rA rc priv pA pc ps par sA sc none 0 none 0 1 0).set 10 (.slice oA 1 oc)) 14) _ (.there (.there .here)) rfl (by show (10 : Nat) < 14; decide) rfl rfl ?_
  refine vcLoad1_row (j := 9) (v := .slice none 0 0) (Ent.gnO .here (fun w hw => Ob.row_at hw)) rfl ?_
  intro b3
  refine vcApp_of [] _ [.int .i64 lv] .none_ rfl rfl (by decide) (by simp [oneCell]) (Ent.gnO .here (fun w hw => Ob.sl_at hw)) (by decide) (by decide) (fun lA lc hlc => ?_)
  refine vcStore1_eq (.row d 60 ((sdL server rA rc priv pA pc ps par sA sc none 0 none 0 1 0).set 10 (.slice oA 1 oc)) 14) (sdR d server rA rc priv pA pc ps par sA sc lA lc oA oc 1 1) _ (.there (.there .here)) rfl (by show (9 : Nat) < 14; decide) rfl rfl ?_
  refine ⟨[sdR d server rA rc priv pA pc ps par sA sc lA lc oA oc 1 1], _, fun w => RowAt lA [.int .i64 lv] w ∧ RowAt oA [.slice Am (msg k xs).length cm] w ∧ RowAt Am (Bs (msg k xs)) w, .cons .here .nil, fun w _ ho => ?_, sA, sc, lA, lc, oA, oc, Am, cm, rfl, rfl, fun w h => h.1, fun w h => h.2.1, fun w h => h.2.2⟩
  refine ⟨Ob.sl_at (ho (.sl lA lc 3 1 [.int .i64 lv]) (by simp)), Ob.sl_at (ho (.sl oA oc 24 1 [.slice Am (msg k xs).length cm]) (by simp)), Ob.sl_at (ho (.sl Am cm 5 1 (Bs (msg k xs))) (by simp))⟩
end Go.Proofs.Yticllmnblcjjcaa
end

section
/- Layer 10: the reference's New. -/
namespace Go.Proofs.Yticllmnblcjjcaa
open Go.Proofs
set_option maxRecDepth 10000

def lvL (fd : List Fl) : List Value := fd.map fun f => .int .i64 f.1
def odL (fd : List Fl) : List Value := fd.map fun f => pieceV f.2
def FdF (lA oA : Option Addr) (fd : List Fl) : Mp := fun w => RowAt lA (lvL fd) w ∧ RowAt oA (odL fd) w ∧ ∀ f ∈ fd, RowAt f.2.1 (Bs f.2.2.2) w
def RNewTo (server : Bool) (r : Nat → UInt8) (rA : Option Addr) (rc : Nat) (priv : Int) (pA : Option Addr) (pc : Nat) (ps : List ByteArray) (par : Piece) (v : Value) (own : List Ob) (N : Mp) : Prop :=
  ∃ d sA sc lA lc oA oc fd, v = .pointer (some ⟨d, 0, none⟩) ∧ own = [sdR d server rA rc priv pA pc ps par sA sc lA lc oA oc (if server then 0 else 1) fd.length] ∧ Ent N (FdF lA oA fd) ∧ outs fd = (if server then [] else [(0, hi0 server r priv ps par.2.2)])
theorem rnew_spec (server : Bool) (r : Nat → UInt8) (rA : Option Addr) (rc : Nat) (priv : Int) (pA : Option Addr) (pc : Nat) (ps : List ByteArray) (par : Piece) (G : Mp) (h0 : Ent G (RowAt rA (Bs (rn r)))) (h1 : Ent G (RowAt pA (stL ps))) (h2 : Ent G (RowAt par.1 (Bs par.2.2))) (hgood : goodC priv ps par.2.2) :
    Spec Try.prog 19 #[.bool server, .slice rA 32 rc, .int .i64 priv, .slice pA ps.length pc, pieceV par] [] G (RNewTo server r rA rc priv pA pc ps par) := by
  refine Spec.intro (args := [_, _, _, _, _]) wide Try.func19 rfl Try.call19 (by rfl) (by rfl) (fun w0 hw0 => ?_)
  intro d
  have hg := hgood.2.2.1
  have hps := hg.2.1
  have hparl := hgood.2.2.2
  have hp1 := hgood.2.1
  refine vcIf_split (fun hsv => ?_) (fun hsv => ?_)
  · subst hsv
    exact ⟨[sdR d true rA rc priv pA pc ps par none 0 none 0 none 0 0 0], _, FdF none none [], .cons .here .nil, fun w _ _ => ⟨nil_row, nil_row, fun f hf => nomatch hf⟩, d, none, 0, none, 0, none, 0, [], rfl, rfl, Ent.refl, rfl⟩
  · subst hsv
    have hrow : ∀ {own : List Ob} {N : Mp} {rest : List Ob}, Take (sdR d false rA rc priv pA pc ps par none 0 none 0 none 0 0 0) own rest → Ent (GN G own N) (RowAt (some ⟨d, 0, none⟩) (sdL false rA rc priv pA pc ps par none 0 none 0 none 0 0 0)) := fun ht => Ent.gnO ht (fun w hw => Ob.row_at hw)
    refine vcCall_of .nil (rhello_spec d r false rA rc priv pA pc ps par _ (hrow .here) (Ent.gnG h0) (by omega)) (fun v own' N' hv => ?_)
    obtain ⟨Ah, ch, rfl, rfl, rfl, hch⟩ := hv
    have hhl := helloL_len r priv
    refine vcFit_byte ?_
    intro b4 b5
    obtain ⟨hd, hhd⟩ : ∃ hd, hd = helloL r priv ++ [byteI ps.length] := ⟨_, rfl⟩
    have hhdl : hd.length = 41 := by rw [hhd]; simp [hhl]
    have e : pieces [(Ah, ch, helloL r priv), (some ⟨b4, 0, none⟩, 1, [byteI ps.length])] = hd := by simp [pieces, hhd]
    refine vcCall_of .nil (join_spec (some ⟨b5, 0, none⟩) 2 [(Ah, ch, helloL r priv), (some ⟨b4, 0, none⟩, 1, [byteI ps.length])] _ (Ent.gnO .here (fun w hw => Ob.sl_at hw)) (fun p hp => ?_) (by rw [e, hhdl]; decide) (by simp)) (fun v own' N' hv => ?_)
    · simp only [List.mem_cons, List.not_mem_nil, or_false] at hp
      rcases hp with rfl | rfl
      · exact (Ent.gnO (.there (.there .here)) (fun w hw => Ob.sl_at hw))
      · exact (Ent.gnO (.there .here) (fun w hw => Ob.sl_at hw))
    rw [e] at hv
    obtain ⟨Ab, cb, rfl, rfl, rfl, hcb⟩ := hv
    have hpsl : ∀ k ≤ ps.length, (psL (ps.take k)).length ≤ 33 * k := by
      intro k
      induction k with
      | zero => intro _; simp [psL]
      | succ k ih =>
        intro hk
        have h32 := (hg.2.2 ps[k] (List.getElem_mem (by omega))).2
        have hds : ps[k].data.toList.length = ps[k].size := by rw [Array.length_toList]; rfl
        have := ih (by omega)
        rw [psL_snoc (by omega), List.length_append]
        simp only [txt, List.length_cons]
        omega
    refine vcLoop_of (fun g : Nat × Option Addr × Nat => ps.length - g.1) (fun g => [(3, .slice pA ps.length pc), (4, pieceV par), (11, .pointer (some ⟨d, 0, none⟩)), (12, .slice g.2.1 (hd ++ psL (ps.take g.1)).length g.2.2), (13, .int .i64 g.1)])
      (fun g => [pO (g.2.1, g.2.2, hd ++ psL (ps.take g.1)), sdR d false rA rc priv pA pc ps par none 0 none 0 none 0 0 0])
      (fun _ => MT) (fun g => g.1 ≤ ps.length) (0, Ab, cb) (Nat.zero_le _)
      ⟨rfl, rfl, rfl, by simp [psL]; rfl, rfl, trivial⟩ ⟨_, .cons (Take.eq (by simp [psL]; rfl)) (.cons (by first | ((repeat (first | exact .here | apply Take.there)); done) | exact .none_) .nil)⟩ (fun _ _ => trivial) ?_
    rintro ⟨k, A, c⟩ hk
    have hk : k ≤ ps.length := hk
    refine vcIf_dec (fun hlt => ?_) (fun hge => ?_)
    · have hk' : k < ps.length := by omega
      have h32 := (hg.2.2 ps[k] (List.getElem_mem hk')).2
      have hds : ps[k].data.toList.length = ps[k].size := by rw [Array.length_toList]; rfl
      have hpk := hpsl k hk
      have hcl : (hd ++ psL (ps.take k)).length = 41 + (psL (ps.take k)).length := by rw [List.length_append, hhdl]
      refine vcIdx_nat k rfl (Ent.gnG h1) hk' (by rw [stL_len]; omega) (fun a ha => ?_)
      refine vcLoad1_row (xs := stL ps) (Ent.gnG (ha ▸ h1)) (stL_get hk') ?_
      intro b6 c6 hc6
      refine vcCall_of .nil (text_spec (some ⟨b6, 0, none⟩) c6 ps[k].data.toList _ (Ent.gnO .here (fun w hw => Ob.sl_at hw)) (by omega)) (fun v own' N' hv => ?_)
      obtain ⟨At, ct, rfl, rfl, rfl, hct⟩ := hv
      intro b7
      have e : pieces [(A, c, hd ++ psL (ps.take k)), (At, ct, txt ps[k].data.toList)] = hd ++ psL (ps.take (k + 1)) := by rw [psL_snoc hk']; simp [pieces]
      have el : (hd ++ psL (ps.take (k + 1))).length = (hd ++ psL (ps.take k)).length + 1 + ps[k].size := by rw [psL_snoc hk', List.length_append, List.length_append, List.length_append]; simp only [txt, List.length_cons]; omega
      refine vcCall_of .nil (join_spec (some ⟨b7, 0, none⟩) 2 [(A, c, hd ++ psL (ps.take k)), (At, ct, txt ps[k].data.toList)] _ (Ent.gnO .here (fun w hw => Ob.sl_at hw)) (fun p hp => ?_) (by rw [e]; omega) (by simp)) (fun v own' N' hv => ?_)
      · simp only [List.mem_cons, List.not_mem_nil, or_false] at hp
        rcases hp with rfl | rfl
        · exact Ent.gnO (.there (.there (.there .here))) (fun w hw => Ob.sl_at hw)
        · exact (Ent.gnO (.there .here) (fun w hw => Ob.sl_at hw))
      rw [e] at hv
      obtain ⟨A3, c3, rfl, rfl, rfl, hc3⟩ := hv
      refine vcFit_i64 (by first | omega | (simp only; omega)) ?_
      exact ⟨(k + 1, A3, c3), hk', (by first | omega | (simp only; omega)), ⟨rfl, rfl, rfl, rfl, rfl, trivial⟩, ⟨_, .cons .here (.cons (by first | ((repeat (first | exact .here | apply Take.there)); done) | exact .none_) .nil)⟩, fun _ _ => trivial⟩
    · obtain rfl : k = ps.length := by omega
      have hpk := hpsl ps.length (Nat.le_refl _)
      rw [List.take_length] at hpk ⊢
      have hcl : (hd ++ psL ps).length = 41 + (psL ps).length := by rw [List.length_append, hhdl]
      have hbody : bodyL r priv ps par.2.2 = hd ++ psL ps ++ lng par.2.2 := by rw [hhd, byteI_nat]; rfl
      have hlen : (bodyL r priv ps par.2.2).length = (hd ++ psL ps).length + (lng par.2.2).length := by rw [hbody]; simp only [List.length_append]
      have hll : (lng par.2.2).length = par.2.2.length + 2 := by simp [lng]
      refine vcCall_of .nil (two_spec par.2.2.length (by omega) _) (fun v own' N' hv => ?_)
      obtain ⟨A2, c2, rfl, rfl, rfl, hc2⟩ := hv
      intro b8
      have e : pieces [(A, c, hd ++ psL ps), (A2, c2, [UInt8.ofNat (par.2.2.length / 256 % 256), UInt8.ofNat (par.2.2.length % 256)]), par] = bodyL r priv ps par.2.2 := by rw [hbody]; simp [pieces, lng]
      refine vcCall_of .nil (join_spec (some ⟨b8, 0, none⟩) 3 [(A, c, hd ++ psL ps), (A2, c2, [UInt8.ofNat (par.2.2.length / 256 % 256), UInt8.ofNat (par.2.2.length % 256)]), par] _ (Ent.gnO .here (fun w hw => Ob.sl_at hw)) (fun p hp => ?_) (by rw [e]; omega) (by simp)) (fun v own' N' hv => ?_)
      · simp only [List.mem_cons, List.not_mem_nil, or_false] at hp
        rcases hp with rfl | rfl | rfl
        · exact (Ent.gnO (.there (.there .here)) (fun w hw => Ob.sl_at hw))
        · exact (Ent.gnO (.there .here) (fun w hw => Ob.sl_at hw))
        · exact Ent.gnG h2
      rw [e] at hv
      obtain ⟨A3, c3, rfl, rfl, rfl, hc3⟩ := hv
      refine vcCall_of (A := [sdR d false rA rc priv pA pc ps par none 0 none 0 none 0 0 0]) (.cons (by first | ((repeat (first | exact .here | apply Take.there)); done) | exact .none_) .nil) (rsay_spec d false rA rc priv pA pc ps par 0 1 A3 c3 (bodyL r priv ps par.2.2) _ (Ent.gnO .here (fun w hw => Ob.sl_at hw)) (by omega)) (fun v own' N' hv => ?_)
      obtain ⟨sA, sc, lA, lc, oA, oc, Am, cm, rfl, rfl, f1, f2, f3⟩ := hv
      refine ⟨[sdR d false rA rc priv pA pc ps par sA sc lA lc oA oc 1 1], _, FdF lA oA [(0, (Am, cm, msg 1 (bodyL r priv ps par.2.2)))], .cons .here .nil, fun w hw _ => ⟨f1 w hw.2, f2 w hw.2, fun f hf => ?_⟩, d, sA, sc, lA, lc, oA, oc, [(0, (Am, cm, msg 1 (bodyL r priv ps par.2.2)))], rfl, rfl, Ent.refl, rfl⟩
      rw [List.mem_singleton.1 hf]
      exact f3 w hw.2
end Go.Proofs.Yticllmnblcjjcaa
end

section
/- Layer 10: the law's rest. -/
namespace Go.Proofs.Yticllmnblcjjcaa
open Go.Proofs
set_option maxRecDepth 10000

theorem not_u8 (x : UInt8) : bitI .xor .u8 255 (x.toNat : Int) = (((255 : UInt8) ^^^ x).toNat : Int) := by
  have h := bitI_xor (kd := .u8) (a := 255) (b := x.toNat) (by decide) (by have := x.toNat_lt; have e : IntKind.u8.max = 255 := by decide
                                                                           rw [e]; omega)
  rw [UInt8.toNat_xor]
  exact h
theorem Bs_set_at (l : List UInt8) (k : Nat) (y : UInt8) : Bs (l.set k y) = (Bs l).set k (.int .u8 y.toNat) := by unfold Bs; rw [List.map_set]; rfl
theorem rhand_spec (d n : Nat) (hn : n < 2) (xs : List Value) (sA : Option Addr) (sc : Nat) (hx : xs[5]? = some (.slice sA n sc)) (G : Mp) (h : Ent G (RowAt (some ⟨d, 0, none⟩) xs)) :
    Spec Try.prog 22 #[.pointer (some ⟨d, 0, none⟩)] [] G (Ret (.tuple #[.slice none 0 0, .slice none 0 0])) := by
  refine Spec.intro (args := [_]) wide Try.func22 rfl Try.call22 (by rfl) (by rfl) (fun w0 hw0 => ?_)
  refine vcLoad1_row (j := 5) (v := .slice sA n sc) (Ent.gnG h) hx ?_
  refine vcIf_yes (by omega) ?_
  exact ⟨[], _, MT, .nil, fun _ _ _ => trivial, rfl, rfl, rfl⟩
theorem rapp_spec (d n : Nat) (hn : n < 2) (xs : List Value) (sA : Option Addr) (sc : Nat) (hx : xs[5]? = some (.slice sA n sc)) (G : Mp) (h : Ent G (RowAt (some ⟨d, 0, none⟩) xs)) :
    Spec Try.prog 23 #[.pointer (some ⟨d, 0, none⟩)] [] G (Ret (.tuple #[.slice none 0 0, .slice none 0 0])) := by
  refine Spec.intro (args := [_]) wide Try.func23 rfl Try.call23 (by rfl) (by rfl) (fun w0 hw0 => ?_)
  refine vcLoad1_row (j := 5) (v := .slice sA n sc) (Ent.gnG h) hx ?_
  refine vcIf_yes (by omega) ?_
  exact ⟨[], _, MT, .nil, fun _ _ _ => trivial, rfl, rfl, rfl⟩
theorem rdone_spec (d n : Nat) (hn : n < 2) (xs : List Value) (sA : Option Addr) (sc : Nat) (hx : xs[5]? = some (.slice sA n sc)) (G : Mp) (h : Ent G (RowAt (some ⟨d, 0, none⟩) xs)) :
    Spec Try.prog 24 #[.pointer (some ⟨d, 0, none⟩)] [] G (Ret (.bool false)) := by
  refine Spec.intro (args := [_]) wide Try.func24 rfl Try.call24 (by rfl) (by rfl) (fun w0 hw0 => ?_)
  refine vcLoad1_row (j := 5) (v := .slice sA n sc) (Ent.gnG h) hx ?_
  refine ⟨[], _, MT, .nil, fun _ _ _ => trivial, ?_, rfl, rfl⟩
  refine congrArg Value.bool (decide_eq_false ?_)
  omega
theorem flL_same {l m : List Fl} (h : l.map (fun f => (f.1, f.2.1, f.2.2.1, f.2.2.2.length)) = m.map (fun f => (f.1, f.2.1, f.2.2.1, f.2.2.2.length))) : flL l = flL m := by
  induction l generalizing m with
  | nil => cases m with
    | nil => rfl
    | cons _ _ => cases h
  | cons x l ih => cases m with
    | nil => cases h
    | cons y m =>
      simp only [List.map_cons, List.cons.injEq, Prod.mk.injEq] at h
      obtain ⟨⟨h1, h2, h3, h4⟩, h5⟩ := h
      simp only [flL, List.flatMap_cons] at ih ⊢
      rw [ih h5]
      simp only [flV, pieceV, h1, h2, h3, h4]
def shp (l : List Fl) : List (Int × Option Addr × Nat × Nat) := l.map (fun f => (f.1, f.2.1, f.2.2.1, f.2.2.2.length))
theorem shp_set {l : List Fl} {i : Nat} (hi : i < l.length) (xs : List UInt8) (hx : xs.length = l[i].2.2.2.length) : shp (l.set i (l[i].1, l[i].2.1, l[i].2.2.1, xs)) = shp l := by
  unfold shp
  rw [List.map_set]
  simp only [hx]
  rw [← List.getElem_map (fun f : Fl => (f.1, f.2.1, f.2.2.1, f.2.2.2.length)) (h := by simpa using hi), List.set_getElem_self]
theorem flO_split {l : List Fl} {i : Nat} (hi : i < l.length) : flO l = flO (l.take i) ++ pO l[i].2 :: flO (l.drop (i + 1)) := by
  rw [show pO l[i].2 :: flO (l.drop (i + 1)) = flO (l[i] :: l.drop (i + 1)) from rfl, ← flO_app, ← List.drop_eq_getElem_cons hi, List.take_append_drop]
theorem flO_set {l : List Fl} {i : Nat} (hi : i < l.length) (lv : Int) (p : Piece) : flO (l.set i (lv, p)) = flO (l.take i) ++ pO p :: flO (l.drop (i + 1)) := by
  have hi' : i < (l.set i (lv, p)).length := by rw [List.length_set]; exact hi
  rw [flO_split hi', List.getElem_set_self, List.take_set_of_le (Nat.le_refl i), List.drop_set_of_lt (by omega)]
end Go.Proofs.Yticllmnblcjjcaa
end
