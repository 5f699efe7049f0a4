/- Layer 10: shake.New. -/
import Derived.Test.YticllmnblcjjcaaShkD
namespace Go.Proofs.Yticllmnblcjjcaa
open Go.Proofs
set_option maxRecDepth 10000

def nilP : Piece := (none, 0, [])
def psL (ps : List ByteArray) : List UInt8 := ps.flatMap fun p => txt p.data.toList
theorem psL_snoc {ps : List ByteArray} {k : Nat} (h : k < ps.length) : psL (ps.take (k + 1)) = psL (ps.take k) ++ txt ps[k].data.toList := by rw [take_snoc_get h, psL, List.flatMap_append]; simp [psL]
def bodyL (r : Nat → UInt8) (priv : Int) (ps : List ByteArray) (par : List UInt8) : List UInt8 := helloL r priv ++ [UInt8.ofNat (ps.length % 256)] ++ psL ps ++ lng par
def goodC (priv : Int) (ps : List ByteArray) (par : List UInt8) : Prop := 1 ≤ priv ∧ priv ≤ 4611686018427387903 ∧ goodL ps ∧ par.length ≤ 1024
instance (priv : Int) (ps : List ByteArray) (par : List UInt8) : Decidable (goodC priv ps par) := inferInstanceAs (Decidable (_ ∧ _ ∧ _ ∧ _))
def wsServer : List Wn := [⟨1, 0, 28⟩, ⟨20, 1, 29⟩]
def wsClient : List Wn := [⟨2, 0, 30⟩, ⟨8, 1, 31⟩, ⟨20, 1, 32⟩]
/-- A side as it begins; what it said, and where its things lie, given. -/
def sk0 (server : Bool) (r : Nat → UInt8) (priv : Int) (pA : Option Addr) (pc : Nat) (ps : List ByteArray) (par : Piece) (wA : Option Addr) (wc : Nat) (ws : List Wn) : Sk :=
  ⟨server, r, priv, pA, pc, ps, par, wA, wc, ws, nilP, nilP, false, nilP, none, 0, [], nilP, nilP, nilP, nilP, nilP, ByteArray.mk #[], nilP⟩
def SkF (s : Sk) : Mp := fun w => RowAt s.pA (stL s.ps) w ∧ RowAt s.wA (wnL s.ws) w ∧ ∀ p ∈ [s.par, s.root, s.hc, s.hs, s.ac, s.as_, s.peer], RowAt p.1 (Bs p.2.2) w
def hi0 (server : Bool) (r : Nat → UInt8) (priv : Int) (ps : List ByteArray) (par : List UInt8) : List UInt8 := if server then [] else msg 1 (bodyL r priv ps par)
def NewTo (server : Bool) (r : Nat → UInt8) (priv : Int) (ps : List ByteArray) (par : List UInt8) (v : Value) (own : List Ob) (N : Mp) : Prop :=
  (goodC priv ps par ∧ ∃ b pA pc pp pcc wA wc A c oA oc out, v = .tuple #[.pointer (some ⟨b, 0, none⟩), .int .i64 0] ∧
    own = skO b { sk0 server r priv pA pc ps (pp, pcc, par) wA wc (if server then wsServer else wsClient) with said := (A, c, hi0 server r priv ps par), oA := oA, oc := oc, out := out } ∧
    Ent N (SkF (sk0 server r priv pA pc ps (pp, pcc, par) wA wc (if server then wsServer else wsClient))) ∧
    outs out = (if server then [] else [(0, hi0 server r priv ps par)])) ∨
  (¬ goodC priv ps par ∧ v = .tuple #[.pointer none, .int .i64 100] ∧ own = [] ∧ N = MT)
theorem nil_row {w : World} : RowAt none (Bs []) w := fun i u h => by cases i <;> cases h
set_option maxHeartbeats 1000000 in
theorem new_spec (server : Bool) (r : Nat → UInt8) (priv : Int) (pA : Option Addr) (pc : Nat) (ps : List ByteArray) (par : Piece) (G : Mp) (h1 : Ent G (RowAt pA (stL ps))) (h2 : Ent G (RowAt par.1 (Bs par.2.2))) (hl : ps.length ≤ 9223372036854775807) :
    Spec Try.prog 9 #[.agg (cfL server r priv pA pc ps par).toArray] [] G (NewTo server r priv ps par.2.2) := by
  refine Spec.intro (args := [_]) wide Try.func9 rfl Try.call9 (by rfl) (by rfl) (fun w0 hw0 => ?_)
  intro b1
  have bad : ∀ (own : List Ob) (N : Mp), ¬ goodC priv ps par.2.2 → ∃ (own' rest : List Ob) (N' : Mp), Pick own' own rest ∧ (∀ w, N w → Objs rest w → N' w) ∧ NewTo server r priv ps par.2.2 (.tuple #[.pointer none, .int .i64 100]) own' N' :=
    fun own N h => ⟨[], own, MT, .nil, fun _ _ _ => trivial, .inr ⟨h, rfl, rfl, rfl⟩⟩
  refine vcLoad1_row (j := 33) (v := .int .i64 priv) (Ent.gnO .here (fun w hw => Ob.row_at hw)) rfl ?_
  refine vcIf_dec (fun ha => ?_) (fun ha => ?_)
  · exact bad _ _ (fun h => by have := h.1; omega)
  refine vcLoad1_row (j := 33) (v := .int .i64 priv) (Ent.gnO .here (fun w hw => Ob.row_at hw)) rfl ?_
  refine vcIf_dec (fun hb => ?_) (fun hb => ?_)
  · exact bad _ _ (fun h => by have := h.2.1; omega)
  refine vcLoad1_row (j := 34) (v := .slice pA ps.length pc) (Ent.gnO .here (fun w hw => Ob.row_at hw)) rfl ?_
  refine vcCall_of .nil (right_spec pA pc ps _ (Ent.gnG h1) hl) (fun v own' N' hv => ?_); obtain ⟨rfl, rfl, rfl⟩ := hv
  refine vcIf_ndec (fun hg => ?_) (fun hg => ?_)
  · exact bad _ _ (fun h => hg h.2.2.1)
  refine vcLoad1_row (j := 35) (v := pieceV par) (Ent.gnO .here (fun w hw => Ob.row_at hw)) rfl ?_
  refine vcIf_dec (fun hm => ?_) (fun hm => ?_)
  · exact bad _ _ (fun h => by have := h.2.2.2; omega)
  have hgood : goodC priv ps par.2.2 := ⟨by omega, by omega, hg, by omega⟩
  have hps : ps.length ≤ 8 := hg.2.1
  have hparl : par.2.2.length ≤ 1024 := by omega
  refine vcDraw_mix [0,1,3,4,2,6,5,7,8,9] (RowAt (some ⟨b1, 0, none⟩) (cfL server r priv pA pc ps par)) (by kernel_rfl) (Ent.gnO .here (fun w hw => Ob.row_at hw)) ?_
  refine vcLoad1_row (j := 34) (v := .slice pA ps.length pc) Ent.refl rfl ?_
  refine vcLoad1_row (j := 35) (v := pieceV par) Ent.refl rfl ?_
  refine vcCall_of .nil (sclone_spec pA pc ps _ (Ent.gnG h1) (by omega)) (fun v own' N' hv => ?_)
  obtain ⟨pA2, pc2, rfl, rfl, rfl, hpc2⟩ := hv
  refine vcMix_same (Ent.gnO (by first | ((repeat (first | exact .here | apply Take.there)); done) | exact .none_) (fun w hw => Ob.row_at hw)) ?_
  refine vcCall_of .nil (clone_spec par.1 par.2.1 par.2.2 _ (Ent.gnG h2) (by omega)) (fun v own' N' hv => ?_)
  obtain ⟨pp, pcc, rfl, rfl, rfl, hpcc⟩ := hv
  refine vcMix_same (Ent.gnO (.there (.there .here)) (fun w hw => Ob.row_at hw)) ?_
  refine vcStore1_eq (.row b1 26 (cfL server r priv pA pc ps par) 36) (.row b1 26 (cfL server r priv pA2 pc2 ps par) 36) _ (.there (.there .here)) rfl (by show (34 : Nat) < 36; decide) rfl rfl ?_
  refine vcMix_last (by kernel_rfl) ?_
  refine vcStore1_eq (.row b1 26 (cfL server r priv pA2 pc2 ps par) 36) (.row b1 26 (cfL server r priv pA2 pc2 ps (pp, pcc, par.2.2)) 36) _ .here rfl (by show (35 : Nat) < 36; decide) rfl rfl ?_
  refine vcMix_last (by kernel_rfl) ?_
  refine vcLoadN_0 (xs := cfL server r priv pA2 pc2 ps (pp, pcc, par.2.2)) (Ent.gnO .here (fun w hw => Ob.row_at hw)) rfl ?_
  intro b2
  refine vcLoad1_row (j := 0) (v := .bool server) (xs := cfL server r priv pA2 pc2 ps (pp, pcc, par.2.2)) (Ent.gnO (.there .here) (fun w hw => Ob.row_at hw)) rfl ?_
  have facts : ∀ (b3 n : Nat) (ws : List Wn) (own : List Ob) (N : Mp), (Ob.sl (some ⟨b3, 0, none⟩) n 71 3 (wnL ws) ∈ own) → (Ob.sl pp pcc 5 1 (Bs par.2.2) ∈ own) → (Ob.sl pA2 pc2 9 1 (stL ps) ∈ own) →
      ∀ w, N w → Objs own w → SkF (sk0 server r priv pA2 pc2 ps (pp, pcc, par.2.2) (some ⟨b3, 0, none⟩) n ws) w := by
    intro b3 n ws own N m1 m2 m3 w _ ho
    refine ⟨Ob.sl_at (ho _ m3), Ob.sl_at (ho _ m1), ?_⟩
    intro p hp
    simp only [sk0, List.mem_cons, List.not_mem_nil, or_false] at hp
    rcases hp with rfl | rfl | rfl | rfl | rfl | rfl | rfl
    · exact Ob.sl_at (ho _ m2)
    all_goals exact nil_row
  refine vcIf_split (fun hsv => ?_) (fun hsv => ?_)
  · subst hsv
    intro b3
    refine vcStore1_eq (skR b2 (sk0 true r priv pA2 pc2 ps (pp, pcc, par.2.2) none 0 [])) (skR b2 (sk0 true r priv pA2 pc2 ps (pp, pcc, par.2.2) (some ⟨b3, 0, none⟩) 2 wsServer)) _ (.there .here) rfl (by show (36 : Nat) < 49; decide) rfl rfl ?_
    refine ⟨skO b2 (sk0 true r priv pA2 pc2 ps (pp, pcc, par.2.2) (some ⟨b3, 0, none⟩) 2 wsServer), _, SkF (sk0 true r priv pA2 pc2 ps (pp, pcc, par.2.2) (some ⟨b3, 0, none⟩) 2 wsServer), .cons .here (.cons .none_ (.cons .none_ (.cons .none_ (.cons .none_ .nil)))), facts b3 2 wsServer _ _ (by simp [wnL, wsServer]) (by simp) (by simp), ?_⟩
    exact .inl ⟨hgood, b2, pA2, pc2, pp, pcc, some ⟨b3, 0, none⟩, 2, none, 0, none, 0, [], rfl, rfl, Ent.refl, rfl⟩
  · subst hsv
    intro b3
    refine vcStore1_eq (skR b2 (sk0 false r priv pA2 pc2 ps (pp, pcc, par.2.2) none 0 [])) (skR b2 (sk0 false r priv pA2 pc2 ps (pp, pcc, par.2.2) (some ⟨b3, 0, none⟩) 3 wsClient)) _ (.there .here) rfl (by show (36 : Nat) < 49; decide) rfl rfl ?_
    obtain ⟨s0, hs0⟩ : ∃ s0, s0 = sk0 false r priv pA2 pc2 ps (pp, pcc, par.2.2) (some ⟨b3, 0, none⟩) 3 wsClient := ⟨_, rfl⟩
    rw [← hs0]
    refine vcCall_of .nil (hello_spec b2 s0 _ (Ent.gnO .here (fun w hw => Ob.row_at hw)) (by rw [hs0]; show priv ≤ _; omega)) (fun v own' N' hv => ?_)
    obtain ⟨Ah, ch, rfl, rfl, rfl, hch⟩ := hv
    refine vcLoad1_row (j := 34) (v := .slice pA2 ps.length pc2) (xs := cfL false r priv pA2 pc2 ps (pp, pcc, par.2.2)) (Ent.gnO (by first | ((repeat (first | exact .here | apply Take.there)); done) | exact .none_) (fun w hw => Ob.row_at hw)) rfl ?_
    refine vcFit_byte ?_
    intro b4
    have hhl := helloL_len r priv
    have hs0r : s0.rnd = r := by rw [hs0]; rfl
    have hs0p : s0.priv = priv := by rw [hs0]; rfl
    rw [hs0r, hs0p] at hch ⊢
    refine vcApp_big (Bs (helloL r priv)) _ (Bs [byteI ps.length]) (.there .here) (by rw [Bs_length]; omega) rfl (by decide) (Bs_one _) (Ent.gnO .here (fun w hw => Ob.sl_at hw)) (by omega) (fun Ab cb hcb => ?_)
    refine vcLoad1_row (j := 34) (v := .slice pA2 ps.length pc2) (xs := cfL false r priv pA2 pc2 ps (pp, pcc, par.2.2)) (Ent.gnO (by first | ((repeat (first | exact .here | apply Take.there)); done) | exact .none_) (fun w hw => Ob.row_at hw)) rfl ?_
    have hpsl : ∀ k ≤ ps.length, (psL (ps.take k)).length ≤ 33 * k := by
      intro k
      induction k with
      | zero => intro _; simp [psL]
      | succ k ih =>
        intro hk
        have h32 := (hg.2.2 ps[k] (List.getElem_mem (by omega))).2
        have hds : ps[k].data.toList.length = ps[k].size := by rw [Array.length_toList]; rfl
        have := ih (by omega)
        rw [psL_snoc (by omega), List.length_append]
        simp only [txt, List.length_cons]
        omega
    obtain ⟨hd, hhd⟩ : ∃ hd, hd = helloL r priv ++ [byteI ps.length] := ⟨_, rfl⟩
    have hhdl : hd.length = 41 := by rw [hhd]; simp [hhl]
    rw [← Bs_append, ← hhd]
    refine vcLoop_of (fun g : Nat × Option Addr × Nat => ps.length - g.1) (fun g => [(1, .pointer (some ⟨b1, 0, none⟩)), (4, .pointer (some ⟨b2, 0, none⟩)), (5, .slice g.2.1 (hd ++ psL (ps.take g.1)).length g.2.2), (65, .slice pA2 ps.length pc2), (66, .int .i64 ps.length), (67, .int .i64 g.1)])
      (fun g => [pO (g.2.1, g.2.2, hd ++ psL (ps.take g.1)), skR b2 s0, .row b1 26 (cfL false r priv pA2 pc2 ps (pp, pcc, par.2.2)) 36, .sl pp pcc 5 1 (Bs par.2.2), .sl pA2 pc2 9 1 (stL ps), .sl (some ⟨b3, 0, none⟩) 3 71 3 (wnL wsClient)])
      (fun _ => MT) (fun g => g.1 ≤ ps.length) (0, Ab, cb) (Nat.zero_le _)
      ⟨rfl, rfl, by simp [psL, hhdl, hhl]; rfl, rfl, rfl, rfl, trivial⟩ ⟨_, .cons (Take.eq (by simp [psL]; rfl)) (.cons (by first | ((repeat (first | exact .here | apply Take.there)); done) | exact .none_) (.cons (by first | ((repeat (first | exact .here | apply Take.there)); done) | exact .none_) (.cons (by first | ((repeat (first | exact .here | apply Take.there)); done) | exact .none_) (.cons (by first | ((repeat (first | exact .here | apply Take.there)); done) | exact .none_) (.cons (by first | ((repeat (first | exact .here | apply Take.there)); done) | exact .none_) .nil)))))⟩ (fun _ _ => trivial) ?_
    rintro ⟨k, A, c⟩ hk
    have hk : k ≤ ps.length := hk
    refine vcIf_dec (fun hlt => ?_) (fun hge => ?_)
    · have hk' : k < ps.length := by omega
      have h32 := (hg.2.2 ps[k] (List.getElem_mem hk')).2
      have hds : ps[k].data.toList.length = ps[k].size := by rw [Array.length_toList]; rfl
      have hpk := hpsl k hk
      have hcl : (hd ++ psL (ps.take k)).length = 41 + (psL (ps.take k)).length := by rw [List.length_append, hhdl]
      refine vcIdx_nat k rfl (Ent.gnO (by first | ((repeat (first | exact .here | apply Take.there)); done) | exact .none_) (fun w hw => Ob.sl_at hw)) hk' (by rw [stL_len]; omega) (fun a ha => ?_)
      refine vcLoad1_row (xs := stL ps) (Ent.gnO (o := .sl pA2 pc2 9 1 (stL ps)) (by first | ((repeat (first | exact .here | apply Take.there)); done) | exact .none_) (fun w hw => by rw [← ha]; exact Ob.sl_at hw)) (stL_get hk') ?_
      refine vcFit_byte ?_
      intro b5
      refine vcApp_big (Bs (hd ++ psL (ps.take k))) _ (Bs [byteI ps[k].size]) (.there .here) (by rw [Bs_length]; exact (Nat.mul_one _).symm) rfl (by decide) (Bs_one _) (Ent.gnO .here (fun w hw => Ob.sl_at hw)) (by first | omega | (simp only; omega)) (fun A2 c2 hc2 => ?_)
      refine vcAppS.intro (Bs (hd ++ psL (ps.take k)) ++ Bs [byteI ps[k].size]) _ .here (by rw [List.length_append, Bs_length, Bs_length]; rfl) (by rw [hds]; first | omega | (simp only; omega)) (fun A3 c3 hc3 => ?_)
      refine vcFit_i64 (by first | omega | (simp only; omega)) ?_
      have e : Bs (hd ++ psL (ps.take k)) ++ Bs [byteI ps[k].size] ++ Bs ps[k].data.toList = Bs (hd ++ psL (ps.take (k + 1))) := by
        rw [← Bs_append, ← Bs_append, psL_snoc hk']
        simp only [txt, byteI_nat, hds, List.append_assoc, List.cons_append, List.nil_append]
      have el : (hd ++ psL (ps.take k)).length + 1 + ps[k].data.toList.length = (hd ++ psL (ps.take (k + 1))).length := by
        have := congrArg List.length e
        simpa only [List.length_append, Bs_length, List.length_cons, List.length_nil, Nat.zero_add] using this
      rw [e]
      refine ⟨(k + 1, A3, c3), hk', (by first | omega | (simp only; omega)), ⟨rfl, rfl, ?_, rfl, rfl, rfl, trivial⟩, ⟨_, .cons .here (.cons (by first | ((repeat (first | exact .here | apply Take.there)); done) | exact .none_) (.cons (by first | ((repeat (first | exact .here | apply Take.there)); done) | exact .none_) (.cons (by first | ((repeat (first | exact .here | apply Take.there)); done) | exact .none_) (.cons (by first | ((repeat (first | exact .here | apply Take.there)); done) | exact .none_) (.cons (by first | ((repeat (first | exact .here | apply Take.there)); done) | exact .none_) .nil)))))⟩, fun _ _ => trivial⟩
      exact congrArg (fun n => some (Value.slice A3 n c3)) el
    · obtain rfl : k = ps.length := by omega
      have hpk := hpsl ps.length (Nat.le_refl _)
      rw [List.take_length] at hpk ⊢
      have hcl : (hd ++ psL ps).length = 41 + (psL ps).length := by rw [List.length_append, hhdl]
      have hbody : bodyL r priv ps par.2.2 = hd ++ psL ps ++ lng par.2.2 := by rw [hhd, byteI_nat]; rfl
      have hlen : (hd ++ psL ps).length + (lng par.2.2).length = (bodyL r priv ps par.2.2).length := by rw [hbody]; simp only [List.length_append]
      have hll : (lng par.2.2).length = par.2.2.length + 2 := by simp [lng]
      refine vcLoad1_row (j := 35) (v := .slice pp par.2.2.length pcc) (xs := cfL false r priv pA2 pc2 ps (pp, pcc, par.2.2)) (Ent.gnO (by first | ((repeat (first | exact .here | apply Take.there)); done) | exact .none_) (fun w hw => Ob.row_at hw)) rfl ?_
      refine vcCall_of .nil (lng_spec pp pcc par.2.2 _ (Ent.gnO (by first | ((repeat (first | exact .here | apply Take.there)); done) | exact .none_) (fun w hw => Ob.sl_at hw)) (by omega)) (fun v own' N' hv => ?_)
      obtain ⟨Al, cl, rfl, rfl, rfl, hcl2⟩ := hv
      refine vcApp_big (Bs (hd ++ psL ps)) _ (Bs (lng par.2.2)) (.there .here) (by rw [Bs_length]; exact (Nat.mul_one _).symm) (by rw [Bs_length]; exact (Nat.mul_one _).symm) (by decide) (Bs_one _) (Ent.gnO .here (fun w hw => Ob.sl_at hw)) (by omega) (fun A2 c2 hc2 => ?_)
      rw [← Bs_append, hlen, ← hbody]
      subst hs0
      refine vcCall_of (A := skO b2 (sk0 false r priv pA2 pc2 ps (pp, pcc, par.2.2) (some ⟨b3, 0, none⟩) 3 wsClient)) (.cons (.there (.there .here)) (.cons .none_ (.cons .none_ (.cons .none_ (.cons .none_ .nil))))) (say_spec b2 _ 1 0 A2 c2 (bodyL r priv ps par.2.2) _ (Ent.gnO .here (fun w hw => Ob.sl_at hw)) (by rw [← hlen]; omega) (Nat.zero_le _) (Nat.zero_le _) (by intro f hf; cases hf)) (fun v own' N' hv => ?_)
      obtain ⟨As, cs, oA, oc, out, rfl, rfl, rfl, hout⟩ := hv
      refine ⟨_, _, SkF (sk0 false r priv pA2 pc2 ps (pp, pcc, par.2.2) (some ⟨b3, 0, none⟩) 3 wsClient), Pick.front, facts b3 3 wsClient _ _ (by simp) (by simp) (by simp), ?_⟩
      exact .inl ⟨hgood, b2, pA2, pc2, pp, pcc, some ⟨b3, 0, none⟩, 3, As, cs, oA, oc, out, rfl, rfl, Ent.refl, hout⟩
end Go.Proofs.Yticllmnblcjjcaa
