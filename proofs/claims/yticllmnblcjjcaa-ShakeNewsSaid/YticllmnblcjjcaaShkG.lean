/- Layer 10: the reference's New. -/
import Derived.Test.YticllmnblcjjcaaShkF
namespace Go.Proofs.Yticllmnblcjjcaa
open Go.Proofs
set_option maxRecDepth 10000

def lvL (fd : List Fl) : List Value := fd.map fun f => .int .i64 f.1
def odL (fd : List Fl) : List Value := fd.map fun f => pieceV f.2
def FdF (lA oA : Option Addr) (fd : List Fl) : Mp := fun w => RowAt lA (lvL fd) w ∧ RowAt oA (odL fd) w ∧ ∀ f ∈ fd, RowAt f.2.1 (Bs f.2.2.2) w
def RNewTo (server : Bool) (r : Nat → UInt8) (rA : Option Addr) (rc : Nat) (priv : Int) (pA : Option Addr) (pc : Nat) (ps : List ByteArray) (par : Piece) (v : Value) (own : List Ob) (N : Mp) : Prop :=
  ∃ d sA sc lA lc oA oc fd, v = .pointer (some ⟨d, 0, none⟩) ∧ own = [sdR d server rA rc priv pA pc ps par sA sc lA lc oA oc (if server then 0 else 1) fd.length] ∧ Ent N (FdF lA oA fd) ∧ outs fd = (if server then [] else [(0, hi0 server r priv ps par.2.2)])
theorem rnew_spec (server : Bool) (r : Nat → UInt8) (rA : Option Addr) (rc : Nat) (priv : Int) (pA : Option Addr) (pc : Nat) (ps : List ByteArray) (par : Piece) (G : Mp) (h0 : Ent G (RowAt rA (Bs (rn r)))) (h1 : Ent G (RowAt pA (stL ps))) (h2 : Ent G (RowAt par.1 (Bs par.2.2))) (hgood : goodC priv ps par.2.2) :
    Spec Try.prog 19 #[.bool server, .slice rA 32 rc, .int .i64 priv, .slice pA ps.length pc, pieceV par] [] G (RNewTo server r rA rc priv pA pc ps par) := by
  refine Spec.intro (args := [_, _, _, _, _]) wide Try.func19 rfl Try.call19 (by rfl) (by rfl) (fun w0 hw0 => ?_)
  intro d
  have hg := hgood.2.2.1
  have hps := hg.2.1
  have hparl := hgood.2.2.2
  have hp1 := hgood.2.1
  refine vcIf_split (fun hsv => ?_) (fun hsv => ?_)
  · subst hsv
    exact ⟨[sdR d true rA rc priv pA pc ps par none 0 none 0 none 0 0 0], _, FdF none none [], .cons .here .nil, fun w _ _ => ⟨nil_row, nil_row, fun f hf => nomatch hf⟩, d, none, 0, none, 0, none, 0, [], rfl, rfl, Ent.refl, rfl⟩
  · subst hsv
    have hrow : ∀ {own : List Ob} {N : Mp} {rest : List Ob}, Take (sdR d false rA rc priv pA pc ps par none 0 none 0 none 0 0 0) own rest → Ent (GN G own N) (RowAt (some ⟨d, 0, none⟩) (sdL false rA rc priv pA pc ps par none 0 none 0 none 0 0 0)) := fun ht => Ent.gnO ht (fun w hw => Ob.row_at hw)
    refine vcCall_of .nil (rhello_spec d r false rA rc priv pA pc ps par _ (hrow .here) (Ent.gnG h0) (by omega)) (fun v own' N' hv => ?_)
    obtain ⟨Ah, ch, rfl, rfl, rfl, hch⟩ := hv
    have hhl := helloL_len r priv
    refine vcFit_byte ?_
    intro b4 b5
    obtain ⟨hd, hhd⟩ : ∃ hd, hd = helloL r priv ++ [byteI ps.length] := ⟨_, rfl⟩
    have hhdl : hd.length = 41 := by rw [hhd]; simp [hhl]
    have e : pieces [(Ah, ch, helloL r priv), (some ⟨b4, 0, none⟩, 1, [byteI ps.length])] = hd := by simp [pieces, hhd]
    refine vcCall_of .nil (join_spec (some ⟨b5, 0, none⟩) 2 [(Ah, ch, helloL r priv), (some ⟨b4, 0, none⟩, 1, [byteI ps.length])] _ (Ent.gnO .here (fun w hw => Ob.sl_at hw)) (fun p hp => ?_) (by rw [e, hhdl]; decide) (by simp)) (fun v own' N' hv => ?_)
    · simp only [List.mem_cons, List.not_mem_nil, or_false] at hp
      rcases hp with rfl | rfl
      · exact (Ent.gnO (.there (.there .here)) (fun w hw => Ob.sl_at hw))
      · exact (Ent.gnO (.there .here) (fun w hw => Ob.sl_at hw))
    rw [e] at hv
    obtain ⟨Ab, cb, rfl, rfl, rfl, hcb⟩ := hv
    have hpsl : ∀ k ≤ ps.length, (psL (ps.take k)).length ≤ 33 * k := by
      intro k
      induction k with
      | zero => intro _; simp [psL]
      | succ k ih =>
        intro hk
        have h32 := (hg.2.2 ps[k] (List.getElem_mem (by omega))).2
        have hds : ps[k].data.toList.length = ps[k].size := by rw [Array.length_toList]; rfl
        have := ih (by omega)
        rw [psL_snoc (by omega), List.length_append]
        simp only [txt, List.length_cons]
        omega
    refine vcLoop_of (fun g : Nat × Option Addr × Nat => ps.length - g.1) (fun g => [(3, .slice pA ps.length pc), (4, pieceV par), (11, .pointer (some ⟨d, 0, none⟩)), (12, .slice g.2.1 (hd ++ psL (ps.take g.1)).length g.2.2), (13, .int .i64 g.1)])
      (fun g => [pO (g.2.1, g.2.2, hd ++ psL (ps.take g.1)), sdR d false rA rc priv pA pc ps par none 0 none 0 none 0 0 0])
      (fun _ => MT) (fun g => g.1 ≤ ps.length) (0, Ab, cb) (Nat.zero_le _)
      ⟨rfl, rfl, rfl, by simp [psL]; rfl, rfl, trivial⟩ ⟨_, .cons (Take.eq (by simp [psL]; rfl)) (.cons (by first | ((repeat (first | exact .here | apply Take.there)); done) | exact .none_) .nil)⟩ (fun _ _ => trivial) ?_
    rintro ⟨k, A, c⟩ hk
    have hk : k ≤ ps.length := hk
    refine vcIf_dec (fun hlt => ?_) (fun hge => ?_)
    · have hk' : k < ps.length := by omega
      have h32 := (hg.2.2 ps[k] (List.getElem_mem hk')).2
      have hds : ps[k].data.toList.length = ps[k].size := by rw [Array.length_toList]; rfl
      have hpk := hpsl k hk
      have hcl : (hd ++ psL (ps.take k)).length = 41 + (psL (ps.take k)).length := by rw [List.length_append, hhdl]
      refine vcIdx_nat k rfl (Ent.gnG h1) hk' (by rw [stL_len]; omega) (fun a ha => ?_)
      refine vcLoad1_row (xs := stL ps) (Ent.gnG (ha ▸ h1)) (stL_get hk') ?_
      intro b6 c6 hc6
      refine vcCall_of .nil (text_spec (some ⟨b6, 0, none⟩) c6 ps[k].data.toList _ (Ent.gnO .here (fun w hw => Ob.sl_at hw)) (by omega)) (fun v own' N' hv => ?_)
      obtain ⟨At, ct, rfl, rfl, rfl, hct⟩ := hv
      intro b7
      have e : pieces [(A, c, hd ++ psL (ps.take k)), (At, ct, txt ps[k].data.toList)] = hd ++ psL (ps.take (k + 1)) := by rw [psL_snoc hk']; simp [pieces]
      have el : (hd ++ psL (ps.take (k + 1))).length = (hd ++ psL (ps.take k)).length + 1 + ps[k].size := by rw [psL_snoc hk', List.length_append, List.length_append, List.length_append]; simp only [txt, List.length_cons]; omega
      refine vcCall_of .nil (join_spec (some ⟨b7, 0, none⟩) 2 [(A, c, hd ++ psL (ps.take k)), (At, ct, txt ps[k].data.toList)] _ (Ent.gnO .here (fun w hw => Ob.sl_at hw)) (fun p hp => ?_) (by rw [e]; omega) (by simp)) (fun v own' N' hv => ?_)
      · simp only [List.mem_cons, List.not_mem_nil, or_false] at hp
        rcases hp with rfl | rfl
        · exact Ent.gnO (.there (.there (.there .here))) (fun w hw => Ob.sl_at hw)
        · exact (Ent.gnO (.there .here) (fun w hw => Ob.sl_at hw))
      rw [e] at hv
      obtain ⟨A3, c3, rfl, rfl, rfl, hc3⟩ := hv
      refine vcFit_i64 (by first | omega | (simp only; omega)) ?_
      exact ⟨(k + 1, A3, c3), hk', (by first | omega | (simp only; omega)), ⟨rfl, rfl, rfl, rfl, rfl, trivial⟩, ⟨_, .cons .here (.cons (by first | ((repeat (first | exact .here | apply Take.there)); done) | exact .none_) .nil)⟩, fun _ _ => trivial⟩
    · obtain rfl : k = ps.length := by omega
      have hpk := hpsl ps.length (Nat.le_refl _)
      rw [List.take_length] at hpk ⊢
      have hcl : (hd ++ psL ps).length = 41 + (psL ps).length := by rw [List.length_append, hhdl]
      have hbody : bodyL r priv ps par.2.2 = hd ++ psL ps ++ lng par.2.2 := by rw [hhd, byteI_nat]; rfl
      have hlen : (bodyL r priv ps par.2.2).length = (hd ++ psL ps).length + (lng par.2.2).length := by rw [hbody]; simp only [List.length_append]
      have hll : (lng par.2.2).length = par.2.2.length + 2 := by simp [lng]
      refine vcCall_of .nil (two_spec par.2.2.length (by omega) _) (fun v own' N' hv => ?_)
      obtain ⟨A2, c2, rfl, rfl, rfl, hc2⟩ := hv
      intro b8
      have e : pieces [(A, c, hd ++ psL ps), (A2, c2, [UInt8.ofNat (par.2.2.length / 256 % 256), UInt8.ofNat (par.2.2.length % 256)]), par] = bodyL r priv ps par.2.2 := by rw [hbody]; simp [pieces, lng]
      refine vcCall_of .nil (join_spec (some ⟨b8, 0, none⟩) 3 [(A, c, hd ++ psL ps), (A2, c2, [UInt8.ofNat (par.2.2.length / 256 % 256), UInt8.ofNat (par.2.2.length % 256)]), par] _ (Ent.gnO .here (fun w hw => Ob.sl_at hw)) (fun p hp => ?_) (by rw [e]; omega) (by simp)) (fun v own' N' hv => ?_)
      · simp only [List.mem_cons, List.not_mem_nil, or_false] at hp
        rcases hp with rfl | rfl | rfl
        · exact (Ent.gnO (.there (.there .here)) (fun w hw => Ob.sl_at hw))
        · exact (Ent.gnO (.there .here) (fun w hw => Ob.sl_at hw))
        · exact Ent.gnG h2
      rw [e] at hv
      obtain ⟨A3, c3, rfl, rfl, rfl, hc3⟩ := hv
      refine vcCall_of (A := [sdR d false rA rc priv pA pc ps par none 0 none 0 none 0 0 0]) (.cons (by first | ((repeat (first | exact .here | apply Take.there)); done) | exact .none_) .nil) (rsay_spec d false rA rc priv pA pc ps par 0 1 A3 c3 (bodyL r priv ps par.2.2) _ (Ent.gnO .here (fun w hw => Ob.sl_at hw)) (by omega)) (fun v own' N' hv => ?_)
      obtain ⟨sA, sc, lA, lc, oA, oc, Am, cm, rfl, rfl, f1, f2, f3⟩ := hv
      refine ⟨[sdR d false rA rc priv pA pc ps par sA sc lA lc oA oc 1 1], _, FdF lA oA [(0, (Am, cm, msg 1 (bodyL r priv ps par.2.2)))], .cons .here .nil, fun w hw _ => ⟨f1 w hw.2, f2 w hw.2, fun f hf => ?_⟩, d, sA, sc, lA, lc, oA, oc, [(0, (Am, cm, msg 1 (bodyL r priv ps par.2.2)))], rfl, rfl, Ent.refl, rfl⟩
      rw [List.mem_singleton.1 hf]
      exact f3 w hw.2
end Go.Proofs.Yticllmnblcjjcaa
