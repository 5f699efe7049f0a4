/- Headers: Parse, its deferred closure included. -/
import Derived.Test.YtlobimomeeppeaaHdrE
namespace Go.Proofs.Ytlobimomeeppeaa
open Go Go.Proofs
set_option maxRecDepth 10000

noncomputable def parseA : Code := match Try.f11.body with
  | some (.seq a _) => a
  | _ => .skip
noncomputable def parseB : Code := match Try.f11.body with
  | some (.seq _ (.seq b _)) => b
  | _ => .skip

theorem parse_spec (A : Option Addr) (c : Nat) (bs : List UInt8) (cid : Int) (G : Mp) (h1 : Ent G (RowAt A (Bs bs))) (hm : bs.length ≤ 211106232530000) (hm2 : bs.length ≤ 70368744177664 ∨ ∀ x r, bs = x :: r → 128 ≤ x.toNat → ∀ p, wordP bs 1 ≠ .ok (0, p)) :
    Spec Try.prog 11 #[.slice A bs.length c, .int .i64 cid] [] G (ParsePost (parseT bs cid)) := by
  refine ⟨Try.call11, fun w hw => ?_⟩
  have hC : (Ctx.mk w [] G).ok := hw
  refine calls_of_wp_defers (c := parseA.seq (parseB.seq parseTail)) Try.func11 rfl ?_
  refine wp_seq ?_
  refine vc_does (X := noX) (D := noD) (C := ⟨w, [], G⟩) hC (n := Try.f11.ntmps) (cuts := []) wide parseA (by rfl)
    (Q := fun ex fm own N => ex = .normal ∧ ∃ a b5 b6 b7, N = MT ∧ own = [.row b7 27 [.int .i64 0] 1, .row b6 3 [.int .i64 0] 1, .row b5 3 [.int .i64 0] 1, hdrO a zeroC] ∧
      fmLe [(0, .slice A bs.length c), (1, .int .i64 cid), (4, .pointer (some ⟨a, 0, none⟩)), (5, .pointer (some ⟨b5, 0, none⟩)), (6, .pointer (some ⟨b6, 0, none⟩)), (7, .pointer (some ⟨b7, 0, none⟩))] fm) ?_ (fun _ _ _ _ _ hx => hx.elim) (initFm_ok (args := [.slice A bs.length c, .int .i64 cid]) (Nat.le_of_ble_eq_true rfl)) (Ctx.start hC) ?_
  rotate_left
  · intro a b5 b6 b7
    exact ⟨rfl, a, b5, b6, b7, rfl, rfl, ⟨rfl, rfl, rfl, rfl, rfl, rfl, trivial⟩⟩
  rintro ex fm own N ⟨tm, df⟩ w1 ⟨rfl, a, b5, b6, b7, rfl, rfl, hle⟩ hfm hinv
  have hfm := hfm.le hle
  obtain ⟨hsz, hdf, hget⟩ := hfm
  obtain ⟨hdf, _⟩ := hdf
  simp only [noD] at hdf hget hsz
  subst hdf
  have g4 : tm[4]? = some (.pointer (some ⟨a, 0, none⟩)) := hget 4 _ rfl
  have g5 : tm[5]? = some (.pointer (some ⟨b5, 0, none⟩)) := hget 5 _ rfl
  have g6 : tm[6]? = some (.pointer (some ⟨b6, 0, none⟩)) := hget 6 _ rfl
  have g7 : tm[7]? = some (.pointer (some ⟨b7, 0, none⟩)) := hget 7 _ rfl
  have h10 : 10 < tm.size := by rw [hsz]; exact Nat.le_of_ble_eq_true rfl
  refine wp_seq ?_
  refine wp_region_list ?_
  simp [wpList, go_sem, Exit.then, g4, g5, g6, g7, h10]
  refine .inl (.inl ?_)
  have hi : ∀ t, t < 8 → (tm.setIfInBounds 10 (Value.func (Fn.func 27) #[] #[Value.pointer (some ⟨a, 0, none⟩), Value.pointer (some ⟨b5, 0, none⟩), Value.pointer (some ⟨b6, 0, none⟩), Value.pointer (some ⟨b7, 0, none⟩)]))[t]? = tm[t]? := fun t ht => Array.getElem?_setIfInBounds_ne (by omega)
  refine vc_does (X := XP (parseL bs cid) a b5 b6 b7) (C := ⟨w, [], G⟩) hC (n := Try.f11.ntmps) (cuts := [22, 25]) (D := ⟨[⟨.fn (.func 27) #[Value.pointer (some ⟨a, 0, none⟩), Value.pointer (some ⟨b5, 0, none⟩), Value.pointer (some ⟨b6, 0, none⟩), Value.pointer (some ⟨b7, 0, none⟩)], #[]⟩], 8, tm⟩) wide parseTail (by rfl) ?_ ?_ ?_ hinv (parse_tail a b5 b6 b7 A c bs cid G h1 hm hm2)
  · intro ex fm own N a' w' hq hfm hinv
    have fin : vcRet Try.prog G Try.f11.results.toList (ParsePost (parseT bs cid)) fm own N → Leaves Try.prog Try.f11 a'.tmps (fun e w' => ∃ v, e = Ending.returned v ∧ ∃ own N, ParsePost (parseT bs cid) v own N ∧ Inv w (blksOf []) w' own N) a'.defers .returning w' := by
      intro hq
      obtain ⟨v, hr, own, N, hP, hI⟩ := results_run (C := ⟨w, [], G⟩) hC hfm hinv hq
      rw [hfm.defers.ds]
      refine leaves_cons (f := 27) (args := #[.pointer (some ⟨a, 0, none⟩), .pointer (some ⟨b5, 0, none⟩), .pointer (some ⟨b6, 0, none⟩), .pointer (some ⟨b7, 0, none⟩)]) (by simp) (by simp [go_sem]) ?_
      refine (catch_idle a b5 b6 b7 w').mono ?_
      rintro e u' w'' ⟨rfl, rfl, rfl⟩
      simp only [settle]
      exact ⟨v, hr, v, rfl, own, N, hP, hI⟩
    cases ex with
    | normal => exact fin hq
    | ret => exact fin hq
    | _ => exact hq.elim
  · intro ch own N a' w' hx hk hinv
    obtain ⟨e, hc, i, j, k, rest, hr, rfl, hp, hl⟩ := hx
    show Leaves _ _ a'.tmps _ a'.defers (.panicking [pE e]) w'
    rw [hk.ds]
    refine leaves_cons (f := 27) (args := #[.pointer (some ⟨a, 0, none⟩), .pointer (some ⟨b5, 0, none⟩), .pointer (some ⟨b6, 0, none⟩), .pointer (some ⟨b7, 0, none⟩)]) (by simp) (by simp [go_sem]) ?_
    refine (catch_pan hC a b5 b6 b7 e hc i j k rest N hl w' (hinv.picked hp)).mono ?_
    rintro en u' w'' ⟨rfl, rfl, hinv'⟩
    have g : ∀ t v, t < 8 → tm[t]? = some v → a'.tmps[t]? = some v := fun t v h8 h => (hk.base t h8).trans h
    have hfm' : FmOk noD a'.tmps.size [(4, .pointer (some ⟨a, 0, none⟩)), (5, .pointer (some ⟨b5, 0, none⟩)), (6, .pointer (some ⟨b6, 0, none⟩)), (7, .pointer (some ⟨b7, 0, none⟩))] { tmps := a'.tmps, defers := [] } := by
      refine ⟨rfl, ⟨rfl, fun t ht => absurd ht (Nat.not_lt_zero t)⟩, ?_⟩
      intro t v ht
      rcases t with _ | _ | _ | _ | _ | _ | _ | _ | t
      case succ.succ.succ.succ.zero => cases ht; exact g 4 _ (by omega) g4
      case succ.succ.succ.succ.succ.zero => cases ht; exact g 5 _ (by omega) g5
      case succ.succ.succ.succ.succ.succ.zero => cases ht; exact g 6 _ (by omega) g6
      case succ.succ.succ.succ.succ.succ.succ.zero => cases ht; exact g 7 _ (by omega) g7
      all_goals cases ht
    have hq : vcRet Try.prog G Try.f11.results.toList (ParsePost (parseT bs cid)) [(4, .pointer (some ⟨a, 0, none⟩)), (5, .pointer (some ⟨b5, 0, none⟩)), (6, .pointer (some ⟨b6, 0, none⟩)), (7, .pointer (some ⟨b7, 0, none⟩))]
        (.row b7 27 [.int .i64 e] 1 :: .row b6 3 [.int .i64 0] 1 :: .row b5 3 [.int .i64 0] 1 :: hdrO a zeroC :: rest) N := by
      rw [parseT_err hr]
      refine vcLoadN_0 (xs := zeroC) (by first | exact Ent.gnO (by repeat first | exact .here | apply Take.there) (fun w hw => Ob.sl_at hw) | exact Ent.gnO (by repeat first | exact .here | apply Take.there) (fun w hw => Ob.row_at hw)) rfl ?_
      refine vcLoad1_0 (xs := [.int .i64 0]) (Ent.gnO (.there (.there .here)) (fun w hw => Ob.row_at hw)) rfl ?_
      refine vcLoad1_0 (xs := [.int .i64 0]) (Ent.gnO (.there .here) (fun w hw => Ob.row_at hw)) rfl ?_
      refine vcLoad1_0 (xs := [.int .i64 e]) (Ent.gnO .here (fun w hw => Ob.row_at hw)) rfl ?_
      exact ⟨[], _, MT, .nil, fun _ _ _ => trivial, (none, 0), (none, 0), (none, 0), (none, 0), rfl, rfl, HdrM_0 _⟩
    obtain ⟨v, hrr, own, N, hP, hI⟩ := results_run (C := ⟨w, [], G⟩) hC hfm' hinv' hq
    exact ⟨v, hrr, v, rfl, own, N, hP, hI⟩
  · refine ⟨by simp [hsz], ⟨rfl, hi⟩, ?_⟩
    intro t v ht
    have h8 : t < 8 := by
      rcases Nat.lt_or_ge t 8 with h | h
      · exact h
      · exfalso
        rcases t with _ | _ | _ | _ | _ | _ | _ | _ | t
        all_goals first | omega | cases ht
    show (tm.setIfInBounds 10 _)[t]? = some v
    rw [hi t h8]
    exact hget t v ht
end Go.Proofs.Ytlobimomeeppeaa
