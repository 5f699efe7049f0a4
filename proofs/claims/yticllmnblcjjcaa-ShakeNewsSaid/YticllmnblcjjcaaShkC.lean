/- Layer 10: a side in memory; hello, say, Out. -/
import Derived.Test.YticllmnblcjjcaaShkB
namespace Go.Proofs.Yticllmnblcjjcaa
open Go.Proofs
set_option maxRecDepth 10000

/-- 32 bytes, one by one. -/
def rn (r : Nat → UInt8) : List UInt8 := [r 0, r 1, r 2, r 3, r 4, r 5, r 6, r 7, r 8, r 9, r 10, r 11, r 12, r 13, r 14, r 15, r 16, r 17, r 18, r 19, r 20, r 21, r 22, r 23, r 24, r 25, r 26, r 27, r 28, r 29, r 30, r 31]
structure Wn where
  kind : Int
  level : Int
  take : FuncId
abbrev Fl := Int × Piece
/-- A side: what is known of it, with its addresses. -/
structure Sk where
  server : Bool
  rnd : Nat → UInt8
  priv : Int
  pA : Option Addr
  pc : Nat
  ps : List ByteArray
  par : Piece
  wA : Option Addr
  wc : Nat
  ws : List Wn
  k0 : Piece
  k1 : Piece
  failed : Bool
  said : Piece
  oA : Option Addr
  oc : Nat
  out : List Fl
  root : Piece
  hc : Piece
  hs : Piece
  ac : Piece
  as_ : Piece
  proto : ByteArray
  peer : Piece
def cfL (server : Bool) (r : Nat → UInt8) (priv : Int) (pA : Option Addr) (pc : Nat) (ps : List ByteArray) (par : Piece) : List Value :=
  .bool server :: (Bs (rn r) ++ [.int .i64 priv, .slice pA ps.length pc, pieceV par])
def skL (s : Sk) : List Value :=
  .bool s.server :: (Bs (rn s.rnd) ++ [.int .i64 s.priv, .slice s.pA s.ps.length s.pc, pieceV s.par, .slice s.wA s.ws.length s.wc, pieceV s.k0, pieceV s.k1, .bool s.failed, pieceV s.said, .slice s.oA s.out.length s.oc, pieceV s.root, pieceV s.hc, pieceV s.hs, pieceV s.ac, pieceV s.as_, .string s.proto, pieceV s.peer])
def wnL (ws : List Wn) : List Value := ws.flatMap fun w => [.int .i64 w.kind, .int .i64 w.level, .func (.func w.take) #[] #[]]
def flV (f : Fl) : List Value := [.int .i64 f.1, pieceV f.2]
def flL (out : List Fl) : List Value := out.flatMap flV
def pO (p : Piece) : Ob := .sl p.1 p.2.1 5 1 (Bs p.2.2)
def flO (out : List Fl) : List Ob := out.map fun f => pO f.2
def skR (b : Nat) (s : Sk) : Ob := .row b 65 (skL s) 49
def skO (b : Nat) (s : Sk) : List Ob := skR b s :: pO s.k0 :: pO s.k1 :: pO s.said :: .sl s.oA s.oc 56 2 (flL s.out) :: flO s.out
theorem flL_len (l : List Fl) : (flL l).length = l.length * 2 := by
  induction l with
  | nil => rfl
  | cons f r ih => simp only [flL, List.flatMap_cons, List.length_append] at ih ⊢; rw [ih]; simp [flV]; omega
theorem flL_one (l : List Fl) : ∀ v ∈ flL l, oneCell v = true := by
  intro v hv
  simp only [flL, List.mem_flatMap] at hv
  obtain ⟨x, _, hx⟩ := hv
  simp only [flV, List.mem_cons, List.not_mem_nil, or_false] at hx
  rcases hx with rfl | rfl <;> rfl
theorem flL_app (l m : List Fl) : flL (l ++ m) = flL l ++ flL m := by simp [flL]
theorem flO_app (l m : List Fl) : flO (l ++ m) = flO l ++ flO m := by simp [flO]
theorem flL_get0 {l : List Fl} {k : Nat} (hk : k < l.length) : (flL l)[k * 2]? = some (.int .i64 l[k].1) := by
  have h : flL l = flL (l.take k) ++ flL (l.drop k) := by rw [← flL_app, List.take_append_drop]
  have hl : (flL (l.take k)).length = k * 2 := by rw [flL_len, List.length_take, Nat.min_eq_left (by omega)]
  rw [h, List.getElem?_append_right (by omega), hl, Nat.sub_self, List.drop_eq_getElem_cons hk]
  rfl
theorem flL_get1 {l : List Fl} {k : Nat} (hk : k < l.length) : (flL l)[k * 2 + 1]? = some (pieceV l[k].2) := by
  have h : flL l = flL (l.take k) ++ flL (l.drop k) := by rw [← flL_app, List.take_append_drop]
  have hl : (flL (l.take k)).length = k * 2 := by rw [flL_len, List.length_take, Nat.min_eq_left (by omega)]
  rw [h, List.getElem?_append_right (by omega), hl, show k * 2 + 1 - k * 2 = 1 from by omega, List.drop_eq_getElem_cons hk]
  rfl
theorem flL_set1 (pre : List Fl) (lv : Int) (p q : Piece) : (flL (pre ++ [(lv, p)])).set (pre.length * 2 + 1) (pieceV q) = flL (pre ++ [(lv, q)]) := by
  rw [flL_app, flL_app, List.set_append_right _ _ (by rw [flL_len]; omega), flL_len, show pre.length * 2 + 1 - pre.length * 2 = 1 from by omega]
  rfl

/-- What is said at a level, laid to what has been said. -/
def sayL (o : List (Int × List UInt8)) (lv : Int) (m : List UInt8) : List (Int × List UInt8) :=
  match o.getLast? with
  | some (l, d) => if l = lv then o.dropLast ++ [(l, d ++ m)] else o ++ [(lv, m)]
  | none => [(lv, m)]
def outs (l : List Fl) : List (Int × List UInt8) := l.map fun f => (f.1, f.2.2.2)
def SayTo (b : Nat) (s : Sk) (k lv : Int) (xs : List UInt8) (v : Value) (own : List Ob) (N : Mp) : Prop :=
  ∃ A c oA oc out, v = .tuple #[] ∧ own = skO b { s with said := (A, c, s.said.2.2 ++ msg k xs), oA := oA, oc := oc, out := out } ∧ N = MT ∧ outs out = sayL (outs s.out) lv (msg k xs)
theorem vcStore1_eq {own : List Ob} {b : Addr} {i j : Nat} {v : Value} {k : List Ob → Prop} (o o' : Ob) (rest : List Ob) (ht : Take o own rest) (hb : o.base = some b) (hi : i + j < o.cells.length) (h1 : oneCell v = true) (e : o.set (i + j) v = o')
    (hk : k (o' :: rest)) : vcStore1 own ((b.add i).add j) v k := by subst e; exact vcStore1_1 o rest ht hb hi h1 hk
theorem vcStore2_eq {own : List Ob} {b : Addr} {i j l : Nat} {v : Value} {k : List Ob → Prop} (o o' : Ob) (rest : List Ob) (ht : Take o own rest) (hb : o.base = some b) (hi : i + j + l < o.cells.length) (h1 : oneCell v = true) (e : o.set (i + j + l) v = o')
    (hk : k (o' :: rest)) : vcStore1 own (((b.add i).add j).add l) v k := by subst e; exact vcStore1_2 o rest ht hb hi h1 hk
theorem Pick.snocA {s : List Ob} {o x : Ob} : ∃ r, Pick (s ++ [o]) (o :: x :: s) r := by
  obtain ⟨r, h, _⟩ := Pick.perm (s := s ++ [o]) (l := o :: x :: s) (r := [x]) (by rw [List.append_assoc]; exact List.perm_append_comm)
  exact ⟨r, h⟩
theorem Pick.snocB {s : List Ob} {o x : Ob} : ∃ r, Pick (s ++ [o]) (x :: o :: s) r := by
  obtain ⟨r, h, _⟩ := Pick.perm (s := s ++ [o]) (l := x :: o :: s) (r := [x]) (by rw [List.append_assoc]; exact List.perm_append_comm.trans (List.Perm.swap x o s))
  exact ⟨r, h⟩
theorem sayL_same (o : List (Int × List UInt8)) (l : Int) (d m : List UInt8) : sayL (o ++ [(l, d)]) l m = o ++ [(l, d ++ m)] := by simp [sayL]
theorem sayL_new {o : List (Int × List UInt8)} {l lv : Int} {d m : List UInt8} (h : l ≠ lv) : sayL (o ++ [(l, d)]) lv m = (o ++ [(l, d)]) ++ [(lv, m)] := by simp [sayL, h]
theorem say_spec (b : Nat) (s : Sk) (k lv : Int) (A : Option Addr) (c : Nat) (xs : List UInt8) (G : Mp) (h1 : Ent G (RowAt A (Bs xs))) (hx : xs.length ≤ 1099511627776) (hsd : s.said.2.2.length ≤ 1099511627776) (ho : s.out.length ≤ 1000) (hod : ∀ f ∈ s.out, f.2.2.2.length ≤ 1099511627776) :
    Spec Try.prog 34 #[.pointer (some ⟨b, 0, none⟩), .int .i64 k, .int .i64 lv, .slice A xs.length c] (skO b s) G (SayTo b s k lv xs) := by
  refine Spec.intro (args := [_, _, _, _]) wide Try.func34 rfl Try.call34 (by rfl) (by rfl) (fun w0 hw0 => ?_)
  refine vcCall_of .nil (msg_spec k A c xs _ (Ent.gnG h1) (by omega)) (fun v own' N' hv => ?_); obtain ⟨Am, cm, rfl, rfl, rfl, hcm⟩ := hv
  have hml := msg_length k xs
  refine vcLoad1_row (j := 40) (Ent.gnO (.there .here) (fun w hw => Ob.row_at hw)) rfl ?_
  refine vcApp_big (Bs s.said.2.2) _ (Bs (msg k xs)) (.there (.there (.there (.there .here)))) (by rw [Bs_length]; omega) (by rw [Bs_length]; omega) (by decide) (Bs_one _) (Ent.gnO .here (fun w hw => Ob.sl_at hw)) (by omega) (fun As cs hcs => ?_)
  have hsl : s.said.2.2.length + (msg k xs).length = (s.said.2.2 ++ msg k xs).length := by rw [List.length_append]
  refine vcStore1_eq (skR b s) (skR b { s with said := (As, cs, s.said.2.2 ++ msg k xs) }) _ (.there (.there .here)) rfl (by show (40 : Nat) < 49; decide) rfl (by rw [hsl]; rfl) ?_
  rw [← Bs_append]
  obtain ⟨s', hs'⟩ : ∃ s', s' = { s with said := (As, cs, s.said.2.2 ++ msg k xs) } := ⟨_, rfl⟩
  rw [← hs']
  have ho1 : s'.out = s.out := by rw [hs']
  have ho2 : s'.oA = s.oA := by rw [hs']
  have ho3 : s'.oc = s.oc := by rw [hs']
  have hk0 : s'.k0 = s.k0 := by rw [hs']
  have hk1 : s'.k1 = s.k1 := by rw [hs']
  have hsd' : s'.said = (As, cs, s.said.2.2 ++ msg k xs) := by rw [hs']
  refine vcLoad1_row (j := 41) (v := .slice s'.oA s'.out.length s'.oc) (Ent.gnO .here (fun w hw => Ob.row_at hw)) rfl ?_
  rw [← ho1] at ho hod
  rw [← ho2, ← ho3, ← hk0, ← hk1, ← ho1]
  have fin : ∀ (oA : Option Addr) (oc : Nat) (out : List Fl) (own : List Ob) (N : Mp), outs out = sayL (outs s'.out) lv (msg k xs) → (∃ rest, Pick (skO b { s' with oA := oA, oc := oc, out := out }) own rest) →
      ∃ (own' rest : List Ob) (N' : Mp), Pick own' own rest ∧ (∀ w, N w → Objs rest w → N' w) ∧ SayTo b s k lv xs (tupleOf []) own' N' :=
    fun oA oc out own N ho ⟨rest, hp⟩ => ⟨_, rest, MT, hp, fun _ _ _ => trivial, As, cs, oA, oc, out, rfl, by rw [hs'], rfl, by rw [ho, ho1]⟩
  have new : sayL (outs s'.out) lv (msg k xs) = outs s'.out ++ [(lv, msg k xs)] → True := fun _ => trivial
  have e41 : ∀ v, ((skR b s').set (41 + 0) v) = .row b 65 ((skL s').set 41 v) 49 := fun _ => rfl
  refine vcIf_dec (fun hpos => ?_) (fun hnil => ?_)
  · obtain hn | ⟨pre, ⟨l, p⟩, hout⟩ := List.eq_nil_or_concat s'.out
    · exfalso
      rw [hn] at hpos
      exact absurd hpos (by decide)
    rw [List.concat_eq_append] at hout
    have hlen : s'.out.length = pre.length + 1 := by rw [hout]; simp
    have hg : s'.out[pre.length]'(by omega) = (l, p) := by simp [hout]
    refine vcLoad1_row (j := 41) (v := .slice s'.oA s'.out.length s'.oc) (Ent.gnO .here (fun w hw => Ob.row_at hw)) rfl ?_
    refine vcFit_i64 (by omega) ?_
    refine vcIdx_nats (s := 2) pre.length (by omega) (Ent.gnO (by first | ((repeat (first | exact .here | apply Take.there)); done) | exact .none_) (fun w hw => Ob.sl_at hw)) (by omega) (by rw [flL_len]; exact Nat.le_refl _) (by omega) (fun a ha => ?_)
    refine vcLoad1_2 (xs := flL s'.out) (v := .int .i64 l) (Ent.gnO (o := .sl s'.oA s'.oc 56 2 (flL s'.out)) (by first | ((repeat (first | exact .here | apply Take.there)); done) | exact .none_) (fun w hw => by rw [← ha]; exact Ob.sl_at hw)) (by have := flL_get0 (l := s'.out) (k := pre.length) (by omega); rw [hg] at this; exact this) ?_
    refine vcIf_dec (fun hlv => ?_) (fun hlv => ?_)
    · subst hlv
      refine vcDraw_mix [0,1,2,3,4,5,6,7,8,9,10,11,12,13,14,15,16,17,18,19] (MpAnd (RowAt (some ⟨b, 0, none⟩) (skL s')) (RowAt s'.oA (flL s'.out))) (by kernel_rfl) (Ent.both (Ent.gnO .here (fun w hw => Ob.row_at hw)) (Ent.gnO (by first | ((repeat (first | exact .here | apply Take.there)); done) | exact .none_) (fun w hw => Ob.sl_at hw))) ?_
      refine vcLoad1_row (j := 41) (v := .slice s'.oA s'.out.length s'.oc) (fun w hw => hw.1) rfl ?_
      refine vcFit_i64 (by omega) ?_
      refine vcLoad1_row (j := 41) (v := .slice s'.oA s'.out.length s'.oc) (fun w hw => hw.1) rfl ?_
      refine vcFit_i64 (by omega) ?_
      refine vcIdx_nats (s := 2) pre.length (by omega) (fun w hw => hw.2) (by omega) (by rw [flL_len]; exact Nat.le_refl _) (by omega) (fun a' ha' => ?_)
      obtain rfl : a' = a := by rw [ha] at ha'; cases ha'; rfl
      refine vcLoad1_2 (xs := flL s'.out) (v := pieceV p) (fun w hw => by rw [← ha]; exact hw.2) (by have := flL_get1 (l := s'.out) (k := pre.length) (by omega); rw [hg] at this; exact this) ?_
      have hpl : p.2.2.length ≤ 1099511627776 := hod (l, p) (by rw [hout]; simp)
      have hfo : flO s'.out = flO pre ++ [pO p] := by rw [hout, flO_app]; rfl
      rw [hfo]
      refine vcApp_big (Bs p.2.2) _ (Bs (msg k xs)) (.there (.there (.there (.there (.there (.there Take.last)))))) (by rw [Bs_length]; omega) (by rw [Bs_length]; omega) (by decide) (Bs_one _) (Ent.gnO (by first | ((repeat (first | exact .here | apply Take.there)); done) | exact .none_) (fun w hw => Ob.sl_at hw)) (by omega) (fun Ad cd hcd => ?_)
      refine vcMix_same (Ent.both (Ent.gnO (.there .here) (fun w hw => Ob.row_at hw)) (Ent.gnO (by first | ((repeat (first | exact .here | apply Take.there)); done) | exact .none_) (fun w hw => Ob.sl_at hw))) ?_
      refine vcIdx_nats (s := 2) pre.length (by omega) (fun w hw => hw.2) (by omega) (by rw [flL_len]; exact Nat.le_refl _) (by omega) (fun a2 ha2 => ?_)
      obtain rfl : a2 = a' := by rw [ha] at ha2; cases ha2; rfl
      refine vcStore2_eq (.sl s'.oA s'.oc 56 2 (flL s'.out)) (.sl s'.oA s'.oc 56 2 (flL (pre ++ [(l, (Ad, cd, p.2.2 ++ msg k xs))]))) _ (by first | ((repeat (first | exact .here | apply Take.there)); done) | exact .none_) ha (by show pre.length * 2 + 1 + 0 < (flL s'.out).length; rw [flL_len]; omega) rfl
        (by show Ob.sl _ _ _ _ ((flL s'.out).set (pre.length * 2 + 1) (.slice Ad (p.2.2.length + (msg k xs).length) cd)) = _; rw [hout, ← List.length_append]; exact congrArg _ (flL_set1 pre l p (Ad, cd, p.2.2 ++ msg k xs))) ?_
      refine vcMix_last (by kernel_rfl) ?_
      rw [← Bs_append]
      refine fin s'.oA s'.oc (pre ++ [(l, (Ad, cd, p.2.2 ++ msg k xs))]) _ _ (by rw [hout]; simp only [outs, List.map_append, List.map_cons, List.map_nil]; rw [sayL_same]) ?_
      obtain ⟨r, hr⟩ := Pick.snocA (s := flO pre) (o := pO (Ad, cd, p.2.2 ++ msg k xs)) (x := .sl Am cm 5 1 (Bs (msg k xs)))
      have e1 : skR b s' = skR b { s' with oA := s'.oA, oc := s'.oc, out := pre ++ [(l, (Ad, cd, p.2.2 ++ msg k xs))] } := by
        have : s'.out.length = (pre ++ [(l, ((Ad, cd, p.2.2 ++ msg k xs) : Piece))]).length := by rw [hout]; simp
        unfold skR skL
        simp only [this]
      refine ⟨r, .cons (.there (.there (Take.eq e1.symm))) (.cons (.there (.there (.there (.there .here)))) (.cons (.there (.there (.there (.there .here)))) (.cons (.there (.there (Take.eq (by rw [hsd']; rfl)))) (.cons .here ?_))))⟩
      rw [show flO (pre ++ [(l, (Ad, cd, p.2.2 ++ msg k xs))]) = flO pre ++ [pO (Ad, cd, p.2.2 ++ msg k xs)] from by rw [flO_app]; rfl]
      exact hr
    · have hsay : sayL (outs s'.out) lv (msg k xs) = outs s'.out ++ [(lv, msg k xs)] := by
        rw [hout]
        simp only [outs, List.map_append, List.map_cons, List.map_nil]
        exact sayL_new (fun e => hlv (by rw [e]))
      refine vcLoad1_row (j := 41) (v := .slice s'.oA s'.out.length s'.oc) (Ent.gnO .here (fun w hw => Ob.row_at hw)) rfl ?_
      intro b2
      refine vcApp_of (flL s'.out) _ [.int .i64 lv, .slice Am (msg k xs).length cm] (.there (.there (.there (.there (.there (.there .here)))))) (flL_len _) rfl (by decide) (by intro v hv; simp only [List.mem_cons, List.not_mem_nil, or_false] at hv; rcases hv with rfl | rfl <;> rfl) (Ent.gnO .here (fun w hw => Ob.sl_at hw)) (by omega) (by omega) (fun A2 c2 hc2 => ?_)
      have hfl : flL s'.out ++ [.int .i64 lv, .slice Am (msg k xs).length cm] = flL (s'.out ++ [(lv, (Am, cm, msg k xs))]) := by rw [flL_app]; rfl
      have hl2 : (s'.out ++ [(lv, ((Am, cm, msg k xs) : Piece))]).length = s'.out.length + 1 := by simp
      rw [hfl]
      refine vcStore1_eq (skR b s') (skR b { s' with oA := A2, oc := c2, out := s'.out ++ [(lv, (Am, cm, msg k xs))] }) _ (.there (.there .here)) rfl (by show (41 : Nat) < 49; decide) rfl (by
        show Ob.row b _ ((skL s').set 41 (.slice A2 (s'.out.length + 1) c2)) 49 = _
        rw [← hl2]; rfl) ?_
      refine fin A2 c2 (s'.out ++ [(lv, (Am, cm, msg k xs))]) _ _ (by rw [hsay]; simp only [outs, List.map_append, List.map_cons, List.map_nil]) ?_
      obtain ⟨r, hr⟩ := Pick.snocB (s := flO s'.out) (o := pO (Am, cm, msg k xs)) (x := .sl (some ⟨b2, 0, none⟩) 1 56 2 [.int .i64 lv, .slice Am (msg k xs).length cm])
      refine ⟨r, .cons .here (.cons (.there (.there (.there (.there .here)))) (.cons (.there (.there (.there (.there .here)))) (.cons (.there (.there (Take.eq (by rw [hsd']; rfl)))) (.cons .here ?_))))⟩
      rw [show flO (s'.out ++ [(lv, (Am, cm, msg k xs))]) = flO s'.out ++ [pO (Am, cm, msg k xs)] from by rw [flO_app]; rfl]
      exact hr
  · have hn : s'.out = [] := List.eq_nil_of_length_eq_zero (by omega)
    have hsay : sayL (outs s'.out) lv (msg k xs) = outs s'.out ++ [(lv, msg k xs)] := by rw [hn]; rfl
    refine vcLoad1_row (j := 41) (v := .slice s'.oA s'.out.length s'.oc) (Ent.gnO .here (fun w hw => Ob.row_at hw)) rfl ?_
    intro b2
    refine vcApp_of (flL s'.out) _ [.int .i64 lv, .slice Am (msg k xs).length cm] (.there (.there (.there (.there (.there (.there .here)))))) (flL_len _) rfl (by decide) (by intro v hv; simp only [List.mem_cons, List.not_mem_nil, or_false] at hv; rcases hv with rfl | rfl <;> rfl) (Ent.gnO .here (fun w hw => Ob.sl_at hw)) (by omega) (by omega) (fun A2 c2 hc2 => ?_)
    have hfl : flL s'.out ++ [.int .i64 lv, .slice Am (msg k xs).length cm] = flL (s'.out ++ [(lv, (Am, cm, msg k xs))]) := by rw [flL_app]; rfl
    have hl2 : (s'.out ++ [(lv, ((Am, cm, msg k xs) : Piece))]).length = s'.out.length + 1 := by simp
    rw [hfl]
    refine vcStore1_eq (skR b s') (skR b { s' with oA := A2, oc := c2, out := s'.out ++ [(lv, (Am, cm, msg k xs))] }) _ (.there (.there .here)) rfl (by show (41 : Nat) < 49; decide) rfl (by
      show Ob.row b _ ((skL s').set 41 (.slice A2 (s'.out.length + 1) c2)) 49 = _
      rw [← hl2]; rfl) ?_
    refine fin A2 c2 (s'.out ++ [(lv, (Am, cm, msg k xs))]) _ _ (by rw [hsay]; simp only [outs, List.map_append, List.map_cons, List.map_nil]) ?_
    obtain ⟨r, hr⟩ := Pick.snocB (s := flO s'.out) (o := pO (Am, cm, msg k xs)) (x := .sl (some ⟨b2, 0, none⟩) 1 56 2 [.int .i64 lv, .slice Am (msg k xs).length cm])
    refine ⟨r, .cons .here (.cons (.there (.there (.there (.there .here)))) (.cons (.there (.there (.there (.there .here)))) (.cons (.there (.there (Take.eq (by rw [hsd']; rfl)))) (.cons .here ?_))))⟩
    rw [show flO (s'.out ++ [(lv, (Am, cm, msg k xs))]) = flO s'.out ++ [pO (Am, cm, msg k xs)] from by rw [flO_app]; rfl]
    exact hr
end Go.Proofs.Yticllmnblcjjcaa
