/- What the proofs over the verification conditions use. -/
import Derived.Test.YticllmnblcjjcaaCode
namespace Go.Proofs.Yticllmnblcjjcaa

section
variable {M G N N' R : Mp} {own rest : List Ob}
theorem Ent.gnG (h : Ent G R) : Ent (GN G own N) R := fun w hw => h w hw.1.1
theorem Ent.gnN (h : Ent N R) : Ent (GN G own N) R := fun w hw => h w hw.1.2
theorem Ent.gnO {o : Ob} (ht : Take o own rest) (h : ∀ w, o.is w → R w) : Ent (GN G own N) R := fun w hw => h w (ht.objs hw.2).1
theorem Ent.andL (h : Ent N R) : Ent (MpAnd N N') R := fun w hw => h w hw.1
theorem Ent.andR (h : Ent N' R) : Ent (MpAnd N N') R := fun w hw => h w hw.2
theorem Ent.refl : Ent M M := fun _ h => h
theorem Ent.mono {R' : Mp} (h : Ent M R) (k : ∀ w, R w → R' w) : Ent M R' := fun w hw => k w (h w hw)
theorem Ent.both {R' : Mp} (h : Ent M R) (k : Ent M R') : Ent M (MpAnd R R') := fun w hw => ⟨h w hw, k w hw⟩

theorem RowAt.cut {A : Option Addr} {xs : List Value} {w : World} (h : RowAt A xs w) {cap l size n : Nat} (hn : xs.length ≤ cap * size) : RowAt (cutA A cap l size) ((xs.drop (l * size)).take n) w := by
  intro i u hi
  have hi' : i < n ∧ xs[l * size + i]? = some u := by
    rw [List.getElem?_take] at hi
    split at hi
    · rename_i hlt; rw [List.getElem?_drop] at hi; exact ⟨hlt, hi⟩
    · cases hi
  have hlt : l * size + i < xs.length := (List.getElem?_eq_some_iff.1 hi'.2).1
  obtain ⟨a, rfl, hc⟩ := h _ _ hi'.2
  unfold cutA
  split
  · rename_i e
    subst e
    omega
  · exact ⟨_, rfl, by rw [add_add]; exact hc⟩
theorem RowAt.drop {A : Option Addr} {xs : List Value} {w : World} (h : RowAt A xs w) {cap l size : Nat} (hn : xs.length ≤ cap * size) : RowAt (cutA A cap l size) (xs.drop (l * size)) w := by
  have := h.cut (l := l) (size := size) (n := xs.length) hn
  rwa [List.take_of_length_le (by simp)] at this
theorem RowAt.take {A : Option Addr} {xs : List Value} {w : World} (h : RowAt A xs w) (n : Nat) : RowAt A (xs.take n) w := by
  intro i u hi
  rw [List.getElem?_take] at hi
  split at hi
  · exact h i u hi
  · cases hi
theorem RowAt.left {A : Option Addr} {xs ys : List Value} {w : World} (h : RowAt A (xs ++ ys) w) : RowAt A xs w := by
  have := h.take xs.length
  rwa [List.take_left] at this

theorem vcIdx_row {A : Option Addr} {xs : List Value} {n : Nat} {i : Int} {X : Addr → Nat → Prop} (h : Ent M (RowAt A xs)) (hi : 0 ≤ i ∧ i < n) (hn : n ≤ xs.length) (k : ∀ a, A = some a → X a i.toNat) : vcIdx M A n i X := by
  refine ⟨?_⟩
  rintro ⟨w, hw⟩
  obtain ⟨a, ha, _⟩ := h w hw i.toNat xs[i.toNat] (List.getElem?_eq_getElem (by omega))
  exact ⟨a, ha, hi.1, hi.2, k a ha⟩
/-- An index into a row of several cells an element. -/
theorem vcIdx_rows {A : Option Addr} {xs : List Value} {n s : Nat} {i : Int} {X : Addr → Nat → Prop} (h : Ent M (RowAt A xs)) (hi : 0 ≤ i ∧ i < n) (hn : n * s ≤ xs.length) (hs : 0 < s) (k : ∀ a, A = some a → X a i.toNat) : vcIdx M A n i X := by
  refine ⟨?_⟩
  rintro ⟨w, hw⟩
  have hpos : 0 < xs.length := Nat.lt_of_lt_of_le (Nat.mul_pos (by omega) hs) hn
  obtain ⟨a, ha, _⟩ := h w hw 0 xs[0] (List.getElem?_eq_getElem hpos)
  exact ⟨a, ha, hi.1, hi.2, k a ha⟩
/-- The same, the place as a Nat. -/
theorem vcIdx_nat {A : Option Addr} {xs : List Value} {n : Nat} {i : Int} {X : Addr → Nat → Prop} (j : Nat) (hj : i = j) (h : Ent M (RowAt A xs)) (hi : j < n) (hn : n ≤ xs.length) (k : ∀ a, A = some a → X a j) : vcIdx M A n i X := by
  subst hj; exact vcIdx_row h ⟨by omega, by omega⟩ hn k
theorem vcIdx_nats {A : Option Addr} {xs : List Value} {n s : Nat} {i : Int} {X : Addr → Nat → Prop} (j : Nat) (hj : i = j) (h : Ent M (RowAt A xs)) (hi : j < n) (hn : n * s ≤ xs.length) (hs : 0 < s) (k : ∀ a, A = some a → X a j) : vcIdx M A n i X := by
  subst hj; exact vcIdx_rows h ⟨by omega, by omega⟩ hn hs k
/-- An index into a slice that is known not to be nil. -/
theorem vcIdx_some {a : Addr} {n : Nat} {i : Int} {X : Addr → Nat → Prop} (j : Nat) (hj : i = j) (hi : j < n) (k : X a j) : vcIdx M (some a) n i X := by
  subst hj; exact ⟨fun _ => ⟨a, rfl, by omega, by omega, k⟩⟩
theorem vcPtr_row {A : Option Addr} {xs : List Value} {X : Option Addr → Prop} (h : Ent M (RowAt A xs)) (hn : 0 < xs.length) (k : ∀ a, A = some a → X (some a)) : vcPtr M A X := by
  refine ⟨?_⟩
  rintro ⟨w, hw⟩
  obtain ⟨a, ha, _⟩ := h w hw 0 xs[0] (List.getElem?_eq_getElem hn)
  subst ha
  exact k a rfl
theorem vcAt_nat {n : Nat} {i : Int} {X : Nat → Prop} (j : Nat) (hj : i = j) (hi : j < n) (k : X j) : vcAt n i X := by
  subst hj; exact ⟨⟨by omega, by omega⟩, k⟩
theorem vcLoad1_of {a : Addr} {v : Value} {X : Value → Prop} (h : Ent M (fun w => w.cell? a = some v)) (k : X v) : vcLoad1 M a X := ⟨v, h, k⟩
theorem vcLoad1_row {a : Addr} {xs : List Value} {j : Nat} {v : Value} {X : Value → Prop} (h : Ent M (RowAt (some a) xs)) (hv : xs[j]? = some v) (k : X v) : vcLoad1 M (a.add j) X := by
  refine ⟨v, fun w hw => ?_, k⟩
  obtain ⟨a', ha, hc⟩ := h w hw j v hv
  cases ha
  exact hc
theorem vcLoad1_at {a a' : Addr} {xs : List Value} {j : Nat} {v : Value} {X : Value → Prop} (h : Ent M (RowAt (some a) xs)) (ha : a' = a.add j) (hv : xs[j]? = some v) (k : X v) : vcLoad1 M a' X := by
  subst ha; exact vcLoad1_row h hv k
theorem add_zero (a : Addr) : a.add 0 = a := by simp [Addr.add]
theorem vcLoad1_0 {a : Addr} {xs : List Value} {v : Value} {X : Value → Prop} (h : Ent M (RowAt (some a) xs)) (hv : xs[0]? = some v) (k : X v) : vcLoad1 M a X := vcLoad1_at h (add_zero a).symm hv k
theorem vcLoad1_2 {a : Addr} {xs : List Value} {i j : Nat} {v : Value} {X : Value → Prop} (h : Ent M (RowAt (some a) xs)) (hv : xs[i + j]? = some v) (k : X v) : vcLoad1 M ((a.add i).add j) X := vcLoad1_at h (add_add a i j) hv k
theorem vcLoad1_3 {a : Addr} {xs : List Value} {i j l : Nat} {v : Value} {X : Value → Prop} (h : Ent M (RowAt (some a) xs)) (hv : xs[i + j + l]? = some v) (k : X v) : vcLoad1 M (((a.add i).add j).add l) X := vcLoad1_at h (by rw [add_add, add_add, Nat.add_assoc]) hv k
theorem vcLoadN_at {a a' : Addr} {xs : List Value} {j n : Nat} {X : List Value → Prop} (vs : List Value) (h : Ent M (RowAt (some a) xs)) (ha : a' = a.add j) (hn : vs.length = n) (hv : ∀ i, i < n → xs[j + i]? = vs[i]?) (k : X vs) : vcLoadN M a' n X := by
  subst ha
  refine ⟨vs, hn, fun w hw i hi => ?_, k⟩
  obtain ⟨a', ha, hc⟩ := h w hw (j + i) (vs[i]'(by omega)) (by rw [hv i hi]; exact List.getElem?_eq_getElem (by omega))
  cases ha
  rw [add_add, hc]
  exact (List.getElem?_eq_getElem (by omega)).symm

theorem vcLoadN_0 {a : Addr} {n : Nat} {X : List Value → Prop} {xs : List Value} (h : Ent M (RowAt (some a) xs)) (hn : xs.length = n) (k : X xs) : vcLoadN M a n X :=
  vcLoadN_at (j := 0) xs h (add_zero a).symm hn (fun i _ => by rw [Nat.zero_add]) k
theorem vcLoadN_1 {a : Addr} {n j : Nat} {X : List Value → Prop} {xs : List Value} (vs : List Value) (h : Ent M (RowAt (some a) xs)) (hn : vs.length = n) (hv : (xs.drop j).take n = vs) (k : X vs) : vcLoadN M (a.add j) n X :=
  vcLoadN_at (j := j) vs h rfl hn (fun i hi => by rw [← hv, List.getElem?_take, if_pos hi, List.getElem?_drop]) k
theorem vcLoadN_2 {a : Addr} {n i j : Nat} {X : List Value → Prop} {xs : List Value} (vs : List Value) (h : Ent M (RowAt (some a) xs)) (hn : vs.length = n) (hv : (xs.drop (i + j)).take n = vs) (k : X vs) : vcLoadN M ((a.add i).add j) n X := by
  rw [add_add]; exact vcLoadN_1 vs h hn hv k
theorem vcRange_of {l h m : Int} {X : Prop} (hb : 0 ≤ l ∧ l ≤ h ∧ h ≤ m) (k : X) : vcRange l h m X := ⟨hb, k⟩
end

theorem Bs_length (l : List UInt8) : (Bs l).length = l.length := by simp [Bs]
theorem Bs_get {l : List UInt8} {i : Nat} (h : i < l.length) : (Bs l)[i]? = some (.int .u8 (l[i].toNat)) := by simp [Bs, B, h]
theorem Bs_one (l : List UInt8) : ∀ v ∈ Bs l, oneCell v = true := by
  intro v hv
  simp only [Bs, List.mem_map] at hv
  obtain ⟨b, _, rfl⟩ := hv
  rfl
theorem Bs_append (l m : List UInt8) : Bs (l ++ m) = Bs l ++ Bs m := by simp [Bs]
theorem Bs_take (l : List UInt8) (n : Nat) : Bs (l.take n) = (Bs l).take n := by simp [Bs, List.map_take]
theorem Bs_drop (l : List UInt8) (n : Nat) : Bs (l.drop n) = (Bs l).drop n := by simp [Bs, List.map_drop]
theorem byte_lt (b : UInt8) : (b.toNat : Int) < 256 := by have := b.toNat_lt; omega
theorem byte_nn (b : UInt8) : (0 : Int) ≤ b.toNat := by omega

theorem pick1 {o : Ob} {own rest : List Ob} (h : Take o own rest) : ∃ rest, Pick [o] own rest := ⟨_, .cons h .nil⟩
theorem Spec.nil {P : Program} {f : FuncId} {args : Array Value} {A : List Ob} {G : Mp} {Post : Value → List Ob → Mp → Prop} (h : Spec P f args A G Post) (w : World) (hw : Entry w A G) :
    Calls P f args w fun e w' => ∃ v own N, e = .returned v ∧ Post v own N ∧ Inv w (blksOf A) w' own N := h.2 w hw

theorem Spec.weak {P : Program} {f : FuncId} {args : Array Value} {A : List Ob} {G G' : Mp} {Post : Value → List Ob → Mp → Prop} (h : Spec P f args A G Post) (hg : Ent G' G) : Spec P f args A G' Post :=
  ⟨h.1, fun w hw => h.2 w ⟨hw.objs, hw.nodup, fun w' hw' => hg w' (hw.pers w' hw')⟩⟩
theorem vcCall_of {X : XK} {P : Program} {G N : Mp} {own A rest : List Ob} {f : FuncId} {args : List Value} {k : VK} {Post : Value → List Ob → Mp → Prop} (hp : Pick A own rest)
    (hs : Spec P f args.toArray A (GN G rest N) Post) (hk : ∀ v own' N', Post v own' N' → k v (own' ++ rest) (MpAnd N N')) : vcCallF X P G own N f args k := .intro A rest Post hp hs hk
theorem vcCall_may {X : XK} {P : Program} {G N : Mp} {own A rest : List Ob} {f : FuncId} {args : List Value} {k : VK} {Post : Value → List Ob → Mp → Prop} {PX : XK} (hp : Pick A own rest)
    (hs : SpecE P f args.toArray A (GN G rest N) Post PX) (hx : ∀ c own' N', PX c own' N' → X c (own' ++ rest) (MpAnd N N')) (hk : ∀ v own' N', Post v own' N' → k v (own' ++ rest) (MpAnd N N')) : vcCallF X P G own N f args k := .may A rest Post PX hp hs hk hx

theorem vcLoop_of {C : (Exit → SK) → SK} {Q : Exit → SK} {fm : Fm} {own : List Ob} {N : Mp} {α : Type} (μ : α → Nat) (F : α → Fm) (O : α → List Ob) (M : α → Mp) (R : α → Prop) (g : α)
    (h0 : R g) (h1 : fmLe (F g) fm) (h2 : ∃ rest, Pick (O g) own rest) (h3 : Ent N (M g))
    (h : ∀ g, R g → C (fun e fm' own' N' => match e with
      | .normal => ∃ g', R g' ∧ μ g' < μ g ∧ fmLe (F g') fm' ∧ (∃ rest, Pick (O g') own' rest) ∧ Ent N' (M g')
      | e => Q e fm' own' N') (F g) (O g) (M g)) : vcLoop C Q fm own N := ⟨α, μ, F, O, M, R, ⟨g, h0, h1, h2, h3⟩, h⟩

theorem take_snoc_get {α : Type} {l : List α} {k : Nat} (h : k < l.length) : l.take (k + 1) = l.take k ++ [l[k]] := List.take_succ_eq_append_getElem h
theorem take_snoc_eq {α : Type} {xs ys : List α} {k : Nat} (h : xs.take k = ys.take k) (hx : k < xs.length) (hy : k < ys.length) (he : xs[k] = ys[k]) : xs.take (k + 1) = ys.take (k + 1) := by
  rw [List.take_succ_eq_append_getElem hx, List.take_succ_eq_append_getElem hy, h, he]
theorem take_snoc_ne {α : Type} {xs ys : List α} {k : Nat} (hx : k < xs.length) (hy : k < ys.length) (he : xs[k] ≠ ys[k]) : xs ≠ ys := by
  rintro rfl; exact he rfl

theorem vcDraw_quiet {X : XK} {P : Program} {G : Mp} {ops : Array Oper} {K : SK} {fm : Fm} {own : List Ob} {N : Mp} (h : Region.lexB .any ops = true) (k : vcQuiet P (GN G own N) ops.toList ops.toList (fun fm => K fm own N) fm) : vcDraw X P G ops K fm own N := .quiet h k
theorem vcDraw_mix {X : XK} {P : Program} {G : Mp} {ops : Array Oper} {K : SK} {fm : Fm} {own : List Ob} {N : Mp} (order : List Nat) (M : Mp) (h : mixOk ops (OT.ofList order) = true) (hM : Ent (GN G own N) M) (k : vcMix X P G ops.toList (OT.ofList order) 0 (fun _ => M) K fm own N) : vcDraw X P G ops K fm own N := .mix (OT.ofList order) (fun _ => M) h (fun _ => hM) k
theorem vcDraw_fork {X : XK} {P : Program} {G : Mp} {ops : Array Oper} {K : SK} {fm : Fm} {own : List Ob} {N : Mp} (order : OT) (M : Mp) (h : mixOk ops order = true) (hM : Ent (GN G own N) M) (k : vcMix X P G ops.toList order 0 (fun _ => M) K fm own N) : vcDraw X P G ops K fm own N := .mix order (fun _ => M) h (fun _ => hM) k
/-- Facts of two kinds: A for the operations that are named, B for the others. -/
def pickM : List Nat → Mp → Mp → Nat → Mp
  | [], _, B, _ => B
  | d :: r, A, B, k => match Nat.beq d k with
    | true => A
    | false => pickM r A B k
theorem pickM_ent {M A B : Mp} (ha : Ent M A) (hb : Ent M B) : ∀ (dead : List Nat) (k : Nat), Ent M (pickM dead A B k)
  | [], _ => hb
  | d :: r, k => by
    unfold pickM
    split
    · exact ha
    · exact pickM_ent ha hb r k
theorem vcDraw_mixD {X : XK} {P : Program} {G : Mp} {ops : Array Oper} {K : SK} {fm : Fm} {own : List Ob} {N : Mp} (order dead : List Nat) (A B : Mp) (h : mixOk ops (OT.ofList order) = true) (hA : Ent (GN G own N) A) (hB : Ent (GN G own N) B) (k : vcMix X P G ops.toList (OT.ofList order) 0 (pickM dead A B) K fm own N) : vcDraw X P G ops K fm own N := .mix (OT.ofList order) (pickM dead A B) h (pickM_ent hA hB dead) k
/-- Behind an effect that waits for all the operations that are named: what they read need not stay so. -/
theorem vcMix_drop {ops : Array Oper} {seen i : Nat} {dead : List Nat} {A B : Mp} {G : Mp} {own : List Ob} {N : Mp} {X : (Nat → Mp) → Prop} (hd : (dead.all fun k => !(aliveS ops seen i k)) = true) (h : Ent (GN G own N) B) (k : X (fun _ => B)) :
    ∃ S' : Nat → Mp, (∀ k, aliveS ops seen i k = true → ∀ w, S' k w → pickM dead A B k w) ∧ (∀ k, Ent (GN G own N) (S' k)) ∧ X S' := by
  refine ⟨fun _ => B, fun k hk w hw => ?_, fun _ => h, k⟩
  have : ∀ (dead : List Nat), (dead.all fun k => !(aliveS ops seen i k)) = true → pickM dead A B k w := by
    intro dead
    induction dead with
    | nil => exact fun _ => hw
    | cons d r ih =>
      intro hd
      rw [List.all_cons, Bool.and_eq_true] at hd
      unfold pickM
      cases hb : Nat.beq d k with
      | true =>
        obtain rfl : d = k := Nat.eq_of_beq_eq_true hb
        rw [hk] at hd
        cases hd.1
      | false => exact ih hd.2
  exact this dead hd
theorem vcCut_of {A B : (Exit → SK) → SK} {Q : Exit → SK} {fm : Fm} {own : List Ob} {N : Mp} {α : Type} (F : α → Fm) (O : α → List Ob) (M : α → Mp) (R : α → Prop)
    (h1 : A (fun e fm own N => match e with
      | .normal => ∃ g, R g ∧ fmLe (F g) fm ∧ (∃ rest, Pick (O g) own rest) ∧ Ent N (M g)
      | .exit id => Q (.exit id) fm own N
      | .ret => Q .ret fm own N
      | _ => False) fm own N)
    (h2 : ∀ g, R g → B Q (F g) (O g) (M g)) : vcCut A B Q fm own N := ⟨α, F, O, M, R, h1, h2⟩
/-- Behind an effect: what was known still holds. -/
theorem vcMix_same {al : Nat → Bool} {M : Mp} {G : Mp} {own : List Ob} {N : Mp} {X : (Nat → Mp) → Prop} (h : Ent (GN G own N) M) (k : X (fun _ => M)) : ∃ S' : Nat → Mp, (∀ k, al k = true → ∀ w, S' k w → M w) ∧ (∀ k, Ent (GN G own N) (S' k)) ∧ X S' :=
  ⟨fun _ => M, fun _ _ _ h => h, fun _ => h, k⟩
/-- Behind an effect that waits for all the others: nothing need hold on. -/
theorem vcMix_last {ops : Array Oper} {seen i : Nat} {S : Nat → Mp} {G : Mp} {own : List Ob} {N : Mp} {X : (Nat → Mp) → Prop} (h : tightS ops seen i = true) (k : X (fun _ => MT)) : ∃ S' : Nat → Mp, (∀ k, aliveS ops seen i k = true → ∀ w, S' k w → S k w) ∧ (∀ k, Ent (GN G own N) (S' k)) ∧ X S' := by
  refine ⟨fun _ => MT, fun k hk w _ => ?_, fun _ _ _ => trivial, k⟩
  exfalso
  unfold aliveS at hk
  simp only [Bool.and_eq_true, Bool.not_eq_true'] at hk
  obtain ⟨⟨⟨h1, h2⟩, h3⟩, h4⟩ := hk
  have := List.all_eq_true.1 h k (List.mem_range.2 (Nat.le_of_ble_eq_true h1))
  rw [h2, h3, h4] at this
  cases this

theorem vcMk_nat {own : List Ob} {N : Mp} {e : TypeId} {size bytes : Nat} {z : List Value} {l c : Int} {k : VK} (n : Nat) (hl : l = n) (hc : c = n) (h : bytes * n ≤ 281474976710656) (h' : n ≤ 9223372036854775807)
    (hk : ∀ b : Nat, k (.slice (some ⟨b, 0, none⟩) n n) (.sl (some ⟨b, 0, none⟩) n e size (zerosL n z) :: own) N) : vcMk own N e size bytes z l c k := by
  subst hl; subst hc
  exact ⟨⟨by omega, by omega, by have : ((bytes * n : Nat) : Int) ≤ 281474976710656 := by omega
                                 rwa [Int.natCast_mul] at this, by omega⟩, hk⟩
theorem zerosL_one (n : Nat) (v : Value) : zerosL n [v] = List.replicate n v := by
  induction n with
  | zero => rfl
  | succ n ih => simp only [zerosL, List.replicate_succ, List.flatten_cons] at *; rw [ih]; rfl
theorem zerosL_length (n : Nat) (z : List Value) : (zerosL n z).length = n * z.length := by simp [zerosL]
theorem vcApp_of {M : Mp} {own : List Ob} {N : Mp} {e : TypeId} {size bytes : Nat} {A : Option Addr} {n cap : Nat} {A2 : Option Addr} {n2 : Nat} {k : VK} (xs : List Value) (rest : List Ob) (news : List Value)
    (ht : Take (.sl A cap e size xs) own rest) (hx : xs.length = n * size) (hn : news.length = n2 * size) (hs : 0 < size) (h1 : ∀ v ∈ news, oneCell v = true) (hnews : Ent M (RowAt A2 news))
    (hb : (n + n2) * bytes ≤ 140737488355328) (h63 : n + n2 ≤ 9223372036854775807)
    (hk : ∀ A' cap', n + n2 ≤ cap' → k (.slice A' (n + n2) cap') (.sl A' cap' e size (xs ++ news) :: rest) N) : vcApp M own N e size bytes A n cap A2 n2 k :=
  .intro xs rest news ht ⟨hx, hn, hs, h1⟩ hnews (.inl hb) h63 fun A' cap' h _ => hk A' cap' h
/-- append of bytes, to more than half of all that there is. -/
theorem vcApp_big {M : Mp} {own : List Ob} {N : Mp} {e : TypeId} {size : Nat} {A : Option Addr} {n cap : Nat} {A2 : Option Addr} {n2 : Nat} {k : VK} (xs : List Value) (rest : List Ob) (news : List Value)
    (ht : Take (.sl A cap e size xs) own rest) (hx : xs.length = n * size) (hn : news.length = n2 * size) (hs : 0 < size) (h1 : ∀ v ∈ news, oneCell v = true) (hnews : Ent M (RowAt A2 news))
    (hb : n + n2 ≤ 211106232532992)
    (hk : ∀ A' cap', n + n2 ≤ cap' → k (.slice A' (n + n2) cap') (.sl A' cap' e size (xs ++ news) :: rest) N) : vcApp M own N e size 1 A n cap A2 n2 k :=
  .intro xs rest news ht ⟨hx, hn, hs, h1⟩ hnews (.inr ⟨rfl, hb⟩) (by omega) fun A' cap' h _ => hk A' cap' h
/-- append where there is room. -/
theorem vcApp_fit {M : Mp} {own : List Ob} {N : Mp} {e : TypeId} {size bytes : Nat} {A : Option Addr} {n cap : Nat} {A2 : Option Addr} {n2 : Nat} {k : VK} (xs : List Value) (rest : List Ob) (news : List Value) (hf : n + n2 ≤ cap)
    (ht : Take (.sl A cap e size xs) own rest) (hx : xs.length = n * size) (hn : news.length = n2 * size) (hs : 0 < size) (h1 : ∀ v ∈ news, oneCell v = true) (hnews : Ent M (RowAt A2 news))
    (hb : (n + n2) * bytes ≤ 140737488355328) (h63 : n + n2 ≤ 9223372036854775807)
    (hk : k (.slice A (n + n2) cap) (.sl A cap e size (xs ++ news) :: rest) N) : vcApp M own N e size bytes A n cap A2 n2 k :=
  .intro xs rest news ht ⟨hx, hn, hs, h1⟩ hnews (.inl hb) h63 fun A' cap' _ h => by obtain ⟨rfl, rfl⟩ := h hf; exact hk
/-- append where there is no room: the old row stays as it is. -/
theorem vcApp_far {M : Mp} {own : List Ob} {N : Mp} {e : TypeId} {size bytes : Nat} {A : Option Addr} {n cap : Nat} {A2 : Option Addr} {n2 : Nat} {k : VK} (olds news : List Value) (hc : cap < n + n2)
    (ho : Ent M (RowAt A olds)) (hx : olds.length = n * size) (hn : news.length = n2 * size) (h1 : ∀ v ∈ news, oneCell v = true) (hnews : Ent M (RowAt A2 news))
    (hb : (n + n2) * bytes ≤ 140737488355328) (h63 : n + n2 ≤ 9223372036854775807)
    (hk : ∀ b cap', n + n2 ≤ cap' → k (.slice (some ⟨b, 0, none⟩) (n + n2) cap') (.sl (some ⟨b, 0, none⟩) cap' e size (olds ++ news) :: own) N) : vcApp M own N e size bytes A n cap A2 n2 k :=
  .far olds news hc ho ⟨hx, hn, h1⟩ hnews (.inl hb) h63 hk
/-- append of zeros. -/
theorem vcAppZ_of {M : Mp} {own : List Ob} {N : Mp} {e : TypeId} {size bytes : Nat} {z : List Value} {A : Option Addr} {n cap : Nat} {l : Int} {k : VK} (xs : List Value) (rest : List Ob) (m : Nat) (hm : l = m)
    (ht : Take (.sl A cap e size xs) own rest) (hx : xs.length = n * size) (hs : 0 < size) (h1 : ∀ v ∈ z, oneCell v = true) (hb : (n + m) * bytes ≤ 140737488355328) (h63 : n + m ≤ 9223372036854775807)
    (hk : ∀ A' cap', n + m ≤ cap' → k (.slice A' (n + m) cap') (.sl A' cap' e size (xs ++ zerosL m z) :: rest) N) : vcAppZ M own N e size bytes z A n cap l k :=
  .intro xs rest m hm ht ⟨hx, hs, h1⟩ hb h63 hk
theorem vcAppZ_far {M : Mp} {own : List Ob} {N : Mp} {e : TypeId} {size bytes : Nat} {z : List Value} {A : Option Addr} {n cap : Nat} {l : Int} {k : VK} (olds : List Value) (m : Nat) (hm : l = m) (hc : cap < n + m)
    (ho : Ent M (RowAt A olds)) (hx : olds.length = n * size) (hs : 0 < size) (h1 : ∀ v ∈ z, oneCell v = true) (hb : (n + m) * bytes ≤ 140737488355328) (h63 : n + m ≤ 9223372036854775807)
    (hk : ∀ b cap', n + m ≤ cap' → k (.slice (some ⟨b, 0, none⟩) (n + m) cap') (.sl (some ⟨b, 0, none⟩) cap' e size (olds ++ zerosL m z) :: own) N) : vcAppZ M own N e size bytes z A n cap l k :=
  .far olds m hm hc ho ⟨hx, hs, h1⟩ hb h63 hk
/-- copy into a slice, at a place of it. -/
theorem vcCpy_into {M : Mp} {own : List Ob} {N : Mp} {e : TypeId} {size : Nat} {A : Option Addr} {n cap : Nat} {A2 : Option Addr} {n2 : Nat} {k : VK} {a : Addr} {cap0 : Nat} {xs : List Value} {rest : List Ob} (off : Nat) (news : List Value) (c : Nat) (ys : List Value) (hc : c = Nat.min n2 n)
    (ht : Take (.sl (some a) cap0 e size xs) own rest) (hA : c = 0 ∨ A = some (a.add off)) (hl : off ≤ xs.length) (hl2 : off + c * size ≤ cap0 * size) (hn : news.length = c * size) (h1 : ∀ v ∈ news, oneCell v = true) (hr : Ent M (RowAt A2 news))
    (hy : spl xs off news = ys) (hk : k (.int .i64 c) (.sl (some a) cap0 e size ys :: rest) N) : vcCpy M own N e size A n cap A2 n2 k := by
  subst hc; subst hy; exact .into a cap0 off xs rest news ht hA ⟨hl, hl2, hn, h1⟩ hr hk
theorem vcClr_behind {own : List Ob} {N : Mp} {e : TypeId} {size : Nat} {z : List Value} {A : Option Addr} {n : Nat} {k : VK} (a : Addr) (cap0 off : Nat) (xs : List Value) (rest : List Ob) (ht : Take (.sl (some a) cap0 e size xs) own rest)
    (hA : n = 0 ∨ A = some (a.add off)) (h1 : xs.length ≤ off) (h2 : off + n * size ≤ cap0 * size) (hz : ∀ v ∈ z, oneCell v = true) (hk : k (.tuple #[]) (.sl (some a) cap0 e size xs :: rest) N) (hk0 : n = 0 → k (.tuple #[]) own N) : vcClr own N e size z A n k := by
  by_cases hn : n = 0
  · exact .none hn (hk0 hn)
  · exact .behind a cap0 off xs rest ht (hA.resolve_left hn) ⟨h1, h2, hz⟩ hk
theorem vcCpy_of {M : Mp} {own : List Ob} {N : Mp} {e : TypeId} {size : Nat} {A : Option Addr} {n cap : Nat} {A2 : Option Addr} {n2 : Nat} {k : VK} (xs : List Value) (rest : List Ob) (news : List Value)
    (ht : Take (.sl A cap e size xs) own rest) (hx : n * size ≤ xs.length) (hn : news.length = n2 * size) (h1 : ∀ v ∈ news, oneCell v = true) (hnews : Ent M (RowAt A2 news))
    (hk : k (.int .i64 (Nat.min n2 n)) (.sl A cap e size (news.take (Nat.min n2 n * size) ++ xs.drop (Nat.min n2 n * size)) :: rest) N) : vcCpy M own N e size A n cap A2 n2 k :=
  .intro xs rest news ht ⟨hx, hn, h1⟩ hnews hk
theorem vcStore1_of {own : List Ob} {a : Addr} {v : Value} {k : List Ob → Prop} (o : Ob) (rest : List Ob) (b : Addr) (i : Nat) (ht : Take o own rest) (hb : o.base = some b) (ha : a = b.add i) (hi : i < o.cells.length) (h1 : oneCell v = true)
    (hk : k (o.set i v :: rest)) : vcStore1 own a v k := ⟨o, rest, i, ht, fun _ _ => ⟨b, hb, ha⟩, hi, h1, hk⟩
theorem vcMark_of {own : List Ob} {N : Mp} {a : Addr} {n c : Nat} {k : VK} {cap : Nat} {size : Nat} {xs : List Value} {rest : List Ob} (ht : Take (.sl (some a) cap 5 size xs) own rest) (hk : k (.slice (some a) n c) (.sl (some a) cap 5 size xs :: rest) N) : vcMark own N (some a) n c k := ⟨a, cap, size, xs, rest, rfl, ht, hk⟩
theorem vcStore1_0 {own : List Ob} {b : Addr} {j : Nat} {v : Value} {k : List Ob → Prop} (o : Ob) (rest : List Ob) (ht : Take o own rest) (hb : o.base = some b) (hi : j < o.cells.length) (h1 : oneCell v = true)
    (hk : k (o.set j v :: rest)) : vcStore1 own (b.add j) v k := ⟨o, rest, j, ht, fun _ _ => ⟨b, hb, rfl⟩, hi, h1, hk⟩
theorem vcStore1_1 {own : List Ob} {b : Addr} {i j : Nat} {v : Value} {k : List Ob → Prop} (o : Ob) (rest : List Ob) (ht : Take o own rest) (hb : o.base = some b) (hi : i + j < o.cells.length) (h1 : oneCell v = true)
    (hk : k (o.set (i + j) v :: rest)) : vcStore1 own ((b.add i).add j) v k := ⟨o, rest, i + j, ht, fun _ _ => ⟨b, hb, add_add b i j⟩, hi, h1, hk⟩
theorem vcStore1_2 {own : List Ob} {b : Addr} {i j l : Nat} {v : Value} {k : List Ob → Prop} (o : Ob) (rest : List Ob) (ht : Take o own rest) (hb : o.base = some b) (hi : i + j + l < o.cells.length) (h1 : oneCell v = true)
    (hk : k (o.set (i + j + l) v :: rest)) : vcStore1 own (((b.add i).add j).add l) v k := ⟨o, rest, i + j + l, ht, fun _ _ => ⟨b, hb, by rw [add_add, add_add, Nat.add_assoc]⟩, hi, h1, hk⟩
theorem vcStoreN_0 {own : List Ob} {b : Addr} {vs : List Value} {k : List Ob → Prop} (o : Ob) (rest : List Ob) (ht : Take o own rest) (hb : o.base = some b) (hi : vs.length ≤ o.cells.length) (h1 : ∀ v ∈ vs, oneCell v = true)
    (hk : k (o.setL 0 vs :: rest)) : vcStoreN own b vs k := ⟨o, rest, 0, ht, fun _ _ => ⟨b, hb, (add_zero b).symm⟩, by omega, h1, hk⟩
theorem vcStoreN_1 {own : List Ob} {b : Addr} {i : Nat} {vs : List Value} {k : List Ob → Prop} (o : Ob) (rest : List Ob) (ht : Take o own rest) (hb : o.base = some b) (hi : i + vs.length ≤ o.cells.length) (h1 : ∀ v ∈ vs, oneCell v = true)
    (hk : k (o.setL i vs :: rest)) : vcStoreN own (b.add i) vs k := ⟨o, rest, i, ht, fun _ _ => ⟨b, hb, rfl⟩, hi, h1, hk⟩
theorem vcStoreN_2 {own : List Ob} {b : Addr} {i j : Nat} {vs : List Value} {k : List Ob → Prop} (o : Ob) (rest : List Ob) (ht : Take o own rest) (hb : o.base = some b) (hi : i + j + vs.length ≤ o.cells.length) (h1 : ∀ v ∈ vs, oneCell v = true)
    (hk : k (o.setL (i + j) vs :: rest)) : vcStoreN own ((b.add i).add j) vs k := ⟨o, rest, i + j, ht, fun _ _ => ⟨b, hb, add_add b i j⟩, hi, h1, hk⟩
/-- A store over all the cells of an object. -/
theorem spl_all {xs vs : List Value} (h : vs.length = xs.length) : spl xs 0 vs = vs := by simp [spl, h]
theorem vcStoreN_row {own : List Ob} {b : Nat} {ty : TypeId} {xs : List Value} {m : Nat} {vs : List Value} {k : List Ob → Prop} (rest : List Ob) (ht : Take (.row b ty xs m) own rest) (hi : vs.length = xs.length) (h1 : ∀ v ∈ vs, oneCell v = true)
    (hk : k (.row b ty vs m :: rest)) : vcStoreN own ⟨b, 0, none⟩ vs k := by
  refine vcStoreN_0 (.row b ty xs m) rest ht rfl (by simp [Ob.cells, hi]) h1 ?_
  show k (.row b ty (spl xs 0 vs) m :: rest)
  rw [spl_all hi]; exact hk
/-- Equality of aggregates. -/
theorem vcEqA_of {P : Program} {t : TypeId} {xs ys : List Value} {X : Bool → Prop} (l : List LK) (hl : eqType P t l = true) (hx : fitsL l xs = true) (hy : fitsL l ys = true) (p : Prop) [Decidable p] (hp : xs = ys ↔ p) (k : X (decide p)) : vcEqA P t xs ys X :=
  ⟨l, hl, hx, hy, _, by rw [hp, decide_eq_true_iff], k⟩
theorem fitsL_bytes : ∀ (bs : List UInt8), fitsL (List.replicate bs.length (.i .u8)) (Bs bs) = true
  | [] => rfl
  | b :: r => by
    simp only [List.length_cons, List.replicate_succ, Bs, List.map_cons, fitsL, B, LK.fit, Bool.and_eq_true]
    exact ⟨rfl, fitsL_bytes r⟩
theorem Bs_inj {a b : List UInt8} : Bs a = Bs b ↔ a = b := by
  refine ⟨fun h => ?_, fun h => by rw [h]⟩
  induction a generalizing b with
  | nil => cases b with
    | nil => rfl
    | cons _ _ => cases h
  | cons x a ih => cases b with
    | nil => cases h
    | cons y b =>
      simp only [Bs, List.map_cons, List.cons.injEq, B, Value.int.injEq, true_and] at h
      obtain ⟨h1, h2⟩ := h
      have hxy : x = y := UInt8.toNat_inj.1 (by omega)
      rw [ih h2, hxy]
/-- A slice of the call's own, as a call leaves it. -/
def Own1 (n : Nat) (e : TypeId) (size : Nat) (xs : List Value) (v : Value) (own : List Ob) (N : Mp) : Prop := ∃ A cap, v = .slice A n cap ∧ own = [.sl A cap e size xs] ∧ N = MT ∧ n ≤ cap
/-- A pure answer. -/
def Ret (u v : Value) (own : List Ob) (N : Mp) : Prop := v = u ∧ own = [] ∧ N = MT

theorem vcSlice3_as {A : Option Addr} {size : Nat} {lim l h m : Int} {k : Value → Prop} (ln n c : Nat) (hl : l = ln) (hh : h = (ln + n : Nat)) (hm : m = (ln + c : Nat)) (hlim : m ≤ lim) (hnc : n ≤ c)
    (hk : ∀ A', A' = cutA A (ln + c) ln size → k (.slice A' n c)) : vcSlice3 A size lim l h m k := by
  refine ⟨⟨by omega, by omega, by omega⟩, hlim, ?_⟩
  subst hl; subst hh; subst hm
  have := hk _ rfl
  simp only [Int.toNat_natCast]
  rw [show ln + n - ln = n from by omega, show ln + c - ln = c from by omega]
  exact this
theorem RowAt.cut_eq {A A' : Option Addr} {xs ys : List Value} {w : World} {cap l size : Nat} (h : RowAt A xs w) (hA : A' = cutA A cap l size) (hn : xs.length ≤ cap * size) (hy : ys = (xs.drop (l * size)).take ys.length) : RowAt A' ys w := by
  subst hA
  rw [hy]
  exact h.cut hn
/-- A cut of bytes. -/
theorem RowAt.bytes {A A' : Option Addr} {xs ys : List UInt8} {w : World} {cap l : Nat} (h : RowAt A (Bs xs) w) (hA : A' = cutA A cap l 1) (hn : xs.length ≤ cap) (hy : ys = (xs.drop l).take ys.length) : RowAt A' (Bs ys) w := by
  refine h.cut_eq hA (by rw [Bs_length]; omega) ?_
  rw [Bs_length, Nat.mul_one, ← Bs_drop, ← Bs_take, ← hy]

/-! ### Bits -/
theorem vcShl_lit {kd : IntKind} {a b : Int} (n : Nat) {X : Int → Prop} (hb : b = n) (h : n ≤ kd.bits) (k : vcFit kd (a * 2 ^ n) X) : vcShl kd a b X := by subst hb; exact vcShl_nat h k

theorem vcShr_lit {kd : IntKind} {a b : Int} (n : Nat) {X : Int → Prop} (hb : b = n) (h : n ≤ kd.bits) (k : X (a / 2 ^ n)) : vcShr kd a b X := by subst hb; exact vcShr_nat h k
theorem ofInt_nat (n a : Nat) (h : a < 2 ^ n) : (BitVec.ofInt n (a : Int)).toNat = a := by
  rw [BitVec.ofInt_natCast, BitVec.toNat_ofNat]; exact Nat.mod_eq_of_lt h
theorem max_lt (kd : IntKind) : kd.max < 2 ^ kd.bits := by cases kd <;> decide
theorem min_le (kd : IntKind) : kd.min ≤ 0 := by cases kd <;> decide
theorem max_pow (kd : IntKind) : ∃ m, kd.max = 2 ^ m - 1 := by
  cases kd
  · exact ⟨7, rfl⟩
  · exact ⟨15, rfl⟩
  · exact ⟨31, rfl⟩
  · exact ⟨63, rfl⟩
  · exact ⟨8, rfl⟩
  · exact ⟨16, rfl⟩
  · exact ⟨32, rfl⟩
  · exact ⟨64, rfl⟩
theorem nat_lt_bits {kd : IntKind} {a : Nat} (h : (a : Int) ≤ kd.max) : a < 2 ^ kd.bits := by
  have h1 := max_lt kd
  have h2 : ((2 ^ kd.bits : Nat) : Int) = (2 : Int) ^ kd.bits := by simp
  omega
theorem bitI_or {kd : IntKind} {a b : Nat} (ha : (a : Int) ≤ kd.max) (hb : (b : Int) ≤ kd.max) : bitI .or kd a b = ((a ||| b : Nat) : Int) := by
  have e : (BitVec.ofInt kd.bits (a : Int) ||| BitVec.ofInt kd.bits (b : Int)).toNat = a ||| b := by
    rw [BitVec.toNat_or, ofInt_nat _ _ (nat_lt_bits ha), ofInt_nat _ _ (nat_lt_bits hb)]
  have hm : ((a ||| b : Nat) : Int) ≤ kd.max := by
    obtain ⟨m, hm⟩ := max_pow kd
    have hp : ((2 ^ m : Nat) : Int) = (2 : Int) ^ m := by simp
    have := Nat.or_lt_two_pow (x := a) (y := b) (n := m) (by omega) (by omega)
    omega
  simp only [bitI, e]
  exact wrap_in kd _ (by have := min_le kd; omega) hm
theorem bitI_and {kd : IntKind} {a b : Nat} (ha : (a : Int) ≤ kd.max) (hb : (b : Int) ≤ kd.max) : bitI .and kd a b = ((a &&& b : Nat) : Int) := by
  have e : (BitVec.ofInt kd.bits (a : Int) &&& BitVec.ofInt kd.bits (b : Int)).toNat = a &&& b := by
    rw [BitVec.toNat_and, ofInt_nat _ _ (nat_lt_bits ha), ofInt_nat _ _ (nat_lt_bits hb)]
  have hm : ((a &&& b : Nat) : Int) ≤ kd.max := by
    have : a &&& b ≤ a := Nat.and_le_left
    omega
  simp only [bitI, e]
  exact wrap_in kd _ (by have := min_le kd; omega) hm
theorem bitI_xor {kd : IntKind} {a b : Nat} (ha : (a : Int) ≤ kd.max) (hb : (b : Int) ≤ kd.max) : bitI .xor kd a b = ((a ^^^ b : Nat) : Int) := by
  have e : (BitVec.ofInt kd.bits (a : Int) ^^^ BitVec.ofInt kd.bits (b : Int)).toNat = a ^^^ b := by
    rw [BitVec.toNat_xor, ofInt_nat _ _ (nat_lt_bits ha), ofInt_nat _ _ (nat_lt_bits hb)]
  have hm : ((a ^^^ b : Nat) : Int) ≤ kd.max := by
    obtain ⟨m, hm⟩ := max_pow kd
    have hp : ((2 ^ m : Nat) : Int) = (2 : Int) ^ m := by simp
    have := Nat.xor_lt_two_pow (x := a) (y := b) (n := m) (by omega) (by omega)
    omega
  simp only [bitI, e]
  exact wrap_in kd _ (by have := min_le kd; omega) hm
theorem max_i64 : IntKind.i64.max = 9223372036854775807 := by decide
theorem max_u64 : IntKind.u64.max = 18446744073709551615 := by decide
theorem max_u8 : IntKind.u8.max = 255 := by decide
theorem or_low (n x k : Nat) (h : x < 2 ^ k) : n * 2 ^ k ||| x = n * 2 ^ k + x := by
  rw [Nat.mul_comm, ← Nat.two_pow_add_eq_or_of_lt h]
end Go.Proofs.Yticllmnblcjjcaa
