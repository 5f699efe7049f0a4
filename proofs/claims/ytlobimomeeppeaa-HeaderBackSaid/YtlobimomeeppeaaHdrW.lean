/- Headers: HeaderBack. -/
import Derived.Test.YtlobimomeeppeaaHdrV
namespace Go.Proofs.Ytlobimomeeppeaa
open Go.Proofs
set_option maxRecDepth 10000

theorem takeP_pre (pre xs ys : List UInt8) : takeP (pre ++ (xs ++ ys)) xs.length pre.length = .ok (xs, (pre ++ xs).length) := by
  unfold takeP
  rw [if_neg (by simp only [List.length_append]; omega), List.drop_left, List.take_left, List.length_append]
theorem takeP_pre1 (pre : List UInt8) (x : UInt8) (ys : List UInt8) : takeP (pre ++ (x :: ys)) 1 pre.length = .ok ([x], (pre ++ [x]).length) := takeP_pre pre [x] ys
theorem numP_pre (pre ys : List UInt8) (n : Nat) (hn : n < 4611686018427387904) : numP (pre ++ (vput n ++ ys)) pre.length = .ok (n, (pre ++ vput n).length) := by
  have hf : hasForm (n : Int) := ⟨by omega, by omega⟩
  have hv : vput (n : Int) = vputN n := by unfold vput; rw [if_pos hf, Int.toNat_natCast]
  rw [hv]
  unfold numP
  rw [vget_form hn, if_neg (fun h => h rfl), List.length_append, vputN_length]
  simp only [Int.toNat_natCast]
theorem lenB_num (pre ys : List UInt8) (n : Nat) (hn : n ≤ 16384) : numP (pre ++ (lenB n ++ ys)) pre.length = .ok (n, (pre ++ lenB n).length) := by
  by_cases hlt : n < 16384
  · have e : lenB n = [UInt8.ofNat (n / 256 + 64), UInt8.ofNat (n % 256)] := by
      unfold lenB
      rw [if_pos (by omega), show (n : Int) / 2 ^ 8 + 64 = ((n / 256 + 64 : Nat) : Int) from by omega, byteI_nat, byteI_nat, Nat.mod_eq_of_lt (show n / 256 + 64 < 256 by omega)]
    rw [e]
    have hd : (pre ++ ([UInt8.ofNat (n / 256 + 64), UInt8.ofNat (n % 256)] ++ ys)).drop pre.length = UInt8.ofNat (n / 256 + 64) :: (UInt8.ofNat (n % 256) :: ys) := by rw [List.drop_left]; rfl
    have h1 : (UInt8.ofNat (n / 256 + 64)).toNat = n / 256 + 64 := ofNat_toNat _ (by omega)
    have h2 : (UInt8.ofNat (n % 256)).toNat = n % 256 := ofNat_toNat _ (by omega)
    have hc : (n / 256 + 64) / 64 = 1 := by omega
    have hm : (n / 256 + 64) % 64 = n / 256 := by omega
    have hbe : beval (n / 256) ((UInt8.ofNat (n % 256) :: ys).take (2 ^ 1 - 1)) = n := by
      show beval (n / 256) [UInt8.ofNat (n % 256)] = n
      simp only [beval, h2]
      omega
    unfold numP
    rw [vget_ok (by simp) hd (by rw [h1, hc]; simp), if_neg (fun h => h rfl), h1, hc, hm, hbe]
    rw [List.length_append]
    show Except.ok ((n : Int).toNat, ((pre.length + 2 : Nat) : Int).toNat) = _
    rw [Int.toNat_natCast, Int.toNat_natCast]
    rfl
  · unfold lenB
    rw [if_neg (by omega)]
    exact numP_pre pre ys n (by omega)
theorem first_val : ∀ k, k < 3 → ∀ u, u < 4 → (byteI (191 + 16 * (((k : Nat) : Int) + 1 - 1) + (((u : Nat) : Int) + 1))).toNat = 192 + 16 * k + u := by decide +kernel
theorem first_val6 : ∀ u, u < 4 → (byteI (63 + (((u : Nat) : Int) + 1))).toNat = 64 + u := by decide +kernel
theorem byteI_len (l : List UInt8) (h : l.length ≤ 20) : (byteI l.length).toNat = l.length := by rw [byteI_nat, ofNat_toNat _ (by omega)]; omega
theorem cidP_pre (pre l ys : List UInt8) (h : l.length ≤ 20) : cidP (pre ++ (byteI l.length :: (l ++ ys))) pre.length = .ok (l, (pre ++ [byteI l.length] ++ l).length) := by
  unfold cidP
  rw [takeP_pre1]
  have e : beval 0 [byteI l.length] = l.length := by simp [beval, byteI_len l h]
  simp only [e]
  rw [if_neg (by omega)]
  have := takeP_pre (pre ++ [byteI l.length]) l ys
  rw [List.append_assoc, List.singleton_append] at this
  exact this

/-- What is built is read back: a short header. -/
theorem back_short {h : HdrI} {w : Int} (hw1 : 1 ≤ w) (hw4 : w ≤ 4) (hd : h.dst.length ≤ 20) (rest : List UInt8) :
    parseL (([byteI (63 + w)] ++ h.dst) ++ rest) h.dst.length = .ok (⟨6, 0, h.dst, [], [], [], rest.length⟩, ([byteI (63 + w)] ++ h.dst).length, (([byteI (63 + w)] ++ h.dst) ++ rest).length) := by
  obtain ⟨u, rfl⟩ : ∃ u : Nat, w = (u : Int) + 1 := ⟨(w - 1).toNat, by omega⟩
  have hf := first_val6 u (by omega)
  generalize byteI (63 + ((u : Int) + 1)) = f at hf
  have ht := takeP_pre1 [] f (h.dst ++ rest)
  rw [List.nil_append] at ht
  have ht2 := takeP_pre [f] h.dst rest
  have hP : parseP (f :: (h.dst ++ rest)) h.dst.length = if f.toNat < 128 then shortP (f :: (h.dst ++ rest)) h.dst.length f 1 else longP (f :: (h.dst ++ rest)) f 1 := by
    unfold parseP
    rw [show takeP (f :: (h.dst ++ rest)) 1 0 = .ok ([f], 1) from ht]
    rfl
  unfold parseL
  rw [if_neg (by omega), Int.toNat_natCast, List.append_assoc, List.singleton_append, hP, if_pos (by omega)]
  unfold shortP
  rw [if_neg (by omega), show takeP (f :: (h.dst ++ rest)) h.dst.length 1 = .ok (h.dst, ([f] ++ h.dst).length) from ht2]
  simp only [List.length_append, List.length_cons, List.length_nil]
  congr 3
  congr 1
  omega

theorem back_long {h : HdrI} {w : Int} (hw1 : 1 ≤ w) (hw4 : w ≤ 4) (hd : h.dst.length ≤ 20) (hk1 : 1 ≤ h.kind) (hk3 : h.kind ≤ 3) (hs : h.src.length ≤ 20) (n : Nat) (hn : h.len = n) (hn1 : 1 ≤ n) (hn2 : n ≤ 16384) (ht : h.kind = 1 → h.tok.length ≤ 16384) (rest : List UInt8) (hr : n ≤ rest.length) :
    parseL (((headB h w ++ tokB h) ++ lenB h.len) ++ rest) h.dst.length = .ok (⟨h.kind, 1, h.dst, h.src, if h.kind = 1 then h.tok else [], [], n⟩, ((headB h w ++ tokB h) ++ lenB h.len).length, ((headB h w ++ tokB h) ++ lenB h.len).length + n) := by
  obtain ⟨u, hu⟩ : ∃ u : Nat, w = (u : Int) + 1 := ⟨(w - 1).toNat, by omega⟩
  obtain ⟨k, hk⟩ : ∃ k : Nat, h.kind = (k : Int) + 1 := ⟨(h.kind - 1).toNat, by omega⟩
  obtain ⟨f, hfe⟩ : ∃ f, f = byteI (191 + 16 * (h.kind - 1) + w) := ⟨_, rfl⟩
  have hf : f.toNat = 192 + 16 * k + u := by rw [hfe, hk, hu]; exact first_val k (by omega) u (by omega)
  have hkn : kindN f = k + 1 := by unfold kindN; omega
  rw [hn]
  have e : ((headB h w ++ tokB h) ++ lenB n) ++ rest = f :: ([0, 0, 0, 1] ++ (byteI h.dst.length :: (h.dst ++ (byteI h.src.length :: (h.src ++ (tokB h ++ (lenB n ++ rest))))))) := by
    rw [hfe]; simp [headB]
  have el : ((headB h w ++ tokB h) ++ lenB n).length = (([f] ++ [0, 0, 0, 1] ++ [byteI h.dst.length] ++ h.dst ++ [byteI h.src.length] ++ h.src) ++ tokB h ++ lenB n).length := by
    simp [headB]
  rw [e, el]
  obtain ⟨bs, hbs⟩ : ∃ bs, bs = f :: ([0, 0, 0, 1] ++ (byteI h.dst.length :: (h.dst ++ (byteI h.src.length :: (h.src ++ (tokB h ++ (lenB n ++ rest))))))) := ⟨_, rfl⟩
  obtain ⟨p4, hp4⟩ : ∃ p, p = [f] ++ [0, 0, 0, 1] ++ [byteI h.dst.length] ++ h.dst ++ [byteI h.src.length] ++ h.src := ⟨_, rfl⟩
  have hb4 : bs = p4 ++ (tokB h ++ (lenB n ++ rest)) := by rw [hbs, hp4]; simp
  have h1 : takeP bs 1 0 = .ok ([f], 1) := by rw [hbs]; exact takeP_pre1 [] f _
  have h2 : wordP bs 1 = .ok (1, 5) := by
    have := takeP_pre [f] [0, 0, 0, 1] (byteI h.dst.length :: (h.dst ++ (byteI h.src.length :: (h.src ++ (tokB h ++ (lenB n ++ rest))))))
    unfold wordP
    rw [hbs, show takeP (f :: ([0, 0, 0, 1] ++ (byteI h.dst.length :: (h.dst ++ (byteI h.src.length :: (h.src ++ (tokB h ++ (lenB n ++ rest)))))))) 4 1 = _ from this]
    rfl
  have h3 : cidP bs 5 = .ok (h.dst, ([f] ++ [0, 0, 0, 1] ++ [byteI h.dst.length] ++ h.dst).length) := by
    have := cidP_pre ([f] ++ [0, 0, 0, 1]) h.dst (byteI h.src.length :: (h.src ++ (tokB h ++ (lenB n ++ rest)))) hd
    rw [hbs]
    exact this
  have h4 : cidP bs ([f] ++ [0, 0, 0, 1] ++ [byteI h.dst.length] ++ h.dst).length = .ok (h.src, p4.length) := by
    have := cidP_pre ([f] ++ [0, 0, 0, 1] ++ [byteI h.dst.length] ++ h.dst) h.src (tokB h ++ (lenB n ++ rest)) hs
    rw [hp4, ← this]
    congr 1
    all_goals (rw [hbs]; simp)
  have h5 : tokP bs f p4.length = .ok (if h.kind = 1 then h.tok else [], (p4 ++ tokB h).length) := by
    unfold tokP
    by_cases hk0 : h.kind = 1
    · have htl := ht hk0
      have htb : tokB h = vput h.tok.length ++ h.tok := if_pos hk0
      have hb5 : bs = p4 ++ (vput h.tok.length ++ (h.tok ++ (lenB n ++ rest))) := by rw [hb4, htb]; simp
      have hb6 : bs = (p4 ++ vput h.tok.length) ++ (h.tok ++ (lenB n ++ rest)) := by rw [hb5]; simp
      have hn1 : numP bs p4.length = .ok (h.tok.length, (p4 ++ vput h.tok.length).length) := by rw [hb5]; exact numP_pre p4 _ _ (by omega)
      have ht1 : takeP bs h.tok.length (p4 ++ vput h.tok.length).length = .ok (h.tok, (p4 ++ vput h.tok.length ++ h.tok).length) := by rw [hb6]; exact takeP_pre _ _ _
      rw [if_pos (by omega), hn1]
      simp only
      rw [ht1, if_pos hk0, htb, List.append_assoc]
    · have htb : tokB h = [] := if_neg hk0
      rw [if_neg (by omega), if_neg hk0, htb, List.append_nil]
  have h6 : lenP bs (if h.kind = 1 then h.tok else []) (p4 ++ tokB h).length = .ok (if h.kind = 1 then h.tok else [], n, (p4 ++ tokB h ++ lenB n).length) := by
    have hb7 : bs = (p4 ++ tokB h) ++ (lenB n ++ rest) := by rw [hb4]; simp
    have hn1 : numP bs (p4 ++ tokB h).length = .ok (n, (p4 ++ tokB h ++ lenB n).length) := by
      conv => lhs; rw [hb7]
      exact lenB_num _ _ _ hn2
    have hlen : bs.length = (p4 ++ tokB h ++ lenB n).length + rest.length := by rw [hb7]; simp only [List.length_append]; omega
    unfold lenP
    rw [hn1]
    simp only
    rw [if_neg (by omega)]
  have h7 : kindP bs f p4.length = .ok (if h.kind = 1 then h.tok else [], n, (p4 ++ tokB h ++ lenB n).length) := by
    unfold kindP
    rw [if_neg (by omega), h5]
    exact h6
  have h8 : restP bs f 1 h.dst h.src p4.length = .ok (⟨kindN f, 1, h.dst, h.src, if h.kind = 1 then h.tok else [], [], n⟩, (p4 ++ tokB h ++ lenB n).length) := by
    unfold restP
    rw [if_neg (by decide), if_pos rfl, if_neg (by omega), h7]
  have hP : parseP bs h.dst.length = if f.toNat < 128 then shortP bs h.dst.length f 1 else longP bs f 1 := by
    unfold parseP
    rw [h1]
    rfl
  rw [← hbs, ← hp4]
  unfold parseL
  rw [if_neg (by omega), Int.toNat_natCast, hP, if_neg (by omega)]
  unfold longP
  rw [h2]
  simp only
  rw [h3]
  simp only
  rw [h4]
  simp only
  rw [h8]
  simp only [endP]
  rw [if_pos (show 0 < n by omega), show ((kindN f : Nat) : Int) = h.kind from by rw [hkn, hk]; rfl]
theorem word_long {f : UInt8} (r : List UInt8) : wordP (f :: ([0, 0, 0, 1] ++ r)) 1 = .ok (1, 5) := by
  have := takeP_pre [f] [0, 0, 0, 1] r
  unfold wordP
  rw [show takeP (f :: ([0, 0, 0, 1] ++ r)) 4 1 = _ from this]
  rfl
/-- What reading back gives. -/
structure Back (h : HdrI) (w : Int) (rest : List UInt8) (g : HdrL) (en : Nat) : Prop where
  parse : parseL ((buildI h w).1 ++ rest) h.dst.length = .ok (g, (buildI h w).1.length, en)
  kind : g.kind = h.kind
  dst : g.dst = h.dst
  short : h.kind = 6 → en = (buildI h w).1.length + rest.length ∧ g.len = rest.length
  tok : h.kind = 1 → g.tok = h.tok
  long : h.kind ≠ 6 → g.ver = 1 ∧ g.src = h.src ∧ (g.len : Int) = h.len ∧ (en : Int) = (buildI h w).1.length + h.len
  size : ∀ x r, (buildI h w).1 ++ rest = x :: r → 128 ≤ x.toNat → ∀ p, wordP ((buildI h w).1 ++ rest) 1 ≠ .ok (0, p)
  first : ∃ x r, (buildI h w).1 = x :: r ∧ (x.toNat % 4 : Nat) = w - 1
  tl : g.tok.length ≤ 16384
  sl : g.src.length ≤ 20
theorem back_is {h : HdrI} {w : Int} (hr : rightI h w = 0) (rest : List UInt8) (hlen : h.kind ≠ 6 → h.len ≤ rest.length) : ∃ g en, Back h w rest g en := by
  obtain ⟨hw1, hw4, hdl, hkd⟩ := right_ok hr
  have hB : buildI h w = (if h.kind = 6 then [byteI (63 + w)] ++ h.dst else (headB h w ++ tokB h) ++ lenB h.len, 0) := if_neg (by simpa using hr)
  obtain ⟨u, hu⟩ : ∃ u : Nat, w = (u : Int) + 1 := ⟨(w - 1).toNat, by omega⟩
  by_cases h6 : h.kind = 6
  · have hB1 : (buildI h w).1 = [byteI (63 + w)] ++ h.dst := by rw [hB, if_pos h6]
    have hf := first_val6 u (by omega)
    rw [← hu] at hf
    refine ⟨_, _, by rw [hB1]; exact back_short hw1 hw4 hdl rest, h6.symm, rfl, fun _ => ⟨by rw [hB1, List.length_append (bs := rest)], rfl⟩, fun h1 => by omega, fun h => absurd h6 h, ?_, ⟨byteI (63 + w), h.dst, hB1, by omega⟩, Nat.zero_le _, Nat.zero_le _⟩
    intro x r hx h128
    rw [hB1] at hx
    obtain ⟨rfl, _⟩ := List.cons.inj hx
    omega
  · obtain ⟨hk1, hk3, hsl, hl1, hl2, htl⟩ := hkd.resolve_left h6
    have hB1 : (buildI h w).1 = (headB h w ++ tokB h) ++ lenB h.len := by rw [hB, if_neg h6]
    obtain ⟨n, hn⟩ : ∃ n : Nat, h.len = (n : Int) := ⟨h.len.toNat, by omega⟩
    obtain ⟨k, hk⟩ : ∃ k : Nat, h.kind = (k : Int) + 1 := ⟨(h.kind - 1).toNat, by omega⟩
    have hf := first_val k (by omega) u (by omega)
    rw [← hk, ← hu] at hf
    have hlr := hlen h6
    refine ⟨_, _, by rw [hB1]; exact back_long hw1 hw4 hdl hk1 hk3 hsl n hn (by omega) (by omega) htl rest (by omega), rfl, rfl, fun h => absurd h h6, fun h1 => if_pos h1, fun _ => ⟨rfl, rfl, hn.symm, by rw [hB1, hn]; omega⟩, ?_, ⟨byteI (191 + 16 * (h.kind - 1) + w), _, by rw [hB1]; simp only [headB, List.cons_append, List.nil_append, List.append_assoc]; rfl, by omega⟩, ?_, hsl⟩
    · intro x r hx h128 p
      rw [hB1]
      have e : ((headB h w ++ tokB h) ++ lenB h.len) ++ rest = byteI (191 + 16 * (h.kind - 1) + w) :: ([0, 0, 0, 1] ++ (byteI h.dst.length :: (h.dst ++ (byteI h.src.length :: (h.src ++ (tokB h ++ (lenB h.len ++ rest))))))) := by simp [headB]
      rw [e, word_long]
      intro h
      cases h
    · show (if h.kind = 1 then h.tok else []).length ≤ 16384
      split
      · rename_i h1; exact htl h1
      · exact Nat.zero_le _
end Go.Proofs.Ytlobimomeeppeaa
