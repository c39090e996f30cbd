/- Plain law: the words of the printed words of some bytes are those words. No conditions. -/
import Derived.Test.YtjmejlncomaclaaDoorLxRef3
import Derived.Lib.Join
import Derived.Lib.ItoaNum
namespace Go.Proofs.YtjmejlncomaclaaDoor.Lx

/-- A quote that does not stand in it. -/
def quoteOf (s : List UInt8) : UInt8 := if (34 : UInt8) ∈ s then 39 else 34
/-- A word's text as Print has it. -/
def prA (kind : Int) (text : List UInt8) (num : Int) : List UInt8 :=
  if kind = 2 then Lib.itoa num else if kind = 1 then quoteOf text :: (text ++ [quoteOf text]) else text
def pr1 (x : Wd) : List UInt8 := prA x.kind x.text x.num

/-- All of it is characters. -/
def V (l : List UInt8) : Prop := mend l = l
theorem V.nil : V [] := rfl
theorem V.okc {l : List UInt8} (h : V l) (hl : l ≠ []) : Okc l := by
  by_cases h1 : Okc l
  · exact h1
  · exact absurd h (mend_bad hl h1)
theorem V.drop {l : List UInt8} (h : V l) (hl : l ≠ []) : V (l.drop (dec l).2) := (mend_ok (h.okc hl)).1 h
theorem V.low {b : UInt8} {l : List UInt8} (hb : b.toNat < 128) : V (b :: l) ↔ V l := by
  unfold V
  rw [mend_low b l hb]
  simp
theorem valN_congr (n b0 b1 b2 b3 c1 c2 c3 : Nat) (hn : n ≤ 4) (hp : 1 ≤ n) (h1 : 1 < n → c1 = b1) (h2 : 2 < n → c2 = b2) (h3 : 3 < n → c3 = b3) : valN n b0 c1 c2 c3 = valN n b0 b1 b2 b3 := by
  unfold valN
  by_cases a1 : n = 1
  · rw [if_pos a1, if_pos a1]
  · rw [if_neg a1, if_neg a1]
    by_cases a2 : n = 2
    · rw [if_pos a2, if_pos a2, h1 (by omega)]
    · rw [if_neg a2, if_neg a2]
      by_cases a3 : n = 3
      · rw [if_pos a3, if_pos a3, h1 (by omega), h2 (by omega)]
      · rw [if_neg a3, if_neg a3]
        rw [h1 (by omega), h2 (by omega), h3 (by omega)]
theorem okc_take {l : List UInt8} (h : Okc l) (j : Nat) (h1 : (dec l).2 ≤ j) (h2 : j ≤ l.length) : Okc (l.take j) ∧ dec (l.take j) = dec l := by
  have hp := dec_pos l
  have hf := okc_front h
  have hd := dec_ok h
  have hc := front_cut l j (by omega) h2
  have ho : Okc (l.take j) := by
    unfold Okc
    rw [hc]
    simp only
    omega
  refine ⟨ho, ?_⟩
  rw [dec_front l (okc_ne h), if_pos h, dec_front _ (okc_ne ho), if_pos ho]
  rw [getD_take l j 0 (by omega)]
  have h4 := szOf_le (l.getD 0 0).toNat
  have hf1 := hf.1
  have hf4 := hf.2.2.2
  refine congrArg (fun z => (z, szOf (l.getD 0 0).toNat)) (valN_congr _ _ _ _ _ _ _ _ h4 hf4 (fun h => by rw [getD_take l j 1 (by omega)]) (fun h => by rw [getD_take l j 2 (by omega)]) (fun h => by rw [getD_take l j 3 (by omega)]))
theorem okc_app {l : List UInt8} (h : Okc l) (x : List UInt8) : Okc (l ++ x) ∧ dec (l ++ x) = dec l := by
  have hl := ne_len (okc_ne h)
  have hc := front_cut (l ++ x) l.length hl (by simp)
  rw [List.take_left] at hc
  have hf := front_le (l ++ x)
  have h' := h
  unfold Okc at h'
  rw [hc] at h'
  simp only at h'
  have ho : Okc (l ++ x) := ⟨h'.1, by omega⟩
  refine ⟨ho, ?_⟩
  have := okc_take ho l.length (by rw [dec_ok ho]; omega) (by simp)
  rw [List.take_left] at this
  exact this.2.symm
theorem mend_app : ∀ k (l x : List UInt8), l.length ≤ k → V l → mend (l ++ x) = l ++ mend x := by
  intro k
  induction k with
  | zero => intro l x h _; cases l with
    | nil => rfl
    | cons a t => simp at h
  | succ k ih =>
    intro l x h hv
    by_cases hl : l = []
    · subst hl; rfl
    · have ho := hv.okc hl
      have h1 := dec_pos l
      have h2 := dec_le l hl
      obtain ⟨h3, h4⟩ := okc_app ho x
      rw [mend_cons _ (okc_ne h3), enc_ok h3, h4, List.drop_append_of_le_length h2, List.take_append_of_le_length h2, ih _ x (by rw [List.length_drop]; omega) (hv.drop hl), ← List.append_assoc, List.take_append_drop]
theorem V.app {l x : List UInt8} (h : V l) (hx : V x) : V (l ++ x) := by
  unfold V
  rw [mend_app _ l x (Nat.le_refl _) h, hx]
theorem run_split (c : Nat) : ∀ k (l : List UInt8), l.length ≤ k → V l → V (l.take (run c l)) ∧ V (l.drop (run c l)) ∧ run c (l.take (run c l)) = run c l := by
  intro k
  induction k with
  | zero => intro l h _; cases l with
    | nil => exact ⟨rfl, rfl, rfl⟩
    | cons a t => simp at h
  | succ k ih =>
    intro l h hv
    by_cases hl : l = []
    · subst hl; exact ⟨rfl, rfl, rfl⟩
    · have h1 := dec_pos l
      have h2 := dec_le l hl
      have ho := hv.okc hl
      rw [run_cons c l hl]
      by_cases hc : isC c (dec l).1 = true
      · rw [if_pos hc]
        obtain ⟨i1, i2, i3⟩ := ih (l.drop (dec l).2) (by rw [List.length_drop]; omega) (hv.drop hl)
        have hr := run_le c _ (l.drop (dec l).2) (Nat.le_refl _)
        rw [List.length_drop] at hr
        generalize run c (l.drop (dec l).2) = m at *
        obtain ⟨t1, t2⟩ := okc_take ho ((dec l).2 + m) (by omega) (by omega)
        have e : (l.take ((dec l).2 + m)).drop (dec l).2 = (l.drop (dec l).2).take m := by rw [List.drop_take]; congr 1; omega
        refine ⟨?_, ?_, ?_⟩
        · unfold V
          rw [mend_ok t1, t2, e]
          exact i1
        · rw [← List.drop_drop]; exact i2
        · rw [run_cons c _ (okc_ne t1), t2, if_pos hc, e, i3]
      · rw [if_neg hc]
        exact ⟨rfl, by simpa using hv, by simp [run_nil]⟩
theorem okc_bytes {l : List UInt8} (h : Okc l) (r : Nat) (hr : r < 128) (hn : (dec l).1 ≠ r) : ∀ b ∈ l.take (dec l).2, b.toNat ≠ r := by
  intro b hb
  obtain ⟨i, hi, rfl⟩ := List.mem_iff_getElem.1 hb
  rw [List.length_take] at hi
  have hne := okc_ne h
  have hd := dec_ok h
  obtain ⟨f1, f2, f3, f4⟩ := okc_front h
  have hk := ((okc_iff l).1 h).2.2
  have e : (l.take (dec l).2)[i]'(by rw [List.length_take]; omega) = l.getD i 0 := by
    simp [List.getD_eq_getElem?_getD, List.getElem?_eq_getElem (show i < l.length by omega)]
  rw [e]
  by_cases h0 : (l.getD 0 0).toNat < 128
  · have h1 : szOf (l.getD 0 0).toNat = 1 := by unfold szOf; rw [if_pos h0]
    obtain rfl : i = 0 := by omega
    intro h2
    apply hn
    cases l with
    | nil => exact absurd rfl hne
    | cons a t =>
      rw [List.getD_cons_zero] at h0 h2
      rw [dec_ascii a t h0]
      exact h2
  · have h1' : szOf (l.getD 0 0).toNat = 0 ∨ 2 ≤ szOf (l.getD 0 0).toNat := by
      unfold szOf; rw [if_neg h0]
      (repeat' split) <;> simp
    have h1 : 2 ≤ szOf (l.getD 0 0).toNat := by omega
    have h5 := szOf_le (l.getD 0 0).toNat
    unfold frontN at hk
    have g1 : 128 ≤ goesLo (l.getD 0 0).toNat := by unfold goesLo; (repeat' split) <;> omega
    have hiw : i < szOf (l.getD 0 0).toNat := by omega
    match i, hiw with
    | 0, _ => omega
    | 1, _ => split at hk <;> omega
    | 2, _ => split at hk
              · omega
              · split at hk <;> omega
    | 3, _ => split at hk
              · omega
              · split at hk
                · omega
                · split at hk <;> omega
    | n + 4, h => omega
theorem runeAt_split (r : Nat) (hr : r < 128) : ∀ k (l : List UInt8) e, l.length ≤ k → V l → runeAt r l = some e → V (l.take e) ∧ V (l.drop e) ∧ ∀ b ∈ l.take e, b.toNat ≠ r := by
  intro k
  induction k with
  | zero => intro l e h hv he; cases l with
    | nil => simp [runeAt, atF] at he
    | cons a t => simp at h
  | succ k ih =>
    intro l e h hv he
    by_cases hl : l = []
    · subst hl; simp [runeAt, atF] at he
    · have h1 := dec_pos l
      have h2 := dec_le l hl
      have ho := hv.okc hl
      rw [runeAt_cons r l hl] at he
      split at he
      · cases he
        exact ⟨rfl, by simpa using hv, by simp⟩
      · rename_i hn
        obtain ⟨m, hm, rfl⟩ := Option.map_eq_some_iff.1 he
        obtain ⟨i1, i2, i3⟩ := ih (l.drop (dec l).2) m (by rw [List.length_drop]; omega) (hv.drop hl) hm
        have hlt := (runeAt_some r hr _ _ _ (Nat.le_refl _) hm).1
        rw [List.length_drop] at hlt
        rw [Nat.add_comm m]
        obtain ⟨t1, t2⟩ := okc_take ho ((dec l).2 + m) (by omega) (by omega)
        have e : (l.take ((dec l).2 + m)).drop (dec l).2 = (l.drop (dec l).2).take m := by rw [List.drop_take]; congr 1; omega
        refine ⟨?_, ?_, ?_⟩
        · unfold V
          rw [mend_ok t1, t2, e]
          exact i1
        · rw [← List.drop_drop]; exact i2
        · rw [List.take_add]
          intro b hb
          rcases List.mem_append.1 hb with hb | hb
          · exact okc_bytes ho r hr hn b hb
          · exact i3 b hb
theorem runeAt_put (z : UInt8) (hz : z.toNat < 128) (x : List UInt8) : ∀ k (t : List UInt8), t.length ≤ k → V t → z ∉ t → runeAt z.toNat (t ++ z :: x) = some t.length := by
  intro k
  induction k with
  | zero => intro t h _ _; cases t with
    | nil => rw [List.nil_append, runeAt_cons _ _ (by simp), dec_ascii z x hz]; simp
    | cons a t => simp at h
  | succ k ih =>
    intro t h hv hn
    by_cases hl : t = []
    · subst hl; rw [List.nil_append, runeAt_cons _ _ (by simp), dec_ascii z x hz]; simp
    · have h1 := dec_pos t
      have h2 := dec_le t hl
      obtain ⟨h3, h4⟩ := okc_app (hv.okc hl) (z :: x)
      have hne : (dec t).1 ≠ z.toNat := by
        intro he
        obtain ⟨b, s, rfl, hb, _⟩ := dec_low t hl (by omega)
        have : b = z := UInt8.toNat_inj.1 (by omega)
        exact hn (by rw [this]; simp)
      rw [runeAt_cons _ _ (okc_ne h3), h4, if_neg hne, List.drop_append_of_le_length h2, ih _ (by rw [List.length_drop]; omega) (hv.drop hl) (fun hm => hn (List.mem_of_mem_drop hm))]
      rw [List.length_drop]
      simp only [Option.map_some, Option.some.injEq]
      omega

/-- Some bytes that are one word. -/
theorem words_single (T : List UInt8) (x : Wd) (hT : T ≠ []) (hv : V T) (hb : run 1 T = 0) (hw : word T = (x, T.length, true)) : words T = .ok [(x, 0)] := by
  have hl := ne_len hT
  unfold words
  rw [if_neg (by rw [show mend T = T from hv]; simp), hb, wordsF_step _ T 0 (by omega) (by omega), List.drop_zero, hw]
  simp only [↓reduceIte]
  rw [Nat.zero_add, wordsF_end _ _ _ (by have := skip_le T T.length (Nat.le_refl _); omega)]
  rfl

/-! ### digits -/
theorem dig_C : ∀ r : Fin 58, 48 ≤ r.val → isC 2 r.val = false ∧ isC 4 r.val = true ∧ isC 1 r.val = false := by decide
theorem decDigits_dig (u : Nat) : ∀ b ∈ Lib.decDigits u, 48 ≤ b.toNat ∧ b.toNat ≤ 57 := by
  induction u using Nat.strongRecOn with
  | ind u ih =>
    intro b hb
    rw [Lib.decDigits] at hb
    split at hb
    · simp only [List.mem_singleton] at hb
      subst hb
      simp only [UInt8.toNat_ofNat']
      omega
    · rcases List.mem_append.1 hb with hb | hb
      · exact ih (u / 10) (by omega) b hb
      · simp only [List.mem_singleton] at hb
        subst hb
        simp only [UInt8.toNat_ofNat']
        omega
theorem decDigits_ne (u : Nat) : Lib.decDigits u ≠ [] := by
  rw [Lib.decDigits]; split <;> simp
theorem number_dec (u : Nat) (hu : u ≤ 1000000) : number (Lib.decDigits u) = u := by
  induction u using Nat.strongRecOn with
  | ind u ih =>
    rw [Lib.decDigits]
    split
    · unfold number
      simp only [List.foldl_cons, List.foldl_nil, UInt8.toNat_ofNat']
      omega
    · have := ih (u / 10) (by omega) (by omega)
      unfold number at this ⊢
      rw [List.foldl_append, this]
      simp only [List.foldl_cons, List.foldl_nil, UInt8.toNat_ofNat']
      omega
theorem digs (D : List UInt8) (h : ∀ b ∈ D, 48 ≤ b.toNat ∧ b.toNat ≤ 57) : V D ∧ run 4 D = D.length := by
  induction D with
  | nil => exact ⟨rfl, rfl⟩
  | cons b t ih =>
    have hb := h b (by simp)
    obtain ⟨i1, i2⟩ := ih fun c hc => h c (by simp [hc])
    refine ⟨(V.low (by omega)).2 i1, ?_⟩
    have := dig_C ⟨b.toNat, by omega⟩ hb.1
    rw [run_cons 4 _ (by simp), dec_ascii b t (by omega), if_pos this.2.1, List.drop_succ_cons, List.drop_zero, i2]
    simp only [List.length_cons]; omega

/-! ### a word's own text is that word -/
def Self (x : Wd) : Prop := words (pr1 x) = .ok [(x, 0)]
theorem notBlank (r : Nat) (h : isC 2 r = true) : isC 1 r = false := by
  cases h1 : isC 1 r with
  | false => rfl
  | true =>
    rcases (isC1 r).1 h1 with rfl | rfl | rfl | rfl <;> revert h <;> decide
theorem quoteOf_not (s : List UInt8) (r : Nat) (hr : r = 34 ∨ r = 39) (h : ∀ b ∈ s, b.toNat ≠ r) : quoteOf s ∉ s ∧ ((quoteOf s).toNat = 34 ∨ (quoteOf s).toNat = 39) := by
  unfold quoteOf
  by_cases hm : (34 : UInt8) ∈ s
  · rw [if_pos hm]
    refine ⟨fun h2 => ?_, .inr rfl⟩
    rcases hr with rfl | rfl
    · exact h 34 hm rfl
    · exact h 39 h2 rfl
  · rw [if_neg hm]
    exact ⟨hm, .inl rfl⟩
theorem signs_self' : ∀ s ∈ signs, (match words s with | .ok l => decide (l = [(⟨3, s, 0⟩, 0)]) | .error _ => false) = true ∧ ∀ b ∈ s, b.toNat < 128 := by decide +kernel
theorem signs_self (s : List UInt8) (h : s ∈ signs) : words s = .ok [(⟨3, s, 0⟩, 0)] ∧ ∀ b ∈ s, b.toNat < 128 := by
  obtain ⟨h1, h2⟩ := signs_self' s h
  refine ⟨?_, h2⟩
  cases hw : words s with
  | error e => rw [hw] at h1; cases h1
  | ok l => rw [hw] at h1; rw [of_decide_eq_true h1]
theorem sign_mem (l : List UInt8) (h : sign l ≠ []) : sign l ∈ signs := by
  unfold sign at h ⊢
  cases hf : signs.find? fun x => Lib.hasPrefix l x with
  | none => rw [hf] at h; exact absurd rfl h
  | some x => exact List.mem_of_find?_eq_some hf
theorem v_tail (l : List UInt8) : ∀ s : List UInt8, (∀ b ∈ s, b.toNat < 128) → V (s ++ l) → V l := by
  intro s
  induction s with
  | nil => intro _ h; exact h
  | cons b t ih =>
    intro hb h
    rw [List.cons_append] at h
    exact ih (fun c hc => hb c (by simp [hc])) ((V.low (hb b (by simp))).1 h)
theorem word_self {L : List UInt8} (hv : V L) (hl : L ≠ []) (ok : (word L).2.2 = true) : Self (word L).1 ∧ V (L.drop (word L).2.1) := by
  have ho := hv.okc hl
  revert ok
  unfold word
  split
  · rename_i h2
    intro _
    obtain ⟨v1, v2, v3⟩ := run_split 3 _ L (Nat.le_refl _) hv
    refine ⟨?_, v2⟩
    have hr : run 3 L ≤ L.length := run_le 3 _ L (Nat.le_refl _)
    have hw : (dec L).2 ≤ run 3 L := by rw [run_cons 3 L hl, if_pos (isC23 _ h2)]; omega
    obtain ⟨t1, t2⟩ := okc_take ho (run 3 L) hw hr
    have hlen : (L.take (run 3 L)).length = run 3 L := by rw [List.length_take]; omega
    unfold Self pr1 prA
    simp only
    rw [if_neg (by decide), if_neg (by decide)]
    refine words_single _ _ (okc_ne t1) v1 ?_ ?_
    · rw [run_cons 1 _ (okc_ne t1), t2, notBlank _ h2]; rfl
    · unfold word
      rw [t2, if_pos h2, v3, hlen, List.take_take, Nat.min_self]
  · split
    · rename_i h4
      split
      · intro h; cases h
      · rename_i hn
        split
        · intro h; cases h
        · intro _
          refine ⟨?_, (run_split 4 _ L (Nat.le_refl _) hv).2.1⟩
          unfold Self pr1 prA
          simp only
          rw [if_pos (by decide)]
          generalize number (L.take (run 4 L)) = u at *
          have e : Lib.itoa (u : Int) = Lib.decDigits u := by unfold Lib.itoa; rw [if_neg (by omega)]; simp
          rw [e]
          obtain ⟨d1, d2⟩ := digs _ (decDigits_dig u)
          have hne := decDigits_ne u
          have hnum := number_dec u (by omega)
          have hdig := decDigits_dig u
          generalize Lib.decDigits u = D at *
          cases D with
          | nil => exact absurd rfl hne
          | cons b t =>
            have hb := hdig b (by simp)
            have hc := dig_C ⟨b.toNat, by omega⟩ hb.1
            have hd := dec_ascii b t (by omega)
            refine words_single _ _ hne d1 ?_ ?_
            · rw [run_cons 1 _ hne, hd, hc.2.2]; rfl
            · unfold word
              rw [hd, hc.1, if_neg (by simp), hc.2.1, if_pos rfl, d2, List.take_length, hnum, if_neg (by omega), if_neg (by simp)]
    · split
      · rename_i hq
        obtain ⟨b, t, rfl, hb, hb1⟩ := dec_low L hl (by omega)
        have hvt : V t := (V.low (by omega)).1 hv
        rw [List.drop_succ_cons, List.drop_zero]
        cases hr : runeAt (dec (b :: t)).1 t with
        | none => intro h; cases h
        | some e =>
          intro _
          have hr128 : (dec (b :: t)).1 < 128 := by omega
          obtain ⟨r1, r2, r3⟩ := runeAt_split _ hr128 _ t e (Nat.le_refl _) hvt hr
          obtain ⟨g1, g2⟩ := runeAt_some _ hr128 _ _ _ (Nat.le_refl _) hr
          simp only
          refine ⟨?_, ?_⟩
          · unfold Self pr1 prA
            simp only
            rw [if_neg (by decide), if_pos (by decide)]
            obtain ⟨n1, n2⟩ := quoteOf_not (t.take e) _ hq r3
            generalize quoteOf (t.take e) = z at *
            generalize t.take e = T at *
            have hz : z.toNat < 128 := by omega
            have hd := dec_ascii z (T ++ [z]) hz
            refine words_single _ _ (by simp) ((V.low hz).2 (r1.app ((V.low hz).2 V.nil))) ?_ ?_
            · rw [run_cons 1 _ (by simp), hd]
              rcases n2 with h | h <;> simp only [h] <;> rfl
            · unfold word
              rw [hd]
              have c2 : isC 2 z.toNat = false ∧ isC 4 z.toNat = false := by rcases n2 with h | h <;> rw [h] <;> decide
              simp only [c2.1, c2.2, Bool.false_eq_true, ↓reduceIte]
              rw [if_pos n2, List.drop_succ_cons, List.drop_zero, runeAt_put z hz [] _ T (Nat.le_refl _) r1 n1]
              simp
          · rw [show (b :: t).drop (e + 2) = (t.drop e).drop 1 by simp [List.drop_drop]]
            have hne : t.drop e ≠ [] := drop_ne' g1
            cases ht : t.drop e with
            | nil => exact absurd ht hne
            | cons c s =>
              rw [ht] at r2
              have : c = t.getD e 0 := by
                have := congrArg (·.getD 0 0) ht
                simp [List.getD_eq_getElem?_getD, List.getElem?_drop] at this
                rw [List.getD_eq_getElem?_getD, this]
                
              rw [List.drop_succ_cons, List.drop_zero]
              exact (V.low (by rw [this]; omega)).1 r2
      · intro ok
        simp only [ne_eq, decide_eq_true_eq] at ok
        have hm := sign_mem L ok
        obtain ⟨s1, s2⟩ := signs_self _ hm
        refine ⟨?_, ?_⟩
        · unfold Self pr1 prA
          simp only
          rw [if_neg (by decide), if_neg (by decide)]
          exact s1
        · simp only
          refine v_tail _ (sign L) s2 ?_
          have h1 := sign_take L
          have : sign L ++ L.drop (sign L).length = L := by
            conv => lhs; lhs; rw [h1]
            exact List.take_append_drop _ _
          rw [this]; exact hv
theorem wordsF_self : ∀ k (q : List UInt8) p l, wordsF k q p = .ok l → V (q.drop p) → ∀ y ∈ l, Self y.1
  | 0, _, _, l, h, _, y, hy => by cases h; cases hy
  | k + 1, q, p, l, h, hv, y, hy => by
    rw [wordsF_succ] at h
    split at h
    · rename_i hp
      split at h
      · rename_i ok
        have hne := drop_ne' hp
        obtain ⟨s1, s2⟩ := word_self hv hne ok
        rw [List.drop_drop] at s2
        cases hr : wordsF k q (p + (word (q.drop p)).2.1 + run 1 (q.drop (p + (word (q.drop p)).2.1))) with
        | error e => rw [hr] at h; cases h
        | ok l' =>
          rw [hr] at h
          cases h
          rcases List.mem_cons.1 hy with rfl | hy
          · exact s1
          · refine wordsF_self k q _ l' hr ?_ y hy
            rw [← List.drop_drop]
            exact (run_split 1 _ _ (Nat.le_refl _) s2).2.1
      · cases h
    · cases h; cases hy
theorem words_self {q : List UInt8} {l : List (Wd × Nat)} (h : words q = .ok l) : ∀ y ∈ l, Self y.1 := by
  unfold words at h
  split at h
  · cases h
  · rename_i hm
    simp only [ne_eq, Decidable.not_not] at hm
    cases hw : wordsF (q.length + 1) q (run 1 q) with
    | error e => rw [hw] at h; cases h
    | ok l' =>
      rw [hw] at h
      cases h
      exact wordsF_self _ q _ _ hw (run_split 1 _ q (Nat.le_refl _) hm).2.1
/-- The words of printed words. -/
theorem words_print : ∀ l : List Wd, (∀ x ∈ l, Self x) → ∃ l', words (Lib.join (l.map pr1) [32]) = .ok l' ∧ l'.map (·.1) = l
  | [], _ => ⟨[], rfl, rfl⟩
  | [x], h => ⟨[(x, 0)], by rw [List.map_singleton, Lib.join_one]; exact h x (by simp), rfl⟩
  | x :: y :: t, h => by
    obtain ⟨l', h1, h2⟩ := words_print (y :: t) fun z hz => h z (List.mem_cons_of_mem _ hz)
    have hj := words_join (pr1 x) [32] (Lib.join ((y :: t).map pr1) [32]) (by simp [blankB]) (by simp) _ _ (h x (by simp)) h1
    have e : Lib.join ((x :: y :: t).map pr1) [32] = pr1 x ++ ([32] ++ Lib.join ((y :: t).map pr1) [32]) := by simp [Lib.join, List.intercalate]
    rw [e]
    exact ⟨_, hj, by simp [← h2]⟩
end Go.Proofs.YtjmejlncomaclaaDoor.Lx
