/- Plain law: the words of two texts with blanks between are those of the one and those of the other, places moved on. No conditions. -/
import Derived.Test.YtjmejlncomaclaaDoorLxCover
namespace Go.Proofs.YtjmejlncomaclaaDoor.Lx

/-- It begins with no byte at all, or with one of ASCII. -/
def Low (x : List UInt8) : Prop := x = [] ∨ (x.getD 0 0).toNat < 128
theorem getD_append (l x : List UInt8) (i : Nat) : (l ++ x).getD i 0 = if i < l.length then l.getD i 0 else x.getD (i - l.length) 0 := by
  split
  · simp [List.getD_eq_getElem?_getD, List.getElem?_append_left, *]
  · simp [List.getD_eq_getElem?_getD, List.getElem?_append_right (show l.length ≤ i by omega)]
theorem decodeN_cut (n m b0 b1 b2 b3 c1 c2 c3 : Nat) (hn : 1 ≤ n) (hm : n ≤ m)
    (h1 : 1 < n → c1 = b1) (h2 : 2 < n → c2 = b2) (h3 : 3 < n → c3 = b3)
    (k1 : n = 1 → m = 1 ∨ c1 < 128) (k2 : n = 2 → m = 2 ∨ c2 < 128) (k3 : n = 3 → m = 3 ∨ c3 < 128) :
    Lib.decodeN m b0 c1 c2 c3 = Lib.decodeN n b0 b1 b2 b3 := by
  have e1 : (1 < m ∧ c1 / 64 = 2) ↔ (1 < n ∧ b1 / 64 = 2) := by
    constructor
    · intro ⟨a, b⟩
      by_cases hh : 1 < n
      · exact ⟨hh, by rw [← h1 hh]; exact b⟩
      · rcases k1 (by omega) with h | h <;> omega
    · intro ⟨a, b⟩
      exact ⟨by omega, by rw [h1 a]; exact b⟩
  have e2 : 1 < n → ((2 < m ∧ c2 / 64 = 2) ↔ (2 < n ∧ b2 / 64 = 2)) := by
    intro hn1
    constructor
    · intro ⟨a, b⟩
      by_cases hh : 2 < n
      · exact ⟨hh, by rw [← h2 hh]; exact b⟩
      · rcases k2 (by omega) with h | h <;> omega
    · intro ⟨a, b⟩
      exact ⟨by omega, by rw [h2 a]; exact b⟩
  have e3 : 2 < n → ((3 < m ∧ c3 / 64 = 2) ↔ (3 < n ∧ b3 / 64 = 2)) := by
    intro hn1
    constructor
    · intro ⟨a, b⟩
      by_cases hh : 3 < n
      · exact ⟨hh, by rw [← h3 hh]; exact b⟩
      · rcases k3 (by omega) with h | h <;> omega
    · intro ⟨a, b⟩
      exact ⟨by omega, by rw [h3 a]; exact b⟩
  unfold Lib.decodeN
  by_cases q1 : 1 < n ∧ b1 / 64 = 2
  · have q1' := e1.2 q1
    have d1 := h1 q1.1
    by_cases q2 : 2 < n ∧ b2 / 64 = 2
    · have q2' := (e2 q1.1).2 q2
      have d2 := h2 q2.1
      by_cases q3 : 3 < n ∧ b3 / 64 = 2
      · have q3' := (e3 q2.1).2 q3
        have d3 := h3 q3.1
        simp only [q1, q1', q2, q2', q3, q3', d1, d2, d3]
      · have q3' : ¬ (3 < m ∧ c3 / 64 = 2) := fun h => q3 ((e3 q2.1).1 h)
        simp only [q1, q1', q2, q2', q3, q3', d1, d2, and_false, ↓reduceIte]
    · have q2' : ¬ (2 < m ∧ c2 / 64 = 2) := fun h => q2 ((e2 q1.1).1 h)
      simp only [q1, q1', q2, q2', d1, false_and, and_false, ↓reduceIte]
  · have q1' : ¬ (1 < m ∧ c1 / 64 = 2) := fun h => q1 (e1.1 h)
    simp only [q1, q1', false_and, and_false, ↓reduceIte]
theorem dec_append (l x : List UInt8) (hl : l ≠ []) (hx : Low x) : dec (l ++ x) = dec l := by
  have hpos : 1 ≤ l.length := by cases l with | nil => exact absurd rfl hl | cons a t => simp
  have low : ∀ i, i = l.length → (l ++ x).length = i ∨ ((l ++ x).getD i 0).toNat < 128 := by
    intro i hi
    rcases hx with rfl | hx
    · left; simp [hi]
    · right; rw [getD_append, if_neg (by omega), hi, Nat.sub_self]; exact hx
  unfold dec
  have e0 : (l ++ x).getD 0 0 = l.getD 0 0 := by rw [getD_append, if_pos (by omega)]
  rw [e0]
  exact decodeN_cut _ _ _ _ _ _ _ _ _ hpos (by simp)
    (fun h => by rw [getD_append, if_pos h]) (fun h => by rw [getD_append, if_pos h]) (fun h => by rw [getD_append, if_pos h])
    (fun h => by rcases low 1 h.symm with h | h <;> simp_all) (fun h => by rcases low 2 h.symm with h | h <;> simp_all) (fun h => by rcases low 3 h.symm with h | h <;> simp_all)

theorem charsAt_append (x : List UInt8) (hx : Low x) : ∀ k (l : List UInt8) i, l.length ≤ k → charsAt i (l ++ x) = charsAt i l ++ charsAt (i + l.length) x := by
  intro k
  induction k with
  | zero => intro l i h; cases l with
    | nil => simp [charsAt_nil]
    | cons a t => simp at h
  | succ k ih =>
    intro l i h
    by_cases hl : l = []
    · subst hl; simp [charsAt_nil]
    · have h1 := dec_pos l
      have h2 := dec_le l hl
      rw [charsAt_cons _ (l ++ x) (by simp [hl]), dec_append l x hl hx, charsAt_cons i l hl, List.drop_append_of_le_length h2, ih _ _ (by rw [List.length_drop]; omega), List.cons_append, List.length_drop]
      rw [show i + (dec l).2 + (l.length - (dec l).2) = i + l.length by omega]
theorem chars_shift : ∀ k (x : List UInt8) i j, x.length ≤ k → (charsAt i x).map (·.2) = (charsAt j x).map (·.2) := by
  intro k
  induction k with
  | zero => intro x i j h; cases x with
    | nil => rfl
    | cons a t => simp at h
  | succ k ih =>
    intro x i j h
    by_cases hx : x = []
    · subst hx; rfl
    · have h1 := dec_pos x
      rw [charsAt_cons i x hx, charsAt_cons j x hx, List.map_cons, List.map_cons, ih _ _ (j + (dec x).2) (by rw [List.length_drop]; omega)]
theorem mend_at (i : Nat) (x : List UInt8) : mend x = ((charsAt i x).map (·.2)).flatMap fun (r : Nat) => (Utf8.encode r).data.toList := by
  unfold mend
  rw [chars_eq, chars_shift _ x i 0 (Nat.le_refl _), List.flatMap_map]
theorem mend_append (l x : List UInt8) (hx : Low x) : mend (l ++ x) = mend l ++ mend x := by
  rw [mend_at 0 (l ++ x), charsAt_append x hx _ l 0 (Nat.le_refl _), List.map_append, List.flatMap_append, ← mend_at, ← mend_at]
theorem mend_cons (l : List UInt8) (hl : l ≠ []) : mend l = (Utf8.encode (dec l).1).data.toList ++ mend (l.drop (dec l).2) := by
  rw [mend_at 0 l, charsAt_cons 0 l hl, List.map_cons, List.flatMap_cons, ← mend_at]
theorem encode_size (r : Nat) : (Utf8.encode r).data.toList.length = if r < 128 then 1 else if r < 2048 then 2 else if r < 65536 then 3 else if r ≤ 1114111 then 4 else 3 := by
  unfold Utf8.encode
  by_cases hv : Utf8.valid (r : Int) = true
  · simp only [hv, ↓reduceIte, Int.toNat_natCast]
    simp only [Utf8.valid, Bool.or_eq_true, Bool.and_eq_true, decide_eq_true_eq] at hv
    repeat' split
    all_goals first | rfl | omega
  · have hv2 : Utf8.valid (r : Int) = false := by simpa using hv
    simp only [hv2, Bool.false_eq_true, ↓reduceIte]
    simp only [Utf8.valid, Bool.or_eq_true, Bool.and_eq_true, decide_eq_true_eq, not_or, not_and] at hv
    rw [if_neg (by decide), if_neg (by decide), if_pos (by decide)]
    repeat' split
    all_goals first | rfl | omega
theorem decodeN_kind (n b0 b1 b2 b3 : Nat) (x : Nat × Nat) (h : Lib.decodeN n b0 b1 b2 b3 = x) : x.2 = 1 ∨ (x.2 = 2 ∧ 128 ≤ x.1) ∨ (x.2 = 3 ∧ 2048 ≤ x.1) ∨ (x.2 = 4 ∧ 65536 ≤ x.1) := by
  unfold Lib.decodeN at h
  repeat' split at h
  all_goals subst h
  all_goals first | exact .inl rfl | exact .inr (.inl ⟨rfl, by assumption⟩) | exact .inr (.inr (.inl ⟨rfl, And.left (by assumption)⟩)) | exact .inr (.inr (.inr ⟨rfl, And.left (by assumption)⟩))
theorem dec_size (l : List UInt8) : (dec l).2 ≤ (Utf8.encode (dec l).1).data.toList.length := by
  have hb := dec_bd l
  have hk := decodeN_kind _ _ _ _ _ (dec l) rfl
  rw [encode_size]
  repeat' split
  all_goals omega
theorem mend_len : ∀ k (l : List UInt8), l.length ≤ k → l.length ≤ (mend l).length := by
  intro k
  induction k with
  | zero => intro l h; omega
  | succ k ih =>
    intro l h
    by_cases hl : l = []
    · subst hl; exact Nat.zero_le _
    · have h1 := dec_pos l
      have h2 := dec_le l hl
      have h3 := ih (l.drop (dec l).2) (by rw [List.length_drop]; omega)
      have h4 := dec_size l
      rw [List.length_drop] at h3
      rw [mend_cons l hl, List.length_append]
      omega
/-- All of it is characters if and only if both are. -/
theorem mend_iff (l x : List UInt8) (hx : Low x) : mend (l ++ x) = l ++ x ↔ mend l = l ∧ mend x = x := by
  rw [mend_append l x hx]
  refine ⟨fun h => ?_, fun ⟨h1, h2⟩ => by rw [h1, h2]⟩
  have h1 := mend_len _ l (Nat.le_refl _)
  have h2 := mend_len _ x (Nat.le_refl _)
  have h3 := congrArg List.length h
  simp only [List.length_append] at h3
  exact List.append_inj h (by omega)
theorem mend_low (b : UInt8) (x : List UInt8) (hb : b.toNat < 128) : mend (b :: x) = b :: mend x := by
  rw [mend_cons _ (by simp), dec_ascii b x hb]
  simp only [List.drop_succ_cons, List.drop_zero]
  have : (Utf8.encode (b.toNat : Nat)).data.toList = [b] := by
    have hv : Utf8.valid (b.toNat : Int) = true := by
      simp only [Utf8.valid, Bool.or_eq_true, Bool.and_eq_true, decide_eq_true_eq]
      omega
    unfold Utf8.encode
    simp only [hv, ↓reduceIte, Int.toNat_natCast]
    rw [if_pos hb]
    simp
  rw [this]; rfl

theorem run_app (c : Nat) (x : List UInt8) (hx : Low x) : ∀ k (l : List UInt8), l.length ≤ k → run c (l ++ x) = if run c l = l.length then l.length + run c x else run c l := by
  intro k
  induction k with
  | zero => intro l h; cases l with
    | nil => simp [run_nil]
    | cons a t => simp at h
  | succ k ih =>
    intro l h
    by_cases hl : l = []
    · subst hl; simp [run_nil]
    · have h1 := dec_pos l
      have h2 := dec_le l hl
      rw [run_cons c (l ++ x) (by simp [hl]), run_cons c l hl, dec_append l x hl hx]
      split
      · rw [List.drop_append_of_le_length h2, ih _ (by rw [List.length_drop]; omega), List.length_drop]
        have := run_le c _ (l.drop (dec l).2) (Nat.le_refl _)
        rw [List.length_drop] at this
        split <;> split <;> omega
      · rw [if_neg (by omega)]
/-- It begins with a blank. -/
def Gap (x : List UInt8) : Prop := ∃ b t, x = b :: t ∧ blankB b
theorem Gap.low {x : List UInt8} (h : Gap x) : Low x := by
  obtain ⟨b, t, rfl, hb⟩ := h
  right
  unfold blankB at hb
  simp only [List.getD_cons_zero]
  omega
theorem Gap.dec {x : List UInt8} (h : Gap x) : (dec x).1 = 32 ∨ (Lx.dec x).1 = 9 ∨ (Lx.dec x).1 = 10 ∨ (Lx.dec x).1 = 13 := by
  obtain ⟨b, t, rfl, hb⟩ := h
  unfold blankB at hb
  rw [dec_ascii b t (by omega)]
  exact hb
theorem Gap.ne {x : List UInt8} (h : Gap x) : x ≠ [] := by
  obtain ⟨b, t, rfl, _⟩ := h
  simp
theorem Gap.notC {x : List UInt8} (h : Gap x) (c : Nat) (hc : c = 2 ∨ c = 3 ∨ c = 4) : isC c (Lx.dec x).1 = false := by
  rcases h.dec with e | e | e | e <;> rw [e] <;> rcases hc with rfl | rfl | rfl <;> decide
theorem Gap.run {x : List UInt8} (h : Gap x) (c : Nat) (hc : c = 2 ∨ c = 3 ∨ c = 4) : run c x = 0 := by
  rw [run_cons c x h.ne, if_neg (by rw [h.notC c hc]; simp)]
theorem run_gap (c : Nat) (hc : c = 2 ∨ c = 3 ∨ c = 4) (l x : List UInt8) (h : Gap x) : Lx.run c (l ++ x) = Lx.run c l := by
  rw [run_app c x h.low _ l (Nat.le_refl _), h.run c hc]
  split <;> omega
theorem runeAt_app (r : Nat) (x : List UInt8) (hx : Low x) : ∀ k (l : List UInt8) e, l.length ≤ k → runeAt r l = some e → runeAt r (l ++ x) = some e := by
  intro k
  induction k with
  | zero => intro l e h he; cases l with
    | nil => simp [runeAt, atF] at he
    | cons a t => simp at h
  | succ k ih =>
    intro l e h he
    by_cases hl : l = []
    · subst hl; simp [runeAt, atF] at he
    · have h1 := dec_pos l
      have h2 := dec_le l hl
      rw [runeAt_cons r l hl] at he
      rw [runeAt_cons r (l ++ x) (by simp [hl]), dec_append l x hl hx]
      split at he
      · rename_i hr; rw [if_pos hr]; exact he
      · rename_i hr
        rw [if_neg hr]
        obtain ⟨e', he', rfl⟩ := Option.map_eq_some_iff.1 he
        rw [List.drop_append_of_le_length h2, ih _ e' (by rw [List.length_drop]; omega) he']
        rfl
theorem find_congr {α : Type} (p q : α → Bool) : ∀ l : List α, (∀ a ∈ l, p a = q a) → l.find? p = l.find? q
  | [], _ => rfl
  | a :: t, h => by
    rw [List.find?_cons, List.find?_cons, h a (by simp), find_congr p q t (fun b hb => h b (by simp [hb]))]
theorem prefix_gap (s l x : List UInt8) (hs : ∀ b ∈ s, ¬ blankB b) (hx : Gap x) : Lib.hasPrefix (l ++ x) s = Lib.hasPrefix l s := by
  rw [Bool.eq_iff_iff]
  simp only [Lib.hasPrefix, List.isPrefixOf_iff_prefix]
  constructor
  · intro h
    rcases Nat.lt_or_ge l.length s.length with hl | hl
    · exfalso
      obtain ⟨b, t, rfl, hb⟩ := hx
      have h1 : s[l.length]? = (l ++ b :: t)[l.length]? := by
        have := List.prefix_iff_eq_take.1 h
        have h2 : s[l.length]? = ((l ++ b :: t).take s.length)[l.length]? := congrArg (·[l.length]?) this
        rw [List.getElem?_take_of_lt hl] at h2
        exact h2
      rw [List.getElem?_append_right (Nat.le_refl _), Nat.sub_self] at h1
      exact hs b (List.mem_of_getElem? h1) hb
    · exact List.prefix_of_prefix_length_le h (List.prefix_append l x) hl
  · intro h
    exact h.trans (List.prefix_append l x)
theorem sign_gap (l x : List UInt8) (hx : Gap x) : sign (l ++ x) = sign l := by
  unfold sign
  rw [find_congr _ _ signs fun s hs => prefix_gap s l x ?_ hx]
  revert s
  unfold blankB
  decide
/-- A word is what it is, whatever comes behind a blank; but where a quote has no end. -/
theorem word_gap (l x : List UInt8) (hl : l ≠ []) (hx : Gap x) : word (l ++ x) = word l ∨ (((dec l).1 = 34 ∨ (dec l).1 = 39) ∧ (word l).2.2 = false) := by
  have hd := dec_append l x hl hx.low
  have hpos : 1 ≤ l.length := by cases l with | nil => exact absurd rfl hl | cons a t => simp
  have t3 := run_le 3 _ l (Nat.le_refl _)
  have t4 := run_le 4 _ l (Nat.le_refl _)
  unfold word
  rw [hd, run_gap 3 (by simp) l x hx, run_gap 4 (by simp) l x hx, List.take_append_of_le_length t3, List.take_append_of_le_length t4, sign_gap l x hx, List.drop_append_of_le_length t4, List.drop_append_of_le_length hpos]
  by_cases c2 : isC 2 (dec l).1 = true
  · left; rw [if_pos c2, if_pos c2]
  · rw [if_neg c2, if_neg c2]
    by_cases c4 : isC 4 (dec l).1 = true
    · left
      rw [if_pos c4, if_pos c4]
      split
      · rfl
      · by_cases hn : l.drop (run 4 l) = []
        · rw [hn, List.nil_append, hx.notC 2 (by simp)]
          simp
        · rw [dec_append _ x hn hx.low]
          simp [hn]
    · rw [if_neg c4, if_neg c4]
      by_cases hq : (dec l).1 = 34 ∨ (dec l).1 = 39
      · rw [if_pos hq, if_pos hq]
        cases hr : runeAt (dec l).1 (l.drop 1) with
        | none => right; exact ⟨hq, rfl⟩
        | some e =>
          left
          have hr2 : (dec l).1 < 128 := by omega
          have h3 := runeAt_some _ hr2 _ _ _ (Nat.le_refl _) hr
          rw [runeAt_app _ x hx.low _ _ _ (Nat.le_refl _) hr]
          simp only
          rw [List.take_append_of_le_length (by omega)]
      · left; rw [if_neg hq, if_neg hq]

/-! ### all words -/
def skip (q : List UInt8) (s : Nat) : Nat := s + run 1 (q.drop s)
theorem skip_le (q : List UInt8) (s : Nat) (h : s ≤ q.length) : s ≤ skip q s ∧ skip q s ≤ q.length := by
  have := run_le 1 _ (q.drop s) (Nat.le_refl _)
  rw [List.length_drop] at this
  unfold skip; omega
theorem skip_app (p x : List UInt8) (hx : Gap x) (s : Nat) (h : s ≤ p.length) : skip (p ++ x) s = if skip p s = p.length then p.length + run 1 x else skip p s := by
  unfold skip
  rw [List.drop_append_of_le_length h, run_app 1 x hx.low _ _ (Nat.le_refl _), List.length_drop]
  split <;> split <;> omega
theorem wordsF_step (k : Nat) (q : List UInt8) (s : Nat) (hk : q.length - s < k) (h : s < q.length) :
    wordsF k q s = if (word (q.drop s)).2.2 then (wordsF k q (skip q (s + (word (q.drop s)).2.1))).map ((((word (q.drop s)).1, s)) :: ·) else .error (s + (word (q.drop s)).2.1) := by
  obtain ⟨k, rfl⟩ : ∃ j, k = j + 1 := ⟨k - 1, by omega⟩
  rw [wordsF_succ, if_pos h]
  by_cases ok : (word (q.drop s)).2.2 = true
  · rw [if_pos ok, if_pos ok]
    have hne : q.drop s ≠ [] := by intro h1; have := congrArg List.length h1; simp at this; omega
    have hle := word_le _ hne ok
    rw [List.length_drop] at hle
    have := skip_le q (s + (word (q.drop s)).2.1) (by omega)
    obtain ⟨k, rfl⟩ : ∃ j, k = j + 1 := ⟨k - 1, by omega⟩
    rw [show s + (word (q.drop s)).2.1 + run 1 (q.drop (s + (word (q.drop s)).2.1)) = skip q (s + (word (q.drop s)).2.1) from rfl]
    rw [wordsF_fuel k (k + 1) q _ (by omega) (by omega)]
  · rw [if_neg ok, if_neg ok]
theorem wordsF_end (k : Nat) (q : List UInt8) (s : Nat) (h : q.length ≤ s) : wordsF k q s = .ok [] := by
  cases k with
  | zero => rfl
  | succ k => rw [wordsF_succ, if_neg (by omega)]
theorem join_ok (p x : List UInt8) (hx : Gap x) (K : Nat) (hK : (p ++ x).length < K) : ∀ n s lp, p.length - s ≤ n → s ≤ p.length → wordsF K p (skip p s) = .ok lp →
    wordsF K (p ++ x) (skip (p ++ x) s) = (wordsF K (p ++ x) (p.length + run 1 x)).map (lp ++ ·) := by
  intro n
  induction n with
  | zero =>
    intro s lp hn hs h
    have := skip_le p s hs
    rw [wordsF_end K p _ (by omega)] at h
    cases h
    rw [skip_app p x hx s hs, if_pos (by omega)]
    cases wordsF K (p ++ x) (p.length + run 1 x) <;> rfl
  | succ n ih =>
    intro s lp hn hs h
    have hsk := skip_le p s hs
    rw [List.length_append] at hK
    by_cases he : skip p s = p.length
    · rw [wordsF_end K p _ (by omega)] at h
      cases h
      rw [skip_app p x hx s hs, if_pos he]
      cases wordsF K (p ++ x) (p.length + run 1 x) <;> rfl
    · rw [skip_app p x hx s hs, if_neg he]
      rw [wordsF_step K p _ (by omega) (by omega)] at h
      generalize skip p s = t at h he hsk
      have hne : p.drop t ≠ [] := by intro h1; have := congrArg List.length h1; simp at this; omega
      split at h
      · rename_i ok
        have hle := word_le _ hne ok
        rw [List.length_drop] at hle
        have hw : word ((p ++ x).drop t) = word (p.drop t) := by
          rw [List.drop_append_of_le_length (by omega)]
          rcases word_gap _ x hne hx with e | ⟨_, e⟩
          · exact e
          · rw [ok] at e; cases e
        rw [wordsF_step K (p ++ x) t (by rw [List.length_append]; omega) (by rw [List.length_append]; omega), hw, if_pos ok]
        cases hr : wordsF K p (skip p (t + (word (p.drop t)).2.1)) with
        | error e => rw [hr] at h; cases h
        | ok l' =>
          rw [hr] at h
          cases h
          rw [ih (t + (word (p.drop t)).2.1) l' (by omega) (by omega) hr]
          cases wordsF K (p ++ x) (p.length + run 1 x) <;> rfl
      · cases h
/-- No quote stands in it. -/
def Bare (p : List UInt8) : Prop := ∀ b ∈ p, b.toNat ≠ 34 ∧ b.toNat ≠ 39
theorem join_err (p x : List UInt8) (hx : Gap x) (hb : Bare p) (K : Nat) (hK : (p ++ x).length < K) : ∀ n s i, p.length - s ≤ n → s ≤ p.length → wordsF K p (skip p s) = .error i →
    ∃ j, wordsF K (p ++ x) (skip (p ++ x) s) = .error j := by
  intro n
  induction n with
  | zero =>
    intro s i hn hs h
    have := skip_le p s hs
    rw [wordsF_end K p _ (by omega)] at h
    cases h
  | succ n ih =>
    intro s i hn hs h
    have hsk := skip_le p s hs
    rw [List.length_append] at hK
    by_cases he : skip p s = p.length
    · rw [wordsF_end K p _ (by omega)] at h
      cases h
    · rw [skip_app p x hx s hs, if_neg he]
      rw [wordsF_step K p _ (by omega) (by omega)] at h
      generalize skip p s = t at h he hsk
      have hne : p.drop t ≠ [] := by intro h1; have := congrArg List.length h1; simp at this; omega
      have hw : word ((p ++ x).drop t) = word (p.drop t) := by
        rw [List.drop_append_of_le_length (by omega)]
        rcases word_gap _ x hne hx with e | ⟨e, _⟩
        · exact e
        · exfalso
          obtain ⟨b, r, h1, h2, _⟩ := dec_low (p.drop t) hne (by omega)
          have := hb b (List.mem_of_mem_drop (by rw [h1]; simp))
          omega
      rw [wordsF_step K (p ++ x) t (by rw [List.length_append]; omega) (by rw [List.length_append]; omega), hw]
      split at h
      · rename_i ok
        have hle := word_le _ hne ok
        rw [List.length_drop] at hle
        rw [if_pos ok]
        cases hr : wordsF K p (skip p (t + (word (p.drop t)).2.1)) with
        | ok l' => rw [hr] at h; cases h
        | error e =>
          obtain ⟨j, hj⟩ := ih (t + (word (p.drop t)).2.1) e (by omega) (by omega) hr
          exact ⟨j, by rw [hj]; rfl⟩
      · rename_i ok
        exact ⟨_, by rw [if_neg ok]⟩
theorem wordsF_shift (pre q : List UInt8) : ∀ k s l, wordsF k q s = .ok l → wordsF k (pre ++ q) (pre.length + s) = .ok (l.map fun y => (y.1, pre.length + y.2)) := by
  intro k
  induction k with
  | zero => intro s l h; cases h; rfl
  | succ k ih =>
    intro s l h
    have hd : ∀ t, (pre ++ q).drop (pre.length + t) = q.drop t := fun t => by rw [List.drop_append, List.drop_eq_nil_of_le (by omega)]; simp
    rw [wordsF_succ] at h ⊢
    rw [List.length_append, hd]
    by_cases hlt : s < q.length
    · rw [if_pos hlt] at h
      rw [if_pos (by omega)]
      split at h
      · rename_i ok
        rw [if_pos ok, show pre.length + s + (word (q.drop s)).2.1 = pre.length + (s + (word (q.drop s)).2.1) by omega, hd]
        cases hr : wordsF k q (s + (word (q.drop s)).2.1 + run 1 (q.drop (s + (word (q.drop s)).2.1))) with
        | error e => rw [hr] at h; cases h
        | ok l' =>
          rw [hr] at h
          cases h
          rw [show pre.length + (s + (word (q.drop s)).2.1) + run 1 (q.drop (s + (word (q.drop s)).2.1)) = pre.length + (s + (word (q.drop s)).2.1 + run 1 (q.drop (s + (word (q.drop s)).2.1))) by omega, ih _ _ hr]
          rfl
      · cases h
    · rw [if_neg hlt] at h
      cases h
      rw [if_neg (by omega)]
      rfl
theorem run_blanks (q : List UInt8) : ∀ G : List UInt8, (∀ b ∈ G, blankB b) → run 1 (G ++ q) = G.length + run 1 q
  | [], _ => by simp
  | b :: t, h => by
    have hb := h b (by simp)
    have hb' := hb
    unfold blankB at hb
    rw [List.cons_append, run_cons 1 _ (by simp), dec_ascii b _ (by omega), if_pos ((isC1 _).2 (by omega)), List.drop_succ_cons, List.drop_zero, run_blanks q t (fun c hc => h c (by simp [hc]))]
    simp only [List.length_cons]; omega
theorem mend_blanks (q : List UInt8) : ∀ G : List UInt8, (∀ b ∈ G, blankB b) → mend (G ++ q) = G ++ mend q
  | [], _ => rfl
  | b :: t, h => by
    have hb := h b (by simp)
    unfold blankB at hb
    rw [List.cons_append, mend_low b _ (by omega), mend_blanks q t (fun c hc => h c (by simp [hc]))]
    rfl
/-- The words of two texts with blanks between. -/
theorem words_join (p G q : List UInt8) (hG : ∀ b ∈ G, blankB b) (hn : G ≠ []) (lp lq : List (Wd × Nat)) (h1 : words p = .ok lp) (h2 : words q = .ok lq) :
    words (p ++ (G ++ q)) = .ok (lp ++ lq.map fun y => (y.1, p.length + G.length + y.2)) := by
  have hx : Gap (G ++ q) := by
    cases G with
    | nil => exact absurd rfl hn
    | cons b t => exact ⟨b, t ++ q, rfl, hG b (by simp)⟩
  unfold words at h1 h2
  split at h1
  · cases h1
  · rename_i m1
    split at h2
    · cases h2
    · rename_i m2
      simp only [ne_eq, Decidable.not_not] at m1 m2
      have hm : mend (p ++ (G ++ q)) = p ++ (G ++ q) := (mend_iff _ _ hx.low).2 ⟨m1, by rw [mend_blanks q G hG, m2]⟩
      unfold words
      rw [if_neg (by simp [hm])]
      have e1 : wordsF (p.length + 1) p (run 1 p) = .ok lp := by
        split at h1
        · rename_i l hl; cases h1; exact hl
        · cases h1
      have e2 : wordsF (q.length + 1) q (run 1 q) = .ok lq := by
        split at h2
        · rename_i l hl; cases h2; exact hl
        · cases h2
      have s0 : ∀ z : List UInt8, skip z 0 = run 1 z := fun z => by simp [skip]
      have hlen : (p ++ (G ++ q)).length = p.length + G.length + q.length := by simp; omega
      have r1 := run_le 1 _ p (Nat.le_refl _)
      have r2 := run_le 1 _ q (Nat.le_refl _)
      have j1 := join_ok p (G ++ q) hx ((p ++ (G ++ q)).length + 1) (by omega) _ 0 lp (Nat.le_refl _) (Nat.zero_le _) (by
        rw [s0, hlen, ← e1]; exact wordsF_fuel _ _ _ _ (by omega) (by omega))
      rw [s0] at j1
      have j2 := wordsF_shift (p ++ G) q (p.length + G.length + q.length + 1) (run 1 q) lq (by rw [← e2]; exact wordsF_fuel _ _ _ _ (by omega) (by omega))
      rw [List.append_assoc, List.length_append, ← hlen, Nat.add_assoc, ← run_blanks q G hG] at j2
      rw [j1, j2]
      rfl
theorem words_join_err (p G q : List UInt8) (hG : ∀ b ∈ G, blankB b) (hn : G ≠ []) (e : Nat × Nat) (h1 : words p = .error e) (hb : e.2 = 104 → Bare p) :
    ∃ e', words (p ++ (G ++ q)) = .error e' := by
  have hx : Gap (G ++ q) := by
    cases G with
    | nil => exact absurd rfl hn
    | cons b t => exact ⟨b, t ++ q, rfl, hG b (by simp)⟩
  unfold words at h1
  by_cases hm : mend (p ++ (G ++ q)) = p ++ (G ++ q)
  · have m1 := ((mend_iff _ _ hx.low).1 hm).1
    rw [if_neg (by simp [m1])] at h1
    unfold words
    rw [if_neg (by simp [hm])]
    have s0 : ∀ z : List UInt8, skip z 0 = run 1 z := fun z => by simp [skip]
    have hlen : (p ++ (G ++ q)).length = p.length + G.length + q.length := by simp; omega
    have r1 := run_le 1 _ p (Nat.le_refl _)
    split at h1
    · cases h1
    · rename_i i hi
      cases h1
      obtain ⟨j, hj⟩ := join_err p (G ++ q) hx (hb rfl) ((p ++ (G ++ q)).length + 1) (by omega) _ 0 i (Nat.le_refl _) (Nat.zero_le _) (by
        rw [s0, hlen, ← hi]; exact wordsF_fuel _ _ _ _ (by omega) (by omega))
      rw [s0] at hj
      rw [hj]
      exact ⟨_, rfl⟩
  · unfold words
    rw [if_pos hm]
    exact ⟨_, rfl⟩

theorem charsAt_lt : ∀ k (l : List UInt8) i, l.length ≤ k → ∀ y ∈ charsAt i l, y.1 < i + l.length := by
  intro k
  induction k with
  | zero => intro l i h y hy; cases l with
    | nil => rw [charsAt_nil] at hy; cases hy
    | cons a t => simp at h
  | succ k ih =>
    intro l i h y hy
    by_cases hl : l = []
    · subst hl; rw [charsAt_nil] at hy; cases hy
    · have h1 := dec_pos l
      have h2 := dec_le l hl
      have hpos : 1 ≤ l.length := by cases l with | nil => exact absurd rfl hl | cons a t => simp
      rw [charsAt_cons i l hl] at hy
      rcases List.mem_cons.1 hy with rfl | hy
      · simp only; omega
      · have := ih _ _ (by rw [List.length_drop]; omega) y hy
        rw [List.length_drop] at this
        omega
theorem foldl_congr {α β : Type} (f g : α → β → α) : ∀ (l : List β) (a : α), (∀ a b, b ∈ l → f a b = g a b) → l.foldl f a = l.foldl g a
  | [], _, _ => rfl
  | b :: t, a, h => by
    rw [List.foldl_cons, List.foldl_cons, h a b (by simp)]
    exact foldl_congr f g t _ fun a c hc => h a c (by simp [hc])
/-- A place does not hang on what comes behind. -/
theorem place_left (p x : List UInt8) (s : Nat) (hs : s < p.length) : place (p ++ x) s = place p s := by
  unfold place
  rw [List.take_append_of_le_length (by omega)]
  have : plFold (p ++ x) (chars (p.take s)) = plFold p (chars (p.take s)) := by
    unfold plFold
    refine foldl_congr _ _ _ _ fun a y hy => ?_
    have hlt := charsAt_lt _ (p.take s) 0 (Nat.le_refl _) y (by rw [← chars_eq]; exact hy)
    rw [List.length_take] at hlt
    unfold plStep
    have e1 : (p ++ x).getD (y.1 + 1) 0 = p.getD (y.1 + 1) 0 := by rw [getD_append, if_pos (by omega)]
    rw [e1]
    have e2 : ((p ++ x).length ≤ y.1 + 1) = (p.length ≤ y.1 + 1) := by
      rw [List.length_append]
      exact propext ⟨fun h => by omega, fun h => by omega⟩
    simp only [e2]
  rw [this]
/-- Words stand within the bytes. -/
theorem cover_lt (q : List UInt8) : ∀ (l : List (Wd × Nat)) p, Cover q p l → ∀ y ∈ l, y.2 < q.length
  | [], _, _, y, hy => by cases hy
  | (x, s) :: t, p, h, y, hy => by
    obtain ⟨_, _, _, n, hw, hc⟩ := h
    rcases List.mem_cons.1 hy with rfl | hy
    · have := hw.1
      have := hw.2.1
      simp only; omega
    · exact cover_lt q t _ hc y hy
end Go.Proofs.YtjmejlncomaclaaDoor.Lx
