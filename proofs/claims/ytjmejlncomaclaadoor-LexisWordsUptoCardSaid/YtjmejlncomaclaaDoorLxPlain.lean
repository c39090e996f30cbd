/- What gimlet's lexis computes, in plain Lean (no program in sight): decoding, classes of characters, words. No conditions. -/
import Derived.Lib.DecodeN
import Derived.Lib.Strings
import Derived.Laws.RangeAny
namespace Go.Proofs.YtjmejlncomaclaaDoor.Lx

/-- The first character of some bytes: its number and its width. -/
def dec (l : List UInt8) : Nat × Nat := Lib.decodeN l.length (l.getD 0 0).toNat (l.getD 1 0).toNat (l.getD 2 0).toNat (l.getD 3 0).toNat

theorem get!_getD (s : ByteArray) (i : Nat) : s.get! i = s.data.toList.getD i 0 := by
  obtain ⟨⟨l⟩⟩ := s
  by_cases h : i < l.length
  · simp [ByteArray.get!, h]
  · simp [ByteArray.get!, h]; rfl

theorem decode_dec (s : ByteArray) (i : Nat) : Utf8.decode s i = dec (s.data.toList.drop i) := by
  rw [Lib.decode_at]
  unfold dec
  simp only [get!_getD, List.length_drop, Lib.size_eq, List.getD_eq_getElem?_getD, List.getElem?_drop, Nat.add_zero]

theorem dec_pos (l : List UInt8) : 1 ≤ (dec l).2 := by
  unfold dec Lib.decodeN; (repeat' split) <;> simp
theorem dec_le (l : List UInt8) (h : l ≠ []) : (dec l).2 ≤ l.length := by
  have : 0 < l.length := List.length_pos_iff.2 h
  unfold dec Lib.decodeN; (repeat' split) <;> simp <;> omega
theorem dec_le4 (l : List UInt8) : (dec l).2 ≤ 4 := by
  unfold dec Lib.decodeN; (repeat' split) <;> simp
theorem dec_bd (l : List UInt8) : (dec l).1 ≤ 1114111 := by
  unfold dec Lib.decodeN; (repeat' split) <;> simp <;> (try omega)
  all_goals (have := (l.getD 0 0).toNat_lt; simp at *; omega)
/-- A first byte below 128 is a character of its own. -/
theorem dec_ascii (b : UInt8) (l : List UInt8) (h : b.toNat < 128) : dec (b :: l) = (b.toNat, 1) := by
  unfold dec Lib.decodeN; simp [h]
theorem decodeN_high (n b0 b1 b2 b3 : Nat) (h : 128 ≤ b0) : 128 ≤ (Lib.decodeN n b0 b1 b2 b3).1 := by
  unfold Lib.decodeN; (repeat' split) <;> simp only [] <;> omega
theorem dec_high (b : UInt8) (l : List UInt8) (h : 128 ≤ b.toNat) : 128 ≤ (dec (b :: l)).1 := decodeN_high _ _ _ _ _ h
/-- A character below 128 is its byte. -/
theorem dec_low (l : List UInt8) (h : l ≠ []) (hr : (dec l).1 < 128) : ∃ b t, l = b :: t ∧ b.toNat = (dec l).1 ∧ (dec l).2 = 1 := by
  cases l with
  | nil => exact absurd rfl h
  | cons b t =>
    by_cases hb : b.toNat < 128
    · refine ⟨b, t, rfl, ?_, ?_⟩ <;> rw [dec_ascii b t hb]
    · have := dec_high b t (by omega); omega

/-! ### classes of characters -/
def isL (r : Int) : List (Int × Int) → Bool
  | [] => false
  | (lo, hi) :: t => if r ≤ hi then decide (r ≥ lo) else isL r t
def cls : Nat → List (Int × Int)
  | 0 => [(9, 10), (13, 13), (32, 55295), (57344, 65533), (65536, 1114111)]
  | 1 => [(9, 10), (13, 13), (32, 32)]
  | 2 => [(65, 90), (95, 95), (97, 122), (192, 214), (216, 246), (248, 767), (880, 893), (895, 8191), (8204, 8205), (8304, 8591), (11264, 12271), (12289, 55295), (63744, 64975), (65008, 65533), (65536, 983039)]
  | 3 => [(45, 46), (48, 57), (65, 90), (95, 95), (97, 122), (183, 183), (192, 214), (216, 246), (248, 893), (895, 8191), (8204, 8205), (8255, 8256), (8304, 8591), (11264, 12271), (12289, 55295), (63744, 64975), (65008, 65533), (65536, 983039)]
  | 4 => [(48, 57)]
  | 5 => [(48, 57), (65, 70), (97, 102)]
  | _ => []
def isC (c r : Nat) : Bool := isL (r : Int) (cls c)
def risesB : List (Int × Int) → Bool
  | [] => true
  | [p] => decide (p.1 ≤ p.2)
  | p :: q :: t => decide (p.1 ≤ p.2) && decide (p.2 < q.1) && risesB (q :: t)
theorem rises_above : ∀ (l : List (Int × Int)) (p : Int × Int), risesB (p :: l) = true → p.1 ≤ p.2 ∧ (∀ q ∈ l, p.2 < q.1 ∧ q.1 ≤ q.2) ∧ risesB l = true
  | [], p, h => by simp [risesB] at h; simp [risesB, h]
  | q :: t, p, h => by
    simp only [risesB, Bool.and_eq_true, decide_eq_true_eq] at h
    obtain ⟨⟨h1, h2⟩, h3⟩ := h
    obtain ⟨h4, h5, h6⟩ := rises_above t q h3
    refine ⟨h1, fun x hx => ?_, h3⟩
    rcases List.mem_cons.1 hx with rfl | hx
    · exact ⟨h2, h4⟩
    · have := h5 x hx; omega
theorem isL_iff (r : Int) : ∀ l : List (Int × Int), risesB l = true → (isL r l = true ↔ ∃ p ∈ l, p.1 ≤ r ∧ r ≤ p.2)
  | [], _ => by simp [isL]
  | (lo, hi) :: t, h => by
    obtain ⟨h1, h2, h3⟩ := rises_above t (lo, hi) h
    simp only at h1 h2
    simp only [isL]
    split
    · rename_i hr
      simp only [decide_eq_true_eq]
      constructor
      · intro h4; exact ⟨(lo, hi), by simp, h4, hr⟩
      · rintro ⟨p, hp, h4, h5⟩
        rcases List.mem_cons.1 hp with rfl | hp
        · exact h4
        · have := h2 p hp; omega
    · rename_i hr
      rw [isL_iff r t h3]
      constructor
      · rintro ⟨p, hp, h4⟩; exact ⟨p, by simp [hp], h4⟩
      · rintro ⟨p, hp, h4, h5⟩
        rcases List.mem_cons.1 hp with rfl | hp
        · simp only at h5; omega
        · exact ⟨p, hp, h4, h5⟩
theorem isC_iff (c r : Nat) : isC c r = true ↔ ∃ p ∈ cls c, p.1 ≤ (r : Int) ∧ (r : Int) ≤ p.2 := by
  refine isL_iff r (cls c) ?_
  match c with
  | 0 => decide
  | 1 => decide
  | 2 => decide
  | 3 => decide
  | 4 => decide
  | 5 => decide
  | _ + 6 => rfl
theorem isC_sub (c d r : Nat) (h : ∀ p ∈ cls c, ∃ q ∈ cls d, q.1 ≤ p.1 ∧ p.2 ≤ q.2) (hr : isC c r = true) : isC d r = true := by
  rw [isC_iff] at hr ⊢
  obtain ⟨p, hp, h1, h2⟩ := hr
  obtain ⟨q, hq, h3, h4⟩ := h p hp
  exact ⟨q, hq, by omega, by omega⟩
theorem isC23 (r : Nat) : isC 2 r = true → isC 3 r = true := isC_sub 2 3 r (by decide)
theorem isC1 (r : Nat) : isC 1 r = true ↔ r = 9 ∨ r = 10 ∨ r = 13 ∨ r = 32 := by
  unfold isC cls; simp only [isL]; (repeat' split) <;> simp <;> omega
theorem isC4 (r : Nat) : isC 4 r = true ↔ 48 ≤ r ∧ r ≤ 57 := by
  unfold isC cls; simp only [isL]; (repeat' split) <;> simp <;> omega

/-! ### how many bytes of a beginning are of a class -/
def runF (c : Nat) : Nat → List UInt8 → Nat
  | 0, _ => 0
  | _ + 1, [] => 0
  | k + 1, b :: t => if isC c (dec (b :: t)).1 then (dec (b :: t)).2 + runF c k ((b :: t).drop (dec (b :: t)).2) else 0
def run (c : Nat) (l : List UInt8) : Nat := runF c l.length l
theorem runF_fuel (c : Nat) : ∀ k j l, l.length ≤ k → l.length ≤ j → runF c k l = runF c j l := by
  intro k
  induction k with
  | zero => intro j l h1 h2; cases l with
    | nil => cases j <;> rfl
    | cons b t => simp at h1
  | succ k ih =>
    intro j l h1 h2
    cases l with
    | nil => cases j <;> rfl
    | cons b t =>
      cases j with
      | zero => simp at h2
      | succ j =>
        have := dec_pos (b :: t)
        simp only [runF]
        rw [ih j _ (by simp at *; omega) (by simp at *; omega)]
theorem run_nil (c : Nat) : run c [] = 0 := rfl
theorem run_cons (c : Nat) (l : List UInt8) (h : l ≠ []) : run c l = if isC c (dec l).1 then (dec l).2 + run c (l.drop (dec l).2) else 0 := by
  cases l with
  | nil => exact absurd rfl h
  | cons b t =>
    have := dec_pos (b :: t)
    unfold run
    simp only [List.length_cons, runF]
    rw [runF_fuel c t.length _ _ (by simp; omega) (Nat.le_refl _)]
theorem run_le (c : Nat) : ∀ k l, l.length ≤ k → run c l ≤ l.length := by
  intro k
  induction k with
  | zero => intro l h; cases l with
    | nil => simp [run_nil]
    | cons b t => simp at h
  | succ k ih =>
    intro l h
    by_cases hl : l = []
    · subst hl; simp [run_nil]
    · rw [run_cons c l hl]
      have h1 := dec_pos l
      have h2 := dec_le l hl
      split
      · have := ih (l.drop (dec l).2) (by simp; omega)
        simp at this; omega
      · omega

/-! ### words -/
structure Wd where
  kind : Nat
  text : List UInt8
  num : Nat
  deriving DecidableEq
def number (l : List UInt8) : Nat := l.foldl (fun n b => min (10 * n + (b.toNat - 48)) 1000001) 0
theorem number_snoc (l : List UInt8) (p : Nat) (h : p < l.length) : number (l.take (p + 1)) = min (10 * number (l.take p) + (l[p].toNat - 48)) 1000001 := by
  unfold number
  rw [List.take_succ_eq_append_getElem h, List.foldl_append]; rfl
theorem number_le (l : List UInt8) : number l ≤ 1000001 := by
  unfold number
  suffices h : ∀ (l : List UInt8) (n : Nat), n ≤ 1000001 → l.foldl (fun n b => min (10 * n + (b.toNat - 48)) 1000001) n ≤ 1000001 from h l 0 (by omega)
  intro l
  induction l with
  | nil => intro n h; exact h
  | cons b t ih => intro n h; exact ih _ (Nat.min_le_right _ _)
def atF (r : Nat) : Nat → List UInt8 → Option Nat
  | 0, _ => none
  | _ + 1, [] => none
  | k + 1, b :: t => if (dec (b :: t)).1 = r then some 0 else (atF r k ((b :: t).drop (dec (b :: t)).2)).map (· + (dec (b :: t)).2)
def runeAt (r : Nat) (l : List UInt8) : Option Nat := atF r l.length l
theorem atF_fuel (r : Nat) : ∀ k j l, l.length ≤ k → l.length ≤ j → atF r k l = atF r j l := by
  intro k
  induction k with
  | zero => intro j l h1 h2; cases l with
    | nil => cases j <;> rfl
    | cons b t => simp at h1
  | succ k ih =>
    intro j l h1 h2
    cases l with
    | nil => cases j <;> rfl
    | cons b t =>
      cases j with
      | zero => simp at h2
      | succ j =>
        have := dec_pos (b :: t)
        simp only [atF]
        rw [ih j _ (by simp at *; omega) (by simp at *; omega)]
theorem runeAt_cons (r : Nat) (l : List UInt8) (h : l ≠ []) : runeAt r l = if (dec l).1 = r then some 0 else (runeAt r (l.drop (dec l).2)).map (· + (dec l).2) := by
  cases l with
  | nil => exact absurd rfl h
  | cons b t =>
    have := dec_pos (b :: t)
    unfold runeAt
    simp only [List.length_cons, atF]
    rw [atF_fuel r t.length _ _ (by simp; omega) (Nat.le_refl _)]
/-- It stands within the bytes, and is the byte r (r below 128). -/
theorem runeAt_some (r : Nat) (hr : r < 128) : ∀ k l e, l.length ≤ k → runeAt r l = some e → e < l.length ∧ (l.getD e 0).toNat = r := by
  intro k
  induction k with
  | zero => intro l e h he; cases l with
    | nil => simp [runeAt, atF] at he
    | cons b t => simp at h
  | succ k ih =>
    intro l e h he
    by_cases hl : l = []
    · subst hl; simp [runeAt, atF] at he
    · rw [runeAt_cons r l hl] at he
      have h1 := dec_pos l
      have h2 := dec_le l hl
      split at he
      · rename_i hd
        obtain ⟨b, t, rfl, hb, _⟩ := dec_low l hl (by omega)
        cases he
        exact ⟨by simp, by simp [hb, hd]⟩
      · obtain ⟨e', he', rfl⟩ := Option.map_eq_some_iff.1 he
        obtain ⟨h3, h4⟩ := ih (l.drop (dec l).2) e' (by simp; omega) he'
        simp at h3
        refine ⟨by omega, ?_⟩
        rw [← h4]
        simp [List.getD_eq_getElem?_getD, List.getElem?_drop, Nat.add_comm]
def signs : List (List UInt8) := [[47, 47], [58, 58], [33, 61], [47], [91], [93], [40], [41], [64], [46], [42], [44], [61], [60], [62]]
def sign (l : List UInt8) : List UInt8 := (signs.find? fun x => Lib.hasPrefix l x).getD []
theorem sign_take (l : List UInt8) : sign l = l.take (sign l).length := by
  unfold sign
  cases h : signs.find? fun x => Lib.hasPrefix l x with
  | none => simp
  | some x =>
    have := List.find?_some h
    simp only [Lib.hasPrefix, List.isPrefixOf_iff_prefix] at this
    simpa using List.prefix_iff_eq_take.1 this
def word (l : List UInt8) : Wd × Nat × Bool :=
  if isC 2 (dec l).1 then (⟨0, l.take (run 3 l), 0⟩, run 3 l, true)
  else if isC 4 (dec l).1 then
    if 1000000 < number (l.take (run 4 l)) then (⟨2, [], number (l.take (run 4 l))⟩, 0, false)
    else if l.drop (run 4 l) ≠ [] ∧ isC 2 (dec (l.drop (run 4 l))).1 = true then (⟨2, [], number (l.take (run 4 l))⟩, run 4 l, false)
    else (⟨2, [], number (l.take (run 4 l))⟩, run 4 l, true)
  else if (dec l).1 = 34 ∨ (dec l).1 = 39 then
    match runeAt (dec l).1 (l.drop 1) with
    | none => (⟨0, [], 0⟩, 0, false)
    | some e => (⟨1, (l.drop 1).take e, 0⟩, e + 2, true)
  else (⟨3, sign l, 0⟩, (sign l).length, decide (sign l ≠ []))
/-- Where a word is, it has a byte, and lies within the bytes. -/
theorem word_le (l : List UInt8) (h : l ≠ []) (ok : (word l).2.2 = true) : 1 ≤ (word l).2.1 ∧ (word l).2.1 ≤ l.length := by
  have hp := dec_pos l
  have hle := dec_le l h
  revert ok
  unfold word
  split
  · rename_i h2
    intro _
    refine ⟨?_, run_le 3 _ _ (Nat.le_refl _)⟩
    show 1 ≤ run 3 l
    rw [run_cons 3 l h]
    rw [if_pos (isC23 _ h2)]; omega
  · split
    · rename_i h4
      split
      · intro h; simp at h
      · split
        · intro h; simp at h
        · intro _
          refine ⟨?_, run_le 4 _ _ (Nat.le_refl _)⟩
          show 1 ≤ run 4 l
          rw [run_cons 4 l h, if_pos h4]; omega
    · split
      · rename_i hq
        split
        · intro h; simp at h
        · rename_i e he
          intro _
          have := (runeAt_some _ (by omega) _ _ _ (Nat.le_refl _) he).1
          simp at this
          simp; omega
      · intro ok
        simp only [ne_eq, decide_eq_true_eq] at ok
        have h1 : 0 < (sign l).length := List.length_pos_iff.2 ok
        have h2 := congrArg List.length (sign_take l)
        simp at h2
        exact ⟨h1, by simp only; omega⟩
theorem word_n_le (l : List UInt8) (h : l ≠ []) : (word l).2.1 ≤ l.length := by
  cases ok : (word l).2.2 with
  | true => exact (word_le l h ok).2
  | false =>
    revert ok
    unfold word
    split
    · intro h; simp at h
    · split
      · split
        · intro _; simp
        · split
          · intro _; exact run_le 4 _ _ (Nat.le_refl _)
          · intro h; simp at h
      · split
        · split
          · intro _; simp
          · intro h; simp at h
        · intro ok
          simp only [ne_eq, decide_eq_false_iff_not, Decidable.not_not] at ok
          simp [ok]
/-- All words from a place on; or the place of the byte that is wrong. -/
def wordsF : Nat → List UInt8 → Nat → Except Nat (List (Wd × Nat))
  | 0, _, _ => .ok []
  | k + 1, q, p => if p < q.length then
      if (word (q.drop p)).2.2 then (wordsF k q (p + (word (q.drop p)).2.1 + run 1 (q.drop (p + (word (q.drop p)).2.1)))).map ((((word (q.drop p)).1, p)) :: ·)
      else .error (p + (word (q.drop p)).2.1)
    else .ok []
theorem wordsF_succ (k : Nat) (q : List UInt8) (p : Nat) : wordsF (k + 1) q p = if p < q.length then
      if (word (q.drop p)).2.2 then (wordsF k q (p + (word (q.drop p)).2.1 + run 1 (q.drop (p + (word (q.drop p)).2.1)))).map ((((word (q.drop p)).1, p)) :: ·)
      else .error (p + (word (q.drop p)).2.1)
    else .ok [] := rfl
theorem wordsF_fuel : ∀ k j (q : List UInt8) p, q.length - p ≤ k → q.length - p ≤ j → wordsF (k + 1) q p = wordsF (j + 1) q p := by
  intro k
  induction k with
  | zero =>
    intro j q p h1 h2
    have : ¬ p < q.length := by omega
    simp only [wordsF, if_neg this]
  | succ k ih =>
    intro j q p h1 h2
    cases j with
    | zero =>
      have : ¬ p < q.length := by omega
      rw [wordsF_succ (k + 1), wordsF_succ 0, if_neg this, if_neg this]
    | succ j =>
      rw [wordsF_succ (k + 1), wordsF_succ (j + 1)]
      split
      · rename_i hp
        split
        · rename_i hok
          have := word_le (q.drop p) (by intro h; have := congrArg List.length h; simp at this; omega) hok
          rw [ih j q _ (by omega) (by omega)]
        · rfl
      · rfl

/-! ### places -/
/-- The characters of some bytes, each with the byte at which it begins. -/
def charsF : Nat → Nat → List UInt8 → List (Nat × Nat)
  | 0, _, _ => []
  | _ + 1, _, [] => []
  | k + 1, i, b :: t => (i, (dec (b :: t)).1) :: charsF k (i + (dec (b :: t)).2) ((b :: t).drop (dec (b :: t)).2)
def chars (l : List UInt8) : List (Nat × Nat) := charsF l.length 0 l
theorem charsF_fuel : ∀ k j i l, l.length ≤ k → l.length ≤ j → charsF k i l = charsF j i l := by
  intro k
  induction k with
  | zero => intro j i l h1 h2; cases l with
    | nil => cases j <;> rfl
    | cons b t => simp at h1
  | succ k ih =>
    intro j i l h1 h2
    cases l with
    | nil => cases j <;> rfl
    | cons b t =>
      cases j with
      | zero => simp at h2
      | succ j =>
        have := dec_pos (b :: t)
        simp only [charsF]
        rw [ih j _ _ (by simp at *; omega) (by simp at *; omega)]
def charsAt (i : Nat) (l : List UInt8) : List (Nat × Nat) := charsF l.length i l
theorem charsAt_nil (i : Nat) : charsAt i [] = [] := rfl
theorem charsAt_cons (i : Nat) (l : List UInt8) (h : l ≠ []) : charsAt i l = (i, (dec l).1) :: charsAt (i + (dec l).2) (l.drop (dec l).2) := by
  cases l with
  | nil => exact absurd rfl h
  | cons b t =>
    have := dec_pos (b :: t)
    unfold charsAt
    simp only [List.length_cons, charsF]
    rw [charsF_fuel t.length _ _ _ (by simp; omega) (Nat.le_refl _)]
theorem chars_eq (l : List UInt8) : chars l = charsAt 0 l := rfl
theorem charsAt_length (l : List UInt8) : ∀ k i, l.length ≤ k → (charsAt i l).length ≤ l.length := by
  intro k
  induction k generalizing l with
  | zero => intro i h; cases l with
    | nil => simp [charsAt_nil]
    | cons b t => simp at h
  | succ k ih =>
    intro i h
    by_cases hl : l = []
    · subst hl; simp [charsAt_nil]
    · rw [charsAt_cons i l hl]
      have h1 := dec_pos l
      have h2 := dec_le l hl
      have := ih (l.drop (dec l).2) (i + (dec l).2) (by simp; omega)
      simp at this ⊢; omega
structure Place where
  byte : Nat
  rune : Nat
  line : Nat
  col : Nat
  deriving DecidableEq
def plStep (q : List UInt8) (s : Nat × Nat × Nat) (x : Nat × Nat) : Nat × Nat × Nat :=
  if x.2 = 10 ∨ (x.2 = 13 ∧ (q.length ≤ x.1 + 1 ∨ q.getD (x.1 + 1) 0 ≠ 10)) then (s.1 + 1, s.2.1 + 1, 1) else (s.1 + 1, s.2.1, s.2.2 + 1)
def plFold (q : List UInt8) (xs : List (Nat × Nat)) : Nat × Nat × Nat := xs.foldl (plStep q) (0, 1, 1)
theorem plFold_snoc (q : List UInt8) (xs : List (Nat × Nat)) (x : Nat × Nat) : plFold q (xs ++ [x]) = plStep q (plFold q xs) x := by simp [plFold]
theorem plFold_le (q : List UInt8) (xs : List (Nat × Nat)) : (plFold q xs).1 = xs.length ∧ (plFold q xs).2.1 ≤ xs.length + 1 ∧ (plFold q xs).2.2 ≤ xs.length + 1 := by
  suffices h : ∀ (xs : List (Nat × Nat)) (s : Nat × Nat × Nat) (n : Nat), s.2.1 ≤ n + 1 → s.2.2 ≤ n + 1 → (xs.foldl (plStep q) s).1 = s.1 + xs.length ∧ (xs.foldl (plStep q) s).2.1 ≤ n + xs.length + 1 ∧ (xs.foldl (plStep q) s).2.2 ≤ n + xs.length + 1 by
    have := h xs (0, 1, 1) 0 (by simp) (by simp)
    simpa [plFold] using this
  intro xs
  induction xs with
  | nil => intro s n h1 h2; simp [h1, h2]
  | cons x xs ih =>
    intro s n h1 h2
    rw [List.foldl_cons]
    have := ih (plStep q s x) (n + 1) (by unfold plStep; split <;> simp <;> omega) (by unfold plStep; split <;> simp; omega)
    have e : (plStep q s x).1 = s.1 + 1 := by unfold plStep; split <;> rfl
    rw [e] at this
    simp only [List.length_cons]
    omega
def place (q : List UInt8) (at_ : Nat) : Place := ⟨at_, (plFold q (chars (q.take at_))).1, (plFold q (chars (q.take at_))).2.1, (plFold q (chars (q.take at_))).2.2⟩

/-! ### what can go on to be characters -/
def fullRune (l : List UInt8) : Bool :=
  if l.length = 0 then false
  else if Lib.firstT (l.getD 0 0).toNat % 8 ≤ l.length then true
  else if 1 < l.length ∧ ((l.getD 1 0).toNat < Lib.accLo (Lib.firstT (l.getD 0 0).toNat / 16) ∨ Lib.accHi (Lib.firstT (l.getD 0 0).toNat / 16) < (l.getD 1 0).toNat) then true
  else decide (2 < l.length ∧ ((l.getD 2 0).toNat < 128 ∨ 191 < (l.getD 2 0).toNat))
/-- utf8.DecodeRune. -/
def decGo (l : List UInt8) : Nat × Nat := if l = [] then (65533, 0) else dec l
def validHd (l : List UInt8) : Bool := decide ((decGo l).1 ≠ 65533) || decide (1 < (decGo l).2)
def begins (l : List UInt8) : Bool := !fullRune l || validHd l
def goodA : Nat → List UInt8 → Nat → Nat
  | 0, _, at_ => at_
  | k + 1, b, at_ => if at_ < b.length ∧ fullRune (b.drop at_) = true ∧ validHd (b.drop at_) = true then goodA k b (at_ + (decGo (b.drop at_)).2) else at_
def goodB : Nat → List UInt8 → Nat → Nat → Nat
  | 0, _, _, n => n
  | k + 1, b, at_, n => if n < b.length ∧ begins ((b.take (n + 1)).drop at_) = true then goodB k b at_ (n + 1) else n
def good (b : List UInt8) : Nat := goodB b.length b (goodA b.length b 0) (goodA b.length b 0)
/-- string([]rune(s)). -/
def mend (l : List UInt8) : List UInt8 := (chars l).flatMap fun x => (Utf8.encode x.2).data.toList

/-- lexis.Words. -/
def words (q : List UInt8) : Except (Nat × Nat) (List (Wd × Nat)) :=
  if mend q ≠ q then .error (good q, 103)
  else match wordsF (q.length + 1) q (run 1 q) with
    | .ok l => .ok l
    | .error p => .error (p, 104)
end Go.Proofs.YtjmejlncomaclaaDoor.Lx
