/- Plain law: where characters begin, how far bytes are good, by the document's tables. No conditions. -/
import Derived.Test.YtjmejlncomaclaaDoorLxRef2
namespace Go.Proofs.YtjmejlncomaclaaDoor.Lx

/-- Where the character of that number begins. -/
def bnd (b : List UInt8) : Nat → Nat
  | 0 => 0
  | n + 1 => bnd b n + (dec (b.drop (bnd b n))).2
theorem bnd_succ (b : List UInt8) (n : Nat) : bnd b (n + 1) = bnd b n + (dec (b.drop (bnd b n))).2 := rfl
theorem drop_ne' {b : List UInt8} {i : Nat} (h : i < b.length) : b.drop i ≠ [] := by
  intro h1; have := congrArg List.length h1; simp at this; omega
theorem bnd_lt (b : List UInt8) (n : Nat) : bnd b n < bnd b (n + 1) := by
  have := dec_pos (b.drop (bnd b n))
  rw [bnd_succ]; omega
theorem bnd_mono (b : List UInt8) : ∀ n m, n ≤ m → bnd b n ≤ bnd b m := by
  intro n m h
  induction m with
  | zero => obtain rfl : n = 0 := by omega
            exact Nat.le_refl _
  | succ m ih =>
    rcases Nat.lt_or_ge m n with h1 | h1
    · obtain rfl : n = m + 1 := by omega
      exact Nat.le_refl _
    · exact Nat.le_trans (ih h1) (Nat.le_of_lt (bnd_lt b m))
theorem bnd_ge (b : List UInt8) (n : Nat) : n ≤ bnd b n := by
  induction n with
  | zero => exact Nat.zero_le _
  | succ n ih => have := bnd_lt b n; omega
theorem bnd_step (b : List UInt8) (n : Nat) (h : bnd b n < b.length) : bnd b (n + 1) ≤ b.length := by
  have := dec_le (b.drop (bnd b n)) (drop_ne' h)
  rw [List.length_drop] at this
  rw [bnd_succ]; omega
theorem chars_drop (b : List UInt8) : ∀ n, n ≤ (chars b).length → bnd b n ≤ b.length ∧ (chars b).drop n = charsAt (bnd b n) (b.drop (bnd b n)) := by
  intro n
  induction n with
  | zero => intro _; exact ⟨Nat.zero_le _, rfl⟩
  | succ n ih =>
    intro h
    obtain ⟨h1, h2⟩ := ih (by omega)
    have hne : b.drop (bnd b n) ≠ [] := by
      intro h3
      rw [h3, charsAt_nil] at h2
      have := congrArg List.length h2
      simp at this; omega
    have hlt : bnd b n < b.length := by
      rcases Nat.lt_or_ge (bnd b n) b.length with h3 | h3
      · exact h3
      · exact absurd (List.drop_eq_nil_of_le h3) hne
    refine ⟨bnd_step b n hlt, ?_⟩
    rw [charsAt_cons _ _ hne] at h2
    have h3 := congrArg (List.drop 1) h2
    rw [List.drop_drop] at h3
    rw [bnd_succ, h3, List.drop_succ_cons, List.drop_zero, List.drop_drop]
theorem chars_get (b : List UInt8) (n : Nat) (h : n < (chars b).length) : bnd b n < b.length ∧ (chars b)[n]? = some (bnd b n, (dec (b.drop (bnd b n))).1) := by
  obtain ⟨h1, h2⟩ := chars_drop b n (by omega)
  have hne : b.drop (bnd b n) ≠ [] := by
    intro h3
    rw [h3, charsAt_nil] at h2
    have := congrArg List.length h2
    simp at this; omega
  refine ⟨?_, ?_⟩
  · rcases Nat.lt_or_ge (bnd b n) b.length with h3 | h3
    · exact h3
    · exact absurd (List.drop_eq_nil_of_le h3) hne
  · rw [charsAt_cons _ _ hne] at h2
    have h3 := congrArg (·[0]?) h2
    simpa using h3
theorem chars_end (b : List UInt8) : bnd b (chars b).length = b.length := by
  obtain ⟨h1, h2⟩ := chars_drop b _ (Nat.le_refl _)
  rw [List.drop_length] at h2
  rcases Nat.lt_or_ge (bnd b (chars b).length) b.length with h3 | h3
  · rw [charsAt_cons _ _ (drop_ne' h3)] at h2; cases h2
  · omega
/-- Whether the character of that number is there. -/
theorem chars_lt (b : List UInt8) (n : Nat) (hn : n ≤ (chars b).length) : bnd b n < b.length ↔ n < (chars b).length := by
  constructor
  · intro h
    rcases Nat.lt_or_ge n (chars b).length with h1 | h1
    · exact h1
    · obtain rfl : n = (chars b).length := by omega
      rw [chars_end] at h; omega
  · intro h; exact (chars_get b n h).1

/-! ### how far they are good -/
def Reach (b : List UInt8) (n : Nat) : Prop := ∀ i, i < n → bnd b i < b.length ∧ Okc (b.drop (bnd b i))
theorem Reach.zero (b : List UInt8) : Reach b 0 := fun i h => absurd h (by omega)
theorem Reach.step {b : List UInt8} {n : Nat} (h : Reach b n) (h1 : bnd b n < b.length) (h2 : Okc (b.drop (bnd b n))) : Reach b (n + 1) := fun i hi => by
  rcases Nat.lt_or_ge i n with h3 | h3
  · exact h i h3
  · obtain rfl : i = n := by omega
    exact ⟨h1, h2⟩
theorem Reach.le {b : List UInt8} {n : Nat} (h : Reach b n) : bnd b n ≤ b.length := by
  cases n with
  | zero => exact Nat.zero_le _
  | succ n => exact bnd_step b n (h n (by omega)).1
theorem Reach.mend {b : List UInt8} : ∀ {n : Nat}, Reach b n → (mend b = b ↔ mend (b.drop (bnd b n)) = b.drop (bnd b n))
  | 0, _ => Iff.rfl
  | n + 1, h => by
    rw [Reach.mend (n := n) fun i hi => h i (by omega), mend_ok (h n (by omega)).2, List.drop_drop, bnd_succ]
theorem Reach.whole {b : List UInt8} {n : Nat} (h : Reach b n) (he : bnd b n = b.length) : Lx.mend b = b := by
  rw [h.mend, he, List.drop_length]; rfl
theorem Reach.bad {b : List UInt8} {n : Nat} (h : Reach b n) (hl : bnd b n < b.length) (hn : ¬ Okc (b.drop (bnd b n))) : Lx.mend b ≠ b := by
  intro h1
  exact mend_bad (drop_ne' hl) hn (h.mend.1 h1)

theorem first_sz (b : Nat) (h : b < 256) : (szOf b = 0 → Lib.firstT b % 8 = 1) ∧ (szOf b ≠ 0 → 128 ≤ b → Lib.firstT b % 8 = szOf b ∧ Lib.accLo (Lib.firstT b / 16) = goesLo b ∧ Lib.accHi (Lib.firstT b / 16) = goesHi b) ∧ (szOf b ≠ 0 → Lib.firstT b % 8 ≤ szOf b) := by
  have h2 : ∀ b : Fin 256, (szOf b.val = 0 → Lib.firstT b.val % 8 = 1) ∧ (szOf b.val ≠ 0 → 128 ≤ b.val → Lib.firstT b.val % 8 = szOf b.val ∧ Lib.accLo (Lib.firstT b.val / 16) = goesLo b.val ∧ Lib.accHi (Lib.firstT b.val / 16) = goesHi b.val) ∧ (szOf b.val ≠ 0 → Lib.firstT b.val % 8 ≤ szOf b.val) := by decide +kernel
  exact h2 ⟨b, h⟩
theorem okc_full {l : List UInt8} (h : Okc l) : fullRune l = true ∧ validHd l = true ∧ decGo l = dec l := by
  have hne := okc_ne h
  have hk := okc_front h
  have hs := ((okc_iff l).1 h).2.1
  have h0 : (l.getD 0 0).toNat < 256 := (l.getD 0 0).toNat_lt
  have hd := dec_front l hne
  rw [if_pos h] at hd
  have e : decGo l = dec l := by unfold decGo; rw [if_neg hne]
  refine ⟨?_, ?_, e⟩
  · unfold fullRune
    rw [if_neg (by have := ne_len hne; omega), if_pos ?_]
    have h1 := hk.2.2.1
    have h2 := (first_sz _ h0).2.2 hs
    omega
  · unfold validHd
    rw [e, hd]
    simp only [Bool.or_eq_true, decide_eq_true_eq]
    have h1 := hk.2.2.2
    rcases Nat.lt_or_ge 1 (szOf (l.getD 0 0).toNat) with h2 | h2
    · exact .inr h2
    · left
      obtain h3 : szOf (l.getD 0 0).toNat = 1 := by omega
      rw [h3]
      simp only [valN, ↓reduceIte]
      omega
theorem bad_valid {l : List UInt8} (hl : l ≠ []) (h : ¬ Okc l) : validHd l = false := by
  unfold validHd decGo
  rw [if_neg hl, dec_bad hl h]
  rfl
/-- The step of runes.Good's first loop. -/
theorem goodA_at {b : List UInt8} : ∀ (k n i : Nat), Reach b n → (bnd b n = b.length ∨ (bnd b n < b.length ∧ ¬ Okc (b.drop (bnd b n)))) → i ≤ n → n - i ≤ k → goodA k b (bnd b i) = bnd b n
  | 0, n, i, _, _, h3, h4 => by obtain rfl : i = n := by omega
                                rfl
  | k + 1, n, i, h1, h2, h3, h4 => by
    unfold goodA
    rcases Nat.lt_or_ge i n with h5 | h5
    · have h6 := h1 i h5
      have h7 := okc_full h6.2
      rw [if_pos ⟨h6.1, h7.1, h7.2.1⟩, h7.2.2, ← bnd_succ]
      exact goodA_at k n (i + 1) h1 h2 (by omega) (by omega)
    · obtain rfl : i = n := by omega
      rw [if_neg ?_]
      intro ⟨h6, h7, h8⟩
      rcases h2 with h2 | h2
      · omega
      · rw [bad_valid (drop_ne' h2.1) h2.2] at h8; cases h8

/-! ### where it stops -/
theorem getD_take (l : List UInt8) (j i : Nat) (h : i < j) : (l.take j).getD i 0 = l.getD i 0 := by
  simp [List.getD_eq_getElem?_getD, List.getElem?_take_of_lt h]
theorem front_bad {l : List UInt8} (hl : l ≠ []) (h : ¬ Okc l) : (szOf (l.getD 0 0).toNat = 0 ∧ (front l).1 = 0) ∨
    (2 ≤ szOf (l.getD 0 0).toNat ∧ (front l).1 = frontN l.length (szOf (l.getD 0 0).toNat) (l.getD 0 0).toNat (l.getD 1 0).toNat (l.getD 2 0).toNat (l.getD 3 0).toNat ∧ (front l).1 < szOf (l.getD 0 0).toNat) := by
  rw [okc_iff] at h
  have hl' := ne_len hl
  unfold front
  by_cases h0 : szOf (l.getD 0 0).toNat = 0
  · left; rw [if_pos (.inr h0)]; exact ⟨h0, rfl⟩
  · right
    rw [if_neg (by simp only [not_or]; exact ⟨hl, h0⟩)]
    have h1 := frontN_le l.length (szOf (l.getD 0 0).toNat) (l.getD 0 0).toNat (l.getD 1 0).toNat (l.getD 2 0).toNat (l.getD 3 0).toNat (by omega) hl'
    have h2 : ¬ frontN l.length (szOf (l.getD 0 0).toNat) (l.getD 0 0).toNat (l.getD 1 0).toNat (l.getD 2 0).toNat (l.getD 3 0).toNat = szOf (l.getD 0 0).toNat := fun h2 => h ⟨hl, h0, h2⟩
    simp only
    refine ⟨?_, trivial, ?_⟩
    · have := h1.1; have := h1.2.1; omega
    · have := h1.2.1; omega
theorem front_take (l : List UInt8) (j : Nat) (hj : 1 ≤ j) (hl : j ≤ l.length) (n b0 b1 b2 b3 : Nat) (c1 c2 c3 : Nat) (h1 : 1 < j → c1 = b1) (h2 : 2 < j → c2 = b2) (h3 : 3 < j → c3 = b3) :
    frontN j n b0 c1 c2 c3 = min j (frontN l.length n b0 b1 b2 b3) := by
  unfold frontN
  by_cases q1 : n ≤ 1 ∨ l.length ≤ 1 ∨ ¬ (goesLo b0 ≤ b1 ∧ b1 ≤ goesHi b0)
  · rw [if_pos q1]
    by_cases j1 : 1 < j
    · have := h1 j1
      subst this
      rw [if_pos (by omega)]; (repeat' split) <;> omega
    · rw [if_pos (by omega)]; (repeat' split) <;> omega
  · rw [if_neg q1]
    by_cases j1 : 1 < j
    · have := h1 j1
      subst this
      rw [if_neg (by omega)]
      by_cases q2 : n ≤ 2 ∨ l.length ≤ 2 ∨ ¬ (128 ≤ b2 ∧ b2 ≤ 191)
      · rw [if_pos q2]
        by_cases j2 : 2 < j
        · have := h2 j2
          subst this
          rw [if_pos (by omega)]; (repeat' split) <;> omega
        · rw [if_pos (by omega)]; (repeat' split) <;> omega
      · rw [if_neg q2]
        by_cases j2 : 2 < j
        · have := h2 j2
          subst this
          rw [if_neg (by omega)]
          by_cases q3 : n ≤ 3 ∨ l.length ≤ 3 ∨ ¬ (128 ≤ b3 ∧ b3 ≤ 191)
          · rw [if_pos q3]
            by_cases j3 : 3 < j
            · have := h3 j3
              subst this
              rw [if_pos (by omega)]; (repeat' split) <;> omega
            · rw [if_pos (by omega)]; (repeat' split) <;> omega
          · rw [if_neg q3]
            by_cases j3 : 3 < j
            · have := h3 j3
              subst this
              rw [if_neg (by omega)]; (repeat' split) <;> omega
            · rw [if_pos (by omega)]; (repeat' split) <;> omega
        · rw [if_pos (by omega)]; (repeat' split) <;> omega
    · rw [if_pos (by omega)]; (repeat' split) <;> omega
/-- The front of a beginning. -/
theorem front_cut (l : List UInt8) (j : Nat) (hj : 1 ≤ j) (hl : j ≤ l.length) : front (l.take j) = (min j (front l).1, (front l).2) := by
  have hne : l ≠ [] := by intro h; subst h; simp at hl; omega
  have hne2 : l.take j ≠ [] := by intro h; have := congrArg List.length h; rw [List.length_take, List.length_nil] at this; omega
  unfold front
  rw [getD_take l j 0 (by omega)]
  by_cases h0 : szOf (l.getD 0 0).toNat = 0
  · rw [if_pos (.inr h0), if_pos (.inr h0)]; simp
  · rw [if_neg (by simp only [not_or]; exact ⟨hne2, h0⟩), if_neg (by simp only [not_or]; exact ⟨hne, h0⟩)]
    rw [List.length_take, Nat.min_eq_left hl]
    rw [front_take l j hj hl _ _ (l.getD 1 0).toNat (l.getD 2 0).toNat (l.getD 3 0).toNat _ _ _ (fun h => by rw [getD_take l j 1 h]) (fun h => by rw [getD_take l j 2 h]) (fun h => by rw [getD_take l j 3 h])]
theorem begins_at {l : List UInt8} (hl : l ≠ []) (h : ¬ Okc l) (j : Nat) (hj : j < l.length) (hj2 : j ≤ (front l).1) : begins (l.take (j + 1)) = decide (j < (front l).1) := by
  have h0 := (l.getD 0 0).toNat_lt
  have hne2 : l.take (j + 1) ≠ [] := by intro h; have := congrArg List.length h; rw [List.length_take, List.length_nil] at this; omega
  have hv : validHd (l.take (j + 1)) = false := by
    refine bad_valid hne2 ?_
    unfold Okc
    rw [front_cut l (j + 1) (by omega) (by omega)]
    simp only
    intro ⟨h1, h2⟩
    have := front_le l
    exact h ⟨h1, by omega⟩
  have hF := front_bad hl h
  have h4 := szOf_le (l.getD 0 0).toNat
  have hS := first_sz _ (by omega : (l.getD 0 0).toNat < 256)
  unfold begins
  rw [hv, Bool.or_false]
  unfold fullRune
  rw [if_neg (by rw [List.length_take]; omega), List.length_take, Nat.min_eq_left (by omega), getD_take l _ 0 (by omega)]
  rcases hF with ⟨f1, f2⟩ | ⟨f1, f2, f3⟩
  · rw [hS.1 f1, if_pos (by omega), f2]
    simp
  · have c128 : 128 ≤ (l.getD 0 0).toNat := by
      unfold szOf at f1; split at f1
      · omega
      · omega
    obtain ⟨s1, s2, s3⟩ := hS.2.1 (by omega) c128
    rw [s1, s2, s3]
    have hf := front_le l
    unfold frontN at f2
    generalize (front l).1 = k at *
    by_cases hjk : j < k
    · rw [decide_eq_true hjk, if_neg (by omega)]
      rw [if_neg ?_, decide_eq_false ?_]
      · rfl
      · intro ⟨h1, h2⟩
        rw [getD_take l _ 2 (by omega)] at h2
        split at f2
        · omega
        · split at f2
          · omega
          · omega
      · intro ⟨h1, h2⟩
        rw [getD_take l _ 1 (by omega)] at h2
        split at f2
        · omega
        · omega
    · obtain rfl : j = k := by omega
      rw [decide_eq_false hjk]
      split
      · rfl
      · split
        · rfl
        · rename_i q1 q2
          split at f2
          · rename_i q3
            exfalso
            rw [getD_take l _ 1 (by omega)] at q2
            omega
          · split at f2
            · rw [getD_take l _ 2 (by omega), decide_eq_true (by omega)]
              rfl
            · exfalso
              split at f2 <;> omega
/-- The step of runes.Good's second loop. -/
theorem goodB_at {b : List UInt8} {n : Nat} (hl : bnd b n < b.length) (h : ¬ Okc (b.drop (bnd b n))) : ∀ (k j : Nat), j ≤ (front (b.drop (bnd b n))).1 → (front (b.drop (bnd b n))).1 - j ≤ k → goodB k b (bnd b n) (bnd b n + j) = bnd b n + (front (b.drop (bnd b n))).1
  | 0, j, h1, h2 => by obtain rfl : j = (front (b.drop (bnd b n))).1 := by omega
                       rfl
  | k + 1, j, h1, h2 => by
    have hne := drop_ne' hl
    have hfl := (front_le (b.drop (bnd b n))).1
    rw [List.length_drop] at hfl
    unfold goodB
    have e : (b.take (bnd b n + j + 1)).drop (bnd b n) = (b.drop (bnd b n)).take (j + 1) := by
      rw [List.drop_take]; congr 1; omega
    rw [e]
    rcases Nat.lt_or_ge j (front (b.drop (bnd b n))).1 with h3 | h3
    · rw [if_pos ⟨by omega, by rw [begins_at hne h j (by rw [List.length_drop]; omega) h1]; exact decide_eq_true h3⟩]
      exact goodB_at hl h k (j + 1) (by omega) (by omega)
    · have hj : j = (front (b.drop (bnd b n))).1 := by omega
      rw [if_neg ?_, ← hj]
      intro ⟨h4, h5⟩
      rw [begins_at hne h j (by rw [List.length_drop]; omega) h1] at h5
      exact absurd (of_decide_eq_true h5) (by omega)
theorem goodB_end (b : List UInt8) (a : Nat) (k : Nat) : goodB k b a b.length = b.length := by
  cases k with
  | zero => rfl
  | succ k => unfold goodB; rw [if_neg (by omega)]
theorem good_whole {b : List UInt8} {n : Nat} (h : Reach b n) (he : bnd b n = b.length) : good b = b.length := by
  have h1 : goodA b.length b 0 = bnd b n := goodA_at b.length n 0 h (.inl he) (Nat.zero_le _) (by have := bnd_ge b n; omega)
  unfold good
  rw [h1, he]
  exact goodB_end b _ _
theorem good_bad {b : List UInt8} {n : Nat} (h : Reach b n) (hl : bnd b n < b.length) (hn : ¬ Okc (b.drop (bnd b n))) : good b = bnd b n + (front (b.drop (bnd b n))).1 := by
  have h1 : goodA b.length b 0 = bnd b n := goodA_at b.length n 0 h (.inr ⟨hl, hn⟩) (Nat.zero_le _) (by have := bnd_ge b n; omega)
  have hfl := (front_le (b.drop (bnd b n))).1
  rw [List.length_drop] at hfl
  unfold good
  rw [h1]
  exact goodB_at hl hn b.length 0 (Nat.zero_le _) (by omega)
end Go.Proofs.YtjmejlncomaclaaDoor.Lx
