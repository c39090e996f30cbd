/- Plain law: what is mended, what is good, by the document's tables. No conditions. -/
import Derived.Test.YtjmejlncomaclaaDoorLxRef
namespace Go.Proofs.YtjmejlncomaclaaDoor.Lx

/-- gimletref01.Front at the beginning of some bytes. -/
def front (l : List UInt8) : Nat × Nat :=
  if l = [] ∨ szOf (l.getD 0 0).toNat = 0 then (0, 0) else (frontN l.length (szOf (l.getD 0 0).toNat) (l.getD 0 0).toNat (l.getD 1 0).toNat (l.getD 2 0).toNat (l.getD 3 0).toNat, szOf (l.getD 0 0).toNat)
/-- A character stands at the beginning. -/
def Okc (l : List UInt8) : Prop := (front l).2 ≠ 0 ∧ (front l).1 = (front l).2
instance (l : List UInt8) : Decidable (Okc l) := inferInstanceAs (Decidable (_ ∧ _))
theorem szOf_le (x : Nat) : szOf x ≤ 4 := by unfold szOf; (repeat' split) <;> omega
theorem frontN_le (m n b0 b1 b2 b3 : Nat) (hn : 1 ≤ n) (hm : 1 ≤ m) : 1 ≤ frontN m n b0 b1 b2 b3 ∧ frontN m n b0 b1 b2 b3 ≤ n ∧ frontN m n b0 b1 b2 b3 ≤ m := by
  unfold frontN; (repeat' split) <;> omega
theorem ne_len {l : List UInt8} (h : l ≠ []) : 1 ≤ l.length := by
  cases l with
  | nil => exact absurd rfl h
  | cons a t => simp
theorem front_le (l : List UInt8) : (front l).1 ≤ l.length ∧ (front l).1 ≤ (front l).2 ∧ (front l).2 ≤ 4 ∧ ((front l).2 ≠ 0 → 1 ≤ (front l).1) := by
  unfold front
  split
  · simp
  · rename_i h
    simp only [not_or] at h
    have := frontN_le l.length (szOf (l.getD 0 0).toNat) (l.getD 0 0).toNat (l.getD 1 0).toNat (l.getD 2 0).toNat (l.getD 3 0).toNat (by omega) (ne_len h.1)
    have := szOf_le (l.getD 0 0).toNat
    simp only
    omega
theorem okc_iff (l : List UInt8) : Okc l ↔ l ≠ [] ∧ szOf (l.getD 0 0).toNat ≠ 0 ∧ frontN l.length (szOf (l.getD 0 0).toNat) (l.getD 0 0).toNat (l.getD 1 0).toNat (l.getD 2 0).toNat (l.getD 3 0).toNat = szOf (l.getD 0 0).toNat := by
  unfold Okc front
  by_cases h : l = [] ∨ szOf (l.getD 0 0).toNat = 0
  · rw [if_pos h]
    simp only [ne_eq, not_true_eq_false, false_and, false_iff]
    rintro ⟨h1, h2, _⟩
    rcases h with h | h
    · exact h1 h
    · exact h2 h
  · rw [if_neg h]
    simp only [not_or] at h
    simp only [h.1, h.2, ne_eq, not_false_eq_true, true_and]
theorem dec_front (l : List UInt8) (hl : l ≠ []) : dec l = if Okc l then (valN (szOf (l.getD 0 0).toNat) (l.getD 0 0).toNat (l.getD 1 0).toNat (l.getD 2 0).toNat (l.getD 3 0).toNat, szOf (l.getD 0 0).toNat) else (65533, 1) := by
  have k0 := (l.getD 0 0).toNat_lt
  have k1 := (l.getD 1 0).toNat_lt
  have k2 := (l.getD 2 0).toNat_lt
  have k3 := (l.getD 3 0).toNat_lt
  unfold dec
  rw [decodeN_front _ _ _ _ _ (ne_len hl) (by omega) (by omega) (by omega) (by omega)]
  by_cases h : Okc l
  · rw [if_pos h, if_pos ((okc_iff l).1 h).2]
  · rw [if_neg h, if_neg fun h2 => h ((okc_iff l).2 ⟨hl, h2⟩)]
theorem okc_ne {l : List UInt8} (h : Okc l) : l ≠ [] := ((okc_iff l).1 h).1
theorem okc_front {l : List UInt8} (h : Okc l) : (front l).2 = szOf (l.getD 0 0).toNat ∧ (front l).1 = szOf (l.getD 0 0).toNat ∧ szOf (l.getD 0 0).toNat ≤ l.length ∧ 1 ≤ szOf (l.getD 0 0).toNat := by
  have h1 := (okc_iff l).1 h
  have h2 := frontN_le l.length (szOf (l.getD 0 0).toNat) (l.getD 0 0).toNat (l.getD 1 0).toNat (l.getD 2 0).toNat (l.getD 3 0).toNat (by have := h1.2.1; omega) (ne_len h1.1)
  have h3 := h1.2.2
  unfold front
  rw [if_neg (by simp only [not_or]; exact ⟨h1.1, h1.2.1⟩)]
  refine ⟨rfl, h3, ?_, ?_⟩
  · rw [← h3]; exact h2.2.2
  · rw [← h3]; exact h2.1
theorem dec_ok {l : List UInt8} (h : Okc l) : (dec l).2 = (front l).2 := by
  rw [dec_front l (okc_ne h), if_pos h, (okc_front h).1]
theorem dec_bad {l : List UInt8} (hl : l ≠ []) (h : ¬ Okc l) : dec l = (65533, 1) := by rw [dec_front l hl, if_neg h]

theorem byte_of (x : UInt8) (n : Nat) (h : n = x.toNat) : UInt8.ofNat n = x := by subst h; simp
/-- What is a character is written as it stood. -/
theorem enc_ok {l : List UInt8} (h : Okc l) : (Utf8.encode (dec l).1).data.toList = l.take (dec l).2 := by
  have hne := okc_ne h
  have hk := ((okc_iff l).1 h)
  have hlen := (okc_front h).2.2.1
  have k0 := (l.getD 0 0).toNat_lt
  have k1 := (l.getD 1 0).toNat_lt
  have k2 := (l.getD 2 0).toNat_lt
  have k3 := (l.getD 3 0).toNat_lt
  rw [dec_front l hne, if_pos h]
  simp only
  obtain ⟨_, hs, hf⟩ := hk
  unfold frontN at hf
  by_cases c1 : (l.getD 0 0).toNat < 128
  · have e : szOf (l.getD 0 0).toNat = 1 := by unfold szOf; rw [if_pos c1]
    rw [e]
    have hv : Utf8.valid ((valN 1 (l.getD 0 0).toNat (l.getD 1 0).toNat (l.getD 2 0).toNat (l.getD 3 0).toNat : Nat) : Int) = true := by
      simp only [valN, Utf8.valid, Bool.or_eq_true, Bool.and_eq_true, decide_eq_true_eq, ↓reduceIte]; omega
    unfold Utf8.encode
    simp only [hv, ↓reduceIte, Int.toNat_natCast]
    simp only [valN, ↓reduceIte]
    rw [if_pos c1]
    cases l with
    | nil => exact absurd rfl hne
    | cons a t => simp
  · by_cases c2 : 194 ≤ (l.getD 0 0).toNat ∧ (l.getD 0 0).toNat ≤ 223
    · have e : szOf (l.getD 0 0).toNat = 2 := by unfold szOf; rw [if_neg c1, if_pos c2]
      rw [e] at hf hlen ⊢
      obtain ⟨q0, q1⟩ : 128 ≤ (l.getD 1 0).toNat ∧ (l.getD 1 0).toNat ≤ 191 := by
        split at hf
        · omega
        · rename_i hx
          unfold goesLo goesHi at hx
          rw [if_neg (by omega), if_neg (by omega), if_neg (by omega), if_neg (by omega)] at hx
          omega
      match l, hlen with
      | a :: b :: t, _ =>
        simp only [List.getD_cons_zero, List.getD_cons_succ] at *
        have hv : Utf8.valid (((a.toNat - 192) * 64 + (b.toNat - 128) : Nat) : Int) = true := by
          simp only [Utf8.valid, Bool.or_eq_true, Bool.and_eq_true, decide_eq_true_eq]; omega
        simp only [valN]
        rw [if_neg (by omega), if_pos trivial]
        unfold Utf8.encode
        simp only [hv, ↓reduceIte, Int.toNat_natCast]
        rw [if_neg (by omega), if_pos (by omega)]
        simp only [List.take_succ_cons, List.take_zero]
        rw [byte_of a _ (by omega), byte_of b _ (by omega)]
    · by_cases c3 : 224 ≤ (l.getD 0 0).toNat ∧ (l.getD 0 0).toNat ≤ 239
      · have e : szOf (l.getD 0 0).toNat = 3 := by unfold szOf; rw [if_neg c1, if_neg c2, if_pos c3]
        rw [e] at hf hlen ⊢
        have q : (goesLo (l.getD 0 0).toNat ≤ (l.getD 1 0).toNat ∧ (l.getD 1 0).toNat ≤ goesHi (l.getD 0 0).toNat) ∧ (128 ≤ (l.getD 2 0).toNat ∧ (l.getD 2 0).toNat ≤ 191) := by
          split at hf
          · omega
          · rename_i hx
            split at hf
            · omega
            · rename_i hy
              exact ⟨by omega, by omega⟩
        match l, hlen with
        | a :: b :: c :: t, _ =>
          simp only [List.getD_cons_zero, List.getD_cons_succ] at *
          have hh : ((a.toNat - 224) * 64 + (b.toNat - 128)) * 64 + (c.toNat - 128) ≥ 2048 ∧ (((a.toNat - 224) * 64 + (b.toNat - 128)) * 64 + (c.toNat - 128) < 55296 ∨ 57344 ≤ ((a.toNat - 224) * 64 + (b.toNat - 128)) * 64 + (c.toNat - 128)) ∧ 128 ≤ b.toNat ∧ b.toNat ≤ 191 := by
            unfold goesLo goesHi at q; (repeat' split at q) <;> omega
          have hv : Utf8.valid ((((a.toNat - 224) * 64 + (b.toNat - 128)) * 64 + (c.toNat - 128) : Nat) : Int) = true := by
            simp only [Utf8.valid, Bool.or_eq_true, Bool.and_eq_true, decide_eq_true_eq]; omega
          simp only [valN]
          rw [if_neg (by omega), if_neg (by omega), if_pos trivial]
          unfold Utf8.encode
          simp only [hv, ↓reduceIte, Int.toNat_natCast]
          rw [if_neg (by omega), if_neg (by omega), if_pos (by omega)]
          simp only [List.take_succ_cons, List.take_zero]
          rw [byte_of a _ (by omega), byte_of b _ (by omega), byte_of c _ (by omega)]
      · have c4 : 240 ≤ (l.getD 0 0).toNat ∧ (l.getD 0 0).toNat ≤ 244 := by
          unfold szOf at hs; rw [if_neg c1, if_neg c2, if_neg c3] at hs; split at hs
          · assumption
          · exact absurd rfl hs
        have e : szOf (l.getD 0 0).toNat = 4 := by unfold szOf; rw [if_neg c1, if_neg c2, if_neg c3, if_pos c4]
        rw [e] at hf hlen ⊢
        have q : (goesLo (l.getD 0 0).toNat ≤ (l.getD 1 0).toNat ∧ (l.getD 1 0).toNat ≤ goesHi (l.getD 0 0).toNat) ∧ (128 ≤ (l.getD 2 0).toNat ∧ (l.getD 2 0).toNat ≤ 191) ∧ (128 ≤ (l.getD 3 0).toNat ∧ (l.getD 3 0).toNat ≤ 191) := by
          split at hf
          · omega
          · rename_i hx
            split at hf
            · omega
            · rename_i hy
              split at hf
              · omega
              · exact ⟨by omega, by omega, by omega⟩
        match l, hlen with
        | a :: b :: c :: d :: t, _ =>
          simp only [List.getD_cons_zero, List.getD_cons_succ] at *
          have hh : (((a.toNat - 240) * 64 + (b.toNat - 128)) * 64 + (c.toNat - 128)) * 64 + (d.toNat - 128) ≥ 65536 ∧ (((a.toNat - 240) * 64 + (b.toNat - 128)) * 64 + (c.toNat - 128)) * 64 + (d.toNat - 128) ≤ 1114111 ∧ 128 ≤ b.toNat ∧ b.toNat ≤ 191 := by
            unfold goesLo goesHi at q; (repeat' split at q) <;> omega
          have hv : Utf8.valid (((((a.toNat - 240) * 64 + (b.toNat - 128)) * 64 + (c.toNat - 128)) * 64 + (d.toNat - 128) : Nat) : Int) = true := by
            simp only [Utf8.valid, Bool.or_eq_true, Bool.and_eq_true, decide_eq_true_eq]; omega
          simp only [valN]
          rw [if_neg (by omega), if_neg (by omega), if_neg (by omega)]
          unfold Utf8.encode
          simp only [hv, ↓reduceIte, Int.toNat_natCast]
          rw [if_neg (by omega), if_neg (by omega), if_neg (by omega)]
          simp only [List.take_succ_cons, List.take_zero]
          rw [byte_of a _ (by omega), byte_of b _ (by omega), byte_of c _ (by omega), byte_of d _ (by omega)]

theorem mend_ok {l : List UInt8} (h : Okc l) : mend l = l ↔ mend (l.drop (dec l).2) = l.drop (dec l).2 := by
  rw [mend_cons l (okc_ne h), enc_ok h]
  constructor
  · intro h2
    have h3 := congrArg (List.drop (dec l).2) h2
    have hle := dec_le l (okc_ne h)
    rw [List.drop_append_of_le_length (by rw [List.length_take]; omega)] at h3
    rw [show (l.take (dec l).2).drop (dec l).2 = [] by simp, List.nil_append] at h3
    exact h3
  · intro h2
    rw [h2, List.take_append_drop]
theorem mend_bad {l : List UInt8} (hl : l ≠ []) (h : ¬ Okc l) : mend l ≠ l := by
  intro h2
  have h3 := congrArg List.length h2
  rw [mend_cons l hl, dec_bad hl h, List.length_append, encode_size] at h3
  have h4 := mend_len _ (l.drop 1) (Nat.le_refl _)
  have := ne_len hl
  rw [List.length_drop] at h4
  simp at h3
  simp at h4
  omega
end Go.Proofs.YtjmejlncomaclaaDoor.Lx
