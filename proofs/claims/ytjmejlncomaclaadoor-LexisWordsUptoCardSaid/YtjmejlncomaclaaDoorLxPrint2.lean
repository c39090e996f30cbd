/- Plain law: how long printed words are. No conditions. -/
import Derived.Test.YtjmejlncomaclaaDoorLxPrint
namespace Go.Proofs.YtjmejlncomaclaaDoor.Lx

theorem nd_le : ∀ k u, 1 ≤ k → u < 10 ^ k → Lib.nDigits u ≤ k := by
  intro k
  induction k with
  | zero => intro u h; omega
  | succ k ih =>
    intro u h hu
    rw [Lib.nDigits]
    split
    · omega
    · by_cases hk : k = 0
      · subst hk; simp at hu; omega
      · have := ih (u / 10) (by omega) (by rw [Nat.pow_succ] at hu; omega)
        omega
theorem itoa_len (n : Int) (h0 : -9223372036854775808 ≤ n) (h1 : n ≤ 9223372036854775807) : (Lib.itoa n).length ≤ 20 := by
  unfold Lib.itoa
  split
  · rw [List.length_cons, Lib.decDigits_length]
    have := nd_le 19 n.natAbs (by omega) (by omega)
    omega
  · rw [Lib.decDigits_length]
    have := nd_le 19 n.toNat (by omega) (by omega)
    omega
theorem prA_len (k n : Int) (s : List UInt8) (h0 : -9223372036854775808 ≤ n) (h1 : n ≤ 9223372036854775807) : (prA k s n).length ≤ s.length + 20 := by
  have := itoa_len n h0 h1
  unfold prA
  split
  · omega
  · split
    · simp only [List.length_cons, List.length_append, List.length_nil]; omega
    · omega
theorem pr1_len (x : Wd) (h : x.num ≤ 1000001) : (pr1 x).length ≤ x.text.length + 10 := by
  unfold pr1 prA
  split
  · have e : Lib.itoa (x.num : Int) = Lib.decDigits x.num := by unfold Lib.itoa; rw [if_neg (by omega)]; simp
    rw [e, Lib.decDigits_length]
    have := nd_le 7 x.num (by omega) (by omega)
    omega
  · split
    · simp only [List.length_cons, List.length_append, List.length_nil]; omega
    · omega
theorem join_len (sep : UInt8) : ∀ xs : List (List UInt8), (Lib.join xs [sep]).length ≤ (xs.map fun x => x.length + 1).sum
  | [] => by simp [Lib.join]
  | [x] => by rw [Lib.join_one]; simp
  | x :: y :: t => by
    have h := join_len sep (y :: t)
    have e : Lib.join (x :: y :: t) [sep] = x ++ ([sep] ++ Lib.join (y :: t) [sep]) := by simp [Lib.join, List.intercalate]
    rw [e, List.map_cons, List.sum_cons]
    simp only [List.length_append, List.length_singleton]
    omega
theorem word_num (L : List UInt8) : (word L).1.num ≤ 1000001 := by
  unfold word
  have := number_le (L.take (run 4 L))
  split
  · simp
  · split
    · split
      · exact this
      · split
        · exact this
        · exact this
    · split
      · split <;> simp
      · simp
theorem wordsF_num : ∀ k (q : List UInt8) p l, wordsF k q p = .ok l → ∀ y ∈ l, y.1.num ≤ 1000001
  | 0, _, _, l, h, y, hy => by cases h; cases hy
  | k + 1, q, p, l, h, y, hy => by
    rw [wordsF_succ] at h
    split at h
    · split at h
      · cases hr : wordsF k q (p + (word (q.drop p)).2.1 + run 1 (q.drop (p + (word (q.drop p)).2.1))) with
        | error e => rw [hr] at h; cases h
        | ok l' =>
          rw [hr] at h
          cases h
          rcases List.mem_cons.1 hy with rfl | hy
          · exact word_num _
          · exact wordsF_num k q _ l' hr y hy
      · cases h
    · cases h; cases hy
theorem words_num {q : List UInt8} {l : List (Wd × Nat)} (h : words q = .ok l) : ∀ y ∈ l, y.1.num ≤ 1000001 := by
  unfold words at h
  split at h
  · cases h
  · cases hw : wordsF (q.length + 1) q (run 1 q) with
    | error e => rw [hw] at h; cases h
    | ok l' => rw [hw] at h; cases h; exact wordsF_num _ q _ _ hw
theorem cover_sum (q : List UInt8) : ∀ (l : List (Wd × Nat)) p, p ≤ q.length → Cover q p l → (∀ y ∈ l, y.1.num ≤ 1000001) → ((l.map fun y => pr1 y.1).map fun x => x.length + 1).sum + 12 * p ≤ 12 * q.length
  | [], p, hp, _, _ => by simp; omega
  | (x, s) :: t, p, hp, h, hn => by
    obtain ⟨h1, h2, _, n, hw, hc⟩ := h
    have hw2 := hw.2.1
    have ih := cover_sum q t (s + n) hw2 hc fun y hy => hn y (by simp [hy])
    have hl := pr1_len x (hn (x, s) (by simp))
    have hx : x.text.length ≤ n := by
      rcases hw.2.2 with ⟨_, h3, _⟩ | ⟨_, _, _, h3⟩ | ⟨_, h3, _⟩
      · omega
      · rw [h3]; exact Nat.zero_le _
      · omega
    have := hw.1
    simp only [List.map_cons, List.sum_cons]
    omega
theorem printed_len {q : List UInt8} {l : List (Wd × Nat)} (h : words q = .ok l) : (Lib.join (l.map fun y => pr1 y.1) [32]).length ≤ 12 * q.length := by
  have h1 := join_len 32 (l.map fun y => pr1 y.1)
  have h2 := cover_sum q l 0 (Nat.zero_le _) (words_cover q l h) (words_num h)
  omega
end Go.Proofs.YtjmejlncomaclaaDoor.Lx
