/- Plain law: the words stand one behind the other and between them are blanks alone. No conditions. -/
import Derived.Test.YtjmejlncomaclaaDoorLxPlain
namespace Go.Proofs.YtjmejlncomaclaaDoor.Lx

def blankB (b : UInt8) : Prop := b.toNat = 32 ∨ b.toNat = 9 ∨ b.toNat = 10 ∨ b.toNat = 13
def digitB (b : UInt8) : Prop := 48 ≤ b.toNat ∧ b.toNat ≤ 57
theorem run_low (c : Nat) (hc : ∀ r, isC c r = true → r < 128) : ∀ k (l : List UInt8), l.length ≤ k → (∀ j, j < run c l → isC c (l.getD j 0).toNat = true) ∧ (run c l < l.length → isC c (l.getD (run c l) 0).toNat = false) := by
  intro k
  induction k with
  | zero => intro l h; cases l with
    | nil => exact ⟨fun j hj => by simp [run_nil] at hj, fun h => by simp [run_nil] at h⟩
    | cons x t => simp at h
  | succ k ih =>
    intro l h
    cases l with
    | nil => exact ⟨fun j hj => by simp [run_nil] at hj, fun h => by simp [run_nil] at h⟩
    | cons x t =>
      rw [run_cons c _ (by simp)]
      by_cases hx : isC c (dec (x :: t)).1 = true
      · rw [if_pos hx]
        obtain ⟨b', t', he, hb, h2⟩ := dec_low (x :: t) (by simp) (hc _ hx)
        cases he
        rw [h2, List.drop_succ_cons, List.drop_zero]
        obtain ⟨i1, i2⟩ := ih t (by simpa using h)
        refine ⟨fun j hj => ?_, fun hl => ?_⟩
        · cases j with
          | zero => simp only [List.getD_cons_zero]; rw [hb]; exact hx
          | succ j => simp only [List.getD_cons_succ]; exact i1 j (by omega)
        · rw [Nat.add_comm 1]
          simp only [List.getD_cons_succ]
          exact i2 (by simp at hl; omega)
      · rw [if_neg hx]
        refine ⟨fun j hj => by omega, fun _ => ?_⟩
        simp only [List.getD_cons_zero]
        by_cases hl : x.toNat < 128
        · rw [dec_ascii x t hl] at hx
          simpa using hx
        · cases hh : isC c x.toNat with
          | false => rfl
          | true => exact absurd (hc _ hh) hl
theorem run_blank (l : List UInt8) (j : Nat) (h : j < run 1 l) : blankB (l.getD j 0) := by
  have := (run_low 1 (fun r hr => by have := (isC1 r).1 hr; omega) _ l (Nat.le_refl _)).1 j h
  have := (isC1 _).1 this
  unfold blankB; omega
theorem run_digit (l : List UInt8) : (∀ j, j < run 4 l → digitB (l.getD j 0)) ∧ (run 4 l < l.length → ¬ digitB (l.getD (run 4 l) 0)) := by
  have := run_low 4 (fun r hr => by have := (isC4 r).1 hr; omega) _ l (Nat.le_refl _)
  refine ⟨fun j hj => (isC4 _).1 (this.1 j hj), fun h hd => ?_⟩
  have h2 := this.2 h
  rw [(isC4 _).2 hd] at h2
  cases h2

/-- What stands at a place s, n bytes long, as the word x. -/
def WordAt (q : List UInt8) (s n : Nat) (x : Wd) : Prop :=
  1 ≤ n ∧ s + n ≤ q.length ∧
  ((x.kind = 1 ∧ n = x.text.length + 2 ∧ q.getD s 0 = q.getD (s + n - 1) 0 ∧ (q.drop (s + 1)).take x.text.length = x.text) ∨
   (x.kind = 2 ∧ (∀ j, j < n → digitB (q.getD (s + j) 0)) ∧ (s + n < q.length → ¬ digitB (q.getD (s + n) 0)) ∧ x.text = []) ∨
   ((x.kind = 0 ∨ x.kind = 3) ∧ n = x.text.length ∧ (q.drop s).take n = x.text))
/-- Words cover the bytes from p on, but for blanks. -/
def Cover (q : List UInt8) : Nat → List (Wd × Nat) → Prop
  | p, [] => ∀ j, p ≤ j → j < q.length → blankB (q.getD j 0)
  | p, (x, s) :: t => p ≤ s ∧ s ≤ q.length ∧ (∀ j, p ≤ j → j < s → blankB (q.getD j 0)) ∧ ∃ n, WordAt q s n x ∧ Cover q (s + n) t

theorem getD_drop (q : List UInt8) (s j : Nat) : (q.drop s).getD j 0 = q.getD (s + j) 0 := by simp [List.getD_eq_getElem?_getD, List.getElem?_drop]
theorem word_at (q : List UInt8) (s : Nat) (hs : s < q.length) (ok : (word (q.drop s)).2.2 = true) : WordAt q s (word (q.drop s)).2.1 (word (q.drop s)).1 := by
  have hne : q.drop s ≠ [] := by intro h1; have := congrArg List.length h1; simp at this; omega
  have hle := word_le _ hne ok
  rw [List.length_drop] at hle
  refine ⟨hle.1, by omega, ?_⟩
  revert ok hle
  unfold word
  split
  · intro _ hle
    refine .inr (.inr ⟨.inl rfl, ?_, rfl⟩)
    simp only at hle ⊢
    rw [List.length_take, List.length_drop]; omega
  · split
    · rename_i h4
      split
      · intro h; simp at h
      · split
        · intro h; simp at h
        · intro _ hle
          obtain ⟨h5, h6⟩ := run_digit (q.drop s)
          refine .inr (.inl ⟨rfl, fun j hj => ?_, fun h => ?_, rfl⟩)
          · rw [← getD_drop]; exact h5 j hj
          · rw [← getD_drop]; exact h6 (by rw [List.length_drop]; simp only at h; omega)
    · split
      · rename_i hq
        split
        · intro h; simp at h
        · rename_i e he
          intro _ hle
          obtain ⟨h7, h8⟩ := runeAt_some _ (by omega) _ _ _ (Nat.le_refl _) he
          obtain ⟨b, t, hb, hbv, h2⟩ := dec_low (q.drop s) hne (by omega)
          have hlen : ((q.drop s).drop 1).length = q.length - s - 1 := by simp; omega
          rw [hlen] at h7
          have htl : (((q.drop s).drop 1).take e).length = e := by rw [List.length_take, hlen]; omega
          refine .inl ⟨rfl, by rw [htl], ?_, ?_⟩
          · simp only
            have e0 : q.getD s 0 = b := by
              have := getD_drop q s 0
              rw [hb] at this
              simpa using this.symm
            have e1 : q.getD (s + (e + 2) - 1) 0 = ((q.drop s).drop 1).getD e 0 := by
              rw [getD_drop, getD_drop]
              congr 1
              omega
            rw [e0, e1]
            apply UInt8.toNat_inj.1
            rw [hbv, h8]
          · rw [htl, List.drop_drop]
      · intro ok hle
        refine .inr (.inr ⟨.inr rfl, rfl, ?_⟩)
        exact (sign_take _).symm
theorem wordsF_cover (q : List UInt8) : ∀ k p s l, wordsF k q s = .ok l → q.length - s < k → p ≤ s → s ≤ q.length → (∀ j, p ≤ j → j < s → blankB (q.getD j 0)) → Cover q p l := by
  intro k
  induction k with
  | zero => intro p s l _ h; omega
  | succ k ih =>
    intro p s l h hk hps hsl hb
    rw [wordsF_succ] at h
    by_cases hlt : s < q.length
    · rw [if_pos hlt] at h
      cases ok : (word (q.drop s)).2.2 with
      | false => rw [ok] at h; simp at h
      | true =>
        rw [ok, if_pos rfl] at h
        have hwa := word_at q s hlt ok
        have h1 := hwa.1
        have h2 := hwa.2.1
        have hr := run_le 1 _ (q.drop (s + (word (q.drop s)).2.1)) (Nat.le_refl _)
        rw [List.length_drop] at hr
        cases hw : wordsF k q (s + (word (q.drop s)).2.1 + run 1 (q.drop (s + (word (q.drop s)).2.1))) with
        | error e => rw [hw] at h; simp [Except.map] at h
        | ok l' =>
          rw [hw] at h
          simp only [Except.map, Except.ok.injEq] at h
          subst h
          refine ⟨hps, hsl, hb, _, hwa, ih (s + (word (q.drop s)).2.1) _ l' hw (by omega) (by omega) (by omega) (fun j hj1 hj2 => ?_)⟩
          have := run_blank (q.drop (s + (word (q.drop s)).2.1)) (j - (s + (word (q.drop s)).2.1)) (by omega)
          rw [getD_drop] at this
          rwa [show s + (word (q.drop s)).2.1 + (j - (s + (word (q.drop s)).2.1)) = j by omega] at this
    · rw [if_neg hlt] at h
      cases h
      intro j hj1 hj2
      exact hb j hj1 (by omega)
theorem words_cover (q : List UInt8) (l : List (Wd × Nat)) (h : words q = .ok l) : Cover q 0 l := by
  unfold words at h
  split at h
  · cases h
  · cases hw : wordsF (q.length + 1) q (run 1 q) with
    | error e => rw [hw] at h; cases h
    | ok l' =>
      rw [hw] at h
      cases h
      have hr := run_le 1 _ q (Nat.le_refl _)
      exact wordsF_cover q _ 0 (run 1 q) l hw (by omega) (Nat.zero_le _) hr (fun j _ hj => run_blank q j hj)
end Go.Proofs.YtjmejlncomaclaaDoor.Lx
