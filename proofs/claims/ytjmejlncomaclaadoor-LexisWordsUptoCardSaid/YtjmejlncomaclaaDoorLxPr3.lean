/- gimletref10.Print writes the words with blanks between. Condition: at most 1000000000 bytes in all. -/
import Derived.Test.YtjmejlncomaclaaDoorLxPr2
namespace Go.Proofs.YtjmejlncomaclaaDoor.Lx
open Go.RowKit

def prW (a : AW) : List UInt8 := prA a.kind a.text.data.toList a.num
def bulkW (l : List AW) : Nat := (l.map fun a => a.text.size + 22).sum
/-- The numbers are ints. -/
def NumsOk (l : List AW) : Prop := ∀ a ∈ l, -9223372036854775808 ≤ a.num ∧ a.num ≤ 9223372036854775807
theorem prW_len (a : AW) (h : -9223372036854775808 ≤ a.num ∧ a.num ≤ 9223372036854775807) : (prW a).length ≤ a.text.size + 20 := by
  have := prA_len a.kind a.num a.text.data.toList h.1 h.2
  rw [← Lib.size_eq] at this
  exact this
theorem bulk_take (l : List AW) : ∀ j, bulkW (l.take j) ≤ bulkW l := by
  induction l with
  | nil => intro j; simp
  | cons a t ih =>
    intro j
    cases j with
    | zero => simp [bulkW]
    | succ j => have := ih j; simp only [bulkW, List.take_succ_cons, List.map_cons, List.sum_cons] at this ⊢; omega
theorem bulk_join (l : List AW) (h : NumsOk l) : (Lib.join (l.map prW) [32]).length ≤ bulkW l := by
  refine Nat.le_trans (join_len 32 _) ?_
  induction l with
  | nil => simp [bulkW]
  | cons a t ih =>
    have := ih fun b hb => h b (by simp [hb])
    have := prW_len a (h a (by simp))
    simp only [bulkW, List.map_cons, List.sum_cons] at *
    omega
theorem bulk_get (l : List AW) (j : Nat) (a : AW) (h : l[j]? = some a) : bulkW (l.take j) + (a.text.size + 22) ≤ bulkW l := by
  induction l generalizing j with
  | nil => simp at h
  | cons b t ih =>
    cases j with
    | zero =>
      simp at h
      subst h
      simp only [bulkW, List.take_zero, List.map_nil, List.sum_nil, List.map_cons, List.sum_cons]; omega
    | succ j =>
      have := ih j (by simpa using h)
      simp only [bulkW, List.take_succ_cons, List.map_cons, List.sum_cons] at this ⊢; omega
theorem join_next (l : List AW) (j : Nat) (a : AW) (h : l[j]? = some a) :
    Lib.join ((l.take (j + 1)).map prW) [32] = if j = 0 then prW a else Lib.join ((l.take j).map prW) [32] ++ ([32] ++ prW a) := by
  have e : l.take (j + 1) = l.take j ++ [a] := by rw [List.take_add_one, h]; rfl
  rw [e, List.map_append, List.map_singleton]
  by_cases hj : j = 0
  · subst hj; rw [if_pos rfl]; simp [Lib.join_one]
  · rw [if_neg hj]
    cases ht : (l.take j).map prW with
    | nil =>
      have := congrArg List.length ht
      have hl : j < l.length := by
        rcases Nat.lt_or_ge j l.length with h1 | h1
        · exact h1
        · rw [List.getElem?_eq_none h1] at h; cases h
      rw [List.length_map, List.length_take, List.length_nil] at this; omega
    | cons x r => simp [Lib.join_cons, Lib.joinTail]
end Go.Proofs.YtjmejlncomaclaaDoor.Lx
