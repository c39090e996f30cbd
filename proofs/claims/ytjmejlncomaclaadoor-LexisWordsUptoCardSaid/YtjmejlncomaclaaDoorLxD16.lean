/- gimletref10.Words answers as lexis.Words' plain function says. Condition: at most 1000000000 bytes. -/
import Derived.Test.YtjmejlncomaclaaDoorLxD14
import Derived.Test.YtjmejlncomaclaaDoorLxD15
namespace Go.Proofs.YtjmejlncomaclaaDoor.Lx
open Go.RowKit

/-- What the decoder holds behind i bytes. -/
def TK (q : List UInt8) (n0 i : Nat) (t : List UInt8) : Prop := ∃ m, m ≤ n0 ∧ bnd q m ≤ i ∧ t = (q.drop (bnd q m)).take (i - bnd q m) ∧ (m < n0 → i < bnd q (m + 1))
/-- Where the good bytes end. -/
def Stop (q : List UInt8) (n0 : Nat) : Prop := Reach q n0 ∧ (bnd q n0 = q.length ∨ (bnd q n0 < q.length ∧ ¬ Okc (q.drop (bnd q n0))))
theorem Stop.good {q : List UInt8} {n0 : Nat} (h : Stop q n0) : (bnd q n0 = q.length ∧ Lx.good q = q.length ∧ mend q = q) ∨ (bnd q n0 < q.length ∧ ¬ Okc (q.drop (bnd q n0)) ∧ Lx.good q = bnd q n0 + (front (q.drop (bnd q n0))).1 ∧ mend q ≠ q) := by
  rcases h.2 with h2 | ⟨h2, h3⟩
  · exact .inl ⟨h2, good_whole h.1 h2, h.1.whole h2⟩
  · exact .inr ⟨h2, h3, good_bad h.1 h2 h3, h.1.bad h2 h3⟩
theorem take_snoc (l : List UInt8) (j : Nat) (h : j < l.length) : l.take j ++ [l.getD j 0] = l.take (j + 1) := by
  rw [List.take_succ_eq_append_getElem h]
  simp [List.getD_eq_getElem?_getD, List.getElem?_eq_getElem h]
theorem tk_step {q : List UInt8} {n0 i : Nat} {t : List UInt8} (hs : Stop q n0) (h : TK q n0 i t) (hi : i < good q) : ∃ n, front (t ++ [q.getD i 0]) = (t.length + 1, n) ∧ t.length + 1 ≤ n ∧ t.length ≤ 4 ∧ TK q n0 (i + 1) (takenOf t (q.getD i 0) n) := by
  obtain ⟨m, hm, hmi, ht, hlt⟩ := h
  have hgl : good q ≤ q.length := by
    rcases hs.good with ⟨_, h, _⟩ | ⟨h1, _, h2, _⟩
    · omega
    · have := (front_le (q.drop (bnd q n0))).1
      rw [List.length_drop] at this; omega
  have hll : (q.drop (bnd q m)).length = q.length - bnd q m := List.length_drop
  have htl : t.length = i - bnd q m := by rw [ht, List.length_take]; omega
  have hx : t ++ [q.getD i 0] = (q.drop (bnd q m)).take (i - bnd q m + 1) := by
    rw [ht, ← take_snoc _ _ (by omega), getD_drop, show bnd q m + (i - bnd q m) = i by omega]
  have hc := front_cut (q.drop (bnd q m)) (i - bnd q m + 1) (by omega) (by omega)
  have hf4 := front_le (q.drop (bnd q m))
  rcases Nat.lt_or_ge m n0 with hmn | hmn
  · obtain ⟨hbl, ho⟩ := hs.1 m hmn
    have hd := dec_ok ho
    have hb := bnd_succ q m
    have hl := hlt hmn
    refine ⟨(front (q.drop (bnd q m))).2, ?_, ?_, ?_, ?_⟩
    · rw [hx, hc, htl, ho.2]
      congr 1; omega
    · omega
    · omega
    · unfold takenOf
      by_cases he : t.length + 1 = (front (q.drop (bnd q m))).2
      · rw [if_pos he]
        refine ⟨m + 1, by omega, by omega, ?_, fun h => ?_⟩
        · rw [show i + 1 - bnd q (m + 1) = 0 by omega]; rfl
        · have := bnd_lt q (m + 1); omega
      · rw [if_neg he]
        exact ⟨m, hm, by omega, by rw [hx]; congr 1; omega, fun h => by omega⟩
  · obtain rfl : m = n0 := by omega
    rcases hs.good with ⟨h1, h2, _⟩ | ⟨h1, h2, h3, _⟩
    · omega
    · have hk : (front (q.drop (bnd q m))).1 < (front (q.drop (bnd q m))).2 := by
        unfold Okc at h2; omega
      refine ⟨(front (q.drop (bnd q m))).2, ?_, ?_, ?_, ?_⟩
      · rw [hx, hc, htl]
        congr 1; omega
      · omega
      · omega
      · unfold takenOf
        rw [if_neg (by omega)]
        exact ⟨m, hm, by omega, by rw [hx]; congr 1; omega, fun h => by omega⟩
theorem tk_end {q : List UInt8} {n0 : Nat} {t : List UInt8} (hs : Stop q n0) (h : TK q n0 (good q) t) : (mend q = q ∧ t = [] ∧ good q = q.length) ∨ (mend q ≠ q ∧ (good q < q.length ∨ (good q = q.length ∧ t ≠ []))) := by
  obtain ⟨m, hm, hmi, ht, hlt⟩ := h
  rcases hs.good with ⟨h1, h2, h3⟩ | ⟨h1, h2, h3, h4⟩
  · have hmn : m = n0 := by
      rcases Nat.lt_or_ge m n0 with h | h
      · have := hlt h; have := bnd_mono q (m + 1) n0 h; omega
      · omega
    subst hmn
    left
    exact ⟨h3, by rw [ht, h2, h1, Nat.sub_self]; rfl, h2⟩
  · right
    have hmn : m = n0 := by
      rcases Nat.lt_or_ge m n0 with h | h
      · have := hlt h; have := bnd_mono q (m + 1) n0 h; omega
      · omega
    subst hmn
    have hfl := (front_le (q.drop (bnd q m))).1
    rw [List.length_drop] at hfl
    refine ⟨h4, ?_⟩
    rcases Nat.lt_or_ge (good q) q.length with h | h
    · exact .inl h
    · right
      refine ⟨by omega, fun he => ?_⟩
      rw [he] at ht
      have := congrArg List.length ht
      rw [List.length_take, List.length_drop] at this
      simp at this
      omega
theorem skip_blank (q : List UInt8) (i : Nat) (h : i < (chars q).length) (hb : isC 1 (runeN q i) = true) : skip q (bnd q i) = skip q (bnd q (i + 1)) := by
  unfold skip
  rw [run_next 1 q i h, if_pos hb]
  have := bnd_lt q i
  omega
theorem skip_word (q : List UInt8) (i : Nat) (h : i < (chars q).length) (hb : isC 1 (runeN q i) = false) : skip q (bnd q i) = bnd q i := by
  unfold skip
  rw [run_next 1 q i h, if_neg (by rw [hb]; simp)]
  rfl
/-- What gimletref10.Words answers, as it lies. -/
def RefWordsAns (q : List UInt8) (w : World) (e : Ending) (w' : World) : Prop :=
  match words q with
  | .ok l => ∃ v, e = .returned (.tuple #[v, .agg #[.int .i64 0, .int .i64 0, .int .i64 0, .int .i64 0], .int .i64 0]) ∧ w'.ownsRow w.heap.size 37 7 v l.length (wdRow q l) ∧ Below w.heap.size w w'
  | .error (p, why) => e = .returned (.tuple #[.slice none 0 0, plV (place q p), .int .i64 why]) ∧ Below w.heap.size w w'
theorem ownsRow_base {w : World} {B B' : Nat} {T : TypeId} {size : Nat} {v : Value} {n : Nat} {xs : List Value} (h : w.ownsRow B T size v n xs) (hb : B' ≤ B) : w.ownsRow B' T size v n xs := by
  obtain ⟨h1, h2⟩ := h
  refine ⟨h1, ?_⟩
  rcases h2 with h2 | ⟨g, cap, cur, a1, a2, a3⟩
  · exact .inl h2
  · exact .inr ⟨g, cap, cur, a1, Nat.le_trans hb a2, a3⟩
set_option maxRecDepth 100000 in
set_option maxHeartbeats 8000000 in
/-- gimletref10.Words, of no bytes. -/
theorem refwords_nil (w : World) : Calls Tryd.prog 11 #[.slice none 0 0] w (RefWordsAns [] w) := by
  have hG := fun W => refgood_any (.slice none 0 0) [] W (.inl ⟨rfl, rfl⟩) (by simp)
  have hC := fun W => chars_any (.slice none 0 0) [] W (.inl ⟨rfl, rfl⟩) (by simp)
  have hcv := fun W => run_convert_bytes_nil (P := Tryd.prog) W 22 5 Tryd.underlying22 Tryd.underlying5 0 0 9 Tryd.underlying9
  rw [show good [] = 0 from rfl] at hG
  rw [show (chars []).length = 0 from rfl] at hC
  go_enter Tryd.func11, Tryd.ntmps11
  go_wp2_with fail
  refine (hG _).mono ?_
  rintro e w1 ⟨rfl, rfl⟩
  go_wp2_with fail
  refine wp_loop_rounds 1 ?_
  rw [rounds_succ]
  go_wp2_with fail
  refine (hC _).mono ?_
  rintro e w2 ⟨u, rfl, hown, hb2⟩
  have hR := ((Blk.new w #[.int .i64 0, .int .i64 0, .int .i64 0, .int .i64 0] 35).alloc (.cells #[.slice none 0 0, .bool false] 67)).below hb2
  have hb0 : Below w.heap.size w w2 := (((Below.refl _ w).alloc (Nat.le_refl _) _).alloc (by simp) _).trans (hb2.mono (by simp; omega))
  obtain ⟨o, c, rfl⟩ : ∃ o c, u = .slice o 0 c := by
    rcases hown.2 with ⟨h, _⟩ | ⟨g, cap, cur, h, _⟩
    · exact ⟨_, _, h⟩
    · exact ⟨_, _, h⟩
  clear hown hb2 hG hC
  have o0 := hR.cell 0 _ rfl
  have o1 := hR.cell 1 _ rfl
  have o2 := hR.cell 2 _ rfl
  have o3 := hR.cell 3 _ rfl
  have rf := hR.free
  go_wp2_with fail
  refine wp_loop_rounds 1 ?_
  rw [rounds_succ]
  go_wp2_with fail
  have B9 := (((hR.set 0 (.int .i64 0)).set 1 (.int .i64 0)).set 2 (.int .i64 0)).set 3 (.int .i64 0)
  have hb9 := (((hb0.setCell (p := ⟨w.heap.size, 0, none⟩) (Nat.le_refl _) (.int .i64 0)).setCell (p := ⟨w.heap.size, 1, none⟩) (Nat.le_refl _) (.int .i64 0)).setCell (p := ⟨w.heap.size, 2, none⟩) (Nat.le_refl _) (.int .i64 0)).setCell (p := ⟨w.heap.size, 3, none⟩) (Nat.le_refl _) (.int .i64 0)
  generalize ((((w2.setCell ⟨w.heap.size, 0, none⟩ (.int .i64 0)).setCell ⟨w.heap.size, 1, none⟩ (.int .i64 0)).setCell ⟨w.heap.size, 2, none⟩ (.int .i64 0)).setCell ⟨w.heap.size, 3, none⟩ (.int .i64 0)) = w9 at B9 hb9 ⊢
  have q0 := B9.cell 0 (.int .i64 0) rfl
  have q1 := B9.cell 1 (.int .i64 0) rfl
  have q2 := B9.cell 2 (.int .i64 0) rfl
  have q3 := B9.cell 3 (.int .i64 0) rfl
  refine bodyPost_ret (v := .tuple #[.slice none 0 0, .agg #[.int .i64 0, .int .i64 0, .int .i64 0, .int .i64 0], .int .i64 0]) (by simp [results, Tryd.results11, go_sem, q0, q1, q2, q3]) rfl ?_
  exact ⟨_, rfl, World.ownsRow_nil _ _ _ _, hb9⟩
end Go.Proofs.YtjmejlncomaclaaDoor.Lx
