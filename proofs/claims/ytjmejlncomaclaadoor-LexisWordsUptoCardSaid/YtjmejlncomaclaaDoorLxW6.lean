/- lexis.word at a number: it answers as the plain function says. Condition: the tables; at most 1000000000 bytes. -/
import Derived.Test.YtjmejlncomaclaaDoorLxW5
namespace Go.Proofs.YtjmejlncomaclaaDoor.Lx
open Go.RowKit

set_option maxRecDepth 100000 in
set_option maxHeartbeats 2000000 in
/-- lexis.word: a number that is too great. -/
theorem word_number_big (s : ByteArray) (w : World) (hV : Vars w) (hs : s.size ≤ 1000000000) (hne : 0 < s.size) (h2 : isC 2 (dec s.data.toList).1 = false) (h4 : isC 4 (dec s.data.toList).1 = true)
    (hbig : 1000000 < number (s.data.toList.take (run 4 s.data.toList))) :
    Calls Tryd.prog 20 #[.string s] w fun e w' => e = .returned (wordV (word s.data.toList)) ∧ Below w.heap.size w w' := by
  have hrl := run_le 4 _ s.data.toList (Nat.le_refl _)
  rw [← Lib.size_eq] at hrl
  obtain ⟨W1, W2, hW1, hnx, hV2, hK2, hB2, hz2⟩ := word_start s w hV hne
  have hr := fun W hb => run_any 4 s W (hV2.below hb) (by omega) (by omega) hs
  have hi := is_any 2 (dec s.data.toList).1 W2 hV2 (by omega) (by omega) (by omega)
  have hi4 := fun W hb => is_any 4 (dec s.data.toList).1 W (hV2.below hb) (by omega) (by omega) (by omega)
  have hdg := run_digits s.data.toList
  obtain ⟨L, hL⟩ : ∃ L, s.data.toList = L := ⟨_, rfl⟩
  obtain ⟨D, hD⟩ : ∃ D, dec L = D := ⟨_, rfl⟩
  obtain ⟨R, hR⟩ : ∃ R, run 4 L = R := ⟨_, rfl⟩
  rw [hL] at hi hi4 hnx h2 h4 hrl hdg ⊢
  simp only [hL] at hr
  rw [hD] at hi hnx h2 h4
  simp only [hD] at hi4
  rw [hR] at hdg
  rw [show ((2 : Int).toNat) = 2 from rfl, show ((D.1 : Int).toNat) = D.1 by omega, h2] at hi
  simp only [show ((4 : Int).toNat) = 4 from rfl, show ((D.1 : Int).toNat) = D.1 by omega, h4] at hi4
  simp only [show ((4 : Int).toNat) = 4 from rfl, hR] at hr
  rw [hR] at hrl
  have hw : word L = if 1000000 < number (L.take R) then (⟨2, [], number (L.take R)⟩, 0, false)
    else if L.drop R ≠ [] ∧ isC 2 (dec (L.drop R)).1 = true then (⟨2, [], number (L.take R)⟩, R, false)
    else (⟨2, [], number (L.take R)⟩, R, true) := by
    unfold word; rw [hD, h2, h4, hR]; rfl
  rw [if_pos (by rw [hL, hR] at hbig; exact hbig)] at hw
  rw [hw]
  have hlR : ((s.extract 0 R).data.toList) = L.take R := by rw [ext0, hL]
  have hnum := fun W => number_any (s.extract 0 R) W (by rw [Lib.size_eq, hlR, List.length_take, ← hL, ← Lib.size_eq]; omega) (by rw [hlR]; exact hdg)
  rw [hlR] at hnum
  obtain ⟨V, hVV⟩ : ∃ V, number (L.take R) = V := ⟨_, rfl⟩
  rw [hVV] at hnum ⊢
  have hle : V ≤ 1000001 := by rw [← hVV]; exact number_le _
  have hV1 : 1000000 < V := by rw [hL, hR, hVV] at hbig; exact hbig
  rw [show decide ((V : Int) ≤ 1000000) = false from decide_eq_false (by omega)] at hnum
  clear hbig
  have Hr := Lib.hid hr
  have Hnum := Lib.hid hnum
  have Hi4 := Lib.hid hi4
  have HW1 := Lib.hid hW1
  have HL := Lib.hid hL
  clear hR hD h2 h4 hw hr hW1 hdg hnum hVV hlR hi4 hL
  go_enter Tryd.func20, Tryd.ntmps20
  go_wp2
  rw [HW1.out]
  refine wp_loop_rounds 1 ?_
  rw [rounds_succ]
  go_wp2_with fail
  refine hi.mono ?_
  rintro e w1 ⟨rfl, hb1⟩
  go_wp2_with fail
  refine (Hi4.out _ hb1).mono ?_
  rintro e w2 ⟨rfl, hb2⟩
  have hb12 := hb1.trans (hb2.mono hb1.size)
  go_wp2_with fail
  refine (Hr.out _ hb12).mono ?_
  rintro e w3 ⟨rfl, hb3⟩
  have hb13 := hb12.trans (hb3.mono hb12.size)
  have hk3 := hK2.below hb13
  obtain ⟨⟨c0, c1, c2, c3, c4, c5, c6⟩, ⟨f0, f1, f2, f3, f4, f5, f6⟩⟩ := cells7 hk3
  have Hk3 := Lib.hid hk3
  clear hk3
  go_wp2_with fail
  have B4 := set7 Hk3.out (.int .i64 2) (.string ⟨#[]⟩) (.int .i64 0) (.int .i64 0) (.int .i64 0) (.int .i64 0) (.int .i64 0)
  have hB4 := below7 (hB2.trans (hb13.mono (by omega))) (Nat.le_refl _) (.int .i64 2) (.string ⟨#[]⟩) (.int .i64 0) (.int .i64 0) (.int .i64 0) (.int .i64 0) (.int .i64 0)
  obtain ⟨w4, hw4⟩ : ∃ W', (((((((w3.setCell ⟨w.heap.size, 0, none⟩ (.int .i64 2)).setCell ⟨w.heap.size, 1, none⟩ (.string ⟨#[]⟩)).setCell ⟨w.heap.size, 2, none⟩ (.int .i64 0)).setCell ⟨w.heap.size, 3, none⟩ (.int .i64 0)).setCell ⟨w.heap.size, 4, none⟩ (.int .i64 0)).setCell ⟨w.heap.size, 5, none⟩ (.int .i64 0)).setCell ⟨w.heap.size, 6, none⟩ (.int .i64 0)) = W' := ⟨_, rfl⟩
  rw [hw4] at B4 hB4 ⊢
  clear c0 c1 c2 c3 c4 c5 c6 f0 f1 f2 f3 f4 f5 f6 Hk3 hw4
  refine (Hnum.out _).mono ?_
  rintro e w5 ⟨rfl, hb5⟩
  have B5 := B4.below hb5
  have hB5 := hB4.trans (hb5.mono (Nat.le_of_lt B4.lt))
  obtain ⟨⟨c0, c1, c2, c3, c4, c5, c6⟩, ⟨f0, f1, f2, f3, f4, f5, f6⟩⟩ := cells7 B5
  have HB5 := Lib.hid B5
  have HB4 := Lib.hid B4
  clear B5 B4
  go_wp2
  have B6 := HB5.out.set 2 (.int .i64 V)
  have B7 := set7 (show Blk (w5.setCell ⟨w.heap.size, 2, none⟩ (.int .i64 V)) w.heap.size #[.int .i64 2, .string ⟨#[]⟩, .int .i64 V, .int .i64 0, .int .i64 0, .int .i64 0, .int .i64 0] _ by simpa using B6) (.int .i64 2) (.string ⟨#[]⟩) (.int .i64 V) (.int .i64 0) (.int .i64 0) (.int .i64 0) (.int .i64 0)
  have hB7 := below7 (hB5.setCell (p := ⟨w.heap.size, 2, none⟩) (Nat.le_refl _) (.int .i64 V)) (Nat.le_refl _) (.int .i64 2) (.string ⟨#[]⟩) (.int .i64 V) (.int .i64 0) (.int .i64 0) (.int .i64 0) (.int .i64 0)
  obtain ⟨w7, hw7⟩ : ∃ W', ((((((((w5.setCell ⟨w.heap.size, 2, none⟩ (.int .i64 V)).setCell ⟨w.heap.size, 0, none⟩ (.int .i64 2)).setCell ⟨w.heap.size, 1, none⟩ (.string ⟨#[]⟩)).setCell ⟨w.heap.size, 2, none⟩ (.int .i64 V)).setCell ⟨w.heap.size, 3, none⟩ (.int .i64 0)).setCell ⟨w.heap.size, 4, none⟩ (.int .i64 0)).setCell ⟨w.heap.size, 5, none⟩ (.int .i64 0)).setCell ⟨w.heap.size, 6, none⟩ (.int .i64 0)) = W' := ⟨_, rfl⟩
  rw [hw7] at B7 hB7
  rw [hw7]
  have q := (cells7 B7).1
  exact bodyPost_ret (v := .tuple #[.agg #[.int .i64 2, .string ⟨#[]⟩, .int .i64 V, .int .i64 0, .int .i64 0, .int .i64 0, .int .i64 0], .int .i64 0, .bool false]) (by simp [results, Tryd.results20, go_sem, q.1, q.2.1, q.2.2.1, q.2.2.2.1, q.2.2.2.2.1, q.2.2.2.2.2.1, q.2.2.2.2.2.2]) rfl ⟨rfl, hB7⟩
set_option maxRecDepth 100000 in
set_option maxHeartbeats 2000000 in
/-- lexis.word: a number behind which nothing stands. -/
theorem word_number_last (s : ByteArray) (w : World) (hV : Vars w) (hs : s.size ≤ 1000000000) (hne : 0 < s.size) (h2 : isC 2 (dec s.data.toList).1 = false) (h4 : isC 4 (dec s.data.toList).1 = true)
    (hbig : ¬ 1000000 < number (s.data.toList.take (run 4 s.data.toList))) (hem : s.data.toList.drop (run 4 s.data.toList) = []) :
    Calls Tryd.prog 20 #[.string s] w fun e w' => e = .returned (wordV (word s.data.toList)) ∧ Below w.heap.size w w' := by
  have hrl := run_le 4 _ s.data.toList (Nat.le_refl _)
  rw [← Lib.size_eq] at hrl
  obtain ⟨W1, W2, hW1, hnx, hV2, hK2, hB2, hz2⟩ := word_start s w hV hne
  have hr := fun W hb => run_any 4 s W (hV2.below hb) (by omega) (by omega) hs
  have hi := is_any 2 (dec s.data.toList).1 W2 hV2 (by omega) (by omega) (by omega)
  have hi4 := fun W hb => is_any 4 (dec s.data.toList).1 W (hV2.below hb) (by omega) (by omega) (by omega)
  have hdg := run_digits s.data.toList
  obtain ⟨L, hL⟩ : ∃ L, s.data.toList = L := ⟨_, rfl⟩
  obtain ⟨D, hD⟩ : ∃ D, dec L = D := ⟨_, rfl⟩
  obtain ⟨R, hR⟩ : ∃ R, run 4 L = R := ⟨_, rfl⟩
  rw [hL] at hi hi4 hnx h2 h4 hrl hdg ⊢
  simp only [hL] at hr
  rw [hD] at hi hnx h2 h4
  simp only [hD] at hi4
  rw [hR] at hdg
  rw [show ((2 : Int).toNat) = 2 from rfl, show ((D.1 : Int).toNat) = D.1 by omega, h2] at hi
  simp only [show ((4 : Int).toNat) = 4 from rfl, show ((D.1 : Int).toNat) = D.1 by omega, h4] at hi4
  simp only [show ((4 : Int).toNat) = 4 from rfl, hR] at hr
  rw [hR] at hrl
  have hw : word L = if 1000000 < number (L.take R) then (⟨2, [], number (L.take R)⟩, 0, false)
    else if L.drop R ≠ [] ∧ isC 2 (dec (L.drop R)).1 = true then (⟨2, [], number (L.take R)⟩, R, false)
    else (⟨2, [], number (L.take R)⟩, R, true) := by
    unfold word; rw [hD, h2, h4, hR]; rfl
  rw [if_neg (by rw [hL, hR] at hbig; exact hbig), if_neg (by rintro ⟨h, _⟩; rw [hL, hR] at hem; exact h hem)] at hw
  rw [hL, hR] at hem
  have Hem := Lib.hid hem
  clear hem
  rw [hw]
  have hlR : ((s.extract 0 R).data.toList) = L.take R := by rw [ext0, hL]
  have hnum := fun W => number_any (s.extract 0 R) W (by rw [Lib.size_eq, hlR, List.length_take, ← hL, ← Lib.size_eq]; omega) (by rw [hlR]; exact hdg)
  rw [hlR] at hnum
  obtain ⟨V, hVV⟩ : ∃ V, number (L.take R) = V := ⟨_, rfl⟩
  rw [hVV] at hnum ⊢
  have hle : V ≤ 1000001 := by rw [← hVV]; exact number_le _
  have hV1 : V ≤ 1000000 := by rw [hL, hR, hVV] at hbig; omega
  rw [show decide ((V : Int) ≤ 1000000) = true from decide_eq_true (by omega)] at hnum
  clear hbig
  have Hr := Lib.hid hr
  have Hnum := Lib.hid hnum
  have Hi4 := Lib.hid hi4
  have HW1 := Lib.hid hW1
  have HL := Lib.hid hL
  clear hR hD h2 h4 hw hr hW1 hdg hnum hVV hlR hi4 hL
  go_enter Tryd.func20, Tryd.ntmps20
  go_wp2
  rw [HW1.out]
  refine wp_loop_rounds 1 ?_
  rw [rounds_succ]
  go_wp2_with fail
  refine hi.mono ?_
  rintro e w1 ⟨rfl, hb1⟩
  go_wp2_with fail
  refine (Hi4.out _ hb1).mono ?_
  rintro e w2 ⟨rfl, hb2⟩
  have hb12 := hb1.trans (hb2.mono hb1.size)
  go_wp2_with fail
  refine (Hr.out _ hb12).mono ?_
  rintro e w3 ⟨rfl, hb3⟩
  have hb13 := hb12.trans (hb3.mono hb12.size)
  have hk3 := hK2.below hb13
  obtain ⟨⟨c0, c1, c2, c3, c4, c5, c6⟩, ⟨f0, f1, f2, f3, f4, f5, f6⟩⟩ := cells7 hk3
  have Hk3 := Lib.hid hk3
  clear hk3
  go_wp2_with fail
  have B4 := set7 Hk3.out (.int .i64 2) (.string ⟨#[]⟩) (.int .i64 0) (.int .i64 0) (.int .i64 0) (.int .i64 0) (.int .i64 0)
  have hB4 := below7 (hB2.trans (hb13.mono (by omega))) (Nat.le_refl _) (.int .i64 2) (.string ⟨#[]⟩) (.int .i64 0) (.int .i64 0) (.int .i64 0) (.int .i64 0) (.int .i64 0)
  obtain ⟨w4, hw4⟩ : ∃ W', (((((((w3.setCell ⟨w.heap.size, 0, none⟩ (.int .i64 2)).setCell ⟨w.heap.size, 1, none⟩ (.string ⟨#[]⟩)).setCell ⟨w.heap.size, 2, none⟩ (.int .i64 0)).setCell ⟨w.heap.size, 3, none⟩ (.int .i64 0)).setCell ⟨w.heap.size, 4, none⟩ (.int .i64 0)).setCell ⟨w.heap.size, 5, none⟩ (.int .i64 0)).setCell ⟨w.heap.size, 6, none⟩ (.int .i64 0)) = W' := ⟨_, rfl⟩
  rw [hw4] at B4 hB4 ⊢
  clear c0 c1 c2 c3 c4 c5 c6 f0 f1 f2 f3 f4 f5 f6 Hk3 hw4
  refine (Hnum.out _).mono ?_
  rintro e w5 ⟨rfl, hb5⟩
  have B5 := B4.below hb5
  have hB5 := hB4.trans (hb5.mono (Nat.le_of_lt B4.lt))
  obtain ⟨⟨c0, c1, c2, c3, c4, c5, c6⟩, ⟨f0, f1, f2, f3, f4, f5, f6⟩⟩ := cells7 B5
  have HB5 := Lib.hid B5
  have HB4 := Lib.hid B4
  clear B5 B4
  have hs5 : (w5.setCell ⟨w.heap.size, 2, none⟩ (.int .i64 V)).heap.size = w5.heap.size := sizeSet _ _ _
  have B6 : Blk ((w5.setCell ⟨w.heap.size, 2, none⟩ (.int .i64 V)).iter (s.extract R s.size) 0) w.heap.size #[.int .i64 2, .string ⟨#[]⟩, .int .i64 V, .int .i64 0, .int .i64 0, .int .i64 0, .int .i64 0] 37 := by
    have := (HB5.out.set 2 (.int .i64 V)).alloc (.stringIter (s.extract R s.size) 0)
    simp at this
    exact this
  have hB6 : Below w.heap.size w ((w5.setCell ⟨w.heap.size, 2, none⟩ (.int .i64 V)).iter (s.extract R s.size) 0) := (hB5.setCell (p := ⟨w.heap.size, 2, none⟩) (Nat.le_refl _) (.int .i64 V)).alloc (by rw [hs5]; exact Nat.le_of_lt HB5.out.lt) _
  have hI6 : ((w5.setCell ⟨w.heap.size, 2, none⟩ (.int .i64 V)).iter (s.extract R s.size) 0).heap[w5.heap.size]? = some (.stringIter (s.extract R s.size) 0) := by
    have := World.iter_heap (w5.setCell ⟨w.heap.size, 2, none⟩ (.int .i64 V)) (s.extract R s.size) 0
    rw [hs5] at this
    exact this
  obtain ⟨w6, hw6⟩ : ∃ W', ((w5.setCell ⟨w.heap.size, 2, none⟩ (.int .i64 V)).iter (s.extract R s.size) 0) = W' := ⟨_, rfl⟩
  rw [hw6] at B6 hB6 hI6
  have HB6 := Lib.hid B6
  have HI6 := Lib.hid hI6
  have Hw6 := Lib.hid hw6
  clear B6 hI6 hw6 hs5
  go_wp2
  rw [Hw6.out]
  refine wp_loop_rounds 1 ?_
  rw [rounds_succ]
  have hnx2 := fun ty => Lib.run_next_end_at (P := Tryd.prog) w6 w5.heap.size (s.extract R s.size) 0 ty HI6.out (by rw [Lib.size_eq, extE, HL.out, Hem.out]; exact Nat.lt_irrefl 0)
  obtain ⟨⟨d0, d1, d2, d3, d4, d5, d6⟩, ⟨g0, g1, g2, g3, g4, g5, g6⟩⟩ := cells7 HB6.out
  clear c0 c1 c2 c3 c4 c5 c6 f0 f1 f2 f3 f4 f5 f6 hnx
  go_wp2
  have B7 := set7 HB6.out (.int .i64 2) (.string ⟨#[]⟩) (.int .i64 V) (.int .i64 0) (.int .i64 0) (.int .i64 0) (.int .i64 0)
  have hB7 := below7 hB6 (Nat.le_refl _) (.int .i64 2) (.string ⟨#[]⟩) (.int .i64 V) (.int .i64 0) (.int .i64 0) (.int .i64 0) (.int .i64 0)
  obtain ⟨w9, hw9⟩ : ∃ W', (((((((w6.setCell ⟨w.heap.size, 0, none⟩ (.int .i64 2)).setCell ⟨w.heap.size, 1, none⟩ (.string ⟨#[]⟩)).setCell ⟨w.heap.size, 2, none⟩ (.int .i64 V)).setCell ⟨w.heap.size, 3, none⟩ (.int .i64 0)).setCell ⟨w.heap.size, 4, none⟩ (.int .i64 0)).setCell ⟨w.heap.size, 5, none⟩ (.int .i64 0)).setCell ⟨w.heap.size, 6, none⟩ (.int .i64 0)) = W' := ⟨_, rfl⟩
  rw [hw9] at B7 hB7
  rw [hw9]
  have q := (cells7 B7).1
  exact bodyPost_ret (v := .tuple #[.agg #[.int .i64 2, .string ⟨#[]⟩, .int .i64 V, .int .i64 0, .int .i64 0, .int .i64 0, .int .i64 0], .int .i64 R, .bool true]) (by simp [results, Tryd.results20, go_sem, q.1, q.2.1, q.2.2.1, q.2.2.2.1, q.2.2.2.2.1, q.2.2.2.2.2.1, q.2.2.2.2.2.2]) rfl ⟨rfl, hB7⟩
set_option maxRecDepth 100000 in
set_option maxHeartbeats 2000000 in
/-- lexis.word: a number right behind which a name begins. -/
theorem word_number_bad (s : ByteArray) (w : World) (hV : Vars w) (hs : s.size ≤ 1000000000) (hne : 0 < s.size) (h2 : isC 2 (dec s.data.toList).1 = false) (h4 : isC 4 (dec s.data.toList).1 = true)
    (hbig : ¬ 1000000 < number (s.data.toList.take (run 4 s.data.toList))) (hem : s.data.toList.drop (run 4 s.data.toList) ≠ []) (hcl : isC 2 (dec (s.data.toList.drop (run 4 s.data.toList))).1 = true) :
    Calls Tryd.prog 20 #[.string s] w fun e w' => e = .returned (wordV (word s.data.toList)) ∧ Below w.heap.size w w' := by
  have hrl := run_le 4 _ s.data.toList (Nat.le_refl _)
  rw [← Lib.size_eq] at hrl
  obtain ⟨W1, W2, hW1, hnx, hV2, hK2, hB2, hz2⟩ := word_start s w hV hne
  have hr := fun W hb => run_any 4 s W (hV2.below hb) (by omega) (by omega) hs
  have hi := is_any 2 (dec s.data.toList).1 W2 hV2 (by omega) (by omega) (by omega)
  have hi4 := fun W hb => is_any 4 (dec s.data.toList).1 W (hV2.below hb) (by omega) (by omega) (by omega)
  have hdg := run_digits s.data.toList
  obtain ⟨L, hL⟩ : ∃ L, s.data.toList = L := ⟨_, rfl⟩
  obtain ⟨D, hD⟩ : ∃ D, dec L = D := ⟨_, rfl⟩
  obtain ⟨R, hR⟩ : ∃ R, run 4 L = R := ⟨_, rfl⟩
  rw [hL] at hi hi4 hnx h2 h4 hrl hdg ⊢
  simp only [hL] at hr
  rw [hD] at hi hnx h2 h4
  simp only [hD] at hi4
  rw [hR] at hdg
  rw [show ((2 : Int).toNat) = 2 from rfl, show ((D.1 : Int).toNat) = D.1 by omega, h2] at hi
  simp only [show ((4 : Int).toNat) = 4 from rfl, show ((D.1 : Int).toNat) = D.1 by omega, h4] at hi4
  simp only [show ((4 : Int).toNat) = 4 from rfl, hR] at hr
  rw [hR] at hrl
  have hw : word L = if 1000000 < number (L.take R) then (⟨2, [], number (L.take R)⟩, 0, false)
    else if L.drop R ≠ [] ∧ isC 2 (dec (L.drop R)).1 = true then (⟨2, [], number (L.take R)⟩, R, false)
    else (⟨2, [], number (L.take R)⟩, R, true) := by
    unfold word; rw [hD, h2, h4, hR]; rfl
  rw [hL, hR] at hem hcl
  rw [if_neg (by rw [hL, hR] at hbig; exact hbig), if_pos ⟨hem, hcl⟩] at hw
  have Hem := Lib.hid hem
  have Hcl := Lib.hid hcl
  clear hem hcl
  rw [hw]
  have hlR : ((s.extract 0 R).data.toList) = L.take R := by rw [ext0, hL]
  have hnum := fun W => number_any (s.extract 0 R) W (by rw [Lib.size_eq, hlR, List.length_take, ← hL, ← Lib.size_eq]; omega) (by rw [hlR]; exact hdg)
  rw [hlR] at hnum
  obtain ⟨V, hVV⟩ : ∃ V, number (L.take R) = V := ⟨_, rfl⟩
  rw [hVV] at hnum ⊢
  have hle : V ≤ 1000001 := by rw [← hVV]; exact number_le _
  have hV1 : V ≤ 1000000 := by rw [hL, hR, hVV] at hbig; omega
  rw [show decide ((V : Int) ≤ 1000000) = true from decide_eq_true (by omega)] at hnum
  clear hbig
  have Hr := Lib.hid hr
  have Hnum := Lib.hid hnum
  have Hi4 := Lib.hid hi4
  have HW1 := Lib.hid hW1
  have HL := Lib.hid hL
  clear hR hD h2 h4 hw hr hW1 hdg hnum hVV hlR hi4 hL
  go_enter Tryd.func20, Tryd.ntmps20
  go_wp2
  rw [HW1.out]
  refine wp_loop_rounds 1 ?_
  rw [rounds_succ]
  go_wp2_with fail
  refine hi.mono ?_
  rintro e w1 ⟨rfl, hb1⟩
  go_wp2_with fail
  refine (Hi4.out _ hb1).mono ?_
  rintro e w2 ⟨rfl, hb2⟩
  have hb12 := hb1.trans (hb2.mono hb1.size)
  go_wp2_with fail
  refine (Hr.out _ hb12).mono ?_
  rintro e w3 ⟨rfl, hb3⟩
  have hb13 := hb12.trans (hb3.mono hb12.size)
  have hk3 := hK2.below hb13
  obtain ⟨⟨c0, c1, c2, c3, c4, c5, c6⟩, ⟨f0, f1, f2, f3, f4, f5, f6⟩⟩ := cells7 hk3
  have Hk3 := Lib.hid hk3
  clear hk3
  go_wp2_with fail
  have B4 := set7 Hk3.out (.int .i64 2) (.string ⟨#[]⟩) (.int .i64 0) (.int .i64 0) (.int .i64 0) (.int .i64 0) (.int .i64 0)
  have hB4 := below7 (hB2.trans (hb13.mono (by omega))) (Nat.le_refl _) (.int .i64 2) (.string ⟨#[]⟩) (.int .i64 0) (.int .i64 0) (.int .i64 0) (.int .i64 0) (.int .i64 0)
  obtain ⟨w4, hw4⟩ : ∃ W', (((((((w3.setCell ⟨w.heap.size, 0, none⟩ (.int .i64 2)).setCell ⟨w.heap.size, 1, none⟩ (.string ⟨#[]⟩)).setCell ⟨w.heap.size, 2, none⟩ (.int .i64 0)).setCell ⟨w.heap.size, 3, none⟩ (.int .i64 0)).setCell ⟨w.heap.size, 4, none⟩ (.int .i64 0)).setCell ⟨w.heap.size, 5, none⟩ (.int .i64 0)).setCell ⟨w.heap.size, 6, none⟩ (.int .i64 0)) = W' := ⟨_, rfl⟩
  rw [hw4] at B4 hB4 ⊢
  clear c0 c1 c2 c3 c4 c5 c6 f0 f1 f2 f3 f4 f5 f6 Hk3 hw4
  refine (Hnum.out _).mono ?_
  rintro e w5 ⟨rfl, hb5⟩
  have B5 := B4.below hb5
  have hB5 := hB4.trans (hb5.mono (Nat.le_of_lt B4.lt))
  obtain ⟨⟨c0, c1, c2, c3, c4, c5, c6⟩, ⟨f0, f1, f2, f3, f4, f5, f6⟩⟩ := cells7 B5
  have HB5 := Lib.hid B5
  have HB4 := Lib.hid B4
  clear B5 B4
  have hs5 : (w5.setCell ⟨w.heap.size, 2, none⟩ (.int .i64 V)).heap.size = w5.heap.size := sizeSet _ _ _
  have B6 : Blk ((w5.setCell ⟨w.heap.size, 2, none⟩ (.int .i64 V)).iter (s.extract R s.size) 0) w.heap.size #[.int .i64 2, .string ⟨#[]⟩, .int .i64 V, .int .i64 0, .int .i64 0, .int .i64 0, .int .i64 0] 37 := by
    have := (HB5.out.set 2 (.int .i64 V)).alloc (.stringIter (s.extract R s.size) 0)
    simp at this
    exact this
  have hB6 : Below w.heap.size w ((w5.setCell ⟨w.heap.size, 2, none⟩ (.int .i64 V)).iter (s.extract R s.size) 0) := (hB5.setCell (p := ⟨w.heap.size, 2, none⟩) (Nat.le_refl _) (.int .i64 V)).alloc (by rw [hs5]; exact Nat.le_of_lt HB5.out.lt) _
  have hI6 : ((w5.setCell ⟨w.heap.size, 2, none⟩ (.int .i64 V)).iter (s.extract R s.size) 0).heap[w5.heap.size]? = some (.stringIter (s.extract R s.size) 0) := by
    have := World.iter_heap (w5.setCell ⟨w.heap.size, 2, none⟩ (.int .i64 V)) (s.extract R s.size) 0
    rw [hs5] at this
    exact this
  obtain ⟨w6, hw6⟩ : ∃ W', ((w5.setCell ⟨w.heap.size, 2, none⟩ (.int .i64 V)).iter (s.extract R s.size) 0) = W' := ⟨_, rfl⟩
  rw [hw6] at B6 hB6 hI6
  have HB6 := Lib.hid B6
  have HI6 := Lib.hid hI6
  have Hw6 := Lib.hid hw6
  clear B6 hI6 hw6 hs5
  go_wp2
  rw [Hw6.out]
  refine wp_loop_rounds 1 ?_
  rw [rounds_succ]
  have hp2 : 0 < (s.extract R s.size).size := by rw [Lib.size_eq, extE, HL.out]; exact List.length_pos_iff.2 Hem.out
  have hnx2 := fun ty => next_at (P := Tryd.prog) w6 w5.heap.size (s.extract R s.size) 0 ty HI6.out hp2
  rw [extE, HL.out, List.drop_zero] at hnx2
  obtain ⟨D2, hD2⟩ : ∃ D2, dec (L.drop R) = D2 := ⟨_, rfl⟩
  rw [hD2] at hnx2
  have hB8 := Lib.below_iterAt hB6 (Nat.le_of_lt HB5.out.lt) (s.extract R s.size) (0 + D2.2)
  have B8 : Blk (w6.iterAt w5.heap.size (s.extract R s.size) (0 + D2.2)) w.heap.size _ _ := (Lib.iterAt_other w6 w5.heap.size w.heap.size (s.extract R s.size) _ (Nat.ne_of_lt HB5.out.lt)).trans HB6.out
  obtain ⟨w8, hw8⟩ : ∃ W', w6.iterAt w5.heap.size (s.extract R s.size) (0 + D2.2) = W' := ⟨_, rfl⟩
  rw [hw8] at B8 hB8
  simp only [hw8] at hnx2
  have hi2 := is_any 2 D2.1 w8 (hV.below hB8) (by omega) (by omega) (by omega)
  rw [show ((2 : Int).toNat) = 2 from rfl, show ((D2.1 : Int).toNat) = D2.1 by omega, ← hD2, Hcl.out, hD2] at hi2
  clear hw8 hD2 c0 c1 c2 c3 c4 c5 c6 f0 f1 f2 f3 f4 f5 f6 hnx
  have HB8 := Lib.hid B8
  clear B8
  go_wp2_with fail
  refine hi2.mono ?_
  rintro e w10 ⟨rfl, hb10⟩
  have HB10 := Lib.hid (HB8.out.below hb10)
  have hB10 := hB8.trans (hb10.mono (Nat.le_of_lt HB8.out.lt))
  obtain ⟨⟨d0, d1, d2, d3, d4, d5, d6⟩, ⟨g0, g1, g2, g3, g4, g5, g6⟩⟩ := cells7 HB10.out
  go_wp2
  have B7 := set7 HB10.out (.int .i64 2) (.string ⟨#[]⟩) (.int .i64 V) (.int .i64 0) (.int .i64 0) (.int .i64 0) (.int .i64 0)
  have hB7 := below7 hB10 (Nat.le_refl _) (.int .i64 2) (.string ⟨#[]⟩) (.int .i64 V) (.int .i64 0) (.int .i64 0) (.int .i64 0) (.int .i64 0)
  obtain ⟨w9, hw9⟩ : ∃ W', (((((((w10.setCell ⟨w.heap.size, 0, none⟩ (.int .i64 2)).setCell ⟨w.heap.size, 1, none⟩ (.string ⟨#[]⟩)).setCell ⟨w.heap.size, 2, none⟩ (.int .i64 V)).setCell ⟨w.heap.size, 3, none⟩ (.int .i64 0)).setCell ⟨w.heap.size, 4, none⟩ (.int .i64 0)).setCell ⟨w.heap.size, 5, none⟩ (.int .i64 0)).setCell ⟨w.heap.size, 6, none⟩ (.int .i64 0)) = W' := ⟨_, rfl⟩
  rw [hw9] at B7 hB7
  rw [hw9]
  have q := (cells7 B7).1
  exact bodyPost_ret (v := .tuple #[.agg #[.int .i64 2, .string ⟨#[]⟩, .int .i64 V, .int .i64 0, .int .i64 0, .int .i64 0, .int .i64 0], .int .i64 R, .bool false]) (by simp [results, Tryd.results20, go_sem, q.1, q.2.1, q.2.2.1, q.2.2.2.1, q.2.2.2.2.1, q.2.2.2.2.2.1, q.2.2.2.2.2.2]) rfl ⟨rfl, hB7⟩
set_option maxRecDepth 100000 in
set_option maxHeartbeats 2000000 in
/-- lexis.word: a number. -/
theorem word_number_good (s : ByteArray) (w : World) (hV : Vars w) (hs : s.size ≤ 1000000000) (hne : 0 < s.size) (h2 : isC 2 (dec s.data.toList).1 = false) (h4 : isC 4 (dec s.data.toList).1 = true)
    (hbig : ¬ 1000000 < number (s.data.toList.take (run 4 s.data.toList))) (hem : s.data.toList.drop (run 4 s.data.toList) ≠ []) (hcl : isC 2 (dec (s.data.toList.drop (run 4 s.data.toList))).1 = false) :
    Calls Tryd.prog 20 #[.string s] w fun e w' => e = .returned (wordV (word s.data.toList)) ∧ Below w.heap.size w w' := by
  have hrl := run_le 4 _ s.data.toList (Nat.le_refl _)
  rw [← Lib.size_eq] at hrl
  obtain ⟨W1, W2, hW1, hnx, hV2, hK2, hB2, hz2⟩ := word_start s w hV hne
  have hr := fun W hb => run_any 4 s W (hV2.below hb) (by omega) (by omega) hs
  have hi := is_any 2 (dec s.data.toList).1 W2 hV2 (by omega) (by omega) (by omega)
  have hi4 := fun W hb => is_any 4 (dec s.data.toList).1 W (hV2.below hb) (by omega) (by omega) (by omega)
  have hdg := run_digits s.data.toList
  obtain ⟨L, hL⟩ : ∃ L, s.data.toList = L := ⟨_, rfl⟩
  obtain ⟨D, hD⟩ : ∃ D, dec L = D := ⟨_, rfl⟩
  obtain ⟨R, hR⟩ : ∃ R, run 4 L = R := ⟨_, rfl⟩
  rw [hL] at hi hi4 hnx h2 h4 hrl hdg ⊢
  simp only [hL] at hr
  rw [hD] at hi hnx h2 h4
  simp only [hD] at hi4
  rw [hR] at hdg
  rw [show ((2 : Int).toNat) = 2 from rfl, show ((D.1 : Int).toNat) = D.1 by omega, h2] at hi
  simp only [show ((4 : Int).toNat) = 4 from rfl, show ((D.1 : Int).toNat) = D.1 by omega, h4] at hi4
  simp only [show ((4 : Int).toNat) = 4 from rfl, hR] at hr
  rw [hR] at hrl
  have hw : word L = if 1000000 < number (L.take R) then (⟨2, [], number (L.take R)⟩, 0, false)
    else if L.drop R ≠ [] ∧ isC 2 (dec (L.drop R)).1 = true then (⟨2, [], number (L.take R)⟩, R, false)
    else (⟨2, [], number (L.take R)⟩, R, true) := by
    unfold word; rw [hD, h2, h4, hR]; rfl
  rw [hL, hR] at hem hcl
  rw [if_neg (by rw [hL, hR] at hbig; exact hbig), if_neg (by rintro ⟨_, h⟩; rw [hcl] at h; cases h)] at hw
  have Hem := Lib.hid hem
  have Hcl := Lib.hid hcl
  clear hem hcl
  rw [hw]
  have hlR : ((s.extract 0 R).data.toList) = L.take R := by rw [ext0, hL]
  have hnum := fun W => number_any (s.extract 0 R) W (by rw [Lib.size_eq, hlR, List.length_take, ← hL, ← Lib.size_eq]; omega) (by rw [hlR]; exact hdg)
  rw [hlR] at hnum
  obtain ⟨V, hVV⟩ : ∃ V, number (L.take R) = V := ⟨_, rfl⟩
  rw [hVV] at hnum ⊢
  have hle : V ≤ 1000001 := by rw [← hVV]; exact number_le _
  have hV1 : V ≤ 1000000 := by rw [hL, hR, hVV] at hbig; omega
  rw [show decide ((V : Int) ≤ 1000000) = true from decide_eq_true (by omega)] at hnum
  clear hbig
  have Hr := Lib.hid hr
  have Hnum := Lib.hid hnum
  have Hi4 := Lib.hid hi4
  have HW1 := Lib.hid hW1
  have HL := Lib.hid hL
  clear hR hD h2 h4 hw hr hW1 hdg hnum hVV hlR hi4 hL
  go_enter Tryd.func20, Tryd.ntmps20
  go_wp2
  rw [HW1.out]
  refine wp_loop_rounds 1 ?_
  rw [rounds_succ]
  go_wp2_with fail
  refine hi.mono ?_
  rintro e w1 ⟨rfl, hb1⟩
  go_wp2_with fail
  refine (Hi4.out _ hb1).mono ?_
  rintro e w2 ⟨rfl, hb2⟩
  have hb12 := hb1.trans (hb2.mono hb1.size)
  go_wp2_with fail
  refine (Hr.out _ hb12).mono ?_
  rintro e w3 ⟨rfl, hb3⟩
  have hb13 := hb12.trans (hb3.mono hb12.size)
  have hk3 := hK2.below hb13
  obtain ⟨⟨c0, c1, c2, c3, c4, c5, c6⟩, ⟨f0, f1, f2, f3, f4, f5, f6⟩⟩ := cells7 hk3
  have Hk3 := Lib.hid hk3
  clear hk3
  go_wp2_with fail
  have B4 := set7 Hk3.out (.int .i64 2) (.string ⟨#[]⟩) (.int .i64 0) (.int .i64 0) (.int .i64 0) (.int .i64 0) (.int .i64 0)
  have hB4 := below7 (hB2.trans (hb13.mono (by omega))) (Nat.le_refl _) (.int .i64 2) (.string ⟨#[]⟩) (.int .i64 0) (.int .i64 0) (.int .i64 0) (.int .i64 0) (.int .i64 0)
  obtain ⟨w4, hw4⟩ : ∃ W', (((((((w3.setCell ⟨w.heap.size, 0, none⟩ (.int .i64 2)).setCell ⟨w.heap.size, 1, none⟩ (.string ⟨#[]⟩)).setCell ⟨w.heap.size, 2, none⟩ (.int .i64 0)).setCell ⟨w.heap.size, 3, none⟩ (.int .i64 0)).setCell ⟨w.heap.size, 4, none⟩ (.int .i64 0)).setCell ⟨w.heap.size, 5, none⟩ (.int .i64 0)).setCell ⟨w.heap.size, 6, none⟩ (.int .i64 0)) = W' := ⟨_, rfl⟩
  rw [hw4] at B4 hB4 ⊢
  clear c0 c1 c2 c3 c4 c5 c6 f0 f1 f2 f3 f4 f5 f6 Hk3 hw4
  refine (Hnum.out _).mono ?_
  rintro e w5 ⟨rfl, hb5⟩
  have B5 := B4.below hb5
  have hB5 := hB4.trans (hb5.mono (Nat.le_of_lt B4.lt))
  obtain ⟨⟨c0, c1, c2, c3, c4, c5, c6⟩, ⟨f0, f1, f2, f3, f4, f5, f6⟩⟩ := cells7 B5
  have HB5 := Lib.hid B5
  have HB4 := Lib.hid B4
  clear B5 B4
  have hs5 : (w5.setCell ⟨w.heap.size, 2, none⟩ (.int .i64 V)).heap.size = w5.heap.size := sizeSet _ _ _
  have B6 : Blk ((w5.setCell ⟨w.heap.size, 2, none⟩ (.int .i64 V)).iter (s.extract R s.size) 0) w.heap.size #[.int .i64 2, .string ⟨#[]⟩, .int .i64 V, .int .i64 0, .int .i64 0, .int .i64 0, .int .i64 0] 37 := by
    have := (HB5.out.set 2 (.int .i64 V)).alloc (.stringIter (s.extract R s.size) 0)
    simp at this
    exact this
  have hB6 : Below w.heap.size w ((w5.setCell ⟨w.heap.size, 2, none⟩ (.int .i64 V)).iter (s.extract R s.size) 0) := (hB5.setCell (p := ⟨w.heap.size, 2, none⟩) (Nat.le_refl _) (.int .i64 V)).alloc (by rw [hs5]; exact Nat.le_of_lt HB5.out.lt) _
  have hI6 : ((w5.setCell ⟨w.heap.size, 2, none⟩ (.int .i64 V)).iter (s.extract R s.size) 0).heap[w5.heap.size]? = some (.stringIter (s.extract R s.size) 0) := by
    have := World.iter_heap (w5.setCell ⟨w.heap.size, 2, none⟩ (.int .i64 V)) (s.extract R s.size) 0
    rw [hs5] at this
    exact this
  obtain ⟨w6, hw6⟩ : ∃ W', ((w5.setCell ⟨w.heap.size, 2, none⟩ (.int .i64 V)).iter (s.extract R s.size) 0) = W' := ⟨_, rfl⟩
  rw [hw6] at B6 hB6 hI6
  have HB6 := Lib.hid B6
  have HI6 := Lib.hid hI6
  have Hw6 := Lib.hid hw6
  clear B6 hI6 hw6 hs5
  go_wp2
  rw [Hw6.out]
  refine wp_loop_rounds 1 ?_
  rw [rounds_succ]
  have hp2 : 0 < (s.extract R s.size).size := by rw [Lib.size_eq, extE, HL.out]; exact List.length_pos_iff.2 Hem.out
  have hnx2 := fun ty => next_at (P := Tryd.prog) w6 w5.heap.size (s.extract R s.size) 0 ty HI6.out hp2
  rw [extE, HL.out, List.drop_zero] at hnx2
  obtain ⟨D2, hD2⟩ : ∃ D2, dec (L.drop R) = D2 := ⟨_, rfl⟩
  rw [hD2] at hnx2
  have hB8 := Lib.below_iterAt hB6 (Nat.le_of_lt HB5.out.lt) (s.extract R s.size) (0 + D2.2)
  have B8 : Blk (w6.iterAt w5.heap.size (s.extract R s.size) (0 + D2.2)) w.heap.size _ _ := (Lib.iterAt_other w6 w5.heap.size w.heap.size (s.extract R s.size) _ (Nat.ne_of_lt HB5.out.lt)).trans HB6.out
  obtain ⟨w8, hw8⟩ : ∃ W', w6.iterAt w5.heap.size (s.extract R s.size) (0 + D2.2) = W' := ⟨_, rfl⟩
  rw [hw8] at B8 hB8
  simp only [hw8] at hnx2
  have hi2 := is_any 2 D2.1 w8 (hV.below hB8) (by omega) (by omega) (by omega)
  rw [show ((2 : Int).toNat) = 2 from rfl, show ((D2.1 : Int).toNat) = D2.1 by omega, ← hD2, Hcl.out, hD2] at hi2
  clear hw8 hD2 c0 c1 c2 c3 c4 c5 c6 f0 f1 f2 f3 f4 f5 f6 hnx
  have HB8 := Lib.hid B8
  clear B8
  go_wp2_with fail
  refine hi2.mono ?_
  rintro e w10 ⟨rfl, hb10⟩
  have HB10 := Lib.hid (HB8.out.below hb10)
  have hB10 := hB8.trans (hb10.mono (Nat.le_of_lt HB8.out.lt))
  obtain ⟨⟨d0, d1, d2, d3, d4, d5, d6⟩, ⟨g0, g1, g2, g3, g4, g5, g6⟩⟩ := cells7 HB10.out
  go_wp2
  have B7 := set7 HB10.out (.int .i64 2) (.string ⟨#[]⟩) (.int .i64 V) (.int .i64 0) (.int .i64 0) (.int .i64 0) (.int .i64 0)
  have hB7 := below7 hB10 (Nat.le_refl _) (.int .i64 2) (.string ⟨#[]⟩) (.int .i64 V) (.int .i64 0) (.int .i64 0) (.int .i64 0) (.int .i64 0)
  obtain ⟨w9, hw9⟩ : ∃ W', (((((((w10.setCell ⟨w.heap.size, 0, none⟩ (.int .i64 2)).setCell ⟨w.heap.size, 1, none⟩ (.string ⟨#[]⟩)).setCell ⟨w.heap.size, 2, none⟩ (.int .i64 V)).setCell ⟨w.heap.size, 3, none⟩ (.int .i64 0)).setCell ⟨w.heap.size, 4, none⟩ (.int .i64 0)).setCell ⟨w.heap.size, 5, none⟩ (.int .i64 0)).setCell ⟨w.heap.size, 6, none⟩ (.int .i64 0)) = W' := ⟨_, rfl⟩
  rw [hw9] at B7 hB7
  rw [hw9]
  have q := (cells7 B7).1
  exact bodyPost_ret (v := .tuple #[.agg #[.int .i64 2, .string ⟨#[]⟩, .int .i64 V, .int .i64 0, .int .i64 0, .int .i64 0, .int .i64 0], .int .i64 R, .bool true]) (by simp [results, Tryd.results20, go_sem, q.1, q.2.1, q.2.2.1, q.2.2.2.1, q.2.2.2.2.1, q.2.2.2.2.2.1, q.2.2.2.2.2.2]) rfl ⟨rfl, hB7⟩
end Go.Proofs.YtjmejlncomaclaaDoor.Lx
