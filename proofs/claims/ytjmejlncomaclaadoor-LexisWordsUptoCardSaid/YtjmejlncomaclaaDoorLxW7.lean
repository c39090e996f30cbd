/- lexis.word at a text and at a sign, and all of it. Condition: the tables; at most 1000000000 bytes. -/
import Derived.Test.YtjmejlncomaclaaDoorLxW6
namespace Go.Proofs.YtjmejlncomaclaaDoor.Lx
open Go.RowKit

set_option maxRecDepth 100000 in
set_option maxHeartbeats 2000000 in
/-- lexis.word, where a quote stands that is not closed. -/
theorem word_text_open (s : ByteArray) (w : World) (hV : Vars w) (hs : s.size ≤ 1000000000) (hne : 0 < s.size) (h2 : isC 2 (dec s.data.toList).1 = false) (h4 : isC 4 (dec s.data.toList).1 = false)
    (hq : (dec s.data.toList).1 = 34 ∨ (dec s.data.toList).1 = 39) (hno : runeAt (dec s.data.toList).1 (s.data.toList.drop 1) = none) :
    Calls Tryd.prog 20 #[.string s] w fun e w' => e = .returned (wordV (word s.data.toList)) ∧ Below w.heap.size w w' := by
  obtain ⟨W1, W2, hW1, hnx, hV2, hK2, hB2, hz2⟩ := word_start s w hV hne
  have hi := is_any 2 (dec s.data.toList).1 W2 hV2 (by omega) (by omega) (by omega)
  have hi4 := fun W hb => is_any 4 (dec s.data.toList).1 W (hV2.below hb) (by omega) (by omega) (by omega)
  obtain ⟨L, hL⟩ : ∃ L, s.data.toList = L := ⟨_, rfl⟩
  have hat := fun W => runeAt_any (s.extract 1 s.size) (dec s.data.toList).1 W (by omega) (by rw [Lib.size_eq, extE, List.length_drop, ← Lib.size_eq]; omega)
  simp only [extE] at hat
  obtain ⟨D, hD⟩ : ∃ D, dec L = D := ⟨_, rfl⟩
  rw [hL] at hi hi4 hnx h2 h4 hq hno hat ⊢
  have hw : word L = (⟨0, [], 0⟩, 0, false) := by
    unfold word; rw [if_neg (by rw [h2]; simp), if_neg (by rw [h4]; simp), if_pos hq, hno]
  rw [hD] at hi hnx h2 h4 hq hno
  simp only [hD] at hi4 hat
  rw [show ((2 : Int).toNat) = 2 from rfl, show ((D.1 : Int).toNat) = D.1 by omega, h2] at hi
  simp only [show ((4 : Int).toNat) = 4 from rfl, show ((D.1 : Int).toNat) = D.1 by omega, h4] at hi4
  simp only [show ((D.1 : Int).toNat) = D.1 by omega, runeAtI, hno] at hat
  rw [hw]
  have Hat := Lib.hid hat
  have Hi4 := Lib.hid hi4
  have HW1 := Lib.hid hW1
  clear hD h2 h4 hw hW1 hi4 hL hat hno
  have hqb : (((D.1 : Nat) : Int) == 34) = true ∨ (((D.1 : Nat) : Int) == 34) = false ∧ (((D.1 : Nat) : Int) == 39) = true := by
    rcases hq with h | h
    · exact .inl (by simp; omega)
    · exact .inr ⟨by simp; omega, by simp; omega⟩
  clear hq
  rcases hqb with hqb | ⟨hqb, hqc⟩
  all_goals
    go_enter Tryd.func20, Tryd.ntmps20
    go_wp2
    rw [HW1.out]
    refine wp_loop_rounds 1 ?_
    rw [rounds_succ]
    go_wp2_with fail
    refine hi.mono ?_
    rintro e w1 ⟨rfl, hb1⟩
    go_wp2_with fail
    refine (Hi4.out _ hb1).mono ?_
    rintro e w2 ⟨rfl, hb2⟩
    have hb12 := hb1.trans (hb2.mono hb1.size)
    go_wp2_with fail
    refine (Hat.out _).mono ?_
    rintro e w3 ⟨rfl, hb3⟩
    have hb13 := hb12.trans (hb3.mono hb12.size)
    have hk3 := hK2.below hb13
    obtain ⟨⟨c0, c1, c2, c3, c4, c5, c6⟩, ⟨f0, f1, f2, f3, f4, f5, f6⟩⟩ := cells7 hk3
    have Hk3 := Lib.hid hk3
    clear hk3
    go_wp2
    have B7 := set7 Hk3.out (.int .i64 0) (.string ⟨#[]⟩) (.int .i64 0) (.int .i64 0) (.int .i64 0) (.int .i64 0) (.int .i64 0)
    have hB7 := below7 (hB2.trans (hb13.mono (by omega))) (Nat.le_refl _) (.int .i64 0) (.string ⟨#[]⟩) (.int .i64 0) (.int .i64 0) (.int .i64 0) (.int .i64 0) (.int .i64 0)
    obtain ⟨w9, hw9⟩ : ∃ W', (((((((w3.setCell ⟨w.heap.size, 0, none⟩ (.int .i64 0)).setCell ⟨w.heap.size, 1, none⟩ (.string ⟨#[]⟩)).setCell ⟨w.heap.size, 2, none⟩ (.int .i64 0)).setCell ⟨w.heap.size, 3, none⟩ (.int .i64 0)).setCell ⟨w.heap.size, 4, none⟩ (.int .i64 0)).setCell ⟨w.heap.size, 5, none⟩ (.int .i64 0)).setCell ⟨w.heap.size, 6, none⟩ (.int .i64 0)) = W' := ⟨_, rfl⟩
    rw [hw9] at B7 hB7
    rw [hw9]
    have q := (cells7 B7).1
    exact bodyPost_ret (v := .tuple #[.agg #[.int .i64 0, .string ⟨#[]⟩, .int .i64 0, .int .i64 0, .int .i64 0, .int .i64 0, .int .i64 0], .int .i64 0, .bool false]) (by simp [results, Tryd.results20, go_sem, q.1, q.2.1, q.2.2.1, q.2.2.2.1, q.2.2.2.2.1, q.2.2.2.2.2.1, q.2.2.2.2.2.2]) rfl ⟨rfl, hB7⟩
set_option maxRecDepth 100000 in
set_option maxHeartbeats 2000000 in
/-- lexis.word, where a text in quotes stands. -/
theorem word_text (s : ByteArray) (w : World) (hV : Vars w) (hs : s.size ≤ 1000000000) (hne : 0 < s.size) (h2 : isC 2 (dec s.data.toList).1 = false) (h4 : isC 4 (dec s.data.toList).1 = false)
    (hq : (dec s.data.toList).1 = 34 ∨ (dec s.data.toList).1 = 39) (e : Nat) (hno : runeAt (dec s.data.toList).1 (s.data.toList.drop 1) = some e) :
    Calls Tryd.prog 20 #[.string s] w fun e w' => e = .returned (wordV (word s.data.toList)) ∧ Below w.heap.size w w' := by
  have hel := (runeAt_some _ (by omega) _ _ _ (Nat.le_refl _) hno).1
  rw [List.length_drop, ← Lib.size_eq] at hel
  obtain ⟨W1, W2, hW1, hnx, hV2, hK2, hB2, hz2⟩ := word_start s w hV hne
  have hi := is_any 2 (dec s.data.toList).1 W2 hV2 (by omega) (by omega) (by omega)
  have hi4 := fun W hb => is_any 4 (dec s.data.toList).1 W (hV2.below hb) (by omega) (by omega) (by omega)
  obtain ⟨L, hL⟩ : ∃ L, s.data.toList = L := ⟨_, rfl⟩
  have hat := fun W => runeAt_any (s.extract 1 s.size) (dec s.data.toList).1 W (by omega) (by rw [Lib.size_eq, extE, List.length_drop, ← Lib.size_eq]; omega)
  simp only [extE] at hat
  obtain ⟨D, hD⟩ : ∃ D, dec L = D := ⟨_, rfl⟩
  rw [hL] at hi hi4 hnx h2 h4 hq hno hat ⊢
  have hw : word L = (⟨1, (L.drop 1).take e, 0⟩, e + 2, true) := by
    unfold word; rw [if_neg (by rw [h2]; simp), if_neg (by rw [h4]; simp), if_pos hq, hno]
  rw [hD] at hi hnx h2 h4 hq hno
  simp only [hD] at hi4 hat
  rw [show ((2 : Int).toNat) = 2 from rfl, show ((D.1 : Int).toNat) = D.1 by omega, h2] at hi
  simp only [show ((4 : Int).toNat) = 4 from rfl, show ((D.1 : Int).toNat) = D.1 by omega, h4] at hi4
  simp only [show ((D.1 : Int).toNat) = D.1 by omega, runeAtI, hno] at hat
  rw [hw]
  have hslc : ∀ wx, (Instr.slice 9 (.string s) (some (.int .i64 1)) (some (.int .i64 (1 + (e : Int)))) none).run Tryd.prog wx = .ok (.string (s.extract 1 (1 + e))) wx := fun wx => by
    have := run_slice_string (P := Tryd.prog) wx 9 s .i64 .i64 1 (1 + (e : Int)) Tryd.underlying9 (by omega) (by omega) (by omega)
    rw [this, show (1 : Int).toNat = 1 from rfl, show (1 + (e : Int)).toNat = 1 + e by omega]
  have Hat := Lib.hid hat
  have Hi4 := Lib.hid hi4
  have HW1 := Lib.hid hW1
  have HL := Lib.hid hL
  clear hD h2 h4 hw hW1 hi4 hL hat hno
  have hqb : (((D.1 : Nat) : Int) == 34) = true ∨ (((D.1 : Nat) : Int) == 34) = false ∧ (((D.1 : Nat) : Int) == 39) = true := by
    rcases hq with h | h
    · exact .inl (by simp; omega)
    · exact .inr ⟨by simp; omega, by simp; omega⟩
  clear hq
  rcases hqb with hqb | ⟨hqb, hqc⟩
  all_goals
    go_enter Tryd.func20, Tryd.ntmps20
    go_wp2
    rw [HW1.out]
    refine wp_loop_rounds 1 ?_
    rw [rounds_succ]
    go_wp2_with fail
    refine hi.mono ?_
    rintro e' w1 ⟨rfl, hb1⟩
    go_wp2_with fail
    refine (Hi4.out _ hb1).mono ?_
    rintro e' w2 ⟨rfl, hb2⟩
    have hb12 := hb1.trans (hb2.mono hb1.size)
    go_wp2_with fail
    refine (Hat.out _).mono ?_
    rintro e' w3 ⟨rfl, hb3⟩
    have hb13 := hb12.trans (hb3.mono hb12.size)
    have hk3 := hK2.below hb13
    obtain ⟨⟨c0, c1, c2, c3, c4, c5, c6⟩, ⟨f0, f1, f2, f3, f4, f5, f6⟩⟩ := cells7 hk3
    have Hk3 := Lib.hid hk3
    clear hk3
    go_wp2
    have B7 := set7 Hk3.out (.int .i64 1) (.string (s.extract 1 (1 + e))) (.int .i64 0) (.int .i64 0) (.int .i64 0) (.int .i64 0) (.int .i64 0)
    have hB7 := below7 (hB2.trans (hb13.mono (by omega))) (Nat.le_refl _) (.int .i64 1) (.string (s.extract 1 (1 + e))) (.int .i64 0) (.int .i64 0) (.int .i64 0) (.int .i64 0) (.int .i64 0)
    obtain ⟨w9, hw9⟩ : ∃ W', (((((((w3.setCell ⟨w.heap.size, 0, none⟩ (.int .i64 1)).setCell ⟨w.heap.size, 1, none⟩ (.string (s.extract 1 (1 + e)))).setCell ⟨w.heap.size, 2, none⟩ (.int .i64 0)).setCell ⟨w.heap.size, 3, none⟩ (.int .i64 0)).setCell ⟨w.heap.size, 4, none⟩ (.int .i64 0)).setCell ⟨w.heap.size, 5, none⟩ (.int .i64 0)).setCell ⟨w.heap.size, 6, none⟩ (.int .i64 0)) = W' := ⟨_, rfl⟩
    rw [hw9] at B7 hB7
    rw [hw9]
    have q := (cells7 B7).1
    exact bodyPost_ret (v := .tuple #[.agg #[.int .i64 1, .string (s.extract 1 (1 + e)), .int .i64 0, .int .i64 0, .int .i64 0, .int .i64 0, .int .i64 0], .int .i64 (e + 2), .bool true]) (by simp [results, Tryd.results20, go_sem, q.1, q.2.1, q.2.2.1, q.2.2.2.1, q.2.2.2.2.1, q.2.2.2.2.2.1, q.2.2.2.2.2.2]) rfl ⟨by unfold wordV wdV; rw [Lib.extract_eq, HL.out, show 1 + e - 1 = e by omega]; simp, hB7⟩
set_option maxRecDepth 100000 in
set_option maxHeartbeats 2000000 in
/-- lexis.word, where a sign stands, or nothing that begins a word. -/
theorem word_sign (s : ByteArray) (w : World) (hV : Vars w) (_hs : s.size ≤ 1000000000) (hne : 0 < s.size) (h2 : isC 2 (dec s.data.toList).1 = false) (h4 : isC 4 (dec s.data.toList).1 = false)
    (hq : ¬ ((dec s.data.toList).1 = 34 ∨ (dec s.data.toList).1 = 39)) :
    Calls Tryd.prog 20 #[.string s] w fun e w' => e = .returned (wordV (word s.data.toList)) ∧ Below w.heap.size w w' := by
  obtain ⟨W1, W2, hW1, hnx, hV2, hK2, hB2, hz2⟩ := word_start s w hV hne
  have hi := is_any 2 (dec s.data.toList).1 W2 hV2 (by omega) (by omega) (by omega)
  have hi4 := fun W hb => is_any 4 (dec s.data.toList).1 W (hV2.below hb) (by omega) (by omega) (by omega)
  obtain ⟨L, hL⟩ : ∃ L, s.data.toList = L := ⟨_, rfl⟩
  have hat := fun W hb => sign_any s W (hV2.below hb)
  have hsl := sign_take L
  obtain ⟨D, hD⟩ : ∃ D, dec L = D := ⟨_, rfl⟩
  rw [hL] at hi hi4 hnx h2 h4 hq ⊢
  simp only [hL] at hat
  have hw : word L = (⟨3, sign L, 0⟩, (sign L).length, decide (sign L ≠ [])) := by
    unfold word; rw [if_neg (by rw [h2]; simp), if_neg (by rw [h4]; simp), if_neg hq]
  rw [hD] at hi hnx h2 h4 hq
  simp only [hD] at hi4
  rw [show ((2 : Int).toNat) = 2 from rfl, show ((D.1 : Int).toNat) = D.1 by omega, h2] at hi
  simp only [show ((4 : Int).toNat) = 4 from rfl, show ((D.1 : Int).toNat) = D.1 by omega, h4] at hi4
  obtain ⟨x, hx⟩ : ∃ x, sign L = x := ⟨_, rfl⟩
  simp only [hx] at hat
  rw [hx] at hw hsl
  have hxl : x.length ≤ s.size := by rw [Lib.size_eq, hL]; have := congrArg List.length hsl; rw [List.length_take] at this; omega
  have hxs : (⟨x.toArray⟩ : ByteArray).size = x.length := by rw [Lib.size_eq]
  rw [hw]
  have Hat := Lib.hid hat
  have Hi4 := Lib.hid hi4
  have HW1 := Lib.hid hW1
  clear hD h2 h4 hw hW1 hi4 hL hat hx hsl
  have hqb : (((D.1 : Nat) : Int) == 34) = false := by simp; omega
  have hqc : (((D.1 : Nat) : Int) == 39) = false := by simp; omega
  clear hq
  have hxe : x = [] ∨ ((⟨x.toArray⟩ : ByteArray).toList.isEmpty = false ∧ x ≠ []) := by
    cases x with
    | nil => exact .inl rfl
    | cons a t => exact .inr ⟨by rw [Lib.toList_data]; rfl, by simp⟩
  rcases hxe with rfl | ⟨hxe, hxn⟩
  · go_enter Tryd.func20, Tryd.ntmps20
    go_wp2
    rw [HW1.out]
    refine wp_loop_rounds 1 ?_
    rw [rounds_succ]
    go_wp2_with fail
    refine hi.mono ?_
    rintro e w1 ⟨rfl, hb1⟩
    go_wp2_with fail
    refine (Hi4.out _ hb1).mono ?_
    rintro e w2 ⟨rfl, hb2⟩
    have hb12 := hb1.trans (hb2.mono hb1.size)
    go_wp2_with fail
    refine (Hat.out _ hb12).mono ?_
    rintro e w3 ⟨rfl, hb3⟩
    have hb13 := hb12.trans (hb3.mono hb12.size)
    have hk3 := hK2.below hb13
    obtain ⟨⟨c0, c1, c2, c3, c4, c5, c6⟩, ⟨f0, f1, f2, f3, f4, f5, f6⟩⟩ := cells7 hk3
    have Hk3 := Lib.hid hk3
    clear hk3
    go_wp2
    have B7 := set7 Hk3.out (.int .i64 3) (.string ⟨#[]⟩) (.int .i64 0) (.int .i64 0) (.int .i64 0) (.int .i64 0) (.int .i64 0)
    have hB7 := below7 (hB2.trans (hb13.mono (by omega))) (Nat.le_refl _) (.int .i64 3) (.string ⟨#[]⟩) (.int .i64 0) (.int .i64 0) (.int .i64 0) (.int .i64 0) (.int .i64 0)
    obtain ⟨w9, hw9⟩ : ∃ W', (((((((w3.setCell ⟨w.heap.size, 0, none⟩ (.int .i64 3)).setCell ⟨w.heap.size, 1, none⟩ (.string ⟨#[]⟩)).setCell ⟨w.heap.size, 2, none⟩ (.int .i64 0)).setCell ⟨w.heap.size, 3, none⟩ (.int .i64 0)).setCell ⟨w.heap.size, 4, none⟩ (.int .i64 0)).setCell ⟨w.heap.size, 5, none⟩ (.int .i64 0)).setCell ⟨w.heap.size, 6, none⟩ (.int .i64 0)) = W' := ⟨_, rfl⟩
    rw [hw9] at B7 hB7
    rw [hw9]
    have q := (cells7 B7).1
    exact bodyPost_ret (v := .tuple #[.agg #[.int .i64 3, .string ⟨#[]⟩, .int .i64 0, .int .i64 0, .int .i64 0, .int .i64 0, .int .i64 0], .int .i64 0, .bool false]) (by simp [results, Tryd.results20, go_sem, q.1, q.2.1, q.2.2.1, q.2.2.2.1, q.2.2.2.2.1, q.2.2.2.2.2.1, q.2.2.2.2.2.2]) rfl ⟨rfl, hB7⟩
  · go_enter Tryd.func20, Tryd.ntmps20
    go_wp2
    rw [HW1.out]
    refine wp_loop_rounds 1 ?_
    rw [rounds_succ]
    go_wp2_with fail
    refine hi.mono ?_
    rintro e w1 ⟨rfl, hb1⟩
    go_wp2_with fail
    refine (Hi4.out _ hb1).mono ?_
    rintro e w2 ⟨rfl, hb2⟩
    have hb12 := hb1.trans (hb2.mono hb1.size)
    go_wp2_with fail
    refine (Hat.out _ hb12).mono ?_
    rintro e w3 ⟨rfl, hb3⟩
    have hb13 := hb12.trans (hb3.mono hb12.size)
    have hk3 := hK2.below hb13
    obtain ⟨⟨c0, c1, c2, c3, c4, c5, c6⟩, ⟨f0, f1, f2, f3, f4, f5, f6⟩⟩ := cells7 hk3
    have Hk3 := Lib.hid hk3
    clear hk3
    go_wp2
    have B7 := set7 Hk3.out (.int .i64 3) (.string ⟨x.toArray⟩) (.int .i64 0) (.int .i64 0) (.int .i64 0) (.int .i64 0) (.int .i64 0)
    have hB7 := below7 (hB2.trans (hb13.mono (by omega))) (Nat.le_refl _) (.int .i64 3) (.string ⟨x.toArray⟩) (.int .i64 0) (.int .i64 0) (.int .i64 0) (.int .i64 0) (.int .i64 0)
    obtain ⟨w9, hw9⟩ : ∃ W', (((((((w3.setCell ⟨w.heap.size, 0, none⟩ (.int .i64 3)).setCell ⟨w.heap.size, 1, none⟩ (.string ⟨x.toArray⟩)).setCell ⟨w.heap.size, 2, none⟩ (.int .i64 0)).setCell ⟨w.heap.size, 3, none⟩ (.int .i64 0)).setCell ⟨w.heap.size, 4, none⟩ (.int .i64 0)).setCell ⟨w.heap.size, 5, none⟩ (.int .i64 0)).setCell ⟨w.heap.size, 6, none⟩ (.int .i64 0)) = W' := ⟨_, rfl⟩
    rw [hw9] at B7 hB7
    rw [hw9]
    have q := (cells7 B7).1
    exact bodyPost_ret (v := .tuple #[.agg #[.int .i64 3, .string ⟨x.toArray⟩, .int .i64 0, .int .i64 0, .int .i64 0, .int .i64 0, .int .i64 0], .int .i64 x.length, .bool (!x.isEmpty)]) (by simp [results, Tryd.results20, go_sem, q.1, q.2.1, q.2.2.1, q.2.2.2.1, q.2.2.2.2.1, q.2.2.2.2.2.1, q.2.2.2.2.2.2]) rfl ⟨by unfold wordV wdV; rw [decide_eq_true hxn]; cases x with | nil => exact absurd rfl hxn | cons a t => rfl, hB7⟩

/-- lexis.word, of some bytes. -/
theorem word_any (s : ByteArray) (w : World) (hV : Vars w) (hs : s.size ≤ 1000000000) (hne : 0 < s.size) :
    Calls Tryd.prog 20 #[.string s] w fun e w' => e = .returned (wordV (word s.data.toList)) ∧ Below w.heap.size w w' := by
  cases h2 : isC 2 (dec s.data.toList).1 with
  | true => exact word_name s w hV hs hne h2
  | false =>
    cases h4 : isC 4 (dec s.data.toList).1 with
    | true =>
      by_cases hbig : 1000000 < number (s.data.toList.take (run 4 s.data.toList))
      · exact word_number_big s w hV hs hne h2 h4 hbig
      · by_cases hem : s.data.toList.drop (run 4 s.data.toList) = []
        · exact word_number_last s w hV hs hne h2 h4 hbig hem
        · cases hc : isC 2 (dec (s.data.toList.drop (run 4 s.data.toList))).1 with
          | true => exact word_number_bad s w hV hs hne h2 h4 hbig hem hc
          | false => exact word_number_good s w hV hs hne h2 h4 hbig hem hc
    | false =>
      by_cases hq : (dec s.data.toList).1 = 34 ∨ (dec s.data.toList).1 = 39
      · cases hr : runeAt (dec s.data.toList).1 (s.data.toList.drop 1) with
        | none => exact word_text_open s w hV hs hne h2 h4 hq hr
        | some e => exact word_text s w hV hs hne h2 h4 hq e hr
      · exact word_sign s w hV hs hne h2 h4 hq
end Go.Proofs.YtjmejlncomaclaaDoor.Lx
