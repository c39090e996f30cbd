/- gimletref10.Print writes the words with blanks between. Condition: at most 1000000000 bytes in all. -/
import Derived.Test.YtjmejlncomaclaaDoorLxPr3
namespace Go.Proofs.YtjmejlncomaclaaDoor.Lx
open Go.RowKit

theorem quote_next (s : ByteArray) (m : Nat) (h : m < s.size) : quoteOf (s.data.toList.take (m + 1)) = if ((s[m].toNat : Int) == 34) = true then 39 else quoteOf (s.data.toList.take m) := by
  have hl : m < s.data.toList.length := by rw [← Lib.size_eq]; exact h
  have e : s.data.toList[m] = s[m] := by rfl
  unfold quoteOf
  rw [List.take_succ_eq_append_getElem hl, e]
  have h34 : ((s[m].toNat : Int) == 34) = true ↔ (34 : UInt8) = s[m] := by
    rw [beq_iff_eq]
    constructor
    · intro h1; apply UInt8.toNat_inj.1; simp; omega
    · intro h1; rw [← h1]; rfl
  by_cases hm : (34 : UInt8) ∈ s.data.toList.take m
  · rw [if_pos (List.mem_append_left _ hm), if_pos hm]; split <;> rfl
  · by_cases h1 : (34 : UInt8) = s[m]
    · rw [if_pos (List.mem_append_right _ (by rw [h1]; simp)), if_pos (h34.2 h1)]
    · rw [if_neg (by rw [List.mem_append]; simp [hm, h1]), if_neg (fun h2 => h1 (h34.1 h2)), if_neg hm]
theorem bulk_len (l : List AW) : l.length ≤ bulkW l := by
  induction l with
  | nil => simp
  | cons a t ih => simp only [bulkW, List.map_cons, List.sum_cons, List.length_cons] at ih ⊢; omega

set_option maxRecDepth 100000 in
set_option maxHeartbeats 8000000 in
/-- gimletref10.Print. -/
theorem refprint_any (v : Value) (l : List AW) (w : World) (h : RW w v l) (hk : NumsOk l) (hn : bulkW l ≤ 1000000000) :
    Calls Tryd.prog 15 #[v] w fun e w' => e = .returned (.string ⟨(Lib.join (l.map prW) [32]).toArray⟩) ∧ Below w.heap.size w w' := by
  obtain ⟨o1, c1, rfl, hc1, hs1⟩ := h.shape
  have hll := bulk_len l
  have Hs1 := Lib.hid hs1
  have Hk := Lib.hid hk
  clear hs1 h hk
  go_enter Tryd.func15, Tryd.ntmps15
  go_wp2_with fail
  go_loopw [3, 4] (fun s i wr => ∃ (j : Nat) (T : ByteArray), j ≤ l.length ∧ i = .int .i64 j ∧ s = .string T ∧ T.data.toList = Lib.join ((l.take j).map prW) [32] ∧ Below w.heap.size w wr) (fun _ i _ => l.length - (intOf i).toNat)
  case atStart => exact ⟨0, ⟨#[]⟩, Nat.zero_le _, rfl, rfl, rfl, Below.refl _ _⟩
  case round =>
    obtain ⟨j, T, hj, rfl, rfl, hT, hbr⟩ := hrel
    by_cases hlt : j < l.length
    · obtain ⟨k1, off1, rfl, hk1, hcl1⟩ := Hs1.out (by omega)
      obtain ⟨a, hA⟩ : ∃ a, l[j]? = some a := ⟨_, List.getElem?_eq_getElem hlt⟩
      have f1 := fun f u hu => cell_kept hbr (hcl1 j a hA f u hu)
      have hnum := Hk.out a (List.mem_of_getElem? hA)
      have hnext := join_next l j a hA
      have hbj := bulk_join (l.take j) (fun b hb => Hk.out b (List.mem_of_mem_take hb))
      rw [← hT] at hbj hnext
      rw [← Lib.size_eq] at hbj
      have hbg := bulk_get l j a hA
      have hpl := prW_len a hnum
      unfold awCells at f1
      obtain ⟨kd, tx, nm, pb, pr, pl, pc⟩ := a
      simp only at f1 hnum hbg hpl
      have a0 : wr.cell? ⟨k1, off1 + j * 7, none⟩ = some (.int .i64 kd) := f1 0 _ rfl
      have a1 := f1 1 _ rfl
      have a2 := f1 2 _ rfl
      have a3 := f1 3 _ rfl
      have a4 := f1 4 _ rfl
      have a5 := f1 5 _ rfl
      have a6 := f1 6 _ rfl
      have hjb : decide ((0 : Int) < (j : Int)) = true ∧ 0 < j ∨ decide ((0 : Int) < (j : Int)) = false ∧ T.data.toList = [] ∧ T.size = 0 ∧ j ≤ 0 := by
        by_cases h0 : 0 < j
        · exact .inl ⟨by simpa using h0, h0⟩
        · obtain rfl : j = 0 := by omega
          have : T.data.toList = [] := by rw [hT]; rfl
          exact .inr ⟨by simp, this, by rw [Lib.size_eq, this]; rfl, Nat.le_refl _⟩
      clear f1 hcl1 hA
      by_cases h2 : kd = 2
      · subst h2
        have hN := refnum_any nm hnum.1 hnum.2
        have hp : prW ⟨2, tx, nm, pb, pr, pl, pc⟩ = Lib.itoa nm := by unfold prW prA; rw [if_pos rfl]
        rw [hp] at hnext hpl
        obtain ⟨N, hN2⟩ : ∃ N : ByteArray, ⟨(Lib.itoa nm).toArray⟩ = N := ⟨_, rfl⟩
        have hNl : N.data.toList = Lib.itoa nm := by rw [← hN2]
        rw [← hNl] at hnext hpl
        rw [← Lib.size_eq] at hpl
        rw [hN2] at hN
        clear hN2 hNl hp
        have Hnext := Lib.hid hnext
        have HT := Lib.hid hT
        clear hnext hT
        have zz : ¬ 9223372036854775807 < T.size + 1 := by omega
        have zz2 : ¬ 9223372036854775807 < T.size + 1 + N.size := by omega
        have zz3 : ¬ 9223372036854775807 < T.size + N.size := by omega
        rcases hjb with ⟨hjb, hj0⟩ | ⟨hjb, hT0, _, hj0⟩
        · go_wp2_with fail
          refine (hN _).mono ?_
          rintro e w1 ⟨rfl, hb1⟩
          go_wp2_with fail
          go_round
          case rel => exact ⟨j + 1, T ++ ⟨#[32]⟩ ++ N, by omega, by go_num, rfl, by rw [Hnext.out, if_neg (by omega)]; simp, hbr.trans (((Below.refl _ wr).alloc (Nat.le_refl _) _).trans (hb1.mono (by simp)) |>.mono hbr.size)⟩
          case measure => simp [intOf]; omega
        · have HT0 := Lib.hid hT0
          clear hT0
          go_wp2_with fail
          refine (hN _).mono ?_
          rintro e w1 ⟨rfl, hb1⟩
          go_wp2_with fail
          go_round
          case rel => exact ⟨j + 1, T ++ N, by omega, by go_num, rfl, by rw [Hnext.out, if_pos (by omega)]; simp [HT0.out], hbr.trans (((Below.refl _ wr).alloc (Nat.le_refl _) _).trans (hb1.mono (by simp)) |>.mono hbr.size)⟩
          case measure => simp [intOf]; omega
      · have hb2 : (kd == 2) = false := by simpa using h2
        by_cases h1 : kd = 1
        · subst h1
          have hp : prW ⟨1, tx, nm, pb, pr, pl, pc⟩ = quoteOf tx.data.toList :: (tx.data.toList ++ [quoteOf tx.data.toList]) := by unfold prW prA; rw [if_neg (show ¬ (1 : Int) = 2 by decide), if_pos rfl]
          rw [hp] at hnext
          have hte : tx.data.toList.take tx.size = tx.data.toList := by rw [Lib.size_eq, List.take_length]
          have Hte := Lib.hid hte
          have Hnext := Lib.hid hnext
          have HT := Lib.hid hT
          clear hnext hT hp hpl hte
          have zz : ¬ 9223372036854775807 < T.size + 1 := by omega
          have zz2 : ¬ 9223372036854775807 < 1 + tx.size := by omega
          have zz3 : ¬ 9223372036854775807 < 1 + tx.size + 1 := by omega
          have zz4 : ¬ 9223372036854775807 < T.size + 1 + (1 + tx.size + 1) := by omega
          have zz5 : ¬ 9223372036854775807 < T.size + (1 + tx.size + 1) := by omega
          rcases hjb with ⟨hjb, hj0⟩ | ⟨hjb, hT0, _, hj0⟩
          · go_wp2_with fail
            go_loopw [6, 7] (fun q k wx => ∃ m : Nat, m ≤ tx.size ∧ k = .int .i64 m ∧ q = .string ⟨#[quoteOf (tx.data.toList.take m)]⟩ ∧ wx = wr.alloc (.cells #[.int .i64 1, .string tx, .int .i64 nm, .int .i64 pb, .int .i64 pr, .int .i64 pl, .int .i64 pc] 37)) (fun _ k _ => tx.size - (intOf k).toNat)
            case atStart => exact ⟨0, Nat.zero_le _, rfl, rfl, rfl⟩
            case round =>
              obtain ⟨m, hm, rfl, rfl, rfl⟩ := hrel
              by_cases hml : m < tx.size
              · have hq := quote_next tx m hml
                have Hq := Lib.hid hq
                clear hq
                go_wp2_with fail
                all_goals
                  go_round
                  case rel => exact ⟨m + 1, by omega, by go_num, by rw [Hq.out]; simp_all, trivial⟩
                  case measure => simp [intOf]; omega
              · obtain rfl : m = tx.size := by omega
                rw [Hte.out]
                go_wp2_with fail
                go_round
                case rel => exact ⟨j + 1, T ++ ⟨#[32]⟩ ++ (⟨#[quoteOf tx.data.toList]⟩ ++ tx ++ ⟨#[quoteOf tx.data.toList]⟩), by omega, by go_num, rfl, by rw [Hnext.out, if_neg (by omega)]; simp, hbr.alloc hbr.size _⟩
                case measure => simp [intOf]; omega
          · have HT0 := Lib.hid hT0
            clear hT0
            go_wp2_with fail
            go_loopw [6, 7] (fun q k wx => ∃ m : Nat, m ≤ tx.size ∧ k = .int .i64 m ∧ q = .string ⟨#[quoteOf (tx.data.toList.take m)]⟩ ∧ wx = wr.alloc (.cells #[.int .i64 1, .string tx, .int .i64 nm, .int .i64 pb, .int .i64 pr, .int .i64 pl, .int .i64 pc] 37)) (fun _ k _ => tx.size - (intOf k).toNat)
            case atStart => exact ⟨0, Nat.zero_le _, rfl, rfl, rfl⟩
            case round =>
              obtain ⟨m, hm, rfl, rfl, rfl⟩ := hrel
              by_cases hml : m < tx.size
              · have hq := quote_next tx m hml
                have Hq := Lib.hid hq
                clear hq
                go_wp2_with fail
                all_goals
                  go_round
                  case rel => exact ⟨m + 1, by omega, by go_num, by rw [Hq.out]; simp_all, trivial⟩
                  case measure => simp [intOf]; omega
              · obtain rfl : m = tx.size := by omega
                rw [Hte.out]
                go_wp2_with fail
                go_round
                case rel => exact ⟨j + 1, T ++ (⟨#[quoteOf tx.data.toList]⟩ ++ tx ++ ⟨#[quoteOf tx.data.toList]⟩), by omega, by go_num, rfl, by rw [Hnext.out, if_pos (by omega)]; simp [HT0.out], hbr.alloc hbr.size _⟩
                case measure => simp [intOf]; omega
        · have hb1 : (kd == 1) = false := by simpa using h1
          have hp : prW ⟨kd, tx, nm, pb, pr, pl, pc⟩ = tx.data.toList := by unfold prW prA; rw [if_neg h2, if_neg h1]
          rw [hp] at hnext
          have Hnext := Lib.hid hnext
          have HT := Lib.hid hT
          clear hnext hT hp hpl
          have zz : ¬ 9223372036854775807 < T.size + 1 := by omega
          have zz2 : ¬ 9223372036854775807 < T.size + 1 + tx.size := by omega
          have zz3 : ¬ 9223372036854775807 < T.size + tx.size := by omega
          rcases hjb with ⟨hjb, hj0⟩ | ⟨hjb, hT0, _, hj0⟩
          · go_wp2_with fail
            go_round
            case rel => exact ⟨j + 1, T ++ ⟨#[32]⟩ ++ tx, by omega, by go_num, rfl, by rw [Hnext.out, if_neg (by omega)]; simp, hbr.alloc hbr.size _⟩
            case measure => simp [intOf]; omega
          · have HT0 := Lib.hid hT0
            clear hT0
            go_wp2_with fail
            go_round
            case rel => exact ⟨j + 1, T ++ tx, by omega, by go_num, rfl, by rw [Hnext.out, if_pos (by omega)]; simp [HT0.out], hbr.alloc hbr.size _⟩
            case measure => simp [intOf]; omega
    · obtain rfl : j = l.length := by omega
      rw [List.take_length] at hT
      have e : (⟨(Lib.join (l.map prW) [32]).toArray⟩ : ByteArray) = T := by rw [← hT, Lib.mk_data]
      have He := Lib.hid e
      clear e hT
      go_wp2_with fail
      go_ret
      exact ⟨by rw [He.out]; rfl, hbr⟩
end Go.Proofs.YtjmejlncomaclaaDoor.Lx
