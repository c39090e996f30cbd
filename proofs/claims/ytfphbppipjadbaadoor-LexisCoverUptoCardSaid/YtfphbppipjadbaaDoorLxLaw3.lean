/- gimletlaw10.LexisCover is true. Condition: the tables; at most 1000000000 bytes. -/
import Derived.Test.YtfphbppipjadbaaDoorLxLaw2
namespace Go.Proofs.YtfphbppipjadbaaDoor.Lx
open Go.RowKit

set_option maxRecDepth 100000 in
set_option maxHeartbeats 4000000 in
/-- LexisCover, where there is a fault. -/
theorem cover_err (v : Value) (q : List UInt8) (e0 : (Nat × Nat)) (w : World) (hV : Vars w) (hR : RB w v q) (hn : q.length ≤ 1000000000) (hw : words q = .error e0) :
    Calls Tryd.prog 3 #[v] w fun e w' => e = .returned (.bool true) ∧ Below w.heap.size w w' := by
  have hA := awake_any w hV
  have hW := fun W (hb : Below w.heap.size w W) => words_any v q W (hV.below hb) (RB.below hR hb) hn
  have HW := Lib.hid hW
  have Hw := Lib.hid hw
  clear hW hw hR hV
  go_enter Tryd.func3, Tryd.ntmps3
  go_wp2_with fail
  refine hA.mono ?_
  rintro e w1 ⟨rfl, hb1⟩
  go_wp2_with fail
  refine (HW.out _ hb1).mono ?_
  rintro e w2 h
  unfold WordsAns at h
  rw [Hw.out] at h
  obtain ⟨k, rfl, _, _, hb2⟩ := h
  have hb02 := hb1.trans (hb2.mono hb1.size)
  go_wp2
  go_ret
  exact ⟨rfl, hb02⟩

set_option maxRecDepth 100000 in
set_option maxHeartbeats 4000000 in
/-- LexisCover, of no bytes. -/
theorem cover_nil (w : World) (hV : Vars w) :
    Calls Tryd.prog 3 #[.slice none 0 0] w fun e w' => e = .returned (.bool true) ∧ Below w.heap.size w w' := by
  have hA := awake_any w hV
  have hW := fun W (hb : Below w.heap.size w W) => words_any (.slice none 0 0) [] W (hV.below hb) (.inl ⟨rfl, rfl⟩) (by decide)
  have hw : words [] = .ok [] := by kernel_rfl
  have HW := Lib.hid hW
  have Hw := Lib.hid hw
  clear hW hw hV
  go_enter Tryd.func3, Tryd.ntmps3
  go_wp2_with fail
  refine hA.mono ?_
  rintro e w1 ⟨rfl, hb1⟩
  go_wp2_with fail
  refine (HW.out _ hb1).mono ?_
  rintro e w2 h
  unfold WordsAns at h
  rw [Hw.out] at h
  obtain ⟨v, rfl, _, hv, hb2⟩ := h
  cases hv rfl
  have hb02 := hb1.trans (hb2.mono hb1.size)
  go_wp2_with fail
  refine wp_loop_rounds 1 ?_
  rw [rounds_succ]
  go_wp2_with fail
  refine wp_loop_rounds 1 ?_
  rw [rounds_succ]
  go_wp2
  go_ret
  exact ⟨rfl, hb02⟩

set_option maxRecDepth 100000 in
set_option maxHeartbeats 4000000 in
/-- LexisCover, where there are no words. -/
theorem cover_none (b off cap : Nat) (q : List UInt8) (w : World) (hV : Vars w) (h2 : q.length ≤ cap) (h3 : b < w.heap.size) (h4 : Cells w b off q) (hn : q.length ≤ 1000000000)
    (hw : words q = .ok []) :
    Calls Tryd.prog 3 #[.slice (some ⟨b, off, none⟩) q.length cap] w fun e w' => e = .returned (.bool true) ∧ Below w.heap.size w w' := by
  have hC : ∀ j, 0 ≤ j → j < q.length → blankB (q.getD j 0) := words_cover q [] hw
  have hA := awake_any w hV
  have hW := fun W (hb : Below w.heap.size w W) => words_any (.slice (some ⟨b, off, none⟩) q.length cap) q W (hV.below hb) (RB.below (.inr ⟨b, off, cap, rfl, h2, h3, h4⟩) hb) hn
  have HW := Lib.hid hW
  have Hw := Lib.hid hw
  have HC := Lib.hid hC
  have H4 := Lib.hid h4
  clear hW hw hC h4 hV
  go_enter Tryd.func3, Tryd.ntmps3
  go_wp2_with fail
  refine hA.mono ?_
  rintro e w1 ⟨rfl, hb1⟩
  go_wp2_with fail
  refine (HW.out _ hb1).mono ?_
  rintro e w2 h
  unfold WordsAns at h
  rw [Hw.out] at h
  obtain ⟨v, rfl, _, hv, hb2⟩ := h
  cases hv rfl
  have hb02 := hb1.trans (hb2.mono hb1.size)
  have hc2 := H4.out.below hb02
  have Hc2 := Lib.hid hc2
  clear hc2 hb1 hb2
  go_wp2_with fail
  refine wp_loop_rounds 1 ?_
  rw [rounds_succ]
  go_wp2_with fail
  go_loop [5] (fun a => ∃ j : Nat, j ≤ q.length ∧ a = .int .i64 j) (fun a => q.length - (intOf a).toNat)
  case atStart => exact ⟨0, Nat.zero_le _, rfl⟩
  case round =>
    obtain ⟨j, hjs, rfl⟩ := hrel
    by_cases hjlt : j < q.length
    · have hbj := blank_cases (HC.out j (Nat.zero_le _) hjlt)
      have hcj := Hc2.out j (by omega)
      obtain ⟨B, hB⟩ : ∃ B, (q.getD j 0).toNat = B := ⟨_, rfl⟩
      rw [hB] at hbj hcj
      clear hB
      rcases hbj with t1 | ⟨t1, t2⟩ | ⟨t1, t2, t3⟩ | ⟨t1, t2, t3, t4⟩
      all_goals
        as_aux_lemma =>
          go_wp2
          go_round
          case rel => exact ⟨j + 1, by omega, by go_num⟩
          case measure => simp [intOf]; omega
    · obtain rfl : j = q.length := by omega
      go_wp2
      go_ret
      exact ⟨rfl, hb02⟩

/-- LexisCover is true. -/
theorem cover_any (v : Value) (q : List UInt8) (w : World) (hV : Vars w) (hR : RB w v q) (hn : q.length ≤ 1000000000) :
    Calls Tryd.prog 3 #[v] w fun e w' => e = .returned (.bool true) ∧ Below w.heap.size w w' := by
  cases hw : words q with
  | error e => exact cover_err v q e w hV hR hn hw
  | ok l =>
    rcases hR with ⟨rfl, rfl⟩ | ⟨b, off, cap, rfl, h2, h3, h4⟩
    · exact cover_nil w hV
    · by_cases hl : l = []
      · subst hl; exact cover_none b off cap q w hV h2 h3 h4 hn hw
      · exact cover_some b off cap q l w hV h2 h3 h4 hn hw hl
end Go.Proofs.YtfphbppipjadbaaDoor.Lx
