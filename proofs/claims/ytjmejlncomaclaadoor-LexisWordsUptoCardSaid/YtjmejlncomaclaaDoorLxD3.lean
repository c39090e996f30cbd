/- gimletref01.Front: how many bytes are of a character, and how many it has. Condition: at most 1000000000 bytes. -/
import Derived.Test.YtjmejlncomaclaaDoorLxD1
import Derived.Deep.LoopGhost
namespace Go.Proofs.YtjmejlncomaclaaDoor.Lx
open Go.RowKit

/-- How frontN comes to its answer, a byte at a time. -/
theorem front_round (m n b0 b1 b2 b3 k : Nat) (hn : n ≤ 4) (hk : 1 ≤ k) (_hm : 1 ≤ m) (hle : k ≤ frontN m n b0 b1 b2 b3) :
    (k < n → k < m → ∀ y, y = (if k = 1 then b1 else if k = 2 then b2 else b3) → (((k = 1 ∧ ¬ (goesLo b0 ≤ y ∧ y ≤ goesHi b0)) ∨ y < 128 ∨ 191 < y) ↔ frontN m n b0 b1 b2 b3 = k)) ∧
    (¬ (k < n ∧ k < m) → frontN m n b0 b1 b2 b3 = k ∨ n ≤ 1 ∧ k = 1) := by
  have g1 : 128 ≤ goesLo b0 := by unfold goesLo; (repeat' split) <;> omega
  have g2 : goesHi b0 ≤ 191 := by unfold goesHi; (repeat' split) <;> omega
  unfold frontN at hle ⊢
  by_cases q1 : n ≤ 1 ∨ m ≤ 1 ∨ ¬ (goesLo b0 ≤ b1 ∧ b1 ≤ goesHi b0)
  · rw [if_pos q1] at hle ⊢
    obtain rfl : k = 1 := by omega
    refine ⟨fun h1 h2 y hy => ?_, fun h => ?_⟩
    · rw [if_pos rfl] at hy; subst hy; omega
    · exact .inl rfl
  · rw [if_neg q1] at hle ⊢
    by_cases q2 : n ≤ 2 ∨ m ≤ 2 ∨ ¬ (128 ≤ b2 ∧ b2 ≤ 191)
    · rw [if_pos q2] at hle ⊢
      by_cases hk1 : k = 1
      · subst hk1
        refine ⟨fun h1 h2 y hy => ?_, fun h => ?_⟩
        · rw [if_pos rfl] at hy; subst hy; omega
        · exfalso; omega
      · obtain rfl : k = 2 := by omega
        refine ⟨fun h1 h2 y hy => ?_, fun h => .inl rfl⟩
        rw [if_neg (by omega), if_pos rfl] at hy; subst hy; omega
    · rw [if_neg q2] at hle ⊢
      by_cases q3 : n ≤ 3 ∨ m ≤ 3 ∨ ¬ (128 ≤ b3 ∧ b3 ≤ 191)
      · rw [if_pos q3] at hle ⊢
        by_cases hk1 : k = 1
        · subst hk1
          refine ⟨fun h1 h2 y hy => ?_, fun h => ?_⟩
          · rw [if_pos rfl] at hy; subst hy; omega
          · exfalso; omega
        · by_cases hk2 : k = 2
          · subst hk2
            refine ⟨fun h1 h2 y hy => ?_, fun h => ?_⟩
            · rw [if_neg (by omega), if_pos rfl] at hy; subst hy; omega
            · exfalso; omega
          · obtain rfl : k = 3 := by omega
            refine ⟨fun h1 h2 y hy => ?_, fun h => .inl rfl⟩
            rw [if_neg (by omega), if_neg (by omega)] at hy; subst hy; omega
      · rw [if_neg q3] at hle ⊢
        by_cases hk1 : k = 1
        · subst hk1
          refine ⟨fun h1 h2 y hy => ?_, fun h => ?_⟩
          · rw [if_pos rfl] at hy; subst hy; omega
          · exfalso; omega
        · by_cases hk2 : k = 2
          · subst hk2
            refine ⟨fun h1 h2 y hy => ?_, fun h => ?_⟩
            · rw [if_neg (by omega), if_pos rfl] at hy; subst hy; omega
            · exfalso; omega
          · by_cases hk3 : k = 3
            · subst hk3
              refine ⟨fun h1 h2 y hy => ?_, fun h => ?_⟩
              · rw [if_neg (by omega), if_neg (by omega)] at hy; subst hy; omega
              · exfalso; omega
            · refine ⟨fun h1 h2 y hy => ?_, fun h => ?_⟩
              · omega
              · left; omega
set_option maxRecDepth 100000 in
set_option maxHeartbeats 4000000 in
/-- gimletref01.Front. -/
theorem front_any (v : Value) (l : List UInt8) (a : Nat) (w : World) (h : RB w v l) (hn : l.length ≤ 1000000000) (ha : a ≤ 1000000000) :
    Calls Tryd.prog 47 #[v, .int .i64 a] w fun e w' => e = .returned (.tuple #[.int .i64 (front (l.drop a)).1, .int .i64 (front (l.drop a)).2]) ∧ w' = w := by
  by_cases hal : a < l.length
  · rcases h with ⟨_, rfl⟩ | ⟨b, off, cap, rfl, h2, h3, h4⟩
    · simp at hal
    · have hlen : (l.drop a).length = l.length - a := List.length_drop
      have hne := drop_ne' hal
      have hg : ∀ i, (l.drop a).getD i 0 = l.getD (a + i) 0 := fun i => getD_drop l a i
      obtain ⟨B, hB⟩ : ∃ B : Nat → Nat, ∀ i, (l.getD (a + i) 0).toNat = B i := ⟨_, fun _ => rfl⟩
      obtain ⟨n, hN⟩ : ∃ n, szOf (B 0) = n := ⟨_, rfl⟩
      have hn4 := szOf_le (B 0)
      have hS := fun W => size_any (B 0) W
      have hcell : ∀ k, k < l.length - a → w.cell? ⟨b, off + (a + k), none⟩ = some (.int .u8 (B k)) := fun k hk => by rw [← hB]; exact h4 (a + k) (by omega)
      have c0 : w.cell? ⟨b, off + a, none⟩ = some (.int .u8 (B 0)) := hcell 0 (by omega)
      rw [hN] at hS hn4
      have e0 := hB 0
      rw [Nat.add_zero] at e0
      by_cases hn0 : n = 0
      · subst hn0
        have e : front (l.drop a) = (0, 0) := by
          unfold front
          rw [hg 0, Nat.add_zero, e0, if_pos (.inr hN)]
        rw [e]
        clear h4 hcell hB hg hne hlen e0 e
        go_enter Tryd.func47, Tryd.ntmps47
        go_wp2_with fail
        refine (hS _).mono ?_
        rintro e w1 ⟨rfl, rfl⟩
        go_wp2_with fail
        go_ret2
        exact ⟨rfl, rfl⟩
      · have hF : front (l.drop a) = (frontN (l.length - a) n (B 0) (B 1) (B 2) (B 3), n) := by
          unfold front
          rw [hg 0, hg 1, hg 2, hg 3, Nat.add_zero, e0, hB, hB, hB, hN, if_neg (by simp only [not_or]; exact ⟨hne, hn0⟩), hlen]
        obtain ⟨F, hFe⟩ : ∃ F, frontN (l.length - a) n (B 0) (B 1) (B 2) (B 3) = F := ⟨_, rfl⟩
        have hFr := fun k h1 h2 => front_round (l.length - a) n (B 0) (B 1) (B 2) (B 3) k hn4 h1 (by omega) h2
        have hFl := frontN_le (l.length - a) n (B 0) (B 1) (B 2) (B 3) (by omega) (by omega)
        rw [hF, hFe]
        simp only [hFe] at hFr hFl
        have hG := fun y W => goes_any (B 0) y W
        have HFr := Lib.hid hFr
        have Hcell := Lib.hid hcell
        have hnn : ((n : Int) == 0) = false := by simp; omega
        clear hFr hF hFe h4 hN hg hne hlen hcell hB e0
        go_enter Tryd.func47, Tryd.ntmps47
        go_wp2_with fail
        refine (hS _).mono ?_
        rintro e w1 ⟨rfl, rfl⟩
        go_wp2_with fail
        go_loopw [7] (fun i wr => ∃ k : Nat, 1 ≤ k ∧ k ≤ F ∧ i = .int .i64 k ∧ wr = w1) (fun i _ => n - (intOf i).toNat)
        case atStart => exact ⟨1, by omega, by omega, rfl, rfl⟩
        case round =>
          obtain ⟨k, hk1, hkF, rfl, rfl⟩ := hrel
          obtain ⟨r1, r2⟩ := HFr.out k hk1 hkF
          by_cases hc : k < n ∧ k < l.length - a
          · have r3 := r1 hc.1 hc.2 (B k) (by
              by_cases k1 : k = 1
              · subst k1; rfl
              · rw [if_neg k1]
                by_cases k2 : k = 2
                · subst k2; rfl
                · rw [if_neg k2]
                  obtain rfl : k = 3 := by omega
                  rfl)
            clear r1 r2
            have ck := Hcell.out k hc.2
            have ws : IntKind.i64.wrap ((a : Int) + (k : Int)) = (a : Int) + (k : Int) := IntWalk.i64_in _ (by omega)
            have w1' : decide ((k : Int) < (n : Int)) = true := by simp; omega
            have w2' : decide ((a : Int) + (k : Int) < (l.length : Int)) = true := by simp; omega
            by_cases k1 : k = 1
            · subst k1
              have hk1b : (((1 : Nat) : Int) == 1) = true := rfl
              have hg := hG (B 1)
              by_cases hgb : goesLo (B 0) ≤ B 1 ∧ B 1 ≤ goesHi (B 0)
              · have : goesF (B 0) (B 1) = true := by unfold goesF; simp [hgb]
                rw [this] at hg
                go_wp2_with (go_at_call 66; refine (hg _).mono ?_; rintro e w' ⟨rfl, rfl⟩)
                all_goals
                  try simp only [true_and] at r3
                  first
                    | (have hF1 : F = 1 := by omega
                       subst hF1
                       go_ret2
                       exact ⟨rfl, rfl⟩)
                    | (go_round
                       case rel => exact ⟨2, by omega, by omega, by go_num, trivial⟩
                       case measure => simp [intOf]; omega)
              · have : goesF (B 0) (B 1) = false := by unfold goesF; rw [← Bool.not_eq_true, Bool.and_eq_true, decide_eq_true_iff, decide_eq_true_iff]; exact hgb
                rw [this] at hg
                go_wp2_with (go_at_call 66; refine (hg _).mono ?_; rintro e w' ⟨rfl, rfl⟩)
                all_goals
                  try simp only [true_and] at r3
                  first
                    | (have hF1 : F = 1 := by omega
                       subst hF1
                       go_ret2
                       exact ⟨rfl, rfl⟩)
                    | (go_round
                       case rel => exact ⟨2, by omega, by omega, by go_num, trivial⟩
                       case measure => simp [intOf]; omega)
            · have hk1b : ((k : Int) == 1) = false := by simp; omega
              go_wp2_with fail
              all_goals
                first
                  | (have hF1 : F = k := by omega
                     subst hF1
                     go_ret2
                     exact ⟨rfl, rfl⟩)
                  | (go_round
                     case rel => exact ⟨k + 1, by omega, by omega, by go_num, trivial⟩
                     case measure => simp [intOf]; omega)
          · have r3 := r2 hc
            clear r1 r2
            have hkk : F = k := by omega
            subst hkk
            have hcI : ¬ ((F : Int) < (n : Int) ∧ (a : Int) + (F : Int) < (l.length : Int)) := by omega
            have ws : IntKind.i64.wrap ((a : Int) + (F : Int)) = (a : Int) + (F : Int) := IntWalk.i64_in _ (by omega)
            by_cases hcn : F < n
            · have w1' : decide ((F : Int) < (n : Int)) = true := by simp; omega
              have w2' : decide ((a : Int) + (F : Int) < (l.length : Int)) = false := by simp; omega
              go_wp2_with fail
              go_ret2
              exact ⟨rfl, rfl⟩
            · have w1' : decide ((F : Int) < (n : Int)) = false := by simp; omega
              go_wp2_with fail
              go_ret2
              exact ⟨rfl, rfl⟩
  · have e : front (l.drop a) = (0, 0) := by rw [List.drop_eq_nil_of_le (by omega)]; rfl
    rw [e]
    obtain ⟨o, c, rfl⟩ : ∃ o c, v = .slice o l.length c := by
      rcases h with ⟨rfl, rfl⟩ | ⟨b, off, cap, rfl, _⟩
      · exact ⟨none, 0, rfl⟩
      · exact ⟨_, _, rfl⟩
    have ha2 : (l.length : Int) ≤ (a : Int) := by omega
    go_enter Tryd.func47, Tryd.ntmps47
    go_wp2_with fail
    go_ret2
    exact ⟨rfl, rfl⟩
end Go.Proofs.YtjmejlncomaclaaDoor.Lx
