/- gimletref10.sign, end, name, blank; gimletref07.Rest. Condition: at most 1000000000 bytes. -/
import Derived.Test.YtjmejlncomaclaaDoorLxD2
import Derived.Test.YtjmejlncomaclaaDoorLxD6
import Derived.Deep.QuietTactic
import Derived.BigQuiet
namespace Go.Proofs.YtjmejlncomaclaaDoor.Lx
open Go.RowKit

set_option maxRecDepth 100000 in
/-- gimletref10.name. -/
theorem name_any (r : Nat) (w : World) : Calls Tryd.prog 50 #[.int .i64 r] w fun e w' => e = .returned (.bool (isC 2 r)) ∧ w' = w := by
  have hS := fun W => start_any r W
  generalize isC 2 r = t at *
  go_enter Tryd.func50, Tryd.ntmps50
  go_wp2_with fail
  refine (hS _).mono ?_
  rintro e w1 ⟨rfl, rfl⟩
  go_wp2_with fail
  go_ret
  exact ⟨rfl, rfl⟩
set_option maxRecDepth 100000 in
/-- gimletref10.blank. -/
theorem blank_any (r : Nat) (w : World) : Calls Tryd.prog 28 #[.int .i64 r] w fun e w' => e = .returned (.bool (isC 1 r)) ∧ w' = w := by
  go_enter Tryd.func28, Tryd.ntmps28
  go_wp2_with fail
  all_goals
    go_ret
    refine ⟨ret_bool ?_, rfl⟩
    rw [isC1]
    try simp only [beq_iff_eq, true_iff] at *
    try omega
set_option maxRecDepth 100000 in
/-- gimletref07.Rest. -/
theorem rest_any (r : Nat) (w : World) : Calls Tryd.prog 51 #[.int .i64 r] w fun e w' => e = .returned (.bool (isC 3 r)) ∧ w' = w := by
  have hS := fun W => start_any r W
  have h3 := isC3_iff r
  rcases Bool.eq_false_or_eq_true (isC 2 r) with h2 | h2
  · have h3t : isC 3 r = true := h3.2 (.inl h2)
    rw [h2] at hS
    rw [h3t]
    clear h3 h3t h2
    go_enter Tryd.func51, Tryd.ntmps51
    go_wp2_with fail
    refine (hS _).mono ?_
    rintro e w1 ⟨rfl, rfl⟩
    go_wp2_with fail
    go_ret
    exact ⟨rfl, rfl⟩
  · rw [h2] at hS h3
    have H3 := Lib.hid h3
    clear h3 h2
    go_enter Tryd.func51, Tryd.ntmps51
    go_wp2_with fail
    refine (hS _).mono ?_
    rintro e w1 ⟨rfl, rfl⟩
    go_wp2_with fail
    all_goals
      go_ret
      refine ⟨ret_bool ?_, rfl⟩
      rw [H3.out]
      try simp only [beq_iff_eq, Bool.false_eq_true, true_iff, false_or] at *
      try omega
end Go.Proofs.YtjmejlncomaclaaDoor.Lx
