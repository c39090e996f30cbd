/- gimletref07.Start and Rest: which characters begin a name, and go on in one. No conditions. -/
import Derived.Test.YtjmejlncomaclaaDoorLxD1
namespace Go.Proofs.YtjmejlncomaclaaDoor.Lx
open Go.RowKit

set_option maxRecDepth 100000 in
set_option maxHeartbeats 40000000 in
theorem start_a (r : Nat) (h0 : (r : Int) < 128) (w : World) : Calls Tryd.prog 67 #[.int .i64 r] w fun e w' => e = .returned (.bool (isC 2 r)) ∧ w' = w := by
  go_enter Tryd.func67, Tryd.ntmps67
  go_wp2_with fail
  all_goals
    go_ret
    refine ⟨ret_bool ?_, rfl⟩
    rw [isC2_iff]
    try simp only [beq_iff_eq, true_iff] at *
    try omega
set_option maxRecDepth 100000 in
set_option maxHeartbeats 40000000 in
theorem start_b (r : Nat) (h0 : 128 ≤ (r : Int)) (h1 : (r : Int) < 768) (w : World) : Calls Tryd.prog 67 #[.int .i64 r] w fun e w' => e = .returned (.bool (isC 2 r)) ∧ w' = w := by
  go_enter Tryd.func67, Tryd.ntmps67
  go_wp2_with fail
  all_goals
    go_ret
    refine ⟨ret_bool ?_, rfl⟩
    rw [isC2_iff]
    try simp only [bne_iff_ne, ne_eq, Bool.false_eq_true, false_iff] at *
    try omega
set_option maxRecDepth 100000 in
set_option maxHeartbeats 40000000 in
theorem start_c (r : Nat) (h0 : 768 ≤ (r : Int)) (h1 : (r : Int) < 8304) (w : World) : Calls Tryd.prog 67 #[.int .i64 r] w fun e w' => e = .returned (.bool (isC 2 r)) ∧ w' = w := by
  go_enter Tryd.func67, Tryd.ntmps67
  go_wp2_with fail
  all_goals
    go_ret
    refine ⟨ret_bool ?_, rfl⟩
    rw [isC2_iff]
    try simp only [beq_iff_eq, Bool.false_eq_true, true_iff, false_iff, Bool.or_eq_true] at *
    try omega
set_option maxRecDepth 100000 in
set_option maxHeartbeats 40000000 in
theorem start_d (r : Nat) (h0 : 8304 ≤ (r : Int)) (w : World) : Calls Tryd.prog 67 #[.int .i64 r] w fun e w' => e = .returned (.bool (isC 2 r)) ∧ w' = w := by
  go_enter Tryd.func67, Tryd.ntmps67
  go_wp2_with fail
  all_goals
    go_ret
    refine ⟨ret_bool ?_, rfl⟩
    rw [isC2_iff]
    try simp only [decide_eq_true_eq, beq_iff_eq, true_iff, Bool.or_eq_true] at *
    try omega

/-- gimletref07.Start. -/
theorem start_any (r : Nat) (w : World) : Calls Tryd.prog 67 #[.int .i64 r] w fun e w' => e = .returned (.bool (isC 2 r)) ∧ w' = w := by
  by_cases h0 : (r : Int) < 128
  · exact start_a r h0 w
  · by_cases h1 : (r : Int) < 768
    · exact start_b r (by omega) h1 w
    · by_cases h2 : (r : Int) < 8304
      · exact start_c r (by omega) h2 w
      · exact start_d r (by omega) w
end Go.Proofs.YtjmejlncomaclaaDoor.Lx
