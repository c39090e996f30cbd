/- The document's tables of first bytes, second bytes and characters of a name: as the plain functions say. No conditions. -/
import Derived.Test.YtjmejlncomaclaaDoorLxLaw1
import Derived.Test.YtjmejlncomaclaaDoorLxRef3
import Derived.IntWalk
namespace Go.Proofs.YtjmejlncomaclaaDoor.Lx
open Go.RowKit

set_option maxRecDepth 100000 in
/-- gimletref01.size. -/
theorem size_any (x : Nat) (w : World) : Calls Tryd.prog 65 #[.int .u8 x] w fun e w' => e = .returned (.int .i64 (szOf x)) ∧ w' = w := by
  go_enter Tryd.func65, Tryd.ntmps65
  go_wp2_with fail
  all_goals
    go_ret
    refine ⟨?_, rfl⟩
    unfold szOf
    (repeat' split) <;> first | rfl | (exfalso; omega)
def goesF (x y : Nat) : Bool := decide (goesLo x ≤ y) && decide (y ≤ goesHi x)
theorem ret_bool {a b : Bool} (h : a = true ↔ b = true) : Ending.returned (.bool a) = Ending.returned (.bool b) := by rw [Bool.eq_iff_iff.2 h]
theorem goesF_iff (x y : Nat) : goesF x y = true ↔ (x = 224 ∧ 160 ≤ y ∧ y ≤ 191) ∨ (x = 237 ∧ 128 ≤ y ∧ y ≤ 159) ∨ (x = 240 ∧ 144 ≤ y ∧ y ≤ 191) ∨ (x = 244 ∧ 128 ≤ y ∧ y ≤ 143) ∨ (x ≠ 224 ∧ x ≠ 237 ∧ x ≠ 240 ∧ x ≠ 244 ∧ 128 ≤ y ∧ y ≤ 191) := by
  unfold goesF goesLo goesHi
  rw [Bool.and_eq_true, decide_eq_true_iff, decide_eq_true_iff]
  (repeat' split) <;> omega
set_option maxRecDepth 100000 in
/-- gimletref01.goes. -/
theorem goes_any (x y : Nat) (w : World) : Calls Tryd.prog 66 #[.int .u8 x, .int .u8 y] w fun e w' => e = .returned (.bool (goesF x y)) ∧ w' = w := by
  go_enter Tryd.func66, Tryd.ntmps66
  go_wp2_with fail
  all_goals
    go_ret
    refine ⟨ret_bool ?_, rfl⟩
    rw [goesF_iff]
    simp_all
    try omega
theorem isC2_iff (r : Nat) : isC 2 r = true ↔ (65 ≤ r ∧ r ≤ 90) ∨ r = 95 ∨ (97 ≤ r ∧ r ≤ 122) ∨ (192 ≤ r ∧ r ≤ 214) ∨ (216 ≤ r ∧ r ≤ 246) ∨ (248 ≤ r ∧ r ≤ 767) ∨ (880 ≤ r ∧ r ≤ 893) ∨ (895 ≤ r ∧ r ≤ 8191) ∨ (8204 ≤ r ∧ r ≤ 8205) ∨ (8304 ≤ r ∧ r ≤ 8591) ∨ (11264 ≤ r ∧ r ≤ 12271) ∨ (12289 ≤ r ∧ r ≤ 55295) ∨ (63744 ≤ r ∧ r ≤ 64975) ∨ (65008 ≤ r ∧ r ≤ 65533) ∨ (65536 ≤ r ∧ r ≤ 983039) := by
  rw [isC_iff]
  simp only [cls, List.mem_cons, List.not_mem_nil, or_false, exists_eq_or_imp, exists_eq_left]
  omega
theorem isC3_iff (r : Nat) : isC 3 r = true ↔ isC 2 r = true ∨ r = 45 ∨ r = 46 ∨ (48 ≤ r ∧ r ≤ 57) ∨ r = 183 ∨ (768 ≤ r ∧ r ≤ 879) ∨ r = 8255 ∨ r = 8256 := by
  rw [isC2_iff, isC_iff]
  simp only [cls, List.mem_cons, List.not_mem_nil, or_false, exists_eq_or_imp, exists_eq_left]
  omega
end Go.Proofs.YtjmejlncomaclaaDoor.Lx
